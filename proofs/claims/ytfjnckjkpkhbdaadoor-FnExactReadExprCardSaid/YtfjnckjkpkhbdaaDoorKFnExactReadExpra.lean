/- PRINTED BY A PROGRAM OF THIS CLAIM'S AUTHOR (wip/gen): functions of the given program, their parts, their contracts. -/
import Derived.Test.YtfjnckjkpkhbdaaDoorB34
import Derived.Test.YtfjnckjkpkhbdaaDoorB42
import Derived.Test.YtfjnckjkpkhbdaaDoorChecked
import Derived.Test.YtfjnckjkpkhbdaaDoorLFnExactReadExpr
set_option linter.unusedVariables false
set_option linter.unusedSimpArgs false
set_option maxRecDepth 100000
namespace Go.Proofs.YtfjnckjkpkhbdaaDoorB
open Go
def tab : Tab := [(3, { kind := .scalar, zero := [.d (.int .i64) (0 : Int)], bytes := 8, data := some (.int .i64), eqf := none }),
  (4, { kind := .scalar, zero := [.d .bool false], bytes := 1, data := some .bool, eqf := none }),
  (5, { kind := .scalar, zero := [.d (.int .u8) (0 : Int)], bytes := 1, data := some (.int .u8), eqf := none }),
  (9, { kind := .scalar, zero := [.d .str ([] : List UInt8)], bytes := 16, data := some .str, eqf := none }),
  (22, { kind := .slice 9, zero := [.nilS], bytes := 24, data := some (.sl .str), eqf := none }),
  (24, { kind := .slice 40, zero := [.nilS], bytes := 24, data := some (.sl (.prod (.int .i64) (.prod (.int .i64) (.prod (.int .i64) (.last (.int .i64)))))), eqf := none }),
  (34, { kind := .struct [(0, 1), (1, 1), (2, 1), (3, 1), (4, 1)], zero := [.d .str ([] : List UInt8), .d (.int .i64) (0 : Int), .nilS, .nilS, .d .bool false], bytes := 80, data := some (.prod .str (.prod (.int .i64) (.prod (.sl .str) (.prod (.sl (.prod (.int .i64) (.prod (.int .i64) (.prod (.int .i64) (.last (.int .i64)))))) (.last .bool))))), eqf := none }),
  (40, { kind := .struct [(0, 1), (1, 1), (2, 1), (3, 1)], zero := [.d (.int .i64) (0 : Int), .d (.int .i64) (0 : Int), .d (.int .i64) (0 : Int), .d (.int .i64) (0 : Int)], bytes := 32, data := some (.prod (.int .i64) (.prod (.int .i64) (.prod (.int .i64) (.last (.int .i64))))), eqf := some [(.int .i64), (.int .i64), (.int .i64), (.int .i64)] }),
  (48, { kind := .slice 3, zero := [.nilS], bytes := 24, data := some (.sl (.int .i64)), eqf := none }),
  (52, { kind := .struct [(0, 1), (1, 1), (2, 1), (3, 1)], zero := [.nilS, .d .str ([] : List UInt8), .d (.int .i64) (0 : Int), .nilS], bytes := 72, data := some (.prod (.sl .str) (.prod .str (.prod (.int .i64) (.last (.sl (.prod (.int .i64) (.prod (.int .i64) (.prod (.int .i64) (.last (.int .i64)))))))))), eqf := none }),
  (55, { kind := .slice 5, zero := [.nilS], bytes := 24, data := some (.sl (.int .u8)), eqf := none }),
  (63, { kind := .map (.int .u8) (.int .i64), zero := [.undef], bytes := 8, data := none, eqf := none }),
  (67, { kind := .iface, zero := [.nilif], bytes := 16, data := none, eqf := none })]
theorem tabGood : tabB Tryd.prog tab = true := by kernel_rfl

/-! ### loop.example/wholecheck/laws.szStringS -/
namespace laws_szStringS
noncomputable abbrev c0 : Code := (Tryd.f4.body).getD .skip
noncomputable abbrev pin : Tpl := ⟨[⟨0, false, [.d (.sl .str)]⟩, ⟨1, false, [.d (.int .i64)]⟩], []⟩
noncomputable abbrev pout : Tpl := ⟨[⟨0, false, [.d (.int .i64)]⟩], []⟩
noncomputable abbrev p5 : Tpl := ⟨[⟨0, false, [.d (.sl .str)]⟩, ⟨1, false, [.d (.int .i64)]⟩, ⟨5, false, [.d (.int .i64)]⟩], []⟩
noncomputable def T5 : List Item := (find 5 c0 []).getD []
noncomputable abbrev PI := (List (List UInt8)) × Int × Unit
noncomputable abbrev PO := Int × Unit
noncomputable abbrev P5 := (List (List UInt8)) × Int × Int × Unit
noncomputable abbrev rs : List ResultVar := [.tmp 4]
noncomputable def F0 (J5 : P5 → Option PO) (x0 : List (List UInt8)) (x1 : Int) : Option PO :=
  bif decide (wI (x1 - (x0.length : Int)) < 0) then
    some ((-1), ())
  else
    J5 (x0, wI (x1 - (x0.length : Int)), 0, ())
noncomputable def F5 (J5 : P5 → Option PO) (t0 : List (List UInt8)) (t1 : Int) (t5 : Int) : Option PO :=
  bif decide (t5 < (t0.length : Int)) then
    bif inb t5 t0.length then
      bif decide (wI (t1 - ((t0.getD t5.toNat []).length : Int)) < 0) then
        some ((-1), ())
      else
        J5 (t0, wI (t1 - ((t0.getD t5.toNat []).length : Int)), wI (t5 + 1), ())
    else
      none
  else
    some (t1, ())
noncomputable def hd {R : Type} : Hand R := handNil
noncomputable def pg (J5 : List Item → P5 → Option PO) : Prog PO := { nt := 28, np := 1, tb := tabOf tab, hd := hd, cuts := cutsOf [(5, cut p5 J5)], fin := endOf (tabOf tab) rs 1 pout }
noncomputable def q : FuncId → Bool := fun f => hasId [] f
theorem seg0 (J5 : List Item → P5 → Option PO) (x0 : List (List UInt8)) (x1 : Int) : arun (pg J5) 5000 [.code c0] (mk pin (x0, x1, ())) = F0 (J5 T5) x0 x1 := by kernel_rfl
theorem seg5 (J5 : List Item → P5 → Option PO) (t0 : List (List UInt8)) (t1 : Int) (t5 : Int) : arun1 (pg J5) 5000 T5 (mk p5 (t0, t1, t5, ())) = F5 (J5 T5) t0 t1 t5 := by kernel_rfl
noncomputable def L5 : P5 → Option PO := lfp fun J5 x => F5 J5 x.1 x.2.1 x.2.2.1
noncomputable def impl : PI → Option PO := fun x => F0 L5 x.1 x.2.1
theorem F5_le {J5 J5' : P5 → Option PO} (h5 : OLe J5 J5') (t0 : List (List UInt8)) (t1 : Int) (t5 : Int) : OptLe (F5 J5 t0 t1 t5) (F5 J5' t0 t1 t5) := by unfold F5; exact .cond (.cond (.cond (.refl _) (.of h5 _)) (.refl _)) (.refl _)
theorem L5_mono : OMono fun J5 (x : P5) => F5 J5 x.1 x.2.1 x.2.2.1 := fun J J' h5 x => F5_le h5 x.1 x.2.1 x.2.2.1
theorem L5_eq (t0 : List (List UInt8)) (t1 : Int) (t5 : Int) : L5 (t0, t1, t5, ()) = F5 (L5) t0 t1 t5 := congrFun (lfp_eq (L5_mono)) _
theorem impl_eq (x0 : List (List UInt8)) (x1 : Int) : impl (x0, x1, ()) = F0 L5 x0 x1 := rfl
theorem con : Con Tryd.prog 4 2 rs.length 1 pin pout impl := by
  refine con_of_run' (nt := 28) (c := c0) tabGood Tryd.func4 (by kernel_rfl) (by kernel_rfl) (by kernel_rfl) (by kernel_rfl) (by kernel_rfl) (by kernel_rfl) (by kernel_rfl) ?_
  intro w0 O y hnp
  generalize hPost : (fun (a' : Act) (w' : World) => ∃ μ' S' st', Rel 28 w0 O μ' S' st' a' w' ∧ endOf (tabOf tab) rs 1 pout st' = some y) = Post
  have fin : ∀ (μ : Id → Option Value) (S : Nat → Prop) (st : St) (a : Act) (w : World), Rel 28 w0 O μ S st a w → endOf (tabOf tab) rs 1 pout st = some y → Post a w := fun μ S st a w h he => by rw [← hPost]; exact ⟨μ, S, st, h, he⟩
  have hp : ∀ (J5 : List Item → P5 → Option PO), Parts Tryd.prog 4 (pg J5) [(5, cut p5 J5)] := fun J5 => ⟨tab_ok tabGood rfl, handNil_ok, rfl⟩
  have g5 : Good Tryd.prog 28 w0 O Post y T5 p5 L5 := good_lfp fun J5 h5 => good_part (hp (atT T5 J5)) (runOK_of (hp (atT T5 J5)) hnp ⟨cutOK_at h5, trivial⟩ fin) (fun x => (seg5 (atT T5 J5) x.1 x.2.1 x.2.2.1).trans (by simp only [atT_self] <;> rfl))
  exact good_first (hp (atT T5 L5)) (runOK_of (hp (atT T5 L5)) hnp ⟨cutOK_at g5, trivial⟩ fin) (fun x => (seg0 (atT T5 L5) x.1 x.2.1).trans (by simp only [atT_self] <;> rfl))
end laws_szStringS

/-! ### loop.example/wholecheck/laws.toStringS -/
namespace laws_toStringS
noncomputable abbrev c0 : Code := (Tryd.f6.body).getD .skip
noncomputable abbrev pin : Tpl := ⟨[⟨0, false, [.d (.sl .str)]⟩], []⟩
noncomputable abbrev pout : Tpl := ⟨[⟨0, false, [.row 600001]⟩], [(600001, .row 9 false .str)]⟩
noncomputable abbrev p3 : Tpl := ⟨[⟨0, false, [.d (.sl .str)]⟩, ⟨3, false, [.row 3000000]⟩, ⟨4, false, [.d (.int .i64)]⟩], [(3000000, .row 9 false .str)]⟩
noncomputable def T3 : List Item := (find 3 c0 []).getD []
noncomputable abbrev PI := (List (List UInt8)) × Unit
noncomputable abbrev PO := (List (List UInt8)) × Unit
noncomputable abbrev P3 := (List (List UInt8)) × Int × (List (List UInt8)) × Unit
noncomputable abbrev rs : List ResultVar := [.tmp 2]
noncomputable def F0 (J3 : P3 → Option PO) (x0 : List (List UInt8)) : Option PO :=
  bif decide (0 ≤ (x0.length : Int)) && decide ((x0.length : Int) ≤ (x0.length : Int)) && decide ((x0.length : Int) * 16 ≤ 140737488355328) then
    J3 (x0, 0, (List.replicate (x0.length : Int).toNat [] : List (List UInt8)), ())
  else
    none
noncomputable def F3 (J3 : P3 → Option PO) (t0 : List (List UInt8)) (t4 : Int) (r0 : List (List UInt8)) : Option PO :=
  bif decide (t4 < (t0.length : Int)) then
    bif inb t4 t0.length then
      bif inb t4 r0.length then
        J3 (t0, wI (t4 + 1), r0.set t4.toNat (t0.getD t4.toNat []), ())
      else
        none
    else
      none
  else
    some (r0, ())
noncomputable def hd {R : Type} : Hand R := handNil
noncomputable def pg (J3 : List Item → P3 → Option PO) : Prog PO := { nt := 22, np := 1, tb := tabOf tab, hd := hd, cuts := cutsOf [(3, cut p3 J3)], fin := endOf (tabOf tab) rs 1 pout }
noncomputable def q : FuncId → Bool := fun f => hasId [] f
theorem seg0 (J3 : List Item → P3 → Option PO) (x0 : List (List UInt8)) : arun (pg J3) 5000 [.code c0] (mk pin (x0, ())) = F0 (J3 T3) x0 := by kernel_rfl
theorem seg3 (J3 : List Item → P3 → Option PO) (t0 : List (List UInt8)) (t4 : Int) (r0 : List (List UInt8)) : arun1 (pg J3) 5000 T3 (mk p3 (t0, t4, r0, ())) = F3 (J3 T3) t0 t4 r0 := by kernel_rfl
noncomputable def L3 : P3 → Option PO := lfp fun J3 x => F3 J3 x.1 x.2.1 x.2.2.1
noncomputable def impl : PI → Option PO := fun x => F0 L3 x.1
theorem F3_le {J3 J3' : P3 → Option PO} (h3 : OLe J3 J3') (t0 : List (List UInt8)) (t4 : Int) (r0 : List (List UInt8)) : OptLe (F3 J3 t0 t4 r0) (F3 J3' t0 t4 r0) := by unfold F3; exact .cond (.cond (.cond (.of h3 _) (.refl _)) (.refl _)) (.refl _)
theorem L3_mono : OMono fun J3 (x : P3) => F3 J3 x.1 x.2.1 x.2.2.1 := fun J J' h3 x => F3_le h3 x.1 x.2.1 x.2.2.1
theorem L3_eq (t0 : List (List UInt8)) (t4 : Int) (r0 : List (List UInt8)) : L3 (t0, t4, r0, ()) = F3 (L3) t0 t4 r0 := congrFun (lfp_eq (L3_mono)) _
theorem impl_eq (x0 : List (List UInt8)) : impl (x0, ()) = F0 L3 x0 := rfl
theorem con : Con Tryd.prog 6 1 rs.length 1 pin pout impl := by
  refine con_of_run' (nt := 22) (c := c0) tabGood Tryd.func6 (by kernel_rfl) (by kernel_rfl) (by kernel_rfl) (by kernel_rfl) (by kernel_rfl) (by kernel_rfl) (by kernel_rfl) ?_
  intro w0 O y hnp
  generalize hPost : (fun (a' : Act) (w' : World) => ∃ μ' S' st', Rel 22 w0 O μ' S' st' a' w' ∧ endOf (tabOf tab) rs 1 pout st' = some y) = Post
  have fin : ∀ (μ : Id → Option Value) (S : Nat → Prop) (st : St) (a : Act) (w : World), Rel 22 w0 O μ S st a w → endOf (tabOf tab) rs 1 pout st = some y → Post a w := fun μ S st a w h he => by rw [← hPost]; exact ⟨μ, S, st, h, he⟩
  have hp : ∀ (J3 : List Item → P3 → Option PO), Parts Tryd.prog 6 (pg J3) [(3, cut p3 J3)] := fun J3 => ⟨tab_ok tabGood rfl, handNil_ok, rfl⟩
  have g3 : Good Tryd.prog 22 w0 O Post y T3 p3 L3 := good_lfp fun J3 h3 => good_part (hp (atT T3 J3)) (runOK_of (hp (atT T3 J3)) hnp ⟨cutOK_at h3, trivial⟩ fin) (fun x => (seg3 (atT T3 J3) x.1 x.2.1 x.2.2.1).trans (by simp only [atT_self] <;> rfl))
  exact good_first (hp (atT T3 L3)) (runOK_of (hp (atT T3 L3)) hnp ⟨cutOK_at g3, trivial⟩ fin) (fun x => (seg0 (atT T3 L3) x.1).trans (by simp only [atT_self] <;> rfl))
end laws_toStringS

/-! ### loop.example/wholecheck/spec.l1In -/
namespace spec_l1In
noncomputable abbrev c0 : Code := (Tryd.f30.body).getD .skip
noncomputable abbrev pin : Tpl := ⟨[⟨0, false, [.d (.int .i64)]⟩, ⟨1, false, [.d (.int .i64)]⟩, ⟨2, false, [.d (.int .i64)]⟩], []⟩
noncomputable abbrev pout : Tpl := ⟨[⟨0, false, [.d .bool]⟩], []⟩
noncomputable abbrev PI := Int × Int × Int × Unit
noncomputable abbrev PO := Bool × Unit
noncomputable abbrev rs : List ResultVar := [.tmp 6]
noncomputable def F0 (x0 : Int) (x1 : Int) (x2 : Int) : Option PO :=
  bif decide (x0 ≥ x1) then
    some (decide (x0 ≤ x2), ())
  else
    some (false, ())
noncomputable def hd {R : Type} : Hand R := handNil
noncomputable def pg : Prog PO := { nt := 15, np := 3, tb := tabOf tab, hd := hd, cuts := cutsOf [], fin := endOf (tabOf tab) rs 3 pout }
noncomputable def q : FuncId → Bool := fun f => hasId [] f
theorem seg0 (x0 : Int) (x1 : Int) (x2 : Int) : arun (pg) 5000 [.code c0] (mk pin (x0, x1, x2, ())) = F0 x0 x1 x2 := by kernel_rfl
noncomputable def impl : PI → Option PO := fun x => F0 x.1 x.2.1 x.2.2.1
theorem impl_eq (x0 : Int) (x1 : Int) (x2 : Int) : impl (x0, x1, x2, ()) = F0 x0 x1 x2 := rfl
theorem con : Con Tryd.prog 30 3 rs.length 3 pin pout impl := by
  refine con_of_run' (nt := 15) (c := c0) tabGood Tryd.func30 (by kernel_rfl) (by kernel_rfl) (by kernel_rfl) (by kernel_rfl) (by kernel_rfl) (by kernel_rfl) (by kernel_rfl) ?_
  intro w0 O y hnp
  generalize hPost : (fun (a' : Act) (w' : World) => ∃ μ' S' st', Rel 15 w0 O μ' S' st' a' w' ∧ endOf (tabOf tab) rs 3 pout st' = some y) = Post
  have fin : ∀ (μ : Id → Option Value) (S : Nat → Prop) (st : St) (a : Act) (w : World), Rel 15 w0 O μ S st a w → endOf (tabOf tab) rs 3 pout st = some y → Post a w := fun μ S st a w h he => by rw [← hPost]; exact ⟨μ, S, st, h, he⟩
  have hp : Parts Tryd.prog 30 (pg) [] := ⟨tab_ok tabGood rfl, handNil_ok, rfl⟩
  exact good_first (hp) (runOK_of (hp) hnp trivial fin) (fun x => (seg0 x.1 x.2.1 x.2.2.1))
end spec_l1In

/-! ### loop.example/wholecheck/spec.l30Name -/
namespace spec_l30Name
noncomputable abbrev c0 : Code := (Tryd.f19.body).getD .skip
noncomputable abbrev pin : Tpl := ⟨[⟨0, false, [.d .str]⟩], []⟩
noncomputable abbrev pout : Tpl := ⟨[⟨0, false, [.d .bool]⟩], []⟩
noncomputable abbrev p2 : Tpl := ⟨[⟨0, false, [.d .str]⟩, ⟨3, false, [.d (.int .i64)]⟩], []⟩
noncomputable def T2 : List Item := (find 2 c0 []).getD []
noncomputable abbrev PI := (List UInt8) × Unit
noncomputable abbrev PO := Bool × Unit
noncomputable abbrev P2 := (List UInt8) × Int × Unit
noncomputable abbrev rs : List ResultVar := [.tmp 2]
noncomputable def F0 (J2 : P2 → Option PO) (x0 : List UInt8) : Option PO :=
  J2 (x0, 0, ())
noncomputable def F2 (J2 : P2 → Option PO) (Gspec_l1In : spec_l1In.PI → Option spec_l1In.PO) (t0 : List UInt8) (t3 : Int) : Option PO :=
  bif decide (t3 < (t0.length : Int)) then
    bif inb t3 t0.length then
      bif decide (((t0.getD t3.toNat 0).toNat : Int) < 97) then
        some (false, ())
      else
        bif inb t3 t0.length then
          bif decide (((t0.getD t3.toNat 0).toNat : Int) > 122) then
            some (false, ())
          else
            J2 (t0, wI (t3 + 1), ())
        else
          none
    else
      none
  else
    Option.bind (Gspec_l1In ((t0.length : Int), 1, 8, ())) fun y0 =>
    some (y0.1, ())
noncomputable def hd {R : Type} (Gspec_l1In : spec_l1In.PI → Option spec_l1In.PO) : Hand R := (handAt 30 [22] true ⟨3, 1, 3, spec_l1In.pin, spec_l1In.pout, Gspec_l1In⟩ handNil)
noncomputable def pg (Gspec_l1In : spec_l1In.PI → Option spec_l1In.PO) (J2 : List Item → P2 → Option PO) : Prog PO := { nt := 23, np := 1, tb := tabOf tab, hd := hd Gspec_l1In, cuts := cutsOf [(2, cut p2 J2)], fin := endOf (tabOf tab) rs 1 pout }
noncomputable def q : FuncId → Bool := fun f => hasId [30] f
theorem seg0 (Gspec_l1In : spec_l1In.PI → Option spec_l1In.PO) (J2 : List Item → P2 → Option PO) (x0 : List UInt8) : arun (pg Gspec_l1In J2) 5000 [.code c0] (mk pin (x0, ())) = F0 (J2 T2) x0 := by kernel_rfl
theorem seg2 (Gspec_l1In : spec_l1In.PI → Option spec_l1In.PO) (J2 : List Item → P2 → Option PO) (t0 : List UInt8) (t3 : Int) : arun1 (pg Gspec_l1In J2) 5000 T2 (mk p2 (t0, t3, ())) = F2 (J2 T2) Gspec_l1In t0 t3 := by kernel_rfl
noncomputable def L2 : P2 → Option PO := lfp fun J2 x => F2 J2 spec_l1In.impl x.1 x.2.1
noncomputable def impl : PI → Option PO := fun x => F0 L2 x.1
theorem F2_le {J2 J2' : P2 → Option PO} (h2 : OLe J2 J2') {Gspec_l1In : spec_l1In.PI → Option spec_l1In.PO} (t0 : List UInt8) (t3 : Int) : OptLe (F2 J2 Gspec_l1In t0 t3) (F2 J2' Gspec_l1In t0 t3) := by unfold F2; exact .cond (.cond (.cond (.refl _) (.cond (.cond (.refl _) (.of h2 _)) (.refl _))) (.refl _)) (.refl _)
theorem L2_mono : OMono fun J2 (x : P2) => F2 J2 spec_l1In.impl x.1 x.2.1 := fun J J' h2 x => F2_le h2 x.1 x.2.1
theorem L2_eq (t0 : List UInt8) (t3 : Int) : L2 (t0, t3, ()) = F2 (L2) spec_l1In.impl t0 t3 := congrFun (lfp_eq (L2_mono)) _
theorem impl_eq (x0 : List UInt8) : impl (x0, ()) = F0 L2 x0 := rfl
theorem con : Con Tryd.prog 19 1 rs.length 1 pin pout impl := by
  refine con_of_run' (nt := 23) (c := c0) tabGood Tryd.func19 (by kernel_rfl) (by kernel_rfl) (by kernel_rfl) (by kernel_rfl) (by kernel_rfl) (by kernel_rfl) (by kernel_rfl) ?_
  intro w0 O y hnp
  generalize hPost : (fun (a' : Act) (w' : World) => ∃ μ' S' st', Rel 23 w0 O μ' S' st' a' w' ∧ endOf (tabOf tab) rs 1 pout st' = some y) = Post
  have fin : ∀ (μ : Id → Option Value) (S : Nat → Prop) (st : St) (a : Act) (w : World), Rel 23 w0 O μ S st a w → endOf (tabOf tab) rs 1 pout st = some y → Post a w := fun μ S st a w h he => by rw [← hPost]; exact ⟨μ, S, st, h, he⟩
  have hp : ∀ (J2 : List Item → P2 → Option PO), Parts Tryd.prog 19 (pg spec_l1In.impl J2) [(2, cut p2 J2)] := fun J2 => ⟨tab_ok tabGood rfl, (handAt_ok spec_l1In.con handNil_ok), rfl⟩
  have g2 : Good Tryd.prog 23 w0 O Post y T2 p2 L2 := good_lfp fun J2 h2 => good_part (hp (atT T2 J2)) (runOK_of (hp (atT T2 J2)) hnp ⟨cutOK_at h2, trivial⟩ fin) (fun x => (seg2 spec_l1In.impl (atT T2 J2) x.1 x.2.1).trans (by simp only [atT_self] <;> rfl))
  exact good_first (hp (atT T2 L2)) (runOK_of (hp (atT T2 L2)) hnp ⟨cutOK_at g2, trivial⟩ fin) (fun x => (seg0 spec_l1In.impl (atT T2 L2) x.1).trans (by simp only [atT_self] <;> rfl))
end spec_l30Name

/-! ### loop.example/wholecheck/spec.l30At -/
namespace spec_l30At
noncomputable abbrev c0 : Code := (Tryd.f20.body).getD .skip
noncomputable abbrev pin : Tpl := ⟨[⟨0, false, [.d (.sl .str)]⟩, ⟨1, false, [.d .str]⟩], []⟩
noncomputable abbrev pout : Tpl := ⟨[⟨0, false, [.d (.int .i64)]⟩], []⟩
noncomputable abbrev p2 : Tpl := ⟨[⟨0, false, [.d (.sl .str)]⟩, ⟨1, false, [.d .str]⟩, ⟨5, false, [.d (.int .i64)]⟩], []⟩
noncomputable def T2 : List Item := (find 2 c0 []).getD []
noncomputable abbrev PI := (List (List UInt8)) × (List UInt8) × Unit
noncomputable abbrev PO := Int × Unit
noncomputable abbrev P2 := (List (List UInt8)) × (List UInt8) × Int × Unit
noncomputable abbrev rs : List ResultVar := [.tmp 4]
noncomputable def F0 (J2 : P2 → Option PO) (x0 : List (List UInt8)) (x1 : List UInt8) : Option PO :=
  J2 (x0, x1, 0, ())
noncomputable def F2 (J2 : P2 → Option PO) (t0 : List (List UInt8)) (t1 : List UInt8) (t5 : Int) : Option PO :=
  bif decide (t5 < (t0.length : Int)) then
    bif inb t5 t0.length then
      bif (t0.getD t5.toNat []) == t1 then
        some (t5, ())
      else
        J2 (t0, t1, wI (t5 + 1), ())
    else
      none
  else
    some ((-1), ())
noncomputable def hd {R : Type} : Hand R := handNil
noncomputable def pg (J2 : List Item → P2 → Option PO) : Prog PO := { nt := 19, np := 2, tb := tabOf tab, hd := hd, cuts := cutsOf [(2, cut p2 J2)], fin := endOf (tabOf tab) rs 2 pout }
noncomputable def q : FuncId → Bool := fun f => hasId [] f
theorem seg0 (J2 : List Item → P2 → Option PO) (x0 : List (List UInt8)) (x1 : List UInt8) : arun (pg J2) 5000 [.code c0] (mk pin (x0, x1, ())) = F0 (J2 T2) x0 x1 := by kernel_rfl
theorem seg2 (J2 : List Item → P2 → Option PO) (t0 : List (List UInt8)) (t1 : List UInt8) (t5 : Int) : arun1 (pg J2) 5000 T2 (mk p2 (t0, t1, t5, ())) = F2 (J2 T2) t0 t1 t5 := by kernel_rfl
noncomputable def L2 : P2 → Option PO := lfp fun J2 x => F2 J2 x.1 x.2.1 x.2.2.1
noncomputable def impl : PI → Option PO := fun x => F0 L2 x.1 x.2.1
theorem F2_le {J2 J2' : P2 → Option PO} (h2 : OLe J2 J2') (t0 : List (List UInt8)) (t1 : List UInt8) (t5 : Int) : OptLe (F2 J2 t0 t1 t5) (F2 J2' t0 t1 t5) := by unfold F2; exact .cond (.cond (.cond (.refl _) (.of h2 _)) (.refl _)) (.refl _)
theorem L2_mono : OMono fun J2 (x : P2) => F2 J2 x.1 x.2.1 x.2.2.1 := fun J J' h2 x => F2_le h2 x.1 x.2.1 x.2.2.1
theorem L2_eq (t0 : List (List UInt8)) (t1 : List UInt8) (t5 : Int) : L2 (t0, t1, t5, ()) = F2 (L2) t0 t1 t5 := congrFun (lfp_eq (L2_mono)) _
theorem impl_eq (x0 : List (List UInt8)) (x1 : List UInt8) : impl (x0, x1, ()) = F0 L2 x0 x1 := rfl
theorem con : Con Tryd.prog 20 2 rs.length 2 pin pout impl := by
  refine con_of_run' (nt := 19) (c := c0) tabGood Tryd.func20 (by kernel_rfl) (by kernel_rfl) (by kernel_rfl) (by kernel_rfl) (by kernel_rfl) (by kernel_rfl) (by kernel_rfl) ?_
  intro w0 O y hnp
  generalize hPost : (fun (a' : Act) (w' : World) => ∃ μ' S' st', Rel 19 w0 O μ' S' st' a' w' ∧ endOf (tabOf tab) rs 2 pout st' = some y) = Post
  have fin : ∀ (μ : Id → Option Value) (S : Nat → Prop) (st : St) (a : Act) (w : World), Rel 19 w0 O μ S st a w → endOf (tabOf tab) rs 2 pout st = some y → Post a w := fun μ S st a w h he => by rw [← hPost]; exact ⟨μ, S, st, h, he⟩
  have hp : ∀ (J2 : List Item → P2 → Option PO), Parts Tryd.prog 20 (pg J2) [(2, cut p2 J2)] := fun J2 => ⟨tab_ok tabGood rfl, handNil_ok, rfl⟩
  have g2 : Good Tryd.prog 19 w0 O Post y T2 p2 L2 := good_lfp fun J2 h2 => good_part (hp (atT T2 J2)) (runOK_of (hp (atT T2 J2)) hnp ⟨cutOK_at h2, trivial⟩ fin) (fun x => (seg2 (atT T2 J2) x.1 x.2.1 x.2.2.1).trans (by simp only [atT_self] <;> rfl))
  exact good_first (hp (atT T2 L2)) (runOK_of (hp (atT T2 L2)) hnp ⟨cutOK_at g2, trivial⟩ fin) (fun x => (seg0 (atT T2 L2) x.1 x.2.1).trans (by simp only [atT_self] <;> rfl))
end spec_l30At

/-! ### loop.example/wholecheck/spec.NamesValid -/
namespace spec_NamesValid
noncomputable abbrev c0 : Code := (Tryd.f13.body).getD .skip
noncomputable abbrev pin : Tpl := ⟨[⟨0, false, [.d (.sl .str)]⟩], []⟩
noncomputable abbrev pout : Tpl := ⟨[⟨0, false, [.d .bool]⟩], []⟩
noncomputable abbrev p2 : Tpl := ⟨[⟨0, false, [.d (.sl .str)]⟩, ⟨3, false, [.d (.int .i64)]⟩], []⟩
noncomputable def T2 : List Item := (find 2 c0 []).getD []
noncomputable abbrev p4 : Tpl := ⟨[⟨0, false, [.d (.sl .str)]⟩, ⟨3, false, [.d (.int .i64)]⟩], []⟩
noncomputable def T4 : List Item := (find 4 c0 []).getD []
noncomputable abbrev PI := (List (List UInt8)) × Unit
noncomputable abbrev PO := Bool × Unit
noncomputable abbrev P2 := (List (List UInt8)) × Int × Unit
noncomputable abbrev P4 := (List (List UInt8)) × Int × Unit
noncomputable abbrev rs : List ResultVar := [.tmp 2]
noncomputable def F0 (J2 : P2 → Option PO) (x0 : List (List UInt8)) : Option PO :=
  J2 (x0, 0, ())
noncomputable def F2 (J4 : P4 → Option PO) (t0 : List (List UInt8)) (t3 : Int) : Option PO :=
  bif decide (t3 < (t0.length : Int)) then
    J4 (t0, t3, ())
  else
    some (decide ((t0.length : Int) ≤ 5), ())
noncomputable def F4 (J2 : P2 → Option PO) (Gspec_l30At : spec_l30At.PI → Option spec_l30At.PO) (Gspec_l30Name : spec_l30Name.PI → Option spec_l30Name.PO) (t0 : List (List UInt8)) (t3 : Int) : Option PO :=
  bif inb t3 t0.length then
    Option.bind (Gspec_l30Name (t0.getD t3.toNat [], ())) fun y0 =>
    bif !y0.1 then
      some (false, ())
    else
      bif decide (0 ≤ t3) && decide (t3 ≤ (t0.length : Int)) then
        bif inb t3 t0.length then
          Option.bind (Gspec_l30At ((t0.take t3.toNat).drop 0, t0.getD t3.toNat [], ())) fun y1 =>
          bif decide (y1.1 ≥ 0) then
            some (false, ())
          else
            J2 (t0, wI (t3 + 1), ())
        else
          none
      else
        none
  else
    none
noncomputable def hd {R : Type} (Gspec_l30At : spec_l30At.PI → Option spec_l30At.PO) (Gspec_l30Name : spec_l30Name.PI → Option spec_l30Name.PO) : Hand R := (handAt 20 [24] true ⟨2, 1, 2, spec_l30At.pin, spec_l30At.pout, Gspec_l30At⟩ (handAt 19 [14] true ⟨1, 1, 1, spec_l30Name.pin, spec_l30Name.pout, Gspec_l30Name⟩ handNil))
noncomputable def pg (Gspec_l30At : spec_l30At.PI → Option spec_l30At.PO) (Gspec_l30Name : spec_l30Name.PI → Option spec_l30Name.PO) (J2 : List Item → P2 → Option PO) (J4 : List Item → P4 → Option PO) : Prog PO := { nt := 30, np := 1, tb := tabOf tab, hd := hd Gspec_l30At Gspec_l30Name, cuts := cutsOf [(2, cut p2 J2), (4, cut p4 J4)], fin := endOf (tabOf tab) rs 1 pout }
noncomputable def q : FuncId → Bool := fun f => hasId [19, 20] f
theorem seg0 (Gspec_l30At : spec_l30At.PI → Option spec_l30At.PO) (Gspec_l30Name : spec_l30Name.PI → Option spec_l30Name.PO) (J2 : List Item → P2 → Option PO) (J4 : List Item → P4 → Option PO) (x0 : List (List UInt8)) : arun (pg Gspec_l30At Gspec_l30Name J2 J4) 5000 [.code c0] (mk pin (x0, ())) = F0 (J2 T2) x0 := by kernel_rfl
theorem seg2 (Gspec_l30At : spec_l30At.PI → Option spec_l30At.PO) (Gspec_l30Name : spec_l30Name.PI → Option spec_l30Name.PO) (J2 : List Item → P2 → Option PO) (J4 : List Item → P4 → Option PO) (t0 : List (List UInt8)) (t3 : Int) : arun1 (pg Gspec_l30At Gspec_l30Name J2 J4) 5000 T2 (mk p2 (t0, t3, ())) = F2 (J4 T4) t0 t3 := by kernel_rfl
theorem seg4 (Gspec_l30At : spec_l30At.PI → Option spec_l30At.PO) (Gspec_l30Name : spec_l30Name.PI → Option spec_l30Name.PO) (J2 : List Item → P2 → Option PO) (J4 : List Item → P4 → Option PO) (t0 : List (List UInt8)) (t3 : Int) : arunQ (pg Gspec_l30At Gspec_l30Name J2 J4) q [] [] 5000 T4 (mk p4 (t0, t3, ())) = List.replicate (arunQ (pg Gspec_l30At Gspec_l30Name J2 J4) q [] [] 5000 T4 (mk p4 (t0, t3, ()))).length (F4 (J2 T2) Gspec_l30At Gspec_l30Name t0 t3) := by kernel_rfl
noncomputable def L4 (J2 : P2 → Option PO) : P4 → Option PO := fun x => F4 J2 spec_l30At.impl spec_l30Name.impl x.1 x.2.1
noncomputable def L2 : P2 → Option PO := lfp fun J2 x => F2 (L4 J2) x.1 x.2.1
noncomputable def impl : PI → Option PO := fun x => F0 L2 x.1
theorem F4_le {J2 J2' : P2 → Option PO} (h2 : OLe J2 J2') {Gspec_l30At : spec_l30At.PI → Option spec_l30At.PO} {Gspec_l30Name : spec_l30Name.PI → Option spec_l30Name.PO} (t0 : List (List UInt8)) (t3 : Int) : OptLe (F4 J2 Gspec_l30At Gspec_l30Name t0 t3) (F4 J2' Gspec_l30At Gspec_l30Name t0 t3) := by unfold F4; exact .cond (.bind (.refl _) fun _ => .cond (.refl _) (.cond (.cond (.bind (.refl _) fun _ => .cond (.refl _) (.of h2 _)) (.refl _)) (.refl _))) (.refl _)
theorem F2_le {J4 J4' : P4 → Option PO} (h4 : OLe J4 J4') (t0 : List (List UInt8)) (t3 : Int) : OptLe (F2 J4 t0 t3) (F2 J4' t0 t3) := by unfold F2; exact .cond (.of h4 _) (.refl _)
theorem L4_eq (J2 : P2 → Option PO) (t0 : List (List UInt8)) (t3 : Int) : L4 J2 (t0, t3, ()) = F4 J2 spec_l30At.impl spec_l30Name.impl t0 t3 := rfl
theorem L4_le {J2 J2' : P2 → Option PO} (h2 : OLe J2 J2') : OLe (L4 J2) (L4 J2') := fun x => F4_le h2 x.1 x.2.1
theorem L2_mono : OMono fun J2 (x : P2) => F2 (L4 J2) x.1 x.2.1 := fun J J' h2 x => F2_le (L4_le h2) x.1 x.2.1
theorem L2_eq (t0 : List (List UInt8)) (t3 : Int) : L2 (t0, t3, ()) = F2 (L4 (L2)) t0 t3 := congrFun (lfp_eq (L2_mono)) _
theorem impl_eq (x0 : List (List UInt8)) : impl (x0, ()) = F0 L2 x0 := rfl
theorem con : Con Tryd.prog 13 1 rs.length 1 pin pout impl := by
  refine con_of_run' (nt := 30) (c := c0) tabGood Tryd.func13 (by kernel_rfl) (by kernel_rfl) (by kernel_rfl) (by kernel_rfl) (by kernel_rfl) (by kernel_rfl) (by kernel_rfl) ?_
  intro w0 O y hnp
  generalize hPost : (fun (a' : Act) (w' : World) => ∃ μ' S' st', Rel 30 w0 O μ' S' st' a' w' ∧ endOf (tabOf tab) rs 1 pout st' = some y) = Post
  have fin : ∀ (μ : Id → Option Value) (S : Nat → Prop) (st : St) (a : Act) (w : World), Rel 30 w0 O μ S st a w → endOf (tabOf tab) rs 1 pout st = some y → Post a w := fun μ S st a w h he => by rw [← hPost]; exact ⟨μ, S, st, h, he⟩
  have hp : ∀ (J2 : List Item → P2 → Option PO), ∀ (J4 : List Item → P4 → Option PO), Parts Tryd.prog 13 (pg spec_l30At.impl spec_l30Name.impl J2 J4) [(2, cut p2 J2), (4, cut p4 J4)] := fun J2 J4 => ⟨tab_ok tabGood rfl, (handAt_ok spec_l30At.con (handAt_ok spec_l30Name.con handNil_ok)), rfl⟩
  have g4 : ∀ (J2 : P2 → Option PO), Good Tryd.prog 30 w0 O Post y T2 p2 J2 → Good Tryd.prog 30 w0 O Post y T4 p4 (L4 J2) := fun J2 h2 => good_quiet (hs := hd spec_l30At.impl spec_l30Name.impl) (cv' := hd spec_l30At.impl spec_l30Name.impl) (Checked.mixed Tryd.checked) (hp (atT T2 J2) (atT T4 (fun _ => none))) (handAt_D spec_l30At.con (by rfl) rfl (handAt_D spec_l30Name.con (by rfl) rfl handNil_D)) (handAt_nat (handAt_nat handNil_nat)) (handAt_nat (handAt_nat handNil_nat)) (runOK_of (hp (atT T2 J2) (atT T4 (fun _ => none))) hnp ⟨cutOK_at h2, cutOK_at (p := p4) (T := T4) (J := fun _ => none) good_none, trivial⟩ fin) (fun x => all_same ⟨_, (seg4 spec_l30At.impl spec_l30Name.impl (atT T2 J2) (atT T4 (fun _ => none)) x.1 x.2.1).trans (by simp only [atT_self] <;> rfl)⟩)
  have g2 : Good Tryd.prog 30 w0 O Post y T2 p2 L2 := good_lfp fun J2 h2 => good_part (hp (atT T2 (fun _ => none)) (atT T4 (L4 J2))) (runOK_of (hp (atT T2 (fun _ => none)) (atT T4 (L4 J2))) hnp ⟨cutOK_at (p := p2) (T := T2) (J := fun _ => none) good_none, cutOK_at (g4 J2 h2), trivial⟩ fin) (fun x => (seg2 spec_l30At.impl spec_l30Name.impl (atT T2 (fun _ => none)) (atT T4 (L4 J2)) x.1 x.2.1).trans (by simp only [atT_self] <;> rfl))
  exact good_first (hp (atT T2 L2) (atT T4 (fun _ => none))) (runOK_of (hp (atT T2 L2) (atT T4 (fun _ => none))) hnp ⟨cutOK_at g2, cutOK_at (p := p4) (T := T4) (J := fun _ => none) good_none, trivial⟩ fin) (fun x => (seg0 spec_l30At.impl spec_l30Name.impl (atT T2 L2) (atT T4 (fun _ => none)) x.1).trans (by simp only [atT_self] <;> rfl))
end spec_NamesValid

/-! ### loop.example/wholecheck/spec.l30Word -/
namespace spec_l30Word
noncomputable abbrev c0 : Code := (Tryd.f31.body).getD .skip
noncomputable abbrev pin : Tpl := ⟨[⟨0, true, [.d .str, .d (.int .i64), .row 500001, .row 500002, .d .bool]⟩], [(500001, .row 9 false .str), (500002, .row 40 true (.prod (.int .i64) (.prod (.int .i64) (.prod (.int .i64) (.last (.int .i64))))))]⟩
noncomputable abbrev pout : Tpl := ⟨[⟨0, false, [.d .str]⟩, ⟨1, true, [.any, .any, .row 500001, .row 500002, .any]⟩], [(500001, .row 9 false .str), (500002, .row 40 true (.prod (.int .i64) (.prod (.int .i64) (.prod (.int .i64) (.last (.int .i64))))))]⟩
noncomputable abbrev p2 : Tpl := ⟨[⟨0, true, [.d .str, .d (.int .i64), .row 500001, .row 500002, .d .bool]⟩, ⟨1, false, [.ptr 3000000 0]⟩, ⟨3, false, [.d (.int .i64)]⟩], [(500001, .row 9 false .str), (500002, .row 40 true (.prod (.int .i64) (.prod (.int .i64) (.prod (.int .i64) (.last (.int .i64)))))), (3000000, .box [.d .str, .d (.int .i64), .row 500001, .row 500002, .d .bool])]⟩
noncomputable def T2 : List Item := (find 2 c0 []).getD []
noncomputable abbrev PI := (List UInt8) × Int × Bool × (List (List UInt8)) × (List (Int × Int × Int × Int)) × Unit
noncomputable abbrev PO := (List UInt8) × (List (List UInt8)) × (List (Int × Int × Int × Int)) × Unit
noncomputable abbrev P2 := (List UInt8) × Int × Bool × Int × (List (List UInt8)) × (List (Int × Int × Int × Int)) × (List UInt8) × Int × Bool × Unit
noncomputable abbrev rs : List ResultVar := [.tmp 2]
noncomputable def F0 (J2 : P2 → Option PO) (x0_0 : List UInt8) (x0_1 : Int) (x0_2 : Bool) (s1 : List (List UInt8)) (s2 : List (Int × Int × Int × Int)) : Option PO :=
  J2 (x0_0, x0_1, x0_2, x0_1, s1, s2, x0_0, x0_1, x0_2, ())
noncomputable def F2 (J2 : P2 → Option PO) (t0_0 : List UInt8) (t0_1 : Int) (t0_2 : Bool) (t3 : Int) (s1 : List (List UInt8)) (s2 : List (Int × Int × Int × Int)) (b0_0 : List UInt8) (b0_1 : Int) (b0_2 : Bool) : Option PO :=
  bif decide (t3 < (b0_0.length : Int)) then
    bif inb t3 b0_0.length then
      bif decide (((b0_0.getD t3.toNat 0).toNat : Int) ≥ 97) then
        bif inb t3 b0_0.length then
          bif decide (((b0_0.getD t3.toNat 0).toNat : Int) ≤ 122) then
            J2 (t0_0, t0_1, t0_2, wI (t3 + 1), s1, s2, b0_0, b0_1, b0_2, ())
          else
            bif inb t3 b0_0.length then
              bif decide (((b0_0.getD t3.toNat 0).toNat : Int) ≥ 48) then
                bif inb t3 b0_0.length then
                  bif decide (((b0_0.getD t3.toNat 0).toNat : Int) ≤ 57) then
                    J2 (t0_0, t0_1, t0_2, wI (t3 + 1), s1, s2, b0_0, b0_1, b0_2, ())
                  else
                    bif inb t3 b0_0.length then
                      bif ((b0_0.getD t3.toNat 0).toNat : Int) == 45 then
                        bif t3 == b0_1 then
                          J2 (t0_0, t0_1, t0_2, wI (t3 + 1), s1, s2, b0_0, b0_1, b0_2, ())
                        else
                          bif decide (0 ≤ b0_1) && decide (b0_1 ≤ t3) && decide (t3 ≤ (b0_0.length : Int)) then
                            some ((b0_0.take t3.toNat).drop b0_1.toNat, s1, s2, ())
                          else
                            none
                      else
                        bif decide (0 ≤ b0_1) && decide (b0_1 ≤ t3) && decide (t3 ≤ (b0_0.length : Int)) then
                          some ((b0_0.take t3.toNat).drop b0_1.toNat, s1, s2, ())
                        else
                          none
                    else
                      none
                else
                  none
              else
                bif inb t3 b0_0.length then
                  bif ((b0_0.getD t3.toNat 0).toNat : Int) == 45 then
                    bif t3 == b0_1 then
                      J2 (t0_0, t0_1, t0_2, wI (t3 + 1), s1, s2, b0_0, b0_1, b0_2, ())
                    else
                      bif decide (0 ≤ b0_1) && decide (b0_1 ≤ t3) && decide (t3 ≤ (b0_0.length : Int)) then
                        some ((b0_0.take t3.toNat).drop b0_1.toNat, s1, s2, ())
                      else
                        none
                  else
                    bif decide (0 ≤ b0_1) && decide (b0_1 ≤ t3) && decide (t3 ≤ (b0_0.length : Int)) then
                      some ((b0_0.take t3.toNat).drop b0_1.toNat, s1, s2, ())
                    else
                      none
                else
                  none
            else
              none
        else
          none
      else
        bif inb t3 b0_0.length then
          bif decide (((b0_0.getD t3.toNat 0).toNat : Int) ≥ 48) then
            bif inb t3 b0_0.length then
              bif decide (((b0_0.getD t3.toNat 0).toNat : Int) ≤ 57) then
                J2 (t0_0, t0_1, t0_2, wI (t3 + 1), s1, s2, b0_0, b0_1, b0_2, ())
              else
                bif inb t3 b0_0.length then
                  bif ((b0_0.getD t3.toNat 0).toNat : Int) == 45 then
                    bif t3 == b0_1 then
                      J2 (t0_0, t0_1, t0_2, wI (t3 + 1), s1, s2, b0_0, b0_1, b0_2, ())
                    else
                      bif decide (0 ≤ b0_1) && decide (b0_1 ≤ t3) && decide (t3 ≤ (b0_0.length : Int)) then
                        some ((b0_0.take t3.toNat).drop b0_1.toNat, s1, s2, ())
                      else
                        none
                  else
                    bif decide (0 ≤ b0_1) && decide (b0_1 ≤ t3) && decide (t3 ≤ (b0_0.length : Int)) then
                      some ((b0_0.take t3.toNat).drop b0_1.toNat, s1, s2, ())
                    else
                      none
                else
                  none
            else
              none
          else
            bif inb t3 b0_0.length then
              bif ((b0_0.getD t3.toNat 0).toNat : Int) == 45 then
                bif t3 == b0_1 then
                  J2 (t0_0, t0_1, t0_2, wI (t3 + 1), s1, s2, b0_0, b0_1, b0_2, ())
                else
                  bif decide (0 ≤ b0_1) && decide (b0_1 ≤ t3) && decide (t3 ≤ (b0_0.length : Int)) then
                    some ((b0_0.take t3.toNat).drop b0_1.toNat, s1, s2, ())
                  else
                    none
              else
                bif decide (0 ≤ b0_1) && decide (b0_1 ≤ t3) && decide (t3 ≤ (b0_0.length : Int)) then
                  some ((b0_0.take t3.toNat).drop b0_1.toNat, s1, s2, ())
                else
                  none
            else
              none
        else
          none
    else
      none
  else
    bif decide (0 ≤ b0_1) && decide (b0_1 ≤ t3) && decide (t3 ≤ (b0_0.length : Int)) then
      some ((b0_0.take t3.toNat).drop b0_1.toNat, s1, s2, ())
    else
      none
noncomputable def hd {R : Type} : Hand R := handNil
noncomputable def pg (J2 : List Item → P2 → Option PO) : Prog PO := { nt := 60, np := 1, tb := tabOf tab, hd := hd, cuts := cutsOf [(2, cut p2 J2)], fin := endOf (tabOf tab) rs 1 pout }
noncomputable def q : FuncId → Bool := fun f => hasId [] f
theorem seg0 (J2 : List Item → P2 → Option PO) (x0_0 : List UInt8) (x0_1 : Int) (x0_2 : Bool) (s1 : List (List UInt8)) (s2 : List (Int × Int × Int × Int)) : arun (pg J2) 5000 [.code c0] (mk pin (x0_0, x0_1, x0_2, s1, s2, ())) = F0 (J2 T2) x0_0 x0_1 x0_2 s1 s2 := by kernel_rfl
theorem seg2 (J2 : List Item → P2 → Option PO) (t0_0 : List UInt8) (t0_1 : Int) (t0_2 : Bool) (t3 : Int) (s1 : List (List UInt8)) (s2 : List (Int × Int × Int × Int)) (b0_0 : List UInt8) (b0_1 : Int) (b0_2 : Bool) : arun1 (pg J2) 5000 T2 (mk p2 (t0_0, t0_1, t0_2, t3, s1, s2, b0_0, b0_1, b0_2, ())) = F2 (J2 T2) t0_0 t0_1 t0_2 t3 s1 s2 b0_0 b0_1 b0_2 := by kernel_rfl
noncomputable def L2 : P2 → Option PO := lfp fun J2 x => F2 J2 x.1 x.2.1 x.2.2.1 x.2.2.2.1 x.2.2.2.2.1 x.2.2.2.2.2.1 x.2.2.2.2.2.2.1 x.2.2.2.2.2.2.2.1 x.2.2.2.2.2.2.2.2.1
noncomputable def impl : PI → Option PO := fun x => F0 L2 x.1 x.2.1 x.2.2.1 x.2.2.2.1 x.2.2.2.2.1
theorem F2_le {J2 J2' : P2 → Option PO} (h2 : OLe J2 J2') (t0_0 : List UInt8) (t0_1 : Int) (t0_2 : Bool) (t3 : Int) (s1 : List (List UInt8)) (s2 : List (Int × Int × Int × Int)) (b0_0 : List UInt8) (b0_1 : Int) (b0_2 : Bool) : OptLe (F2 J2 t0_0 t0_1 t0_2 t3 s1 s2 b0_0 b0_1 b0_2) (F2 J2' t0_0 t0_1 t0_2 t3 s1 s2 b0_0 b0_1 b0_2) := by unfold F2; exact .cond (.cond (.cond (.cond (.cond (.of h2 _) (.cond (.cond (.cond (.cond (.of h2 _) (.cond (.cond (.cond (.of h2 _) (.refl _)) (.refl _)) (.refl _))) (.refl _)) (.cond (.cond (.cond (.of h2 _) (.refl _)) (.refl _)) (.refl _))) (.refl _))) (.refl _)) (.cond (.cond (.cond (.cond (.of h2 _) (.cond (.cond (.cond (.of h2 _) (.refl _)) (.refl _)) (.refl _))) (.refl _)) (.cond (.cond (.cond (.of h2 _) (.refl _)) (.refl _)) (.refl _))) (.refl _))) (.refl _)) (.refl _)
theorem L2_mono : OMono fun J2 (x : P2) => F2 J2 x.1 x.2.1 x.2.2.1 x.2.2.2.1 x.2.2.2.2.1 x.2.2.2.2.2.1 x.2.2.2.2.2.2.1 x.2.2.2.2.2.2.2.1 x.2.2.2.2.2.2.2.2.1 := fun J J' h2 x => F2_le h2 x.1 x.2.1 x.2.2.1 x.2.2.2.1 x.2.2.2.2.1 x.2.2.2.2.2.1 x.2.2.2.2.2.2.1 x.2.2.2.2.2.2.2.1 x.2.2.2.2.2.2.2.2.1
theorem L2_eq (t0_0 : List UInt8) (t0_1 : Int) (t0_2 : Bool) (t3 : Int) (s1 : List (List UInt8)) (s2 : List (Int × Int × Int × Int)) (b0_0 : List UInt8) (b0_1 : Int) (b0_2 : Bool) : L2 (t0_0, t0_1, t0_2, t3, s1, s2, b0_0, b0_1, b0_2, ()) = F2 (L2) t0_0 t0_1 t0_2 t3 s1 s2 b0_0 b0_1 b0_2 := congrFun (lfp_eq (L2_mono)) _
theorem impl_eq (x0_0 : List UInt8) (x0_1 : Int) (x0_2 : Bool) (s1 : List (List UInt8)) (s2 : List (Int × Int × Int × Int)) : impl (x0_0, x0_1, x0_2, s1, s2, ()) = F0 L2 x0_0 x0_1 x0_2 s1 s2 := rfl
theorem con : Con Tryd.prog 31 1 rs.length 1 pin pout impl := by
  refine con_of_run' (nt := 60) (c := c0) tabGood Tryd.func31 (by kernel_rfl) (by kernel_rfl) (by kernel_rfl) (by kernel_rfl) (by kernel_rfl) (by kernel_rfl) (by kernel_rfl) ?_
  intro w0 O y hnp
  generalize hPost : (fun (a' : Act) (w' : World) => ∃ μ' S' st', Rel 60 w0 O μ' S' st' a' w' ∧ endOf (tabOf tab) rs 1 pout st' = some y) = Post
  have fin : ∀ (μ : Id → Option Value) (S : Nat → Prop) (st : St) (a : Act) (w : World), Rel 60 w0 O μ S st a w → endOf (tabOf tab) rs 1 pout st = some y → Post a w := fun μ S st a w h he => by rw [← hPost]; exact ⟨μ, S, st, h, he⟩
  have hp : ∀ (J2 : List Item → P2 → Option PO), Parts Tryd.prog 31 (pg J2) [(2, cut p2 J2)] := fun J2 => ⟨tab_ok tabGood rfl, handNil_ok, rfl⟩
  have g2 : Good Tryd.prog 60 w0 O Post y T2 p2 L2 := good_lfp fun J2 h2 => good_part (hp (atT T2 J2)) (runOK_of (hp (atT T2 J2)) hnp ⟨cutOK_at h2, trivial⟩ fin) (fun x => (seg2 (atT T2 J2) x.1 x.2.1 x.2.2.1 x.2.2.2.1 x.2.2.2.2.1 x.2.2.2.2.2.1 x.2.2.2.2.2.2.1 x.2.2.2.2.2.2.2.1 x.2.2.2.2.2.2.2.2.1).trans (by simp only [atT_self] <;> rfl))
  exact good_first (hp (atT T2 L2)) (runOK_of (hp (atT T2 L2)) hnp ⟨cutOK_at g2, trivial⟩ fin) (fun x => (seg0 (atT T2 L2) x.1 x.2.1 x.2.2.1 x.2.2.2.1 x.2.2.2.2.1).trans (by simp only [atT_self] <;> rfl))
end spec_l30Word

/-! ### loop.example/wholecheck/spec.l30Put -/
namespace spec_l30Put
noncomputable abbrev c0 : Code := (Tryd.f21.body).getD .skip
noncomputable abbrev pin : Tpl := ⟨[⟨0, true, [.d .str, .d (.int .i64), .row 500001, .row 500002, .d .bool]⟩, ⟨1, true, [.d (.prod (.int .i64) (.prod (.int .i64) (.prod (.int .i64) (.last (.int .i64)))))]⟩], [(500001, .row 9 false .str), (500002, .row 40 true (.prod (.int .i64) (.prod (.int .i64) (.prod (.int .i64) (.last (.int .i64))))))]⟩
noncomputable abbrev pout : Tpl := ⟨[⟨0, true, [.d .str, .d (.int .i64), .row 500001, .row 500002, .d .bool]⟩, ⟨1, false, [.d (.int .i64)]⟩, ⟨2, true, [.any, .any, .row 500001, .any, .any]⟩], [(500001, .row 9 false .str), (500002, .row 40 true (.prod (.int .i64) (.prod (.int .i64) (.prod (.int .i64) (.last (.int .i64))))))]⟩
noncomputable abbrev p2 : Tpl := ⟨[⟨0, true, [.d .str, .d (.int .i64), .row 500001, .row 500002, .d .bool]⟩, ⟨2, false, [.ptr 3000000 0]⟩, ⟨3, false, [.ptr 3000001 0]⟩, ⟨4, false, [.ptr 3000002 0]⟩, ⟨6, false, [.d (.int .i64)]⟩], [(500001, .row 9 false .str), (500002, .row 40 true (.prod (.int .i64) (.prod (.int .i64) (.prod (.int .i64) (.last (.int .i64)))))), (3000000, .box [.d .str, .d (.int .i64), .row 500001, .row 500002, .d .bool]), (3000001, .box [.d (.int .i64), .d (.int .i64), .d (.int .i64), .d (.int .i64)]), (3000002, .box [.d .str, .d (.int .i64), .row 3000003, .row 3000004, .d .bool]), (3000003, .row 9 true .str), (3000004, .row 40 true (.prod (.int .i64) (.prod (.int .i64) (.prod (.int .i64) (.last (.int .i64))))))]⟩
noncomputable def T2 : List Item := (find 2 c0 []).getD []
noncomputable abbrev p4 : Tpl := ⟨[⟨0, true, [.d .str, .d (.int .i64), .row 500001, .row 500002, .d .bool]⟩, ⟨2, false, [.ptr 3000000 0]⟩, ⟨3, false, [.ptr 3000001 0]⟩, ⟨4, false, [.ptr 3000002 0]⟩, ⟨6, false, [.d (.int .i64)]⟩], [(500001, .row 9 false .str), (500002, .row 40 true (.prod (.int .i64) (.prod (.int .i64) (.prod (.int .i64) (.last (.int .i64)))))), (3000000, .box [.d .str, .d (.int .i64), .row 500001, .row 500002, .d .bool]), (3000001, .box [.d (.int .i64), .d (.int .i64), .d (.int .i64), .d (.int .i64)]), (3000002, .box [.d .str, .d (.int .i64), .row 3000003, .row 3000004, .d .bool]), (3000003, .row 9 true .str), (3000004, .row 40 true (.prod (.int .i64) (.prod (.int .i64) (.prod (.int .i64) (.last (.int .i64))))))]⟩
noncomputable def T4 : List Item := (find 4 c0 []).getD []
noncomputable abbrev p8 : Tpl := ⟨[⟨0, true, [.d .str, .d (.int .i64), .row 500001, .any, .d .bool]⟩, ⟨2, false, [.ptr 3000000 0]⟩, ⟨4, false, [.ptr 3000001 0]⟩], [(500001, .row 9 false .str), (3000000, .box [.d .str, .d (.int .i64), .row 500001, .row 500002, .d .bool]), (3000001, .box [.d .str, .d (.int .i64), .row 3000002, .row 3000003, .d .bool]), (500002, .row 40 true (.prod (.int .i64) (.prod (.int .i64) (.prod (.int .i64) (.last (.int .i64)))))), (3000002, .row 9 true .str), (3000003, .row 40 true (.prod (.int .i64) (.prod (.int .i64) (.prod (.int .i64) (.last (.int .i64))))))]⟩
noncomputable def T8 : List Item := (find 8 c0 []).getD []
noncomputable abbrev PI := (List UInt8) × Int × Bool × (Int × Int × Int × Int) × (List (List UInt8)) × (List (Int × Int × Int × Int)) × Unit
noncomputable abbrev PO := (List UInt8) × Int × Bool × Int × (List (List UInt8)) × (List (Int × Int × Int × Int)) × Unit
noncomputable abbrev P2 := (List UInt8) × Int × Bool × Int × (List (List UInt8)) × (List (Int × Int × Int × Int)) × (List UInt8) × Int × Bool × Int × Int × Int × Int × (List UInt8) × Int × Bool × (List (List UInt8)) × (List (Int × Int × Int × Int)) × Unit
noncomputable abbrev P4 := (List UInt8) × Int × Bool × Int × (List (List UInt8)) × (List (Int × Int × Int × Int)) × (List UInt8) × Int × Bool × Int × Int × Int × Int × (List UInt8) × Int × Bool × (List (List UInt8)) × (List (Int × Int × Int × Int)) × Unit
noncomputable abbrev P8 := (List UInt8) × Int × Bool × (List (List UInt8)) × (List UInt8) × Int × Bool × (List UInt8) × Int × Bool × (List (Int × Int × Int × Int)) × (List (List UInt8)) × (List (Int × Int × Int × Int)) × Unit
noncomputable abbrev rs : List ResultVar := [.cell 4 34, .tmp 5]
noncomputable def F0 (J2 : P2 → Option PO) (x0_0 : List UInt8) (x0_1 : Int) (x0_2 : Bool) (x1 : Int × Int × Int × Int) (s1 : List (List UInt8)) (s2 : List (Int × Int × Int × Int)) : Option PO :=
  J2 (x0_0, x0_1, x0_2, 0, s1, s2, x0_0, x0_1, x0_2, x1.1, x1.2.1, x1.2.2.1, x1.2.2.2, [], 0, false, [], [], ())
noncomputable def F2 (J4 : P4 → Option PO) (J8 : P8 → Option PO) (t0_0 : List UInt8) (t0_1 : Int) (t0_2 : Bool) (t6 : Int) (s1 : List (List UInt8)) (s2 : List (Int × Int × Int × Int)) (b0_0 : List UInt8) (b0_1 : Int) (b0_2 : Bool) (b1_0 : Int) (b1_1 : Int) (b1_2 : Int) (b1_3 : Int) (b2_0 : List UInt8) (b2_1 : Int) (b2_2 : Bool) (r3 : List (List UInt8)) (r4 : List (Int × Int × Int × Int)) : Option PO :=
  bif decide (t6 < (s2.length : Int)) then
    J4 (t0_0, t0_1, t0_2, t6, s1, s2, b0_0, b0_1, b0_2, b1_0, b1_1, b1_2, b1_3, b2_0, b2_1, b2_2, r3, r4, ())
  else
    bif decide ((s2.length + ([(b1_0, b1_1, b1_2, b1_3)] : List (Int × Int × Int × Int)).length) * 32 ≤ 140737488355328) then
      bif b0_2 then
        J8 (t0_0, t0_1, t0_2, s1, b0_0, b0_1, decide (((s2 ++ ([(b1_0, b1_1, b1_2, b1_3)] : List (Int × Int × Int × Int))).length : Int) ≤ 40), b2_0, b2_1, b2_2, s2 ++ ([(b1_0, b1_1, b1_2, b1_3)] : List (Int × Int × Int × Int)), r3, r4, ())
      else
        J8 (t0_0, t0_1, t0_2, s1, b0_0, b0_1, false, b2_0, b2_1, b2_2, s2 ++ ([(b1_0, b1_1, b1_2, b1_3)] : List (Int × Int × Int × Int)), r3, r4, ())
    else
      none
noncomputable def F4 (J2 : P2 → Option PO) (t0_0 : List UInt8) (t0_1 : Int) (t0_2 : Bool) (t6 : Int) (s1 : List (List UInt8)) (s2 : List (Int × Int × Int × Int)) (b0_0 : List UInt8) (b0_1 : Int) (b0_2 : Bool) (b1_0 : Int) (b1_1 : Int) (b1_2 : Int) (b1_3 : Int) (b2_0 : List UInt8) (b2_1 : Int) (b2_2 : Bool) (r3 : List (List UInt8)) (r4 : List (Int × Int × Int × Int)) : Option PO :=
  bif inb t6 s2.length then
    bif (((s2.getD t6.toNat (0, 0, 0, 0)).1 == b1_0) && (((s2.getD t6.toNat (0, 0, 0, 0)).2.1 == b1_1) && (((s2.getD t6.toNat (0, 0, 0, 0)).2.2.1 == b1_2) && ((s2.getD t6.toNat (0, 0, 0, 0)).2.2.2 == b1_3)))) then
      some (b0_0, b0_1, b0_2, t6, s1, s2, ())
    else
      J2 (t0_0, t0_1, t0_2, wI (t6 + 1), s1, s2, b0_0, b0_1, b0_2, b1_0, b1_1, b1_2, b1_3, b2_0, b2_1, b2_2, r3, r4, ())
  else
    none
noncomputable def F8 (t0_0 : List UInt8) (t0_1 : Int) (t0_2 : Bool) (s1 : List (List UInt8)) (b0_0 : List UInt8) (b0_1 : Int) (b0_2 : Bool) (b1_0 : List UInt8) (b1_1 : Int) (b1_2 : Bool) (s2 : List (Int × Int × Int × Int)) (r2 : List (List UInt8)) (r3 : List (Int × Int × Int × Int)) : Option PO :=
  some (b0_0, b0_1, b0_2, wI ((s2.length : Int) - 1), s1, s2, ())
noncomputable def hd {R : Type} : Hand R := handNil
noncomputable def pg (J2 : List Item → P2 → Option PO) (J4 : List Item → P4 → Option PO) (J8 : List Item → P8 → Option PO) : Prog PO := { nt := 43, np := 2, tb := tabOf tab, hd := hd, cuts := cutsOf [(2, cut p2 J2), (4, cut p4 J4), (8, cut p8 J8)], fin := endOf (tabOf tab) rs 2 pout }
noncomputable def q : FuncId → Bool := fun f => hasId [] f
theorem seg0 (J2 : List Item → P2 → Option PO) (J4 : List Item → P4 → Option PO) (J8 : List Item → P8 → Option PO) (x0_0 : List UInt8) (x0_1 : Int) (x0_2 : Bool) (x1 : Int × Int × Int × Int) (s1 : List (List UInt8)) (s2 : List (Int × Int × Int × Int)) : arun (pg J2 J4 J8) 5000 [.code c0] (mk pin (x0_0, x0_1, x0_2, x1, s1, s2, ())) = F0 (J2 T2) x0_0 x0_1 x0_2 x1 s1 s2 := by kernel_rfl
theorem seg2 (J2 : List Item → P2 → Option PO) (J4 : List Item → P4 → Option PO) (J8 : List Item → P8 → Option PO) (t0_0 : List UInt8) (t0_1 : Int) (t0_2 : Bool) (t6 : Int) (s1 : List (List UInt8)) (s2 : List (Int × Int × Int × Int)) (b0_0 : List UInt8) (b0_1 : Int) (b0_2 : Bool) (b1_0 : Int) (b1_1 : Int) (b1_2 : Int) (b1_3 : Int) (b2_0 : List UInt8) (b2_1 : Int) (b2_2 : Bool) (r3 : List (List UInt8)) (r4 : List (Int × Int × Int × Int)) : arun1 (pg J2 J4 J8) 5000 T2 (mk p2 (t0_0, t0_1, t0_2, t6, s1, s2, b0_0, b0_1, b0_2, b1_0, b1_1, b1_2, b1_3, b2_0, b2_1, b2_2, r3, r4, ())) = F2 (J4 T4) (J8 T8) t0_0 t0_1 t0_2 t6 s1 s2 b0_0 b0_1 b0_2 b1_0 b1_1 b1_2 b1_3 b2_0 b2_1 b2_2 r3 r4 := by kernel_rfl
theorem seg4 (J2 : List Item → P2 → Option PO) (J4 : List Item → P4 → Option PO) (J8 : List Item → P8 → Option PO) (t0_0 : List UInt8) (t0_1 : Int) (t0_2 : Bool) (t6 : Int) (s1 : List (List UInt8)) (s2 : List (Int × Int × Int × Int)) (b0_0 : List UInt8) (b0_1 : Int) (b0_2 : Bool) (b1_0 : Int) (b1_1 : Int) (b1_2 : Int) (b1_3 : Int) (b2_0 : List UInt8) (b2_1 : Int) (b2_2 : Bool) (r3 : List (List UInt8)) (r4 : List (Int × Int × Int × Int)) : arunQ (pg J2 J4 J8) q [] [] 5000 T4 (mk p4 (t0_0, t0_1, t0_2, t6, s1, s2, b0_0, b0_1, b0_2, b1_0, b1_1, b1_2, b1_3, b2_0, b2_1, b2_2, r3, r4, ())) = List.replicate (arunQ (pg J2 J4 J8) q [] [] 5000 T4 (mk p4 (t0_0, t0_1, t0_2, t6, s1, s2, b0_0, b0_1, b0_2, b1_0, b1_1, b1_2, b1_3, b2_0, b2_1, b2_2, r3, r4, ()))).length (F4 (J2 T2) t0_0 t0_1 t0_2 t6 s1 s2 b0_0 b0_1 b0_2 b1_0 b1_1 b1_2 b1_3 b2_0 b2_1 b2_2 r3 r4) := by kernel_rfl
theorem seg8 (J2 : List Item → P2 → Option PO) (J4 : List Item → P4 → Option PO) (J8 : List Item → P8 → Option PO) (t0_0 : List UInt8) (t0_1 : Int) (t0_2 : Bool) (s1 : List (List UInt8)) (b0_0 : List UInt8) (b0_1 : Int) (b0_2 : Bool) (b1_0 : List UInt8) (b1_1 : Int) (b1_2 : Bool) (s2 : List (Int × Int × Int × Int)) (r2 : List (List UInt8)) (r3 : List (Int × Int × Int × Int)) : arunQ (pg J2 J4 J8) q [3000001] [] 5000 T8 (mk p8 (t0_0, t0_1, t0_2, s1, b0_0, b0_1, b0_2, b1_0, b1_1, b1_2, s2, r2, r3, ())) = List.replicate (arunQ (pg J2 J4 J8) q [3000001] [] 5000 T8 (mk p8 (t0_0, t0_1, t0_2, s1, b0_0, b0_1, b0_2, b1_0, b1_1, b1_2, s2, r2, r3, ()))).length (F8 t0_0 t0_1 t0_2 s1 b0_0 b0_1 b0_2 b1_0 b1_1 b1_2 s2 r2 r3) := by kernel_rfl
noncomputable def L8 : P8 → Option PO := fun x => F8 x.1 x.2.1 x.2.2.1 x.2.2.2.1 x.2.2.2.2.1 x.2.2.2.2.2.1 x.2.2.2.2.2.2.1 x.2.2.2.2.2.2.2.1 x.2.2.2.2.2.2.2.2.1 x.2.2.2.2.2.2.2.2.2.1 x.2.2.2.2.2.2.2.2.2.2.1 x.2.2.2.2.2.2.2.2.2.2.2.1 x.2.2.2.2.2.2.2.2.2.2.2.2.1
noncomputable def L4 (J2 : P2 → Option PO) : P4 → Option PO := fun x => F4 J2 x.1 x.2.1 x.2.2.1 x.2.2.2.1 x.2.2.2.2.1 x.2.2.2.2.2.1 x.2.2.2.2.2.2.1 x.2.2.2.2.2.2.2.1 x.2.2.2.2.2.2.2.2.1 x.2.2.2.2.2.2.2.2.2.1 x.2.2.2.2.2.2.2.2.2.2.1 x.2.2.2.2.2.2.2.2.2.2.2.1 x.2.2.2.2.2.2.2.2.2.2.2.2.1 x.2.2.2.2.2.2.2.2.2.2.2.2.2.1 x.2.2.2.2.2.2.2.2.2.2.2.2.2.2.1 x.2.2.2.2.2.2.2.2.2.2.2.2.2.2.2.1 x.2.2.2.2.2.2.2.2.2.2.2.2.2.2.2.2.1 x.2.2.2.2.2.2.2.2.2.2.2.2.2.2.2.2.2.1
noncomputable def L2 : P2 → Option PO := lfp fun J2 x => F2 (L4 J2) L8 x.1 x.2.1 x.2.2.1 x.2.2.2.1 x.2.2.2.2.1 x.2.2.2.2.2.1 x.2.2.2.2.2.2.1 x.2.2.2.2.2.2.2.1 x.2.2.2.2.2.2.2.2.1 x.2.2.2.2.2.2.2.2.2.1 x.2.2.2.2.2.2.2.2.2.2.1 x.2.2.2.2.2.2.2.2.2.2.2.1 x.2.2.2.2.2.2.2.2.2.2.2.2.1 x.2.2.2.2.2.2.2.2.2.2.2.2.2.1 x.2.2.2.2.2.2.2.2.2.2.2.2.2.2.1 x.2.2.2.2.2.2.2.2.2.2.2.2.2.2.2.1 x.2.2.2.2.2.2.2.2.2.2.2.2.2.2.2.2.1 x.2.2.2.2.2.2.2.2.2.2.2.2.2.2.2.2.2.1
noncomputable def impl : PI → Option PO := fun x => F0 L2 x.1 x.2.1 x.2.2.1 x.2.2.2.1 x.2.2.2.2.1 x.2.2.2.2.2.1
theorem F4_le {J2 J2' : P2 → Option PO} (h2 : OLe J2 J2') (t0_0 : List UInt8) (t0_1 : Int) (t0_2 : Bool) (t6 : Int) (s1 : List (List UInt8)) (s2 : List (Int × Int × Int × Int)) (b0_0 : List UInt8) (b0_1 : Int) (b0_2 : Bool) (b1_0 : Int) (b1_1 : Int) (b1_2 : Int) (b1_3 : Int) (b2_0 : List UInt8) (b2_1 : Int) (b2_2 : Bool) (r3 : List (List UInt8)) (r4 : List (Int × Int × Int × Int)) : OptLe (F4 J2 t0_0 t0_1 t0_2 t6 s1 s2 b0_0 b0_1 b0_2 b1_0 b1_1 b1_2 b1_3 b2_0 b2_1 b2_2 r3 r4) (F4 J2' t0_0 t0_1 t0_2 t6 s1 s2 b0_0 b0_1 b0_2 b1_0 b1_1 b1_2 b1_3 b2_0 b2_1 b2_2 r3 r4) := by unfold F4; exact .cond (.cond (.refl _) (.of h2 _)) (.refl _)
theorem F2_le {J4 J4' : P4 → Option PO} (h4 : OLe J4 J4') {J8 J8' : P8 → Option PO} (h8 : OLe J8 J8') (t0_0 : List UInt8) (t0_1 : Int) (t0_2 : Bool) (t6 : Int) (s1 : List (List UInt8)) (s2 : List (Int × Int × Int × Int)) (b0_0 : List UInt8) (b0_1 : Int) (b0_2 : Bool) (b1_0 : Int) (b1_1 : Int) (b1_2 : Int) (b1_3 : Int) (b2_0 : List UInt8) (b2_1 : Int) (b2_2 : Bool) (r3 : List (List UInt8)) (r4 : List (Int × Int × Int × Int)) : OptLe (F2 J4 J8 t0_0 t0_1 t0_2 t6 s1 s2 b0_0 b0_1 b0_2 b1_0 b1_1 b1_2 b1_3 b2_0 b2_1 b2_2 r3 r4) (F2 J4' J8' t0_0 t0_1 t0_2 t6 s1 s2 b0_0 b0_1 b0_2 b1_0 b1_1 b1_2 b1_3 b2_0 b2_1 b2_2 r3 r4) := by unfold F2; exact .cond (.of h4 _) (.cond (.cond (.of h8 _) (.of h8 _)) (.refl _))
theorem L8_eq (t0_0 : List UInt8) (t0_1 : Int) (t0_2 : Bool) (s1 : List (List UInt8)) (b0_0 : List UInt8) (b0_1 : Int) (b0_2 : Bool) (b1_0 : List UInt8) (b1_1 : Int) (b1_2 : Bool) (s2 : List (Int × Int × Int × Int)) (r2 : List (List UInt8)) (r3 : List (Int × Int × Int × Int)) : L8 (t0_0, t0_1, t0_2, s1, b0_0, b0_1, b0_2, b1_0, b1_1, b1_2, s2, r2, r3, ()) = F8 t0_0 t0_1 t0_2 s1 b0_0 b0_1 b0_2 b1_0 b1_1 b1_2 s2 r2 r3 := rfl
theorem L4_eq (J2 : P2 → Option PO) (t0_0 : List UInt8) (t0_1 : Int) (t0_2 : Bool) (t6 : Int) (s1 : List (List UInt8)) (s2 : List (Int × Int × Int × Int)) (b0_0 : List UInt8) (b0_1 : Int) (b0_2 : Bool) (b1_0 : Int) (b1_1 : Int) (b1_2 : Int) (b1_3 : Int) (b2_0 : List UInt8) (b2_1 : Int) (b2_2 : Bool) (r3 : List (List UInt8)) (r4 : List (Int × Int × Int × Int)) : L4 J2 (t0_0, t0_1, t0_2, t6, s1, s2, b0_0, b0_1, b0_2, b1_0, b1_1, b1_2, b1_3, b2_0, b2_1, b2_2, r3, r4, ()) = F4 J2 t0_0 t0_1 t0_2 t6 s1 s2 b0_0 b0_1 b0_2 b1_0 b1_1 b1_2 b1_3 b2_0 b2_1 b2_2 r3 r4 := rfl
theorem L4_le {J2 J2' : P2 → Option PO} (h2 : OLe J2 J2') : OLe (L4 J2) (L4 J2') := fun x => F4_le h2 x.1 x.2.1 x.2.2.1 x.2.2.2.1 x.2.2.2.2.1 x.2.2.2.2.2.1 x.2.2.2.2.2.2.1 x.2.2.2.2.2.2.2.1 x.2.2.2.2.2.2.2.2.1 x.2.2.2.2.2.2.2.2.2.1 x.2.2.2.2.2.2.2.2.2.2.1 x.2.2.2.2.2.2.2.2.2.2.2.1 x.2.2.2.2.2.2.2.2.2.2.2.2.1 x.2.2.2.2.2.2.2.2.2.2.2.2.2.1 x.2.2.2.2.2.2.2.2.2.2.2.2.2.2.1 x.2.2.2.2.2.2.2.2.2.2.2.2.2.2.2.1 x.2.2.2.2.2.2.2.2.2.2.2.2.2.2.2.2.1 x.2.2.2.2.2.2.2.2.2.2.2.2.2.2.2.2.2.1
theorem L2_mono : OMono fun J2 (x : P2) => F2 (L4 J2) L8 x.1 x.2.1 x.2.2.1 x.2.2.2.1 x.2.2.2.2.1 x.2.2.2.2.2.1 x.2.2.2.2.2.2.1 x.2.2.2.2.2.2.2.1 x.2.2.2.2.2.2.2.2.1 x.2.2.2.2.2.2.2.2.2.1 x.2.2.2.2.2.2.2.2.2.2.1 x.2.2.2.2.2.2.2.2.2.2.2.1 x.2.2.2.2.2.2.2.2.2.2.2.2.1 x.2.2.2.2.2.2.2.2.2.2.2.2.2.1 x.2.2.2.2.2.2.2.2.2.2.2.2.2.2.1 x.2.2.2.2.2.2.2.2.2.2.2.2.2.2.2.1 x.2.2.2.2.2.2.2.2.2.2.2.2.2.2.2.2.1 x.2.2.2.2.2.2.2.2.2.2.2.2.2.2.2.2.2.1 := fun J J' h2 x => F2_le (L4_le h2) (fun _ _ h => h) x.1 x.2.1 x.2.2.1 x.2.2.2.1 x.2.2.2.2.1 x.2.2.2.2.2.1 x.2.2.2.2.2.2.1 x.2.2.2.2.2.2.2.1 x.2.2.2.2.2.2.2.2.1 x.2.2.2.2.2.2.2.2.2.1 x.2.2.2.2.2.2.2.2.2.2.1 x.2.2.2.2.2.2.2.2.2.2.2.1 x.2.2.2.2.2.2.2.2.2.2.2.2.1 x.2.2.2.2.2.2.2.2.2.2.2.2.2.1 x.2.2.2.2.2.2.2.2.2.2.2.2.2.2.1 x.2.2.2.2.2.2.2.2.2.2.2.2.2.2.2.1 x.2.2.2.2.2.2.2.2.2.2.2.2.2.2.2.2.1 x.2.2.2.2.2.2.2.2.2.2.2.2.2.2.2.2.2.1
theorem L2_eq (t0_0 : List UInt8) (t0_1 : Int) (t0_2 : Bool) (t6 : Int) (s1 : List (List UInt8)) (s2 : List (Int × Int × Int × Int)) (b0_0 : List UInt8) (b0_1 : Int) (b0_2 : Bool) (b1_0 : Int) (b1_1 : Int) (b1_2 : Int) (b1_3 : Int) (b2_0 : List UInt8) (b2_1 : Int) (b2_2 : Bool) (r3 : List (List UInt8)) (r4 : List (Int × Int × Int × Int)) : L2 (t0_0, t0_1, t0_2, t6, s1, s2, b0_0, b0_1, b0_2, b1_0, b1_1, b1_2, b1_3, b2_0, b2_1, b2_2, r3, r4, ()) = F2 (L4 (L2)) (L8) t0_0 t0_1 t0_2 t6 s1 s2 b0_0 b0_1 b0_2 b1_0 b1_1 b1_2 b1_3 b2_0 b2_1 b2_2 r3 r4 := congrFun (lfp_eq (L2_mono)) _
theorem impl_eq (x0_0 : List UInt8) (x0_1 : Int) (x0_2 : Bool) (x1 : Int × Int × Int × Int) (s1 : List (List UInt8)) (s2 : List (Int × Int × Int × Int)) : impl (x0_0, x0_1, x0_2, x1, s1, s2, ()) = F0 L2 x0_0 x0_1 x0_2 x1 s1 s2 := rfl
theorem con : Con Tryd.prog 21 2 rs.length 2 pin pout impl := by
  refine con_of_run' (nt := 43) (c := c0) tabGood Tryd.func21 (by kernel_rfl) (by kernel_rfl) (by kernel_rfl) (by kernel_rfl) (by kernel_rfl) (by kernel_rfl) (by kernel_rfl) ?_
  intro w0 O y hnp
  generalize hPost : (fun (a' : Act) (w' : World) => ∃ μ' S' st', Rel 43 w0 O μ' S' st' a' w' ∧ endOf (tabOf tab) rs 2 pout st' = some y) = Post
  have fin : ∀ (μ : Id → Option Value) (S : Nat → Prop) (st : St) (a : Act) (w : World), Rel 43 w0 O μ S st a w → endOf (tabOf tab) rs 2 pout st = some y → Post a w := fun μ S st a w h he => by rw [← hPost]; exact ⟨μ, S, st, h, he⟩
  have hp : ∀ (J2 : List Item → P2 → Option PO), ∀ (J4 : List Item → P4 → Option PO), ∀ (J8 : List Item → P8 → Option PO), Parts Tryd.prog 21 (pg J2 J4 J8) [(2, cut p2 J2), (4, cut p4 J4), (8, cut p8 J8)] := fun J2 J4 J8 => ⟨tab_ok tabGood rfl, handNil_ok, rfl⟩
  have g8 : Good Tryd.prog 43 w0 O Post y T8 p8 L8 := good_quiet (hs := hd) (cv' := hd) (Checked.mixed Tryd.checked) (hp (atT T2 (fun _ => none)) (atT T4 (fun _ => none)) (atT T8 (fun _ => none))) handNil_D handNil_nat handNil_nat (runOK_of (hp (atT T2 (fun _ => none)) (atT T4 (fun _ => none)) (atT T8 (fun _ => none))) hnp ⟨cutOK_at (p := p2) (T := T2) (J := fun _ => none) good_none, cutOK_at (p := p4) (T := T4) (J := fun _ => none) good_none, cutOK_at (p := p8) (T := T8) (J := fun _ => none) good_none, trivial⟩ fin) (fun x => all_same ⟨_, (seg8 (atT T2 (fun _ => none)) (atT T4 (fun _ => none)) (atT T8 (fun _ => none)) x.1 x.2.1 x.2.2.1 x.2.2.2.1 x.2.2.2.2.1 x.2.2.2.2.2.1 x.2.2.2.2.2.2.1 x.2.2.2.2.2.2.2.1 x.2.2.2.2.2.2.2.2.1 x.2.2.2.2.2.2.2.2.2.1 x.2.2.2.2.2.2.2.2.2.2.1 x.2.2.2.2.2.2.2.2.2.2.2.1 x.2.2.2.2.2.2.2.2.2.2.2.2.1)⟩)
  have g4 : ∀ (J2 : P2 → Option PO), Good Tryd.prog 43 w0 O Post y T2 p2 J2 → Good Tryd.prog 43 w0 O Post y T4 p4 (L4 J2) := fun J2 h2 => good_quiet (hs := hd) (cv' := hd) (Checked.mixed Tryd.checked) (hp (atT T2 J2) (atT T4 (fun _ => none)) (atT T8 (fun _ => none))) handNil_D handNil_nat handNil_nat (runOK_of (hp (atT T2 J2) (atT T4 (fun _ => none)) (atT T8 (fun _ => none))) hnp ⟨cutOK_at h2, cutOK_at (p := p4) (T := T4) (J := fun _ => none) good_none, cutOK_at (p := p8) (T := T8) (J := fun _ => none) good_none, trivial⟩ fin) (fun x => all_same ⟨_, (seg4 (atT T2 J2) (atT T4 (fun _ => none)) (atT T8 (fun _ => none)) x.1 x.2.1 x.2.2.1 x.2.2.2.1 x.2.2.2.2.1 x.2.2.2.2.2.1 x.2.2.2.2.2.2.1 x.2.2.2.2.2.2.2.1 x.2.2.2.2.2.2.2.2.1 x.2.2.2.2.2.2.2.2.2.1 x.2.2.2.2.2.2.2.2.2.2.1 x.2.2.2.2.2.2.2.2.2.2.2.1 x.2.2.2.2.2.2.2.2.2.2.2.2.1 x.2.2.2.2.2.2.2.2.2.2.2.2.2.1 x.2.2.2.2.2.2.2.2.2.2.2.2.2.2.1 x.2.2.2.2.2.2.2.2.2.2.2.2.2.2.2.1 x.2.2.2.2.2.2.2.2.2.2.2.2.2.2.2.2.1 x.2.2.2.2.2.2.2.2.2.2.2.2.2.2.2.2.2.1).trans (by simp only [atT_self] <;> rfl)⟩)
  have g2 : Good Tryd.prog 43 w0 O Post y T2 p2 L2 := good_lfp fun J2 h2 => good_part (hp (atT T2 (fun _ => none)) (atT T4 (L4 J2)) (atT T8 L8)) (runOK_of (hp (atT T2 (fun _ => none)) (atT T4 (L4 J2)) (atT T8 L8)) hnp ⟨cutOK_at (p := p2) (T := T2) (J := fun _ => none) good_none, cutOK_at (g4 J2 h2), cutOK_at g8, trivial⟩ fin) (fun x => (seg2 (atT T2 (fun _ => none)) (atT T4 (L4 J2)) (atT T8 L8) x.1 x.2.1 x.2.2.1 x.2.2.2.1 x.2.2.2.2.1 x.2.2.2.2.2.1 x.2.2.2.2.2.2.1 x.2.2.2.2.2.2.2.1 x.2.2.2.2.2.2.2.2.1 x.2.2.2.2.2.2.2.2.2.1 x.2.2.2.2.2.2.2.2.2.2.1 x.2.2.2.2.2.2.2.2.2.2.2.1 x.2.2.2.2.2.2.2.2.2.2.2.2.1 x.2.2.2.2.2.2.2.2.2.2.2.2.2.1 x.2.2.2.2.2.2.2.2.2.2.2.2.2.2.1 x.2.2.2.2.2.2.2.2.2.2.2.2.2.2.2.1 x.2.2.2.2.2.2.2.2.2.2.2.2.2.2.2.2.1 x.2.2.2.2.2.2.2.2.2.2.2.2.2.2.2.2.2.1).trans (by simp only [atT_self] <;> rfl))
  exact good_first (hp (atT T2 L2) (atT T4 (fun _ => none)) (atT T8 (fun _ => none))) (runOK_of (hp (atT T2 L2) (atT T4 (fun _ => none)) (atT T8 (fun _ => none))) hnp ⟨cutOK_at g2, cutOK_at (p := p4) (T := T4) (J := fun _ => none) good_none, cutOK_at (p := p8) (T := T8) (J := fun _ => none) good_none, trivial⟩ fin) (fun x => (seg0 (atT T2 L2) (atT T4 (fun _ => none)) (atT T8 (fun _ => none)) x.1 x.2.1 x.2.2.1 x.2.2.2.1 x.2.2.2.2.1 x.2.2.2.2.2.1).trans (by simp only [atT_self] <;> rfl))
end spec_l30Put

/-! ### loop.example/wholecheck/spec.l40Num -/
namespace spec_l40Num
noncomputable abbrev c0 : Code := (Tryd.f32.body).getD .skip
noncomputable abbrev pin : Tpl := ⟨[⟨0, false, [.d .str]⟩], []⟩
noncomputable abbrev pout : Tpl := ⟨[⟨0, false, [.d (.int .i64)]⟩, ⟨1, false, [.d .bool]⟩], []⟩
noncomputable abbrev p2 : Tpl := ⟨[⟨0, false, [.d .str]⟩, ⟨4, false, [.d .bool]⟩], []⟩
noncomputable def T2 : List Item := (find 2 c0 []).getD []
noncomputable abbrev p4 : Tpl := ⟨[⟨0, false, [.d .str]⟩, ⟨4, false, [.d .bool]⟩], []⟩
noncomputable def T4 : List Item := (find 4 c0 []).getD []
noncomputable abbrev p6 : Tpl := ⟨[⟨0, false, [.d .str]⟩, ⟨4, false, [.d .bool]⟩], []⟩
noncomputable def T6 : List Item := (find 6 c0 []).getD []
noncomputable abbrev p8 : Tpl := ⟨[⟨0, false, [.d .str]⟩, ⟨4, false, [.d .bool]⟩, ⟨5, false, [.d (.int .i64)]⟩, ⟨6, false, [.d (.int .i64)]⟩], []⟩
noncomputable def T8 : List Item := (find 8 c0 []).getD []
noncomputable abbrev p12 : Tpl := ⟨[⟨0, false, [.d .str]⟩, ⟨4, false, [.d .bool]⟩, ⟨5, false, [.d (.int .i64)]⟩, ⟨6, false, [.d (.int .i64)]⟩], []⟩
noncomputable def T12 : List Item := (find 12 c0 []).getD []
noncomputable abbrev PI := (List UInt8) × Unit
noncomputable abbrev PO := Int × Bool × Unit
noncomputable abbrev P2 := (List UInt8) × Bool × Unit
noncomputable abbrev P4 := (List UInt8) × Bool × Unit
noncomputable abbrev P6 := (List UInt8) × Bool × Unit
noncomputable abbrev P8 := (List UInt8) × Bool × Int × Int × Unit
noncomputable abbrev P12 := (List UInt8) × Bool × Int × Int × Unit
noncomputable abbrev rs : List ResultVar := [.tmp 2, .tmp 3]
noncomputable def F0 (J2 : P2 → Option PO) (x0 : List UInt8) : Option PO :=
  bif decide ((x0.length : Int) > 0) then
    bif inb 0 x0.length then
      J2 (x0, ((x0.getD 0 0).toNat : Int) == 45, ())
    else
      none
  else
    J2 (x0, false, ())
noncomputable def F2 (J4 : P4 → Option PO) (t0 : List UInt8) (t4 : Bool) : Option PO :=
  bif t4 then
    bif decide (1 ≤ (t0.length : Int)) && decide ((t0.length : Int) ≤ (t0.length : Int)) then
      J4 ((t0.take (t0.length : Int).toNat).drop 1, t4, ())
    else
      none
  else
    J4 (t0, t4, ())
noncomputable def F4 (J6 : P6 → Option PO) (t0 : List UInt8) (t4 : Bool) : Option PO :=
  bif (t0.length : Int) == 0 then
    some (0, false, ())
  else
    bif decide ((t0.length : Int) > 17) then
      some (0, false, ())
    else
      bif inb 0 t0.length then
        bif ((t0.getD 0 0).toNat : Int) == 48 then
          bif decide ((t0.length : Int) > 1) then
            some (0, false, ())
          else
            bif t4 then
              some (0, false, ())
            else
              J6 (t0, t4, ())
        else
          J6 (t0, t4, ())
      else
        none
noncomputable def F6 (J8 : P8 → Option PO) (t0 : List UInt8) (t4 : Bool) : Option PO :=
  J8 (t0, t4, 0, 0, ())
noncomputable def F8 (J12 : P12 → Option PO) (t0 : List UInt8) (t4 : Bool) (t5 : Int) (t6 : Int) : Option PO :=
  bif decide (t6 < (t0.length : Int)) then
    bif inb t6 t0.length then
      bif decide (((t0.getD t6.toNat 0).toNat : Int) < 48) then
        some (0, false, ())
      else
        bif inb t6 t0.length then
          bif decide (((t0.getD t6.toNat 0).toNat : Int) > 57) then
            some (0, false, ())
          else
            J12 (t0, t4, t5, t6, ())
        else
          none
    else
      none
  else
    bif t4 then
      some (wI (0 - t5), true, ())
    else
      some (t5, true, ())
noncomputable def F12 (J8 : P8 → Option PO) (t0 : List UInt8) (t4 : Bool) (t5 : Int) (t6 : Int) : Option PO :=
  bif inb t6 t0.length then
    J8 (t0, t4, wI ((wI (t5 * 10)) + (wI (IntKind.u8.wrap (((t0.getD t6.toNat 0).toNat : Int) - 48)))), wI (t6 + 1), ())
  else
    none
noncomputable def hd {R : Type} : Hand R := handNil
noncomputable def pg (J2 : List Item → P2 → Option PO) (J4 : List Item → P4 → Option PO) (J6 : List Item → P6 → Option PO) (J8 : List Item → P8 → Option PO) (J12 : List Item → P12 → Option PO) : Prog PO := { nt := 67, np := 0, tb := tabOf tab, hd := hd, cuts := cutsOf [(2, cut p2 J2), (4, cut p4 J4), (6, cut p6 J6), (8, cut p8 J8), (12, cut p12 J12)], fin := endOf (tabOf tab) rs 0 pout }
noncomputable def q : FuncId → Bool := fun f => hasId [] f
theorem seg0 (J2 : List Item → P2 → Option PO) (J4 : List Item → P4 → Option PO) (J6 : List Item → P6 → Option PO) (J8 : List Item → P8 → Option PO) (J12 : List Item → P12 → Option PO) (x0 : List UInt8) : arun (pg J2 J4 J6 J8 J12) 5000 [.code c0] (mk pin (x0, ())) = F0 (J2 T2) x0 := by kernel_rfl
theorem seg2 (J2 : List Item → P2 → Option PO) (J4 : List Item → P4 → Option PO) (J6 : List Item → P6 → Option PO) (J8 : List Item → P8 → Option PO) (J12 : List Item → P12 → Option PO) (t0 : List UInt8) (t4 : Bool) : arun1 (pg J2 J4 J6 J8 J12) 5000 T2 (mk p2 (t0, t4, ())) = F2 (J4 T4) t0 t4 := by kernel_rfl
theorem seg4 (J2 : List Item → P2 → Option PO) (J4 : List Item → P4 → Option PO) (J6 : List Item → P6 → Option PO) (J8 : List Item → P8 → Option PO) (J12 : List Item → P12 → Option PO) (t0 : List UInt8) (t4 : Bool) : arun1 (pg J2 J4 J6 J8 J12) 5000 T4 (mk p4 (t0, t4, ())) = F4 (J6 T6) t0 t4 := by kernel_rfl
theorem seg6 (J2 : List Item → P2 → Option PO) (J4 : List Item → P4 → Option PO) (J6 : List Item → P6 → Option PO) (J8 : List Item → P8 → Option PO) (J12 : List Item → P12 → Option PO) (t0 : List UInt8) (t4 : Bool) : arun1 (pg J2 J4 J6 J8 J12) 5000 T6 (mk p6 (t0, t4, ())) = F6 (J8 T8) t0 t4 := by kernel_rfl
theorem seg8 (J2 : List Item → P2 → Option PO) (J4 : List Item → P4 → Option PO) (J6 : List Item → P6 → Option PO) (J8 : List Item → P8 → Option PO) (J12 : List Item → P12 → Option PO) (t0 : List UInt8) (t4 : Bool) (t5 : Int) (t6 : Int) : arun1 (pg J2 J4 J6 J8 J12) 5000 T8 (mk p8 (t0, t4, t5, t6, ())) = F8 (J12 T12) t0 t4 t5 t6 := by kernel_rfl
theorem seg12 (J2 : List Item → P2 → Option PO) (J4 : List Item → P4 → Option PO) (J6 : List Item → P6 → Option PO) (J8 : List Item → P8 → Option PO) (J12 : List Item → P12 → Option PO) (t0 : List UInt8) (t4 : Bool) (t5 : Int) (t6 : Int) : arun1 (pg J2 J4 J6 J8 J12) 5000 T12 (mk p12 (t0, t4, t5, t6, ())) = F12 (J8 T8) t0 t4 t5 t6 := by kernel_rfl
noncomputable def L12 (J8 : P8 → Option PO) : P12 → Option PO := fun x => F12 J8 x.1 x.2.1 x.2.2.1 x.2.2.2.1
noncomputable def L8 : P8 → Option PO := lfp fun J8 x => F8 (L12 J8) x.1 x.2.1 x.2.2.1 x.2.2.2.1
noncomputable def L6 : P6 → Option PO := fun x => F6 L8 x.1 x.2.1
noncomputable def L4 : P4 → Option PO := fun x => F4 L6 x.1 x.2.1
noncomputable def L2 : P2 → Option PO := fun x => F2 L4 x.1 x.2.1
noncomputable def impl : PI → Option PO := fun x => F0 L2 x.1
theorem F12_le {J8 J8' : P8 → Option PO} (h8 : OLe J8 J8') (t0 : List UInt8) (t4 : Bool) (t5 : Int) (t6 : Int) : OptLe (F12 J8 t0 t4 t5 t6) (F12 J8' t0 t4 t5 t6) := by unfold F12; exact .cond (.of h8 _) (.refl _)
theorem F8_le {J12 J12' : P12 → Option PO} (h12 : OLe J12 J12') (t0 : List UInt8) (t4 : Bool) (t5 : Int) (t6 : Int) : OptLe (F8 J12 t0 t4 t5 t6) (F8 J12' t0 t4 t5 t6) := by unfold F8; exact .cond (.cond (.cond (.refl _) (.cond (.cond (.refl _) (.of h12 _)) (.refl _))) (.refl _)) (.refl _)
theorem L12_eq (J8 : P8 → Option PO) (t0 : List UInt8) (t4 : Bool) (t5 : Int) (t6 : Int) : L12 J8 (t0, t4, t5, t6, ()) = F12 J8 t0 t4 t5 t6 := rfl
theorem L12_le {J8 J8' : P8 → Option PO} (h8 : OLe J8 J8') : OLe (L12 J8) (L12 J8') := fun x => F12_le h8 x.1 x.2.1 x.2.2.1 x.2.2.2.1
theorem L8_mono : OMono fun J8 (x : P8) => F8 (L12 J8) x.1 x.2.1 x.2.2.1 x.2.2.2.1 := fun J J' h8 x => F8_le (L12_le h8) x.1 x.2.1 x.2.2.1 x.2.2.2.1
theorem L8_eq (t0 : List UInt8) (t4 : Bool) (t5 : Int) (t6 : Int) : L8 (t0, t4, t5, t6, ()) = F8 (L12 (L8)) t0 t4 t5 t6 := congrFun (lfp_eq (L8_mono)) _
theorem L6_eq (t0 : List UInt8) (t4 : Bool) : L6 (t0, t4, ()) = F6 (L8) t0 t4 := rfl
theorem L4_eq (t0 : List UInt8) (t4 : Bool) : L4 (t0, t4, ()) = F4 (L6) t0 t4 := rfl
theorem L2_eq (t0 : List UInt8) (t4 : Bool) : L2 (t0, t4, ()) = F2 (L4) t0 t4 := rfl
theorem impl_eq (x0 : List UInt8) : impl (x0, ()) = F0 L2 x0 := rfl
theorem con : Con Tryd.prog 32 1 rs.length 0 pin pout impl := by
  refine con_of_run' (nt := 67) (c := c0) tabGood Tryd.func32 (by kernel_rfl) (by kernel_rfl) (by kernel_rfl) (by kernel_rfl) (by kernel_rfl) (by kernel_rfl) (by kernel_rfl) ?_
  intro w0 O y hnp
  generalize hPost : (fun (a' : Act) (w' : World) => ∃ μ' S' st', Rel 67 w0 O μ' S' st' a' w' ∧ endOf (tabOf tab) rs 0 pout st' = some y) = Post
  have fin : ∀ (μ : Id → Option Value) (S : Nat → Prop) (st : St) (a : Act) (w : World), Rel 67 w0 O μ S st a w → endOf (tabOf tab) rs 0 pout st = some y → Post a w := fun μ S st a w h he => by rw [← hPost]; exact ⟨μ, S, st, h, he⟩
  have hp : ∀ (J2 : List Item → P2 → Option PO), ∀ (J4 : List Item → P4 → Option PO), ∀ (J6 : List Item → P6 → Option PO), ∀ (J8 : List Item → P8 → Option PO), ∀ (J12 : List Item → P12 → Option PO), Parts Tryd.prog 32 (pg J2 J4 J6 J8 J12) [(2, cut p2 J2), (4, cut p4 J4), (6, cut p6 J6), (8, cut p8 J8), (12, cut p12 J12)] := fun J2 J4 J6 J8 J12 => ⟨tab_ok tabGood rfl, handNil_ok, rfl⟩
  have g12 : ∀ (J8 : P8 → Option PO), Good Tryd.prog 67 w0 O Post y T8 p8 J8 → Good Tryd.prog 67 w0 O Post y T12 p12 (L12 J8) := fun J8 h8 => good_part (hp (atT T2 (fun _ => none)) (atT T4 (fun _ => none)) (atT T6 (fun _ => none)) (atT T8 J8) (atT T12 (fun _ => none))) (runOK_of (hp (atT T2 (fun _ => none)) (atT T4 (fun _ => none)) (atT T6 (fun _ => none)) (atT T8 J8) (atT T12 (fun _ => none))) hnp ⟨cutOK_at (p := p2) (T := T2) (J := fun _ => none) good_none, cutOK_at (p := p4) (T := T4) (J := fun _ => none) good_none, cutOK_at (p := p6) (T := T6) (J := fun _ => none) good_none, cutOK_at h8, cutOK_at (p := p12) (T := T12) (J := fun _ => none) good_none, trivial⟩ fin) (fun x => (seg12 (atT T2 (fun _ => none)) (atT T4 (fun _ => none)) (atT T6 (fun _ => none)) (atT T8 J8) (atT T12 (fun _ => none)) x.1 x.2.1 x.2.2.1 x.2.2.2.1).trans (by simp only [atT_self] <;> rfl))
  have g8 : Good Tryd.prog 67 w0 O Post y T8 p8 L8 := good_lfp fun J8 h8 => good_part (hp (atT T2 (fun _ => none)) (atT T4 (fun _ => none)) (atT T6 (fun _ => none)) (atT T8 (fun _ => none)) (atT T12 (L12 J8))) (runOK_of (hp (atT T2 (fun _ => none)) (atT T4 (fun _ => none)) (atT T6 (fun _ => none)) (atT T8 (fun _ => none)) (atT T12 (L12 J8))) hnp ⟨cutOK_at (p := p2) (T := T2) (J := fun _ => none) good_none, cutOK_at (p := p4) (T := T4) (J := fun _ => none) good_none, cutOK_at (p := p6) (T := T6) (J := fun _ => none) good_none, cutOK_at (p := p8) (T := T8) (J := fun _ => none) good_none, cutOK_at (g12 J8 h8), trivial⟩ fin) (fun x => (seg8 (atT T2 (fun _ => none)) (atT T4 (fun _ => none)) (atT T6 (fun _ => none)) (atT T8 (fun _ => none)) (atT T12 (L12 J8)) x.1 x.2.1 x.2.2.1 x.2.2.2.1).trans (by simp only [atT_self] <;> rfl))
  have g6 : Good Tryd.prog 67 w0 O Post y T6 p6 L6 := good_part (hp (atT T2 (fun _ => none)) (atT T4 (fun _ => none)) (atT T6 (fun _ => none)) (atT T8 L8) (atT T12 (fun _ => none))) (runOK_of (hp (atT T2 (fun _ => none)) (atT T4 (fun _ => none)) (atT T6 (fun _ => none)) (atT T8 L8) (atT T12 (fun _ => none))) hnp ⟨cutOK_at (p := p2) (T := T2) (J := fun _ => none) good_none, cutOK_at (p := p4) (T := T4) (J := fun _ => none) good_none, cutOK_at (p := p6) (T := T6) (J := fun _ => none) good_none, cutOK_at g8, cutOK_at (p := p12) (T := T12) (J := fun _ => none) good_none, trivial⟩ fin) (fun x => (seg6 (atT T2 (fun _ => none)) (atT T4 (fun _ => none)) (atT T6 (fun _ => none)) (atT T8 L8) (atT T12 (fun _ => none)) x.1 x.2.1).trans (by simp only [atT_self] <;> rfl))
  have g4 : Good Tryd.prog 67 w0 O Post y T4 p4 L4 := good_part (hp (atT T2 (fun _ => none)) (atT T4 (fun _ => none)) (atT T6 L6) (atT T8 (fun _ => none)) (atT T12 (fun _ => none))) (runOK_of (hp (atT T2 (fun _ => none)) (atT T4 (fun _ => none)) (atT T6 L6) (atT T8 (fun _ => none)) (atT T12 (fun _ => none))) hnp ⟨cutOK_at (p := p2) (T := T2) (J := fun _ => none) good_none, cutOK_at (p := p4) (T := T4) (J := fun _ => none) good_none, cutOK_at g6, cutOK_at (p := p8) (T := T8) (J := fun _ => none) good_none, cutOK_at (p := p12) (T := T12) (J := fun _ => none) good_none, trivial⟩ fin) (fun x => (seg4 (atT T2 (fun _ => none)) (atT T4 (fun _ => none)) (atT T6 L6) (atT T8 (fun _ => none)) (atT T12 (fun _ => none)) x.1 x.2.1).trans (by simp only [atT_self] <;> rfl))
  have g2 : Good Tryd.prog 67 w0 O Post y T2 p2 L2 := good_part (hp (atT T2 (fun _ => none)) (atT T4 L4) (atT T6 (fun _ => none)) (atT T8 (fun _ => none)) (atT T12 (fun _ => none))) (runOK_of (hp (atT T2 (fun _ => none)) (atT T4 L4) (atT T6 (fun _ => none)) (atT T8 (fun _ => none)) (atT T12 (fun _ => none))) hnp ⟨cutOK_at (p := p2) (T := T2) (J := fun _ => none) good_none, cutOK_at g4, cutOK_at (p := p6) (T := T6) (J := fun _ => none) good_none, cutOK_at (p := p8) (T := T8) (J := fun _ => none) good_none, cutOK_at (p := p12) (T := T12) (J := fun _ => none) good_none, trivial⟩ fin) (fun x => (seg2 (atT T2 (fun _ => none)) (atT T4 L4) (atT T6 (fun _ => none)) (atT T8 (fun _ => none)) (atT T12 (fun _ => none)) x.1 x.2.1).trans (by simp only [atT_self] <;> rfl))
  exact good_first (hp (atT T2 L2) (atT T4 (fun _ => none)) (atT T6 (fun _ => none)) (atT T8 (fun _ => none)) (atT T12 (fun _ => none))) (runOK_of (hp (atT T2 L2) (atT T4 (fun _ => none)) (atT T6 (fun _ => none)) (atT T8 (fun _ => none)) (atT T12 (fun _ => none))) hnp ⟨cutOK_at g2, cutOK_at (p := p4) (T := T4) (J := fun _ => none) good_none, cutOK_at (p := p6) (T := T6) (J := fun _ => none) good_none, cutOK_at (p := p8) (T := T8) (J := fun _ => none) good_none, cutOK_at (p := p12) (T := T12) (J := fun _ => none) good_none, trivial⟩ fin) (fun x => (seg0 (atT T2 L2) (atT T4 (fun _ => none)) (atT T6 (fun _ => none)) (atT T8 (fun _ => none)) (atT T12 (fun _ => none)) x.1).trans (by simp only [atT_self] <;> rfl))
end spec_l40Num

/-! ### loop.example/wholecheck/spec.l30Leaf -/
namespace spec_l30Leaf
noncomputable abbrev c0 : Code := (Tryd.f22.body).getD .skip
noncomputable abbrev pin : Tpl := ⟨[⟨0, true, [.d .str, .d (.int .i64), .row 500001, .row 500002, .d .bool]⟩], [(500001, .row 9 false .str), (500002, .row 40 true (.prod (.int .i64) (.prod (.int .i64) (.prod (.int .i64) (.last (.int .i64))))))]⟩
noncomputable abbrev pout : Tpl := ⟨[⟨0, true, [.d .str, .d (.int .i64), .row 500001, .row 500002, .d .bool]⟩, ⟨1, false, [.d (.int .i64)]⟩, ⟨2, true, [.any, .any, .row 500001, .any, .any]⟩], [(500001, .row 9 false .str), (500002, .row 40 true (.prod (.int .i64) (.prod (.int .i64) (.prod (.int .i64) (.last (.int .i64))))))]⟩
noncomputable abbrev PI := (List UInt8) × Int × Bool × (List (List UInt8)) × (List (Int × Int × Int × Int)) × Unit
noncomputable abbrev PO := (List UInt8) × Int × Bool × Int × (List (List UInt8)) × (List (Int × Int × Int × Int)) × Unit
noncomputable abbrev rs : List ResultVar := [.cell 2 34, .tmp 3]
noncomputable def F0 (Gspec_l1In : spec_l1In.PI → Option spec_l1In.PO) (Gspec_l30At : spec_l30At.PI → Option spec_l30At.PO) (Gspec_l30Put : spec_l30Put.PI → Option spec_l30Put.PO) (Gspec_l30Word : spec_l30Word.PI → Option spec_l30Word.PO) (Gspec_l40Num : spec_l40Num.PI → Option spec_l40Num.PO) (x0_0 : List UInt8) (x0_1 : Int) (x0_2 : Bool) (s1 : List (List UInt8)) (s2 : List (Int × Int × Int × Int)) : Option PO :=
  Option.bind (Gspec_l30Word (x0_0, x0_1, x0_2, s1, s2, ())) fun y0 =>
  Option.bind (Gspec_l30At (y0.2.1, y0.1, ())) fun y1 =>
  bif decide (y1.1 ≥ 0) then
    Option.bind (Gspec_l30Put (x0_0, wI (x0_1 + (y0.1.length : Int)), x0_2, (1, y1.1, 0, 0), y0.2.1, y0.2.2.1, ())) fun y2 =>
    some (y2.1, y2.2.1, y2.2.2.1, y2.2.2.2.1, y2.2.2.2.2.1, y2.2.2.2.2.2.1, ())
  else
    Option.bind (Gspec_l40Num (y0.1, ())) fun y3 =>
    bif !y3.2.1 then
      some (x0_0, wI (x0_1 + (y0.1.length : Int)), false, 0, y0.2.1, y0.2.2.1, ())
    else
      Option.bind (Gspec_l1In (y3.1, (-9999), 9999, ())) fun y4 =>
      bif !y4.1 then
        some (x0_0, wI (x0_1 + (y0.1.length : Int)), false, 0, y0.2.1, y0.2.2.1, ())
      else
        Option.bind (Gspec_l30Put (x0_0, wI (x0_1 + (y0.1.length : Int)), x0_2, (0, y3.1, 0, 0), y0.2.1, y0.2.2.1, ())) fun y5 =>
        some (y5.1, y5.2.1, y5.2.2.1, y5.2.2.2.1, y5.2.2.2.2.1, y5.2.2.2.2.2.1, ())
noncomputable def hd {R : Type} (Gspec_l1In : spec_l1In.PI → Option spec_l1In.PO) (Gspec_l30At : spec_l30At.PI → Option spec_l30At.PO) (Gspec_l30Put : spec_l30Put.PI → Option spec_l30Put.PO) (Gspec_l30Word : spec_l30Word.PI → Option spec_l30Word.PO) (Gspec_l40Num : spec_l40Num.PI → Option spec_l40Num.PO) : Hand R := (handAt 32 [30] true ⟨1, 2, 0, spec_l40Num.pin, spec_l40Num.pout, Gspec_l40Num⟩ (handAt 31 [9] true ⟨1, 1, 1, spec_l30Word.pin, spec_l30Word.pout, Gspec_l30Word⟩ (handAt 30 [37] true ⟨3, 1, 3, spec_l1In.pin, spec_l1In.pout, Gspec_l1In⟩ (handAt 21 [25, 45] true ⟨2, 2, 2, spec_l30Put.pin, spec_l30Put.pout, Gspec_l30Put⟩ (handAt 20 [19] true ⟨2, 1, 2, spec_l30At.pin, spec_l30At.pout, Gspec_l30At⟩ handNil)))))
noncomputable def pg (Gspec_l1In : spec_l1In.PI → Option spec_l1In.PO) (Gspec_l30At : spec_l30At.PI → Option spec_l30At.PO) (Gspec_l30Put : spec_l30Put.PI → Option spec_l30Put.PO) (Gspec_l30Word : spec_l30Word.PI → Option spec_l30Word.PO) (Gspec_l40Num : spec_l40Num.PI → Option spec_l40Num.PO) : Prog PO := { nt := 48, np := 1, tb := tabOf tab, hd := hd Gspec_l1In Gspec_l30At Gspec_l30Put Gspec_l30Word Gspec_l40Num, cuts := cutsOf [], fin := endOf (tabOf tab) rs 1 pout }
noncomputable def q : FuncId → Bool := fun f => hasId [20, 30, 32] f
theorem seg0 (Gspec_l1In : spec_l1In.PI → Option spec_l1In.PO) (Gspec_l30At : spec_l30At.PI → Option spec_l30At.PO) (Gspec_l30Put : spec_l30Put.PI → Option spec_l30Put.PO) (Gspec_l30Word : spec_l30Word.PI → Option spec_l30Word.PO) (Gspec_l40Num : spec_l40Num.PI → Option spec_l40Num.PO) (x0_0 : List UInt8) (x0_1 : Int) (x0_2 : Bool) (s1 : List (List UInt8)) (s2 : List (Int × Int × Int × Int)) : arun (pg Gspec_l1In Gspec_l30At Gspec_l30Put Gspec_l30Word Gspec_l40Num) 5000 [.code c0] (mk pin (x0_0, x0_1, x0_2, s1, s2, ())) = F0 Gspec_l1In Gspec_l30At Gspec_l30Put Gspec_l30Word Gspec_l40Num x0_0 x0_1 x0_2 s1 s2 := by kernel_rfl
noncomputable def impl : PI → Option PO := fun x => F0 spec_l1In.impl spec_l30At.impl spec_l30Put.impl spec_l30Word.impl spec_l40Num.impl x.1 x.2.1 x.2.2.1 x.2.2.2.1 x.2.2.2.2.1
theorem impl_eq (x0_0 : List UInt8) (x0_1 : Int) (x0_2 : Bool) (s1 : List (List UInt8)) (s2 : List (Int × Int × Int × Int)) : impl (x0_0, x0_1, x0_2, s1, s2, ()) = F0 spec_l1In.impl spec_l30At.impl spec_l30Put.impl spec_l30Word.impl spec_l40Num.impl x0_0 x0_1 x0_2 s1 s2 := rfl
theorem con : Con Tryd.prog 22 1 rs.length 1 pin pout impl := by
  refine con_of_run' (nt := 48) (c := c0) tabGood Tryd.func22 (by kernel_rfl) (by kernel_rfl) (by kernel_rfl) (by kernel_rfl) (by kernel_rfl) (by kernel_rfl) (by kernel_rfl) ?_
  intro w0 O y hnp
  generalize hPost : (fun (a' : Act) (w' : World) => ∃ μ' S' st', Rel 48 w0 O μ' S' st' a' w' ∧ endOf (tabOf tab) rs 1 pout st' = some y) = Post
  have fin : ∀ (μ : Id → Option Value) (S : Nat → Prop) (st : St) (a : Act) (w : World), Rel 48 w0 O μ S st a w → endOf (tabOf tab) rs 1 pout st = some y → Post a w := fun μ S st a w h he => by rw [← hPost]; exact ⟨μ, S, st, h, he⟩
  have hp : Parts Tryd.prog 22 (pg spec_l1In.impl spec_l30At.impl spec_l30Put.impl spec_l30Word.impl spec_l40Num.impl) [] := ⟨tab_ok tabGood rfl, (handAt_ok spec_l40Num.con (handAt_ok spec_l30Word.con (handAt_ok spec_l1In.con (handAt_ok spec_l30Put.con (handAt_ok spec_l30At.con handNil_ok))))), rfl⟩
  exact good_first (hp) (runOK_of (hp) hnp trivial fin) (fun x => (seg0 spec_l1In.impl spec_l30At.impl spec_l30Put.impl spec_l30Word.impl spec_l40Num.impl x.1 x.2.1 x.2.2.1 x.2.2.2.1 x.2.2.2.2.1))
end spec_l30Leaf

/-! ### loop.example/wholecheck/spec.l30Take -/
namespace spec_l30Take
noncomputable abbrev c0 : Code := (Tryd.f23.body).getD .skip
noncomputable abbrev pin : Tpl := ⟨[⟨0, true, [.d .str, .d (.int .i64), .row 500001, .row 500002, .d .bool]⟩, ⟨1, false, [.d .str]⟩], [(500001, .row 9 false .str), (500002, .row 40 true (.prod (.int .i64) (.prod (.int .i64) (.prod (.int .i64) (.last (.int .i64))))))]⟩
noncomputable abbrev pout : Tpl := ⟨[⟨0, true, [.d .str, .d (.int .i64), .row 500001, .row 500002, .d .bool]⟩, ⟨1, true, [.any, .any, .row 500001, .row 500002, .any]⟩], [(500001, .row 9 false .str), (500002, .row 40 true (.prod (.int .i64) (.prod (.int .i64) (.prod (.int .i64) (.last (.int .i64))))))]⟩
noncomputable abbrev p4 : Tpl := ⟨[⟨0, true, [.d .str, .d (.int .i64), .row 500001, .row 500002, .d .bool]⟩, ⟨1, false, [.d .str]⟩, ⟨2, false, [.ptr 3000000 0]⟩, ⟨4, false, [.ptr 3000001 0]⟩], [(500001, .row 9 false .str), (500002, .row 40 true (.prod (.int .i64) (.prod (.int .i64) (.prod (.int .i64) (.last (.int .i64)))))), (3000000, .box [.d .str, .d (.int .i64), .row 500001, .row 500002, .d .bool]), (3000001, .box [.d .str, .d (.int .i64), .row 3000002, .row 3000003, .d .bool]), (3000002, .row 9 true .str), (3000003, .row 40 true (.prod (.int .i64) (.prod (.int .i64) (.prod (.int .i64) (.last (.int .i64))))))]⟩
noncomputable def T4 : List Item := (find 4 c0 []).getD []
noncomputable abbrev PI := (List UInt8) × Int × Bool × (List UInt8) × (List (List UInt8)) × (List (Int × Int × Int × Int)) × Unit
noncomputable abbrev PO := (List UInt8) × Int × Bool × (List (List UInt8)) × (List (Int × Int × Int × Int)) × Unit
noncomputable abbrev P4 := (List UInt8) × Int × Bool × (List UInt8) × (List (List UInt8)) × (List (Int × Int × Int × Int)) × (List UInt8) × Int × Bool × (List UInt8) × Int × Bool × (List (List UInt8)) × (List (Int × Int × Int × Int)) × Unit
noncomputable abbrev rs : List ResultVar := [.cell 4 34]
noncomputable def F0 (J4 : P4 → Option PO) (x0_0 : List UInt8) (x0_1 : Int) (x0_2 : Bool) (x1 : List UInt8) (s1 : List (List UInt8)) (s2 : List (Int × Int × Int × Int)) : Option PO :=
  bif !x0_2 then
    some (x0_0, x0_1, false, s1, s2, ())
  else
    bif decide (wI (x0_1 + (x1.length : Int)) > (x0_0.length : Int)) then
      some (x0_0, x0_1, false, s1, s2, ())
    else
      bif decide (0 ≤ x0_1) && decide (x0_1 ≤ wI (x0_1 + (x1.length : Int))) && decide (wI (x0_1 + (x1.length : Int)) ≤ (x0_0.length : Int)) then
        bif !(((x0_0.take (wI (x0_1 + (x1.length : Int))).toNat).drop x0_1.toNat) == x1) then
          some (x0_0, x0_1, false, s1, s2, ())
        else
          J4 (x0_0, x0_1, x0_2, x1, s1, s2, x0_0, x0_1, x0_2, [], 0, false, [], [], ())
      else
        none
noncomputable def F4 (t0_0 : List UInt8) (t0_1 : Int) (t0_2 : Bool) (t1 : List UInt8) (s1 : List (List UInt8)) (s2 : List (Int × Int × Int × Int)) (b0_0 : List UInt8) (b0_1 : Int) (b0_2 : Bool) (b1_0 : List UInt8) (b1_1 : Int) (b1_2 : Bool) (r2 : List (List UInt8)) (r3 : List (Int × Int × Int × Int)) : Option PO :=
  some (b0_0, wI (b0_1 + (t1.length : Int)), b0_2, s1, s2, ())
noncomputable def hd {R : Type} : Hand R := handNil
noncomputable def pg (J4 : List Item → P4 → Option PO) : Prog PO := { nt := 42, np := 2, tb := tabOf tab, hd := hd, cuts := cutsOf [(4, cut p4 J4)], fin := endOf (tabOf tab) rs 2 pout }
noncomputable def q : FuncId → Bool := fun f => hasId [] f
theorem seg0 (J4 : List Item → P4 → Option PO) (x0_0 : List UInt8) (x0_1 : Int) (x0_2 : Bool) (x1 : List UInt8) (s1 : List (List UInt8)) (s2 : List (Int × Int × Int × Int)) : arun (pg J4) 5000 [.code c0] (mk pin (x0_0, x0_1, x0_2, x1, s1, s2, ())) = F0 (J4 T4) x0_0 x0_1 x0_2 x1 s1 s2 := by kernel_rfl
theorem seg4 (J4 : List Item → P4 → Option PO) (t0_0 : List UInt8) (t0_1 : Int) (t0_2 : Bool) (t1 : List UInt8) (s1 : List (List UInt8)) (s2 : List (Int × Int × Int × Int)) (b0_0 : List UInt8) (b0_1 : Int) (b0_2 : Bool) (b1_0 : List UInt8) (b1_1 : Int) (b1_2 : Bool) (r2 : List (List UInt8)) (r3 : List (Int × Int × Int × Int)) : arun1 (pg J4) 5000 T4 (mk p4 (t0_0, t0_1, t0_2, t1, s1, s2, b0_0, b0_1, b0_2, b1_0, b1_1, b1_2, r2, r3, ())) = F4 t0_0 t0_1 t0_2 t1 s1 s2 b0_0 b0_1 b0_2 b1_0 b1_1 b1_2 r2 r3 := by kernel_rfl
noncomputable def L4 : P4 → Option PO := fun x => F4 x.1 x.2.1 x.2.2.1 x.2.2.2.1 x.2.2.2.2.1 x.2.2.2.2.2.1 x.2.2.2.2.2.2.1 x.2.2.2.2.2.2.2.1 x.2.2.2.2.2.2.2.2.1 x.2.2.2.2.2.2.2.2.2.1 x.2.2.2.2.2.2.2.2.2.2.1 x.2.2.2.2.2.2.2.2.2.2.2.1 x.2.2.2.2.2.2.2.2.2.2.2.2.1 x.2.2.2.2.2.2.2.2.2.2.2.2.2.1
noncomputable def impl : PI → Option PO := fun x => F0 L4 x.1 x.2.1 x.2.2.1 x.2.2.2.1 x.2.2.2.2.1 x.2.2.2.2.2.1
theorem L4_eq (t0_0 : List UInt8) (t0_1 : Int) (t0_2 : Bool) (t1 : List UInt8) (s1 : List (List UInt8)) (s2 : List (Int × Int × Int × Int)) (b0_0 : List UInt8) (b0_1 : Int) (b0_2 : Bool) (b1_0 : List UInt8) (b1_1 : Int) (b1_2 : Bool) (r2 : List (List UInt8)) (r3 : List (Int × Int × Int × Int)) : L4 (t0_0, t0_1, t0_2, t1, s1, s2, b0_0, b0_1, b0_2, b1_0, b1_1, b1_2, r2, r3, ()) = F4 t0_0 t0_1 t0_2 t1 s1 s2 b0_0 b0_1 b0_2 b1_0 b1_1 b1_2 r2 r3 := rfl
theorem impl_eq (x0_0 : List UInt8) (x0_1 : Int) (x0_2 : Bool) (x1 : List UInt8) (s1 : List (List UInt8)) (s2 : List (Int × Int × Int × Int)) : impl (x0_0, x0_1, x0_2, x1, s1, s2, ()) = F0 L4 x0_0 x0_1 x0_2 x1 s1 s2 := rfl
theorem con : Con Tryd.prog 23 2 rs.length 2 pin pout impl := by
  refine con_of_run' (nt := 42) (c := c0) tabGood Tryd.func23 (by kernel_rfl) (by kernel_rfl) (by kernel_rfl) (by kernel_rfl) (by kernel_rfl) (by kernel_rfl) (by kernel_rfl) ?_
  intro w0 O y hnp
  generalize hPost : (fun (a' : Act) (w' : World) => ∃ μ' S' st', Rel 42 w0 O μ' S' st' a' w' ∧ endOf (tabOf tab) rs 2 pout st' = some y) = Post
  have fin : ∀ (μ : Id → Option Value) (S : Nat → Prop) (st : St) (a : Act) (w : World), Rel 42 w0 O μ S st a w → endOf (tabOf tab) rs 2 pout st = some y → Post a w := fun μ S st a w h he => by rw [← hPost]; exact ⟨μ, S, st, h, he⟩
  have hp : ∀ (J4 : List Item → P4 → Option PO), Parts Tryd.prog 23 (pg J4) [(4, cut p4 J4)] := fun J4 => ⟨tab_ok tabGood rfl, handNil_ok, rfl⟩
  have g4 : Good Tryd.prog 42 w0 O Post y T4 p4 L4 := good_part (hp (atT T4 (fun _ => none))) (runOK_of (hp (atT T4 (fun _ => none))) hnp ⟨cutOK_at (p := p4) (T := T4) (J := fun _ => none) good_none, trivial⟩ fin) (fun x => (seg4 (atT T4 (fun _ => none)) x.1 x.2.1 x.2.2.1 x.2.2.2.1 x.2.2.2.2.1 x.2.2.2.2.2.1 x.2.2.2.2.2.2.1 x.2.2.2.2.2.2.2.1 x.2.2.2.2.2.2.2.2.1 x.2.2.2.2.2.2.2.2.2.1 x.2.2.2.2.2.2.2.2.2.2.1 x.2.2.2.2.2.2.2.2.2.2.2.1 x.2.2.2.2.2.2.2.2.2.2.2.2.1 x.2.2.2.2.2.2.2.2.2.2.2.2.2.1))
  exact good_first (hp (atT T4 L4)) (runOK_of (hp (atT T4 L4)) hnp ⟨cutOK_at g4, trivial⟩ fin) (fun x => (seg0 (atT T4 L4) x.1 x.2.1 x.2.2.1 x.2.2.2.1 x.2.2.2.2.1 x.2.2.2.2.2.1).trans (by simp only [atT_self] <;> rfl))
end spec_l30Take

/-! ### loop.example/wholecheck/spec.l1Sign -/
namespace spec_l1Sign
noncomputable abbrev c0 : Code := (Tryd.f33.body).getD .skip
noncomputable abbrev pin : Tpl := ⟨[⟨0, false, [.d (.int .i64)]⟩], []⟩
noncomputable abbrev pout : Tpl := ⟨[⟨0, false, [.d .str]⟩], []⟩
noncomputable abbrev PI := Int × Unit
noncomputable abbrev PO := (List UInt8) × Unit
noncomputable abbrev rs : List ResultVar := [.tmp 2]
noncomputable def F0 (x0 : Int) : Option PO :=
  bif inb x0 ([[], [], ([43] : List UInt8), ([45] : List UInt8), ([42] : List UInt8), ([60] : List UInt8), ([61] : List UInt8), ([33] : List UInt8), ([38] : List UInt8), ([124] : List UInt8)] : List (List UInt8)).length then
    some (([[], [], ([43] : List UInt8), ([45] : List UInt8), ([42] : List UInt8), ([60] : List UInt8), ([61] : List UInt8), ([33] : List UInt8), ([38] : List UInt8), ([124] : List UInt8)] : List (List UInt8)).getD x0.toNat [], ())
  else
    none
noncomputable def hd {R : Type} : Hand R := handNil
noncomputable def pg : Prog PO := { nt := 7, np := 1, tb := tabOf tab, hd := hd, cuts := cutsOf [], fin := endOf (tabOf tab) rs 1 pout }
noncomputable def q : FuncId → Bool := fun f => hasId [] f
theorem seg0 (x0 : Int) : arun (pg) 5000 [.code c0] (mk pin (x0, ())) = F0 x0 := by kernel_rfl
noncomputable def impl : PI → Option PO := fun x => F0 x.1
theorem impl_eq (x0 : Int) : impl (x0, ()) = F0 x0 := rfl
theorem con : Con Tryd.prog 33 1 rs.length 1 pin pout impl := by
  refine con_of_run' (nt := 7) (c := c0) tabGood Tryd.func33 (by kernel_rfl) (by kernel_rfl) (by kernel_rfl) (by kernel_rfl) (by kernel_rfl) (by kernel_rfl) (by kernel_rfl) ?_
  intro w0 O y hnp
  generalize hPost : (fun (a' : Act) (w' : World) => ∃ μ' S' st', Rel 7 w0 O μ' S' st' a' w' ∧ endOf (tabOf tab) rs 1 pout st' = some y) = Post
  have fin : ∀ (μ : Id → Option Value) (S : Nat → Prop) (st : St) (a : Act) (w : World), Rel 7 w0 O μ S st a w → endOf (tabOf tab) rs 1 pout st = some y → Post a w := fun μ S st a w h he => by rw [← hPost]; exact ⟨μ, S, st, h, he⟩
  have hp : Parts Tryd.prog 33 (pg) [] := ⟨tab_ok tabGood rfl, handNil_ok, rfl⟩
  exact good_first (hp) (runOK_of (hp) hnp trivial fin) (fun x => (seg0 x.1))
end spec_l1Sign

/-! ### loop.example/wholecheck/spec.l30Op -/
namespace spec_l30Op
noncomputable abbrev c0 : Code := (Tryd.f24.body).getD .skip
noncomputable abbrev pin : Tpl := ⟨[⟨0, false, [.d (.int .u8)]⟩], []⟩
noncomputable abbrev pout : Tpl := ⟨[⟨0, false, [.d (.int .i64)]⟩], []⟩
noncomputable abbrev p2 : Tpl := ⟨[⟨0, false, [.d (.int .u8)]⟩, ⟨3, false, [.d (.int .i64)]⟩], []⟩
noncomputable def T2 : List Item := (find 2 c0 []).getD []
noncomputable abbrev PI := Int × Unit
noncomputable abbrev PO := Int × Unit
noncomputable abbrev P2 := Int × Int × Unit
noncomputable abbrev rs : List ResultVar := [.tmp 2]
noncomputable def F0 (J2 : P2 → Option PO) (x0 : Int) : Option PO :=
  J2 (x0, 2, ())
noncomputable def F2 (J2 : P2 → Option PO) (Gspec_l1Sign : spec_l1Sign.PI → Option spec_l1Sign.PO) (t0 : Int) (t3 : Int) : Option PO :=
  bif decide (t3 ≤ 9) then
    Option.bind (Gspec_l1Sign (t3, ())) fun y0 =>
    bif inb 0 y0.1.length then
      bif ((y0.1.getD 0 0).toNat : Int) == t0 then
        bif t3 != 7 then
          some (t3, ())
        else
          J2 (t0, wI (t3 + 1), ())
      else
        J2 (t0, wI (t3 + 1), ())
    else
      none
  else
    some ((-1), ())
noncomputable def hd {R : Type} (Gspec_l1Sign : spec_l1Sign.PI → Option spec_l1Sign.PO) : Hand R := (handAt 33 [9] true ⟨1, 1, 1, spec_l1Sign.pin, spec_l1Sign.pout, Gspec_l1Sign⟩ handNil)
noncomputable def pg (Gspec_l1Sign : spec_l1Sign.PI → Option spec_l1Sign.PO) (J2 : List Item → P2 → Option PO) : Prog PO := { nt := 18, np := 1, tb := tabOf tab, hd := hd Gspec_l1Sign, cuts := cutsOf [(2, cut p2 J2)], fin := endOf (tabOf tab) rs 1 pout }
noncomputable def q : FuncId → Bool := fun f => hasId [33] f
theorem seg0 (Gspec_l1Sign : spec_l1Sign.PI → Option spec_l1Sign.PO) (J2 : List Item → P2 → Option PO) (x0 : Int) : arun (pg Gspec_l1Sign J2) 5000 [.code c0] (mk pin (x0, ())) = F0 (J2 T2) x0 := by kernel_rfl
theorem seg2 (Gspec_l1Sign : spec_l1Sign.PI → Option spec_l1Sign.PO) (J2 : List Item → P2 → Option PO) (t0 : Int) (t3 : Int) : arun1 (pg Gspec_l1Sign J2) 5000 T2 (mk p2 (t0, t3, ())) = F2 (J2 T2) Gspec_l1Sign t0 t3 := by kernel_rfl
noncomputable def L2 : P2 → Option PO := lfp fun J2 x => F2 J2 spec_l1Sign.impl x.1 x.2.1
noncomputable def impl : PI → Option PO := fun x => F0 L2 x.1
theorem F2_le {J2 J2' : P2 → Option PO} (h2 : OLe J2 J2') {Gspec_l1Sign : spec_l1Sign.PI → Option spec_l1Sign.PO} (t0 : Int) (t3 : Int) : OptLe (F2 J2 Gspec_l1Sign t0 t3) (F2 J2' Gspec_l1Sign t0 t3) := by unfold F2; exact .cond (.bind (.refl _) fun _ => .cond (.cond (.cond (.refl _) (.of h2 _)) (.of h2 _)) (.refl _)) (.refl _)
theorem L2_mono : OMono fun J2 (x : P2) => F2 J2 spec_l1Sign.impl x.1 x.2.1 := fun J J' h2 x => F2_le h2 x.1 x.2.1
theorem L2_eq (t0 : Int) (t3 : Int) : L2 (t0, t3, ()) = F2 (L2) spec_l1Sign.impl t0 t3 := congrFun (lfp_eq (L2_mono)) _
theorem impl_eq (x0 : Int) : impl (x0, ()) = F0 L2 x0 := rfl
theorem con : Con Tryd.prog 24 1 rs.length 1 pin pout impl := by
  refine con_of_run' (nt := 18) (c := c0) tabGood Tryd.func24 (by kernel_rfl) (by kernel_rfl) (by kernel_rfl) (by kernel_rfl) (by kernel_rfl) (by kernel_rfl) (by kernel_rfl) ?_
  intro w0 O y hnp
  generalize hPost : (fun (a' : Act) (w' : World) => ∃ μ' S' st', Rel 18 w0 O μ' S' st' a' w' ∧ endOf (tabOf tab) rs 1 pout st' = some y) = Post
  have fin : ∀ (μ : Id → Option Value) (S : Nat → Prop) (st : St) (a : Act) (w : World), Rel 18 w0 O μ S st a w → endOf (tabOf tab) rs 1 pout st = some y → Post a w := fun μ S st a w h he => by rw [← hPost]; exact ⟨μ, S, st, h, he⟩
  have hp : ∀ (J2 : List Item → P2 → Option PO), Parts Tryd.prog 24 (pg spec_l1Sign.impl J2) [(2, cut p2 J2)] := fun J2 => ⟨tab_ok tabGood rfl, (handAt_ok spec_l1Sign.con handNil_ok), rfl⟩
  have g2 : Good Tryd.prog 18 w0 O Post y T2 p2 L2 := good_lfp fun J2 h2 => good_part (hp (atT T2 J2)) (runOK_of (hp (atT T2 J2)) hnp ⟨cutOK_at h2, trivial⟩ fin) (fun x => (seg2 spec_l1Sign.impl (atT T2 J2) x.1 x.2.1).trans (by simp only [atT_self] <;> rfl))
  exact good_first (hp (atT T2 L2)) (runOK_of (hp (atT T2 L2)) hnp ⟨cutOK_at g2, trivial⟩ fin) (fun x => (seg0 spec_l1Sign.impl (atT T2 L2) x.1).trans (by simp only [atT_self] <;> rfl))
end spec_l30Op

/-! ### loop.example/wholecheck/spec.l30Expr -/
namespace spec_l30Expr
noncomputable abbrev c0 : Code := (Tryd.f14.body).getD .skip
noncomputable abbrev pin : Tpl := ⟨[⟨0, true, [.d .str, .d (.int .i64), .row 500001, .row 500002, .d .bool]⟩, ⟨1, false, [.d (.int .i64)]⟩], [(500001, .row 9 false .str), (500002, .row 40 true (.prod (.int .i64) (.prod (.int .i64) (.prod (.int .i64) (.last (.int .i64))))))]⟩
noncomputable abbrev pout : Tpl := ⟨[⟨0, true, [.d .str, .d (.int .i64), .row 500001, .row 500002, .d .bool]⟩, ⟨1, false, [.d (.int .i64)]⟩, ⟨2, true, [.any, .any, .row 500001, .any, .any]⟩], [(500001, .row 9 false .str), (500002, .row 40 true (.prod (.int .i64) (.prod (.int .i64) (.prod (.int .i64) (.last (.int .i64))))))]⟩
noncomputable abbrev p4 : Tpl := ⟨[⟨0, true, [.d .str, .d (.int .i64), .row 500001, .row 500002, .d .bool]⟩, ⟨1, false, [.d (.int .i64)]⟩, ⟨2, false, [.ptr 3000000 0]⟩, ⟨4, false, [.ptr 3000001 0]⟩], [(500001, .row 9 false .str), (500002, .row 40 true (.prod (.int .i64) (.prod (.int .i64) (.prod (.int .i64) (.last (.int .i64)))))), (3000000, .box [.d .str, .d (.int .i64), .row 500001, .row 500002, .d .bool]), (3000001, .box [.d .str, .d (.int .i64), .row 3000002, .row 3000003, .d .bool]), (3000002, .row 9 true .str), (3000003, .row 40 true (.prod (.int .i64) (.prod (.int .i64) (.prod (.int .i64) (.last (.int .i64))))))]⟩
noncomputable def T4 : List Item := (find 4 c0 []).getD []
noncomputable abbrev p18 : Tpl := ⟨[⟨0, true, [.d .str, .d (.int .i64), .row 500001, .any, .d .bool]⟩, ⟨1, false, [.d (.int .i64)]⟩, ⟨4, false, [.ptr 3000000 0]⟩, ⟨8, false, [.ptr 3000001 0]⟩, ⟨9, false, [.d (.int .i64)]⟩], [(500001, .row 9 false .str), (3000000, .box [.d .str, .d (.int .i64), .row 3000002, .row 3000003, .d .bool]), (3000001, .box [.d .str, .d (.int .i64), .row 500001, .row 500002, .d .bool]), (3000002, .row 9 true .str), (3000003, .row 40 true (.prod (.int .i64) (.prod (.int .i64) (.prod (.int .i64) (.last (.int .i64)))))), (500002, .row 40 true (.prod (.int .i64) (.prod (.int .i64) (.prod (.int .i64) (.last (.int .i64))))))]⟩
noncomputable def T18 : List Item := (find 18 c0 []).getD []
noncomputable abbrev p25 : Tpl := ⟨[⟨0, true, [.d .str, .d (.int .i64), .row 500001, .any, .d .bool]⟩, ⟨4, false, [.ptr 3000000 0]⟩, ⟨9, false, [.d (.int .i64)]⟩, ⟨10, false, [.d (.int .i64)]⟩, ⟨11, false, [.ptr 3000001 0]⟩, ⟨12, false, [.d (.int .i64)]⟩], [(500001, .row 9 false .str), (3000000, .box [.d .str, .d (.int .i64), .row 3000002, .row 3000003, .d .bool]), (3000001, .box [.d .str, .d (.int .i64), .row 500001, .row 500002, .d .bool]), (3000002, .row 9 true .str), (3000003, .row 40 true (.prod (.int .i64) (.prod (.int .i64) (.prod (.int .i64) (.last (.int .i64)))))), (500002, .row 40 true (.prod (.int .i64) (.prod (.int .i64) (.prod (.int .i64) (.last (.int .i64))))))]⟩
noncomputable def T25 : List Item := (find 25 c0 []).getD []
noncomputable abbrev PI := (List UInt8) × Int × Bool × Int × (List (List UInt8)) × (List (Int × Int × Int × Int)) × Unit
noncomputable abbrev PO := (List UInt8) × Int × Bool × Int × (List (List UInt8)) × (List (Int × Int × Int × Int)) × Unit
noncomputable abbrev P4 := (List UInt8) × Int × Bool × Int × (List (List UInt8)) × (List (Int × Int × Int × Int)) × (List UInt8) × Int × Bool × (List UInt8) × Int × Bool × (List (List UInt8)) × (List (Int × Int × Int × Int)) × Unit
noncomputable abbrev P18 := (List UInt8) × Int × Bool × Int × Int × (List (List UInt8)) × (List UInt8) × Int × Bool × (List UInt8) × Int × Bool × (List (List UInt8)) × (List (Int × Int × Int × Int)) × (List (Int × Int × Int × Int)) × Unit
noncomputable abbrev P25 := (List UInt8) × Int × Bool × Int × Int × Int × (List (List UInt8)) × (List UInt8) × Int × Bool × (List UInt8) × Int × Bool × (List (List UInt8)) × (List (Int × Int × Int × Int)) × (List (Int × Int × Int × Int)) × Unit
noncomputable abbrev rs : List ResultVar := [.cell 4 34, .tmp 5]
noncomputable def F0 (J4 : P4 → Option PO) (x0_0 : List UInt8) (x0_1 : Int) (x0_2 : Bool) (x1 : Int) (s1 : List (List UInt8)) (s2 : List (Int × Int × Int × Int)) : Option PO :=
  bif !x0_2 then
    some (x0_0, x0_1, false, 0, s1, s2, ())
  else
    bif x1 == 0 then
      some (x0_0, x0_1, false, 0, s1, s2, ())
    else
      bif decide (x0_1 ≥ (x0_0.length : Int)) then
        some (x0_0, x0_1, false, 0, s1, s2, ())
      else
        J4 (x0_0, x0_1, x0_2, x1, s1, s2, x0_0, x0_1, x0_2, [], 0, false, [], [], ())
noncomputable def F4 (J18 : P18 → Option PO) (Gspec_l30Expr : PI → Option PO) (Gspec_l30Leaf : spec_l30Leaf.PI → Option spec_l30Leaf.PO) (Gspec_l30Put : spec_l30Put.PI → Option spec_l30Put.PO) (Gspec_l30Take : spec_l30Take.PI → Option spec_l30Take.PO) (t0_0 : List UInt8) (t0_1 : Int) (t0_2 : Bool) (t1 : Int) (s1 : List (List UInt8)) (s2 : List (Int × Int × Int × Int)) (b0_0 : List UInt8) (b0_1 : Int) (b0_2 : Bool) (b1_0 : List UInt8) (b1_1 : Int) (b1_2 : Bool) (r2 : List (List UInt8)) (r3 : List (Int × Int × Int × Int)) : Option PO :=
  bif inb b0_1 b0_0.length then
    bif ((b0_0.getD b0_1.toNat 0).toNat : Int) == 33 then
      Option.bind (Gspec_l30Expr (b0_0, wI (b0_1 + 1), b0_2, wI (t1 - 1), s1, s2, ())) fun y0 =>
      bif !y0.2.2.1 then
        some (y0.1, y0.2.1, y0.2.2.1, 0, y0.2.2.2.2.1, y0.2.2.2.2.2.1, ())
      else
        Option.bind (Gspec_l30Put (y0.1, y0.2.1, y0.2.2.1, (7, 0, y0.2.2.2.1, y0.2.2.2.1), y0.2.2.2.2.1, y0.2.2.2.2.2.1, ())) fun y1 =>
        some (y1.1, y1.2.1, y1.2.2.1, y1.2.2.2.1, y1.2.2.2.2.1, y1.2.2.2.2.2.1, ())
    else
      bif inb b0_1 b0_0.length then
        bif ((b0_0.getD b0_1.toNat 0).toNat : Int) != 40 then
          Option.bind (Gspec_l30Leaf (b0_0, b0_1, b0_2, s1, s2, ())) fun y2 =>
          some (y2.1, y2.2.1, y2.2.2.1, y2.2.2.2.1, y2.2.2.2.2.1, y2.2.2.2.2.2.1, ())
        else
          Option.bind (Gspec_l30Expr (b0_0, wI (b0_1 + 1), b0_2, wI (t1 - 1), s1, s2, ())) fun y3 =>
          Option.bind (Gspec_l30Take (y3.1, y3.2.1, y3.2.2.1, ([32] : List UInt8), y3.2.2.2.2.1, y3.2.2.2.2.2.1, ())) fun y4 =>
          bif !y4.2.2.1 then
            some (y4.1, y4.2.1, false, 0, y4.2.2.2.1, y4.2.2.2.2.1, ())
          else
            bif decide (y4.2.1 ≥ (y4.1.length : Int)) then
              some (y4.1, y4.2.1, false, 0, y4.2.2.2.1, y4.2.2.2.2.1, ())
            else
              J18 (t0_0, t0_1, t0_2, t1, y3.2.2.2.1, y4.2.2.2.1, b1_0, b1_1, b1_2, y4.1, y4.2.1, y4.2.2.1, r2, r3, y4.2.2.2.2.1, ())
      else
        none
  else
    none
noncomputable def F18 (J25 : P25 → Option PO) (Gspec_l30Expr : PI → Option PO) (Gspec_l30Op : spec_l30Op.PI → Option spec_l30Op.PO) (Gspec_l30Take : spec_l30Take.PI → Option spec_l30Take.PO) (t0_0 : List UInt8) (t0_1 : Int) (t0_2 : Bool) (t1 : Int) (t9 : Int) (s1 : List (List UInt8)) (b0_0 : List UInt8) (b0_1 : Int) (b0_2 : Bool) (b1_0 : List UInt8) (b1_1 : Int) (b1_2 : Bool) (r2 : List (List UInt8)) (r3 : List (Int × Int × Int × Int)) (s2 : List (Int × Int × Int × Int)) : Option PO :=
  bif inb b1_1 b1_0.length then
    Option.bind (Gspec_l30Op (((b1_0.getD b1_1.toNat 0).toNat : Int), ())) fun y5 =>
    Option.bind (Gspec_l30Take (b1_0, wI (b1_1 + 1), b1_2, ([32] : List UInt8), s1, s2, ())) fun y6 =>
    Option.bind (Gspec_l30Expr (y6.1, y6.2.1, y6.2.2.1, wI (t1 - 1), y6.2.2.2.1, y6.2.2.2.2.1, ())) fun y7 =>
    Option.bind (Gspec_l30Take (y7.1, y7.2.1, y7.2.2.1, ([41] : List UInt8), y7.2.2.2.2.1, y7.2.2.2.2.2.1, ())) fun y8 =>
    bif !y8.2.2.1 then
      some (y8.1, y8.2.1, false, 0, y8.2.2.2.1, y8.2.2.2.2.1, ())
    else
      bif decide (y5.1 < 0) then
        some (y8.1, y8.2.1, false, 0, y8.2.2.2.1, y8.2.2.2.2.1, ())
      else
        J25 (t0_0, t0_1, t0_2, t9, y5.1, y7.2.2.2.1, y8.2.2.2.1, b0_0, b0_1, b0_2, y8.1, y8.2.1, y8.2.2.1, r2, r3, y8.2.2.2.2.1, ())
  else
    none
noncomputable def F25 (Gspec_l30Put : spec_l30Put.PI → Option spec_l30Put.PO) (t0_0 : List UInt8) (t0_1 : Int) (t0_2 : Bool) (t9 : Int) (t10 : Int) (t12 : Int) (s1 : List (List UInt8)) (b0_0 : List UInt8) (b0_1 : Int) (b0_2 : Bool) (b1_0 : List UInt8) (b1_1 : Int) (b1_2 : Bool) (r2 : List (List UInt8)) (r3 : List (Int × Int × Int × Int)) (s2 : List (Int × Int × Int × Int)) : Option PO :=
  Option.bind (Gspec_l30Put (b1_0, b1_1, b1_2, (t10, 0, t9, t12), s1, s2, ())) fun y9 =>
  some (y9.1, y9.2.1, y9.2.2.1, y9.2.2.2.1, y9.2.2.2.2.1, y9.2.2.2.2.2.1, ())
noncomputable def hd {R : Type} (Gspec_l30Expr : PI → Option PO) (Gspec_l30Leaf : spec_l30Leaf.PI → Option spec_l30Leaf.PO) (Gspec_l30Op : spec_l30Op.PI → Option spec_l30Op.PO) (Gspec_l30Put : spec_l30Put.PI → Option spec_l30Put.PO) (Gspec_l30Take : spec_l30Take.PI → Option spec_l30Take.PO) : Hand R := (handAt 24 [99] true ⟨1, 1, 1, spec_l30Op.pin, spec_l30Op.pout, Gspec_l30Op⟩ (handAt 23 [80, 106, 113] true ⟨2, 1, 2, spec_l30Take.pin, spec_l30Take.pout, Gspec_l30Take⟩ (handAt 22 [65] true ⟨1, 2, 1, spec_l30Leaf.pin, spec_l30Leaf.pout, Gspec_l30Leaf⟩ (handAt 21 [55, 128] true ⟨2, 2, 2, spec_l30Put.pin, spec_l30Put.pout, Gspec_l30Put⟩ (handAt 14 [44, 76, 109] true ⟨2, 2, 2, pin, pout, Gspec_l30Expr⟩ handNil)))))
noncomputable def pg (Gspec_l30Expr : PI → Option PO) (Gspec_l30Leaf : spec_l30Leaf.PI → Option spec_l30Leaf.PO) (Gspec_l30Op : spec_l30Op.PI → Option spec_l30Op.PO) (Gspec_l30Put : spec_l30Put.PI → Option spec_l30Put.PO) (Gspec_l30Take : spec_l30Take.PI → Option spec_l30Take.PO) (J4 : List Item → P4 → Option PO) (J18 : List Item → P18 → Option PO) (J25 : List Item → P25 → Option PO) : Prog PO := { nt := 131, np := 2, tb := tabOf tab, hd := hd Gspec_l30Expr Gspec_l30Leaf Gspec_l30Op Gspec_l30Put Gspec_l30Take, cuts := cutsOf [(4, cut p4 J4), (18, cut p18 J18), (25, cut p25 J25)], fin := endOf (tabOf tab) rs 2 pout }
noncomputable def q : FuncId → Bool := fun f => hasId [24] f
theorem seg0 (Gspec_l30Expr : PI → Option PO) (Gspec_l30Leaf : spec_l30Leaf.PI → Option spec_l30Leaf.PO) (Gspec_l30Op : spec_l30Op.PI → Option spec_l30Op.PO) (Gspec_l30Put : spec_l30Put.PI → Option spec_l30Put.PO) (Gspec_l30Take : spec_l30Take.PI → Option spec_l30Take.PO) (J4 : List Item → P4 → Option PO) (J18 : List Item → P18 → Option PO) (J25 : List Item → P25 → Option PO) (x0_0 : List UInt8) (x0_1 : Int) (x0_2 : Bool) (x1 : Int) (s1 : List (List UInt8)) (s2 : List (Int × Int × Int × Int)) : arun (pg Gspec_l30Expr Gspec_l30Leaf Gspec_l30Op Gspec_l30Put Gspec_l30Take J4 J18 J25) 5000 [.code c0] (mk pin (x0_0, x0_1, x0_2, x1, s1, s2, ())) = F0 (J4 T4) x0_0 x0_1 x0_2 x1 s1 s2 := by kernel_rfl
theorem seg4 (Gspec_l30Expr : PI → Option PO) (Gspec_l30Leaf : spec_l30Leaf.PI → Option spec_l30Leaf.PO) (Gspec_l30Op : spec_l30Op.PI → Option spec_l30Op.PO) (Gspec_l30Put : spec_l30Put.PI → Option spec_l30Put.PO) (Gspec_l30Take : spec_l30Take.PI → Option spec_l30Take.PO) (J4 : List Item → P4 → Option PO) (J18 : List Item → P18 → Option PO) (J25 : List Item → P25 → Option PO) (t0_0 : List UInt8) (t0_1 : Int) (t0_2 : Bool) (t1 : Int) (s1 : List (List UInt8)) (s2 : List (Int × Int × Int × Int)) (b0_0 : List UInt8) (b0_1 : Int) (b0_2 : Bool) (b1_0 : List UInt8) (b1_1 : Int) (b1_2 : Bool) (r2 : List (List UInt8)) (r3 : List (Int × Int × Int × Int)) : arun1 (pg Gspec_l30Expr Gspec_l30Leaf Gspec_l30Op Gspec_l30Put Gspec_l30Take J4 J18 J25) 5000 T4 (mk p4 (t0_0, t0_1, t0_2, t1, s1, s2, b0_0, b0_1, b0_2, b1_0, b1_1, b1_2, r2, r3, ())) = F4 (J18 T18) Gspec_l30Expr Gspec_l30Leaf Gspec_l30Put Gspec_l30Take t0_0 t0_1 t0_2 t1 s1 s2 b0_0 b0_1 b0_2 b1_0 b1_1 b1_2 r2 r3 := by kernel_rfl
theorem seg18 (Gspec_l30Expr : PI → Option PO) (Gspec_l30Leaf : spec_l30Leaf.PI → Option spec_l30Leaf.PO) (Gspec_l30Op : spec_l30Op.PI → Option spec_l30Op.PO) (Gspec_l30Put : spec_l30Put.PI → Option spec_l30Put.PO) (Gspec_l30Take : spec_l30Take.PI → Option spec_l30Take.PO) (J4 : List Item → P4 → Option PO) (J18 : List Item → P18 → Option PO) (J25 : List Item → P25 → Option PO) (t0_0 : List UInt8) (t0_1 : Int) (t0_2 : Bool) (t1 : Int) (t9 : Int) (s1 : List (List UInt8)) (b0_0 : List UInt8) (b0_1 : Int) (b0_2 : Bool) (b1_0 : List UInt8) (b1_1 : Int) (b1_2 : Bool) (r2 : List (List UInt8)) (r3 : List (Int × Int × Int × Int)) (s2 : List (Int × Int × Int × Int)) : arun1 (pg Gspec_l30Expr Gspec_l30Leaf Gspec_l30Op Gspec_l30Put Gspec_l30Take J4 J18 J25) 5000 T18 (mk p18 (t0_0, t0_1, t0_2, t1, t9, s1, b0_0, b0_1, b0_2, b1_0, b1_1, b1_2, r2, r3, s2, ())) = F18 (J25 T25) Gspec_l30Expr Gspec_l30Op Gspec_l30Take t0_0 t0_1 t0_2 t1 t9 s1 b0_0 b0_1 b0_2 b1_0 b1_1 b1_2 r2 r3 s2 := by kernel_rfl
theorem seg25 (Gspec_l30Expr : PI → Option PO) (Gspec_l30Leaf : spec_l30Leaf.PI → Option spec_l30Leaf.PO) (Gspec_l30Op : spec_l30Op.PI → Option spec_l30Op.PO) (Gspec_l30Put : spec_l30Put.PI → Option spec_l30Put.PO) (Gspec_l30Take : spec_l30Take.PI → Option spec_l30Take.PO) (J4 : List Item → P4 → Option PO) (J18 : List Item → P18 → Option PO) (J25 : List Item → P25 → Option PO) (t0_0 : List UInt8) (t0_1 : Int) (t0_2 : Bool) (t9 : Int) (t10 : Int) (t12 : Int) (s1 : List (List UInt8)) (b0_0 : List UInt8) (b0_1 : Int) (b0_2 : Bool) (b1_0 : List UInt8) (b1_1 : Int) (b1_2 : Bool) (r2 : List (List UInt8)) (r3 : List (Int × Int × Int × Int)) (s2 : List (Int × Int × Int × Int)) : arun1 (pg Gspec_l30Expr Gspec_l30Leaf Gspec_l30Op Gspec_l30Put Gspec_l30Take J4 J18 J25) 5000 T25 (mk p25 (t0_0, t0_1, t0_2, t9, t10, t12, s1, b0_0, b0_1, b0_2, b1_0, b1_1, b1_2, r2, r3, s2, ())) = F25 Gspec_l30Put t0_0 t0_1 t0_2 t9 t10 t12 s1 b0_0 b0_1 b0_2 b1_0 b1_1 b1_2 r2 r3 s2 := by kernel_rfl
noncomputable def L25 (Gself : PI → Option PO) : P25 → Option PO := fun x => F25 spec_l30Put.impl x.1 x.2.1 x.2.2.1 x.2.2.2.1 x.2.2.2.2.1 x.2.2.2.2.2.1 x.2.2.2.2.2.2.1 x.2.2.2.2.2.2.2.1 x.2.2.2.2.2.2.2.2.1 x.2.2.2.2.2.2.2.2.2.1 x.2.2.2.2.2.2.2.2.2.2.1 x.2.2.2.2.2.2.2.2.2.2.2.1 x.2.2.2.2.2.2.2.2.2.2.2.2.1 x.2.2.2.2.2.2.2.2.2.2.2.2.2.1 x.2.2.2.2.2.2.2.2.2.2.2.2.2.2.1 x.2.2.2.2.2.2.2.2.2.2.2.2.2.2.2.1
noncomputable def L18 (Gself : PI → Option PO) : P18 → Option PO := fun x => F18 (L25 Gself) Gself spec_l30Op.impl spec_l30Take.impl x.1 x.2.1 x.2.2.1 x.2.2.2.1 x.2.2.2.2.1 x.2.2.2.2.2.1 x.2.2.2.2.2.2.1 x.2.2.2.2.2.2.2.1 x.2.2.2.2.2.2.2.2.1 x.2.2.2.2.2.2.2.2.2.1 x.2.2.2.2.2.2.2.2.2.2.1 x.2.2.2.2.2.2.2.2.2.2.2.1 x.2.2.2.2.2.2.2.2.2.2.2.2.1 x.2.2.2.2.2.2.2.2.2.2.2.2.2.1 x.2.2.2.2.2.2.2.2.2.2.2.2.2.2.1
noncomputable def L4 (Gself : PI → Option PO) : P4 → Option PO := fun x => F4 (L18 Gself) Gself spec_l30Leaf.impl spec_l30Put.impl spec_l30Take.impl x.1 x.2.1 x.2.2.1 x.2.2.2.1 x.2.2.2.2.1 x.2.2.2.2.2.1 x.2.2.2.2.2.2.1 x.2.2.2.2.2.2.2.1 x.2.2.2.2.2.2.2.2.1 x.2.2.2.2.2.2.2.2.2.1 x.2.2.2.2.2.2.2.2.2.2.1 x.2.2.2.2.2.2.2.2.2.2.2.1 x.2.2.2.2.2.2.2.2.2.2.2.2.1 x.2.2.2.2.2.2.2.2.2.2.2.2.2.1
noncomputable def step (Gself : PI → Option PO) : PI → Option PO := fun x => F0 (L4 Gself) x.1 x.2.1 x.2.2.1 x.2.2.2.1 x.2.2.2.2.1 x.2.2.2.2.2.1
noncomputable def impl : PI → Option PO := lfp step
theorem F25_le {Gspec_l30Put : spec_l30Put.PI → Option spec_l30Put.PO} (t0_0 : List UInt8) (t0_1 : Int) (t0_2 : Bool) (t9 : Int) (t10 : Int) (t12 : Int) (s1 : List (List UInt8)) (b0_0 : List UInt8) (b0_1 : Int) (b0_2 : Bool) (b1_0 : List UInt8) (b1_1 : Int) (b1_2 : Bool) (r2 : List (List UInt8)) (r3 : List (Int × Int × Int × Int)) (s2 : List (Int × Int × Int × Int)) : OptLe (F25 Gspec_l30Put t0_0 t0_1 t0_2 t9 t10 t12 s1 b0_0 b0_1 b0_2 b1_0 b1_1 b1_2 r2 r3 s2) (F25 Gspec_l30Put t0_0 t0_1 t0_2 t9 t10 t12 s1 b0_0 b0_1 b0_2 b1_0 b1_1 b1_2 r2 r3 s2) := by unfold F25; exact .refl _
theorem F18_le {J25 J25' : P25 → Option PO} (h25 : OLe J25 J25') {Gself Gself' : PI → Option PO} (hG : OLe Gself Gself') {Gspec_l30Op : spec_l30Op.PI → Option spec_l30Op.PO} {Gspec_l30Take : spec_l30Take.PI → Option spec_l30Take.PO} (t0_0 : List UInt8) (t0_1 : Int) (t0_2 : Bool) (t1 : Int) (t9 : Int) (s1 : List (List UInt8)) (b0_0 : List UInt8) (b0_1 : Int) (b0_2 : Bool) (b1_0 : List UInt8) (b1_1 : Int) (b1_2 : Bool) (r2 : List (List UInt8)) (r3 : List (Int × Int × Int × Int)) (s2 : List (Int × Int × Int × Int)) : OptLe (F18 J25 Gself Gspec_l30Op Gspec_l30Take t0_0 t0_1 t0_2 t1 t9 s1 b0_0 b0_1 b0_2 b1_0 b1_1 b1_2 r2 r3 s2) (F18 J25' Gself' Gspec_l30Op Gspec_l30Take t0_0 t0_1 t0_2 t1 t9 s1 b0_0 b0_1 b0_2 b1_0 b1_1 b1_2 r2 r3 s2) := by unfold F18; exact .cond (.bind (.refl _) fun _ => .bind (.refl _) fun _ => .bind (.of hG _) fun _ => .bind (.refl _) fun _ => .cond (.refl _) (.cond (.refl _) (.of h25 _))) (.refl _)
theorem F4_le {J18 J18' : P18 → Option PO} (h18 : OLe J18 J18') {Gself Gself' : PI → Option PO} (hG : OLe Gself Gself') {Gspec_l30Leaf : spec_l30Leaf.PI → Option spec_l30Leaf.PO} {Gspec_l30Put : spec_l30Put.PI → Option spec_l30Put.PO} {Gspec_l30Take : spec_l30Take.PI → Option spec_l30Take.PO} (t0_0 : List UInt8) (t0_1 : Int) (t0_2 : Bool) (t1 : Int) (s1 : List (List UInt8)) (s2 : List (Int × Int × Int × Int)) (b0_0 : List UInt8) (b0_1 : Int) (b0_2 : Bool) (b1_0 : List UInt8) (b1_1 : Int) (b1_2 : Bool) (r2 : List (List UInt8)) (r3 : List (Int × Int × Int × Int)) : OptLe (F4 J18 Gself Gspec_l30Leaf Gspec_l30Put Gspec_l30Take t0_0 t0_1 t0_2 t1 s1 s2 b0_0 b0_1 b0_2 b1_0 b1_1 b1_2 r2 r3) (F4 J18' Gself' Gspec_l30Leaf Gspec_l30Put Gspec_l30Take t0_0 t0_1 t0_2 t1 s1 s2 b0_0 b0_1 b0_2 b1_0 b1_1 b1_2 r2 r3) := by unfold F4; exact .cond (.cond (.bind (.of hG _) fun _ => .refl _) (.cond (.cond (.refl _) (.bind (.of hG _) fun _ => .bind (.refl _) fun _ => .cond (.refl _) (.cond (.refl _) (.of h18 _)))) (.refl _))) (.refl _)
theorem F0_le {J4 J4' : P4 → Option PO} (h4 : OLe J4 J4') (x0_0 : List UInt8) (x0_1 : Int) (x0_2 : Bool) (x1 : Int) (s1 : List (List UInt8)) (s2 : List (Int × Int × Int × Int)) : OptLe (F0 J4 x0_0 x0_1 x0_2 x1 s1 s2) (F0 J4' x0_0 x0_1 x0_2 x1 s1 s2) := by unfold F0; exact .cond (.refl _) (.cond (.refl _) (.cond (.refl _) (.of h4 _)))
theorem L25_eq (Gself : PI → Option PO) (t0_0 : List UInt8) (t0_1 : Int) (t0_2 : Bool) (t9 : Int) (t10 : Int) (t12 : Int) (s1 : List (List UInt8)) (b0_0 : List UInt8) (b0_1 : Int) (b0_2 : Bool) (b1_0 : List UInt8) (b1_1 : Int) (b1_2 : Bool) (r2 : List (List UInt8)) (r3 : List (Int × Int × Int × Int)) (s2 : List (Int × Int × Int × Int)) : L25 Gself (t0_0, t0_1, t0_2, t9, t10, t12, s1, b0_0, b0_1, b0_2, b1_0, b1_1, b1_2, r2, r3, s2, ()) = F25 spec_l30Put.impl t0_0 t0_1 t0_2 t9 t10 t12 s1 b0_0 b0_1 b0_2 b1_0 b1_1 b1_2 r2 r3 s2 := rfl
theorem L25_le {Gself Gself' : PI → Option PO} (hG : OLe Gself Gself') : OLe (L25 Gself) (L25 Gself') := fun x => F25_le x.1 x.2.1 x.2.2.1 x.2.2.2.1 x.2.2.2.2.1 x.2.2.2.2.2.1 x.2.2.2.2.2.2.1 x.2.2.2.2.2.2.2.1 x.2.2.2.2.2.2.2.2.1 x.2.2.2.2.2.2.2.2.2.1 x.2.2.2.2.2.2.2.2.2.2.1 x.2.2.2.2.2.2.2.2.2.2.2.1 x.2.2.2.2.2.2.2.2.2.2.2.2.1 x.2.2.2.2.2.2.2.2.2.2.2.2.2.1 x.2.2.2.2.2.2.2.2.2.2.2.2.2.2.1 x.2.2.2.2.2.2.2.2.2.2.2.2.2.2.2.1
theorem L18_eq (Gself : PI → Option PO) (t0_0 : List UInt8) (t0_1 : Int) (t0_2 : Bool) (t1 : Int) (t9 : Int) (s1 : List (List UInt8)) (b0_0 : List UInt8) (b0_1 : Int) (b0_2 : Bool) (b1_0 : List UInt8) (b1_1 : Int) (b1_2 : Bool) (r2 : List (List UInt8)) (r3 : List (Int × Int × Int × Int)) (s2 : List (Int × Int × Int × Int)) : L18 Gself (t0_0, t0_1, t0_2, t1, t9, s1, b0_0, b0_1, b0_2, b1_0, b1_1, b1_2, r2, r3, s2, ()) = F18 (L25 Gself) Gself spec_l30Op.impl spec_l30Take.impl t0_0 t0_1 t0_2 t1 t9 s1 b0_0 b0_1 b0_2 b1_0 b1_1 b1_2 r2 r3 s2 := rfl
theorem L18_le {Gself Gself' : PI → Option PO} (hG : OLe Gself Gself') : OLe (L18 Gself) (L18 Gself') := fun x => F18_le (L25_le hG) hG x.1 x.2.1 x.2.2.1 x.2.2.2.1 x.2.2.2.2.1 x.2.2.2.2.2.1 x.2.2.2.2.2.2.1 x.2.2.2.2.2.2.2.1 x.2.2.2.2.2.2.2.2.1 x.2.2.2.2.2.2.2.2.2.1 x.2.2.2.2.2.2.2.2.2.2.1 x.2.2.2.2.2.2.2.2.2.2.2.1 x.2.2.2.2.2.2.2.2.2.2.2.2.1 x.2.2.2.2.2.2.2.2.2.2.2.2.2.1 x.2.2.2.2.2.2.2.2.2.2.2.2.2.2.1
theorem L4_eq (Gself : PI → Option PO) (t0_0 : List UInt8) (t0_1 : Int) (t0_2 : Bool) (t1 : Int) (s1 : List (List UInt8)) (s2 : List (Int × Int × Int × Int)) (b0_0 : List UInt8) (b0_1 : Int) (b0_2 : Bool) (b1_0 : List UInt8) (b1_1 : Int) (b1_2 : Bool) (r2 : List (List UInt8)) (r3 : List (Int × Int × Int × Int)) : L4 Gself (t0_0, t0_1, t0_2, t1, s1, s2, b0_0, b0_1, b0_2, b1_0, b1_1, b1_2, r2, r3, ()) = F4 (L18 Gself) Gself spec_l30Leaf.impl spec_l30Put.impl spec_l30Take.impl t0_0 t0_1 t0_2 t1 s1 s2 b0_0 b0_1 b0_2 b1_0 b1_1 b1_2 r2 r3 := rfl
theorem L4_le {Gself Gself' : PI → Option PO} (hG : OLe Gself Gself') : OLe (L4 Gself) (L4 Gself') := fun x => F4_le (L18_le hG) hG x.1 x.2.1 x.2.2.1 x.2.2.2.1 x.2.2.2.2.1 x.2.2.2.2.2.1 x.2.2.2.2.2.2.1 x.2.2.2.2.2.2.2.1 x.2.2.2.2.2.2.2.2.1 x.2.2.2.2.2.2.2.2.2.1 x.2.2.2.2.2.2.2.2.2.2.1 x.2.2.2.2.2.2.2.2.2.2.2.1 x.2.2.2.2.2.2.2.2.2.2.2.2.1 x.2.2.2.2.2.2.2.2.2.2.2.2.2.1
theorem step_mono : OMono step := fun G G' hG x => F0_le (L4_le hG) x.1 x.2.1 x.2.2.1 x.2.2.2.1 x.2.2.2.2.1 x.2.2.2.2.2.1
theorem impl_eq (x0_0 : List UInt8) (x0_1 : Int) (x0_2 : Bool) (x1 : Int) (s1 : List (List UInt8)) (s2 : List (Int × Int × Int × Int)) : impl (x0_0, x0_1, x0_2, x1, s1, s2, ()) = F0 (L4 impl) x0_0 x0_1 x0_2 x1 s1 s2 := congrFun (lfp_eq step_mono) _
theorem con_step (Gself : PI → Option PO) (hself : Con Tryd.prog 14 2 rs.length 2 pin pout Gself) : Con Tryd.prog 14 2 rs.length 2 pin pout (step Gself) := by
  refine con_of_run' (nt := 131) (c := c0) tabGood Tryd.func14 (by kernel_rfl) (by kernel_rfl) (by kernel_rfl) (by kernel_rfl) (by kernel_rfl) (by kernel_rfl) (by kernel_rfl) ?_
  intro w0 O y hnp
  generalize hPost : (fun (a' : Act) (w' : World) => ∃ μ' S' st', Rel 131 w0 O μ' S' st' a' w' ∧ endOf (tabOf tab) rs 2 pout st' = some y) = Post
  have fin : ∀ (μ : Id → Option Value) (S : Nat → Prop) (st : St) (a : Act) (w : World), Rel 131 w0 O μ S st a w → endOf (tabOf tab) rs 2 pout st = some y → Post a w := fun μ S st a w h he => by rw [← hPost]; exact ⟨μ, S, st, h, he⟩
  have hp : ∀ (J4 : List Item → P4 → Option PO), ∀ (J18 : List Item → P18 → Option PO), ∀ (J25 : List Item → P25 → Option PO), Parts Tryd.prog 14 (pg Gself spec_l30Leaf.impl spec_l30Op.impl spec_l30Put.impl spec_l30Take.impl J4 J18 J25) [(4, cut p4 J4), (18, cut p18 J18), (25, cut p25 J25)] := fun J4 J18 J25 => ⟨tab_ok tabGood rfl, (handAt_ok spec_l30Op.con (handAt_ok spec_l30Take.con (handAt_ok spec_l30Leaf.con (handAt_ok spec_l30Put.con (handAt_ok hself handNil_ok))))), rfl⟩
  have g25 : Good Tryd.prog 131 w0 O Post y T25 p25 (L25 Gself) := good_part (hp (atT T4 (fun _ => none)) (atT T18 (fun _ => none)) (atT T25 (fun _ => none))) (runOK_of (hp (atT T4 (fun _ => none)) (atT T18 (fun _ => none)) (atT T25 (fun _ => none))) hnp ⟨cutOK_at (p := p4) (T := T4) (J := fun _ => none) good_none, cutOK_at (p := p18) (T := T18) (J := fun _ => none) good_none, cutOK_at (p := p25) (T := T25) (J := fun _ => none) good_none, trivial⟩ fin) (fun x => (seg25 Gself spec_l30Leaf.impl spec_l30Op.impl spec_l30Put.impl spec_l30Take.impl (atT T4 (fun _ => none)) (atT T18 (fun _ => none)) (atT T25 (fun _ => none)) x.1 x.2.1 x.2.2.1 x.2.2.2.1 x.2.2.2.2.1 x.2.2.2.2.2.1 x.2.2.2.2.2.2.1 x.2.2.2.2.2.2.2.1 x.2.2.2.2.2.2.2.2.1 x.2.2.2.2.2.2.2.2.2.1 x.2.2.2.2.2.2.2.2.2.2.1 x.2.2.2.2.2.2.2.2.2.2.2.1 x.2.2.2.2.2.2.2.2.2.2.2.2.1 x.2.2.2.2.2.2.2.2.2.2.2.2.2.1 x.2.2.2.2.2.2.2.2.2.2.2.2.2.2.1 x.2.2.2.2.2.2.2.2.2.2.2.2.2.2.2.1))
  have g18 : Good Tryd.prog 131 w0 O Post y T18 p18 (L18 Gself) := good_part (hp (atT T4 (fun _ => none)) (atT T18 (fun _ => none)) (atT T25 (L25 Gself))) (runOK_of (hp (atT T4 (fun _ => none)) (atT T18 (fun _ => none)) (atT T25 (L25 Gself))) hnp ⟨cutOK_at (p := p4) (T := T4) (J := fun _ => none) good_none, cutOK_at (p := p18) (T := T18) (J := fun _ => none) good_none, cutOK_at g25, trivial⟩ fin) (fun x => (seg18 Gself spec_l30Leaf.impl spec_l30Op.impl spec_l30Put.impl spec_l30Take.impl (atT T4 (fun _ => none)) (atT T18 (fun _ => none)) (atT T25 (L25 Gself)) x.1 x.2.1 x.2.2.1 x.2.2.2.1 x.2.2.2.2.1 x.2.2.2.2.2.1 x.2.2.2.2.2.2.1 x.2.2.2.2.2.2.2.1 x.2.2.2.2.2.2.2.2.1 x.2.2.2.2.2.2.2.2.2.1 x.2.2.2.2.2.2.2.2.2.2.1 x.2.2.2.2.2.2.2.2.2.2.2.1 x.2.2.2.2.2.2.2.2.2.2.2.2.1 x.2.2.2.2.2.2.2.2.2.2.2.2.2.1 x.2.2.2.2.2.2.2.2.2.2.2.2.2.2.1).trans (by simp only [atT_self] <;> rfl))
  have g4 : Good Tryd.prog 131 w0 O Post y T4 p4 (L4 Gself) := good_part (hp (atT T4 (fun _ => none)) (atT T18 (L18 Gself)) (atT T25 (fun _ => none))) (runOK_of (hp (atT T4 (fun _ => none)) (atT T18 (L18 Gself)) (atT T25 (fun _ => none))) hnp ⟨cutOK_at (p := p4) (T := T4) (J := fun _ => none) good_none, cutOK_at g18, cutOK_at (p := p25) (T := T25) (J := fun _ => none) good_none, trivial⟩ fin) (fun x => (seg4 Gself spec_l30Leaf.impl spec_l30Op.impl spec_l30Put.impl spec_l30Take.impl (atT T4 (fun _ => none)) (atT T18 (L18 Gself)) (atT T25 (fun _ => none)) x.1 x.2.1 x.2.2.1 x.2.2.2.1 x.2.2.2.2.1 x.2.2.2.2.2.1 x.2.2.2.2.2.2.1 x.2.2.2.2.2.2.2.1 x.2.2.2.2.2.2.2.2.1 x.2.2.2.2.2.2.2.2.2.1 x.2.2.2.2.2.2.2.2.2.2.1 x.2.2.2.2.2.2.2.2.2.2.2.1 x.2.2.2.2.2.2.2.2.2.2.2.2.1 x.2.2.2.2.2.2.2.2.2.2.2.2.2.1).trans (by simp only [atT_self] <;> rfl))
  exact good_first (hp (atT T4 (L4 Gself)) (atT T18 (fun _ => none)) (atT T25 (fun _ => none))) (runOK_of (hp (atT T4 (L4 Gself)) (atT T18 (fun _ => none)) (atT T25 (fun _ => none))) hnp ⟨cutOK_at g4, cutOK_at (p := p18) (T := T18) (J := fun _ => none) good_none, cutOK_at (p := p25) (T := T25) (J := fun _ => none) good_none, trivial⟩ fin) (fun x => (seg0 Gself spec_l30Leaf.impl spec_l30Op.impl spec_l30Put.impl spec_l30Take.impl (atT T4 (L4 Gself)) (atT T18 (fun _ => none)) (atT T25 (fun _ => none)) x.1 x.2.1 x.2.2.1 x.2.2.2.1 x.2.2.2.2.1 x.2.2.2.2.2.1).trans (by simp only [atT_self] <;> rfl))
theorem con : Con Tryd.prog 14 2 rs.length 2 pin pout impl := con_lfp (c := c0) Tryd.func14 (by kernel_rfl) (by kernel_rfl) (by kernel_rfl) con_step
end spec_l30Expr

/-! ### loop.example/wholecheck/spec.l1One -/
namespace spec_l1One
noncomputable abbrev c0 : Code := (Tryd.f43.body).getD .skip
noncomputable abbrev pin : Tpl := ⟨[⟨0, false, [.d (.int .i64)]⟩], []⟩
noncomputable abbrev pout : Tpl := ⟨[⟨0, false, [.d .bool]⟩], []⟩
noncomputable abbrev PI := Int × Unit
noncomputable abbrev PO := Bool × Unit
noncomputable abbrev rs : List ResultVar := [.tmp 2]
noncomputable def F0 (x0 : Int) : Option PO :=
  some (x0 == 7, ())
noncomputable def hd {R : Type} : Hand R := handNil
noncomputable def pg : Prog PO := { nt := 5, np := 1, tb := tabOf tab, hd := hd, cuts := cutsOf [], fin := endOf (tabOf tab) rs 1 pout }
noncomputable def q : FuncId → Bool := fun f => hasId [] f
theorem seg0 (x0 : Int) : arun (pg) 5000 [.code c0] (mk pin (x0, ())) = F0 x0 := by kernel_rfl
noncomputable def impl : PI → Option PO := fun x => F0 x.1
theorem impl_eq (x0 : Int) : impl (x0, ()) = F0 x0 := rfl
theorem con : Con Tryd.prog 43 1 rs.length 1 pin pout impl := by
  refine con_of_run' (nt := 5) (c := c0) tabGood Tryd.func43 (by kernel_rfl) (by kernel_rfl) (by kernel_rfl) (by kernel_rfl) (by kernel_rfl) (by kernel_rfl) (by kernel_rfl) ?_
  intro w0 O y hnp
  generalize hPost : (fun (a' : Act) (w' : World) => ∃ μ' S' st', Rel 5 w0 O μ' S' st' a' w' ∧ endOf (tabOf tab) rs 1 pout st' = some y) = Post
  have fin : ∀ (μ : Id → Option Value) (S : Nat → Prop) (st : St) (a : Act) (w : World), Rel 5 w0 O μ S st a w → endOf (tabOf tab) rs 1 pout st = some y → Post a w := fun μ S st a w h he => by rw [← hPost]; exact ⟨μ, S, st, h, he⟩
  have hp : Parts Tryd.prog 43 (pg) [] := ⟨tab_ok tabGood rfl, handNil_ok, rfl⟩
  exact good_first (hp) (runOK_of (hp) hnp trivial fin) (fun x => (seg0 x.1))
end spec_l1One

/-! ### loop.example/wholecheck/spec.l1Kind -/
namespace spec_l1Kind
noncomputable abbrev c0 : Code := (Tryd.f34.body).getD .skip
noncomputable abbrev pin : Tpl := ⟨[⟨0, true, [.d (.prod (.int .i64) (.prod (.int .i64) (.prod (.int .i64) (.last (.int .i64)))))]⟩, ⟨1, false, [.d (.sl (.int .i64))]⟩, ⟨2, false, [.d (.int .i64)]⟩], []⟩
noncomputable abbrev pout : Tpl := ⟨[⟨0, false, [.d (.int .i64)]⟩], []⟩
noncomputable abbrev p3 : Tpl := ⟨[⟨1, false, [.d (.sl (.int .i64))]⟩, ⟨2, false, [.d (.int .i64)]⟩, ⟨3, false, [.ptr 3000000 0]⟩], [(3000000, .box [.d (.int .i64), .d (.int .i64), .d (.int .i64), .d (.int .i64)])]⟩
noncomputable def T3 : List Item := (find 3 c0 []).getD []
noncomputable abbrev p5 : Tpl := ⟨[⟨1, false, [.d (.sl (.int .i64))]⟩, ⟨3, false, [.ptr 3000000 0]⟩], [(3000000, .box [.d (.int .i64), .d (.int .i64), .d (.int .i64), .d (.int .i64)])]⟩
noncomputable def T5 : List Item := (find 5 c0 []).getD []
noncomputable abbrev p7 : Tpl := ⟨[⟨1, false, [.d (.sl (.int .i64))]⟩, ⟨3, false, [.ptr 3000000 0]⟩], [(3000000, .box [.d (.int .i64), .d (.int .i64), .d (.int .i64), .d (.int .i64)])]⟩
noncomputable def T7 : List Item := (find 7 c0 []).getD []
noncomputable abbrev p10 : Tpl := ⟨[⟨1, false, [.d (.sl (.int .i64))]⟩, ⟨3, false, [.ptr 3000000 0]⟩, ⟨7, false, [.d (.int .i64)]⟩], [(3000000, .box [.d (.int .i64), .d (.int .i64), .d (.int .i64), .d (.int .i64)])]⟩
noncomputable def T10 : List Item := (find 10 c0 []).getD []
noncomputable abbrev PI := (Int × Int × Int × Int) × (List Int) × Int × Unit
noncomputable abbrev PO := Int × Unit
noncomputable abbrev P3 := (List Int) × Int × Int × Int × Int × Int × Unit
noncomputable abbrev P5 := (List Int) × Int × Int × Int × Int × Unit
noncomputable abbrev P7 := (List Int) × Int × Int × Int × Int × Unit
noncomputable abbrev P10 := (List Int) × Int × Int × Int × Int × Int × Unit
noncomputable abbrev rs : List ResultVar := [.tmp 6]
noncomputable def F0 (J3 : P3 → Option PO) (Gspec_l1In : spec_l1In.PI → Option spec_l1In.PO) (x0 : Int × Int × Int × Int) (x1 : List Int) (x2 : Int) : Option PO :=
  bif x0.1 == 0 then
    Option.bind (Gspec_l1In (x0.2.1, (-9999), 9999, ())) fun y0 =>
    bif y0.1 then
      bif x0.2.2.1 == 0 then
        bif x0.2.2.2 == 0 then
          some (1, ())
        else
          J3 (x1, x2, x0.1, x0.2.1, x0.2.2.1, x0.2.2.2, ())
      else
        J3 (x1, x2, x0.1, x0.2.1, x0.2.2.1, x0.2.2.2, ())
    else
      J3 (x1, x2, x0.1, x0.2.1, x0.2.2.1, x0.2.2.2, ())
  else
    J3 (x1, x2, x0.1, x0.2.1, x0.2.2.1, x0.2.2.2, ())
noncomputable def F3 (J5 : P5 → Option PO) (Gspec_l1In : spec_l1In.PI → Option spec_l1In.PO) (t1 : List Int) (t2 : Int) (b0_0 : Int) (b0_1 : Int) (b0_2 : Int) (b0_3 : Int) : Option PO :=
  bif b0_0 == 1 then
    Option.bind (Gspec_l1In (b0_1, 0, wI (t2 - 1), ())) fun y1 =>
    bif y1.1 then
      bif b0_2 == 0 then
        bif b0_3 == 0 then
          some (1, ())
        else
          J5 (t1, b0_0, b0_1, b0_2, b0_3, ())
      else
        J5 (t1, b0_0, b0_1, b0_2, b0_3, ())
    else
      J5 (t1, b0_0, b0_1, b0_2, b0_3, ())
  else
    J5 (t1, b0_0, b0_1, b0_2, b0_3, ())
noncomputable def F5 (J7 : P7 → Option PO) (Gspec_l1In : spec_l1In.PI → Option spec_l1In.PO) (t1 : List Int) (b0_0 : Int) (b0_1 : Int) (b0_2 : Int) (b0_3 : Int) : Option PO :=
  Option.bind (Gspec_l1In (b0_0, 2, 9, ())) fun y2 =>
  bif !y2.1 then
    some (0, ())
  else
    bif b0_1 != 0 then
      some (0, ())
    else
      Option.bind (Gspec_l1In (b0_2, 0, wI ((t1.length : Int) - 1), ())) fun y3 =>
      bif !y3.1 then
        some (0, ())
      else
        Option.bind (Gspec_l1In (b0_3, 0, wI ((t1.length : Int) - 1), ())) fun y4 =>
        bif !y4.1 then
          some (0, ())
        else
          J7 (t1, b0_0, b0_1, b0_2, b0_3, ())
noncomputable def F7 (J10 : P10 → Option PO) (t1 : List Int) (b0_0 : Int) (b0_1 : Int) (b0_2 : Int) (b0_3 : Int) : Option PO :=
  bif decide (b0_0 ≥ 7) then
    J10 (t1, 2, b0_0, b0_1, b0_2, b0_3, ())
  else
    J10 (t1, 1, b0_0, b0_1, b0_2, b0_3, ())
noncomputable def F10 (Gspec_l1One : spec_l1One.PI → Option spec_l1One.PO) (t1 : List Int) (t7 : Int) (b0_0 : Int) (b0_1 : Int) (b0_2 : Int) (b0_3 : Int) : Option PO :=
  bif inb b0_2 t1.length then
    bif t1.getD b0_2.toNat 0 != t7 then
      some (0, ())
    else
      bif inb b0_3 t1.length then
        bif t1.getD b0_3.toNat 0 != t7 then
          some (0, ())
        else
          Option.bind (Gspec_l1One (b0_0, ())) fun y5 =>
          bif y5.1 then
            bif b0_3 != b0_2 then
              some (0, ())
            else
              bif decide (b0_0 ≥ 5) then
                some (2, ())
              else
                some (1, ())
          else
            bif decide (b0_0 ≥ 5) then
              some (2, ())
            else
              some (1, ())
      else
        none
  else
    none
noncomputable def hd {R : Type} (Gspec_l1In : spec_l1In.PI → Option spec_l1In.PO) (Gspec_l1One : spec_l1One.PI → Option spec_l1One.PO) : Hand R := (handAt 43 [95] true ⟨1, 1, 1, spec_l1One.pin, spec_l1One.pout, Gspec_l1One⟩ (handAt 30 [14, 34, 48, 61, 70] true ⟨3, 1, 3, spec_l1In.pin, spec_l1In.pout, Gspec_l1In⟩ handNil))
noncomputable def pg (Gspec_l1In : spec_l1In.PI → Option spec_l1In.PO) (Gspec_l1One : spec_l1One.PI → Option spec_l1One.PO) (J3 : List Item → P3 → Option PO) (J5 : List Item → P5 → Option PO) (J7 : List Item → P7 → Option PO) (J10 : List Item → P10 → Option PO) : Prog PO := { nt := 107, np := 3, tb := tabOf tab, hd := hd Gspec_l1In Gspec_l1One, cuts := cutsOf [(3, cut p3 J3), (5, cut p5 J5), (7, cut p7 J7), (10, cut p10 J10)], fin := endOf (tabOf tab) rs 3 pout }
noncomputable def q : FuncId → Bool := fun f => hasId [30, 43] f
theorem seg0 (Gspec_l1In : spec_l1In.PI → Option spec_l1In.PO) (Gspec_l1One : spec_l1One.PI → Option spec_l1One.PO) (J3 : List Item → P3 → Option PO) (J5 : List Item → P5 → Option PO) (J7 : List Item → P7 → Option PO) (J10 : List Item → P10 → Option PO) (x0 : Int × Int × Int × Int) (x1 : List Int) (x2 : Int) : arun (pg Gspec_l1In Gspec_l1One J3 J5 J7 J10) 5000 [.code c0] (mk pin (x0, x1, x2, ())) = F0 (J3 T3) Gspec_l1In x0 x1 x2 := by kernel_rfl
theorem seg3 (Gspec_l1In : spec_l1In.PI → Option spec_l1In.PO) (Gspec_l1One : spec_l1One.PI → Option spec_l1One.PO) (J3 : List Item → P3 → Option PO) (J5 : List Item → P5 → Option PO) (J7 : List Item → P7 → Option PO) (J10 : List Item → P10 → Option PO) (t1 : List Int) (t2 : Int) (b0_0 : Int) (b0_1 : Int) (b0_2 : Int) (b0_3 : Int) : arun1 (pg Gspec_l1In Gspec_l1One J3 J5 J7 J10) 5000 T3 (mk p3 (t1, t2, b0_0, b0_1, b0_2, b0_3, ())) = F3 (J5 T5) Gspec_l1In t1 t2 b0_0 b0_1 b0_2 b0_3 := by kernel_rfl
theorem seg5 (Gspec_l1In : spec_l1In.PI → Option spec_l1In.PO) (Gspec_l1One : spec_l1One.PI → Option spec_l1One.PO) (J3 : List Item → P3 → Option PO) (J5 : List Item → P5 → Option PO) (J7 : List Item → P7 → Option PO) (J10 : List Item → P10 → Option PO) (t1 : List Int) (b0_0 : Int) (b0_1 : Int) (b0_2 : Int) (b0_3 : Int) : arun1 (pg Gspec_l1In Gspec_l1One J3 J5 J7 J10) 5000 T5 (mk p5 (t1, b0_0, b0_1, b0_2, b0_3, ())) = F5 (J7 T7) Gspec_l1In t1 b0_0 b0_1 b0_2 b0_3 := by kernel_rfl
theorem seg7 (Gspec_l1In : spec_l1In.PI → Option spec_l1In.PO) (Gspec_l1One : spec_l1One.PI → Option spec_l1One.PO) (J3 : List Item → P3 → Option PO) (J5 : List Item → P5 → Option PO) (J7 : List Item → P7 → Option PO) (J10 : List Item → P10 → Option PO) (t1 : List Int) (b0_0 : Int) (b0_1 : Int) (b0_2 : Int) (b0_3 : Int) : arun1 (pg Gspec_l1In Gspec_l1One J3 J5 J7 J10) 5000 T7 (mk p7 (t1, b0_0, b0_1, b0_2, b0_3, ())) = F7 (J10 T10) t1 b0_0 b0_1 b0_2 b0_3 := by kernel_rfl
theorem seg10 (Gspec_l1In : spec_l1In.PI → Option spec_l1In.PO) (Gspec_l1One : spec_l1One.PI → Option spec_l1One.PO) (J3 : List Item → P3 → Option PO) (J5 : List Item → P5 → Option PO) (J7 : List Item → P7 → Option PO) (J10 : List Item → P10 → Option PO) (t1 : List Int) (t7 : Int) (b0_0 : Int) (b0_1 : Int) (b0_2 : Int) (b0_3 : Int) : arun1 (pg Gspec_l1In Gspec_l1One J3 J5 J7 J10) 5000 T10 (mk p10 (t1, t7, b0_0, b0_1, b0_2, b0_3, ())) = F10 Gspec_l1One t1 t7 b0_0 b0_1 b0_2 b0_3 := by kernel_rfl
noncomputable def L10 : P10 → Option PO := fun x => F10 spec_l1One.impl x.1 x.2.1 x.2.2.1 x.2.2.2.1 x.2.2.2.2.1 x.2.2.2.2.2.1
noncomputable def L7 : P7 → Option PO := fun x => F7 L10 x.1 x.2.1 x.2.2.1 x.2.2.2.1 x.2.2.2.2.1
noncomputable def L5 : P5 → Option PO := fun x => F5 L7 spec_l1In.impl x.1 x.2.1 x.2.2.1 x.2.2.2.1 x.2.2.2.2.1
noncomputable def L3 : P3 → Option PO := fun x => F3 L5 spec_l1In.impl x.1 x.2.1 x.2.2.1 x.2.2.2.1 x.2.2.2.2.1 x.2.2.2.2.2.1
noncomputable def impl : PI → Option PO := fun x => F0 L3 spec_l1In.impl x.1 x.2.1 x.2.2.1
theorem L10_eq (t1 : List Int) (t7 : Int) (b0_0 : Int) (b0_1 : Int) (b0_2 : Int) (b0_3 : Int) : L10 (t1, t7, b0_0, b0_1, b0_2, b0_3, ()) = F10 spec_l1One.impl t1 t7 b0_0 b0_1 b0_2 b0_3 := rfl
theorem L7_eq (t1 : List Int) (b0_0 : Int) (b0_1 : Int) (b0_2 : Int) (b0_3 : Int) : L7 (t1, b0_0, b0_1, b0_2, b0_3, ()) = F7 (L10) t1 b0_0 b0_1 b0_2 b0_3 := rfl
theorem L5_eq (t1 : List Int) (b0_0 : Int) (b0_1 : Int) (b0_2 : Int) (b0_3 : Int) : L5 (t1, b0_0, b0_1, b0_2, b0_3, ()) = F5 (L7) spec_l1In.impl t1 b0_0 b0_1 b0_2 b0_3 := rfl
theorem L3_eq (t1 : List Int) (t2 : Int) (b0_0 : Int) (b0_1 : Int) (b0_2 : Int) (b0_3 : Int) : L3 (t1, t2, b0_0, b0_1, b0_2, b0_3, ()) = F3 (L5) spec_l1In.impl t1 t2 b0_0 b0_1 b0_2 b0_3 := rfl
theorem impl_eq (x0 : Int × Int × Int × Int) (x1 : List Int) (x2 : Int) : impl (x0, x1, x2, ()) = F0 L3 spec_l1In.impl x0 x1 x2 := rfl
theorem con : Con Tryd.prog 34 3 rs.length 3 pin pout impl := by
  refine con_of_run' (nt := 107) (c := c0) tabGood Tryd.func34 (by kernel_rfl) (by kernel_rfl) (by kernel_rfl) (by kernel_rfl) (by kernel_rfl) (by kernel_rfl) (by kernel_rfl) ?_
  intro w0 O y hnp
  generalize hPost : (fun (a' : Act) (w' : World) => ∃ μ' S' st', Rel 107 w0 O μ' S' st' a' w' ∧ endOf (tabOf tab) rs 3 pout st' = some y) = Post
  have fin : ∀ (μ : Id → Option Value) (S : Nat → Prop) (st : St) (a : Act) (w : World), Rel 107 w0 O μ S st a w → endOf (tabOf tab) rs 3 pout st = some y → Post a w := fun μ S st a w h he => by rw [← hPost]; exact ⟨μ, S, st, h, he⟩
  have hp : ∀ (J3 : List Item → P3 → Option PO), ∀ (J5 : List Item → P5 → Option PO), ∀ (J7 : List Item → P7 → Option PO), ∀ (J10 : List Item → P10 → Option PO), Parts Tryd.prog 34 (pg spec_l1In.impl spec_l1One.impl J3 J5 J7 J10) [(3, cut p3 J3), (5, cut p5 J5), (7, cut p7 J7), (10, cut p10 J10)] := fun J3 J5 J7 J10 => ⟨tab_ok tabGood rfl, (handAt_ok spec_l1One.con (handAt_ok spec_l1In.con handNil_ok)), rfl⟩
  have g10 : Good Tryd.prog 107 w0 O Post y T10 p10 L10 := good_part (hp (atT T3 (fun _ => none)) (atT T5 (fun _ => none)) (atT T7 (fun _ => none)) (atT T10 (fun _ => none))) (runOK_of (hp (atT T3 (fun _ => none)) (atT T5 (fun _ => none)) (atT T7 (fun _ => none)) (atT T10 (fun _ => none))) hnp ⟨cutOK_at (p := p3) (T := T3) (J := fun _ => none) good_none, cutOK_at (p := p5) (T := T5) (J := fun _ => none) good_none, cutOK_at (p := p7) (T := T7) (J := fun _ => none) good_none, cutOK_at (p := p10) (T := T10) (J := fun _ => none) good_none, trivial⟩ fin) (fun x => (seg10 spec_l1In.impl spec_l1One.impl (atT T3 (fun _ => none)) (atT T5 (fun _ => none)) (atT T7 (fun _ => none)) (atT T10 (fun _ => none)) x.1 x.2.1 x.2.2.1 x.2.2.2.1 x.2.2.2.2.1 x.2.2.2.2.2.1))
  have g7 : Good Tryd.prog 107 w0 O Post y T7 p7 L7 := good_part (hp (atT T3 (fun _ => none)) (atT T5 (fun _ => none)) (atT T7 (fun _ => none)) (atT T10 L10)) (runOK_of (hp (atT T3 (fun _ => none)) (atT T5 (fun _ => none)) (atT T7 (fun _ => none)) (atT T10 L10)) hnp ⟨cutOK_at (p := p3) (T := T3) (J := fun _ => none) good_none, cutOK_at (p := p5) (T := T5) (J := fun _ => none) good_none, cutOK_at (p := p7) (T := T7) (J := fun _ => none) good_none, cutOK_at g10, trivial⟩ fin) (fun x => (seg7 spec_l1In.impl spec_l1One.impl (atT T3 (fun _ => none)) (atT T5 (fun _ => none)) (atT T7 (fun _ => none)) (atT T10 L10) x.1 x.2.1 x.2.2.1 x.2.2.2.1 x.2.2.2.2.1).trans (by simp only [atT_self] <;> rfl))
  have g5 : Good Tryd.prog 107 w0 O Post y T5 p5 L5 := good_part (hp (atT T3 (fun _ => none)) (atT T5 (fun _ => none)) (atT T7 L7) (atT T10 (fun _ => none))) (runOK_of (hp (atT T3 (fun _ => none)) (atT T5 (fun _ => none)) (atT T7 L7) (atT T10 (fun _ => none))) hnp ⟨cutOK_at (p := p3) (T := T3) (J := fun _ => none) good_none, cutOK_at (p := p5) (T := T5) (J := fun _ => none) good_none, cutOK_at g7, cutOK_at (p := p10) (T := T10) (J := fun _ => none) good_none, trivial⟩ fin) (fun x => (seg5 spec_l1In.impl spec_l1One.impl (atT T3 (fun _ => none)) (atT T5 (fun _ => none)) (atT T7 L7) (atT T10 (fun _ => none)) x.1 x.2.1 x.2.2.1 x.2.2.2.1 x.2.2.2.2.1).trans (by simp only [atT_self] <;> rfl))
  have g3 : Good Tryd.prog 107 w0 O Post y T3 p3 L3 := good_part (hp (atT T3 (fun _ => none)) (atT T5 L5) (atT T7 (fun _ => none)) (atT T10 (fun _ => none))) (runOK_of (hp (atT T3 (fun _ => none)) (atT T5 L5) (atT T7 (fun _ => none)) (atT T10 (fun _ => none))) hnp ⟨cutOK_at (p := p3) (T := T3) (J := fun _ => none) good_none, cutOK_at g5, cutOK_at (p := p7) (T := T7) (J := fun _ => none) good_none, cutOK_at (p := p10) (T := T10) (J := fun _ => none) good_none, trivial⟩ fin) (fun x => (seg3 spec_l1In.impl spec_l1One.impl (atT T3 (fun _ => none)) (atT T5 L5) (atT T7 (fun _ => none)) (atT T10 (fun _ => none)) x.1 x.2.1 x.2.2.1 x.2.2.2.1 x.2.2.2.2.1 x.2.2.2.2.2.1).trans (by simp only [atT_self] <;> rfl))
  exact good_first (hp (atT T3 L3) (atT T5 (fun _ => none)) (atT T7 (fun _ => none)) (atT T10 (fun _ => none))) (runOK_of (hp (atT T3 L3) (atT T5 (fun _ => none)) (atT T7 (fun _ => none)) (atT T10 (fun _ => none))) hnp ⟨cutOK_at g3, cutOK_at (p := p5) (T := T5) (J := fun _ => none) good_none, cutOK_at (p := p7) (T := T7) (J := fun _ => none) good_none, cutOK_at (p := p10) (T := T10) (J := fun _ => none) good_none, trivial⟩ fin) (fun x => (seg0 spec_l1In.impl spec_l1One.impl (atT T3 L3) (atT T5 (fun _ => none)) (atT T7 (fun _ => none)) (atT T10 (fun _ => none)) x.1 x.2.1 x.2.2.1).trans (by simp only [atT_self] <;> rfl))
end spec_l1Kind

/-! ### loop.example/wholecheck/spec.KindsOf -/
namespace spec_KindsOf
noncomputable abbrev c0 : Code := (Tryd.f25.body).getD .skip
noncomputable abbrev pin : Tpl := ⟨[⟨0, false, [.d (.sl (.prod (.int .i64) (.prod (.int .i64) (.prod (.int .i64) (.last (.int .i64))))))]⟩, ⟨1, false, [.d (.int .i64)]⟩], []⟩
noncomputable abbrev pout : Tpl := ⟨[⟨0, false, [.row 600001]⟩], [(600001, .row 3 false (.int .i64))]⟩
noncomputable abbrev p3 : Tpl := ⟨[⟨0, false, [.d (.sl (.prod (.int .i64) (.prod (.int .i64) (.prod (.int .i64) (.last (.int .i64))))))]⟩, ⟨1, false, [.d (.int .i64)]⟩], []⟩
noncomputable def T3 : List Item := (find 3 c0 []).getD []
noncomputable abbrev p5 : Tpl := ⟨[⟨0, false, [.d (.sl (.prod (.int .i64) (.prod (.int .i64) (.prod (.int .i64) (.last (.int .i64))))))]⟩, ⟨1, false, [.d (.int .i64)]⟩, ⟨5, false, [.row 3000000]⟩, ⟨6, false, [.d (.int .i64)]⟩], [(3000000, .row 3 false (.int .i64))]⟩
noncomputable def T5 : List Item := (find 5 c0 []).getD []
noncomputable abbrev PI := (List (Int × Int × Int × Int)) × Int × Unit
noncomputable abbrev PO := (List Int) × Unit
noncomputable abbrev P3 := (List (Int × Int × Int × Int)) × Int × Unit
noncomputable abbrev P5 := (List (Int × Int × Int × Int)) × Int × Int × (List Int) × Unit
noncomputable abbrev rs : List ResultVar := [.tmp 4]
noncomputable def F0 (J3 : P3 → Option PO) (Gspec_l1In : spec_l1In.PI → Option spec_l1In.PO) (x0 : List (Int × Int × Int × Int)) (x1 : Int) : Option PO :=
  Option.bind (Gspec_l1In (x1, 0, 5, ())) fun y0 =>
  bif !y0.1 then
    some ([], ())
  else
    Option.bind (Gspec_l1In ((x0.length : Int), 1, 40, ())) fun y1 =>
    bif !y1.1 then
      some ([], ())
    else
      J3 (x0, x1, ())
noncomputable def F3 (J5 : P5 → Option PO) (t0 : List (Int × Int × Int × Int)) (t1 : Int) : Option PO :=
  J5 (t0, t1, 0, ([] : List Int), ())
noncomputable def F5 (J5 : P5 → Option PO) (Gspec_l1Kind : spec_l1Kind.PI → Option spec_l1Kind.PO) (t0 : List (Int × Int × Int × Int)) (t1 : Int) (t6 : Int) (r0 : List Int) : Option PO :=
  bif decide (t6 < (t0.length : Int)) then
    bif inb t6 t0.length then
      Option.bind (Gspec_l1Kind (t0.getD t6.toNat (0, 0, 0, 0), r0, t1, ())) fun y2 =>
      bif y2.1 == 0 then
        some ([], ())
      else
        bif decide ((r0.length + ([y2.1] : List Int).length) * 8 ≤ 140737488355328) then
          J5 (t0, t1, wI (t6 + 1), r0 ++ ([y2.1] : List Int), ())
        else
          none
    else
      none
  else
    some (r0, ())
noncomputable def hd {R : Type} (Gspec_l1In : spec_l1In.PI → Option spec_l1In.PO) (Gspec_l1Kind : spec_l1Kind.PI → Option spec_l1Kind.PO) : Hand R := (handAt 34 [30] true ⟨3, 1, 3, spec_l1Kind.pin, spec_l1Kind.pout, Gspec_l1Kind⟩ (handAt 30 [9, 14] true ⟨3, 1, 3, spec_l1In.pin, spec_l1In.pout, Gspec_l1In⟩ handNil))
noncomputable def pg (Gspec_l1In : spec_l1In.PI → Option spec_l1In.PO) (Gspec_l1Kind : spec_l1Kind.PI → Option spec_l1Kind.PO) (J3 : List Item → P3 → Option PO) (J5 : List Item → P5 → Option PO) : Prog PO := { nt := 38, np := 2, tb := tabOf tab, hd := hd Gspec_l1In Gspec_l1Kind, cuts := cutsOf [(3, cut p3 J3), (5, cut p5 J5)], fin := endOf (tabOf tab) rs 2 pout }
noncomputable def q : FuncId → Bool := fun f => hasId [30, 34] f
theorem seg0 (Gspec_l1In : spec_l1In.PI → Option spec_l1In.PO) (Gspec_l1Kind : spec_l1Kind.PI → Option spec_l1Kind.PO) (J3 : List Item → P3 → Option PO) (J5 : List Item → P5 → Option PO) (x0 : List (Int × Int × Int × Int)) (x1 : Int) : arun (pg Gspec_l1In Gspec_l1Kind J3 J5) 5000 [.code c0] (mk pin (x0, x1, ())) = F0 (J3 T3) Gspec_l1In x0 x1 := by kernel_rfl
theorem seg3 (Gspec_l1In : spec_l1In.PI → Option spec_l1In.PO) (Gspec_l1Kind : spec_l1Kind.PI → Option spec_l1Kind.PO) (J3 : List Item → P3 → Option PO) (J5 : List Item → P5 → Option PO) (t0 : List (Int × Int × Int × Int)) (t1 : Int) : arun1 (pg Gspec_l1In Gspec_l1Kind J3 J5) 5000 T3 (mk p3 (t0, t1, ())) = F3 (J5 T5) t0 t1 := by kernel_rfl
theorem seg5 (Gspec_l1In : spec_l1In.PI → Option spec_l1In.PO) (Gspec_l1Kind : spec_l1Kind.PI → Option spec_l1Kind.PO) (J3 : List Item → P3 → Option PO) (J5 : List Item → P5 → Option PO) (t0 : List (Int × Int × Int × Int)) (t1 : Int) (t6 : Int) (r0 : List Int) : arun1 (pg Gspec_l1In Gspec_l1Kind J3 J5) 5000 T5 (mk p5 (t0, t1, t6, r0, ())) = F5 (J5 T5) Gspec_l1Kind t0 t1 t6 r0 := by kernel_rfl
noncomputable def L5 : P5 → Option PO := lfp fun J5 x => F5 J5 spec_l1Kind.impl x.1 x.2.1 x.2.2.1 x.2.2.2.1
noncomputable def L3 : P3 → Option PO := fun x => F3 L5 x.1 x.2.1
noncomputable def impl : PI → Option PO := fun x => F0 L3 spec_l1In.impl x.1 x.2.1
theorem F5_le {J5 J5' : P5 → Option PO} (h5 : OLe J5 J5') {Gspec_l1Kind : spec_l1Kind.PI → Option spec_l1Kind.PO} (t0 : List (Int × Int × Int × Int)) (t1 : Int) (t6 : Int) (r0 : List Int) : OptLe (F5 J5 Gspec_l1Kind t0 t1 t6 r0) (F5 J5' Gspec_l1Kind t0 t1 t6 r0) := by unfold F5; exact .cond (.cond (.bind (.refl _) fun _ => .cond (.refl _) (.cond (.of h5 _) (.refl _))) (.refl _)) (.refl _)
theorem L5_mono : OMono fun J5 (x : P5) => F5 J5 spec_l1Kind.impl x.1 x.2.1 x.2.2.1 x.2.2.2.1 := fun J J' h5 x => F5_le h5 x.1 x.2.1 x.2.2.1 x.2.2.2.1
theorem L5_eq (t0 : List (Int × Int × Int × Int)) (t1 : Int) (t6 : Int) (r0 : List Int) : L5 (t0, t1, t6, r0, ()) = F5 (L5) spec_l1Kind.impl t0 t1 t6 r0 := congrFun (lfp_eq (L5_mono)) _
theorem L3_eq (t0 : List (Int × Int × Int × Int)) (t1 : Int) : L3 (t0, t1, ()) = F3 (L5) t0 t1 := rfl
theorem impl_eq (x0 : List (Int × Int × Int × Int)) (x1 : Int) : impl (x0, x1, ()) = F0 L3 spec_l1In.impl x0 x1 := rfl
theorem con : Con Tryd.prog 25 2 rs.length 2 pin pout impl := by
  refine con_of_run' (nt := 38) (c := c0) tabGood Tryd.func25 (by kernel_rfl) (by kernel_rfl) (by kernel_rfl) (by kernel_rfl) (by kernel_rfl) (by kernel_rfl) (by kernel_rfl) ?_
  intro w0 O y hnp
  generalize hPost : (fun (a' : Act) (w' : World) => ∃ μ' S' st', Rel 38 w0 O μ' S' st' a' w' ∧ endOf (tabOf tab) rs 2 pout st' = some y) = Post
  have fin : ∀ (μ : Id → Option Value) (S : Nat → Prop) (st : St) (a : Act) (w : World), Rel 38 w0 O μ S st a w → endOf (tabOf tab) rs 2 pout st = some y → Post a w := fun μ S st a w h he => by rw [← hPost]; exact ⟨μ, S, st, h, he⟩
  have hp : ∀ (J3 : List Item → P3 → Option PO), ∀ (J5 : List Item → P5 → Option PO), Parts Tryd.prog 25 (pg spec_l1In.impl spec_l1Kind.impl J3 J5) [(3, cut p3 J3), (5, cut p5 J5)] := fun J3 J5 => ⟨tab_ok tabGood rfl, (handAt_ok spec_l1Kind.con (handAt_ok spec_l1In.con handNil_ok)), rfl⟩
  have g5 : Good Tryd.prog 38 w0 O Post y T5 p5 L5 := good_lfp fun J5 h5 => good_part (hp (atT T3 (fun _ => none)) (atT T5 J5)) (runOK_of (hp (atT T3 (fun _ => none)) (atT T5 J5)) hnp ⟨cutOK_at (p := p3) (T := T3) (J := fun _ => none) good_none, cutOK_at h5, trivial⟩ fin) (fun x => (seg5 spec_l1In.impl spec_l1Kind.impl (atT T3 (fun _ => none)) (atT T5 J5) x.1 x.2.1 x.2.2.1 x.2.2.2.1).trans (by simp only [atT_self] <;> rfl))
  have g3 : Good Tryd.prog 38 w0 O Post y T3 p3 L3 := good_part (hp (atT T3 (fun _ => none)) (atT T5 L5)) (runOK_of (hp (atT T3 (fun _ => none)) (atT T5 L5)) hnp ⟨cutOK_at (p := p3) (T := T3) (J := fun _ => none) good_none, cutOK_at g5, trivial⟩ fin) (fun x => (seg3 spec_l1In.impl spec_l1Kind.impl (atT T3 (fun _ => none)) (atT T5 L5) x.1 x.2.1).trans (by simp only [atT_self] <;> rfl))
  exact good_first (hp (atT T3 L3) (atT T5 (fun _ => none))) (runOK_of (hp (atT T3 L3) (atT T5 (fun _ => none))) hnp ⟨cutOK_at g3, cutOK_at (p := p5) (T := T5) (J := fun _ => none) good_none, trivial⟩ fin) (fun x => (seg0 spec_l1In.impl spec_l1Kind.impl (atT T3 L3) (atT T5 (fun _ => none)) x.1 x.2.1).trans (by simp only [atT_self] <;> rfl))
end spec_KindsOf

/-! ### loop.example/wholecheck/spec.TermsValid -/
namespace spec_TermsValid
noncomputable abbrev c0 : Code := (Tryd.f15.body).getD .skip
noncomputable abbrev pin : Tpl := ⟨[⟨0, false, [.d (.sl (.prod (.int .i64) (.prod (.int .i64) (.prod (.int .i64) (.last (.int .i64))))))]⟩, ⟨1, false, [.d (.int .i64)]⟩], []⟩
noncomputable abbrev pout : Tpl := ⟨[⟨0, false, [.d .bool]⟩], []⟩
noncomputable abbrev PI := (List (Int × Int × Int × Int)) × Int × Unit
noncomputable abbrev PO := Bool × Unit
noncomputable abbrev rs : List ResultVar := [.tmp 4]
noncomputable def F0 (Gspec_KindsOf : spec_KindsOf.PI → Option spec_KindsOf.PO) (x0 : List (Int × Int × Int × Int)) (x1 : Int) : Option PO :=
  Option.bind (Gspec_KindsOf (x0, x1, ())) fun y0 =>
  some (decide ((y0.1.length : Int) > 0), ())
noncomputable def hd {R : Type} (Gspec_KindsOf : spec_KindsOf.PI → Option spec_KindsOf.PO) : Hand R := (handAt 25 [7] true ⟨2, 1, 2, spec_KindsOf.pin, spec_KindsOf.pout, Gspec_KindsOf⟩ handNil)
noncomputable def pg (Gspec_KindsOf : spec_KindsOf.PI → Option spec_KindsOf.PO) : Prog PO := { nt := 10, np := 2, tb := tabOf tab, hd := hd Gspec_KindsOf, cuts := cutsOf [], fin := endOf (tabOf tab) rs 2 pout }
noncomputable def q : FuncId → Bool := fun f => hasId [] f
theorem seg0 (Gspec_KindsOf : spec_KindsOf.PI → Option spec_KindsOf.PO) (x0 : List (Int × Int × Int × Int)) (x1 : Int) : arun (pg Gspec_KindsOf) 5000 [.code c0] (mk pin (x0, x1, ())) = F0 Gspec_KindsOf x0 x1 := by kernel_rfl
noncomputable def impl : PI → Option PO := fun x => F0 spec_KindsOf.impl x.1 x.2.1
theorem impl_eq (x0 : List (Int × Int × Int × Int)) (x1 : Int) : impl (x0, x1, ()) = F0 spec_KindsOf.impl x0 x1 := rfl
theorem con : Con Tryd.prog 15 2 rs.length 2 pin pout impl := by
  refine con_of_run' (nt := 10) (c := c0) tabGood Tryd.func15 (by kernel_rfl) (by kernel_rfl) (by kernel_rfl) (by kernel_rfl) (by kernel_rfl) (by kernel_rfl) (by kernel_rfl) ?_
  intro w0 O y hnp
  generalize hPost : (fun (a' : Act) (w' : World) => ∃ μ' S' st', Rel 10 w0 O μ' S' st' a' w' ∧ endOf (tabOf tab) rs 2 pout st' = some y) = Post
  have fin : ∀ (μ : Id → Option Value) (S : Nat → Prop) (st : St) (a : Act) (w : World), Rel 10 w0 O μ S st a w → endOf (tabOf tab) rs 2 pout st = some y → Post a w := fun μ S st a w h he => by rw [← hPost]; exact ⟨μ, S, st, h, he⟩
  have hp : Parts Tryd.prog 15 (pg spec_KindsOf.impl) [] := ⟨tab_ok tabGood rfl, (handAt_ok spec_KindsOf.con handNil_ok), rfl⟩
  exact good_first (hp) (runOK_of (hp) hnp trivial fin) (fun x => (seg0 spec_KindsOf.impl x.1 x.2.1))
end spec_TermsValid

/-! ### loop.example/wholecheck/spec.ReadExpr -/
namespace spec_ReadExpr
noncomputable abbrev c0 : Code := (Tryd.f5.body).getD .skip
noncomputable abbrev pin : Tpl := ⟨[⟨0, false, [.row 500001]⟩, ⟨1, false, [.d .str]⟩], [(500001, .row 9 false .str)]⟩
noncomputable abbrev pout : Tpl := ⟨[⟨0, false, [.row 600001]⟩, ⟨1, false, [.d .bool]⟩, ⟨2, false, [.row 500001]⟩], [(600001, .row 40 true (.prod (.int .i64) (.prod (.int .i64) (.prod (.int .i64) (.last (.int .i64)))))), (500001, .row 9 false .str)]⟩
noncomputable abbrev p3 : Tpl := ⟨[⟨0, false, [.row 500001]⟩, ⟨1, false, [.d .str]⟩], [(500001, .row 9 false .str)]⟩
noncomputable def T3 : List Item := (find 3 c0 []).getD []
noncomputable abbrev PI := (List UInt8) × (List (List UInt8)) × Unit
noncomputable abbrev PO := Bool × (List (Int × Int × Int × Int)) × (List (List UInt8)) × Unit
noncomputable abbrev P3 := (List UInt8) × (List (List UInt8)) × Unit
noncomputable abbrev rs : List ResultVar := [.tmp 4, .tmp 5]
noncomputable def F0 (J3 : P3 → Option PO) (Gspec_NamesValid : spec_NamesValid.PI → Option spec_NamesValid.PO) (x1 : List UInt8) (s1 : List (List UInt8)) : Option PO :=
  Option.bind (Gspec_NamesValid (s1, ())) fun y0 =>
  bif !y0.1 then
    some (false, [], s1, ())
  else
    bif decide ((x1.length : Int) > 4000) then
      some (false, [], s1, ())
    else
      J3 (x1, s1, ())
noncomputable def F3 (Gspec_TermsValid : spec_TermsValid.PI → Option spec_TermsValid.PO) (Gspec_l30Expr : spec_l30Expr.PI → Option spec_l30Expr.PO) (t1 : List UInt8) (s1 : List (List UInt8)) : Option PO :=
  Option.bind (Gspec_l30Expr (t1, 0, true, 40, s1, [], ())) fun y1 =>
  bif !y1.2.2.1 then
    some (false, [], y1.2.2.2.2.1, ())
  else
    bif y1.2.1 != (t1.length : Int) then
      some (false, [], y1.2.2.2.2.1, ())
    else
      bif y1.2.2.2.1 != wI ((y1.2.2.2.2.2.1.length : Int) - 1) then
        some (false, [], y1.2.2.2.2.1, ())
      else
        Option.bind (Gspec_TermsValid (y1.2.2.2.2.2.1, (y1.2.2.2.2.1.length : Int), ())) fun y2 =>
        bif !y2.1 then
          some (false, [], y1.2.2.2.2.1, ())
        else
          some (true, y1.2.2.2.2.2.1, y1.2.2.2.2.1, ())
noncomputable def hd {R : Type} (Gspec_NamesValid : spec_NamesValid.PI → Option spec_NamesValid.PO) (Gspec_TermsValid : spec_TermsValid.PI → Option spec_TermsValid.PO) (Gspec_l30Expr : spec_l30Expr.PI → Option spec_l30Expr.PO) : Hand R := (handAt 15 [46] true ⟨2, 1, 2, spec_TermsValid.pin, spec_TermsValid.pout, Gspec_TermsValid⟩ (handAt 14 [20] false ⟨2, 2, 2, spec_l30Expr.pin, spec_l30Expr.pout, Gspec_l30Expr⟩ (handAt 13 [9] true ⟨1, 1, 1, spec_NamesValid.pin, spec_NamesValid.pout, Gspec_NamesValid⟩ handNil)))
noncomputable def pg (Gspec_NamesValid : spec_NamesValid.PI → Option spec_NamesValid.PO) (Gspec_TermsValid : spec_TermsValid.PI → Option spec_TermsValid.PO) (Gspec_l30Expr : spec_l30Expr.PI → Option spec_l30Expr.PO) (J3 : List Item → P3 → Option PO) : Prog PO := { nt := 51, np := 2, tb := tabOf tab, hd := hd Gspec_NamesValid Gspec_TermsValid Gspec_l30Expr, cuts := cutsOf [(3, cut p3 J3)], fin := endOf (tabOf tab) rs 2 pout }
noncomputable def q : FuncId → Bool := fun f => hasId [13, 15] f
theorem seg0 (Gspec_NamesValid : spec_NamesValid.PI → Option spec_NamesValid.PO) (Gspec_TermsValid : spec_TermsValid.PI → Option spec_TermsValid.PO) (Gspec_l30Expr : spec_l30Expr.PI → Option spec_l30Expr.PO) (J3 : List Item → P3 → Option PO) (x1 : List UInt8) (s1 : List (List UInt8)) : arun (pg Gspec_NamesValid Gspec_TermsValid Gspec_l30Expr J3) 5000 [.code c0] (mk pin (x1, s1, ())) = F0 (J3 T3) Gspec_NamesValid x1 s1 := by kernel_rfl
theorem seg3 (Gspec_NamesValid : spec_NamesValid.PI → Option spec_NamesValid.PO) (Gspec_TermsValid : spec_TermsValid.PI → Option spec_TermsValid.PO) (Gspec_l30Expr : spec_l30Expr.PI → Option spec_l30Expr.PO) (J3 : List Item → P3 → Option PO) (t1 : List UInt8) (s1 : List (List UInt8)) : arun1 (pg Gspec_NamesValid Gspec_TermsValid Gspec_l30Expr J3) 5000 T3 (mk p3 (t1, s1, ())) = F3 Gspec_TermsValid Gspec_l30Expr t1 s1 := by kernel_rfl
noncomputable def L3 : P3 → Option PO := fun x => F3 spec_TermsValid.impl spec_l30Expr.impl x.1 x.2.1
noncomputable def impl : PI → Option PO := fun x => F0 L3 spec_NamesValid.impl x.1 x.2.1
theorem L3_eq (t1 : List UInt8) (s1 : List (List UInt8)) : L3 (t1, s1, ()) = F3 spec_TermsValid.impl spec_l30Expr.impl t1 s1 := rfl
theorem impl_eq (x1 : List UInt8) (s1 : List (List UInt8)) : impl (x1, s1, ()) = F0 L3 spec_NamesValid.impl x1 s1 := rfl
theorem con : Con Tryd.prog 5 2 rs.length 2 pin pout impl := by
  refine con_of_run' (nt := 51) (c := c0) tabGood Tryd.func5 (by kernel_rfl) (by kernel_rfl) (by kernel_rfl) (by kernel_rfl) (by kernel_rfl) (by kernel_rfl) (by kernel_rfl) ?_
  intro w0 O y hnp
  generalize hPost : (fun (a' : Act) (w' : World) => ∃ μ' S' st', Rel 51 w0 O μ' S' st' a' w' ∧ endOf (tabOf tab) rs 2 pout st' = some y) = Post
  have fin : ∀ (μ : Id → Option Value) (S : Nat → Prop) (st : St) (a : Act) (w : World), Rel 51 w0 O μ S st a w → endOf (tabOf tab) rs 2 pout st = some y → Post a w := fun μ S st a w h he => by rw [← hPost]; exact ⟨μ, S, st, h, he⟩
  have hp : ∀ (J3 : List Item → P3 → Option PO), Parts Tryd.prog 5 (pg spec_NamesValid.impl spec_TermsValid.impl spec_l30Expr.impl J3) [(3, cut p3 J3)] := fun J3 => ⟨tab_ok tabGood rfl, (handAt_ok spec_TermsValid.con (handAt_ok spec_l30Expr.con (handAt_ok spec_NamesValid.con handNil_ok))), rfl⟩
  have g3 : Good Tryd.prog 51 w0 O Post y T3 p3 L3 := good_part (hp (atT T3 (fun _ => none))) (runOK_of (hp (atT T3 (fun _ => none))) hnp ⟨cutOK_at (p := p3) (T := T3) (J := fun _ => none) good_none, trivial⟩ fin) (fun x => (seg3 spec_NamesValid.impl spec_TermsValid.impl spec_l30Expr.impl (atT T3 (fun _ => none)) x.1 x.2.1))
  exact good_first (hp (atT T3 L3)) (runOK_of (hp (atT T3 L3)) hnp ⟨cutOK_at g3, trivial⟩ fin) (fun x => (seg0 spec_NamesValid.impl spec_TermsValid.impl spec_l30Expr.impl (atT T3 L3) x.1 x.2.1).trans (by simp only [atT_self] <;> rfl))
end spec_ReadExpr

/-! ### loop.example/wholecheck/impl.in -/
namespace impl_in
noncomputable abbrev c0 : Code := (Tryd.f44.body).getD .skip
noncomputable abbrev pin : Tpl := ⟨[⟨0, false, [.d (.int .i64)]⟩, ⟨1, false, [.d (.int .i64)]⟩, ⟨2, false, [.d (.int .i64)]⟩], []⟩
noncomputable abbrev pout : Tpl := ⟨[⟨0, false, [.d .bool]⟩], []⟩
noncomputable abbrev PI := Int × Int × Int × Unit
noncomputable abbrev PO := Bool × Unit
noncomputable abbrev rs : List ResultVar := [.tmp 6]
noncomputable def F0 (x0 : Int) (x1 : Int) (x2 : Int) : Option PO :=
  bif decide (x0 ≥ x1) then
    some (decide (x0 ≤ x2), ())
  else
    some (false, ())
noncomputable def hd {R : Type} : Hand R := handNil
noncomputable def pg : Prog PO := { nt := 15, np := 3, tb := tabOf tab, hd := hd, cuts := cutsOf [], fin := endOf (tabOf tab) rs 3 pout }
noncomputable def q : FuncId → Bool := fun f => hasId [] f
theorem seg0 (x0 : Int) (x1 : Int) (x2 : Int) : arun (pg) 5000 [.code c0] (mk pin (x0, x1, x2, ())) = F0 x0 x1 x2 := by kernel_rfl
noncomputable def impl : PI → Option PO := fun x => F0 x.1 x.2.1 x.2.2.1
theorem impl_eq (x0 : Int) (x1 : Int) (x2 : Int) : impl (x0, x1, x2, ()) = F0 x0 x1 x2 := rfl
theorem con : Con Tryd.prog 44 3 rs.length 3 pin pout impl := by
  refine con_of_run' (nt := 15) (c := c0) tabGood Tryd.func44 (by kernel_rfl) (by kernel_rfl) (by kernel_rfl) (by kernel_rfl) (by kernel_rfl) (by kernel_rfl) (by kernel_rfl) ?_
  intro w0 O y hnp
  generalize hPost : (fun (a' : Act) (w' : World) => ∃ μ' S' st', Rel 15 w0 O μ' S' st' a' w' ∧ endOf (tabOf tab) rs 3 pout st' = some y) = Post
  have fin : ∀ (μ : Id → Option Value) (S : Nat → Prop) (st : St) (a : Act) (w : World), Rel 15 w0 O μ S st a w → endOf (tabOf tab) rs 3 pout st = some y → Post a w := fun μ S st a w h he => by rw [← hPost]; exact ⟨μ, S, st, h, he⟩
  have hp : Parts Tryd.prog 44 (pg) [] := ⟨tab_ok tabGood rfl, handNil_ok, rfl⟩
  exact good_first (hp) (runOK_of (hp) hnp trivial fin) (fun x => (seg0 x.1 x.2.1 x.2.2.1))
end impl_in

/-! ### loop.example/wholecheck/impl.nameOk -/
namespace impl_nameOk
noncomputable abbrev c0 : Code := (Tryd.f35.body).getD .skip
noncomputable abbrev pin : Tpl := ⟨[⟨0, false, [.d .str]⟩], []⟩
noncomputable abbrev pout : Tpl := ⟨[⟨0, false, [.d .bool]⟩], []⟩
noncomputable abbrev PI := (List UInt8) × Unit
noncomputable abbrev PO := Bool × Unit
noncomputable abbrev rs : List ResultVar := [.tmp 2]
noncomputable def F0 (Gimpl_in : impl_in.PI → Option impl_in.PO) (Glib_Trim : lib_Trim.PI → Option lib_Trim.PO) (x0 : List UInt8) : Option PO :=
  Option.bind (Gimpl_in ((x0.length : Int), 1, 8, ())) fun y0 =>
  bif y0.1 then
    Option.bind (Glib_Trim (x0, ([97, 98, 99, 100, 101, 102, 103, 104, 105, 106, 107, 108, 109, 110, 111, 112, 113, 114, 115, 116, 117, 118, 119, 120, 121, 122] : List UInt8), ())) fun y1 =>
    some (y1.1 == [], ())
  else
    some (false, ())
noncomputable def hd {R : Type} (Gimpl_in : impl_in.PI → Option impl_in.PO) (Glib_Trim : lib_Trim.PI → Option lib_Trim.PO) : Hand R := (handAt 45 [8] true ⟨2, 1, 0, lib_Trim.pin, lib_Trim.pout, Glib_Trim⟩ (handAt 44 [5] true ⟨3, 1, 3, impl_in.pin, impl_in.pout, Gimpl_in⟩ handNil))
noncomputable def pg (Gimpl_in : impl_in.PI → Option impl_in.PO) (Glib_Trim : lib_Trim.PI → Option lib_Trim.PO) : Prog PO := { nt := 11, np := 1, tb := tabOf tab, hd := hd Gimpl_in Glib_Trim, cuts := cutsOf [], fin := endOf (tabOf tab) rs 1 pout }
noncomputable def q : FuncId → Bool := fun f => hasId [44, 45] f
theorem seg0 (Gimpl_in : impl_in.PI → Option impl_in.PO) (Glib_Trim : lib_Trim.PI → Option lib_Trim.PO) (x0 : List UInt8) : arun (pg Gimpl_in Glib_Trim) 5000 [.code c0] (mk pin (x0, ())) = F0 Gimpl_in Glib_Trim x0 := by kernel_rfl
noncomputable def impl : PI → Option PO := fun x => F0 impl_in.impl lib_Trim.impl x.1
theorem impl_eq (x0 : List UInt8) : impl (x0, ()) = F0 impl_in.impl lib_Trim.impl x0 := rfl
theorem con : Con Tryd.prog 35 1 rs.length 1 pin pout impl := by
  refine con_of_run' (nt := 11) (c := c0) tabGood Tryd.func35 (by kernel_rfl) (by kernel_rfl) (by kernel_rfl) (by kernel_rfl) (by kernel_rfl) (by kernel_rfl) (by kernel_rfl) ?_
  intro w0 O y hnp
  generalize hPost : (fun (a' : Act) (w' : World) => ∃ μ' S' st', Rel 11 w0 O μ' S' st' a' w' ∧ endOf (tabOf tab) rs 1 pout st' = some y) = Post
  have fin : ∀ (μ : Id → Option Value) (S : Nat → Prop) (st : St) (a : Act) (w : World), Rel 11 w0 O μ S st a w → endOf (tabOf tab) rs 1 pout st = some y → Post a w := fun μ S st a w h he => by rw [← hPost]; exact ⟨μ, S, st, h, he⟩
  have hp : Parts Tryd.prog 35 (pg impl_in.impl lib_Trim.impl) [] := ⟨tab_ok tabGood rfl, (handAt_ok lib_Trim.con (handAt_ok impl_in.con handNil_ok)), rfl⟩
  exact good_first (hp) (runOK_of (hp) hnp trivial fin) (fun x => (seg0 impl_in.impl lib_Trim.impl x.1))
end impl_nameOk

/-! ### slices.Index[[]string,string] -/
namespace slices_Index_of
noncomputable abbrev c0 : Code := (Tryd.f40.body).getD .skip
noncomputable abbrev pin : Tpl := ⟨[⟨0, false, [.d (.sl .str)]⟩, ⟨1, false, [.d .str]⟩], []⟩
noncomputable abbrev pout : Tpl := ⟨[⟨0, false, [.d (.int .i64)]⟩], []⟩
noncomputable abbrev p2 : Tpl := ⟨[⟨0, false, [.d (.sl .str)]⟩, ⟨1, false, [.d .str]⟩, ⟨7, false, [.d (.int .i64)]⟩, ⟨8, false, [.d (.int .i64)]⟩], []⟩
noncomputable def T2 : List Item := (find 2 c0 []).getD []
noncomputable abbrev PI := (List (List UInt8)) × (List UInt8) × Unit
noncomputable abbrev PO := Int × Unit
noncomputable abbrev P2 := (List (List UInt8)) × (List UInt8) × Int × Int × Unit
noncomputable abbrev rs : List ResultVar := [.tmp 4]
noncomputable def F0 (J2 : P2 → Option PO) (x0 : List (List UInt8)) (x1 : List UInt8) : Option PO :=
  J2 (x0, x1, (x0.length : Int), 0, ())
noncomputable def F2 (J2 : P2 → Option PO) (t0 : List (List UInt8)) (t1 : List UInt8) (t7 : Int) (t8 : Int) : Option PO :=
  bif decide (t8 < t7) then
    bif inb t8 t0.length then
      bif t1 == (t0.getD t8.toNat []) then
        some (t8, ())
      else
        J2 (t0, t1, t7, wI (t8 + 1), ())
    else
      none
  else
    some ((-1), ())
noncomputable def hd {R : Type} : Hand R := handNil
noncomputable def pg (J2 : List Item → P2 → Option PO) : Prog PO := { nt := 19, np := 2, tb := tabOf tab, hd := hd, cuts := cutsOf [(2, cut p2 J2)], fin := endOf (tabOf tab) rs 2 pout }
noncomputable def q : FuncId → Bool := fun f => hasId [] f
theorem seg0 (J2 : List Item → P2 → Option PO) (x0 : List (List UInt8)) (x1 : List UInt8) : arun (pg J2) 5000 [.code c0] (mk pin (x0, x1, ())) = F0 (J2 T2) x0 x1 := by kernel_rfl
theorem seg2 (J2 : List Item → P2 → Option PO) (t0 : List (List UInt8)) (t1 : List UInt8) (t7 : Int) (t8 : Int) : arun1 (pg J2) 5000 T2 (mk p2 (t0, t1, t7, t8, ())) = F2 (J2 T2) t0 t1 t7 t8 := by kernel_rfl
noncomputable def L2 : P2 → Option PO := lfp fun J2 x => F2 J2 x.1 x.2.1 x.2.2.1 x.2.2.2.1
noncomputable def impl : PI → Option PO := fun x => F0 L2 x.1 x.2.1
theorem F2_le {J2 J2' : P2 → Option PO} (h2 : OLe J2 J2') (t0 : List (List UInt8)) (t1 : List UInt8) (t7 : Int) (t8 : Int) : OptLe (F2 J2 t0 t1 t7 t8) (F2 J2' t0 t1 t7 t8) := by unfold F2; exact .cond (.cond (.cond (.refl _) (.of h2 _)) (.refl _)) (.refl _)
theorem L2_mono : OMono fun J2 (x : P2) => F2 J2 x.1 x.2.1 x.2.2.1 x.2.2.2.1 := fun J J' h2 x => F2_le h2 x.1 x.2.1 x.2.2.1 x.2.2.2.1
theorem L2_eq (t0 : List (List UInt8)) (t1 : List UInt8) (t7 : Int) (t8 : Int) : L2 (t0, t1, t7, t8, ()) = F2 (L2) t0 t1 t7 t8 := congrFun (lfp_eq (L2_mono)) _
theorem impl_eq (x0 : List (List UInt8)) (x1 : List UInt8) : impl (x0, x1, ()) = F0 L2 x0 x1 := rfl
theorem con : Con Tryd.prog 40 2 rs.length 2 pin pout impl := by
  refine con_of_run' (nt := 19) (c := c0) tabGood Tryd.func40 (by kernel_rfl) (by kernel_rfl) (by kernel_rfl) (by kernel_rfl) (by kernel_rfl) (by kernel_rfl) (by kernel_rfl) ?_
  intro w0 O y hnp
  generalize hPost : (fun (a' : Act) (w' : World) => ∃ μ' S' st', Rel 19 w0 O μ' S' st' a' w' ∧ endOf (tabOf tab) rs 2 pout st' = some y) = Post
  have fin : ∀ (μ : Id → Option Value) (S : Nat → Prop) (st : St) (a : Act) (w : World), Rel 19 w0 O μ S st a w → endOf (tabOf tab) rs 2 pout st = some y → Post a w := fun μ S st a w h he => by rw [← hPost]; exact ⟨μ, S, st, h, he⟩
  have hp : ∀ (J2 : List Item → P2 → Option PO), Parts Tryd.prog 40 (pg J2) [(2, cut p2 J2)] := fun J2 => ⟨tab_ok tabGood rfl, handNil_ok, rfl⟩
  have g2 : Good Tryd.prog 19 w0 O Post y T2 p2 L2 := good_lfp fun J2 h2 => good_part (hp (atT T2 J2)) (runOK_of (hp (atT T2 J2)) hnp ⟨cutOK_at h2, trivial⟩ fin) (fun x => (seg2 (atT T2 J2) x.1 x.2.1 x.2.2.1 x.2.2.2.1).trans (by simp only [atT_self] <;> rfl))
  exact good_first (hp (atT T2 L2)) (runOK_of (hp (atT T2 L2)) hnp ⟨cutOK_at g2, trivial⟩ fin) (fun x => (seg0 (atT T2 L2) x.1 x.2.1).trans (by simp only [atT_self] <;> rfl))
end slices_Index_of

/-! ### slices.Contains[[]string,string] -/
namespace slices_Contains_of
noncomputable abbrev c0 : Code := (Tryd.f36.body).getD .skip
noncomputable abbrev pin : Tpl := ⟨[⟨0, false, [.d (.sl .str)]⟩, ⟨1, false, [.d .str]⟩], []⟩
noncomputable abbrev pout : Tpl := ⟨[⟨0, false, [.d .bool]⟩], []⟩
noncomputable abbrev PI := (List (List UInt8)) × (List UInt8) × Unit
noncomputable abbrev PO := Bool × Unit
noncomputable abbrev rs : List ResultVar := [.tmp 4]
noncomputable def F0 (Gslices_Index_of : slices_Index_of.PI → Option slices_Index_of.PO) (x0 : List (List UInt8)) (x1 : List UInt8) : Option PO :=
  Option.bind (Gslices_Index_of (x0, x1, ())) fun y0 =>
  some (decide (y0.1 ≥ 0), ())
noncomputable def hd {R : Type} (Gslices_Index_of : slices_Index_of.PI → Option slices_Index_of.PO) : Hand R := (handAt 40 [7] true ⟨2, 1, 2, slices_Index_of.pin, slices_Index_of.pout, Gslices_Index_of⟩ handNil)
noncomputable def pg (Gslices_Index_of : slices_Index_of.PI → Option slices_Index_of.PO) : Prog PO := { nt := 9, np := 2, tb := tabOf tab, hd := hd Gslices_Index_of, cuts := cutsOf [], fin := endOf (tabOf tab) rs 2 pout }
noncomputable def q : FuncId → Bool := fun f => hasId [40] f
theorem seg0 (Gslices_Index_of : slices_Index_of.PI → Option slices_Index_of.PO) (x0 : List (List UInt8)) (x1 : List UInt8) : arun (pg Gslices_Index_of) 5000 [.code c0] (mk pin (x0, x1, ())) = F0 Gslices_Index_of x0 x1 := by kernel_rfl
noncomputable def impl : PI → Option PO := fun x => F0 slices_Index_of.impl x.1 x.2.1
theorem impl_eq (x0 : List (List UInt8)) (x1 : List UInt8) : impl (x0, x1, ()) = F0 slices_Index_of.impl x0 x1 := rfl
theorem con : Con Tryd.prog 36 2 rs.length 2 pin pout impl := by
  refine con_of_run' (nt := 9) (c := c0) tabGood Tryd.func36 (by kernel_rfl) (by kernel_rfl) (by kernel_rfl) (by kernel_rfl) (by kernel_rfl) (by kernel_rfl) (by kernel_rfl) ?_
  intro w0 O y hnp
  generalize hPost : (fun (a' : Act) (w' : World) => ∃ μ' S' st', Rel 9 w0 O μ' S' st' a' w' ∧ endOf (tabOf tab) rs 2 pout st' = some y) = Post
  have fin : ∀ (μ : Id → Option Value) (S : Nat → Prop) (st : St) (a : Act) (w : World), Rel 9 w0 O μ S st a w → endOf (tabOf tab) rs 2 pout st = some y → Post a w := fun μ S st a w h he => by rw [← hPost]; exact ⟨μ, S, st, h, he⟩
  have hp : Parts Tryd.prog 36 (pg slices_Index_of.impl) [] := ⟨tab_ok tabGood rfl, (handAt_ok slices_Index_of.con handNil_ok), rfl⟩
  exact good_first (hp) (runOK_of (hp) hnp trivial fin) (fun x => (seg0 slices_Index_of.impl x.1 x.2.1))
end slices_Contains_of

/-! ### loop.example/wholecheck/impl.NamesValid -/
namespace impl_NamesValid
noncomputable abbrev c0 : Code := (Tryd.f26.body).getD .skip
noncomputable abbrev pin : Tpl := ⟨[⟨0, false, [.d (.sl .str)]⟩], []⟩
noncomputable abbrev pout : Tpl := ⟨[⟨0, false, [.d .bool]⟩], []⟩
noncomputable abbrev p4 : Tpl := ⟨[⟨0, false, [.d (.sl .str)]⟩, ⟨8, false, [.d (.sl .str)]⟩, ⟨9, false, [.d (.int .i64)]⟩, ⟨10, false, [.d (.int .i64)]⟩], []⟩
noncomputable def T4 : List Item := (find 4 c0 []).getD []
noncomputable abbrev PI := (List (List UInt8)) × Unit
noncomputable abbrev PO := Bool × Unit
noncomputable abbrev P4 := (List (List UInt8)) × (List (List UInt8)) × Int × Int × Unit
noncomputable abbrev rs : List ResultVar := [.tmp 2]
noncomputable def F0 (J4 : P4 → Option PO) (x0 : List (List UInt8)) : Option PO :=
  bif decide ((x0.length : Int) > 5) then
    some (false, ())
  else
    J4 (x0, x0, (x0.length : Int), 0, ())
noncomputable def F4 (J4 : P4 → Option PO) (Gimpl_nameOk : impl_nameOk.PI → Option impl_nameOk.PO) (Gslices_Contains_of : slices_Contains_of.PI → Option slices_Contains_of.PO) (t0 : List (List UInt8)) (t8 : List (List UInt8)) (t9 : Int) (t10 : Int) : Option PO :=
  bif decide (t10 < t9) then
    bif inb t10 t8.length then
      Option.bind (Gimpl_nameOk (t8.getD t10.toNat [], ())) fun y0 =>
      bif !y0.1 then
        some (false, ())
      else
        bif decide (0 ≤ t10) && decide (t10 ≤ (t0.length : Int)) then
          Option.bind (Gslices_Contains_of ((t0.take t10.toNat).drop 0, t8.getD t10.toNat [], ())) fun y1 =>
          bif y1.1 then
            some (false, ())
          else
            J4 (t0, t8, t9, wI (t10 + 1), ())
        else
          none
    else
      none
  else
    some (true, ())
noncomputable def hd {R : Type} (Gimpl_nameOk : impl_nameOk.PI → Option impl_nameOk.PO) (Gslices_Contains_of : slices_Contains_of.PI → Option slices_Contains_of.PO) : Hand R := (handAt 36 [23] true ⟨2, 1, 2, slices_Contains_of.pin, slices_Contains_of.pout, Gslices_Contains_of⟩ (handAt 35 [16] true ⟨1, 1, 1, impl_nameOk.pin, impl_nameOk.pout, Gimpl_nameOk⟩ handNil))
noncomputable def pg (Gimpl_nameOk : impl_nameOk.PI → Option impl_nameOk.PO) (Gslices_Contains_of : slices_Contains_of.PI → Option slices_Contains_of.PO) (J4 : List Item → P4 → Option PO) : Prog PO := { nt := 26, np := 1, tb := tabOf tab, hd := hd Gimpl_nameOk Gslices_Contains_of, cuts := cutsOf [(4, cut p4 J4)], fin := endOf (tabOf tab) rs 1 pout }
noncomputable def q : FuncId → Bool := fun f => hasId [35, 36] f
theorem seg0 (Gimpl_nameOk : impl_nameOk.PI → Option impl_nameOk.PO) (Gslices_Contains_of : slices_Contains_of.PI → Option slices_Contains_of.PO) (J4 : List Item → P4 → Option PO) (x0 : List (List UInt8)) : arun (pg Gimpl_nameOk Gslices_Contains_of J4) 5000 [.code c0] (mk pin (x0, ())) = F0 (J4 T4) x0 := by kernel_rfl
theorem seg4 (Gimpl_nameOk : impl_nameOk.PI → Option impl_nameOk.PO) (Gslices_Contains_of : slices_Contains_of.PI → Option slices_Contains_of.PO) (J4 : List Item → P4 → Option PO) (t0 : List (List UInt8)) (t8 : List (List UInt8)) (t9 : Int) (t10 : Int) : arun1 (pg Gimpl_nameOk Gslices_Contains_of J4) 5000 T4 (mk p4 (t0, t8, t9, t10, ())) = F4 (J4 T4) Gimpl_nameOk Gslices_Contains_of t0 t8 t9 t10 := by kernel_rfl
noncomputable def L4 : P4 → Option PO := lfp fun J4 x => F4 J4 impl_nameOk.impl slices_Contains_of.impl x.1 x.2.1 x.2.2.1 x.2.2.2.1
noncomputable def impl : PI → Option PO := fun x => F0 L4 x.1
theorem F4_le {J4 J4' : P4 → Option PO} (h4 : OLe J4 J4') {Gimpl_nameOk : impl_nameOk.PI → Option impl_nameOk.PO} {Gslices_Contains_of : slices_Contains_of.PI → Option slices_Contains_of.PO} (t0 : List (List UInt8)) (t8 : List (List UInt8)) (t9 : Int) (t10 : Int) : OptLe (F4 J4 Gimpl_nameOk Gslices_Contains_of t0 t8 t9 t10) (F4 J4' Gimpl_nameOk Gslices_Contains_of t0 t8 t9 t10) := by unfold F4; exact .cond (.cond (.bind (.refl _) fun _ => .cond (.refl _) (.cond (.bind (.refl _) fun _ => .cond (.refl _) (.of h4 _)) (.refl _))) (.refl _)) (.refl _)
theorem L4_mono : OMono fun J4 (x : P4) => F4 J4 impl_nameOk.impl slices_Contains_of.impl x.1 x.2.1 x.2.2.1 x.2.2.2.1 := fun J J' h4 x => F4_le h4 x.1 x.2.1 x.2.2.1 x.2.2.2.1
theorem L4_eq (t0 : List (List UInt8)) (t8 : List (List UInt8)) (t9 : Int) (t10 : Int) : L4 (t0, t8, t9, t10, ()) = F4 (L4) impl_nameOk.impl slices_Contains_of.impl t0 t8 t9 t10 := congrFun (lfp_eq (L4_mono)) _
theorem impl_eq (x0 : List (List UInt8)) : impl (x0, ()) = F0 L4 x0 := rfl
theorem con : Con Tryd.prog 26 1 rs.length 1 pin pout impl := by
  refine con_of_run' (nt := 26) (c := c0) tabGood Tryd.func26 (by kernel_rfl) (by kernel_rfl) (by kernel_rfl) (by kernel_rfl) (by kernel_rfl) (by kernel_rfl) (by kernel_rfl) ?_
  intro w0 O y hnp
  generalize hPost : (fun (a' : Act) (w' : World) => ∃ μ' S' st', Rel 26 w0 O μ' S' st' a' w' ∧ endOf (tabOf tab) rs 1 pout st' = some y) = Post
  have fin : ∀ (μ : Id → Option Value) (S : Nat → Prop) (st : St) (a : Act) (w : World), Rel 26 w0 O μ S st a w → endOf (tabOf tab) rs 1 pout st = some y → Post a w := fun μ S st a w h he => by rw [← hPost]; exact ⟨μ, S, st, h, he⟩
  have hp : ∀ (J4 : List Item → P4 → Option PO), Parts Tryd.prog 26 (pg impl_nameOk.impl slices_Contains_of.impl J4) [(4, cut p4 J4)] := fun J4 => ⟨tab_ok tabGood rfl, (handAt_ok slices_Contains_of.con (handAt_ok impl_nameOk.con handNil_ok)), rfl⟩
  have g4 : Good Tryd.prog 26 w0 O Post y T4 p4 L4 := good_lfp fun J4 h4 => good_part (hp (atT T4 J4)) (runOK_of (hp (atT T4 J4)) hnp ⟨cutOK_at h4, trivial⟩ fin) (fun x => (seg4 impl_nameOk.impl slices_Contains_of.impl (atT T4 J4) x.1 x.2.1 x.2.2.1 x.2.2.2.1).trans (by simp only [atT_self] <;> rfl))
  exact good_first (hp (atT T4 L4)) (runOK_of (hp (atT T4 L4)) hnp ⟨cutOK_at g4, trivial⟩ fin) (fun x => (seg0 impl_nameOk.impl slices_Contains_of.impl (atT T4 L4) x.1).trans (by simp only [atT_self] <;> rfl))
end impl_NamesValid

/-! ### (*loop.example/wholecheck/impl.scan).run -/
namespace impl_scan_run
noncomputable abbrev c0 : Code := (Tryd.f38.body).getD .skip
noncomputable abbrev pin : Tpl := ⟨[⟨0, false, [.ptr 500001 0]⟩, ⟨1, false, [.d .str]⟩], [(500001, .box [.d (.sl .str), .d .str, .d (.int .i64), .row 500002]), (500002, .row 40 true (.prod (.int .i64) (.prod (.int .i64) (.prod (.int .i64) (.last (.int .i64))))))]⟩
noncomputable abbrev pout : Tpl := ⟨[⟨0, false, [.d .str]⟩, ⟨1, false, [.ptr 500001 0]⟩], [(500001, .box [.d (.sl .str), .d .str, .d (.int .i64), .row 500002]), (500002, .row 40 true (.prod (.int .i64) (.prod (.int .i64) (.prod (.int .i64) (.last (.int .i64))))))]⟩
noncomputable abbrev p2 : Tpl := ⟨[⟨0, false, [.ptr 500001 0]⟩, ⟨1, false, [.d .str]⟩, ⟨5, false, [.d (.int .i64)]⟩], [(500001, .box [.d (.sl .str), .d .str, .d (.int .i64), .row 500002]), (500002, .row 40 true (.prod (.int .i64) (.prod (.int .i64) (.prod (.int .i64) (.last (.int .i64))))))]⟩
noncomputable def T2 : List Item := (find 2 c0 []).getD []
noncomputable abbrev p4 : Tpl := ⟨[⟨0, false, [.ptr 500001 0]⟩, ⟨5, false, [.d (.int .i64)]⟩], [(500001, .box [.d (.sl .str), .d .str, .d (.int .i64), .row 500002]), (500002, .row 40 true (.prod (.int .i64) (.prod (.int .i64) (.prod (.int .i64) (.last (.int .i64))))))]⟩
noncomputable def T4 : List Item := (find 4 c0 []).getD []
noncomputable abbrev PI := (List UInt8) × (List (List UInt8)) × (List UInt8) × Int × (List (Int × Int × Int × Int)) × Unit
noncomputable abbrev PO := (List UInt8) × (List (List UInt8)) × (List UInt8) × Int × (List (Int × Int × Int × Int)) × Unit
noncomputable abbrev P2 := (List UInt8) × Int × (List (List UInt8)) × (List UInt8) × Int × (List (Int × Int × Int × Int)) × Unit
noncomputable abbrev P4 := Int × (List (List UInt8)) × (List UInt8) × Int × (List (Int × Int × Int × Int)) × Unit
noncomputable abbrev rs : List ResultVar := [.tmp 4]
noncomputable def F0 (J2 : P2 → Option PO) (x1 : List UInt8) (c1_0 : List (List UInt8)) (c1_1 : List UInt8) (c1_2 : Int) (s2 : List (Int × Int × Int × Int)) : Option PO :=
  J2 (x1, c1_2, c1_0, c1_1, c1_2, s2, ())
noncomputable def F2 (J2 : P2 → Option PO) (J4 : P4 → Option PO) (Glib_IndexByte : lib_IndexByte.PI → Option lib_IndexByte.PO) (t1 : List UInt8) (t5 : Int) (c1_0 : List (List UInt8)) (c1_1 : List UInt8) (c1_2 : Int) (s2 : List (Int × Int × Int × Int)) : Option PO :=
  bif decide (c1_2 < (c1_1.length : Int)) then
    bif inb c1_2 c1_1.length then
      Option.bind (Glib_IndexByte (t1, ((c1_1.getD c1_2.toNat 0).toNat : Int), ())) fun y0 =>
      bif decide (y0.1 ≥ 0) then
        J2 (t1, t5, c1_0, c1_1, wI (c1_2 + 1), s2, ())
      else
        J4 (t5, c1_0, c1_1, c1_2, s2, ())
    else
      none
  else
    J4 (t5, c1_0, c1_1, c1_2, s2, ())
noncomputable def F4 (t5 : Int) (c1_0 : List (List UInt8)) (c1_1 : List UInt8) (c1_2 : Int) (s2 : List (Int × Int × Int × Int)) : Option PO :=
  bif decide (0 ≤ t5) && decide (t5 ≤ c1_2) && decide (c1_2 ≤ (c1_1.length : Int)) then
    some ((c1_1.take c1_2.toNat).drop t5.toNat, c1_0, c1_1, c1_2, s2, ())
  else
    none
noncomputable def hd {R : Type} (Glib_IndexByte : lib_IndexByte.PI → Option lib_IndexByte.PO) : Hand R := (handAt 48 [31] true ⟨2, 1, 0, lib_IndexByte.pin, lib_IndexByte.pout, Glib_IndexByte⟩ handNil)
noncomputable def pg (Glib_IndexByte : lib_IndexByte.PI → Option lib_IndexByte.PO) (J2 : List Item → P2 → Option PO) (J4 : List Item → P4 → Option PO) : Prog PO := { nt := 51, np := 2, tb := tabOf tab, hd := hd Glib_IndexByte, cuts := cutsOf [(2, cut p2 J2), (4, cut p4 J4)], fin := endOf (tabOf tab) rs 2 pout }
noncomputable def q : FuncId → Bool := fun f => hasId [48] f
theorem seg0 (Glib_IndexByte : lib_IndexByte.PI → Option lib_IndexByte.PO) (J2 : List Item → P2 → Option PO) (J4 : List Item → P4 → Option PO) (x1 : List UInt8) (c1_0 : List (List UInt8)) (c1_1 : List UInt8) (c1_2 : Int) (s2 : List (Int × Int × Int × Int)) : arun (pg Glib_IndexByte J2 J4) 5000 [.code c0] (mk pin (x1, c1_0, c1_1, c1_2, s2, ())) = F0 (J2 T2) x1 c1_0 c1_1 c1_2 s2 := by kernel_rfl
theorem seg2 (Glib_IndexByte : lib_IndexByte.PI → Option lib_IndexByte.PO) (J2 : List Item → P2 → Option PO) (J4 : List Item → P4 → Option PO) (t1 : List UInt8) (t5 : Int) (c1_0 : List (List UInt8)) (c1_1 : List UInt8) (c1_2 : Int) (s2 : List (Int × Int × Int × Int)) : arunQ (pg Glib_IndexByte J2 J4) q [] [] 5000 T2 (mk p2 (t1, t5, c1_0, c1_1, c1_2, s2, ())) = List.replicate (arunQ (pg Glib_IndexByte J2 J4) q [] [] 5000 T2 (mk p2 (t1, t5, c1_0, c1_1, c1_2, s2, ()))).length (F2 (J2 T2) (J4 T4) Glib_IndexByte t1 t5 c1_0 c1_1 c1_2 s2) := by kernel_rfl
theorem seg4 (Glib_IndexByte : lib_IndexByte.PI → Option lib_IndexByte.PO) (J2 : List Item → P2 → Option PO) (J4 : List Item → P4 → Option PO) (t5 : Int) (c1_0 : List (List UInt8)) (c1_1 : List UInt8) (c1_2 : Int) (s2 : List (Int × Int × Int × Int)) : arunQ (pg Glib_IndexByte J2 J4) q [] [] 5000 T4 (mk p4 (t5, c1_0, c1_1, c1_2, s2, ())) = List.replicate (arunQ (pg Glib_IndexByte J2 J4) q [] [] 5000 T4 (mk p4 (t5, c1_0, c1_1, c1_2, s2, ()))).length (F4 t5 c1_0 c1_1 c1_2 s2) := by kernel_rfl
noncomputable def L4 : P4 → Option PO := fun x => F4 x.1 x.2.1 x.2.2.1 x.2.2.2.1 x.2.2.2.2.1
noncomputable def L2 : P2 → Option PO := lfp fun J2 x => F2 J2 L4 lib_IndexByte.impl x.1 x.2.1 x.2.2.1 x.2.2.2.1 x.2.2.2.2.1 x.2.2.2.2.2.1
noncomputable def impl : PI → Option PO := fun x => F0 L2 x.1 x.2.1 x.2.2.1 x.2.2.2.1 x.2.2.2.2.1
theorem F2_le {J2 J2' : P2 → Option PO} (h2 : OLe J2 J2') {J4 J4' : P4 → Option PO} (h4 : OLe J4 J4') {Glib_IndexByte : lib_IndexByte.PI → Option lib_IndexByte.PO} (t1 : List UInt8) (t5 : Int) (c1_0 : List (List UInt8)) (c1_1 : List UInt8) (c1_2 : Int) (s2 : List (Int × Int × Int × Int)) : OptLe (F2 J2 J4 Glib_IndexByte t1 t5 c1_0 c1_1 c1_2 s2) (F2 J2' J4' Glib_IndexByte t1 t5 c1_0 c1_1 c1_2 s2) := by unfold F2; exact .cond (.cond (.bind (.refl _) fun _ => .cond (.of h2 _) (.of h4 _)) (.refl _)) (.of h4 _)
theorem L4_eq (t5 : Int) (c1_0 : List (List UInt8)) (c1_1 : List UInt8) (c1_2 : Int) (s2 : List (Int × Int × Int × Int)) : L4 (t5, c1_0, c1_1, c1_2, s2, ()) = F4 t5 c1_0 c1_1 c1_2 s2 := rfl
theorem L2_mono : OMono fun J2 (x : P2) => F2 J2 L4 lib_IndexByte.impl x.1 x.2.1 x.2.2.1 x.2.2.2.1 x.2.2.2.2.1 x.2.2.2.2.2.1 := fun J J' h2 x => F2_le h2 (fun _ _ h => h) x.1 x.2.1 x.2.2.1 x.2.2.2.1 x.2.2.2.2.1 x.2.2.2.2.2.1
theorem L2_eq (t1 : List UInt8) (t5 : Int) (c1_0 : List (List UInt8)) (c1_1 : List UInt8) (c1_2 : Int) (s2 : List (Int × Int × Int × Int)) : L2 (t1, t5, c1_0, c1_1, c1_2, s2, ()) = F2 (L2) (L4) lib_IndexByte.impl t1 t5 c1_0 c1_1 c1_2 s2 := congrFun (lfp_eq (L2_mono)) _
theorem impl_eq (x1 : List UInt8) (c1_0 : List (List UInt8)) (c1_1 : List UInt8) (c1_2 : Int) (s2 : List (Int × Int × Int × Int)) : impl (x1, c1_0, c1_1, c1_2, s2, ()) = F0 L2 x1 c1_0 c1_1 c1_2 s2 := rfl
theorem con : Con Tryd.prog 38 2 rs.length 2 pin pout impl := by
  refine con_of_run' (nt := 51) (c := c0) tabGood Tryd.func38 (by kernel_rfl) (by kernel_rfl) (by kernel_rfl) (by kernel_rfl) (by kernel_rfl) (by kernel_rfl) (by kernel_rfl) ?_
  intro w0 O y hnp
  generalize hPost : (fun (a' : Act) (w' : World) => ∃ μ' S' st', Rel 51 w0 O μ' S' st' a' w' ∧ endOf (tabOf tab) rs 2 pout st' = some y) = Post
  have fin : ∀ (μ : Id → Option Value) (S : Nat → Prop) (st : St) (a : Act) (w : World), Rel 51 w0 O μ S st a w → endOf (tabOf tab) rs 2 pout st = some y → Post a w := fun μ S st a w h he => by rw [← hPost]; exact ⟨μ, S, st, h, he⟩
  have hp : ∀ (J2 : List Item → P2 → Option PO), ∀ (J4 : List Item → P4 → Option PO), Parts Tryd.prog 38 (pg lib_IndexByte.impl J2 J4) [(2, cut p2 J2), (4, cut p4 J4)] := fun J2 J4 => ⟨tab_ok tabGood rfl, (handAt_ok lib_IndexByte.con handNil_ok), rfl⟩
  have g4 : Good Tryd.prog 51 w0 O Post y T4 p4 L4 := good_quiet (hs := hd lib_IndexByte.impl) (cv' := hd lib_IndexByte.impl) (Checked.mixed Tryd.checked) (hp (atT T2 (fun _ => none)) (atT T4 (fun _ => none))) (handAt_D lib_IndexByte.con (by rfl) rfl handNil_D) (handAt_nat handNil_nat) (handAt_nat handNil_nat) (runOK_of (hp (atT T2 (fun _ => none)) (atT T4 (fun _ => none))) hnp ⟨cutOK_at (p := p2) (T := T2) (J := fun _ => none) good_none, cutOK_at (p := p4) (T := T4) (J := fun _ => none) good_none, trivial⟩ fin) (fun x => all_same ⟨_, (seg4 lib_IndexByte.impl (atT T2 (fun _ => none)) (atT T4 (fun _ => none)) x.1 x.2.1 x.2.2.1 x.2.2.2.1 x.2.2.2.2.1)⟩)
  have g2 : Good Tryd.prog 51 w0 O Post y T2 p2 L2 := good_lfp fun J2 h2 => good_quiet (hs := hd lib_IndexByte.impl) (cv' := hd lib_IndexByte.impl) (Checked.mixed Tryd.checked) (hp (atT T2 J2) (atT T4 L4)) (handAt_D lib_IndexByte.con (by rfl) rfl handNil_D) (handAt_nat handNil_nat) (handAt_nat handNil_nat) (runOK_of (hp (atT T2 J2) (atT T4 L4)) hnp ⟨cutOK_at h2, cutOK_at g4, trivial⟩ fin) (fun x => all_same ⟨_, (seg2 lib_IndexByte.impl (atT T2 J2) (atT T4 L4) x.1 x.2.1 x.2.2.1 x.2.2.2.1 x.2.2.2.2.1 x.2.2.2.2.2.1).trans (by simp only [atT_self] <;> rfl)⟩)
  exact good_first (hp (atT T2 L2) (atT T4 (fun _ => none))) (runOK_of (hp (atT T2 L2) (atT T4 (fun _ => none))) hnp ⟨cutOK_at g2, cutOK_at (p := p4) (T := T4) (J := fun _ => none) good_none, trivial⟩ fin) (fun x => (seg0 lib_IndexByte.impl (atT T2 L2) (atT T4 (fun _ => none)) x.1 x.2.1 x.2.2.1 x.2.2.2.1 x.2.2.2.2.1).trans (by simp only [atT_self] <;> rfl))
end impl_scan_run

/-! ### loop.example/wholecheck/impl.numberText -/
namespace impl_numberText
noncomputable abbrev c0 : Code := (Tryd.f37.body).getD .skip
noncomputable abbrev pin : Tpl := ⟨[⟨0, false, [.d .str]⟩], []⟩
noncomputable abbrev pout : Tpl := ⟨[⟨0, false, [.d (.int .i64)]⟩, ⟨1, false, [.d .bool]⟩], []⟩
noncomputable abbrev PI := (List UInt8) × Unit
noncomputable abbrev PO := Int × Bool × Unit
noncomputable abbrev rs : List ResultVar := [.tmp 2, .tmp 3]
noncomputable def F0 (Gimpl_in : impl_in.PI → Option impl_in.PO) (Glib_Atoi : lib_Atoi.PI → Option lib_Atoi.PO) (Glib_Itoa : lib_Itoa.PI → Option lib_Itoa.PO) (x0 : List UInt8) : Option PO :=
  Option.bind (Glib_Atoi (x0, ())) fun y0 =>
  bif y0.2.1 then
    Option.bind (Glib_Itoa (y0.1, ())) fun y1 =>
    bif y1.1 == x0 then
      Option.bind (Gimpl_in (y0.1, (-9999), 9999, ())) fun y2 =>
      some (y0.1, y2.1, ())
    else
      some (y0.1, false, ())
  else
    some (y0.1, false, ())
noncomputable def hd {R : Type} (Gimpl_in : impl_in.PI → Option impl_in.PO) (Glib_Atoi : lib_Atoi.PI → Option lib_Atoi.PO) (Glib_Itoa : lib_Itoa.PI → Option lib_Itoa.PO) : Hand R := (handAt 47 [16] true ⟨1, 1, 0, lib_Itoa.pin, lib_Itoa.pout, Glib_Itoa⟩ (handAt 46 [8] true ⟨1, 2, 0, lib_Atoi.pin, lib_Atoi.pout, Glib_Atoi⟩ (handAt 44 [22] true ⟨3, 1, 3, impl_in.pin, impl_in.pout, Gimpl_in⟩ handNil)))
noncomputable def pg (Gimpl_in : impl_in.PI → Option impl_in.PO) (Glib_Atoi : lib_Atoi.PI → Option lib_Atoi.PO) (Glib_Itoa : lib_Itoa.PI → Option lib_Itoa.PO) : Prog PO := { nt := 24, np := 1, tb := tabOf tab, hd := hd Gimpl_in Glib_Atoi Glib_Itoa, cuts := cutsOf [], fin := endOf (tabOf tab) rs 1 pout }
noncomputable def q : FuncId → Bool := fun f => hasId [44, 46, 47] f
theorem seg0 (Gimpl_in : impl_in.PI → Option impl_in.PO) (Glib_Atoi : lib_Atoi.PI → Option lib_Atoi.PO) (Glib_Itoa : lib_Itoa.PI → Option lib_Itoa.PO) (x0 : List UInt8) : arun (pg Gimpl_in Glib_Atoi Glib_Itoa) 5000 [.code c0] (mk pin (x0, ())) = F0 Gimpl_in Glib_Atoi Glib_Itoa x0 := by kernel_rfl
noncomputable def impl : PI → Option PO := fun x => F0 impl_in.impl lib_Atoi.impl lib_Itoa.impl x.1
theorem impl_eq (x0 : List UInt8) : impl (x0, ()) = F0 impl_in.impl lib_Atoi.impl lib_Itoa.impl x0 := rfl
theorem con : Con Tryd.prog 37 1 rs.length 1 pin pout impl := by
  refine con_of_run' (nt := 24) (c := c0) tabGood Tryd.func37 (by kernel_rfl) (by kernel_rfl) (by kernel_rfl) (by kernel_rfl) (by kernel_rfl) (by kernel_rfl) (by kernel_rfl) ?_
  intro w0 O y hnp
  generalize hPost : (fun (a' : Act) (w' : World) => ∃ μ' S' st', Rel 24 w0 O μ' S' st' a' w' ∧ endOf (tabOf tab) rs 1 pout st' = some y) = Post
  have fin : ∀ (μ : Id → Option Value) (S : Nat → Prop) (st : St) (a : Act) (w : World), Rel 24 w0 O μ S st a w → endOf (tabOf tab) rs 1 pout st = some y → Post a w := fun μ S st a w h he => by rw [← hPost]; exact ⟨μ, S, st, h, he⟩
  have hp : Parts Tryd.prog 37 (pg impl_in.impl lib_Atoi.impl lib_Itoa.impl) [] := ⟨tab_ok tabGood rfl, (handAt_ok lib_Itoa.con (handAt_ok lib_Atoi.con (handAt_ok impl_in.con handNil_ok))), rfl⟩
  exact good_first (hp) (runOK_of (hp) hnp trivial fin) (fun x => (seg0 impl_in.impl lib_Atoi.impl lib_Itoa.impl x.1))
end impl_numberText

/-! ### slices.Index[[]loop.example/wholecheck/impl.Term,loop.example/wholecheck/impl.Term] -/
namespace slices_Index_of_1
noncomputable abbrev c0 : Code := (Tryd.f49.body).getD .skip
noncomputable abbrev pin : Tpl := ⟨[⟨0, false, [.d (.sl (.prod (.int .i64) (.prod (.int .i64) (.prod (.int .i64) (.last (.int .i64))))))]⟩, ⟨1, true, [.d (.prod (.int .i64) (.prod (.int .i64) (.prod (.int .i64) (.last (.int .i64)))))]⟩], []⟩
noncomputable abbrev pout : Tpl := ⟨[⟨0, false, [.d (.int .i64)]⟩], []⟩
noncomputable abbrev p2 : Tpl := ⟨[⟨0, false, [.d (.sl (.prod (.int .i64) (.prod (.int .i64) (.prod (.int .i64) (.last (.int .i64))))))]⟩, ⟨3, false, [.ptr 3000000 0]⟩, ⟨7, false, [.d (.int .i64)]⟩, ⟨8, false, [.d (.int .i64)]⟩], [(3000000, .box [.d (.int .i64), .d (.int .i64), .d (.int .i64), .d (.int .i64)])]⟩
noncomputable def T2 : List Item := (find 2 c0 []).getD []
noncomputable abbrev p4 : Tpl := ⟨[⟨0, false, [.d (.sl (.prod (.int .i64) (.prod (.int .i64) (.prod (.int .i64) (.last (.int .i64))))))]⟩, ⟨3, false, [.ptr 3000000 0]⟩, ⟨5, false, [.d (.int .i64)]⟩, ⟨7, false, [.d (.int .i64)]⟩, ⟨8, false, [.d (.int .i64)]⟩], [(3000000, .box [.d (.int .i64), .d (.int .i64), .d (.int .i64), .d (.int .i64)])]⟩
noncomputable def T4 : List Item := (find 4 c0 []).getD []
noncomputable abbrev PI := (List (Int × Int × Int × Int)) × (Int × Int × Int × Int) × Unit
noncomputable abbrev PO := Int × Unit
noncomputable abbrev P2 := (List (Int × Int × Int × Int)) × Int × Int × Int × Int × Int × Int × Unit
noncomputable abbrev P4 := (List (Int × Int × Int × Int)) × Int × Int × Int × Int × Int × Int × Int × Unit
noncomputable abbrev rs : List ResultVar := [.tmp 4]
noncomputable def F0 (J2 : P2 → Option PO) (x0 : List (Int × Int × Int × Int)) (x1 : Int × Int × Int × Int) : Option PO :=
  J2 (x0, (x0.length : Int), 0, x1.1, x1.2.1, x1.2.2.1, x1.2.2.2, ())
noncomputable def F2 (J4 : P4 → Option PO) (t0 : List (Int × Int × Int × Int)) (t7 : Int) (t8 : Int) (b0_0 : Int) (b0_1 : Int) (b0_2 : Int) (b0_3 : Int) : Option PO :=
  bif decide (t8 < t7) then
    J4 (t0, t8, t7, t8, b0_0, b0_1, b0_2, b0_3, ())
  else
    some ((-1), ())
noncomputable def F4 (J2 : P2 → Option PO) (t0 : List (Int × Int × Int × Int)) (t5 : Int) (t7 : Int) (t8 : Int) (b0_0 : Int) (b0_1 : Int) (b0_2 : Int) (b0_3 : Int) : Option PO :=
  bif inb t5 t0.length then
    bif ((b0_0 == (t0.getD t5.toNat (0, 0, 0, 0)).1) && ((b0_1 == (t0.getD t5.toNat (0, 0, 0, 0)).2.1) && ((b0_2 == (t0.getD t5.toNat (0, 0, 0, 0)).2.2.1) && (b0_3 == (t0.getD t5.toNat (0, 0, 0, 0)).2.2.2)))) then
      some (t5, ())
    else
      J2 (t0, t7, wI (t8 + 1), b0_0, b0_1, b0_2, b0_3, ())
  else
    none
noncomputable def hd {R : Type} : Hand R := handNil
noncomputable def pg (J2 : List Item → P2 → Option PO) (J4 : List Item → P4 → Option PO) : Prog PO := { nt := 19, np := 2, tb := tabOf tab, hd := hd, cuts := cutsOf [(2, cut p2 J2), (4, cut p4 J4)], fin := endOf (tabOf tab) rs 2 pout }
noncomputable def q : FuncId → Bool := fun f => hasId [] f
theorem seg0 (J2 : List Item → P2 → Option PO) (J4 : List Item → P4 → Option PO) (x0 : List (Int × Int × Int × Int)) (x1 : Int × Int × Int × Int) : arun (pg J2 J4) 5000 [.code c0] (mk pin (x0, x1, ())) = F0 (J2 T2) x0 x1 := by kernel_rfl
theorem seg2 (J2 : List Item → P2 → Option PO) (J4 : List Item → P4 → Option PO) (t0 : List (Int × Int × Int × Int)) (t7 : Int) (t8 : Int) (b0_0 : Int) (b0_1 : Int) (b0_2 : Int) (b0_3 : Int) : arun1 (pg J2 J4) 5000 T2 (mk p2 (t0, t7, t8, b0_0, b0_1, b0_2, b0_3, ())) = F2 (J4 T4) t0 t7 t8 b0_0 b0_1 b0_2 b0_3 := by kernel_rfl
theorem seg4 (J2 : List Item → P2 → Option PO) (J4 : List Item → P4 → Option PO) (t0 : List (Int × Int × Int × Int)) (t5 : Int) (t7 : Int) (t8 : Int) (b0_0 : Int) (b0_1 : Int) (b0_2 : Int) (b0_3 : Int) : arunQ (pg J2 J4) q [] [] 5000 T4 (mk p4 (t0, t5, t7, t8, b0_0, b0_1, b0_2, b0_3, ())) = List.replicate (arunQ (pg J2 J4) q [] [] 5000 T4 (mk p4 (t0, t5, t7, t8, b0_0, b0_1, b0_2, b0_3, ()))).length (F4 (J2 T2) t0 t5 t7 t8 b0_0 b0_1 b0_2 b0_3) := by kernel_rfl
noncomputable def L4 (J2 : P2 → Option PO) : P4 → Option PO := fun x => F4 J2 x.1 x.2.1 x.2.2.1 x.2.2.2.1 x.2.2.2.2.1 x.2.2.2.2.2.1 x.2.2.2.2.2.2.1 x.2.2.2.2.2.2.2.1
noncomputable def L2 : P2 → Option PO := lfp fun J2 x => F2 (L4 J2) x.1 x.2.1 x.2.2.1 x.2.2.2.1 x.2.2.2.2.1 x.2.2.2.2.2.1 x.2.2.2.2.2.2.1
noncomputable def impl : PI → Option PO := fun x => F0 L2 x.1 x.2.1
theorem F4_le {J2 J2' : P2 → Option PO} (h2 : OLe J2 J2') (t0 : List (Int × Int × Int × Int)) (t5 : Int) (t7 : Int) (t8 : Int) (b0_0 : Int) (b0_1 : Int) (b0_2 : Int) (b0_3 : Int) : OptLe (F4 J2 t0 t5 t7 t8 b0_0 b0_1 b0_2 b0_3) (F4 J2' t0 t5 t7 t8 b0_0 b0_1 b0_2 b0_3) := by unfold F4; exact .cond (.cond (.refl _) (.of h2 _)) (.refl _)
theorem F2_le {J4 J4' : P4 → Option PO} (h4 : OLe J4 J4') (t0 : List (Int × Int × Int × Int)) (t7 : Int) (t8 : Int) (b0_0 : Int) (b0_1 : Int) (b0_2 : Int) (b0_3 : Int) : OptLe (F2 J4 t0 t7 t8 b0_0 b0_1 b0_2 b0_3) (F2 J4' t0 t7 t8 b0_0 b0_1 b0_2 b0_3) := by unfold F2; exact .cond (.of h4 _) (.refl _)
theorem L4_eq (J2 : P2 → Option PO) (t0 : List (Int × Int × Int × Int)) (t5 : Int) (t7 : Int) (t8 : Int) (b0_0 : Int) (b0_1 : Int) (b0_2 : Int) (b0_3 : Int) : L4 J2 (t0, t5, t7, t8, b0_0, b0_1, b0_2, b0_3, ()) = F4 J2 t0 t5 t7 t8 b0_0 b0_1 b0_2 b0_3 := rfl
theorem L4_le {J2 J2' : P2 → Option PO} (h2 : OLe J2 J2') : OLe (L4 J2) (L4 J2') := fun x => F4_le h2 x.1 x.2.1 x.2.2.1 x.2.2.2.1 x.2.2.2.2.1 x.2.2.2.2.2.1 x.2.2.2.2.2.2.1 x.2.2.2.2.2.2.2.1
theorem L2_mono : OMono fun J2 (x : P2) => F2 (L4 J2) x.1 x.2.1 x.2.2.1 x.2.2.2.1 x.2.2.2.2.1 x.2.2.2.2.2.1 x.2.2.2.2.2.2.1 := fun J J' h2 x => F2_le (L4_le h2) x.1 x.2.1 x.2.2.1 x.2.2.2.1 x.2.2.2.2.1 x.2.2.2.2.2.1 x.2.2.2.2.2.2.1
theorem L2_eq (t0 : List (Int × Int × Int × Int)) (t7 : Int) (t8 : Int) (b0_0 : Int) (b0_1 : Int) (b0_2 : Int) (b0_3 : Int) : L2 (t0, t7, t8, b0_0, b0_1, b0_2, b0_3, ()) = F2 (L4 (L2)) t0 t7 t8 b0_0 b0_1 b0_2 b0_3 := congrFun (lfp_eq (L2_mono)) _
theorem impl_eq (x0 : List (Int × Int × Int × Int)) (x1 : Int × Int × Int × Int) : impl (x0, x1, ()) = F0 L2 x0 x1 := rfl
theorem con : Con Tryd.prog 49 2 rs.length 2 pin pout impl := by
  refine con_of_run' (nt := 19) (c := c0) tabGood Tryd.func49 (by kernel_rfl) (by kernel_rfl) (by kernel_rfl) (by kernel_rfl) (by kernel_rfl) (by kernel_rfl) (by kernel_rfl) ?_
  intro w0 O y hnp
  generalize hPost : (fun (a' : Act) (w' : World) => ∃ μ' S' st', Rel 19 w0 O μ' S' st' a' w' ∧ endOf (tabOf tab) rs 2 pout st' = some y) = Post
  have fin : ∀ (μ : Id → Option Value) (S : Nat → Prop) (st : St) (a : Act) (w : World), Rel 19 w0 O μ S st a w → endOf (tabOf tab) rs 2 pout st = some y → Post a w := fun μ S st a w h he => by rw [← hPost]; exact ⟨μ, S, st, h, he⟩
  have hp : ∀ (J2 : List Item → P2 → Option PO), ∀ (J4 : List Item → P4 → Option PO), Parts Tryd.prog 49 (pg J2 J4) [(2, cut p2 J2), (4, cut p4 J4)] := fun J2 J4 => ⟨tab_ok tabGood rfl, handNil_ok, rfl⟩
  have g4 : ∀ (J2 : P2 → Option PO), Good Tryd.prog 19 w0 O Post y T2 p2 J2 → Good Tryd.prog 19 w0 O Post y T4 p4 (L4 J2) := fun J2 h2 => good_quiet (hs := hd) (cv' := hd) (Checked.mixed Tryd.checked) (hp (atT T2 J2) (atT T4 (fun _ => none))) handNil_D handNil_nat handNil_nat (runOK_of (hp (atT T2 J2) (atT T4 (fun _ => none))) hnp ⟨cutOK_at h2, cutOK_at (p := p4) (T := T4) (J := fun _ => none) good_none, trivial⟩ fin) (fun x => all_same ⟨_, (seg4 (atT T2 J2) (atT T4 (fun _ => none)) x.1 x.2.1 x.2.2.1 x.2.2.2.1 x.2.2.2.2.1 x.2.2.2.2.2.1 x.2.2.2.2.2.2.1 x.2.2.2.2.2.2.2.1).trans (by simp only [atT_self] <;> rfl)⟩)
  have g2 : Good Tryd.prog 19 w0 O Post y T2 p2 L2 := good_lfp fun J2 h2 => good_part (hp (atT T2 (fun _ => none)) (atT T4 (L4 J2))) (runOK_of (hp (atT T2 (fun _ => none)) (atT T4 (L4 J2))) hnp ⟨cutOK_at (p := p2) (T := T2) (J := fun _ => none) good_none, cutOK_at (g4 J2 h2), trivial⟩ fin) (fun x => (seg2 (atT T2 (fun _ => none)) (atT T4 (L4 J2)) x.1 x.2.1 x.2.2.1 x.2.2.2.1 x.2.2.2.2.1 x.2.2.2.2.2.1 x.2.2.2.2.2.2.1).trans (by simp only [atT_self] <;> rfl))
  exact good_first (hp (atT T2 L2) (atT T4 (fun _ => none))) (runOK_of (hp (atT T2 L2) (atT T4 (fun _ => none))) hnp ⟨cutOK_at g2, cutOK_at (p := p4) (T := T4) (J := fun _ => none) good_none, trivial⟩ fin) (fun x => (seg0 (atT T2 L2) (atT T4 (fun _ => none)) x.1 x.2.1).trans (by simp only [atT_self] <;> rfl))
end slices_Index_of_1

/-! ### (*loop.example/wholecheck/impl.scan).put -/
namespace impl_scan_put
noncomputable abbrev c0 : Code := (Tryd.f39.body).getD .skip
noncomputable abbrev pin : Tpl := ⟨[⟨0, false, [.ptr 500001 0]⟩, ⟨1, true, [.d (.prod (.int .i64) (.prod (.int .i64) (.prod (.int .i64) (.last (.int .i64)))))]⟩], [(500001, .box [.d (.sl .str), .d .str, .d (.int .i64), .row 500002]), (500002, .row 40 true (.prod (.int .i64) (.prod (.int .i64) (.prod (.int .i64) (.last (.int .i64))))))]⟩
noncomputable abbrev pout : Tpl := ⟨[⟨0, false, [.d (.int .i64)]⟩, ⟨1, false, [.ptr 500001 0]⟩], [(500001, .box [.d (.sl .str), .d .str, .d (.int .i64), .row 500002]), (500002, .row 40 true (.prod (.int .i64) (.prod (.int .i64) (.prod (.int .i64) (.last (.int .i64))))))]⟩
noncomputable abbrev p1 : Tpl := ⟨[⟨0, false, [.ptr 500001 0]⟩, ⟨3, false, [.ptr 3000000 0]⟩], [(500001, .box [.d (.sl .str), .d .str, .d (.int .i64), .row 500002]), (3000000, .box [.d (.int .i64), .d (.int .i64), .d (.int .i64), .d (.int .i64)]), (500002, .row 40 true (.prod (.int .i64) (.prod (.int .i64) (.prod (.int .i64) (.last (.int .i64))))))]⟩
noncomputable def T1 : List Item := (find 1 c0 []).getD []
noncomputable abbrev p4 : Tpl := ⟨[⟨0, false, [.ptr 500001 0]⟩, ⟨3, false, [.ptr 3000000 0]⟩], [(500001, .box [.d (.sl .str), .d .str, .d (.int .i64), .row 500002]), (3000000, .box [.d (.int .i64), .d (.int .i64), .d (.int .i64), .d (.int .i64)]), (500002, .row 40 true (.prod (.int .i64) (.prod (.int .i64) (.prod (.int .i64) (.last (.int .i64))))))]⟩
noncomputable def T4 : List Item := (find 4 c0 []).getD []
noncomputable abbrev PI := (Int × Int × Int × Int) × (List (List UInt8)) × (List UInt8) × Int × (List (Int × Int × Int × Int)) × Unit
noncomputable abbrev PO := Int × (List (List UInt8)) × (List UInt8) × Int × (List (Int × Int × Int × Int)) × Unit
noncomputable abbrev P1 := (List (List UInt8)) × (List UInt8) × Int × Int × Int × Int × Int × (List (Int × Int × Int × Int)) × Unit
noncomputable abbrev P4 := (List (List UInt8)) × (List UInt8) × Int × Int × Int × Int × Int × (List (Int × Int × Int × Int)) × Unit
noncomputable abbrev rs : List ResultVar := [.tmp 4]
noncomputable def F0 (J1 : P1 → Option PO) (x1 : Int × Int × Int × Int) (c1_0 : List (List UInt8)) (c1_1 : List UInt8) (c1_2 : Int) (s2 : List (Int × Int × Int × Int)) : Option PO :=
  J1 (c1_0, c1_1, c1_2, x1.1, x1.2.1, x1.2.2.1, x1.2.2.2, s2, ())
noncomputable def F1 (J4 : P4 → Option PO) (Gslices_Index_of_1 : slices_Index_of_1.PI → Option slices_Index_of_1.PO) (c1_0 : List (List UInt8)) (c1_1 : List UInt8) (c1_2 : Int) (b0_0 : Int) (b0_1 : Int) (b0_2 : Int) (b0_3 : Int) (s2 : List (Int × Int × Int × Int)) : Option PO :=
  Option.bind (Gslices_Index_of_1 (s2, (b0_0, b0_1, b0_2, b0_3), ())) fun y0 =>
  bif decide (y0.1 ≥ 0) then
    some (y0.1, c1_0, c1_1, c1_2, s2, ())
  else
    J4 (c1_0, c1_1, c1_2, b0_0, b0_1, b0_2, b0_3, s2, ())
noncomputable def F4 (c1_0 : List (List UInt8)) (c1_1 : List UInt8) (c1_2 : Int) (b0_0 : Int) (b0_1 : Int) (b0_2 : Int) (b0_3 : Int) (s2 : List (Int × Int × Int × Int)) : Option PO :=
  bif decide ((s2.length + ([(b0_0, b0_1, b0_2, b0_3)] : List (Int × Int × Int × Int)).length) * 32 ≤ 140737488355328) then
    some (wI (((s2 ++ ([(b0_0, b0_1, b0_2, b0_3)] : List (Int × Int × Int × Int))).length : Int) - 1), c1_0, c1_1, c1_2, s2 ++ ([(b0_0, b0_1, b0_2, b0_3)] : List (Int × Int × Int × Int)), ())
  else
    none
noncomputable def hd {R : Type} (Gslices_Index_of_1 : slices_Index_of_1.PI → Option slices_Index_of_1.PO) : Hand R := (handAt 49 [11] true ⟨2, 1, 2, slices_Index_of_1.pin, slices_Index_of_1.pout, Gslices_Index_of_1⟩ handNil)
noncomputable def pg (Gslices_Index_of_1 : slices_Index_of_1.PI → Option slices_Index_of_1.PO) (J1 : List Item → P1 → Option PO) (J4 : List Item → P4 → Option PO) : Prog PO := { nt := 31, np := 2, tb := tabOf tab, hd := hd Gslices_Index_of_1, cuts := cutsOf [(1, cut p1 J1), (4, cut p4 J4)], fin := endOf (tabOf tab) rs 2 pout }
noncomputable def q : FuncId → Bool := fun f => hasId [49] f
theorem seg0 (Gslices_Index_of_1 : slices_Index_of_1.PI → Option slices_Index_of_1.PO) (J1 : List Item → P1 → Option PO) (J4 : List Item → P4 → Option PO) (x1 : Int × Int × Int × Int) (c1_0 : List (List UInt8)) (c1_1 : List UInt8) (c1_2 : Int) (s2 : List (Int × Int × Int × Int)) : arun (pg Gslices_Index_of_1 J1 J4) 5000 [.code c0] (mk pin (x1, c1_0, c1_1, c1_2, s2, ())) = F0 (J1 T1) x1 c1_0 c1_1 c1_2 s2 := by kernel_rfl
theorem seg1 (Gslices_Index_of_1 : slices_Index_of_1.PI → Option slices_Index_of_1.PO) (J1 : List Item → P1 → Option PO) (J4 : List Item → P4 → Option PO) (c1_0 : List (List UInt8)) (c1_1 : List UInt8) (c1_2 : Int) (b0_0 : Int) (b0_1 : Int) (b0_2 : Int) (b0_3 : Int) (s2 : List (Int × Int × Int × Int)) : arunQ (pg Gslices_Index_of_1 J1 J4) q [] [] 5000 T1 (mk p1 (c1_0, c1_1, c1_2, b0_0, b0_1, b0_2, b0_3, s2, ())) = List.replicate (arunQ (pg Gslices_Index_of_1 J1 J4) q [] [] 5000 T1 (mk p1 (c1_0, c1_1, c1_2, b0_0, b0_1, b0_2, b0_3, s2, ()))).length (F1 (J4 T4) Gslices_Index_of_1 c1_0 c1_1 c1_2 b0_0 b0_1 b0_2 b0_3 s2) := by kernel_rfl
theorem seg4 (Gslices_Index_of_1 : slices_Index_of_1.PI → Option slices_Index_of_1.PO) (J1 : List Item → P1 → Option PO) (J4 : List Item → P4 → Option PO) (c1_0 : List (List UInt8)) (c1_1 : List UInt8) (c1_2 : Int) (b0_0 : Int) (b0_1 : Int) (b0_2 : Int) (b0_3 : Int) (s2 : List (Int × Int × Int × Int)) : arunE (pg Gslices_Index_of_1 J1 J4) 5000 T4 (mk p4 (c1_0, c1_1, c1_2, b0_0, b0_1, b0_2, b0_3, s2, ())) = List.replicate (arunE (pg Gslices_Index_of_1 J1 J4) 5000 T4 (mk p4 (c1_0, c1_1, c1_2, b0_0, b0_1, b0_2, b0_3, s2, ()))).length (F4 c1_0 c1_1 c1_2 b0_0 b0_1 b0_2 b0_3 s2) := by kernel_rfl
noncomputable def L4 : P4 → Option PO := fun x => F4 x.1 x.2.1 x.2.2.1 x.2.2.2.1 x.2.2.2.2.1 x.2.2.2.2.2.1 x.2.2.2.2.2.2.1 x.2.2.2.2.2.2.2.1
noncomputable def L1 : P1 → Option PO := fun x => F1 L4 slices_Index_of_1.impl x.1 x.2.1 x.2.2.1 x.2.2.2.1 x.2.2.2.2.1 x.2.2.2.2.2.1 x.2.2.2.2.2.2.1 x.2.2.2.2.2.2.2.1
noncomputable def impl : PI → Option PO := fun x => F0 L1 x.1 x.2.1 x.2.2.1 x.2.2.2.1 x.2.2.2.2.1
theorem L4_eq (c1_0 : List (List UInt8)) (c1_1 : List UInt8) (c1_2 : Int) (b0_0 : Int) (b0_1 : Int) (b0_2 : Int) (b0_3 : Int) (s2 : List (Int × Int × Int × Int)) : L4 (c1_0, c1_1, c1_2, b0_0, b0_1, b0_2, b0_3, s2, ()) = F4 c1_0 c1_1 c1_2 b0_0 b0_1 b0_2 b0_3 s2 := rfl
theorem L1_eq (c1_0 : List (List UInt8)) (c1_1 : List UInt8) (c1_2 : Int) (b0_0 : Int) (b0_1 : Int) (b0_2 : Int) (b0_3 : Int) (s2 : List (Int × Int × Int × Int)) : L1 (c1_0, c1_1, c1_2, b0_0, b0_1, b0_2, b0_3, s2, ()) = F1 (L4) slices_Index_of_1.impl c1_0 c1_1 c1_2 b0_0 b0_1 b0_2 b0_3 s2 := rfl
theorem impl_eq (x1 : Int × Int × Int × Int) (c1_0 : List (List UInt8)) (c1_1 : List UInt8) (c1_2 : Int) (s2 : List (Int × Int × Int × Int)) : impl (x1, c1_0, c1_1, c1_2, s2, ()) = F0 L1 x1 c1_0 c1_1 c1_2 s2 := rfl
theorem con : Con Tryd.prog 39 2 rs.length 2 pin pout impl := by
  refine con_of_run' (nt := 31) (c := c0) tabGood Tryd.func39 (by kernel_rfl) (by kernel_rfl) (by kernel_rfl) (by kernel_rfl) (by kernel_rfl) (by kernel_rfl) (by kernel_rfl) ?_
  intro w0 O y hnp
  generalize hPost : (fun (a' : Act) (w' : World) => ∃ μ' S' st', Rel 31 w0 O μ' S' st' a' w' ∧ endOf (tabOf tab) rs 2 pout st' = some y) = Post
  have fin : ∀ (μ : Id → Option Value) (S : Nat → Prop) (st : St) (a : Act) (w : World), Rel 31 w0 O μ S st a w → endOf (tabOf tab) rs 2 pout st = some y → Post a w := fun μ S st a w h he => by rw [← hPost]; exact ⟨μ, S, st, h, he⟩
  have hp : ∀ (J1 : List Item → P1 → Option PO), ∀ (J4 : List Item → P4 → Option PO), Parts Tryd.prog 39 (pg slices_Index_of_1.impl J1 J4) [(1, cut p1 J1), (4, cut p4 J4)] := fun J1 J4 => ⟨tab_ok tabGood rfl, (handAt_ok slices_Index_of_1.con handNil_ok), rfl⟩
  have g4 : Good Tryd.prog 31 w0 O Post y T4 p4 L4 := good_orders (hs := hd slices_Index_of_1.impl) (cv' := hd slices_Index_of_1.impl) (Checked.mixed Tryd.checked) (hp (atT T1 (fun _ => none)) (atT T4 (fun _ => none))) (handAt_ok slices_Index_of_1.con handNil_ok) (handAt_nat handNil_nat) (handAt_nat handNil_nat) (runOK_of (hp (atT T1 (fun _ => none)) (atT T4 (fun _ => none))) hnp ⟨cutOK_at (p := p1) (T := T1) (J := fun _ => none) good_none, cutOK_at (p := p4) (T := T4) (J := fun _ => none) good_none, trivial⟩ fin) (fun x => all_same ⟨_, (seg4 slices_Index_of_1.impl (atT T1 (fun _ => none)) (atT T4 (fun _ => none)) x.1 x.2.1 x.2.2.1 x.2.2.2.1 x.2.2.2.2.1 x.2.2.2.2.2.1 x.2.2.2.2.2.2.1 x.2.2.2.2.2.2.2.1)⟩)
  have g1 : Good Tryd.prog 31 w0 O Post y T1 p1 L1 := good_quiet (hs := hd slices_Index_of_1.impl) (cv' := hd slices_Index_of_1.impl) (Checked.mixed Tryd.checked) (hp (atT T1 (fun _ => none)) (atT T4 L4)) (handAt_D slices_Index_of_1.con (by rfl) rfl handNil_D) (handAt_nat handNil_nat) (handAt_nat handNil_nat) (runOK_of (hp (atT T1 (fun _ => none)) (atT T4 L4)) hnp ⟨cutOK_at (p := p1) (T := T1) (J := fun _ => none) good_none, cutOK_at g4, trivial⟩ fin) (fun x => all_same ⟨_, (seg1 slices_Index_of_1.impl (atT T1 (fun _ => none)) (atT T4 L4) x.1 x.2.1 x.2.2.1 x.2.2.2.1 x.2.2.2.2.1 x.2.2.2.2.2.1 x.2.2.2.2.2.2.1 x.2.2.2.2.2.2.2.1).trans (by simp only [atT_self] <;> rfl)⟩)
  exact good_first (hp (atT T1 L1) (atT T4 (fun _ => none))) (runOK_of (hp (atT T1 L1) (atT T4 (fun _ => none))) hnp ⟨cutOK_at g1, cutOK_at (p := p4) (T := T4) (J := fun _ => none) good_none, trivial⟩ fin) (fun x => (seg0 slices_Index_of_1.impl (atT T1 L1) (atT T4 (fun _ => none)) x.1 x.2.1 x.2.2.1 x.2.2.2.1 x.2.2.2.2.1).trans (by simp only [atT_self] <;> rfl))
end impl_scan_put

/-! ### internal/stringslite.HasPrefix -/
namespace internal_stringslite_HasPrefix
noncomputable abbrev c0 : Code := (Tryd.f63.body).getD .skip
noncomputable abbrev pin : Tpl := ⟨[⟨0, false, [.d .str]⟩, ⟨1, false, [.d .str]⟩], []⟩
noncomputable abbrev pout : Tpl := ⟨[⟨0, false, [.d .bool]⟩], []⟩
noncomputable abbrev PI := (List UInt8) × (List UInt8) × Unit
noncomputable abbrev PO := Bool × Unit
noncomputable abbrev rs : List ResultVar := [.tmp 4]
noncomputable def F0 (x0 : List UInt8) (x1 : List UInt8) : Option PO :=
  bif decide ((x0.length : Int) ≥ (x1.length : Int)) then
    bif decide (0 ≤ (x1.length : Int)) && decide ((x1.length : Int) ≤ (x0.length : Int)) then
      some (((x0.take (x1.length : Int).toNat).drop 0) == x1, ())
    else
      none
  else
    some (false, ())
noncomputable def hd {R : Type} : Hand R := handNil
noncomputable def pg : Prog PO := { nt := 18, np := 2, tb := tabOf tab, hd := hd, cuts := cutsOf [], fin := endOf (tabOf tab) rs 2 pout }
noncomputable def q : FuncId → Bool := fun f => hasId [] f
theorem seg0 (x0 : List UInt8) (x1 : List UInt8) : arun (pg) 5000 [.code c0] (mk pin (x0, x1, ())) = F0 x0 x1 := by kernel_rfl
noncomputable def impl : PI → Option PO := fun x => F0 x.1 x.2.1
theorem impl_eq (x0 : List UInt8) (x1 : List UInt8) : impl (x0, x1, ()) = F0 x0 x1 := rfl
theorem con : Con Tryd.prog 63 2 rs.length 2 pin pout impl := by
  refine con_of_run' (nt := 18) (c := c0) tabGood Tryd.func63 (by kernel_rfl) (by kernel_rfl) (by kernel_rfl) (by kernel_rfl) (by kernel_rfl) (by kernel_rfl) (by kernel_rfl) ?_
  intro w0 O y hnp
  generalize hPost : (fun (a' : Act) (w' : World) => ∃ μ' S' st', Rel 18 w0 O μ' S' st' a' w' ∧ endOf (tabOf tab) rs 2 pout st' = some y) = Post
  have fin : ∀ (μ : Id → Option Value) (S : Nat → Prop) (st : St) (a : Act) (w : World), Rel 18 w0 O μ S st a w → endOf (tabOf tab) rs 2 pout st = some y → Post a w := fun μ S st a w h he => by rw [← hPost]; exact ⟨μ, S, st, h, he⟩
  have hp : Parts Tryd.prog 63 (pg) [] := ⟨tab_ok tabGood rfl, handNil_ok, rfl⟩
  exact good_first (hp) (runOK_of (hp) hnp trivial fin) (fun x => (seg0 x.1 x.2.1))
end internal_stringslite_HasPrefix

/-! ### strings.HasPrefix -/
namespace strings_HasPrefix
noncomputable abbrev c0 : Code := (Tryd.f50.body).getD .skip
noncomputable abbrev pin : Tpl := ⟨[⟨0, false, [.d .str]⟩, ⟨1, false, [.d .str]⟩], []⟩
noncomputable abbrev pout : Tpl := ⟨[⟨0, false, [.d .bool]⟩], []⟩
noncomputable abbrev PI := (List UInt8) × (List UInt8) × Unit
noncomputable abbrev PO := Bool × Unit
noncomputable abbrev rs : List ResultVar := [.tmp 4]
noncomputable def F0 (Ginternal_stringslite_HasPrefix : internal_stringslite_HasPrefix.PI → Option internal_stringslite_HasPrefix.PO) (x0 : List UInt8) (x1 : List UInt8) : Option PO :=
  Option.bind (Ginternal_stringslite_HasPrefix (x0, x1, ())) fun y0 =>
  some (y0.1, ())
noncomputable def hd {R : Type} (Ginternal_stringslite_HasPrefix : internal_stringslite_HasPrefix.PI → Option internal_stringslite_HasPrefix.PO) : Hand R := (handAt 63 [7] true ⟨2, 1, 2, internal_stringslite_HasPrefix.pin, internal_stringslite_HasPrefix.pout, Ginternal_stringslite_HasPrefix⟩ handNil)
noncomputable def pg (Ginternal_stringslite_HasPrefix : internal_stringslite_HasPrefix.PI → Option internal_stringslite_HasPrefix.PO) : Prog PO := { nt := 8, np := 2, tb := tabOf tab, hd := hd Ginternal_stringslite_HasPrefix, cuts := cutsOf [], fin := endOf (tabOf tab) rs 2 pout }
noncomputable def q : FuncId → Bool := fun f => hasId [63] f
theorem seg0 (Ginternal_stringslite_HasPrefix : internal_stringslite_HasPrefix.PI → Option internal_stringslite_HasPrefix.PO) (x0 : List UInt8) (x1 : List UInt8) : arun (pg Ginternal_stringslite_HasPrefix) 5000 [.code c0] (mk pin (x0, x1, ())) = F0 Ginternal_stringslite_HasPrefix x0 x1 := by kernel_rfl
noncomputable def impl : PI → Option PO := fun x => F0 internal_stringslite_HasPrefix.impl x.1 x.2.1
theorem impl_eq (x0 : List UInt8) (x1 : List UInt8) : impl (x0, x1, ()) = F0 internal_stringslite_HasPrefix.impl x0 x1 := rfl
theorem con : Con Tryd.prog 50 2 rs.length 2 pin pout impl := by
  refine con_of_run' (nt := 8) (c := c0) tabGood Tryd.func50 (by kernel_rfl) (by kernel_rfl) (by kernel_rfl) (by kernel_rfl) (by kernel_rfl) (by kernel_rfl) (by kernel_rfl) ?_
  intro w0 O y hnp
  generalize hPost : (fun (a' : Act) (w' : World) => ∃ μ' S' st', Rel 8 w0 O μ' S' st' a' w' ∧ endOf (tabOf tab) rs 2 pout st' = some y) = Post
  have fin : ∀ (μ : Id → Option Value) (S : Nat → Prop) (st : St) (a : Act) (w : World), Rel 8 w0 O μ S st a w → endOf (tabOf tab) rs 2 pout st = some y → Post a w := fun μ S st a w h he => by rw [← hPost]; exact ⟨μ, S, st, h, he⟩
  have hp : Parts Tryd.prog 50 (pg internal_stringslite_HasPrefix.impl) [] := ⟨tab_ok tabGood rfl, (handAt_ok internal_stringslite_HasPrefix.con handNil_ok), rfl⟩
  exact good_first (hp) (runOK_of (hp) hnp trivial fin) (fun x => (seg0 internal_stringslite_HasPrefix.impl x.1 x.2.1))
end strings_HasPrefix

/-! ### (*loop.example/wholecheck/impl.scan).take -/
namespace impl_scan_take
noncomputable abbrev c0 : Code := (Tryd.f41.body).getD .skip
noncomputable abbrev pin : Tpl := ⟨[⟨0, false, [.ptr 500001 0]⟩, ⟨1, false, [.d .str]⟩], [(500001, .box [.d (.sl .str), .d .str, .d (.int .i64), .row 500002]), (500002, .row 40 true (.prod (.int .i64) (.prod (.int .i64) (.prod (.int .i64) (.last (.int .i64))))))]⟩
noncomputable abbrev pout : Tpl := ⟨[⟨0, false, [.d .bool]⟩, ⟨1, false, [.ptr 500001 0]⟩], [(500001, .box [.d (.sl .str), .d .str, .d (.int .i64), .row 500002]), (500002, .row 40 true (.prod (.int .i64) (.prod (.int .i64) (.prod (.int .i64) (.last (.int .i64))))))]⟩
noncomputable abbrev p1 : Tpl := ⟨[⟨0, false, [.ptr 500001 0]⟩, ⟨1, false, [.d .str]⟩], [(500001, .box [.d (.sl .str), .d .str, .d (.int .i64), .row 500002]), (500002, .row 40 true (.prod (.int .i64) (.prod (.int .i64) (.prod (.int .i64) (.last (.int .i64))))))]⟩
noncomputable def T1 : List Item := (find 1 c0 []).getD []
noncomputable abbrev PI := (List UInt8) × (List (List UInt8)) × (List UInt8) × Int × (List (Int × Int × Int × Int)) × Unit
noncomputable abbrev PO := Bool × (List (List UInt8)) × (List UInt8) × Int × (List (Int × Int × Int × Int)) × Unit
noncomputable abbrev P1 := (List UInt8) × (List (List UInt8)) × (List UInt8) × Int × (List (Int × Int × Int × Int)) × Unit
noncomputable abbrev rs : List ResultVar := [.tmp 4]
noncomputable def F0 (J1 : P1 → Option PO) (x1 : List UInt8) (c1_0 : List (List UInt8)) (c1_1 : List UInt8) (c1_2 : Int) (s2 : List (Int × Int × Int × Int)) : Option PO :=
  J1 (x1, c1_0, c1_1, c1_2, s2, ())
noncomputable def F1 (Gstrings_HasPrefix : strings_HasPrefix.PI → Option strings_HasPrefix.PO) (t1 : List UInt8) (c1_0 : List (List UInt8)) (c1_1 : List UInt8) (c1_2 : Int) (s2 : List (Int × Int × Int × Int)) : Option PO :=
  bif decide (0 ≤ c1_2) && decide (c1_2 ≤ (c1_1.length : Int)) && decide ((c1_1.length : Int) ≤ (c1_1.length : Int)) then
    Option.bind (Gstrings_HasPrefix ((c1_1.take (c1_1.length : Int).toNat).drop c1_2.toNat, t1, ())) fun y0 =>
    bif !y0.1 then
      some (false, c1_0, c1_1, c1_2, s2, ())
    else
      some (true, c1_0, c1_1, wI (c1_2 + (t1.length : Int)), s2, ())
  else
    none
noncomputable def hd {R : Type} (Gstrings_HasPrefix : strings_HasPrefix.PI → Option strings_HasPrefix.PO) : Hand R := (handAt 50 [15] true ⟨2, 1, 2, strings_HasPrefix.pin, strings_HasPrefix.pout, Gstrings_HasPrefix⟩ handNil)
noncomputable def pg (Gstrings_HasPrefix : strings_HasPrefix.PI → Option strings_HasPrefix.PO) (J1 : List Item → P1 → Option PO) : Prog PO := { nt := 26, np := 2, tb := tabOf tab, hd := hd Gstrings_HasPrefix, cuts := cutsOf [(1, cut p1 J1)], fin := endOf (tabOf tab) rs 2 pout }
noncomputable def q : FuncId → Bool := fun f => hasId [50] f
theorem seg0 (Gstrings_HasPrefix : strings_HasPrefix.PI → Option strings_HasPrefix.PO) (J1 : List Item → P1 → Option PO) (x1 : List UInt8) (c1_0 : List (List UInt8)) (c1_1 : List UInt8) (c1_2 : Int) (s2 : List (Int × Int × Int × Int)) : arun (pg Gstrings_HasPrefix J1) 5000 [.code c0] (mk pin (x1, c1_0, c1_1, c1_2, s2, ())) = F0 (J1 T1) x1 c1_0 c1_1 c1_2 s2 := by kernel_rfl
theorem seg1 (Gstrings_HasPrefix : strings_HasPrefix.PI → Option strings_HasPrefix.PO) (J1 : List Item → P1 → Option PO) (t1 : List UInt8) (c1_0 : List (List UInt8)) (c1_1 : List UInt8) (c1_2 : Int) (s2 : List (Int × Int × Int × Int)) : arunQ (pg Gstrings_HasPrefix J1) q [] [] 5000 T1 (mk p1 (t1, c1_0, c1_1, c1_2, s2, ())) = List.replicate (arunQ (pg Gstrings_HasPrefix J1) q [] [] 5000 T1 (mk p1 (t1, c1_0, c1_1, c1_2, s2, ()))).length (F1 Gstrings_HasPrefix t1 c1_0 c1_1 c1_2 s2) := by kernel_rfl
noncomputable def L1 : P1 → Option PO := fun x => F1 strings_HasPrefix.impl x.1 x.2.1 x.2.2.1 x.2.2.2.1 x.2.2.2.2.1
noncomputable def impl : PI → Option PO := fun x => F0 L1 x.1 x.2.1 x.2.2.1 x.2.2.2.1 x.2.2.2.2.1
theorem L1_eq (t1 : List UInt8) (c1_0 : List (List UInt8)) (c1_1 : List UInt8) (c1_2 : Int) (s2 : List (Int × Int × Int × Int)) : L1 (t1, c1_0, c1_1, c1_2, s2, ()) = F1 strings_HasPrefix.impl t1 c1_0 c1_1 c1_2 s2 := rfl
theorem impl_eq (x1 : List UInt8) (c1_0 : List (List UInt8)) (c1_1 : List UInt8) (c1_2 : Int) (s2 : List (Int × Int × Int × Int)) : impl (x1, c1_0, c1_1, c1_2, s2, ()) = F0 L1 x1 c1_0 c1_1 c1_2 s2 := rfl
theorem con : Con Tryd.prog 41 2 rs.length 2 pin pout impl := by
  refine con_of_run' (nt := 26) (c := c0) tabGood Tryd.func41 (by kernel_rfl) (by kernel_rfl) (by kernel_rfl) (by kernel_rfl) (by kernel_rfl) (by kernel_rfl) (by kernel_rfl) ?_
  intro w0 O y hnp
  generalize hPost : (fun (a' : Act) (w' : World) => ∃ μ' S' st', Rel 26 w0 O μ' S' st' a' w' ∧ endOf (tabOf tab) rs 2 pout st' = some y) = Post
  have fin : ∀ (μ : Id → Option Value) (S : Nat → Prop) (st : St) (a : Act) (w : World), Rel 26 w0 O μ S st a w → endOf (tabOf tab) rs 2 pout st = some y → Post a w := fun μ S st a w h he => by rw [← hPost]; exact ⟨μ, S, st, h, he⟩
  have hp : ∀ (J1 : List Item → P1 → Option PO), Parts Tryd.prog 41 (pg strings_HasPrefix.impl J1) [(1, cut p1 J1)] := fun J1 => ⟨tab_ok tabGood rfl, (handAt_ok strings_HasPrefix.con handNil_ok), rfl⟩
  have g1 : Good Tryd.prog 26 w0 O Post y T1 p1 L1 := good_quiet (hs := hd strings_HasPrefix.impl) (cv' := hd strings_HasPrefix.impl) (Checked.mixed Tryd.checked) (hp (atT T1 (fun _ => none))) (handAt_D strings_HasPrefix.con (by rfl) rfl handNil_D) (handAt_nat handNil_nat) (handAt_nat handNil_nat) (runOK_of (hp (atT T1 (fun _ => none))) hnp ⟨cutOK_at (p := p1) (T := T1) (J := fun _ => none) good_none, trivial⟩ fin) (fun x => all_same ⟨_, (seg1 strings_HasPrefix.impl (atT T1 (fun _ => none)) x.1 x.2.1 x.2.2.1 x.2.2.2.1 x.2.2.2.2.1)⟩)
  exact good_first (hp (atT T1 L1)) (runOK_of (hp (atT T1 L1)) hnp ⟨cutOK_at g1, trivial⟩ fin) (fun x => (seg0 strings_HasPrefix.impl (atT T1 L1) x.1 x.2.1 x.2.2.1 x.2.2.2.1 x.2.2.2.2.1).trans (by simp only [atT_self] <;> rfl))
end impl_scan_take

/-! ### (*loop.example/wholecheck/impl.scan).expr -/
namespace impl_scan_expr
noncomputable abbrev c0 : Code := (Tryd.f27.body).getD .skip
noncomputable abbrev pin : Tpl := ⟨[⟨0, false, [.ptr 500001 0]⟩, ⟨1, false, [.d (.int .i64)]⟩], [(500001, .box [.d (.sl .str), .d .str, .d (.int .i64), .row 500002]), (500002, .row 40 true (.prod (.int .i64) (.prod (.int .i64) (.prod (.int .i64) (.last (.int .i64))))))]⟩
noncomputable abbrev pout : Tpl := ⟨[⟨0, false, [.d (.int .i64)]⟩, ⟨1, false, [.ptr 500001 0]⟩], [(500001, .box [.d (.sl .str), .d .str, .d (.int .i64), .row 500002]), (500002, .row 40 true (.prod (.int .i64) (.prod (.int .i64) (.prod (.int .i64) (.last (.int .i64))))))]⟩
noncomputable abbrev p1 : Tpl := ⟨[⟨0, false, [.ptr 500001 0]⟩, ⟨1, false, [.d (.int .i64)]⟩], [(500001, .box [.d (.sl .str), .d .str, .d (.int .i64), .row 500002]), (500002, .row 40 true (.prod (.int .i64) (.prod (.int .i64) (.prod (.int .i64) (.last (.int .i64))))))]⟩
noncomputable def T1 : List Item := (find 1 c0 []).getD []
noncomputable abbrev p3 : Tpl := ⟨[⟨0, false, [.ptr 500001 0]⟩, ⟨1, false, [.d (.int .i64)]⟩], [(500001, .box [.d (.sl .str), .d .str, .d (.int .i64), .row 500002]), (500002, .row 40 true (.prod (.int .i64) (.prod (.int .i64) (.prod (.int .i64) (.last (.int .i64))))))]⟩
noncomputable def T3 : List Item := (find 3 c0 []).getD []
noncomputable abbrev p10 : Tpl := ⟨[⟨0, false, [.ptr 500001 0]⟩], [(500001, .box [.d (.sl .str), .d .str, .d (.int .i64), .row 500002]), (500002, .row 40 true (.prod (.int .i64) (.prod (.int .i64) (.prod (.int .i64) (.last (.int .i64))))))]⟩
noncomputable def T10 : List Item := (find 10 c0 []).getD []
noncomputable abbrev p23 : Tpl := ⟨[⟨0, false, [.ptr 500001 0]⟩, ⟨1, false, [.d (.int .i64)]⟩, ⟨10, false, [.d (.int .i64)]⟩], [(500001, .box [.d (.sl .str), .d .str, .d (.int .i64), .row 500002]), (500002, .row 40 true (.prod (.int .i64) (.prod (.int .i64) (.prod (.int .i64) (.last (.int .i64))))))]⟩
noncomputable def T23 : List Item := (find 23 c0 []).getD []
noncomputable abbrev p25 : Tpl := ⟨[⟨0, false, [.ptr 500001 0]⟩, ⟨1, false, [.d (.int .i64)]⟩, ⟨10, false, [.d (.int .i64)]⟩], [(500001, .box [.d (.sl .str), .d .str, .d (.int .i64), .row 500002]), (500002, .row 40 true (.prod (.int .i64) (.prod (.int .i64) (.prod (.int .i64) (.last (.int .i64))))))]⟩
noncomputable def T25 : List Item := (find 25 c0 []).getD []
noncomputable abbrev p29 : Tpl := ⟨[⟨0, false, [.ptr 500001 0]⟩, ⟨1, false, [.d (.int .i64)]⟩, ⟨10, false, [.d (.int .i64)]⟩, ⟨11, false, [.d (.int .i64)]⟩], [(500001, .box [.d (.sl .str), .d .str, .d (.int .i64), .row 500002]), (500002, .row 40 true (.prod (.int .i64) (.prod (.int .i64) (.prod (.int .i64) (.last (.int .i64))))))]⟩
noncomputable def T29 : List Item := (find 29 c0 []).getD []
noncomputable abbrev PI := Int × (List (List UInt8)) × (List UInt8) × Int × (List (Int × Int × Int × Int)) × Unit
noncomputable abbrev PO := Int × (List (List UInt8)) × (List UInt8) × Int × (List (Int × Int × Int × Int)) × Unit
noncomputable abbrev P1 := Int × (List (List UInt8)) × (List UInt8) × Int × (List (Int × Int × Int × Int)) × Unit
noncomputable abbrev P3 := Int × (List (List UInt8)) × (List UInt8) × Int × (List (Int × Int × Int × Int)) × Unit
noncomputable abbrev P10 := (List (List UInt8)) × (List UInt8) × Int × (List (Int × Int × Int × Int)) × Unit
noncomputable abbrev P23 := Int × Int × (List (List UInt8)) × (List UInt8) × Int × (List (Int × Int × Int × Int)) × Unit
noncomputable abbrev P25 := Int × Int × (List (List UInt8)) × (List UInt8) × Int × (List (Int × Int × Int × Int)) × Unit
noncomputable abbrev P29 := Int × Int × Int × (List (List UInt8)) × (List UInt8) × Int × (List (Int × Int × Int × Int)) × Unit
noncomputable abbrev rs : List ResultVar := [.tmp 4]
noncomputable def F0 (J1 : P1 → Option PO) (x1 : Int) (c1_0 : List (List UInt8)) (c1_1 : List UInt8) (c1_2 : Int) (s2 : List (Int × Int × Int × Int)) : Option PO :=
  J1 (x1, c1_0, c1_1, c1_2, s2, ())
noncomputable def F1 (J3 : P3 → Option PO) (t1 : Int) (c1_0 : List (List UInt8)) (c1_1 : List UInt8) (c1_2 : Int) (s2 : List (Int × Int × Int × Int)) : Option PO :=
  bif c1_2 == (c1_1.length : Int) then
    some ((-1), c1_0, c1_1, c1_2, s2, ())
  else
    J3 (t1, c1_0, c1_1, c1_2, s2, ())
noncomputable def F3 (J10 : P10 → Option PO) (J23 : P23 → Option PO) (Gimpl_numberText : impl_numberText.PI → Option impl_numberText.PO) (Gimpl_scan_expr : PI → Option PO) (Gimpl_scan_put : impl_scan_put.PI → Option impl_scan_put.PO) (Gimpl_scan_run : impl_scan_run.PI → Option impl_scan_run.PO) (Gimpl_scan_take : impl_scan_take.PI → Option impl_scan_take.PO) (t1 : Int) (c1_0 : List (List UInt8)) (c1_1 : List UInt8) (c1_2 : Int) (s2 : List (Int × Int × Int × Int)) : Option PO :=
  bif inb c1_2 c1_1.length then
    bif ((c1_1.getD c1_2.toNat 0).toNat : Int) == 45 then
      Option.bind (Gimpl_scan_run (([45, 48, 49, 50, 51, 52, 53, 54, 55, 56, 57] : List UInt8), c1_0, c1_1, c1_2, s2, ())) fun y0 =>
      Option.bind (Gimpl_numberText (y0.1, ())) fun y1 =>
      bif !y1.2.1 then
        some ((-1), y0.2.1, y0.2.2.1, y0.2.2.2.1, y0.2.2.2.2.1, ())
      else
        Option.bind (Gimpl_scan_put ((0, y1.1, 0, 0), y0.2.1, y0.2.2.1, y0.2.2.2.1, y0.2.2.2.2.1, ())) fun y2 =>
        some (y2.1, y2.2.1, y2.2.2.1, y2.2.2.2.1, y2.2.2.2.2.1, ())
    else
      bif decide (((c1_1.getD c1_2.toNat 0).toNat : Int) ≥ 48) then
        bif decide (((c1_1.getD c1_2.toNat 0).toNat : Int) ≤ 57) then
          Option.bind (Gimpl_scan_run (([45, 48, 49, 50, 51, 52, 53, 54, 55, 56, 57] : List UInt8), c1_0, c1_1, c1_2, s2, ())) fun y3 =>
          Option.bind (Gimpl_numberText (y3.1, ())) fun y4 =>
          bif !y4.2.1 then
            some ((-1), y3.2.1, y3.2.2.1, y3.2.2.2.1, y3.2.2.2.2.1, ())
          else
            Option.bind (Gimpl_scan_put ((0, y4.1, 0, 0), y3.2.1, y3.2.2.1, y3.2.2.2.1, y3.2.2.2.2.1, ())) fun y5 =>
            some (y5.1, y5.2.1, y5.2.2.1, y5.2.2.2.1, y5.2.2.2.2.1, ())
        else
          bif decide (((c1_1.getD c1_2.toNat 0).toNat : Int) ≥ 97) then
            bif decide (((c1_1.getD c1_2.toNat 0).toNat : Int) ≤ 122) then
              J10 (c1_0, c1_1, c1_2, s2, ())
            else
              bif decide (t1 ≥ 40) then
                some ((-1), c1_0, c1_1, c1_2, s2, ())
              else
                Option.bind (Gimpl_scan_take (([33] : List UInt8), c1_0, c1_1, c1_2, s2, ())) fun y6 =>
                bif y6.1 then
                  Option.bind (Gimpl_scan_expr (wI (t1 + 1), y6.2.1, y6.2.2.1, y6.2.2.2.1, y6.2.2.2.2.1, ())) fun y7 =>
                  bif decide (y7.1 < 0) then
                    some ((-1), y7.2.1, y7.2.2.1, y7.2.2.2.1, y7.2.2.2.2.1, ())
                  else
                    Option.bind (Gimpl_scan_put ((7, 0, y7.1, y7.1), y7.2.1, y7.2.2.1, y7.2.2.2.1, y7.2.2.2.2.1, ())) fun y8 =>
                    some (y8.1, y8.2.1, y8.2.2.1, y8.2.2.2.1, y8.2.2.2.2.1, ())
                else
                  Option.bind (Gimpl_scan_take (([40] : List UInt8), y6.2.1, y6.2.2.1, y6.2.2.2.1, y6.2.2.2.2.1, ())) fun y9 =>
                  bif y9.1 then
                    Option.bind (Gimpl_scan_expr (wI (t1 + 1), y9.2.1, y9.2.2.1, y9.2.2.2.1, y9.2.2.2.2.1, ())) fun y10 =>
                    J23 (t1, y10.1, y10.2.1, y10.2.2.1, y10.2.2.2.1, y10.2.2.2.2.1, ())
                  else
                    some ((-1), y9.2.1, y9.2.2.1, y9.2.2.2.1, y9.2.2.2.2.1, ())
          else
            bif decide (t1 ≥ 40) then
              some ((-1), c1_0, c1_1, c1_2, s2, ())
            else
              Option.bind (Gimpl_scan_take (([33] : List UInt8), c1_0, c1_1, c1_2, s2, ())) fun y11 =>
              bif y11.1 then
                Option.bind (Gimpl_scan_expr (wI (t1 + 1), y11.2.1, y11.2.2.1, y11.2.2.2.1, y11.2.2.2.2.1, ())) fun y12 =>
                bif decide (y12.1 < 0) then
                  some ((-1), y12.2.1, y12.2.2.1, y12.2.2.2.1, y12.2.2.2.2.1, ())
                else
                  Option.bind (Gimpl_scan_put ((7, 0, y12.1, y12.1), y12.2.1, y12.2.2.1, y12.2.2.2.1, y12.2.2.2.2.1, ())) fun y13 =>
                  some (y13.1, y13.2.1, y13.2.2.1, y13.2.2.2.1, y13.2.2.2.2.1, ())
              else
                Option.bind (Gimpl_scan_take (([40] : List UInt8), y11.2.1, y11.2.2.1, y11.2.2.2.1, y11.2.2.2.2.1, ())) fun y14 =>
                bif y14.1 then
                  Option.bind (Gimpl_scan_expr (wI (t1 + 1), y14.2.1, y14.2.2.1, y14.2.2.2.1, y14.2.2.2.2.1, ())) fun y15 =>
                  J23 (t1, y15.1, y15.2.1, y15.2.2.1, y15.2.2.2.1, y15.2.2.2.2.1, ())
                else
                  some ((-1), y14.2.1, y14.2.2.1, y14.2.2.2.1, y14.2.2.2.2.1, ())
      else
        bif decide (((c1_1.getD c1_2.toNat 0).toNat : Int) ≥ 97) then
          bif decide (((c1_1.getD c1_2.toNat 0).toNat : Int) ≤ 122) then
            J10 (c1_0, c1_1, c1_2, s2, ())
          else
            bif decide (t1 ≥ 40) then
              some ((-1), c1_0, c1_1, c1_2, s2, ())
            else
              Option.bind (Gimpl_scan_take (([33] : List UInt8), c1_0, c1_1, c1_2, s2, ())) fun y16 =>
              bif y16.1 then
                Option.bind (Gimpl_scan_expr (wI (t1 + 1), y16.2.1, y16.2.2.1, y16.2.2.2.1, y16.2.2.2.2.1, ())) fun y17 =>
                bif decide (y17.1 < 0) then
                  some ((-1), y17.2.1, y17.2.2.1, y17.2.2.2.1, y17.2.2.2.2.1, ())
                else
                  Option.bind (Gimpl_scan_put ((7, 0, y17.1, y17.1), y17.2.1, y17.2.2.1, y17.2.2.2.1, y17.2.2.2.2.1, ())) fun y18 =>
                  some (y18.1, y18.2.1, y18.2.2.1, y18.2.2.2.1, y18.2.2.2.2.1, ())
              else
                Option.bind (Gimpl_scan_take (([40] : List UInt8), y16.2.1, y16.2.2.1, y16.2.2.2.1, y16.2.2.2.2.1, ())) fun y19 =>
                bif y19.1 then
                  Option.bind (Gimpl_scan_expr (wI (t1 + 1), y19.2.1, y19.2.2.1, y19.2.2.2.1, y19.2.2.2.2.1, ())) fun y20 =>
                  J23 (t1, y20.1, y20.2.1, y20.2.2.1, y20.2.2.2.1, y20.2.2.2.2.1, ())
                else
                  some ((-1), y19.2.1, y19.2.2.1, y19.2.2.2.1, y19.2.2.2.2.1, ())
        else
          bif decide (t1 ≥ 40) then
            some ((-1), c1_0, c1_1, c1_2, s2, ())
          else
            Option.bind (Gimpl_scan_take (([33] : List UInt8), c1_0, c1_1, c1_2, s2, ())) fun y21 =>
            bif y21.1 then
              Option.bind (Gimpl_scan_expr (wI (t1 + 1), y21.2.1, y21.2.2.1, y21.2.2.2.1, y21.2.2.2.2.1, ())) fun y22 =>
              bif decide (y22.1 < 0) then
                some ((-1), y22.2.1, y22.2.2.1, y22.2.2.2.1, y22.2.2.2.2.1, ())
              else
                Option.bind (Gimpl_scan_put ((7, 0, y22.1, y22.1), y22.2.1, y22.2.2.1, y22.2.2.2.1, y22.2.2.2.2.1, ())) fun y23 =>
                some (y23.1, y23.2.1, y23.2.2.1, y23.2.2.2.1, y23.2.2.2.2.1, ())
            else
              Option.bind (Gimpl_scan_take (([40] : List UInt8), y21.2.1, y21.2.2.1, y21.2.2.2.1, y21.2.2.2.2.1, ())) fun y24 =>
              bif y24.1 then
                Option.bind (Gimpl_scan_expr (wI (t1 + 1), y24.2.1, y24.2.2.1, y24.2.2.2.1, y24.2.2.2.2.1, ())) fun y25 =>
                J23 (t1, y25.1, y25.2.1, y25.2.2.1, y25.2.2.2.1, y25.2.2.2.2.1, ())
              else
                some ((-1), y24.2.1, y24.2.2.1, y24.2.2.2.1, y24.2.2.2.2.1, ())
  else
    none
noncomputable def F10o0 (Gimpl_scan_put : impl_scan_put.PI → Option impl_scan_put.PO) (Gimpl_scan_run : impl_scan_run.PI → Option impl_scan_run.PO) (Gslices_Index_of : slices_Index_of.PI → Option slices_Index_of.PO) (c1_0 : List (List UInt8)) (c1_1 : List UInt8) (c1_2 : Int) (s2 : List (Int × Int × Int × Int)) : Option PO :=
  Option.bind (Gimpl_scan_run (([97, 98, 99, 100, 101, 102, 103, 104, 105, 106, 107, 108, 109, 110, 111, 112, 113, 114, 115, 116, 117, 118, 119, 120, 121, 122] : List UInt8), c1_0, c1_1, c1_2, s2, ())) fun y26 =>
  Option.bind (Gslices_Index_of (c1_0, y26.1, ())) fun y27 =>
  bif decide (y27.1 < 0) then
    some ((-1), y26.2.1, y26.2.2.1, y26.2.2.2.1, y26.2.2.2.2.1, ())
  else
    Option.bind (Gimpl_scan_put ((1, y27.1, 0, 0), y26.2.1, y26.2.2.1, y26.2.2.2.1, y26.2.2.2.2.1, ())) fun y28 =>
    some (y28.1, y28.2.1, y28.2.2.1, y28.2.2.2.1, y28.2.2.2.2.1, ())
noncomputable def F10o1 (Gimpl_scan_put : impl_scan_put.PI → Option impl_scan_put.PO) (Gimpl_scan_run : impl_scan_run.PI → Option impl_scan_run.PO) (Gslices_Index_of : slices_Index_of.PI → Option slices_Index_of.PO) (c1_0 : List (List UInt8)) (c1_1 : List UInt8) (c1_2 : Int) (s2 : List (Int × Int × Int × Int)) : Option PO :=
  Option.bind (Gimpl_scan_run (([97, 98, 99, 100, 101, 102, 103, 104, 105, 106, 107, 108, 109, 110, 111, 112, 113, 114, 115, 116, 117, 118, 119, 120, 121, 122] : List UInt8), c1_0, c1_1, c1_2, s2, ())) fun y26 =>
  Option.bind (Gslices_Index_of (y26.2.1, y26.1, ())) fun y27 =>
  bif decide (y27.1 < 0) then
    some ((-1), y26.2.1, y26.2.2.1, y26.2.2.2.1, y26.2.2.2.2.1, ())
  else
    Option.bind (Gimpl_scan_put ((1, y27.1, 0, 0), y26.2.1, y26.2.2.1, y26.2.2.2.1, y26.2.2.2.2.1, ())) fun y28 =>
    some (y28.1, y28.2.1, y28.2.2.1, y28.2.2.2.1, y28.2.2.2.2.1, ())
noncomputable def F10 (Gimpl_scan_put : impl_scan_put.PI → Option impl_scan_put.PO) (Gimpl_scan_run : impl_scan_run.PI → Option impl_scan_run.PO) (Gslices_Index_of : slices_Index_of.PI → Option slices_Index_of.PO) (c1_0 : List (List UInt8)) (c1_1 : List UInt8) (c1_2 : Int) (s2 : List (Int × Int × Int × Int)) : Option PO :=
  Option.bind (F10o0 Gimpl_scan_put Gimpl_scan_run Gslices_Index_of c1_0 c1_1 c1_2 s2) fun (y0 : PO) => Option.bind (F10o1 Gimpl_scan_put Gimpl_scan_run Gslices_Index_of c1_0 c1_1 c1_2 s2) fun (y1 : PO) => bif @decide (y1 = y0) (Classical.propDecidable _) then some y0 else none
theorem F10o0_le (Gimpl_scan_put : impl_scan_put.PI → Option impl_scan_put.PO) (Gimpl_scan_run : impl_scan_run.PI → Option impl_scan_run.PO) (Gslices_Index_of : slices_Index_of.PI → Option slices_Index_of.PO) (c1_0 : List (List UInt8)) (c1_1 : List UInt8) (c1_2 : Int) (s2 : List (Int × Int × Int × Int)) : OptLe (F10 Gimpl_scan_put Gimpl_scan_run Gslices_Index_of c1_0 c1_1 c1_2 s2) (F10o0 Gimpl_scan_put Gimpl_scan_run Gslices_Index_of c1_0 c1_1 c1_2 s2) := by
  intro y h; unfold F10 at h
  obtain ⟨y0, e0, h⟩ := Option.bind_eq_some_iff.1 h
  obtain ⟨y1, e1, h⟩ := Option.bind_eq_some_iff.1 h
  have hc := (cond_some h).1; replace h := (cond_some h).2
  simp only [Bool.and_eq_true, decide_eq_true_eq] at hc
  rw [e0, h]
theorem F10o1_le (Gimpl_scan_put : impl_scan_put.PI → Option impl_scan_put.PO) (Gimpl_scan_run : impl_scan_run.PI → Option impl_scan_run.PO) (Gslices_Index_of : slices_Index_of.PI → Option slices_Index_of.PO) (c1_0 : List (List UInt8)) (c1_1 : List UInt8) (c1_2 : Int) (s2 : List (Int × Int × Int × Int)) : OptLe (F10 Gimpl_scan_put Gimpl_scan_run Gslices_Index_of c1_0 c1_1 c1_2 s2) (F10o1 Gimpl_scan_put Gimpl_scan_run Gslices_Index_of c1_0 c1_1 c1_2 s2) := by
  intro y h; unfold F10 at h
  obtain ⟨y0, e0, h⟩ := Option.bind_eq_some_iff.1 h
  obtain ⟨y1, e1, h⟩ := Option.bind_eq_some_iff.1 h
  have hc := (cond_some h).1; replace h := (cond_some h).2
  simp only [Bool.and_eq_true, decide_eq_true_eq] at hc
  rw [e1, hc, h]
noncomputable def F23 (J25 : P25 → Option PO) (Gimpl_scan_take : impl_scan_take.PI → Option impl_scan_take.PO) (t1 : Int) (t10 : Int) (c1_0 : List (List UInt8)) (c1_1 : List UInt8) (c1_2 : Int) (s2 : List (Int × Int × Int × Int)) : Option PO :=
  bif decide (t10 < 0) then
    some ((-1), c1_0, c1_1, c1_2, s2, ())
  else
    Option.bind (Gimpl_scan_take (([32] : List UInt8), c1_0, c1_1, c1_2, s2, ())) fun y29 =>
    bif !y29.1 then
      some ((-1), y29.2.1, y29.2.2.1, y29.2.2.2.1, y29.2.2.2.2.1, ())
    else
      bif y29.2.2.2.1 == (y29.2.2.1.length : Int) then
        some ((-1), y29.2.1, y29.2.2.1, y29.2.2.2.1, y29.2.2.2.2.1, ())
      else
        J25 (t1, t10, y29.2.1, y29.2.2.1, y29.2.2.2.1, y29.2.2.2.2.1, ())
noncomputable def F25 (J29 : P29 → Option PO) (Gimpl_scan_take : impl_scan_take.PI → Option impl_scan_take.PO) (t1 : Int) (t10 : Int) (c1_0 : List (List UInt8)) (c1_1 : List UInt8) (c1_2 : Int) (s2 : List (Int × Int × Int × Int)) : Option PO :=
  bif inb c1_2 c1_1.length then
    bif mapGet (.int .u8) (.int .i64) (mapPut (.int .u8) (.int .i64) (mapPut (.int .u8) (.int .i64) (mapPut (.int .u8) (.int .i64) (mapPut (.int .u8) (.int .i64) (mapPut (.int .u8) (.int .i64) (mapPut (.int .u8) (.int .i64) (mapPut (.int .u8) (.int .i64) [] 43 2) 45 3) 42 4) 60 5) 61 6) 38 8) 124 9) ((c1_1.getD c1_2.toNat 0).toNat : Int) == 0 then
      some ((-1), c1_0, c1_1, wI (c1_2 + 1), s2, ())
    else
      Option.bind (Gimpl_scan_take (([32] : List UInt8), c1_0, c1_1, wI (c1_2 + 1), s2, ())) fun y30 =>
      bif !y30.1 then
        some ((-1), y30.2.1, y30.2.2.1, y30.2.2.2.1, y30.2.2.2.2.1, ())
      else
        J29 (t1, t10, mapGet (.int .u8) (.int .i64) (mapPut (.int .u8) (.int .i64) (mapPut (.int .u8) (.int .i64) (mapPut (.int .u8) (.int .i64) (mapPut (.int .u8) (.int .i64) (mapPut (.int .u8) (.int .i64) (mapPut (.int .u8) (.int .i64) (mapPut (.int .u8) (.int .i64) [] 43 2) 45 3) 42 4) 60 5) 61 6) 38 8) 124 9) ((c1_1.getD c1_2.toNat 0).toNat : Int), y30.2.1, y30.2.2.1, y30.2.2.2.1, y30.2.2.2.2.1, ())
  else
    none
noncomputable def F29 (Gimpl_scan_expr : PI → Option PO) (Gimpl_scan_put : impl_scan_put.PI → Option impl_scan_put.PO) (Gimpl_scan_take : impl_scan_take.PI → Option impl_scan_take.PO) (t1 : Int) (t10 : Int) (t11 : Int) (c1_0 : List (List UInt8)) (c1_1 : List UInt8) (c1_2 : Int) (s2 : List (Int × Int × Int × Int)) : Option PO :=
  Option.bind (Gimpl_scan_expr (wI (t1 + 1), c1_0, c1_1, c1_2, s2, ())) fun y31 =>
  bif decide (y31.1 < 0) then
    some ((-1), y31.2.1, y31.2.2.1, y31.2.2.2.1, y31.2.2.2.2.1, ())
  else
    Option.bind (Gimpl_scan_take (([41] : List UInt8), y31.2.1, y31.2.2.1, y31.2.2.2.1, y31.2.2.2.2.1, ())) fun y32 =>
    bif !y32.1 then
      some ((-1), y32.2.1, y32.2.2.1, y32.2.2.2.1, y32.2.2.2.2.1, ())
    else
      Option.bind (Gimpl_scan_put ((t11, 0, t10, y31.1), y32.2.1, y32.2.2.1, y32.2.2.2.1, y32.2.2.2.2.1, ())) fun y33 =>
      some (y33.1, y33.2.1, y33.2.2.1, y33.2.2.2.1, y33.2.2.2.2.1, ())
noncomputable def hd {R : Type} (Gimpl_numberText : impl_numberText.PI → Option impl_numberText.PO) (Gimpl_scan_expr : PI → Option PO) (Gimpl_scan_put : impl_scan_put.PI → Option impl_scan_put.PO) (Gimpl_scan_run : impl_scan_run.PI → Option impl_scan_run.PO) (Gimpl_scan_take : impl_scan_take.PI → Option impl_scan_take.PO) (Gslices_Index_of : slices_Index_of.PI → Option slices_Index_of.PO) : Hand R := (handAt 41 [80, 94, 103, 141, 152] false ⟨2, 1, 2, impl_scan_take.pin, impl_scan_take.pout, Gimpl_scan_take⟩ (handAt 40 [68] true ⟨2, 1, 2, slices_Index_of.pin, slices_Index_of.pout, Gslices_Index_of⟩ (handAt 39 [54, 74, 91, 160] false ⟨2, 1, 2, impl_scan_put.pin, impl_scan_put.pout, Gimpl_scan_put⟩ (handAt 38 [45, 67] false ⟨2, 1, 2, impl_scan_run.pin, impl_scan_run.pout, Gimpl_scan_run⟩ (handAt 37 [46] true ⟨1, 2, 1, impl_numberText.pin, impl_numberText.pout, Gimpl_numberText⟩ (handAt 27 [84, 98, 147] false ⟨2, 1, 2, pin, pout, Gimpl_scan_expr⟩ handNil))))))
noncomputable def pg (Gimpl_numberText : impl_numberText.PI → Option impl_numberText.PO) (Gimpl_scan_expr : PI → Option PO) (Gimpl_scan_put : impl_scan_put.PI → Option impl_scan_put.PO) (Gimpl_scan_run : impl_scan_run.PI → Option impl_scan_run.PO) (Gimpl_scan_take : impl_scan_take.PI → Option impl_scan_take.PO) (Gslices_Index_of : slices_Index_of.PI → Option slices_Index_of.PO) (J1 : List Item → P1 → Option PO) (J3 : List Item → P3 → Option PO) (J10 : List Item → P10 → Option PO) (J23 : List Item → P23 → Option PO) (J25 : List Item → P25 → Option PO) (J29 : List Item → P29 → Option PO) : Prog PO := { nt := 161, np := 2, tb := tabOf tab, hd := hd Gimpl_numberText Gimpl_scan_expr Gimpl_scan_put Gimpl_scan_run Gimpl_scan_take Gslices_Index_of, cuts := cutsOf [(1, cut p1 J1), (3, cut p3 J3), (10, cut p10 J10), (23, cut p23 J23), (25, cut p25 J25), (29, cut p29 J29)], fin := endOf (tabOf tab) rs 2 pout }
noncomputable def q : FuncId → Bool := fun f => hasId [37, 40] f
theorem seg0 (Gimpl_numberText : impl_numberText.PI → Option impl_numberText.PO) (Gimpl_scan_expr : PI → Option PO) (Gimpl_scan_put : impl_scan_put.PI → Option impl_scan_put.PO) (Gimpl_scan_run : impl_scan_run.PI → Option impl_scan_run.PO) (Gimpl_scan_take : impl_scan_take.PI → Option impl_scan_take.PO) (Gslices_Index_of : slices_Index_of.PI → Option slices_Index_of.PO) (J1 : List Item → P1 → Option PO) (J3 : List Item → P3 → Option PO) (J10 : List Item → P10 → Option PO) (J23 : List Item → P23 → Option PO) (J25 : List Item → P25 → Option PO) (J29 : List Item → P29 → Option PO) (x1 : Int) (c1_0 : List (List UInt8)) (c1_1 : List UInt8) (c1_2 : Int) (s2 : List (Int × Int × Int × Int)) : arun (pg Gimpl_numberText Gimpl_scan_expr Gimpl_scan_put Gimpl_scan_run Gimpl_scan_take Gslices_Index_of J1 J3 J10 J23 J25 J29) 5000 [.code c0] (mk pin (x1, c1_0, c1_1, c1_2, s2, ())) = F0 (J1 T1) x1 c1_0 c1_1 c1_2 s2 := by kernel_rfl
theorem seg1 (Gimpl_numberText : impl_numberText.PI → Option impl_numberText.PO) (Gimpl_scan_expr : PI → Option PO) (Gimpl_scan_put : impl_scan_put.PI → Option impl_scan_put.PO) (Gimpl_scan_run : impl_scan_run.PI → Option impl_scan_run.PO) (Gimpl_scan_take : impl_scan_take.PI → Option impl_scan_take.PO) (Gslices_Index_of : slices_Index_of.PI → Option slices_Index_of.PO) (J1 : List Item → P1 → Option PO) (J3 : List Item → P3 → Option PO) (J10 : List Item → P10 → Option PO) (J23 : List Item → P23 → Option PO) (J25 : List Item → P25 → Option PO) (J29 : List Item → P29 → Option PO) (t1 : Int) (c1_0 : List (List UInt8)) (c1_1 : List UInt8) (c1_2 : Int) (s2 : List (Int × Int × Int × Int)) : arunQ (pg Gimpl_numberText Gimpl_scan_expr Gimpl_scan_put Gimpl_scan_run Gimpl_scan_take Gslices_Index_of J1 J3 J10 J23 J25 J29) q [] [] 5000 T1 (mk p1 (t1, c1_0, c1_1, c1_2, s2, ())) = List.replicate (arunQ (pg Gimpl_numberText Gimpl_scan_expr Gimpl_scan_put Gimpl_scan_run Gimpl_scan_take Gslices_Index_of J1 J3 J10 J23 J25 J29) q [] [] 5000 T1 (mk p1 (t1, c1_0, c1_1, c1_2, s2, ()))).length (F1 (J3 T3) t1 c1_0 c1_1 c1_2 s2) := by kernel_rfl
theorem seg3 (Gimpl_numberText : impl_numberText.PI → Option impl_numberText.PO) (Gimpl_scan_expr : PI → Option PO) (Gimpl_scan_put : impl_scan_put.PI → Option impl_scan_put.PO) (Gimpl_scan_run : impl_scan_run.PI → Option impl_scan_run.PO) (Gimpl_scan_take : impl_scan_take.PI → Option impl_scan_take.PO) (Gslices_Index_of : slices_Index_of.PI → Option slices_Index_of.PO) (J1 : List Item → P1 → Option PO) (J3 : List Item → P3 → Option PO) (J10 : List Item → P10 → Option PO) (J23 : List Item → P23 → Option PO) (J25 : List Item → P25 → Option PO) (J29 : List Item → P29 → Option PO) (t1 : Int) (c1_0 : List (List UInt8)) (c1_1 : List UInt8) (c1_2 : Int) (s2 : List (Int × Int × Int × Int)) : arunQ (pg Gimpl_numberText Gimpl_scan_expr Gimpl_scan_put Gimpl_scan_run Gimpl_scan_take Gslices_Index_of J1 J3 J10 J23 J25 J29) q [] [] 5000 T3 (mk p3 (t1, c1_0, c1_1, c1_2, s2, ())) = List.replicate (arunQ (pg Gimpl_numberText Gimpl_scan_expr Gimpl_scan_put Gimpl_scan_run Gimpl_scan_take Gslices_Index_of J1 J3 J10 J23 J25 J29) q [] [] 5000 T3 (mk p3 (t1, c1_0, c1_1, c1_2, s2, ()))).length (F3 (J10 T10) (J23 T23) Gimpl_numberText Gimpl_scan_expr Gimpl_scan_put Gimpl_scan_run Gimpl_scan_take t1 c1_0 c1_1 c1_2 s2) := by kernel_rfl
theorem seg10 (Gimpl_numberText : impl_numberText.PI → Option impl_numberText.PO) (Gimpl_scan_expr : PI → Option PO) (Gimpl_scan_put : impl_scan_put.PI → Option impl_scan_put.PO) (Gimpl_scan_run : impl_scan_run.PI → Option impl_scan_run.PO) (Gimpl_scan_take : impl_scan_take.PI → Option impl_scan_take.PO) (Gslices_Index_of : slices_Index_of.PI → Option slices_Index_of.PO) (J1 : List Item → P1 → Option PO) (J3 : List Item → P3 → Option PO) (J10 : List Item → P10 → Option PO) (J23 : List Item → P23 → Option PO) (J25 : List Item → P25 → Option PO) (J29 : List Item → P29 → Option PO) (c1_0 : List (List UInt8)) (c1_1 : List UInt8) (c1_2 : Int) (s2 : List (Int × Int × Int × Int)) : arunE (pg Gimpl_numberText Gimpl_scan_expr Gimpl_scan_put Gimpl_scan_run Gimpl_scan_take Gslices_Index_of J1 J3 J10 J23 J25 J29) 5000 T10 (mk p10 (c1_0, c1_1, c1_2, s2, ())) = [F10o0 Gimpl_scan_put Gimpl_scan_run Gslices_Index_of c1_0 c1_1 c1_2 s2, F10o1 Gimpl_scan_put Gimpl_scan_run Gslices_Index_of c1_0 c1_1 c1_2 s2] := by kernel_rfl
theorem seg23 (Gimpl_numberText : impl_numberText.PI → Option impl_numberText.PO) (Gimpl_scan_expr : PI → Option PO) (Gimpl_scan_put : impl_scan_put.PI → Option impl_scan_put.PO) (Gimpl_scan_run : impl_scan_run.PI → Option impl_scan_run.PO) (Gimpl_scan_take : impl_scan_take.PI → Option impl_scan_take.PO) (Gslices_Index_of : slices_Index_of.PI → Option slices_Index_of.PO) (J1 : List Item → P1 → Option PO) (J3 : List Item → P3 → Option PO) (J10 : List Item → P10 → Option PO) (J23 : List Item → P23 → Option PO) (J25 : List Item → P25 → Option PO) (J29 : List Item → P29 → Option PO) (t1 : Int) (t10 : Int) (c1_0 : List (List UInt8)) (c1_1 : List UInt8) (c1_2 : Int) (s2 : List (Int × Int × Int × Int)) : arunE (pg Gimpl_numberText Gimpl_scan_expr Gimpl_scan_put Gimpl_scan_run Gimpl_scan_take Gslices_Index_of J1 J3 J10 J23 J25 J29) 5000 T23 (mk p23 (t1, t10, c1_0, c1_1, c1_2, s2, ())) = List.replicate (arunE (pg Gimpl_numberText Gimpl_scan_expr Gimpl_scan_put Gimpl_scan_run Gimpl_scan_take Gslices_Index_of J1 J3 J10 J23 J25 J29) 5000 T23 (mk p23 (t1, t10, c1_0, c1_1, c1_2, s2, ()))).length (F23 (J25 T25) Gimpl_scan_take t1 t10 c1_0 c1_1 c1_2 s2) := by kernel_rfl
theorem seg25 (Gimpl_numberText : impl_numberText.PI → Option impl_numberText.PO) (Gimpl_scan_expr : PI → Option PO) (Gimpl_scan_put : impl_scan_put.PI → Option impl_scan_put.PO) (Gimpl_scan_run : impl_scan_run.PI → Option impl_scan_run.PO) (Gimpl_scan_take : impl_scan_take.PI → Option impl_scan_take.PO) (Gslices_Index_of : slices_Index_of.PI → Option slices_Index_of.PO) (J1 : List Item → P1 → Option PO) (J3 : List Item → P3 → Option PO) (J10 : List Item → P10 → Option PO) (J23 : List Item → P23 → Option PO) (J25 : List Item → P25 → Option PO) (J29 : List Item → P29 → Option PO) (t1 : Int) (t10 : Int) (c1_0 : List (List UInt8)) (c1_1 : List UInt8) (c1_2 : Int) (s2 : List (Int × Int × Int × Int)) : arunG (pg Gimpl_numberText Gimpl_scan_expr Gimpl_scan_put Gimpl_scan_run Gimpl_scan_take Gslices_Index_of J1 J3 J10 J23 J25 J29) q [118] [] 5000 T25 (mk p25 (t1, t10, c1_0, c1_1, c1_2, s2, ())) = List.replicate (arunG (pg Gimpl_numberText Gimpl_scan_expr Gimpl_scan_put Gimpl_scan_run Gimpl_scan_take Gslices_Index_of J1 J3 J10 J23 J25 J29) q [118] [] 5000 T25 (mk p25 (t1, t10, c1_0, c1_1, c1_2, s2, ()))).length (F25 (J29 T29) Gimpl_scan_take t1 t10 c1_0 c1_1 c1_2 s2) := by kernel_rfl
theorem seg29 (Gimpl_numberText : impl_numberText.PI → Option impl_numberText.PO) (Gimpl_scan_expr : PI → Option PO) (Gimpl_scan_put : impl_scan_put.PI → Option impl_scan_put.PO) (Gimpl_scan_run : impl_scan_run.PI → Option impl_scan_run.PO) (Gimpl_scan_take : impl_scan_take.PI → Option impl_scan_take.PO) (Gslices_Index_of : slices_Index_of.PI → Option slices_Index_of.PO) (J1 : List Item → P1 → Option PO) (J3 : List Item → P3 → Option PO) (J10 : List Item → P10 → Option PO) (J23 : List Item → P23 → Option PO) (J25 : List Item → P25 → Option PO) (J29 : List Item → P29 → Option PO) (t1 : Int) (t10 : Int) (t11 : Int) (c1_0 : List (List UInt8)) (c1_1 : List UInt8) (c1_2 : Int) (s2 : List (Int × Int × Int × Int)) : arun1 (pg Gimpl_numberText Gimpl_scan_expr Gimpl_scan_put Gimpl_scan_run Gimpl_scan_take Gslices_Index_of J1 J3 J10 J23 J25 J29) 5000 T29 (mk p29 (t1, t10, t11, c1_0, c1_1, c1_2, s2, ())) = F29 Gimpl_scan_expr Gimpl_scan_put Gimpl_scan_take t1 t10 t11 c1_0 c1_1 c1_2 s2 := by kernel_rfl
noncomputable def L10 (Gself : PI → Option PO) : P10 → Option PO := fun x => F10 impl_scan_put.impl impl_scan_run.impl slices_Index_of.impl x.1 x.2.1 x.2.2.1 x.2.2.2.1
noncomputable def L29 (Gself : PI → Option PO) : P29 → Option PO := fun x => F29 Gself impl_scan_put.impl impl_scan_take.impl x.1 x.2.1 x.2.2.1 x.2.2.2.1 x.2.2.2.2.1 x.2.2.2.2.2.1 x.2.2.2.2.2.2.1
noncomputable def L25 (Gself : PI → Option PO) : P25 → Option PO := fun x => F25 (L29 Gself) impl_scan_take.impl x.1 x.2.1 x.2.2.1 x.2.2.2.1 x.2.2.2.2.1 x.2.2.2.2.2.1
noncomputable def L23 (Gself : PI → Option PO) : P23 → Option PO := fun x => F23 (L25 Gself) impl_scan_take.impl x.1 x.2.1 x.2.2.1 x.2.2.2.1 x.2.2.2.2.1 x.2.2.2.2.2.1
noncomputable def L3 (Gself : PI → Option PO) : P3 → Option PO := fun x => F3 (L10 Gself) (L23 Gself) impl_numberText.impl Gself impl_scan_put.impl impl_scan_run.impl impl_scan_take.impl x.1 x.2.1 x.2.2.1 x.2.2.2.1 x.2.2.2.2.1
noncomputable def L1 (Gself : PI → Option PO) : P1 → Option PO := fun x => F1 (L3 Gself) x.1 x.2.1 x.2.2.1 x.2.2.2.1 x.2.2.2.2.1
noncomputable def step (Gself : PI → Option PO) : PI → Option PO := fun x => F0 (L1 Gself) x.1 x.2.1 x.2.2.1 x.2.2.2.1 x.2.2.2.2.1
noncomputable def impl : PI → Option PO := lfp step
theorem F10_le {Gimpl_scan_put : impl_scan_put.PI → Option impl_scan_put.PO} {Gimpl_scan_run : impl_scan_run.PI → Option impl_scan_run.PO} {Gslices_Index_of : slices_Index_of.PI → Option slices_Index_of.PO} (c1_0 : List (List UInt8)) (c1_1 : List UInt8) (c1_2 : Int) (s2 : List (Int × Int × Int × Int)) : OptLe (F10 Gimpl_scan_put Gimpl_scan_run Gslices_Index_of c1_0 c1_1 c1_2 s2) (F10 Gimpl_scan_put Gimpl_scan_run Gslices_Index_of c1_0 c1_1 c1_2 s2) := by unfold F10 F10o0 F10o1; exact .bind (.refl _) fun _ => .bind (.refl _) fun _ => .refl _
theorem F29_le {Gself Gself' : PI → Option PO} (hG : OLe Gself Gself') {Gimpl_scan_put : impl_scan_put.PI → Option impl_scan_put.PO} {Gimpl_scan_take : impl_scan_take.PI → Option impl_scan_take.PO} (t1 : Int) (t10 : Int) (t11 : Int) (c1_0 : List (List UInt8)) (c1_1 : List UInt8) (c1_2 : Int) (s2 : List (Int × Int × Int × Int)) : OptLe (F29 Gself Gimpl_scan_put Gimpl_scan_take t1 t10 t11 c1_0 c1_1 c1_2 s2) (F29 Gself' Gimpl_scan_put Gimpl_scan_take t1 t10 t11 c1_0 c1_1 c1_2 s2) := by unfold F29; exact .bind (.of hG _) fun _ => .refl _
theorem F25_le {J29 J29' : P29 → Option PO} (h29 : OLe J29 J29') {Gimpl_scan_take : impl_scan_take.PI → Option impl_scan_take.PO} (t1 : Int) (t10 : Int) (c1_0 : List (List UInt8)) (c1_1 : List UInt8) (c1_2 : Int) (s2 : List (Int × Int × Int × Int)) : OptLe (F25 J29 Gimpl_scan_take t1 t10 c1_0 c1_1 c1_2 s2) (F25 J29' Gimpl_scan_take t1 t10 c1_0 c1_1 c1_2 s2) := by unfold F25; exact .cond (.cond (.refl _) (.bind (.refl _) fun _ => .cond (.refl _) (.of h29 _))) (.refl _)
theorem F23_le {J25 J25' : P25 → Option PO} (h25 : OLe J25 J25') {Gimpl_scan_take : impl_scan_take.PI → Option impl_scan_take.PO} (t1 : Int) (t10 : Int) (c1_0 : List (List UInt8)) (c1_1 : List UInt8) (c1_2 : Int) (s2 : List (Int × Int × Int × Int)) : OptLe (F23 J25 Gimpl_scan_take t1 t10 c1_0 c1_1 c1_2 s2) (F23 J25' Gimpl_scan_take t1 t10 c1_0 c1_1 c1_2 s2) := by unfold F23; exact .cond (.refl _) (.bind (.refl _) fun _ => .cond (.refl _) (.cond (.refl _) (.of h25 _)))
theorem F3_le {J10 J10' : P10 → Option PO} (h10 : OLe J10 J10') {J23 J23' : P23 → Option PO} (h23 : OLe J23 J23') {Gimpl_numberText : impl_numberText.PI → Option impl_numberText.PO} {Gself Gself' : PI → Option PO} (hG : OLe Gself Gself') {Gimpl_scan_put : impl_scan_put.PI → Option impl_scan_put.PO} {Gimpl_scan_run : impl_scan_run.PI → Option impl_scan_run.PO} {Gimpl_scan_take : impl_scan_take.PI → Option impl_scan_take.PO} (t1 : Int) (c1_0 : List (List UInt8)) (c1_1 : List UInt8) (c1_2 : Int) (s2 : List (Int × Int × Int × Int)) : OptLe (F3 J10 J23 Gimpl_numberText Gself Gimpl_scan_put Gimpl_scan_run Gimpl_scan_take t1 c1_0 c1_1 c1_2 s2) (F3 J10' J23' Gimpl_numberText Gself' Gimpl_scan_put Gimpl_scan_run Gimpl_scan_take t1 c1_0 c1_1 c1_2 s2) := by unfold F3; exact .cond (.cond (.refl _) (.cond (.cond (.refl _) (.cond (.cond (.of h10 _) (.cond (.refl _) (.bind (.refl _) fun _ => .cond (.bind (.of hG _) fun _ => .refl _) (.bind (.refl _) fun _ => .cond (.bind (.of hG _) fun _ => .of h23 _) (.refl _))))) (.cond (.refl _) (.bind (.refl _) fun _ => .cond (.bind (.of hG _) fun _ => .refl _) (.bind (.refl _) fun _ => .cond (.bind (.of hG _) fun _ => .of h23 _) (.refl _)))))) (.cond (.cond (.of h10 _) (.cond (.refl _) (.bind (.refl _) fun _ => .cond (.bind (.of hG _) fun _ => .refl _) (.bind (.refl _) fun _ => .cond (.bind (.of hG _) fun _ => .of h23 _) (.refl _))))) (.cond (.refl _) (.bind (.refl _) fun _ => .cond (.bind (.of hG _) fun _ => .refl _) (.bind (.refl _) fun _ => .cond (.bind (.of hG _) fun _ => .of h23 _) (.refl _))))))) (.refl _)
theorem F1_le {J3 J3' : P3 → Option PO} (h3 : OLe J3 J3') (t1 : Int) (c1_0 : List (List UInt8)) (c1_1 : List UInt8) (c1_2 : Int) (s2 : List (Int × Int × Int × Int)) : OptLe (F1 J3 t1 c1_0 c1_1 c1_2 s2) (F1 J3' t1 c1_0 c1_1 c1_2 s2) := by unfold F1; exact .cond (.refl _) (.of h3 _)
theorem F0_le {J1 J1' : P1 → Option PO} (h1 : OLe J1 J1') (x1 : Int) (c1_0 : List (List UInt8)) (c1_1 : List UInt8) (c1_2 : Int) (s2 : List (Int × Int × Int × Int)) : OptLe (F0 J1 x1 c1_0 c1_1 c1_2 s2) (F0 J1' x1 c1_0 c1_1 c1_2 s2) := by unfold F0; exact .of h1 _
theorem L10_eq (Gself : PI → Option PO) (c1_0 : List (List UInt8)) (c1_1 : List UInt8) (c1_2 : Int) (s2 : List (Int × Int × Int × Int)) : L10 Gself (c1_0, c1_1, c1_2, s2, ()) = F10 impl_scan_put.impl impl_scan_run.impl slices_Index_of.impl c1_0 c1_1 c1_2 s2 := rfl
theorem L10_le {Gself Gself' : PI → Option PO} (hG : OLe Gself Gself') : OLe (L10 Gself) (L10 Gself') := fun x => F10_le x.1 x.2.1 x.2.2.1 x.2.2.2.1
theorem L29_eq (Gself : PI → Option PO) (t1 : Int) (t10 : Int) (t11 : Int) (c1_0 : List (List UInt8)) (c1_1 : List UInt8) (c1_2 : Int) (s2 : List (Int × Int × Int × Int)) : L29 Gself (t1, t10, t11, c1_0, c1_1, c1_2, s2, ()) = F29 Gself impl_scan_put.impl impl_scan_take.impl t1 t10 t11 c1_0 c1_1 c1_2 s2 := rfl
theorem L29_le {Gself Gself' : PI → Option PO} (hG : OLe Gself Gself') : OLe (L29 Gself) (L29 Gself') := fun x => F29_le hG x.1 x.2.1 x.2.2.1 x.2.2.2.1 x.2.2.2.2.1 x.2.2.2.2.2.1 x.2.2.2.2.2.2.1
theorem L25_eq (Gself : PI → Option PO) (t1 : Int) (t10 : Int) (c1_0 : List (List UInt8)) (c1_1 : List UInt8) (c1_2 : Int) (s2 : List (Int × Int × Int × Int)) : L25 Gself (t1, t10, c1_0, c1_1, c1_2, s2, ()) = F25 (L29 Gself) impl_scan_take.impl t1 t10 c1_0 c1_1 c1_2 s2 := rfl
theorem L25_le {Gself Gself' : PI → Option PO} (hG : OLe Gself Gself') : OLe (L25 Gself) (L25 Gself') := fun x => F25_le (L29_le hG) x.1 x.2.1 x.2.2.1 x.2.2.2.1 x.2.2.2.2.1 x.2.2.2.2.2.1
theorem L23_eq (Gself : PI → Option PO) (t1 : Int) (t10 : Int) (c1_0 : List (List UInt8)) (c1_1 : List UInt8) (c1_2 : Int) (s2 : List (Int × Int × Int × Int)) : L23 Gself (t1, t10, c1_0, c1_1, c1_2, s2, ()) = F23 (L25 Gself) impl_scan_take.impl t1 t10 c1_0 c1_1 c1_2 s2 := rfl
theorem L23_le {Gself Gself' : PI → Option PO} (hG : OLe Gself Gself') : OLe (L23 Gself) (L23 Gself') := fun x => F23_le (L25_le hG) x.1 x.2.1 x.2.2.1 x.2.2.2.1 x.2.2.2.2.1 x.2.2.2.2.2.1
theorem L3_eq (Gself : PI → Option PO) (t1 : Int) (c1_0 : List (List UInt8)) (c1_1 : List UInt8) (c1_2 : Int) (s2 : List (Int × Int × Int × Int)) : L3 Gself (t1, c1_0, c1_1, c1_2, s2, ()) = F3 (L10 Gself) (L23 Gself) impl_numberText.impl Gself impl_scan_put.impl impl_scan_run.impl impl_scan_take.impl t1 c1_0 c1_1 c1_2 s2 := rfl
theorem L3_le {Gself Gself' : PI → Option PO} (hG : OLe Gself Gself') : OLe (L3 Gself) (L3 Gself') := fun x => F3_le (L10_le hG) (L23_le hG) hG x.1 x.2.1 x.2.2.1 x.2.2.2.1 x.2.2.2.2.1
theorem L1_eq (Gself : PI → Option PO) (t1 : Int) (c1_0 : List (List UInt8)) (c1_1 : List UInt8) (c1_2 : Int) (s2 : List (Int × Int × Int × Int)) : L1 Gself (t1, c1_0, c1_1, c1_2, s2, ()) = F1 (L3 Gself) t1 c1_0 c1_1 c1_2 s2 := rfl
theorem L1_le {Gself Gself' : PI → Option PO} (hG : OLe Gself Gself') : OLe (L1 Gself) (L1 Gself') := fun x => F1_le (L3_le hG) x.1 x.2.1 x.2.2.1 x.2.2.2.1 x.2.2.2.2.1
theorem step_mono : OMono step := fun G G' hG x => F0_le (L1_le hG) x.1 x.2.1 x.2.2.1 x.2.2.2.1 x.2.2.2.2.1
theorem impl_eq (x1 : Int) (c1_0 : List (List UInt8)) (c1_1 : List UInt8) (c1_2 : Int) (s2 : List (Int × Int × Int × Int)) : impl (x1, c1_0, c1_1, c1_2, s2, ()) = F0 (L1 impl) x1 c1_0 c1_1 c1_2 s2 := congrFun (lfp_eq step_mono) _
theorem con_step (Gself : PI → Option PO) (hself : Con Tryd.prog 27 2 rs.length 2 pin pout Gself) : Con Tryd.prog 27 2 rs.length 2 pin pout (step Gself) := by
  refine con_of_run' (nt := 161) (c := c0) tabGood Tryd.func27 (by kernel_rfl) (by kernel_rfl) (by kernel_rfl) (by kernel_rfl) (by kernel_rfl) (by kernel_rfl) (by kernel_rfl) ?_
  intro w0 O y hnp
  generalize hPost : (fun (a' : Act) (w' : World) => ∃ μ' S' st', Rel 161 w0 O μ' S' st' a' w' ∧ endOf (tabOf tab) rs 2 pout st' = some y) = Post
  have fin : ∀ (μ : Id → Option Value) (S : Nat → Prop) (st : St) (a : Act) (w : World), Rel 161 w0 O μ S st a w → endOf (tabOf tab) rs 2 pout st = some y → Post a w := fun μ S st a w h he => by rw [← hPost]; exact ⟨μ, S, st, h, he⟩
  have hp : ∀ (J1 : List Item → P1 → Option PO), ∀ (J3 : List Item → P3 → Option PO), ∀ (J10 : List Item → P10 → Option PO), ∀ (J23 : List Item → P23 → Option PO), ∀ (J25 : List Item → P25 → Option PO), ∀ (J29 : List Item → P29 → Option PO), Parts Tryd.prog 27 (pg impl_numberText.impl Gself impl_scan_put.impl impl_scan_run.impl impl_scan_take.impl slices_Index_of.impl J1 J3 J10 J23 J25 J29) [(1, cut p1 J1), (3, cut p3 J3), (10, cut p10 J10), (23, cut p23 J23), (25, cut p25 J25), (29, cut p29 J29)] := fun J1 J3 J10 J23 J25 J29 => ⟨tab_ok tabGood rfl, (handAt_ok impl_scan_take.con (handAt_ok slices_Index_of.con (handAt_ok impl_scan_put.con (handAt_ok impl_scan_run.con (handAt_ok impl_numberText.con (handAt_ok hself handNil_ok)))))), rfl⟩
  have g10 : Good Tryd.prog 161 w0 O Post y T10 p10 (L10 Gself) := good_orders (hs := hd impl_numberText.impl Gself impl_scan_put.impl impl_scan_run.impl impl_scan_take.impl slices_Index_of.impl) (cv' := hd impl_numberText.impl Gself impl_scan_put.impl impl_scan_run.impl impl_scan_take.impl slices_Index_of.impl) (Checked.mixed Tryd.checked) (hp (atT T1 (fun _ => none)) (atT T3 (fun _ => none)) (atT T10 (fun _ => none)) (atT T23 (fun _ => none)) (atT T25 (fun _ => none)) (atT T29 (fun _ => none))) (handAt_ok impl_scan_take.con (handAt_ok slices_Index_of.con (handAt_ok impl_scan_put.con (handAt_ok impl_scan_run.con (handAt_ok impl_numberText.con (handAt_ok hself handNil_ok)))))) (handAt_nat (handAt_nat (handAt_nat (handAt_nat (handAt_nat (handAt_nat handNil_nat)))))) (handAt_nat (handAt_nat (handAt_nat (handAt_nat (handAt_nat (handAt_nat handNil_nat)))))) (runOK_of (hp (atT T1 (fun _ => none)) (atT T3 (fun _ => none)) (atT T10 (fun _ => none)) (atT T23 (fun _ => none)) (atT T25 (fun _ => none)) (atT T29 (fun _ => none))) hnp ⟨cutOK_at (p := p1) (T := T1) (J := fun _ => none) good_none, cutOK_at (p := p3) (T := T3) (J := fun _ => none) good_none, cutOK_at (p := p10) (T := T10) (J := fun _ => none) good_none, cutOK_at (p := p23) (T := T23) (J := fun _ => none) good_none, cutOK_at (p := p25) (T := T25) (J := fun _ => none) good_none, cutOK_at (p := p29) (T := T29) (J := fun _ => none) good_none, trivial⟩ fin) (fun x => all_of (L := [F10o0 impl_scan_put.impl impl_scan_run.impl slices_Index_of.impl x.1 x.2.1 x.2.2.1 x.2.2.2.1, F10o1 impl_scan_put.impl impl_scan_run.impl slices_Index_of.impl x.1 x.2.1 x.2.2.1 x.2.2.2.1]) ((seg10 impl_numberText.impl Gself impl_scan_put.impl impl_scan_run.impl impl_scan_take.impl slices_Index_of.impl (atT T1 (fun _ => none)) (atT T3 (fun _ => none)) (atT T10 (fun _ => none)) (atT T23 (fun _ => none)) (atT T25 (fun _ => none)) (atT T29 (fun _ => none)) x.1 x.2.1 x.2.2.1 x.2.2.2.1)) (all_cons (F10o0_le impl_scan_put.impl impl_scan_run.impl slices_Index_of.impl x.1 x.2.1 x.2.2.1 x.2.2.2.1) (all_cons (F10o1_le impl_scan_put.impl impl_scan_run.impl slices_Index_of.impl x.1 x.2.1 x.2.2.1 x.2.2.2.1) all_nil)))
  have g29 : Good Tryd.prog 161 w0 O Post y T29 p29 (L29 Gself) := good_part (hp (atT T1 (fun _ => none)) (atT T3 (fun _ => none)) (atT T10 (fun _ => none)) (atT T23 (fun _ => none)) (atT T25 (fun _ => none)) (atT T29 (fun _ => none))) (runOK_of (hp (atT T1 (fun _ => none)) (atT T3 (fun _ => none)) (atT T10 (fun _ => none)) (atT T23 (fun _ => none)) (atT T25 (fun _ => none)) (atT T29 (fun _ => none))) hnp ⟨cutOK_at (p := p1) (T := T1) (J := fun _ => none) good_none, cutOK_at (p := p3) (T := T3) (J := fun _ => none) good_none, cutOK_at (p := p10) (T := T10) (J := fun _ => none) good_none, cutOK_at (p := p23) (T := T23) (J := fun _ => none) good_none, cutOK_at (p := p25) (T := T25) (J := fun _ => none) good_none, cutOK_at (p := p29) (T := T29) (J := fun _ => none) good_none, trivial⟩ fin) (fun x => (seg29 impl_numberText.impl Gself impl_scan_put.impl impl_scan_run.impl impl_scan_take.impl slices_Index_of.impl (atT T1 (fun _ => none)) (atT T3 (fun _ => none)) (atT T10 (fun _ => none)) (atT T23 (fun _ => none)) (atT T25 (fun _ => none)) (atT T29 (fun _ => none)) x.1 x.2.1 x.2.2.1 x.2.2.2.1 x.2.2.2.2.1 x.2.2.2.2.2.1 x.2.2.2.2.2.2.1))
  have g25 : Good Tryd.prog 161 w0 O Post y T25 p25 (L25 Gself) := good_group (hs := hd impl_numberText.impl Gself impl_scan_put.impl impl_scan_run.impl impl_scan_take.impl slices_Index_of.impl) (cv' := hd impl_numberText.impl Gself impl_scan_put.impl impl_scan_run.impl impl_scan_take.impl slices_Index_of.impl) (Checked.mixed Tryd.checked) (hp (atT T1 (fun _ => none)) (atT T3 (fun _ => none)) (atT T10 (fun _ => none)) (atT T23 (fun _ => none)) (atT T25 (fun _ => none)) (atT T29 (L29 Gself))) (handAt_D' rfl (handAt_D slices_Index_of.con (by rfl) rfl (handAt_D' rfl (handAt_D' rfl (handAt_D impl_numberText.con (by rfl) rfl (handAt_D' rfl handNil_D)))))) (handAt_nat (handAt_nat (handAt_nat (handAt_nat (handAt_nat (handAt_nat handNil_nat)))))) (handAt_nat (handAt_nat (handAt_nat (handAt_nat (handAt_nat (handAt_nat handNil_nat)))))) (runOK_of (hp (atT T1 (fun _ => none)) (atT T3 (fun _ => none)) (atT T10 (fun _ => none)) (atT T23 (fun _ => none)) (atT T25 (fun _ => none)) (atT T29 (L29 Gself))) hnp ⟨cutOK_at (p := p1) (T := T1) (J := fun _ => none) good_none, cutOK_at (p := p3) (T := T3) (J := fun _ => none) good_none, cutOK_at (p := p10) (T := T10) (J := fun _ => none) good_none, cutOK_at (p := p23) (T := T23) (J := fun _ => none) good_none, cutOK_at (p := p25) (T := T25) (J := fun _ => none) good_none, cutOK_at g29, trivial⟩ fin) (fun x => all_same ⟨_, (seg25 impl_numberText.impl Gself impl_scan_put.impl impl_scan_run.impl impl_scan_take.impl slices_Index_of.impl (atT T1 (fun _ => none)) (atT T3 (fun _ => none)) (atT T10 (fun _ => none)) (atT T23 (fun _ => none)) (atT T25 (fun _ => none)) (atT T29 (L29 Gself)) x.1 x.2.1 x.2.2.1 x.2.2.2.1 x.2.2.2.2.1 x.2.2.2.2.2.1).trans (by simp only [atT_self] <;> rfl)⟩)
  have g23 : Good Tryd.prog 161 w0 O Post y T23 p23 (L23 Gself) := good_orders (hs := hd impl_numberText.impl Gself impl_scan_put.impl impl_scan_run.impl impl_scan_take.impl slices_Index_of.impl) (cv' := hd impl_numberText.impl Gself impl_scan_put.impl impl_scan_run.impl impl_scan_take.impl slices_Index_of.impl) (Checked.mixed Tryd.checked) (hp (atT T1 (fun _ => none)) (atT T3 (fun _ => none)) (atT T10 (fun _ => none)) (atT T23 (fun _ => none)) (atT T25 (L25 Gself)) (atT T29 (fun _ => none))) (handAt_ok impl_scan_take.con (handAt_ok slices_Index_of.con (handAt_ok impl_scan_put.con (handAt_ok impl_scan_run.con (handAt_ok impl_numberText.con (handAt_ok hself handNil_ok)))))) (handAt_nat (handAt_nat (handAt_nat (handAt_nat (handAt_nat (handAt_nat handNil_nat)))))) (handAt_nat (handAt_nat (handAt_nat (handAt_nat (handAt_nat (handAt_nat handNil_nat)))))) (runOK_of (hp (atT T1 (fun _ => none)) (atT T3 (fun _ => none)) (atT T10 (fun _ => none)) (atT T23 (fun _ => none)) (atT T25 (L25 Gself)) (atT T29 (fun _ => none))) hnp ⟨cutOK_at (p := p1) (T := T1) (J := fun _ => none) good_none, cutOK_at (p := p3) (T := T3) (J := fun _ => none) good_none, cutOK_at (p := p10) (T := T10) (J := fun _ => none) good_none, cutOK_at (p := p23) (T := T23) (J := fun _ => none) good_none, cutOK_at g25, cutOK_at (p := p29) (T := T29) (J := fun _ => none) good_none, trivial⟩ fin) (fun x => all_same ⟨_, (seg23 impl_numberText.impl Gself impl_scan_put.impl impl_scan_run.impl impl_scan_take.impl slices_Index_of.impl (atT T1 (fun _ => none)) (atT T3 (fun _ => none)) (atT T10 (fun _ => none)) (atT T23 (fun _ => none)) (atT T25 (L25 Gself)) (atT T29 (fun _ => none)) x.1 x.2.1 x.2.2.1 x.2.2.2.1 x.2.2.2.2.1 x.2.2.2.2.2.1).trans (by simp only [atT_self] <;> rfl)⟩)
  have g3 : Good Tryd.prog 161 w0 O Post y T3 p3 (L3 Gself) := good_quiet (hs := hd impl_numberText.impl Gself impl_scan_put.impl impl_scan_run.impl impl_scan_take.impl slices_Index_of.impl) (cv' := hd impl_numberText.impl Gself impl_scan_put.impl impl_scan_run.impl impl_scan_take.impl slices_Index_of.impl) (Checked.mixed Tryd.checked) (hp (atT T1 (fun _ => none)) (atT T3 (fun _ => none)) (atT T10 (L10 Gself)) (atT T23 (L23 Gself)) (atT T25 (fun _ => none)) (atT T29 (fun _ => none))) (handAt_D' rfl (handAt_D slices_Index_of.con (by rfl) rfl (handAt_D' rfl (handAt_D' rfl (handAt_D impl_numberText.con (by rfl) rfl (handAt_D' rfl handNil_D)))))) (handAt_nat (handAt_nat (handAt_nat (handAt_nat (handAt_nat (handAt_nat handNil_nat)))))) (handAt_nat (handAt_nat (handAt_nat (handAt_nat (handAt_nat (handAt_nat handNil_nat)))))) (runOK_of (hp (atT T1 (fun _ => none)) (atT T3 (fun _ => none)) (atT T10 (L10 Gself)) (atT T23 (L23 Gself)) (atT T25 (fun _ => none)) (atT T29 (fun _ => none))) hnp ⟨cutOK_at (p := p1) (T := T1) (J := fun _ => none) good_none, cutOK_at (p := p3) (T := T3) (J := fun _ => none) good_none, cutOK_at g10, cutOK_at g23, cutOK_at (p := p25) (T := T25) (J := fun _ => none) good_none, cutOK_at (p := p29) (T := T29) (J := fun _ => none) good_none, trivial⟩ fin) (fun x => all_same ⟨_, (seg3 impl_numberText.impl Gself impl_scan_put.impl impl_scan_run.impl impl_scan_take.impl slices_Index_of.impl (atT T1 (fun _ => none)) (atT T3 (fun _ => none)) (atT T10 (L10 Gself)) (atT T23 (L23 Gself)) (atT T25 (fun _ => none)) (atT T29 (fun _ => none)) x.1 x.2.1 x.2.2.1 x.2.2.2.1 x.2.2.2.2.1).trans (by simp only [atT_self] <;> rfl)⟩)
  have g1 : Good Tryd.prog 161 w0 O Post y T1 p1 (L1 Gself) := good_quiet (hs := hd impl_numberText.impl Gself impl_scan_put.impl impl_scan_run.impl impl_scan_take.impl slices_Index_of.impl) (cv' := hd impl_numberText.impl Gself impl_scan_put.impl impl_scan_run.impl impl_scan_take.impl slices_Index_of.impl) (Checked.mixed Tryd.checked) (hp (atT T1 (fun _ => none)) (atT T3 (L3 Gself)) (atT T10 (fun _ => none)) (atT T23 (fun _ => none)) (atT T25 (fun _ => none)) (atT T29 (fun _ => none))) (handAt_D' rfl (handAt_D slices_Index_of.con (by rfl) rfl (handAt_D' rfl (handAt_D' rfl (handAt_D impl_numberText.con (by rfl) rfl (handAt_D' rfl handNil_D)))))) (handAt_nat (handAt_nat (handAt_nat (handAt_nat (handAt_nat (handAt_nat handNil_nat)))))) (handAt_nat (handAt_nat (handAt_nat (handAt_nat (handAt_nat (handAt_nat handNil_nat)))))) (runOK_of (hp (atT T1 (fun _ => none)) (atT T3 (L3 Gself)) (atT T10 (fun _ => none)) (atT T23 (fun _ => none)) (atT T25 (fun _ => none)) (atT T29 (fun _ => none))) hnp ⟨cutOK_at (p := p1) (T := T1) (J := fun _ => none) good_none, cutOK_at g3, cutOK_at (p := p10) (T := T10) (J := fun _ => none) good_none, cutOK_at (p := p23) (T := T23) (J := fun _ => none) good_none, cutOK_at (p := p25) (T := T25) (J := fun _ => none) good_none, cutOK_at (p := p29) (T := T29) (J := fun _ => none) good_none, trivial⟩ fin) (fun x => all_same ⟨_, (seg1 impl_numberText.impl Gself impl_scan_put.impl impl_scan_run.impl impl_scan_take.impl slices_Index_of.impl (atT T1 (fun _ => none)) (atT T3 (L3 Gself)) (atT T10 (fun _ => none)) (atT T23 (fun _ => none)) (atT T25 (fun _ => none)) (atT T29 (fun _ => none)) x.1 x.2.1 x.2.2.1 x.2.2.2.1 x.2.2.2.2.1).trans (by simp only [atT_self] <;> rfl)⟩)
  exact good_first (hp (atT T1 (L1 Gself)) (atT T3 (fun _ => none)) (atT T10 (fun _ => none)) (atT T23 (fun _ => none)) (atT T25 (fun _ => none)) (atT T29 (fun _ => none))) (runOK_of (hp (atT T1 (L1 Gself)) (atT T3 (fun _ => none)) (atT T10 (fun _ => none)) (atT T23 (fun _ => none)) (atT T25 (fun _ => none)) (atT T29 (fun _ => none))) hnp ⟨cutOK_at g1, cutOK_at (p := p3) (T := T3) (J := fun _ => none) good_none, cutOK_at (p := p10) (T := T10) (J := fun _ => none) good_none, cutOK_at (p := p23) (T := T23) (J := fun _ => none) good_none, cutOK_at (p := p25) (T := T25) (J := fun _ => none) good_none, cutOK_at (p := p29) (T := T29) (J := fun _ => none) good_none, trivial⟩ fin) (fun x => (seg0 impl_numberText.impl Gself impl_scan_put.impl impl_scan_run.impl impl_scan_take.impl slices_Index_of.impl (atT T1 (L1 Gself)) (atT T3 (fun _ => none)) (atT T10 (fun _ => none)) (atT T23 (fun _ => none)) (atT T25 (fun _ => none)) (atT T29 (fun _ => none)) x.1 x.2.1 x.2.2.1 x.2.2.2.1 x.2.2.2.2.1).trans (by simp only [atT_self] <;> rfl))
theorem con : Con Tryd.prog 27 2 rs.length 2 pin pout impl := con_lfp (c := c0) Tryd.func27 (by kernel_rfl) (by kernel_rfl) (by kernel_rfl) con_step
end impl_scan_expr

/-! ### loop.example/wholecheck/impl.parts -/
namespace impl_parts
noncomputable abbrev c0 : Code := (Tryd.f51.body).getD .skip
noncomputable abbrev pin : Tpl := ⟨[⟨0, false, [.d (.int .i64)]⟩], []⟩
noncomputable abbrev pout : Tpl := ⟨[⟨0, false, [.d (.int .i64)]⟩, ⟨1, false, [.d (.int .i64)]⟩, ⟨2, false, [.d (.int .i64)]⟩], []⟩
noncomputable abbrev PI := Int × Unit
noncomputable abbrev PO := Int × Int × Int × Unit
noncomputable abbrev rs : List ResultVar := [.tmp 2, .tmp 3, .tmp 4]
noncomputable def F0 (x0 : Int) : Option PO :=
  bif x0 == 2 then
    some (2, 1, 1, ())
  else
    bif x0 == 3 then
      some (2, 1, 1, ())
    else
      bif x0 == 4 then
        some (2, 1, 1, ())
      else
        bif x0 == 5 then
          some (2, 1, 2, ())
        else
          bif x0 == 6 then
            some (2, 1, 2, ())
          else
            bif x0 == 7 then
              some (1, 2, 2, ())
            else
              bif x0 == 8 then
                some (2, 2, 2, ())
              else
                bif x0 == 9 then
                  some (2, 2, 2, ())
                else
                  some (0, 0, 1, ())
noncomputable def hd {R : Type} : Hand R := handNil
noncomputable def pg : Prog PO := { nt := 18, np := 1, tb := tabOf tab, hd := hd, cuts := cutsOf [], fin := endOf (tabOf tab) rs 1 pout }
noncomputable def q : FuncId → Bool := fun f => hasId [] f
theorem seg0 (x0 : Int) : arun (pg) 5000 [.code c0] (mk pin (x0, ())) = F0 x0 := by kernel_rfl
noncomputable def impl : PI → Option PO := fun x => F0 x.1
theorem impl_eq (x0 : Int) : impl (x0, ()) = F0 x0 := rfl
theorem con : Con Tryd.prog 51 1 rs.length 1 pin pout impl := by
  refine con_of_run' (nt := 18) (c := c0) tabGood Tryd.func51 (by kernel_rfl) (by kernel_rfl) (by kernel_rfl) (by kernel_rfl) (by kernel_rfl) (by kernel_rfl) (by kernel_rfl) ?_
  intro w0 O y hnp
  generalize hPost : (fun (a' : Act) (w' : World) => ∃ μ' S' st', Rel 18 w0 O μ' S' st' a' w' ∧ endOf (tabOf tab) rs 1 pout st' = some y) = Post
  have fin : ∀ (μ : Id → Option Value) (S : Nat → Prop) (st : St) (a : Act) (w : World), Rel 18 w0 O μ S st a w → endOf (tabOf tab) rs 1 pout st = some y → Post a w := fun μ S st a w h he => by rw [← hPost]; exact ⟨μ, S, st, h, he⟩
  have hp : Parts Tryd.prog 51 (pg) [] := ⟨tab_ok tabGood rfl, handNil_ok, rfl⟩
  exact good_first (hp) (runOK_of (hp) hnp trivial fin) (fun x => (seg0 x.1))
end impl_parts
end Go.Proofs.YtfjnckjkpkhbdaaDoorB
