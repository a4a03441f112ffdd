/- PRINTED BY A PROGRAM OF THIS CLAIM'S AUTHOR (wip/gen): functions of the given program, their parts, their contracts. -/
import Derived.Test.YtgagmcbeobkfoaaDoorB34
import Derived.Test.YtgagmcbeobkfoaaDoorChecked
import Derived.Test.YtgagmcbeobkfoaaDoorL
set_option linter.unusedVariables false
set_option maxRecDepth 100000
namespace Go.Proofs.YtgagmcbeobkfoaaDoorB
open Go
def tab : Tab := [(3, { kind := .scalar, zero := [.d (.int .i64) (0 : Int)], bytes := 8, data := some (.int .i64), eqf := none }),
  (5, { kind := .scalar, zero := [.d (.int .u8) (0 : Int)], bytes := 1, data := some (.int .u8), eqf := none }),
  (9, { kind := .scalar, zero := [.d .str ([] : List UInt8)], bytes := 16, data := some .str, eqf := none }),
  (22, { kind := .slice 3, zero := [.nilS], bytes := 24, data := some (.sl (.int .i64)), eqf := none }),
  (28, { kind := .slice 9, zero := [.nilS], bytes := 24, data := some (.sl .str), eqf := none }),
  (32, { kind := .slice 5, zero := [.nilS], bytes := 24, data := some (.sl (.int .u8)), eqf := none })]
theorem tabGood : tabB Tryd.prog tab = true := by kernel_rfl

/-! ### loop.example/wholecheck/laws.toIntS -/
namespace laws_toIntS
noncomputable abbrev c0 : Code := (Tryd.f5.body).getD .skip
noncomputable abbrev pin : Tpl := ⟨[⟨0, false, [.d (.sl (.int .i64))]⟩], []⟩
noncomputable abbrev pout : Tpl := ⟨[⟨0, false, [.row 600001]⟩], [(600001, .row 3 false (.int .i64))]⟩
noncomputable abbrev p3 : Tpl := ⟨[⟨0, false, [.d (.sl (.int .i64))]⟩, ⟨3, false, [.row 3000000]⟩, ⟨4, false, [.d (.int .i64)]⟩], [(3000000, .row 3 false (.int .i64))]⟩
noncomputable def T3 : List Item := (find 3 c0 []).getD []
noncomputable abbrev PI := (List Int) × Unit
noncomputable abbrev PO := (List Int) × Unit
noncomputable abbrev P3 := (List Int) × Int × (List Int) × Unit
noncomputable abbrev rs : List ResultVar := [.tmp 2]
noncomputable def F0 (J3 : P3 → Option PO) (x0 : List Int) : Option PO :=
  bif decide (0 ≤ (x0.length : Int)) && decide ((x0.length : Int) ≤ (x0.length : Int)) && decide ((x0.length : Int) * 8 ≤ 140737488355328) then
    J3 (x0, 0, (List.replicate (x0.length : Int).toNat 0 : List Int), ())
  else
    none
noncomputable def F3 (J3 : P3 → Option PO) (t0 : List Int) (t4 : Int) (r0 : List Int) : Option PO :=
  bif decide (t4 < (t0.length : Int)) then
    bif inb t4 t0.length then
      bif inb t4 r0.length then
        J3 (t0, wI (t4 + 1), r0.set t4.toNat (t0.getD t4.toNat 0), ())
      else
        none
    else
      none
  else
    some (r0, ())
noncomputable def hd {R : Type} : Hand R := handNil
noncomputable def pg (J3 : List Item → P3 → Option PO) : Prog PO := { nt := 22, np := 1, tb := tabOf tab, hd := hd, cuts := cutsOf [(3, cut p3 J3)], fin := endOf (tabOf tab) rs 1 pout }
theorem seg0 (J3 : List Item → P3 → Option PO) (x0 : List Int) : arun (pg J3) 5000 [.code c0] (mk pin (x0, ())) = F0 (J3 T3) x0 := by kernel_rfl
theorem seg3 (J3 : List Item → P3 → Option PO) (t0 : List Int) (t4 : Int) (r0 : List Int) : arun1 (pg J3) 5000 T3 (mk p3 (t0, t4, r0, ())) = F3 (J3 T3) t0 t4 r0 := by kernel_rfl
noncomputable def L3 : P3 → Option PO := lfp fun J3 x => F3 J3 x.1 x.2.1 x.2.2.1
noncomputable def impl : PI → Option PO := fun x => F0 L3 x.1
theorem F3_le {J3 J3' : P3 → Option PO} (h3 : OLe J3 J3') (t0 : List Int) (t4 : Int) (r0 : List Int) : OptLe (F3 J3 t0 t4 r0) (F3 J3' t0 t4 r0) := by unfold F3; exact .cond (.cond (.cond (.of h3 _) (.refl _)) (.refl _)) (.refl _)
theorem L3_mono : OMono fun J3 (x : P3) => F3 J3 x.1 x.2.1 x.2.2.1 := fun J J' h3 x => F3_le h3 x.1 x.2.1 x.2.2.1
theorem L3_eq (t0 : List Int) (t4 : Int) (r0 : List Int) : L3 (t0, t4, r0, ()) = F3 (L3) t0 t4 r0 := congrFun (lfp_eq (L3_mono)) _
theorem impl_eq (x0 : List Int) : impl (x0, ()) = F0 L3 x0 := rfl
theorem con : Con Tryd.prog 5 1 rs.length 1 pin pout impl := by
  refine con_of_run' (nt := 22) (c := c0) tabGood Tryd.func5 (by kernel_rfl) (by kernel_rfl) (by kernel_rfl) (by kernel_rfl) (by kernel_rfl) (by kernel_rfl) (by kernel_rfl) ?_
  intro w0 O y hnp
  generalize hPost : (fun (a' : Act) (w' : World) => ∃ μ' S' st', Rel 22 w0 O μ' S' st' a' w' ∧ endOf (tabOf tab) rs 1 pout st' = some y) = Post
  have fin : ∀ (μ : Id → Option Value) (S : Nat → Prop) (st : St) (a : Act) (w : World), Rel 22 w0 O μ S st a w → endOf (tabOf tab) rs 1 pout st = some y → Post a w := fun μ S st a w h he => by rw [← hPost]; exact ⟨μ, S, st, h, he⟩
  have hp : ∀ (J3 : List Item → P3 → Option PO), Parts Tryd.prog 5 (pg J3) [(3, cut p3 J3)] := fun J3 => ⟨tab_ok tabGood rfl, handNil_ok, rfl⟩
  have g3 : Good Tryd.prog 22 w0 O Post y T3 p3 L3 := good_lfp fun J3 h3 => good_part (hp (atT T3 J3)) (runOK_of (hp (atT T3 J3)) hnp ⟨cutOK_at h3, trivial⟩ fin) (fun x => (seg3 (atT T3 J3) x.1 x.2.1 x.2.2.1).trans (by simp only [atT_self] <;> rfl))
  exact good_first (hp (atT T3 L3)) (runOK_of (hp (atT T3 L3)) hnp ⟨cutOK_at g3, trivial⟩ fin) (fun x => (seg0 (atT T3 L3) x.1).trans (by simp only [atT_self] <;> rfl))
end laws_toIntS

/-! ### loop.example/wholecheck/spec.l1In -/
namespace spec_l1In
noncomputable abbrev c0 : Code := (Tryd.f13.body).getD .skip
noncomputable abbrev pin : Tpl := ⟨[⟨0, false, [.d (.int .i64)]⟩, ⟨1, false, [.d (.int .i64)]⟩, ⟨2, false, [.d (.int .i64)]⟩], []⟩
noncomputable abbrev pout : Tpl := ⟨[⟨0, false, [.d .bool]⟩], []⟩
noncomputable abbrev PI := Int × Int × Int × Unit
noncomputable abbrev PO := Bool × Unit
noncomputable abbrev rs : List ResultVar := [.tmp 6]
noncomputable def F0 (x0 : Int) (x1 : Int) (x2 : Int) : Option PO :=
  bif decide (x0 ≥ x1) then
    some (decide (x0 ≤ x2), ())
  else
    some (false, ())
noncomputable def hd {R : Type} : Hand R := handNil
noncomputable def pg : Prog PO := { nt := 15, np := 3, tb := tabOf tab, hd := hd, cuts := cutsOf [], fin := endOf (tabOf tab) rs 3 pout }
theorem seg0 (x0 : Int) (x1 : Int) (x2 : Int) : arun (pg) 5000 [.code c0] (mk pin (x0, x1, x2, ())) = F0 x0 x1 x2 := by kernel_rfl
noncomputable def impl : PI → Option PO := fun x => F0 x.1 x.2.1 x.2.2.1
theorem impl_eq (x0 : Int) (x1 : Int) (x2 : Int) : impl (x0, x1, x2, ()) = F0 x0 x1 x2 := rfl
theorem con : Con Tryd.prog 13 3 rs.length 3 pin pout impl := by
  refine con_of_run' (nt := 15) (c := c0) tabGood Tryd.func13 (by kernel_rfl) (by kernel_rfl) (by kernel_rfl) (by kernel_rfl) (by kernel_rfl) (by kernel_rfl) (by kernel_rfl) ?_
  intro w0 O y hnp
  generalize hPost : (fun (a' : Act) (w' : World) => ∃ μ' S' st', Rel 15 w0 O μ' S' st' a' w' ∧ endOf (tabOf tab) rs 3 pout st' = some y) = Post
  have fin : ∀ (μ : Id → Option Value) (S : Nat → Prop) (st : St) (a : Act) (w : World), Rel 15 w0 O μ S st a w → endOf (tabOf tab) rs 3 pout st = some y → Post a w := fun μ S st a w h he => by rw [← hPost]; exact ⟨μ, S, st, h, he⟩
  have hp : Parts Tryd.prog 13 (pg) [] := ⟨tab_ok tabGood rfl, handNil_ok, rfl⟩
  exact good_first (hp) (runOK_of (hp) hnp trivial fin) (fun x => (seg0 x.1 x.2.1 x.2.2.1))
end spec_l1In

/-! ### loop.example/wholecheck/spec.l31Numbers -/
namespace spec_l31Numbers
noncomputable abbrev c0 : Code := (Tryd.f8.body).getD .skip
noncomputable abbrev pin : Tpl := ⟨[⟨0, false, [.d (.sl (.int .i64))]⟩], []⟩
noncomputable abbrev pout : Tpl := ⟨[⟨0, false, [.d .bool]⟩], []⟩
noncomputable abbrev p2 : Tpl := ⟨[⟨0, false, [.d (.sl (.int .i64))]⟩, ⟨3, false, [.d (.int .i64)]⟩], []⟩
noncomputable def T2 : List Item := (find 2 c0 []).getD []
noncomputable abbrev PI := (List Int) × Unit
noncomputable abbrev PO := Bool × Unit
noncomputable abbrev P2 := (List Int) × Int × Unit
noncomputable abbrev rs : List ResultVar := [.tmp 2]
noncomputable def F0 (J2 : P2 → Option PO) (x0 : List Int) : Option PO :=
  J2 (x0, 0, ())
noncomputable def F2 (J2 : P2 → Option PO) (Gspec_l1In : spec_l1In.PI → Option spec_l1In.PO) (t0 : List Int) (t3 : Int) : Option PO :=
  bif decide (t3 < (t0.length : Int)) then
    bif inb t3 t0.length then
      Option.bind (Gspec_l1In (t0.getD t3.toNat 0, (-9999), 9999, ())) fun y0 =>
      bif !y0.1 then
        some (false, ())
      else
        J2 (t0, wI (t3 + 1), ())
    else
      none
  else
    some (true, ())
noncomputable def hd {R : Type} (Gspec_l1In : spec_l1In.PI → Option spec_l1In.PO) : Hand R := (handAt 13 [14] true ⟨3, 1, 3, spec_l1In.pin, spec_l1In.pout, Gspec_l1In⟩ handNil)
noncomputable def pg (Gspec_l1In : spec_l1In.PI → Option spec_l1In.PO) (J2 : List Item → P2 → Option PO) : Prog PO := { nt := 16, np := 1, tb := tabOf tab, hd := hd Gspec_l1In, cuts := cutsOf [(2, cut p2 J2)], fin := endOf (tabOf tab) rs 1 pout }
theorem seg0 (Gspec_l1In : spec_l1In.PI → Option spec_l1In.PO) (J2 : List Item → P2 → Option PO) (x0 : List Int) : arun (pg Gspec_l1In J2) 5000 [.code c0] (mk pin (x0, ())) = F0 (J2 T2) x0 := by kernel_rfl
theorem seg2 (Gspec_l1In : spec_l1In.PI → Option spec_l1In.PO) (J2 : List Item → P2 → Option PO) (t0 : List Int) (t3 : Int) : arun1 (pg Gspec_l1In J2) 5000 T2 (mk p2 (t0, t3, ())) = F2 (J2 T2) Gspec_l1In t0 t3 := by kernel_rfl
noncomputable def L2 : P2 → Option PO := lfp fun J2 x => F2 J2 spec_l1In.impl x.1 x.2.1
noncomputable def impl : PI → Option PO := fun x => F0 L2 x.1
theorem F2_le {J2 J2' : P2 → Option PO} (h2 : OLe J2 J2') {Gspec_l1In : spec_l1In.PI → Option spec_l1In.PO} (t0 : List Int) (t3 : Int) : OptLe (F2 J2 Gspec_l1In t0 t3) (F2 J2' Gspec_l1In t0 t3) := by unfold F2; exact .cond (.cond (.bind (.refl _) fun _ => .cond (.refl _) (.of h2 _)) (.refl _)) (.refl _)
theorem L2_mono : OMono fun J2 (x : P2) => F2 J2 spec_l1In.impl x.1 x.2.1 := fun J J' h2 x => F2_le h2 x.1 x.2.1
theorem L2_eq (t0 : List Int) (t3 : Int) : L2 (t0, t3, ()) = F2 (L2) spec_l1In.impl t0 t3 := congrFun (lfp_eq (L2_mono)) _
theorem impl_eq (x0 : List Int) : impl (x0, ()) = F0 L2 x0 := rfl
theorem con : Con Tryd.prog 8 1 rs.length 1 pin pout impl := by
  refine con_of_run' (nt := 16) (c := c0) tabGood Tryd.func8 (by kernel_rfl) (by kernel_rfl) (by kernel_rfl) (by kernel_rfl) (by kernel_rfl) (by kernel_rfl) (by kernel_rfl) ?_
  intro w0 O y hnp
  generalize hPost : (fun (a' : Act) (w' : World) => ∃ μ' S' st', Rel 16 w0 O μ' S' st' a' w' ∧ endOf (tabOf tab) rs 1 pout st' = some y) = Post
  have fin : ∀ (μ : Id → Option Value) (S : Nat → Prop) (st : St) (a : Act) (w : World), Rel 16 w0 O μ S st a w → endOf (tabOf tab) rs 1 pout st = some y → Post a w := fun μ S st a w h he => by rw [← hPost]; exact ⟨μ, S, st, h, he⟩
  have hp : ∀ (J2 : List Item → P2 → Option PO), Parts Tryd.prog 8 (pg spec_l1In.impl J2) [(2, cut p2 J2)] := fun J2 => ⟨tab_ok tabGood rfl, (handAt_ok spec_l1In.con handNil_ok), rfl⟩
  have g2 : Good Tryd.prog 16 w0 O Post y T2 p2 L2 := good_lfp fun J2 h2 => good_part (hp (atT T2 J2)) (runOK_of (hp (atT T2 J2)) hnp ⟨cutOK_at h2, trivial⟩ fin) (fun x => (seg2 spec_l1In.impl (atT T2 J2) x.1 x.2.1).trans (by simp only [atT_self] <;> rfl))
  exact good_first (hp (atT T2 L2)) (runOK_of (hp (atT T2 L2)) hnp ⟨cutOK_at g2, trivial⟩ fin) (fun x => (seg0 spec_l1In.impl (atT T2 L2) x.1).trans (by simp only [atT_self] <;> rfl))
end spec_l31Numbers

/-! ### loop.example/wholecheck/spec.l40Dec -/
namespace spec_l40Dec
noncomputable abbrev c0 : Code := (Tryd.f14.body).getD .skip
noncomputable abbrev pin : Tpl := ⟨[⟨0, false, [.d (.int .i64)]⟩], []⟩
noncomputable abbrev pout : Tpl := ⟨[⟨0, false, [.d .str]⟩], []⟩
noncomputable abbrev p6 : Tpl := ⟨[⟨0, false, [.d (.int .i64)]⟩, ⟨3, false, [.d .str]⟩], []⟩
noncomputable def T6 : List Item := (find 6 c0 []).getD []
noncomputable abbrev PI := Int × Unit
noncomputable abbrev PO := (List UInt8) × Unit
noncomputable abbrev P6 := Int × (List UInt8) × Unit
noncomputable abbrev rs : List ResultVar := [.tmp 2]
noncomputable def F0 (J6 : P6 → Option PO) (Gspec_l40Dec : PI → Option PO) (x0 : Int) : Option PO :=
  bif decide (x0 < (-9223372036854775807)) then
    some ([45, 57, 50, 50, 51, 51, 55, 50, 48, 51, 54, 56, 53, 52, 55, 55, 53, 56, 48, 56], ())
  else
    bif decide (x0 < 0) then
      Option.bind (Gspec_l40Dec (wI (0 - x0), ())) fun y0 =>
      bif decide (([45] : List _).length + y0.1.length ≤ 140737488355328) then
        some ([45] ++ y0.1, ())
      else
        none
    else
      J6 (x0, [], ())
noncomputable def F6 (J6 : P6 → Option PO) (t0 : Int) (t3 : List UInt8) : Option PO :=
  bif decide (t0 > 9) then
    bif decide ((strOf ([IntKind.u8.wrap (wI (48 + (Int.tmod t0 10)))] : List Int)).length + t3.length ≤ 140737488355328) then
      J6 (wI (Int.tdiv t0 10), (strOf ([IntKind.u8.wrap (wI (48 + (Int.tmod t0 10)))] : List Int)) ++ t3, ())
    else
      none
  else
    bif decide ((strOf ([IntKind.u8.wrap (wI (48 + t0))] : List Int)).length + t3.length ≤ 140737488355328) then
      some ((strOf ([IntKind.u8.wrap (wI (48 + t0))] : List Int)) ++ t3, ())
    else
      none
noncomputable def hd {R : Type} (Gspec_l40Dec : PI → Option PO) : Hand R := (handAt 14 [10] true ⟨1, 1, 0, pin, pout, Gspec_l40Dec⟩ handNil)
noncomputable def pg (Gspec_l40Dec : PI → Option PO) (J6 : List Item → P6 → Option PO) : Prog PO := { nt := 31, np := 0, tb := tabOf tab, hd := hd Gspec_l40Dec, cuts := cutsOf [(6, cut p6 J6)], fin := endOf (tabOf tab) rs 0 pout }
theorem seg0 (Gspec_l40Dec : PI → Option PO) (J6 : List Item → P6 → Option PO) (x0 : Int) : arun (pg Gspec_l40Dec J6) 5000 [.code c0] (mk pin (x0, ())) = F0 (J6 T6) Gspec_l40Dec x0 := by kernel_rfl
theorem seg6 (Gspec_l40Dec : PI → Option PO) (J6 : List Item → P6 → Option PO) (t0 : Int) (t3 : List UInt8) : arun1 (pg Gspec_l40Dec J6) 5000 T6 (mk p6 (t0, t3, ())) = F6 (J6 T6) t0 t3 := by kernel_rfl
noncomputable def L6 (Gself : PI → Option PO) : P6 → Option PO := lfp fun J6 x => F6 J6 x.1 x.2.1
noncomputable def step (Gself : PI → Option PO) : PI → Option PO := fun x => F0 (L6 Gself) Gself x.1
noncomputable def impl : PI → Option PO := lfp step
theorem F6_le {J6 J6' : P6 → Option PO} (h6 : OLe J6 J6') (t0 : Int) (t3 : List UInt8) : OptLe (F6 J6 t0 t3) (F6 J6' t0 t3) := by unfold F6; exact .cond (.cond (.of h6 _) (.refl _)) (.refl _)
theorem F0_le {J6 J6' : P6 → Option PO} (h6 : OLe J6 J6') {Gself Gself' : PI → Option PO} (hG : OLe Gself Gself') (x0 : Int) : OptLe (F0 J6 Gself x0) (F0 J6' Gself' x0) := by unfold F0; exact .cond (.refl _) (.cond (.bind (.of hG _) fun _ => .refl _) (.of h6 _))
theorem L6_mono (Gself : PI → Option PO) : OMono fun J6 (x : P6) => F6 J6 x.1 x.2.1 := fun J J' h6 x => F6_le h6 x.1 x.2.1
theorem L6_eq (Gself : PI → Option PO) (t0 : Int) (t3 : List UInt8) : L6 Gself (t0, t3, ()) = F6 (L6 Gself) t0 t3 := congrFun (lfp_eq (L6_mono Gself)) _
theorem L6_le {Gself Gself' : PI → Option PO} (hG : OLe Gself Gself') : OLe (L6 Gself) (L6 Gself') := lfp_le (L6_mono Gself') fun J x => F6_le (fun _ _ h => h) x.1 x.2.1
theorem step_mono : OMono step := fun G G' hG x => F0_le (L6_le hG) hG x.1
theorem impl_eq (x0 : Int) : impl (x0, ()) = F0 (L6 impl) impl x0 := congrFun (lfp_eq step_mono) _
theorem con_step (Gself : PI → Option PO) (hself : Con Tryd.prog 14 1 rs.length 0 pin pout Gself) : Con Tryd.prog 14 1 rs.length 0 pin pout (step Gself) := by
  refine con_of_run' (nt := 31) (c := c0) tabGood Tryd.func14 (by kernel_rfl) (by kernel_rfl) (by kernel_rfl) (by kernel_rfl) (by kernel_rfl) (by kernel_rfl) (by kernel_rfl) ?_
  intro w0 O y hnp
  generalize hPost : (fun (a' : Act) (w' : World) => ∃ μ' S' st', Rel 31 w0 O μ' S' st' a' w' ∧ endOf (tabOf tab) rs 0 pout st' = some y) = Post
  have fin : ∀ (μ : Id → Option Value) (S : Nat → Prop) (st : St) (a : Act) (w : World), Rel 31 w0 O μ S st a w → endOf (tabOf tab) rs 0 pout st = some y → Post a w := fun μ S st a w h he => by rw [← hPost]; exact ⟨μ, S, st, h, he⟩
  have hp : ∀ (J6 : List Item → P6 → Option PO), Parts Tryd.prog 14 (pg Gself J6) [(6, cut p6 J6)] := fun J6 => ⟨tab_ok tabGood rfl, (handAt_ok hself handNil_ok), rfl⟩
  have g6 : Good Tryd.prog 31 w0 O Post y T6 p6 (L6 Gself) := good_lfp fun J6 h6 => good_part (hp (atT T6 J6)) (runOK_of (hp (atT T6 J6)) hnp ⟨cutOK_at h6, trivial⟩ fin) (fun x => (seg6 Gself (atT T6 J6) x.1 x.2.1).trans (by simp only [atT_self] <;> rfl))
  exact good_first (hp (atT T6 (L6 Gself))) (runOK_of (hp (atT T6 (L6 Gself))) hnp ⟨cutOK_at g6, trivial⟩ fin) (fun x => (seg0 Gself (atT T6 (L6 Gself)) x.1).trans (by simp only [atT_self] <;> rfl))
theorem con : Con Tryd.prog 14 1 rs.length 0 pin pout impl := con_lfp (c := c0) Tryd.func14 (by kernel_rfl) (by kernel_rfl) (by kernel_rfl) con_step
end spec_l40Dec

/-! ### loop.example/wholecheck/spec.l31Row -/
namespace spec_l31Row
noncomputable abbrev c0 : Code := (Tryd.f9.body).getD .skip
noncomputable abbrev pin : Tpl := ⟨[⟨0, false, [.d (.sl (.int .i64))]⟩], []⟩
noncomputable abbrev pout : Tpl := ⟨[⟨0, false, [.d .str]⟩], []⟩
noncomputable abbrev p3 : Tpl := ⟨[⟨0, false, [.d (.sl (.int .i64))]⟩, ⟨3, false, [.d .str]⟩, ⟨4, false, [.d (.int .i64)]⟩], []⟩
noncomputable def T3 : List Item := (find 3 c0 []).getD []
noncomputable abbrev PI := (List Int) × Unit
noncomputable abbrev PO := (List UInt8) × Unit
noncomputable abbrev P3 := (List Int) × (List UInt8) × Int × Unit
noncomputable abbrev rs : List ResultVar := [.tmp 2]
noncomputable def F0 (J3 : P3 → Option PO) (x0 : List Int) : Option PO :=
  J3 (x0, [], 0, ())
noncomputable def F3 (J3 : P3 → Option PO) (Gspec_l40Dec : spec_l40Dec.PI → Option spec_l40Dec.PO) (t0 : List Int) (t3 : List UInt8) (t4 : Int) : Option PO :=
  bif decide (t4 < (t0.length : Int)) then
    bif decide (t3.length + ([32] : List _).length ≤ 140737488355328) then
      bif inb t4 t0.length then
        Option.bind (Gspec_l40Dec (t0.getD t4.toNat 0, ())) fun y0 =>
        bif decide ((t3 ++ [32]).length + y0.1.length ≤ 140737488355328) then
          J3 (t0, (t3 ++ [32]) ++ y0.1, wI (t4 + 1), ())
        else
          none
      else
        none
    else
      none
  else
    some (t3, ())
noncomputable def hd {R : Type} (Gspec_l40Dec : spec_l40Dec.PI → Option spec_l40Dec.PO) : Hand R := (handAt 14 [17] true ⟨1, 1, 0, spec_l40Dec.pin, spec_l40Dec.pout, Gspec_l40Dec⟩ handNil)
noncomputable def pg (Gspec_l40Dec : spec_l40Dec.PI → Option spec_l40Dec.PO) (J3 : List Item → P3 → Option PO) : Prog PO := { nt := 20, np := 1, tb := tabOf tab, hd := hd Gspec_l40Dec, cuts := cutsOf [(3, cut p3 J3)], fin := endOf (tabOf tab) rs 1 pout }
theorem seg0 (Gspec_l40Dec : spec_l40Dec.PI → Option spec_l40Dec.PO) (J3 : List Item → P3 → Option PO) (x0 : List Int) : arun (pg Gspec_l40Dec J3) 5000 [.code c0] (mk pin (x0, ())) = F0 (J3 T3) x0 := by kernel_rfl
theorem seg3 (Gspec_l40Dec : spec_l40Dec.PI → Option spec_l40Dec.PO) (J3 : List Item → P3 → Option PO) (t0 : List Int) (t3 : List UInt8) (t4 : Int) : arun1 (pg Gspec_l40Dec J3) 5000 T3 (mk p3 (t0, t3, t4, ())) = F3 (J3 T3) Gspec_l40Dec t0 t3 t4 := by kernel_rfl
noncomputable def L3 : P3 → Option PO := lfp fun J3 x => F3 J3 spec_l40Dec.impl x.1 x.2.1 x.2.2.1
noncomputable def impl : PI → Option PO := fun x => F0 L3 x.1
theorem F3_le {J3 J3' : P3 → Option PO} (h3 : OLe J3 J3') {Gspec_l40Dec : spec_l40Dec.PI → Option spec_l40Dec.PO} (t0 : List Int) (t3 : List UInt8) (t4 : Int) : OptLe (F3 J3 Gspec_l40Dec t0 t3 t4) (F3 J3' Gspec_l40Dec t0 t3 t4) := by unfold F3; exact .cond (.cond (.cond (.bind (.refl _) fun _ => .cond (.of h3 _) (.refl _)) (.refl _)) (.refl _)) (.refl _)
theorem L3_mono : OMono fun J3 (x : P3) => F3 J3 spec_l40Dec.impl x.1 x.2.1 x.2.2.1 := fun J J' h3 x => F3_le h3 x.1 x.2.1 x.2.2.1
theorem L3_eq (t0 : List Int) (t3 : List UInt8) (t4 : Int) : L3 (t0, t3, t4, ()) = F3 (L3) spec_l40Dec.impl t0 t3 t4 := congrFun (lfp_eq (L3_mono)) _
theorem impl_eq (x0 : List Int) : impl (x0, ()) = F0 L3 x0 := rfl
theorem con : Con Tryd.prog 9 1 rs.length 1 pin pout impl := by
  refine con_of_run' (nt := 20) (c := c0) tabGood Tryd.func9 (by kernel_rfl) (by kernel_rfl) (by kernel_rfl) (by kernel_rfl) (by kernel_rfl) (by kernel_rfl) (by kernel_rfl) ?_
  intro w0 O y hnp
  generalize hPost : (fun (a' : Act) (w' : World) => ∃ μ' S' st', Rel 20 w0 O μ' S' st' a' w' ∧ endOf (tabOf tab) rs 1 pout st' = some y) = Post
  have fin : ∀ (μ : Id → Option Value) (S : Nat → Prop) (st : St) (a : Act) (w : World), Rel 20 w0 O μ S st a w → endOf (tabOf tab) rs 1 pout st = some y → Post a w := fun μ S st a w h he => by rw [← hPost]; exact ⟨μ, S, st, h, he⟩
  have hp : ∀ (J3 : List Item → P3 → Option PO), Parts Tryd.prog 9 (pg spec_l40Dec.impl J3) [(3, cut p3 J3)] := fun J3 => ⟨tab_ok tabGood rfl, (handAt_ok spec_l40Dec.con handNil_ok), rfl⟩
  have g3 : Good Tryd.prog 20 w0 O Post y T3 p3 L3 := good_lfp fun J3 h3 => good_part (hp (atT T3 J3)) (runOK_of (hp (atT T3 J3)) hnp ⟨cutOK_at h3, trivial⟩ fin) (fun x => (seg3 spec_l40Dec.impl (atT T3 J3) x.1 x.2.1 x.2.2.1).trans (by simp only [atT_self] <;> rfl))
  exact good_first (hp (atT T3 L3)) (runOK_of (hp (atT T3 L3)) hnp ⟨cutOK_at g3, trivial⟩ fin) (fun x => (seg0 spec_l40Dec.impl (atT T3 L3) x.1).trans (by simp only [atT_self] <;> rfl))
end spec_l31Row

/-! ### loop.example/wholecheck/spec.ListText -/
namespace spec_ListText
noncomputable abbrev c0 : Code := (Tryd.f4.body).getD .skip
noncomputable abbrev pin : Tpl := ⟨[⟨0, false, [.d (.sl (.int .i64))]⟩], []⟩
noncomputable abbrev pout : Tpl := ⟨[⟨0, false, [.d .str]⟩], []⟩
noncomputable abbrev PI := (List Int) × Unit
noncomputable abbrev PO := (List UInt8) × Unit
noncomputable abbrev rs : List ResultVar := [.tmp 2]
noncomputable def F0 (Gspec_l31Numbers : spec_l31Numbers.PI → Option spec_l31Numbers.PO) (Gspec_l31Row : spec_l31Row.PI → Option spec_l31Row.PO) (x0 : List Int) : Option PO :=
  bif (x0.length : Int) == 0 then
    some ([45], ())
  else
    bif decide ((x0.length : Int) > 400) then
      some ([45], ())
    else
      Option.bind (Gspec_l31Numbers (x0, ())) fun y0 =>
      bif !y0.1 then
        some ([45], ())
      else
        Option.bind (Gspec_l31Row (x0, ())) fun y1 =>
        bif decide (1 ≤ (y1.1.length : Int)) && decide ((y1.1.length : Int) ≤ (y1.1.length : Int)) then
          some ((y1.1.take (y1.1.length : Int).toNat).drop 1, ())
        else
          none
noncomputable def hd {R : Type} (Gspec_l31Numbers : spec_l31Numbers.PI → Option spec_l31Numbers.PO) (Gspec_l31Row : spec_l31Row.PI → Option spec_l31Row.PO) : Hand R := (handAt 9 [17] true ⟨1, 1, 1, spec_l31Row.pin, spec_l31Row.pout, Gspec_l31Row⟩ (handAt 8 [13] true ⟨1, 1, 1, spec_l31Numbers.pin, spec_l31Numbers.pout, Gspec_l31Numbers⟩ handNil))
noncomputable def pg (Gspec_l31Numbers : spec_l31Numbers.PI → Option spec_l31Numbers.PO) (Gspec_l31Row : spec_l31Row.PI → Option spec_l31Row.PO) : Prog PO := { nt := 19, np := 1, tb := tabOf tab, hd := hd Gspec_l31Numbers Gspec_l31Row, cuts := cutsOf [], fin := endOf (tabOf tab) rs 1 pout }
theorem seg0 (Gspec_l31Numbers : spec_l31Numbers.PI → Option spec_l31Numbers.PO) (Gspec_l31Row : spec_l31Row.PI → Option spec_l31Row.PO) (x0 : List Int) : arun (pg Gspec_l31Numbers Gspec_l31Row) 5000 [.code c0] (mk pin (x0, ())) = F0 Gspec_l31Numbers Gspec_l31Row x0 := by kernel_rfl
noncomputable def impl : PI → Option PO := fun x => F0 spec_l31Numbers.impl spec_l31Row.impl x.1
theorem impl_eq (x0 : List Int) : impl (x0, ()) = F0 spec_l31Numbers.impl spec_l31Row.impl x0 := rfl
theorem con : Con Tryd.prog 4 1 rs.length 1 pin pout impl := by
  refine con_of_run' (nt := 19) (c := c0) tabGood Tryd.func4 (by kernel_rfl) (by kernel_rfl) (by kernel_rfl) (by kernel_rfl) (by kernel_rfl) (by kernel_rfl) (by kernel_rfl) ?_
  intro w0 O y hnp
  generalize hPost : (fun (a' : Act) (w' : World) => ∃ μ' S' st', Rel 19 w0 O μ' S' st' a' w' ∧ endOf (tabOf tab) rs 1 pout st' = some y) = Post
  have fin : ∀ (μ : Id → Option Value) (S : Nat → Prop) (st : St) (a : Act) (w : World), Rel 19 w0 O μ S st a w → endOf (tabOf tab) rs 1 pout st = some y → Post a w := fun μ S st a w h he => by rw [← hPost]; exact ⟨μ, S, st, h, he⟩
  have hp : Parts Tryd.prog 4 (pg spec_l31Numbers.impl spec_l31Row.impl) [] := ⟨tab_ok tabGood rfl, (handAt_ok spec_l31Row.con (handAt_ok spec_l31Numbers.con handNil_ok)), rfl⟩
  exact good_first (hp) (runOK_of (hp) hnp trivial fin) (fun x => (seg0 spec_l31Numbers.impl spec_l31Row.impl x.1))
end spec_ListText

/-! ### loop.example/wholecheck/impl.in -/
namespace impl_in
noncomputable abbrev c0 : Code := (Tryd.f10.body).getD .skip
noncomputable abbrev pin : Tpl := ⟨[⟨0, false, [.d (.int .i64)]⟩, ⟨1, false, [.d (.int .i64)]⟩, ⟨2, false, [.d (.int .i64)]⟩], []⟩
noncomputable abbrev pout : Tpl := ⟨[⟨0, false, [.d .bool]⟩], []⟩
noncomputable abbrev PI := Int × Int × Int × Unit
noncomputable abbrev PO := Bool × Unit
noncomputable abbrev rs : List ResultVar := [.tmp 6]
noncomputable def F0 (x0 : Int) (x1 : Int) (x2 : Int) : Option PO :=
  bif decide (x0 ≥ x1) then
    some (decide (x0 ≤ x2), ())
  else
    some (false, ())
noncomputable def hd {R : Type} : Hand R := handNil
noncomputable def pg : Prog PO := { nt := 15, np := 3, tb := tabOf tab, hd := hd, cuts := cutsOf [], fin := endOf (tabOf tab) rs 3 pout }
theorem seg0 (x0 : Int) (x1 : Int) (x2 : Int) : arun (pg) 5000 [.code c0] (mk pin (x0, x1, x2, ())) = F0 x0 x1 x2 := by kernel_rfl
noncomputable def impl : PI → Option PO := fun x => F0 x.1 x.2.1 x.2.2.1
theorem impl_eq (x0 : Int) (x1 : Int) (x2 : Int) : impl (x0, x1, x2, ()) = F0 x0 x1 x2 := rfl
theorem con : Con Tryd.prog 10 3 rs.length 3 pin pout impl := by
  refine con_of_run' (nt := 15) (c := c0) tabGood Tryd.func10 (by kernel_rfl) (by kernel_rfl) (by kernel_rfl) (by kernel_rfl) (by kernel_rfl) (by kernel_rfl) (by kernel_rfl) ?_
  intro w0 O y hnp
  generalize hPost : (fun (a' : Act) (w' : World) => ∃ μ' S' st', Rel 15 w0 O μ' S' st' a' w' ∧ endOf (tabOf tab) rs 3 pout st' = some y) = Post
  have fin : ∀ (μ : Id → Option Value) (S : Nat → Prop) (st : St) (a : Act) (w : World), Rel 15 w0 O μ S st a w → endOf (tabOf tab) rs 3 pout st = some y → Post a w := fun μ S st a w h he => by rw [← hPost]; exact ⟨μ, S, st, h, he⟩
  have hp : Parts Tryd.prog 10 (pg) [] := ⟨tab_ok tabGood rfl, handNil_ok, rfl⟩
  exact good_first (hp) (runOK_of (hp) hnp trivial fin) (fun x => (seg0 x.1 x.2.1 x.2.2.1))
end impl_in

/-! ### loop.example/wholecheck/impl.ListText -/
namespace impl_ListText
noncomputable abbrev c0 : Code := (Tryd.f6.body).getD .skip
noncomputable abbrev pin : Tpl := ⟨[⟨0, false, [.d (.sl (.int .i64))]⟩], []⟩
noncomputable abbrev pout : Tpl := ⟨[⟨0, false, [.d .str]⟩], []⟩
noncomputable abbrev p5 : Tpl := ⟨[⟨3, false, [.row 3000000]⟩, ⟨10, false, [.d (.sl (.int .i64))]⟩, ⟨11, false, [.d (.int .i64)]⟩, ⟨12, false, [.d (.int .i64)]⟩], [(3000000, .row 9 true .str)]⟩
noncomputable def T5 : List Item := (find 5 c0 []).getD []
noncomputable abbrev PI := (List Int) × Unit
noncomputable abbrev PO := (List UInt8) × Unit
noncomputable abbrev P5 := (List Int) × Int × Int × (List (List UInt8)) × Unit
noncomputable abbrev rs : List ResultVar := [.tmp 2]
noncomputable def F0 (J5 : P5 → Option PO) (Gimpl_in : impl_in.PI → Option impl_in.PO) (x0 : List Int) : Option PO :=
  Option.bind (Gimpl_in ((x0.length : Int), 1, 400, ())) fun y0 =>
  bif !y0.1 then
    some ([45], ())
  else
    J5 (x0, (x0.length : Int), 0, [], ())
noncomputable def F5 (J5 : P5 → Option PO) (Gimpl_in : impl_in.PI → Option impl_in.PO) (Glib_Itoa : lib_Itoa.PI → Option lib_Itoa.PO) (Glib_Join : lib_Join.PI → Option lib_Join.PO) (t10 : List Int) (t11 : Int) (t12 : Int) (r0 : List (List UInt8)) : Option PO :=
  bif decide (t12 < t11) then
    bif inb t12 t10.length then
      Option.bind (Gimpl_in (t10.getD t12.toNat 0, (-9999), 9999, ())) fun y1 =>
      bif !y1.1 then
        some ([45], ())
      else
        Option.bind (Glib_Itoa (t10.getD t12.toNat 0, ())) fun y2 =>
        bif decide ((r0.length + ([y2.1] : List (List UInt8)).length) * 16 ≤ 140737488355328) then
          J5 (t10, t11, wI (t12 + 1), r0 ++ ([y2.1] : List (List UInt8)), ())
        else
          none
    else
      none
  else
    Option.bind (Glib_Join (r0, [32], ())) fun y3 =>
    some (y3.1, ())
noncomputable def hd {R : Type} (Gimpl_in : impl_in.PI → Option impl_in.PO) (Glib_Itoa : lib_Itoa.PI → Option lib_Itoa.PO) (Glib_Join : lib_Join.PI → Option lib_Join.PO) : Hand R := (handAt 12 [26] true ⟨2, 1, 0, lib_Join.pin, lib_Join.pout, Glib_Join⟩ (handAt 11 [21] true ⟨1, 1, 0, lib_Itoa.pin, lib_Itoa.pout, Glib_Itoa⟩ (handAt 10 [8, 17] true ⟨3, 1, 3, impl_in.pin, impl_in.pout, Gimpl_in⟩ handNil)))
noncomputable def pg (Gimpl_in : impl_in.PI → Option impl_in.PO) (Glib_Itoa : lib_Itoa.PI → Option lib_Itoa.PO) (Glib_Join : lib_Join.PI → Option lib_Join.PO) (J5 : List Item → P5 → Option PO) : Prog PO := { nt := 27, np := 1, tb := tabOf tab, hd := hd Gimpl_in Glib_Itoa Glib_Join, cuts := cutsOf [(5, cut p5 J5)], fin := endOf (tabOf tab) rs 1 pout }
theorem seg0 (Gimpl_in : impl_in.PI → Option impl_in.PO) (Glib_Itoa : lib_Itoa.PI → Option lib_Itoa.PO) (Glib_Join : lib_Join.PI → Option lib_Join.PO) (J5 : List Item → P5 → Option PO) (x0 : List Int) : arun (pg Gimpl_in Glib_Itoa Glib_Join J5) 5000 [.code c0] (mk pin (x0, ())) = F0 (J5 T5) Gimpl_in x0 := by kernel_rfl
theorem seg5 (Gimpl_in : impl_in.PI → Option impl_in.PO) (Glib_Itoa : lib_Itoa.PI → Option lib_Itoa.PO) (Glib_Join : lib_Join.PI → Option lib_Join.PO) (J5 : List Item → P5 → Option PO) (t10 : List Int) (t11 : Int) (t12 : Int) (r0 : List (List UInt8)) : arun1 (pg Gimpl_in Glib_Itoa Glib_Join J5) 5000 T5 (mk p5 (t10, t11, t12, r0, ())) = F5 (J5 T5) Gimpl_in Glib_Itoa Glib_Join t10 t11 t12 r0 := by kernel_rfl
noncomputable def L5 : P5 → Option PO := lfp fun J5 x => F5 J5 impl_in.impl lib_Itoa.impl lib_Join.impl x.1 x.2.1 x.2.2.1 x.2.2.2.1
noncomputable def impl : PI → Option PO := fun x => F0 L5 impl_in.impl x.1
theorem F5_le {J5 J5' : P5 → Option PO} (h5 : OLe J5 J5') {Gimpl_in : impl_in.PI → Option impl_in.PO} {Glib_Itoa : lib_Itoa.PI → Option lib_Itoa.PO} {Glib_Join : lib_Join.PI → Option lib_Join.PO} (t10 : List Int) (t11 : Int) (t12 : Int) (r0 : List (List UInt8)) : OptLe (F5 J5 Gimpl_in Glib_Itoa Glib_Join t10 t11 t12 r0) (F5 J5' Gimpl_in Glib_Itoa Glib_Join t10 t11 t12 r0) := by unfold F5; exact .cond (.cond (.bind (.refl _) fun _ => .cond (.refl _) (.bind (.refl _) fun _ => .cond (.of h5 _) (.refl _))) (.refl _)) (.refl _)
theorem L5_mono : OMono fun J5 (x : P5) => F5 J5 impl_in.impl lib_Itoa.impl lib_Join.impl x.1 x.2.1 x.2.2.1 x.2.2.2.1 := fun J J' h5 x => F5_le h5 x.1 x.2.1 x.2.2.1 x.2.2.2.1
theorem L5_eq (t10 : List Int) (t11 : Int) (t12 : Int) (r0 : List (List UInt8)) : L5 (t10, t11, t12, r0, ()) = F5 (L5) impl_in.impl lib_Itoa.impl lib_Join.impl t10 t11 t12 r0 := congrFun (lfp_eq (L5_mono)) _
theorem impl_eq (x0 : List Int) : impl (x0, ()) = F0 L5 impl_in.impl x0 := rfl
theorem con : Con Tryd.prog 6 1 rs.length 1 pin pout impl := by
  refine con_of_run' (nt := 27) (c := c0) tabGood Tryd.func6 (by kernel_rfl) (by kernel_rfl) (by kernel_rfl) (by kernel_rfl) (by kernel_rfl) (by kernel_rfl) (by kernel_rfl) ?_
  intro w0 O y hnp
  generalize hPost : (fun (a' : Act) (w' : World) => ∃ μ' S' st', Rel 27 w0 O μ' S' st' a' w' ∧ endOf (tabOf tab) rs 1 pout st' = some y) = Post
  have fin : ∀ (μ : Id → Option Value) (S : Nat → Prop) (st : St) (a : Act) (w : World), Rel 27 w0 O μ S st a w → endOf (tabOf tab) rs 1 pout st = some y → Post a w := fun μ S st a w h he => by rw [← hPost]; exact ⟨μ, S, st, h, he⟩
  have hp : ∀ (J5 : List Item → P5 → Option PO), Parts Tryd.prog 6 (pg impl_in.impl lib_Itoa.impl lib_Join.impl J5) [(5, cut p5 J5)] := fun J5 => ⟨tab_ok tabGood rfl, (handAt_ok lib_Join.con (handAt_ok lib_Itoa.con (handAt_ok impl_in.con handNil_ok))), rfl⟩
  have g5 : Good Tryd.prog 27 w0 O Post y T5 p5 L5 := good_lfp fun J5 h5 => good_part (hp (atT T5 J5)) (runOK_of (hp (atT T5 J5)) hnp ⟨cutOK_at h5, trivial⟩ fin) (fun x => (seg5 impl_in.impl lib_Itoa.impl lib_Join.impl (atT T5 J5) x.1 x.2.1 x.2.2.1 x.2.2.2.1).trans (by simp only [atT_self] <;> rfl))
  exact good_first (hp (atT T5 L5)) (runOK_of (hp (atT T5 L5)) hnp ⟨cutOK_at g5, trivial⟩ fin) (fun x => (seg0 impl_in.impl lib_Itoa.impl lib_Join.impl (atT T5 L5) x.1).trans (by simp only [atT_self] <;> rfl))
end impl_ListText

/-! ### loop.example/wholecheck/laws.eqIntS -/
namespace laws_eqIntS
noncomputable abbrev c0 : Code := (Tryd.f7.body).getD .skip
noncomputable abbrev pin : Tpl := ⟨[⟨0, false, [.d (.sl (.int .i64))]⟩, ⟨1, false, [.d (.sl (.int .i64))]⟩], []⟩
noncomputable abbrev pout : Tpl := ⟨[⟨0, false, [.d .bool]⟩], []⟩
noncomputable abbrev p4 : Tpl := ⟨[⟨0, false, [.d (.sl (.int .i64))]⟩, ⟨1, false, [.d (.sl (.int .i64))]⟩, ⟨5, false, [.d (.int .i64)]⟩], []⟩
noncomputable def T4 : List Item := (find 4 c0 []).getD []
noncomputable abbrev p6 : Tpl := ⟨[⟨0, false, [.d (.sl (.int .i64))]⟩, ⟨1, false, [.d (.sl (.int .i64))]⟩, ⟨5, false, [.d (.int .i64)]⟩], []⟩
noncomputable def T6 : List Item := (find 6 c0 []).getD []
noncomputable abbrev PI := (List Int) × (List Int) × Unit
noncomputable abbrev PO := Bool × Unit
noncomputable abbrev P4 := (List Int) × (List Int) × Int × Unit
noncomputable abbrev P6 := (List Int) × (List Int) × Int × Unit
noncomputable abbrev rs : List ResultVar := [.tmp 4]
noncomputable def F0 (J4 : P4 → Option PO) (x0 : List Int) (x1 : List Int) : Option PO :=
  bif (x0.length : Int) != (x1.length : Int) then
    some (false, ())
  else
    J4 (x0, x1, 0, ())
noncomputable def F4 (J6 : P6 → Option PO) (t0 : List Int) (t1 : List Int) (t5 : Int) : Option PO :=
  bif decide (t5 < (t0.length : Int)) then
    J6 (t0, t1, t5, ())
  else
    some (true, ())
noncomputable def F6 (J4 : P4 → Option PO) (t0 : List Int) (t1 : List Int) (t5 : Int) : Option PO :=
  bif inb t5 t0.length then
    bif inb t5 t1.length then
      bif t0.getD t5.toNat 0 != t1.getD t5.toNat 0 then
        some (false, ())
      else
        J4 (t0, t1, wI (t5 + 1), ())
    else
      none
  else
    none
noncomputable def hd {R : Type} : Hand R := handNil
noncomputable def pg (J4 : List Item → P4 → Option PO) (J6 : List Item → P6 → Option PO) : Prog PO := { nt := 26, np := 2, tb := tabOf tab, hd := hd, cuts := cutsOf [(4, cut p4 J4), (6, cut p6 J6)], fin := endOf (tabOf tab) rs 2 pout }
theorem seg0 (J4 : List Item → P4 → Option PO) (J6 : List Item → P6 → Option PO) (x0 : List Int) (x1 : List Int) : arun (pg J4 J6) 5000 [.code c0] (mk pin (x0, x1, ())) = F0 (J4 T4) x0 x1 := by kernel_rfl
theorem seg4 (J4 : List Item → P4 → Option PO) (J6 : List Item → P6 → Option PO) (t0 : List Int) (t1 : List Int) (t5 : Int) : arun1 (pg J4 J6) 5000 T4 (mk p4 (t0, t1, t5, ())) = F4 (J6 T6) t0 t1 t5 := by kernel_rfl
theorem seg6 (J4 : List Item → P4 → Option PO) (J6 : List Item → P6 → Option PO) (t0 : List Int) (t1 : List Int) (t5 : Int) : arunE (pg J4 J6) 5000 T6 (mk p6 (t0, t1, t5, ())) = List.replicate (arunE (pg J4 J6) 5000 T6 (mk p6 (t0, t1, t5, ()))).length (F6 (J4 T4) t0 t1 t5) := by kernel_rfl
noncomputable def L6 (J4 : P4 → Option PO) : P6 → Option PO := fun x => F6 J4 x.1 x.2.1 x.2.2.1
noncomputable def L4 : P4 → Option PO := lfp fun J4 x => F4 (L6 J4) x.1 x.2.1 x.2.2.1
noncomputable def impl : PI → Option PO := fun x => F0 L4 x.1 x.2.1
theorem F6_le {J4 J4' : P4 → Option PO} (h4 : OLe J4 J4') (t0 : List Int) (t1 : List Int) (t5 : Int) : OptLe (F6 J4 t0 t1 t5) (F6 J4' t0 t1 t5) := by unfold F6; exact .cond (.cond (.cond (.refl _) (.of h4 _)) (.refl _)) (.refl _)
theorem F4_le {J6 J6' : P6 → Option PO} (h6 : OLe J6 J6') (t0 : List Int) (t1 : List Int) (t5 : Int) : OptLe (F4 J6 t0 t1 t5) (F4 J6' t0 t1 t5) := by unfold F4; exact .cond (.of h6 _) (.refl _)
theorem L6_eq (J4 : P4 → Option PO) (t0 : List Int) (t1 : List Int) (t5 : Int) : L6 J4 (t0, t1, t5, ()) = F6 J4 t0 t1 t5 := rfl
theorem L6_le {J4 J4' : P4 → Option PO} (h4 : OLe J4 J4') : OLe (L6 J4) (L6 J4') := fun x => F6_le h4 x.1 x.2.1 x.2.2.1
theorem L4_mono : OMono fun J4 (x : P4) => F4 (L6 J4) x.1 x.2.1 x.2.2.1 := fun J J' h4 x => F4_le (L6_le h4) x.1 x.2.1 x.2.2.1
theorem L4_eq (t0 : List Int) (t1 : List Int) (t5 : Int) : L4 (t0, t1, t5, ()) = F4 (L6 (L4)) t0 t1 t5 := congrFun (lfp_eq (L4_mono)) _
theorem impl_eq (x0 : List Int) (x1 : List Int) : impl (x0, x1, ()) = F0 L4 x0 x1 := rfl
theorem con : Con Tryd.prog 7 2 rs.length 2 pin pout impl := by
  refine con_of_run' (nt := 26) (c := c0) tabGood Tryd.func7 (by kernel_rfl) (by kernel_rfl) (by kernel_rfl) (by kernel_rfl) (by kernel_rfl) (by kernel_rfl) (by kernel_rfl) ?_
  intro w0 O y hnp
  generalize hPost : (fun (a' : Act) (w' : World) => ∃ μ' S' st', Rel 26 w0 O μ' S' st' a' w' ∧ endOf (tabOf tab) rs 2 pout st' = some y) = Post
  have fin : ∀ (μ : Id → Option Value) (S : Nat → Prop) (st : St) (a : Act) (w : World), Rel 26 w0 O μ S st a w → endOf (tabOf tab) rs 2 pout st = some y → Post a w := fun μ S st a w h he => by rw [← hPost]; exact ⟨μ, S, st, h, he⟩
  have hp : ∀ (J4 : List Item → P4 → Option PO), ∀ (J6 : List Item → P6 → Option PO), Parts Tryd.prog 7 (pg J4 J6) [(4, cut p4 J4), (6, cut p6 J6)] := fun J4 J6 => ⟨tab_ok tabGood rfl, handNil_ok, rfl⟩
  have g6 : ∀ (J4 : P4 → Option PO), Good Tryd.prog 26 w0 O Post y T4 p4 J4 → Good Tryd.prog 26 w0 O Post y T6 p6 (L6 J4) := fun J4 h4 => good_orders (hs := hd) (cv' := hd) (Checked.mixed Tryd.checked) (hp (atT T4 J4) (atT T6 (fun _ => none))) handNil_ok handNil_nat handNil_nat (runOK_of (hp (atT T4 J4) (atT T6 (fun _ => none))) hnp ⟨cutOK_at h4, cutOK_at (p := p6) (T := T6) (J := fun _ => none) good_none, trivial⟩ fin) (fun x => ⟨_, (seg6 (atT T4 J4) (atT T6 (fun _ => none)) x.1 x.2.1 x.2.2.1).trans (by simp only [atT_self] <;> rfl)⟩)
  have g4 : Good Tryd.prog 26 w0 O Post y T4 p4 L4 := good_lfp fun J4 h4 => good_part (hp (atT T4 (fun _ => none)) (atT T6 (L6 J4))) (runOK_of (hp (atT T4 (fun _ => none)) (atT T6 (L6 J4))) hnp ⟨cutOK_at (p := p4) (T := T4) (J := fun _ => none) good_none, cutOK_at (g6 J4 h4), trivial⟩ fin) (fun x => (seg4 (atT T4 (fun _ => none)) (atT T6 (L6 J4)) x.1 x.2.1 x.2.2.1).trans (by simp only [atT_self] <;> rfl))
  exact good_first (hp (atT T4 L4) (atT T6 (fun _ => none))) (runOK_of (hp (atT T4 L4) (atT T6 (fun _ => none))) hnp ⟨cutOK_at g4, cutOK_at (p := p6) (T := T6) (J := fun _ => none) good_none, trivial⟩ fin) (fun x => (seg0 (atT T4 L4) (atT T6 (fun _ => none)) x.1 x.2.1).trans (by simp only [atT_self] <;> rfl))
end laws_eqIntS

/-! ### loop.example/wholecheck/laws.FnExactListText -/
namespace laws_FnExactListText
noncomputable abbrev c0 : Code := (Tryd.f3.body).getD .skip
noncomputable abbrev pin : Tpl := ⟨[⟨0, false, [.d (.sl (.int .i64))]⟩], []⟩
noncomputable abbrev pout : Tpl := ⟨[⟨0, false, [.d .bool]⟩], []⟩
noncomputable abbrev PI := (List Int) × Unit
noncomputable abbrev PO := Bool × Unit
noncomputable abbrev rs : List ResultVar := [.tmp 2]
noncomputable def F0 (Gimpl_ListText : impl_ListText.PI → Option impl_ListText.PO) (Glaws_eqIntS : laws_eqIntS.PI → Option laws_eqIntS.PO) (Glaws_toIntS : laws_toIntS.PI → Option laws_toIntS.PO) (Gspec_ListText : spec_ListText.PI → Option spec_ListText.PO) (x0 : List Int) : Option PO :=
  bif decide ((x0.length : Int) > 1048576) then
    some (true, ())
  else
    Option.bind (Glaws_toIntS (x0, ())) fun y0 =>
    Option.bind (Gspec_ListText (y0.1, ())) fun y1 =>
    Option.bind (Glaws_toIntS (x0, ())) fun y2 =>
    Option.bind (Gimpl_ListText (y2.1, ())) fun y3 =>
    bif !(y3.1 == y1.1) then
      some (false, ())
    else
      Option.bind (Glaws_toIntS (x0, ())) fun y4 =>
      Option.bind (Glaws_eqIntS (y2.1, y4.1, ())) fun y5 =>
      bif !y5.1 then
        some (false, ())
      else
        some (true, ())
noncomputable def hd {R : Type} (Gimpl_ListText : impl_ListText.PI → Option impl_ListText.PO) (Glaws_eqIntS : laws_eqIntS.PI → Option laws_eqIntS.PO) (Glaws_toIntS : laws_toIntS.PI → Option laws_toIntS.PO) (Gspec_ListText : spec_ListText.PI → Option spec_ListText.PO) : Hand R := (handAt 7 [22] true ⟨2, 1, 2, laws_eqIntS.pin, laws_eqIntS.pout, Glaws_eqIntS⟩ (handAt 6 [15] true ⟨1, 1, 1, impl_ListText.pin, impl_ListText.pout, Gimpl_ListText⟩ (handAt 5 [10, 13, 21] true ⟨1, 1, 1, laws_toIntS.pin, laws_toIntS.pout, Glaws_toIntS⟩ (handAt 4 [11] true ⟨1, 1, 1, spec_ListText.pin, spec_ListText.pout, Gspec_ListText⟩ handNil))))
noncomputable def pg (Gimpl_ListText : impl_ListText.PI → Option impl_ListText.PO) (Glaws_eqIntS : laws_eqIntS.PI → Option laws_eqIntS.PO) (Glaws_toIntS : laws_toIntS.PI → Option laws_toIntS.PO) (Gspec_ListText : spec_ListText.PI → Option spec_ListText.PO) : Prog PO := { nt := 24, np := 1, tb := tabOf tab, hd := hd Gimpl_ListText Glaws_eqIntS Glaws_toIntS Gspec_ListText, cuts := cutsOf [], fin := endOf (tabOf tab) rs 1 pout }
theorem seg0 (Gimpl_ListText : impl_ListText.PI → Option impl_ListText.PO) (Glaws_eqIntS : laws_eqIntS.PI → Option laws_eqIntS.PO) (Glaws_toIntS : laws_toIntS.PI → Option laws_toIntS.PO) (Gspec_ListText : spec_ListText.PI → Option spec_ListText.PO) (x0 : List Int) : arun (pg Gimpl_ListText Glaws_eqIntS Glaws_toIntS Gspec_ListText) 5000 [.code c0] (mk pin (x0, ())) = F0 Gimpl_ListText Glaws_eqIntS Glaws_toIntS Gspec_ListText x0 := by kernel_rfl
noncomputable def impl : PI → Option PO := fun x => F0 impl_ListText.impl laws_eqIntS.impl laws_toIntS.impl spec_ListText.impl x.1
theorem impl_eq (x0 : List Int) : impl (x0, ()) = F0 impl_ListText.impl laws_eqIntS.impl laws_toIntS.impl spec_ListText.impl x0 := rfl
theorem con : Con Tryd.prog 3 1 rs.length 1 pin pout impl := by
  refine con_of_run' (nt := 24) (c := c0) tabGood Tryd.func3 (by kernel_rfl) (by kernel_rfl) (by kernel_rfl) (by kernel_rfl) (by kernel_rfl) (by kernel_rfl) (by kernel_rfl) ?_
  intro w0 O y hnp
  generalize hPost : (fun (a' : Act) (w' : World) => ∃ μ' S' st', Rel 24 w0 O μ' S' st' a' w' ∧ endOf (tabOf tab) rs 1 pout st' = some y) = Post
  have fin : ∀ (μ : Id → Option Value) (S : Nat → Prop) (st : St) (a : Act) (w : World), Rel 24 w0 O μ S st a w → endOf (tabOf tab) rs 1 pout st = some y → Post a w := fun μ S st a w h he => by rw [← hPost]; exact ⟨μ, S, st, h, he⟩
  have hp : Parts Tryd.prog 3 (pg impl_ListText.impl laws_eqIntS.impl laws_toIntS.impl spec_ListText.impl) [] := ⟨tab_ok tabGood rfl, (handAt_ok laws_eqIntS.con (handAt_ok impl_ListText.con (handAt_ok laws_toIntS.con (handAt_ok spec_ListText.con handNil_ok)))), rfl⟩
  exact good_first (hp) (runOK_of (hp) hnp trivial fin) (fun x => (seg0 impl_ListText.impl laws_eqIntS.impl laws_toIntS.impl spec_ListText.impl x.1))
end laws_FnExactListText
end Go.Proofs.YtgagmcbeobkfoaaDoorB
