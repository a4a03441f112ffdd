/- PRINTED BY A PROGRAM OF THIS CLAIM'S AUTHOR (wip/gen): functions of the given program, their parts, their contracts. -/
import Derived.Test.YtambmmpilakgoaaDoorKFnExactModelValida
set_option linter.unusedVariables false
set_option maxRecDepth 100000
namespace Go.Proofs.YtambmmpilakgoaaDoorB
open Go

/-! ### slices.Index[[]string,string] -/
namespace slices_Index_of
noncomputable abbrev c0 : Code := (Tryd.f105.body).getD .skip
noncomputable abbrev pin : Tpl := ⟨[⟨0, false, [.d (.sl .str)]⟩, ⟨1, false, [.d .str]⟩], []⟩
noncomputable abbrev pout : Tpl := ⟨[⟨0, false, [.d (.int .i64)]⟩], []⟩
noncomputable abbrev p2 : Tpl := ⟨[⟨0, false, [.d (.sl .str)]⟩, ⟨1, false, [.d .str]⟩, ⟨7, false, [.d (.int .i64)]⟩, ⟨8, false, [.d (.int .i64)]⟩], []⟩
noncomputable def T2 : List Item := (find 2 c0 []).getD []
noncomputable abbrev PI := (List (List UInt8)) × (List UInt8) × Unit
noncomputable abbrev PO := Int × Unit
noncomputable abbrev P2 := (List (List UInt8)) × (List UInt8) × Int × Int × Unit
noncomputable abbrev rs : List ResultVar := [.tmp 4]
noncomputable def F0 (J2 : P2 → Option PO) (x0 : List (List UInt8)) (x1 : List UInt8) : Option PO :=
  J2 (x0, x1, (x0.length : Int), 0, ())
noncomputable def F2 (J2 : P2 → Option PO) (t0 : List (List UInt8)) (t1 : List UInt8) (t7 : Int) (t8 : Int) : Option PO :=
  bif decide (t8 < t7) then
    bif inb t8 t0.length then
      bif t1 == (t0.getD t8.toNat []) then
        some (t8, ())
      else
        J2 (t0, t1, t7, wI (t8 + 1), ())
    else
      none
  else
    some ((-1), ())
noncomputable def hd {R : Type} : Hand R := handNil
noncomputable def pg (J2 : List Item → P2 → Option PO) : Prog PO := { nt := 19, np := 2, tb := tabOf tab, hd := hd, cuts := cutsOf [(2, cut p2 J2)], fin := endOf (tabOf tab) rs 2 pout }
noncomputable def q : FuncId → Bool := fun f => hasId [] f
theorem seg0 (J2 : List Item → P2 → Option PO) (x0 : List (List UInt8)) (x1 : List UInt8) : arun (pg J2) 5000 [.code c0] (mk pin (x0, x1, ())) = F0 (J2 T2) x0 x1 := by kernel_rfl
theorem seg2 (J2 : List Item → P2 → Option PO) (t0 : List (List UInt8)) (t1 : List UInt8) (t7 : Int) (t8 : Int) : arun1 (pg J2) 5000 T2 (mk p2 (t0, t1, t7, t8, ())) = F2 (J2 T2) t0 t1 t7 t8 := by kernel_rfl
noncomputable def L2 : P2 → Option PO := lfp fun J2 x => F2 J2 x.1 x.2.1 x.2.2.1 x.2.2.2.1
noncomputable def impl : PI → Option PO := fun x => F0 L2 x.1 x.2.1
theorem F2_le {J2 J2' : P2 → Option PO} (h2 : OLe J2 J2') (t0 : List (List UInt8)) (t1 : List UInt8) (t7 : Int) (t8 : Int) : OptLe (F2 J2 t0 t1 t7 t8) (F2 J2' t0 t1 t7 t8) := by unfold F2; exact .cond (.cond (.cond (.refl _) (.of h2 _)) (.refl _)) (.refl _)
theorem L2_mono : OMono fun J2 (x : P2) => F2 J2 x.1 x.2.1 x.2.2.1 x.2.2.2.1 := fun J J' h2 x => F2_le h2 x.1 x.2.1 x.2.2.1 x.2.2.2.1
theorem L2_eq (t0 : List (List UInt8)) (t1 : List UInt8) (t7 : Int) (t8 : Int) : L2 (t0, t1, t7, t8, ()) = F2 (L2) t0 t1 t7 t8 := congrFun (lfp_eq (L2_mono)) _
theorem impl_eq (x0 : List (List UInt8)) (x1 : List UInt8) : impl (x0, x1, ()) = F0 L2 x0 x1 := rfl
theorem con : Con Tryd.prog 105 2 rs.length 2 pin pout impl := by
  refine con_of_run' (nt := 19) (c := c0) tabGood Tryd.func105 (by kernel_rfl) (by kernel_rfl) (by kernel_rfl) (by kernel_rfl) (by kernel_rfl) (by kernel_rfl) (by kernel_rfl) ?_
  intro w0 O y hnp
  generalize hPost : (fun (a' : Act) (w' : World) => ∃ μ' S' st', Rel 19 w0 O μ' S' st' a' w' ∧ endOf (tabOf tab) rs 2 pout st' = some y) = Post
  have fin : ∀ (μ : Id → Option Value) (S : Nat → Prop) (st : St) (a : Act) (w : World), Rel 19 w0 O μ S st a w → endOf (tabOf tab) rs 2 pout st = some y → Post a w := fun μ S st a w h he => by rw [← hPost]; exact ⟨μ, S, st, h, he⟩
  have hp : ∀ (J2 : List Item → P2 → Option PO), Parts Tryd.prog 105 (pg J2) [(2, cut p2 J2)] := fun J2 => ⟨tab_ok tabGood rfl, handNil_ok, rfl⟩
  have g2 : Good Tryd.prog 19 w0 O Post y T2 p2 L2 := good_lfp fun J2 h2 => good_part (hp (atT T2 J2)) (runOK_of (hp (atT T2 J2)) hnp ⟨cutOK_at h2, trivial⟩ fin) (fun x => (seg2 (atT T2 J2) x.1 x.2.1 x.2.2.1 x.2.2.2.1).trans (by simp only [atT_self] <;> rfl))
  exact good_first (hp (atT T2 L2)) (runOK_of (hp (atT T2 L2)) hnp ⟨cutOK_at g2, trivial⟩ fin) (fun x => (seg0 (atT T2 L2) x.1 x.2.1).trans (by simp only [atT_self] <;> rfl))
end slices_Index_of

/-! ### slices.Contains[[]string,string] -/
namespace slices_Contains_of
noncomputable abbrev c0 : Code := (Tryd.f52.body).getD .skip
noncomputable abbrev pin : Tpl := ⟨[⟨0, false, [.d (.sl .str)]⟩, ⟨1, false, [.d .str]⟩], []⟩
noncomputable abbrev pout : Tpl := ⟨[⟨0, false, [.d .bool]⟩], []⟩
noncomputable abbrev PI := (List (List UInt8)) × (List UInt8) × Unit
noncomputable abbrev PO := Bool × Unit
noncomputable abbrev rs : List ResultVar := [.tmp 4]
noncomputable def F0 (Gslices_Index_of : slices_Index_of.PI → Option slices_Index_of.PO) (x0 : List (List UInt8)) (x1 : List UInt8) : Option PO :=
  Option.bind (Gslices_Index_of (x0, x1, ())) fun y0 =>
  some (decide (y0.1 ≥ 0), ())
noncomputable def hd {R : Type} (Gslices_Index_of : slices_Index_of.PI → Option slices_Index_of.PO) : Hand R := (handAt 105 [7] true ⟨2, 1, 2, slices_Index_of.pin, slices_Index_of.pout, Gslices_Index_of⟩ handNil)
noncomputable def pg (Gslices_Index_of : slices_Index_of.PI → Option slices_Index_of.PO) : Prog PO := { nt := 9, np := 2, tb := tabOf tab, hd := hd Gslices_Index_of, cuts := cutsOf [], fin := endOf (tabOf tab) rs 2 pout }
noncomputable def q : FuncId → Bool := fun f => hasId [105] f
theorem seg0 (Gslices_Index_of : slices_Index_of.PI → Option slices_Index_of.PO) (x0 : List (List UInt8)) (x1 : List UInt8) : arun (pg Gslices_Index_of) 5000 [.code c0] (mk pin (x0, x1, ())) = F0 Gslices_Index_of x0 x1 := by kernel_rfl
noncomputable def impl : PI → Option PO := fun x => F0 slices_Index_of.impl x.1 x.2.1
theorem impl_eq (x0 : List (List UInt8)) (x1 : List UInt8) : impl (x0, x1, ()) = F0 slices_Index_of.impl x0 x1 := rfl
theorem con : Con Tryd.prog 52 2 rs.length 2 pin pout impl := by
  refine con_of_run' (nt := 9) (c := c0) tabGood Tryd.func52 (by kernel_rfl) (by kernel_rfl) (by kernel_rfl) (by kernel_rfl) (by kernel_rfl) (by kernel_rfl) (by kernel_rfl) ?_
  intro w0 O y hnp
  generalize hPost : (fun (a' : Act) (w' : World) => ∃ μ' S' st', Rel 9 w0 O μ' S' st' a' w' ∧ endOf (tabOf tab) rs 2 pout st' = some y) = Post
  have fin : ∀ (μ : Id → Option Value) (S : Nat → Prop) (st : St) (a : Act) (w : World), Rel 9 w0 O μ S st a w → endOf (tabOf tab) rs 2 pout st = some y → Post a w := fun μ S st a w h he => by rw [← hPost]; exact ⟨μ, S, st, h, he⟩
  have hp : Parts Tryd.prog 52 (pg slices_Index_of.impl) [] := ⟨tab_ok tabGood rfl, (handAt_ok slices_Index_of.con handNil_ok), rfl⟩
  exact good_first (hp) (runOK_of (hp) hnp trivial fin) (fun x => (seg0 slices_Index_of.impl x.1 x.2.1))
end slices_Contains_of

/-! ### loop.example/wholecheck/impl.NamesValid -/
namespace impl_NamesValid
noncomputable abbrev c0 : Code := (Tryd.f14.body).getD .skip
noncomputable abbrev pin : Tpl := ⟨[⟨0, false, [.d (.sl .str)]⟩], []⟩
noncomputable abbrev pout : Tpl := ⟨[⟨0, false, [.d .bool]⟩], []⟩
noncomputable abbrev p4 : Tpl := ⟨[⟨0, false, [.d (.sl .str)]⟩, ⟨8, false, [.d (.sl .str)]⟩, ⟨9, false, [.d (.int .i64)]⟩, ⟨10, false, [.d (.int .i64)]⟩], []⟩
noncomputable def T4 : List Item := (find 4 c0 []).getD []
noncomputable abbrev PI := (List (List UInt8)) × Unit
noncomputable abbrev PO := Bool × Unit
noncomputable abbrev P4 := (List (List UInt8)) × (List (List UInt8)) × Int × Int × Unit
noncomputable abbrev rs : List ResultVar := [.tmp 2]
noncomputable def F0 (J4 : P4 → Option PO) (x0 : List (List UInt8)) : Option PO :=
  bif decide ((x0.length : Int) > 5) then
    some (false, ())
  else
    J4 (x0, x0, (x0.length : Int), 0, ())
noncomputable def F4 (J4 : P4 → Option PO) (Gimpl_nameOk : impl_nameOk.PI → Option impl_nameOk.PO) (Gslices_Contains_of : slices_Contains_of.PI → Option slices_Contains_of.PO) (t0 : List (List UInt8)) (t8 : List (List UInt8)) (t9 : Int) (t10 : Int) : Option PO :=
  bif decide (t10 < t9) then
    bif inb t10 t8.length then
      Option.bind (Gimpl_nameOk (t8.getD t10.toNat [], ())) fun y0 =>
      bif !y0.1 then
        some (false, ())
      else
        bif decide (0 ≤ t10) && decide (t10 ≤ (t0.length : Int)) then
          Option.bind (Gslices_Contains_of ((t0.take t10.toNat).drop 0, t8.getD t10.toNat [], ())) fun y1 =>
          bif y1.1 then
            some (false, ())
          else
            J4 (t0, t8, t9, wI (t10 + 1), ())
        else
          none
    else
      none
  else
    some (true, ())
noncomputable def hd {R : Type} (Gimpl_nameOk : impl_nameOk.PI → Option impl_nameOk.PO) (Gslices_Contains_of : slices_Contains_of.PI → Option slices_Contains_of.PO) : Hand R := (handAt 52 [23] true ⟨2, 1, 2, slices_Contains_of.pin, slices_Contains_of.pout, Gslices_Contains_of⟩ (handAt 51 [16] true ⟨1, 1, 1, impl_nameOk.pin, impl_nameOk.pout, Gimpl_nameOk⟩ handNil))
noncomputable def pg (Gimpl_nameOk : impl_nameOk.PI → Option impl_nameOk.PO) (Gslices_Contains_of : slices_Contains_of.PI → Option slices_Contains_of.PO) (J4 : List Item → P4 → Option PO) : Prog PO := { nt := 26, np := 1, tb := tabOf tab, hd := hd Gimpl_nameOk Gslices_Contains_of, cuts := cutsOf [(4, cut p4 J4)], fin := endOf (tabOf tab) rs 1 pout }
noncomputable def q : FuncId → Bool := fun f => hasId [51, 52] f
theorem seg0 (Gimpl_nameOk : impl_nameOk.PI → Option impl_nameOk.PO) (Gslices_Contains_of : slices_Contains_of.PI → Option slices_Contains_of.PO) (J4 : List Item → P4 → Option PO) (x0 : List (List UInt8)) : arun (pg Gimpl_nameOk Gslices_Contains_of J4) 5000 [.code c0] (mk pin (x0, ())) = F0 (J4 T4) x0 := by kernel_rfl
theorem seg4 (Gimpl_nameOk : impl_nameOk.PI → Option impl_nameOk.PO) (Gslices_Contains_of : slices_Contains_of.PI → Option slices_Contains_of.PO) (J4 : List Item → P4 → Option PO) (t0 : List (List UInt8)) (t8 : List (List UInt8)) (t9 : Int) (t10 : Int) : arun1 (pg Gimpl_nameOk Gslices_Contains_of J4) 5000 T4 (mk p4 (t0, t8, t9, t10, ())) = F4 (J4 T4) Gimpl_nameOk Gslices_Contains_of t0 t8 t9 t10 := by kernel_rfl
noncomputable def L4 : P4 → Option PO := lfp fun J4 x => F4 J4 impl_nameOk.impl slices_Contains_of.impl x.1 x.2.1 x.2.2.1 x.2.2.2.1
noncomputable def impl : PI → Option PO := fun x => F0 L4 x.1
theorem F4_le {J4 J4' : P4 → Option PO} (h4 : OLe J4 J4') {Gimpl_nameOk : impl_nameOk.PI → Option impl_nameOk.PO} {Gslices_Contains_of : slices_Contains_of.PI → Option slices_Contains_of.PO} (t0 : List (List UInt8)) (t8 : List (List UInt8)) (t9 : Int) (t10 : Int) : OptLe (F4 J4 Gimpl_nameOk Gslices_Contains_of t0 t8 t9 t10) (F4 J4' Gimpl_nameOk Gslices_Contains_of t0 t8 t9 t10) := by unfold F4; exact .cond (.cond (.bind (.refl _) fun _ => .cond (.refl _) (.cond (.bind (.refl _) fun _ => .cond (.refl _) (.of h4 _)) (.refl _))) (.refl _)) (.refl _)
theorem L4_mono : OMono fun J4 (x : P4) => F4 J4 impl_nameOk.impl slices_Contains_of.impl x.1 x.2.1 x.2.2.1 x.2.2.2.1 := fun J J' h4 x => F4_le h4 x.1 x.2.1 x.2.2.1 x.2.2.2.1
theorem L4_eq (t0 : List (List UInt8)) (t8 : List (List UInt8)) (t9 : Int) (t10 : Int) : L4 (t0, t8, t9, t10, ()) = F4 (L4) impl_nameOk.impl slices_Contains_of.impl t0 t8 t9 t10 := congrFun (lfp_eq (L4_mono)) _
theorem impl_eq (x0 : List (List UInt8)) : impl (x0, ()) = F0 L4 x0 := rfl
theorem con : Con Tryd.prog 14 1 rs.length 1 pin pout impl := by
  refine con_of_run' (nt := 26) (c := c0) tabGood Tryd.func14 (by kernel_rfl) (by kernel_rfl) (by kernel_rfl) (by kernel_rfl) (by kernel_rfl) (by kernel_rfl) (by kernel_rfl) ?_
  intro w0 O y hnp
  generalize hPost : (fun (a' : Act) (w' : World) => ∃ μ' S' st', Rel 26 w0 O μ' S' st' a' w' ∧ endOf (tabOf tab) rs 1 pout st' = some y) = Post
  have fin : ∀ (μ : Id → Option Value) (S : Nat → Prop) (st : St) (a : Act) (w : World), Rel 26 w0 O μ S st a w → endOf (tabOf tab) rs 1 pout st = some y → Post a w := fun μ S st a w h he => by rw [← hPost]; exact ⟨μ, S, st, h, he⟩
  have hp : ∀ (J4 : List Item → P4 → Option PO), Parts Tryd.prog 14 (pg impl_nameOk.impl slices_Contains_of.impl J4) [(4, cut p4 J4)] := fun J4 => ⟨tab_ok tabGood rfl, (handAt_ok slices_Contains_of.con (handAt_ok impl_nameOk.con handNil_ok)), rfl⟩
  have g4 : Good Tryd.prog 26 w0 O Post y T4 p4 L4 := good_lfp fun J4 h4 => good_part (hp (atT T4 J4)) (runOK_of (hp (atT T4 J4)) hnp ⟨cutOK_at h4, trivial⟩ fin) (fun x => (seg4 impl_nameOk.impl slices_Contains_of.impl (atT T4 J4) x.1 x.2.1 x.2.2.1 x.2.2.2.1).trans (by simp only [atT_self] <;> rfl))
  exact good_first (hp (atT T4 L4)) (runOK_of (hp (atT T4 L4)) hnp ⟨cutOK_at g4, trivial⟩ fin) (fun x => (seg0 impl_nameOk.impl slices_Contains_of.impl (atT T4 L4) x.1).trans (by simp only [atT_self] <;> rfl))
end impl_NamesValid

/-! ### loop.example/wholecheck/impl.ModelValid$1 -/
namespace impl_ModelValid_1
noncomputable abbrev c0 : Code := (Tryd.f90.body).getD .skip
noncomputable abbrev pin : Tpl := ⟨[⟨0, false, [.d (.sl (.prod (.int .i64) (.prod (.int .i64) (.prod (.int .i64) (.last (.int .i64))))))]⟩, ⟨1, false, [.ptr 500001 0]⟩], [(500001, .box [.d (.sl .str), .d (.sl (.prod (.int .i64) (.prod (.int .i64) (.last (.int .i64))))), .d (.sl (.prod (.sl (.prod (.int .i64) (.prod (.int .i64) (.prod (.int .i64) (.last (.int .i64)))))) (.prod (.sl (.int .i64)) (.last (.sl (.sl (.prod (.int .i64) (.prod (.int .i64) (.prod (.int .i64) (.last (.int .i64))))))))))), .d (.sl (.sl (.prod (.int .i64) (.prod (.int .i64) (.prod (.int .i64) (.last (.int .i64)))))))])]⟩
noncomputable abbrev pout : Tpl := ⟨[⟨0, false, [.d .bool]⟩, ⟨2, false, [.ptr 500001 0]⟩], [(500001, .box [.d (.sl .str), .d (.sl (.prod (.int .i64) (.prod (.int .i64) (.last (.int .i64))))), .d (.sl (.prod (.sl (.prod (.int .i64) (.prod (.int .i64) (.prod (.int .i64) (.last (.int .i64)))))) (.prod (.sl (.int .i64)) (.last (.sl (.sl (.prod (.int .i64) (.prod (.int .i64) (.prod (.int .i64) (.last (.int .i64))))))))))), .d (.sl (.sl (.prod (.int .i64) (.prod (.int .i64) (.prod (.int .i64) (.last (.int .i64)))))))])]⟩
noncomputable abbrev PI := (List (Int × Int × Int × Int)) × (List (List UInt8)) × (List (Int × Int × Int)) × (List ((List (Int × Int × Int × Int)) × (List Int) × List (List (Int × Int × Int × Int)))) × (List (List (Int × Int × Int × Int))) × Unit
noncomputable abbrev PO := Bool × (List (List UInt8)) × (List (Int × Int × Int)) × (List ((List (Int × Int × Int × Int)) × (List Int) × List (List (Int × Int × Int × Int)))) × (List (List (Int × Int × Int × Int))) × Unit
noncomputable abbrev rs : List ResultVar := [.tmp 3]
noncomputable def F0 (Gimpl_kindOf : impl_kindOf.PI → Option impl_kindOf.PO) (x0 : List (Int × Int × Int × Int)) (c1_0 : List (List UInt8)) (c1_1 : List (Int × Int × Int)) (c1_2 : List ((List (Int × Int × Int × Int)) × (List Int) × List (List (Int × Int × Int × Int)))) (c1_3 : List (List (Int × Int × Int × Int))) : Option PO :=
  Option.bind (Gimpl_kindOf (x0, (c1_0.length : Int), ())) fun y0 =>
  some (y0.1 != 2, c1_0, c1_1, c1_2, c1_3, ())
noncomputable def hd {R : Type} (Gimpl_kindOf : impl_kindOf.PI → Option impl_kindOf.PO) : Hand R := (handAt 91 [8] true ⟨2, 1, 2, impl_kindOf.pin, impl_kindOf.pout, Gimpl_kindOf⟩ handNil)
noncomputable def pg (Gimpl_kindOf : impl_kindOf.PI → Option impl_kindOf.PO) : Prog PO := { nt := 10, np := 2, tb := tabOf tab, hd := hd Gimpl_kindOf, cuts := cutsOf [], fin := endOf (tabOf tab) rs 2 pout }
noncomputable def q : FuncId → Bool := fun f => hasId [91] f
theorem seg0 (Gimpl_kindOf : impl_kindOf.PI → Option impl_kindOf.PO) (x0 : List (Int × Int × Int × Int)) (c1_0 : List (List UInt8)) (c1_1 : List (Int × Int × Int)) (c1_2 : List ((List (Int × Int × Int × Int)) × (List Int) × List (List (Int × Int × Int × Int)))) (c1_3 : List (List (Int × Int × Int × Int))) : arun (pg Gimpl_kindOf) 5000 [.code c0] (mk pin (x0, c1_0, c1_1, c1_2, c1_3, ())) = F0 Gimpl_kindOf x0 c1_0 c1_1 c1_2 c1_3 := by kernel_rfl
noncomputable def impl : PI → Option PO := fun x => F0 impl_kindOf.impl x.1 x.2.1 x.2.2.1 x.2.2.2.1 x.2.2.2.2.1
theorem impl_eq (x0 : List (Int × Int × Int × Int)) (c1_0 : List (List UInt8)) (c1_1 : List (Int × Int × Int)) (c1_2 : List ((List (Int × Int × Int × Int)) × (List Int) × List (List (Int × Int × Int × Int)))) (c1_3 : List (List (Int × Int × Int × Int))) : impl (x0, c1_0, c1_1, c1_2, c1_3, ()) = F0 impl_kindOf.impl x0 c1_0 c1_1 c1_2 c1_3 := rfl
theorem con : Con Tryd.prog 90 2 rs.length 2 pin pout impl := by
  refine con_of_run' (nt := 10) (c := c0) tabGood Tryd.func90 (by kernel_rfl) (by kernel_rfl) (by kernel_rfl) (by kernel_rfl) (by kernel_rfl) (by kernel_rfl) (by kernel_rfl) ?_
  intro w0 O y hnp
  generalize hPost : (fun (a' : Act) (w' : World) => ∃ μ' S' st', Rel 10 w0 O μ' S' st' a' w' ∧ endOf (tabOf tab) rs 2 pout st' = some y) = Post
  have fin : ∀ (μ : Id → Option Value) (S : Nat → Prop) (st : St) (a : Act) (w : World), Rel 10 w0 O μ S st a w → endOf (tabOf tab) rs 2 pout st = some y → Post a w := fun μ S st a w h he => by rw [← hPost]; exact ⟨μ, S, st, h, he⟩
  have hp : Parts Tryd.prog 90 (pg impl_kindOf.impl) [] := ⟨tab_ok tabGood rfl, (handAt_ok impl_kindOf.con handNil_ok), rfl⟩
  exact good_first (hp) (runOK_of (hp) hnp trivial fin) (fun x => (seg0 impl_kindOf.impl x.1 x.2.1 x.2.2.1 x.2.2.2.1 x.2.2.2.2.1))
end impl_ModelValid_1

/-! ### slices.IndexFunc[[][]loop.example/wholecheck/impl.Term,[]loop.example/wholecheck/impl.Term] -/
namespace slices_IndexFunc_of_2
noncomputable abbrev c0 : Code := (Tryd.f137.body).getD .skip
noncomputable abbrev pin : Tpl := ⟨[⟨0, false, [.d (.sl (.sl (.prod (.int .i64) (.prod (.int .i64) (.prod (.int .i64) (.last (.int .i64)))))))]⟩, ⟨1, false, [.fn 90 [(500001, 0)]]⟩], [(500001, .box [.d (.sl .str), .d (.sl (.prod (.int .i64) (.prod (.int .i64) (.last (.int .i64))))), .d (.sl (.prod (.sl (.prod (.int .i64) (.prod (.int .i64) (.prod (.int .i64) (.last (.int .i64)))))) (.prod (.sl (.int .i64)) (.last (.sl (.sl (.prod (.int .i64) (.prod (.int .i64) (.prod (.int .i64) (.last (.int .i64))))))))))), .d (.sl (.sl (.prod (.int .i64) (.prod (.int .i64) (.prod (.int .i64) (.last (.int .i64)))))))])]⟩
noncomputable abbrev pout : Tpl := ⟨[⟨0, false, [.d (.int .i64)]⟩, ⟨2, false, [.fn 90 [(500001, 0)]]⟩], [(500001, .box [.d (.sl .str), .d (.sl (.prod (.int .i64) (.prod (.int .i64) (.last (.int .i64))))), .d (.sl (.prod (.sl (.prod (.int .i64) (.prod (.int .i64) (.prod (.int .i64) (.last (.int .i64)))))) (.prod (.sl (.int .i64)) (.last (.sl (.sl (.prod (.int .i64) (.prod (.int .i64) (.prod (.int .i64) (.last (.int .i64))))))))))), .d (.sl (.sl (.prod (.int .i64) (.prod (.int .i64) (.prod (.int .i64) (.last (.int .i64)))))))])]⟩
noncomputable abbrev p2 : Tpl := ⟨[⟨0, false, [.d (.sl (.sl (.prod (.int .i64) (.prod (.int .i64) (.prod (.int .i64) (.last (.int .i64)))))))]⟩, ⟨1, false, [.fn 90 [(500001, 0)]]⟩, ⟨7, false, [.d (.int .i64)]⟩, ⟨8, false, [.d (.int .i64)]⟩], [(500001, .box [.d (.sl .str), .d (.sl (.prod (.int .i64) (.prod (.int .i64) (.last (.int .i64))))), .d (.sl (.prod (.sl (.prod (.int .i64) (.prod (.int .i64) (.prod (.int .i64) (.last (.int .i64)))))) (.prod (.sl (.int .i64)) (.last (.sl (.sl (.prod (.int .i64) (.prod (.int .i64) (.prod (.int .i64) (.last (.int .i64))))))))))), .d (.sl (.sl (.prod (.int .i64) (.prod (.int .i64) (.prod (.int .i64) (.last (.int .i64)))))))])]⟩
noncomputable def T2 : List Item := (find 2 c0 []).getD []
noncomputable abbrev PI := (List (List (Int × Int × Int × Int))) × (List (List UInt8)) × (List (Int × Int × Int)) × (List ((List (Int × Int × Int × Int)) × (List Int) × List (List (Int × Int × Int × Int)))) × (List (List (Int × Int × Int × Int))) × Unit
noncomputable abbrev PO := Int × (List (List UInt8)) × (List (Int × Int × Int)) × (List ((List (Int × Int × Int × Int)) × (List Int) × List (List (Int × Int × Int × Int)))) × (List (List (Int × Int × Int × Int))) × Unit
noncomputable abbrev P2 := (List (List (Int × Int × Int × Int))) × Int × Int × (List (List UInt8)) × (List (Int × Int × Int)) × (List ((List (Int × Int × Int × Int)) × (List Int) × List (List (Int × Int × Int × Int)))) × (List (List (Int × Int × Int × Int))) × Unit
noncomputable abbrev rs : List ResultVar := [.tmp 4]
noncomputable def F0 (J2 : P2 → Option PO) (x0 : List (List (Int × Int × Int × Int))) (c1_0 : List (List UInt8)) (c1_1 : List (Int × Int × Int)) (c1_2 : List ((List (Int × Int × Int × Int)) × (List Int) × List (List (Int × Int × Int × Int)))) (c1_3 : List (List (Int × Int × Int × Int))) : Option PO :=
  J2 (x0, (x0.length : Int), 0, c1_0, c1_1, c1_2, c1_3, ())
noncomputable def F2 (J2 : P2 → Option PO) (Gimpl_ModelValid_1 : impl_ModelValid_1.PI → Option impl_ModelValid_1.PO) (t0 : List (List (Int × Int × Int × Int))) (t7 : Int) (t8 : Int) (c1_0 : List (List UInt8)) (c1_1 : List (Int × Int × Int)) (c1_2 : List ((List (Int × Int × Int × Int)) × (List Int) × List (List (Int × Int × Int × Int)))) (c1_3 : List (List (Int × Int × Int × Int))) : Option PO :=
  bif decide (t8 < t7) then
    bif inb t8 t0.length then
      Option.bind (Gimpl_ModelValid_1 (t0.getD t8.toNat [], c1_0, c1_1, c1_2, c1_3, ())) fun y0 =>
      bif y0.1 then
        some (t8, y0.2.1, y0.2.2.1, y0.2.2.2.1, y0.2.2.2.2.1, ())
      else
        J2 (t0, t7, wI (t8 + 1), y0.2.1, y0.2.2.1, y0.2.2.2.1, y0.2.2.2.2.1, ())
    else
      none
  else
    some ((-1), c1_0, c1_1, c1_2, c1_3, ())
noncomputable def hd {R : Type} (Gimpl_ModelValid_1 : impl_ModelValid_1.PI → Option impl_ModelValid_1.PO) : Hand R := (handAt 90 [16] false ⟨2, 1, 2, impl_ModelValid_1.pin, impl_ModelValid_1.pout, Gimpl_ModelValid_1⟩ handNil)
noncomputable def pg (Gimpl_ModelValid_1 : impl_ModelValid_1.PI → Option impl_ModelValid_1.PO) (J2 : List Item → P2 → Option PO) : Prog PO := { nt := 19, np := 2, tb := tabOf tab, hd := hd Gimpl_ModelValid_1, cuts := cutsOf [(2, cut p2 J2)], fin := endOf (tabOf tab) rs 2 pout }
noncomputable def q : FuncId → Bool := fun f => hasId [] f
theorem seg0 (Gimpl_ModelValid_1 : impl_ModelValid_1.PI → Option impl_ModelValid_1.PO) (J2 : List Item → P2 → Option PO) (x0 : List (List (Int × Int × Int × Int))) (c1_0 : List (List UInt8)) (c1_1 : List (Int × Int × Int)) (c1_2 : List ((List (Int × Int × Int × Int)) × (List Int) × List (List (Int × Int × Int × Int)))) (c1_3 : List (List (Int × Int × Int × Int))) : arun (pg Gimpl_ModelValid_1 J2) 5000 [.code c0] (mk pin (x0, c1_0, c1_1, c1_2, c1_3, ())) = F0 (J2 T2) x0 c1_0 c1_1 c1_2 c1_3 := by kernel_rfl
theorem seg2 (Gimpl_ModelValid_1 : impl_ModelValid_1.PI → Option impl_ModelValid_1.PO) (J2 : List Item → P2 → Option PO) (t0 : List (List (Int × Int × Int × Int))) (t7 : Int) (t8 : Int) (c1_0 : List (List UInt8)) (c1_1 : List (Int × Int × Int)) (c1_2 : List ((List (Int × Int × Int × Int)) × (List Int) × List (List (Int × Int × Int × Int)))) (c1_3 : List (List (Int × Int × Int × Int))) : arun1 (pg Gimpl_ModelValid_1 J2) 5000 T2 (mk p2 (t0, t7, t8, c1_0, c1_1, c1_2, c1_3, ())) = F2 (J2 T2) Gimpl_ModelValid_1 t0 t7 t8 c1_0 c1_1 c1_2 c1_3 := by kernel_rfl
noncomputable def L2 : P2 → Option PO := lfp fun J2 x => F2 J2 impl_ModelValid_1.impl x.1 x.2.1 x.2.2.1 x.2.2.2.1 x.2.2.2.2.1 x.2.2.2.2.2.1 x.2.2.2.2.2.2.1
noncomputable def impl : PI → Option PO := fun x => F0 L2 x.1 x.2.1 x.2.2.1 x.2.2.2.1 x.2.2.2.2.1
theorem F2_le {J2 J2' : P2 → Option PO} (h2 : OLe J2 J2') {Gimpl_ModelValid_1 : impl_ModelValid_1.PI → Option impl_ModelValid_1.PO} (t0 : List (List (Int × Int × Int × Int))) (t7 : Int) (t8 : Int) (c1_0 : List (List UInt8)) (c1_1 : List (Int × Int × Int)) (c1_2 : List ((List (Int × Int × Int × Int)) × (List Int) × List (List (Int × Int × Int × Int)))) (c1_3 : List (List (Int × Int × Int × Int))) : OptLe (F2 J2 Gimpl_ModelValid_1 t0 t7 t8 c1_0 c1_1 c1_2 c1_3) (F2 J2' Gimpl_ModelValid_1 t0 t7 t8 c1_0 c1_1 c1_2 c1_3) := by unfold F2; exact .cond (.cond (.bind (.refl _) fun _ => .cond (.refl _) (.of h2 _)) (.refl _)) (.refl _)
theorem L2_mono : OMono fun J2 (x : P2) => F2 J2 impl_ModelValid_1.impl x.1 x.2.1 x.2.2.1 x.2.2.2.1 x.2.2.2.2.1 x.2.2.2.2.2.1 x.2.2.2.2.2.2.1 := fun J J' h2 x => F2_le h2 x.1 x.2.1 x.2.2.1 x.2.2.2.1 x.2.2.2.2.1 x.2.2.2.2.2.1 x.2.2.2.2.2.2.1
theorem L2_eq (t0 : List (List (Int × Int × Int × Int))) (t7 : Int) (t8 : Int) (c1_0 : List (List UInt8)) (c1_1 : List (Int × Int × Int)) (c1_2 : List ((List (Int × Int × Int × Int)) × (List Int) × List (List (Int × Int × Int × Int)))) (c1_3 : List (List (Int × Int × Int × Int))) : L2 (t0, t7, t8, c1_0, c1_1, c1_2, c1_3, ()) = F2 (L2) impl_ModelValid_1.impl t0 t7 t8 c1_0 c1_1 c1_2 c1_3 := congrFun (lfp_eq (L2_mono)) _
theorem impl_eq (x0 : List (List (Int × Int × Int × Int))) (c1_0 : List (List UInt8)) (c1_1 : List (Int × Int × Int)) (c1_2 : List ((List (Int × Int × Int × Int)) × (List Int) × List (List (Int × Int × Int × Int)))) (c1_3 : List (List (Int × Int × Int × Int))) : impl (x0, c1_0, c1_1, c1_2, c1_3, ()) = F0 L2 x0 c1_0 c1_1 c1_2 c1_3 := rfl
theorem con : Con Tryd.prog 137 2 rs.length 2 pin pout impl := by
  refine con_of_run' (nt := 19) (c := c0) tabGood Tryd.func137 (by kernel_rfl) (by kernel_rfl) (by kernel_rfl) (by kernel_rfl) (by kernel_rfl) (by kernel_rfl) (by kernel_rfl) ?_
  intro w0 O y hnp
  generalize hPost : (fun (a' : Act) (w' : World) => ∃ μ' S' st', Rel 19 w0 O μ' S' st' a' w' ∧ endOf (tabOf tab) rs 2 pout st' = some y) = Post
  have fin : ∀ (μ : Id → Option Value) (S : Nat → Prop) (st : St) (a : Act) (w : World), Rel 19 w0 O μ S st a w → endOf (tabOf tab) rs 2 pout st = some y → Post a w := fun μ S st a w h he => by rw [← hPost]; exact ⟨μ, S, st, h, he⟩
  have hp : ∀ (J2 : List Item → P2 → Option PO), Parts Tryd.prog 137 (pg impl_ModelValid_1.impl J2) [(2, cut p2 J2)] := fun J2 => ⟨tab_ok tabGood rfl, (handAt_ok impl_ModelValid_1.con handNil_ok), rfl⟩
  have g2 : Good Tryd.prog 19 w0 O Post y T2 p2 L2 := good_lfp fun J2 h2 => good_part (hp (atT T2 J2)) (runOK_of (hp (atT T2 J2)) hnp ⟨cutOK_at h2, trivial⟩ fin) (fun x => (seg2 impl_ModelValid_1.impl (atT T2 J2) x.1 x.2.1 x.2.2.1 x.2.2.2.1 x.2.2.2.2.1 x.2.2.2.2.2.1 x.2.2.2.2.2.2.1).trans (by simp only [atT_self] <;> rfl))
  exact good_first (hp (atT T2 L2)) (runOK_of (hp (atT T2 L2)) hnp ⟨cutOK_at g2, trivial⟩ fin) (fun x => (seg0 impl_ModelValid_1.impl (atT T2 L2) x.1 x.2.1 x.2.2.1 x.2.2.2.1 x.2.2.2.2.1).trans (by simp only [atT_self] <;> rfl))
end slices_IndexFunc_of_2

/-! ### slices.ContainsFunc[[][]loop.example/wholecheck/impl.Term,[]loop.example/wholecheck/impl.Term] -/
namespace slices_ContainsFunc_of_2
noncomputable abbrev c0 : Code := (Tryd.f89.body).getD .skip
noncomputable abbrev pin : Tpl := ⟨[⟨0, false, [.d (.sl (.sl (.prod (.int .i64) (.prod (.int .i64) (.prod (.int .i64) (.last (.int .i64)))))))]⟩, ⟨1, false, [.fn 90 [(500001, 0)]]⟩], [(500001, .box [.d (.sl .str), .d (.sl (.prod (.int .i64) (.prod (.int .i64) (.last (.int .i64))))), .d (.sl (.prod (.sl (.prod (.int .i64) (.prod (.int .i64) (.prod (.int .i64) (.last (.int .i64)))))) (.prod (.sl (.int .i64)) (.last (.sl (.sl (.prod (.int .i64) (.prod (.int .i64) (.prod (.int .i64) (.last (.int .i64))))))))))), .d (.sl (.sl (.prod (.int .i64) (.prod (.int .i64) (.prod (.int .i64) (.last (.int .i64)))))))])]⟩
noncomputable abbrev pout : Tpl := ⟨[⟨0, false, [.d .bool]⟩, ⟨2, false, [.fn 90 [(500001, 0)]]⟩], [(500001, .box [.d (.sl .str), .d (.sl (.prod (.int .i64) (.prod (.int .i64) (.last (.int .i64))))), .d (.sl (.prod (.sl (.prod (.int .i64) (.prod (.int .i64) (.prod (.int .i64) (.last (.int .i64)))))) (.prod (.sl (.int .i64)) (.last (.sl (.sl (.prod (.int .i64) (.prod (.int .i64) (.prod (.int .i64) (.last (.int .i64))))))))))), .d (.sl (.sl (.prod (.int .i64) (.prod (.int .i64) (.prod (.int .i64) (.last (.int .i64)))))))])]⟩
noncomputable abbrev PI := (List (List (Int × Int × Int × Int))) × (List (List UInt8)) × (List (Int × Int × Int)) × (List ((List (Int × Int × Int × Int)) × (List Int) × List (List (Int × Int × Int × Int)))) × (List (List (Int × Int × Int × Int))) × Unit
noncomputable abbrev PO := Bool × (List (List UInt8)) × (List (Int × Int × Int)) × (List ((List (Int × Int × Int × Int)) × (List Int) × List (List (Int × Int × Int × Int)))) × (List (List (Int × Int × Int × Int))) × Unit
noncomputable abbrev rs : List ResultVar := [.tmp 4]
noncomputable def F0 (Gslices_IndexFunc_of_2 : slices_IndexFunc_of_2.PI → Option slices_IndexFunc_of_2.PO) (x0 : List (List (Int × Int × Int × Int))) (c1_0 : List (List UInt8)) (c1_1 : List (Int × Int × Int)) (c1_2 : List ((List (Int × Int × Int × Int)) × (List Int) × List (List (Int × Int × Int × Int)))) (c1_3 : List (List (Int × Int × Int × Int))) : Option PO :=
  Option.bind (Gslices_IndexFunc_of_2 (x0, c1_0, c1_1, c1_2, c1_3, ())) fun y0 =>
  some (decide (y0.1 ≥ 0), y0.2.1, y0.2.2.1, y0.2.2.2.1, y0.2.2.2.2.1, ())
noncomputable def hd {R : Type} (Gslices_IndexFunc_of_2 : slices_IndexFunc_of_2.PI → Option slices_IndexFunc_of_2.PO) : Hand R := (handAt 137 [7] false ⟨2, 1, 2, slices_IndexFunc_of_2.pin, slices_IndexFunc_of_2.pout, Gslices_IndexFunc_of_2⟩ handNil)
noncomputable def pg (Gslices_IndexFunc_of_2 : slices_IndexFunc_of_2.PI → Option slices_IndexFunc_of_2.PO) : Prog PO := { nt := 9, np := 2, tb := tabOf tab, hd := hd Gslices_IndexFunc_of_2, cuts := cutsOf [], fin := endOf (tabOf tab) rs 2 pout }
noncomputable def q : FuncId → Bool := fun f => hasId [] f
theorem seg0 (Gslices_IndexFunc_of_2 : slices_IndexFunc_of_2.PI → Option slices_IndexFunc_of_2.PO) (x0 : List (List (Int × Int × Int × Int))) (c1_0 : List (List UInt8)) (c1_1 : List (Int × Int × Int)) (c1_2 : List ((List (Int × Int × Int × Int)) × (List Int) × List (List (Int × Int × Int × Int)))) (c1_3 : List (List (Int × Int × Int × Int))) : arun (pg Gslices_IndexFunc_of_2) 5000 [.code c0] (mk pin (x0, c1_0, c1_1, c1_2, c1_3, ())) = F0 Gslices_IndexFunc_of_2 x0 c1_0 c1_1 c1_2 c1_3 := by kernel_rfl
noncomputable def impl : PI → Option PO := fun x => F0 slices_IndexFunc_of_2.impl x.1 x.2.1 x.2.2.1 x.2.2.2.1 x.2.2.2.2.1
theorem impl_eq (x0 : List (List (Int × Int × Int × Int))) (c1_0 : List (List UInt8)) (c1_1 : List (Int × Int × Int)) (c1_2 : List ((List (Int × Int × Int × Int)) × (List Int) × List (List (Int × Int × Int × Int)))) (c1_3 : List (List (Int × Int × Int × Int))) : impl (x0, c1_0, c1_1, c1_2, c1_3, ()) = F0 slices_IndexFunc_of_2.impl x0 c1_0 c1_1 c1_2 c1_3 := rfl
theorem con : Con Tryd.prog 89 2 rs.length 2 pin pout impl := by
  refine con_of_run' (nt := 9) (c := c0) tabGood Tryd.func89 (by kernel_rfl) (by kernel_rfl) (by kernel_rfl) (by kernel_rfl) (by kernel_rfl) (by kernel_rfl) (by kernel_rfl) ?_
  intro w0 O y hnp
  generalize hPost : (fun (a' : Act) (w' : World) => ∃ μ' S' st', Rel 9 w0 O μ' S' st' a' w' ∧ endOf (tabOf tab) rs 2 pout st' = some y) = Post
  have fin : ∀ (μ : Id → Option Value) (S : Nat → Prop) (st : St) (a : Act) (w : World), Rel 9 w0 O μ S st a w → endOf (tabOf tab) rs 2 pout st = some y → Post a w := fun μ S st a w h he => by rw [← hPost]; exact ⟨μ, S, st, h, he⟩
  have hp : Parts Tryd.prog 89 (pg slices_IndexFunc_of_2.impl) [] := ⟨tab_ok tabGood rfl, (handAt_ok slices_IndexFunc_of_2.con handNil_ok), rfl⟩
  exact good_first (hp) (runOK_of (hp) hnp trivial fin) (fun x => (seg0 slices_IndexFunc_of_2.impl x.1 x.2.1 x.2.2.1 x.2.2.2.1 x.2.2.2.2.1))
end slices_ContainsFunc_of_2

/-! ### loop.example/wholecheck/impl.ModelValid -/
namespace impl_ModelValid
noncomputable abbrev c0 : Code := (Tryd.f39.body).getD .skip
noncomputable abbrev pin : Tpl := ⟨[⟨0, true, [.d (.prod (.sl .str) (.prod (.prod (.sl (.prod (.int .i64) (.prod (.int .i64) (.last (.int .i64))))) (.last (.sl (.prod (.sl (.prod (.int .i64) (.prod (.int .i64) (.prod (.int .i64) (.last (.int .i64)))))) (.prod (.sl (.int .i64)) (.last (.sl (.sl (.prod (.int .i64) (.prod (.int .i64) (.prod (.int .i64) (.last (.int .i64))))))))))))) (.last (.sl (.sl (.prod (.int .i64) (.prod (.int .i64) (.prod (.int .i64) (.last (.int .i64))))))))))]⟩], []⟩
noncomputable abbrev pout : Tpl := ⟨[⟨0, false, [.d .bool]⟩], []⟩
noncomputable abbrev PI := ((List (List UInt8)) × ((List (Int × Int × Int)) × List ((List (Int × Int × Int × Int)) × (List Int) × List (List (Int × Int × Int × Int)))) × List (List (Int × Int × Int × Int))) × Unit
noncomputable abbrev PO := Bool × Unit
noncomputable abbrev rs : List ResultVar := [.tmp 2]
noncomputable def F0 (Gimpl_NamesValid : impl_NamesValid.PI → Option impl_NamesValid.PO) (Gimpl_SystemValid : impl_SystemValid.PI → Option impl_SystemValid.PO) (Gslices_ContainsFunc_of_2 : slices_ContainsFunc_of_2.PI → Option slices_ContainsFunc_of_2.PO) (x0 : (List (List UInt8)) × ((List (Int × Int × Int)) × List ((List (Int × Int × Int × Int)) × (List Int) × List (List (Int × Int × Int × Int)))) × List (List (Int × Int × Int × Int))) : Option PO :=
  Option.bind (Gimpl_SystemValid (x0.2.1, ())) fun y0 =>
  bif y0.1 then
    Option.bind (Gimpl_NamesValid (x0.1, ())) fun y1 =>
    bif y1.1 then
      bif (x0.1.length : Int) == (x0.2.1.1.length : Int) then
        bif decide ((x0.2.2.length : Int) ≤ 4) then
          Option.bind (Gslices_ContainsFunc_of_2 (x0.2.2, x0.1, x0.2.1.1, x0.2.1.2, x0.2.2, ())) fun y2 =>
          some (!y2.1, ())
        else
          some (false, ())
      else
        some (false, ())
    else
      some (false, ())
  else
    some (false, ())
noncomputable def hd {R : Type} (Gimpl_NamesValid : impl_NamesValid.PI → Option impl_NamesValid.PO) (Gimpl_SystemValid : impl_SystemValid.PI → Option impl_SystemValid.PO) (Gslices_ContainsFunc_of_2 : slices_ContainsFunc_of_2.PI → Option slices_ContainsFunc_of_2.PO) : Hand R := (handAt 89 [31] false ⟨2, 1, 2, slices_ContainsFunc_of_2.pin, slices_ContainsFunc_of_2.pout, Gslices_ContainsFunc_of_2⟩ (handAt 88 [5] true ⟨1, 1, 1, impl_SystemValid.pin, impl_SystemValid.pout, Gimpl_SystemValid⟩ (handAt 14 [9] true ⟨1, 1, 1, impl_NamesValid.pin, impl_NamesValid.pout, Gimpl_NamesValid⟩ handNil)))
noncomputable def pg (Gimpl_NamesValid : impl_NamesValid.PI → Option impl_NamesValid.PO) (Gimpl_SystemValid : impl_SystemValid.PI → Option impl_SystemValid.PO) (Gslices_ContainsFunc_of_2 : slices_ContainsFunc_of_2.PI → Option slices_ContainsFunc_of_2.PO) : Prog PO := { nt := 34, np := 1, tb := tabOf tab, hd := hd Gimpl_NamesValid Gimpl_SystemValid Gslices_ContainsFunc_of_2, cuts := cutsOf [], fin := endOf (tabOf tab) rs 1 pout }
noncomputable def q : FuncId → Bool := fun f => hasId [14, 88] f
theorem seg0 (Gimpl_NamesValid : impl_NamesValid.PI → Option impl_NamesValid.PO) (Gimpl_SystemValid : impl_SystemValid.PI → Option impl_SystemValid.PO) (Gslices_ContainsFunc_of_2 : slices_ContainsFunc_of_2.PI → Option slices_ContainsFunc_of_2.PO) (x0 : (List (List UInt8)) × ((List (Int × Int × Int)) × List ((List (Int × Int × Int × Int)) × (List Int) × List (List (Int × Int × Int × Int)))) × List (List (Int × Int × Int × Int))) : arun (pg Gimpl_NamesValid Gimpl_SystemValid Gslices_ContainsFunc_of_2) 5000 [.code c0] (mk pin (x0, ())) = F0 Gimpl_NamesValid Gimpl_SystemValid Gslices_ContainsFunc_of_2 x0 := by kernel_rfl
noncomputable def impl : PI → Option PO := fun x => F0 impl_NamesValid.impl impl_SystemValid.impl slices_ContainsFunc_of_2.impl x.1
theorem impl_eq (x0 : (List (List UInt8)) × ((List (Int × Int × Int)) × List ((List (Int × Int × Int × Int)) × (List Int) × List (List (Int × Int × Int × Int)))) × List (List (Int × Int × Int × Int))) : impl (x0, ()) = F0 impl_NamesValid.impl impl_SystemValid.impl slices_ContainsFunc_of_2.impl x0 := rfl
theorem con : Con Tryd.prog 39 1 rs.length 1 pin pout impl := by
  refine con_of_run' (nt := 34) (c := c0) tabGood Tryd.func39 (by kernel_rfl) (by kernel_rfl) (by kernel_rfl) (by kernel_rfl) (by kernel_rfl) (by kernel_rfl) (by kernel_rfl) ?_
  intro w0 O y hnp
  generalize hPost : (fun (a' : Act) (w' : World) => ∃ μ' S' st', Rel 34 w0 O μ' S' st' a' w' ∧ endOf (tabOf tab) rs 1 pout st' = some y) = Post
  have fin : ∀ (μ : Id → Option Value) (S : Nat → Prop) (st : St) (a : Act) (w : World), Rel 34 w0 O μ S st a w → endOf (tabOf tab) rs 1 pout st = some y → Post a w := fun μ S st a w h he => by rw [← hPost]; exact ⟨μ, S, st, h, he⟩
  have hp : Parts Tryd.prog 39 (pg impl_NamesValid.impl impl_SystemValid.impl slices_ContainsFunc_of_2.impl) [] := ⟨tab_ok tabGood rfl, (handAt_ok slices_ContainsFunc_of_2.con (handAt_ok impl_SystemValid.con (handAt_ok impl_NamesValid.con handNil_ok))), rfl⟩
  exact good_first (hp) (runOK_of (hp) hnp trivial fin) (fun x => (seg0 impl_NamesValid.impl impl_SystemValid.impl slices_ContainsFunc_of_2.impl x.1))
end impl_ModelValid

/-! ### loop.example/wholecheck/laws.eqStringS -/
namespace laws_eqStringS
noncomputable abbrev c0 : Code := (Tryd.f15.body).getD .skip
noncomputable abbrev pin : Tpl := ⟨[⟨0, false, [.d (.sl .str)]⟩, ⟨1, false, [.d (.sl .str)]⟩], []⟩
noncomputable abbrev pout : Tpl := ⟨[⟨0, false, [.d .bool]⟩], []⟩
noncomputable abbrev p4 : Tpl := ⟨[⟨0, false, [.d (.sl .str)]⟩, ⟨1, false, [.d (.sl .str)]⟩, ⟨5, false, [.d (.int .i64)]⟩], []⟩
noncomputable def T4 : List Item := (find 4 c0 []).getD []
noncomputable abbrev p6 : Tpl := ⟨[⟨0, false, [.d (.sl .str)]⟩, ⟨1, false, [.d (.sl .str)]⟩, ⟨5, false, [.d (.int .i64)]⟩], []⟩
noncomputable def T6 : List Item := (find 6 c0 []).getD []
noncomputable abbrev PI := (List (List UInt8)) × (List (List UInt8)) × Unit
noncomputable abbrev PO := Bool × Unit
noncomputable abbrev P4 := (List (List UInt8)) × (List (List UInt8)) × Int × Unit
noncomputable abbrev P6 := (List (List UInt8)) × (List (List UInt8)) × Int × Unit
noncomputable abbrev rs : List ResultVar := [.tmp 4]
noncomputable def F0 (J4 : P4 → Option PO) (x0 : List (List UInt8)) (x1 : List (List UInt8)) : Option PO :=
  bif (x0.length : Int) != (x1.length : Int) then
    some (false, ())
  else
    J4 (x0, x1, 0, ())
noncomputable def F4 (J6 : P6 → Option PO) (t0 : List (List UInt8)) (t1 : List (List UInt8)) (t5 : Int) : Option PO :=
  bif decide (t5 < (t0.length : Int)) then
    J6 (t0, t1, t5, ())
  else
    some (true, ())
noncomputable def F6 (J4 : P4 → Option PO) (t0 : List (List UInt8)) (t1 : List (List UInt8)) (t5 : Int) : Option PO :=
  bif inb t5 t0.length then
    bif inb t5 t1.length then
      bif !((t0.getD t5.toNat []) == (t1.getD t5.toNat [])) then
        some (false, ())
      else
        J4 (t0, t1, wI (t5 + 1), ())
    else
      none
  else
    none
noncomputable def hd {R : Type} : Hand R := handNil
noncomputable def pg (J4 : List Item → P4 → Option PO) (J6 : List Item → P6 → Option PO) : Prog PO := { nt := 26, np := 2, tb := tabOf tab, hd := hd, cuts := cutsOf [(4, cut p4 J4), (6, cut p6 J6)], fin := endOf (tabOf tab) rs 2 pout }
noncomputable def q : FuncId → Bool := fun f => hasId [] f
theorem seg0 (J4 : List Item → P4 → Option PO) (J6 : List Item → P6 → Option PO) (x0 : List (List UInt8)) (x1 : List (List UInt8)) : arun (pg J4 J6) 5000 [.code c0] (mk pin (x0, x1, ())) = F0 (J4 T4) x0 x1 := by kernel_rfl
theorem seg4 (J4 : List Item → P4 → Option PO) (J6 : List Item → P6 → Option PO) (t0 : List (List UInt8)) (t1 : List (List UInt8)) (t5 : Int) : arun1 (pg J4 J6) 5000 T4 (mk p4 (t0, t1, t5, ())) = F4 (J6 T6) t0 t1 t5 := by kernel_rfl
theorem seg6 (J4 : List Item → P4 → Option PO) (J6 : List Item → P6 → Option PO) (t0 : List (List UInt8)) (t1 : List (List UInt8)) (t5 : Int) : arunQ (pg J4 J6) q [] [] 5000 T6 (mk p6 (t0, t1, t5, ())) = List.replicate (arunQ (pg J4 J6) q [] [] 5000 T6 (mk p6 (t0, t1, t5, ()))).length (F6 (J4 T4) t0 t1 t5) := by kernel_rfl
noncomputable def L6 (J4 : P4 → Option PO) : P6 → Option PO := fun x => F6 J4 x.1 x.2.1 x.2.2.1
noncomputable def L4 : P4 → Option PO := lfp fun J4 x => F4 (L6 J4) x.1 x.2.1 x.2.2.1
noncomputable def impl : PI → Option PO := fun x => F0 L4 x.1 x.2.1
theorem F6_le {J4 J4' : P4 → Option PO} (h4 : OLe J4 J4') (t0 : List (List UInt8)) (t1 : List (List UInt8)) (t5 : Int) : OptLe (F6 J4 t0 t1 t5) (F6 J4' t0 t1 t5) := by unfold F6; exact .cond (.cond (.cond (.refl _) (.of h4 _)) (.refl _)) (.refl _)
theorem F4_le {J6 J6' : P6 → Option PO} (h6 : OLe J6 J6') (t0 : List (List UInt8)) (t1 : List (List UInt8)) (t5 : Int) : OptLe (F4 J6 t0 t1 t5) (F4 J6' t0 t1 t5) := by unfold F4; exact .cond (.of h6 _) (.refl _)
theorem L6_eq (J4 : P4 → Option PO) (t0 : List (List UInt8)) (t1 : List (List UInt8)) (t5 : Int) : L6 J4 (t0, t1, t5, ()) = F6 J4 t0 t1 t5 := rfl
theorem L6_le {J4 J4' : P4 → Option PO} (h4 : OLe J4 J4') : OLe (L6 J4) (L6 J4') := fun x => F6_le h4 x.1 x.2.1 x.2.2.1
theorem L4_mono : OMono fun J4 (x : P4) => F4 (L6 J4) x.1 x.2.1 x.2.2.1 := fun J J' h4 x => F4_le (L6_le h4) x.1 x.2.1 x.2.2.1
theorem L4_eq (t0 : List (List UInt8)) (t1 : List (List UInt8)) (t5 : Int) : L4 (t0, t1, t5, ()) = F4 (L6 (L4)) t0 t1 t5 := congrFun (lfp_eq (L4_mono)) _
theorem impl_eq (x0 : List (List UInt8)) (x1 : List (List UInt8)) : impl (x0, x1, ()) = F0 L4 x0 x1 := rfl
theorem con : Con Tryd.prog 15 2 rs.length 2 pin pout impl := by
  refine con_of_run' (nt := 26) (c := c0) tabGood Tryd.func15 (by kernel_rfl) (by kernel_rfl) (by kernel_rfl) (by kernel_rfl) (by kernel_rfl) (by kernel_rfl) (by kernel_rfl) ?_
  intro w0 O y hnp
  generalize hPost : (fun (a' : Act) (w' : World) => ∃ μ' S' st', Rel 26 w0 O μ' S' st' a' w' ∧ endOf (tabOf tab) rs 2 pout st' = some y) = Post
  have fin : ∀ (μ : Id → Option Value) (S : Nat → Prop) (st : St) (a : Act) (w : World), Rel 26 w0 O μ S st a w → endOf (tabOf tab) rs 2 pout st = some y → Post a w := fun μ S st a w h he => by rw [← hPost]; exact ⟨μ, S, st, h, he⟩
  have hp : ∀ (J4 : List Item → P4 → Option PO), ∀ (J6 : List Item → P6 → Option PO), Parts Tryd.prog 15 (pg J4 J6) [(4, cut p4 J4), (6, cut p6 J6)] := fun J4 J6 => ⟨tab_ok tabGood rfl, handNil_ok, rfl⟩
  have g6 : ∀ (J4 : P4 → Option PO), Good Tryd.prog 26 w0 O Post y T4 p4 J4 → Good Tryd.prog 26 w0 O Post y T6 p6 (L6 J4) := fun J4 h4 => good_quiet (hs := hd) (cv' := hd) (Checked.mixed Tryd.checked) (hp (atT T4 J4) (atT T6 (fun _ => none))) handNil_D handNil_nat handNil_nat (runOK_of (hp (atT T4 J4) (atT T6 (fun _ => none))) hnp ⟨cutOK_at h4, cutOK_at (p := p6) (T := T6) (J := fun _ => none) good_none, trivial⟩ fin) (fun x => all_same ⟨_, (seg6 (atT T4 J4) (atT T6 (fun _ => none)) x.1 x.2.1 x.2.2.1).trans (by simp only [atT_self] <;> rfl)⟩)
  have g4 : Good Tryd.prog 26 w0 O Post y T4 p4 L4 := good_lfp fun J4 h4 => good_part (hp (atT T4 (fun _ => none)) (atT T6 (L6 J4))) (runOK_of (hp (atT T4 (fun _ => none)) (atT T6 (L6 J4))) hnp ⟨cutOK_at (p := p4) (T := T4) (J := fun _ => none) good_none, cutOK_at (g6 J4 h4), trivial⟩ fin) (fun x => (seg4 (atT T4 (fun _ => none)) (atT T6 (L6 J4)) x.1 x.2.1 x.2.2.1).trans (by simp only [atT_self] <;> rfl))
  exact good_first (hp (atT T4 L4) (atT T6 (fun _ => none))) (runOK_of (hp (atT T4 L4) (atT T6 (fun _ => none))) hnp ⟨cutOK_at g4, cutOK_at (p := p6) (T := T6) (J := fun _ => none) good_none, trivial⟩ fin) (fun x => (seg0 (atT T4 L4) (atT T6 (fun _ => none)) x.1 x.2.1).trans (by simp only [atT_self] <;> rfl))
end laws_eqStringS

/-! ### loop.example/wholecheck/laws.eqVar -/
namespace laws_eqVar
noncomputable abbrev c0 : Code := (Tryd.f166.body).getD .skip
noncomputable abbrev pin : Tpl := ⟨[⟨0, true, [.d (.prod (.int .i64) (.prod (.int .i64) (.last (.int .i64))))]⟩, ⟨1, true, [.d (.prod (.int .i64) (.prod (.int .i64) (.last (.int .i64))))]⟩], []⟩
noncomputable abbrev pout : Tpl := ⟨[⟨0, false, [.d .bool]⟩], []⟩
noncomputable abbrev PI := (Int × Int × Int) × (Int × Int × Int) × Unit
noncomputable abbrev PO := Bool × Unit
noncomputable abbrev rs : List ResultVar := [.tmp 4]
noncomputable def F0 (x0 : Int × Int × Int) (x1 : Int × Int × Int) : Option PO :=
  bif x0.1 != x1.1 then
    some (false, ())
  else
    bif x0.2.1 != x1.2.1 then
      some (false, ())
    else
      bif x0.2.2 != x1.2.2 then
        some (false, ())
      else
        some (true, ())
noncomputable def hd {R : Type} : Hand R := handNil
noncomputable def pg : Prog PO := { nt := 20, np := 2, tb := tabOf tab, hd := hd, cuts := cutsOf [], fin := endOf (tabOf tab) rs 2 pout }
noncomputable def q : FuncId → Bool := fun f => hasId [] f
theorem seg0 (x0 : Int × Int × Int) (x1 : Int × Int × Int) : arun (pg) 5000 [.code c0] (mk pin (x0, x1, ())) = F0 x0 x1 := by kernel_rfl
noncomputable def impl : PI → Option PO := fun x => F0 x.1 x.2.1
theorem impl_eq (x0 : Int × Int × Int) (x1 : Int × Int × Int) : impl (x0, x1, ()) = F0 x0 x1 := rfl
theorem con : Con Tryd.prog 166 2 rs.length 2 pin pout impl := by
  refine con_of_run' (nt := 20) (c := c0) tabGood Tryd.func166 (by kernel_rfl) (by kernel_rfl) (by kernel_rfl) (by kernel_rfl) (by kernel_rfl) (by kernel_rfl) (by kernel_rfl) ?_
  intro w0 O y hnp
  generalize hPost : (fun (a' : Act) (w' : World) => ∃ μ' S' st', Rel 20 w0 O μ' S' st' a' w' ∧ endOf (tabOf tab) rs 2 pout st' = some y) = Post
  have fin : ∀ (μ : Id → Option Value) (S : Nat → Prop) (st : St) (a : Act) (w : World), Rel 20 w0 O μ S st a w → endOf (tabOf tab) rs 2 pout st = some y → Post a w := fun μ S st a w h he => by rw [← hPost]; exact ⟨μ, S, st, h, he⟩
  have hp : Parts Tryd.prog 166 (pg) [] := ⟨tab_ok tabGood rfl, handNil_ok, rfl⟩
  exact good_first (hp) (runOK_of (hp) hnp trivial fin) (fun x => (seg0 x.1 x.2.1))
end laws_eqVar

/-! ### loop.example/wholecheck/laws.eqVarS -/
namespace laws_eqVarS
noncomputable abbrev c0 : Code := (Tryd.f138.body).getD .skip
noncomputable abbrev pin : Tpl := ⟨[⟨0, false, [.d (.sl (.prod (.int .i64) (.prod (.int .i64) (.last (.int .i64)))))]⟩, ⟨1, false, [.d (.sl (.prod (.int .i64) (.prod (.int .i64) (.last (.int .i64)))))]⟩], []⟩
noncomputable abbrev pout : Tpl := ⟨[⟨0, false, [.d .bool]⟩], []⟩
noncomputable abbrev p4 : Tpl := ⟨[⟨0, false, [.d (.sl (.prod (.int .i64) (.prod (.int .i64) (.last (.int .i64)))))]⟩, ⟨1, false, [.d (.sl (.prod (.int .i64) (.prod (.int .i64) (.last (.int .i64)))))]⟩, ⟨5, false, [.d (.int .i64)]⟩], []⟩
noncomputable def T4 : List Item := (find 4 c0 []).getD []
noncomputable abbrev p6 : Tpl := ⟨[⟨0, false, [.d (.sl (.prod (.int .i64) (.prod (.int .i64) (.last (.int .i64)))))]⟩, ⟨1, false, [.d (.sl (.prod (.int .i64) (.prod (.int .i64) (.last (.int .i64)))))]⟩, ⟨5, false, [.d (.int .i64)]⟩], []⟩
noncomputable def T6 : List Item := (find 6 c0 []).getD []
noncomputable abbrev PI := (List (Int × Int × Int)) × (List (Int × Int × Int)) × Unit
noncomputable abbrev PO := Bool × Unit
noncomputable abbrev P4 := (List (Int × Int × Int)) × (List (Int × Int × Int)) × Int × Unit
noncomputable abbrev P6 := (List (Int × Int × Int)) × (List (Int × Int × Int)) × Int × Unit
noncomputable abbrev rs : List ResultVar := [.tmp 4]
noncomputable def F0 (J4 : P4 → Option PO) (x0 : List (Int × Int × Int)) (x1 : List (Int × Int × Int)) : Option PO :=
  bif (x0.length : Int) != (x1.length : Int) then
    some (false, ())
  else
    J4 (x0, x1, 0, ())
noncomputable def F4 (J6 : P6 → Option PO) (t0 : List (Int × Int × Int)) (t1 : List (Int × Int × Int)) (t5 : Int) : Option PO :=
  bif decide (t5 < (t0.length : Int)) then
    J6 (t0, t1, t5, ())
  else
    some (true, ())
noncomputable def F6 (J4 : P4 → Option PO) (Glaws_eqVar : laws_eqVar.PI → Option laws_eqVar.PO) (t0 : List (Int × Int × Int)) (t1 : List (Int × Int × Int)) (t5 : Int) : Option PO :=
  bif inb t5 t0.length then
    bif inb t5 t1.length then
      Option.bind (Glaws_eqVar (t0.getD t5.toNat (0, 0, 0), t1.getD t5.toNat (0, 0, 0), ())) fun y0 =>
      bif !y0.1 then
        some (false, ())
      else
        J4 (t0, t1, wI (t5 + 1), ())
    else
      none
  else
    none
noncomputable def hd {R : Type} (Glaws_eqVar : laws_eqVar.PI → Option laws_eqVar.PO) : Hand R := (handAt 166 [25] true ⟨2, 1, 2, laws_eqVar.pin, laws_eqVar.pout, Glaws_eqVar⟩ handNil)
noncomputable def pg (Glaws_eqVar : laws_eqVar.PI → Option laws_eqVar.PO) (J4 : List Item → P4 → Option PO) (J6 : List Item → P6 → Option PO) : Prog PO := { nt := 27, np := 2, tb := tabOf tab, hd := hd Glaws_eqVar, cuts := cutsOf [(4, cut p4 J4), (6, cut p6 J6)], fin := endOf (tabOf tab) rs 2 pout }
noncomputable def q : FuncId → Bool := fun f => hasId [166] f
theorem seg0 (Glaws_eqVar : laws_eqVar.PI → Option laws_eqVar.PO) (J4 : List Item → P4 → Option PO) (J6 : List Item → P6 → Option PO) (x0 : List (Int × Int × Int)) (x1 : List (Int × Int × Int)) : arun (pg Glaws_eqVar J4 J6) 5000 [.code c0] (mk pin (x0, x1, ())) = F0 (J4 T4) x0 x1 := by kernel_rfl
theorem seg4 (Glaws_eqVar : laws_eqVar.PI → Option laws_eqVar.PO) (J4 : List Item → P4 → Option PO) (J6 : List Item → P6 → Option PO) (t0 : List (Int × Int × Int)) (t1 : List (Int × Int × Int)) (t5 : Int) : arun1 (pg Glaws_eqVar J4 J6) 5000 T4 (mk p4 (t0, t1, t5, ())) = F4 (J6 T6) t0 t1 t5 := by kernel_rfl
theorem seg6 (Glaws_eqVar : laws_eqVar.PI → Option laws_eqVar.PO) (J4 : List Item → P4 → Option PO) (J6 : List Item → P6 → Option PO) (t0 : List (Int × Int × Int)) (t1 : List (Int × Int × Int)) (t5 : Int) : arunQ (pg Glaws_eqVar J4 J6) q [] [] 5000 T6 (mk p6 (t0, t1, t5, ())) = List.replicate (arunQ (pg Glaws_eqVar J4 J6) q [] [] 5000 T6 (mk p6 (t0, t1, t5, ()))).length (F6 (J4 T4) Glaws_eqVar t0 t1 t5) := by kernel_rfl
noncomputable def L6 (J4 : P4 → Option PO) : P6 → Option PO := fun x => F6 J4 laws_eqVar.impl x.1 x.2.1 x.2.2.1
noncomputable def L4 : P4 → Option PO := lfp fun J4 x => F4 (L6 J4) x.1 x.2.1 x.2.2.1
noncomputable def impl : PI → Option PO := fun x => F0 L4 x.1 x.2.1
theorem F6_le {J4 J4' : P4 → Option PO} (h4 : OLe J4 J4') {Glaws_eqVar : laws_eqVar.PI → Option laws_eqVar.PO} (t0 : List (Int × Int × Int)) (t1 : List (Int × Int × Int)) (t5 : Int) : OptLe (F6 J4 Glaws_eqVar t0 t1 t5) (F6 J4' Glaws_eqVar t0 t1 t5) := by unfold F6; exact .cond (.cond (.bind (.refl _) fun _ => .cond (.refl _) (.of h4 _)) (.refl _)) (.refl _)
theorem F4_le {J6 J6' : P6 → Option PO} (h6 : OLe J6 J6') (t0 : List (Int × Int × Int)) (t1 : List (Int × Int × Int)) (t5 : Int) : OptLe (F4 J6 t0 t1 t5) (F4 J6' t0 t1 t5) := by unfold F4; exact .cond (.of h6 _) (.refl _)
theorem L6_eq (J4 : P4 → Option PO) (t0 : List (Int × Int × Int)) (t1 : List (Int × Int × Int)) (t5 : Int) : L6 J4 (t0, t1, t5, ()) = F6 J4 laws_eqVar.impl t0 t1 t5 := rfl
theorem L6_le {J4 J4' : P4 → Option PO} (h4 : OLe J4 J4') : OLe (L6 J4) (L6 J4') := fun x => F6_le h4 x.1 x.2.1 x.2.2.1
theorem L4_mono : OMono fun J4 (x : P4) => F4 (L6 J4) x.1 x.2.1 x.2.2.1 := fun J J' h4 x => F4_le (L6_le h4) x.1 x.2.1 x.2.2.1
theorem L4_eq (t0 : List (Int × Int × Int)) (t1 : List (Int × Int × Int)) (t5 : Int) : L4 (t0, t1, t5, ()) = F4 (L6 (L4)) t0 t1 t5 := congrFun (lfp_eq (L4_mono)) _
theorem impl_eq (x0 : List (Int × Int × Int)) (x1 : List (Int × Int × Int)) : impl (x0, x1, ()) = F0 L4 x0 x1 := rfl
theorem con : Con Tryd.prog 138 2 rs.length 2 pin pout impl := by
  refine con_of_run' (nt := 27) (c := c0) tabGood Tryd.func138 (by kernel_rfl) (by kernel_rfl) (by kernel_rfl) (by kernel_rfl) (by kernel_rfl) (by kernel_rfl) (by kernel_rfl) ?_
  intro w0 O y hnp
  generalize hPost : (fun (a' : Act) (w' : World) => ∃ μ' S' st', Rel 27 w0 O μ' S' st' a' w' ∧ endOf (tabOf tab) rs 2 pout st' = some y) = Post
  have fin : ∀ (μ : Id → Option Value) (S : Nat → Prop) (st : St) (a : Act) (w : World), Rel 27 w0 O μ S st a w → endOf (tabOf tab) rs 2 pout st = some y → Post a w := fun μ S st a w h he => by rw [← hPost]; exact ⟨μ, S, st, h, he⟩
  have hp : ∀ (J4 : List Item → P4 → Option PO), ∀ (J6 : List Item → P6 → Option PO), Parts Tryd.prog 138 (pg laws_eqVar.impl J4 J6) [(4, cut p4 J4), (6, cut p6 J6)] := fun J4 J6 => ⟨tab_ok tabGood rfl, (handAt_ok laws_eqVar.con handNil_ok), rfl⟩
  have g6 : ∀ (J4 : P4 → Option PO), Good Tryd.prog 27 w0 O Post y T4 p4 J4 → Good Tryd.prog 27 w0 O Post y T6 p6 (L6 J4) := fun J4 h4 => good_quiet (hs := hd laws_eqVar.impl) (cv' := hd laws_eqVar.impl) (Checked.mixed Tryd.checked) (hp (atT T4 J4) (atT T6 (fun _ => none))) (handAt_D laws_eqVar.con (by rfl) rfl handNil_D) (handAt_nat handNil_nat) (handAt_nat handNil_nat) (runOK_of (hp (atT T4 J4) (atT T6 (fun _ => none))) hnp ⟨cutOK_at h4, cutOK_at (p := p6) (T := T6) (J := fun _ => none) good_none, trivial⟩ fin) (fun x => all_same ⟨_, (seg6 laws_eqVar.impl (atT T4 J4) (atT T6 (fun _ => none)) x.1 x.2.1 x.2.2.1).trans (by simp only [atT_self] <;> rfl)⟩)
  have g4 : Good Tryd.prog 27 w0 O Post y T4 p4 L4 := good_lfp fun J4 h4 => good_part (hp (atT T4 (fun _ => none)) (atT T6 (L6 J4))) (runOK_of (hp (atT T4 (fun _ => none)) (atT T6 (L6 J4))) hnp ⟨cutOK_at (p := p4) (T := T4) (J := fun _ => none) good_none, cutOK_at (g6 J4 h4), trivial⟩ fin) (fun x => (seg4 laws_eqVar.impl (atT T4 (fun _ => none)) (atT T6 (L6 J4)) x.1 x.2.1 x.2.2.1).trans (by simp only [atT_self] <;> rfl))
  exact good_first (hp (atT T4 L4) (atT T6 (fun _ => none))) (runOK_of (hp (atT T4 L4) (atT T6 (fun _ => none))) hnp ⟨cutOK_at g4, cutOK_at (p := p6) (T := T6) (J := fun _ => none) good_none, trivial⟩ fin) (fun x => (seg0 laws_eqVar.impl (atT T4 L4) (atT T6 (fun _ => none)) x.1 x.2.1).trans (by simp only [atT_self] <;> rfl))
end laws_eqVarS

/-! ### loop.example/wholecheck/laws.eqTerm -/
namespace laws_eqTerm
noncomputable abbrev c0 : Code := (Tryd.f81.body).getD .skip
noncomputable abbrev pin : Tpl := ⟨[⟨0, true, [.d (.prod (.int .i64) (.prod (.int .i64) (.prod (.int .i64) (.last (.int .i64)))))]⟩, ⟨1, true, [.d (.prod (.int .i64) (.prod (.int .i64) (.prod (.int .i64) (.last (.int .i64)))))]⟩], []⟩
noncomputable abbrev pout : Tpl := ⟨[⟨0, false, [.d .bool]⟩], []⟩
noncomputable abbrev PI := (Int × Int × Int × Int) × (Int × Int × Int × Int) × Unit
noncomputable abbrev PO := Bool × Unit
noncomputable abbrev rs : List ResultVar := [.tmp 4]
noncomputable def F0 (x0 : Int × Int × Int × Int) (x1 : Int × Int × Int × Int) : Option PO :=
  bif x0.1 != x1.1 then
    some (false, ())
  else
    bif x0.2.1 != x1.2.1 then
      some (false, ())
    else
      bif x0.2.2.1 != x1.2.2.1 then
        some (false, ())
      else
        bif x0.2.2.2 != x1.2.2.2 then
          some (false, ())
        else
          some (true, ())
noncomputable def hd {R : Type} : Hand R := handNil
noncomputable def pg : Prog PO := { nt := 25, np := 2, tb := tabOf tab, hd := hd, cuts := cutsOf [], fin := endOf (tabOf tab) rs 2 pout }
noncomputable def q : FuncId → Bool := fun f => hasId [] f
theorem seg0 (x0 : Int × Int × Int × Int) (x1 : Int × Int × Int × Int) : arun (pg) 5000 [.code c0] (mk pin (x0, x1, ())) = F0 x0 x1 := by kernel_rfl
noncomputable def impl : PI → Option PO := fun x => F0 x.1 x.2.1
theorem impl_eq (x0 : Int × Int × Int × Int) (x1 : Int × Int × Int × Int) : impl (x0, x1, ()) = F0 x0 x1 := rfl
theorem con : Con Tryd.prog 81 2 rs.length 2 pin pout impl := by
  refine con_of_run' (nt := 25) (c := c0) tabGood Tryd.func81 (by kernel_rfl) (by kernel_rfl) (by kernel_rfl) (by kernel_rfl) (by kernel_rfl) (by kernel_rfl) (by kernel_rfl) ?_
  intro w0 O y hnp
  generalize hPost : (fun (a' : Act) (w' : World) => ∃ μ' S' st', Rel 25 w0 O μ' S' st' a' w' ∧ endOf (tabOf tab) rs 2 pout st' = some y) = Post
  have fin : ∀ (μ : Id → Option Value) (S : Nat → Prop) (st : St) (a : Act) (w : World), Rel 25 w0 O μ S st a w → endOf (tabOf tab) rs 2 pout st = some y → Post a w := fun μ S st a w h he => by rw [← hPost]; exact ⟨μ, S, st, h, he⟩
  have hp : Parts Tryd.prog 81 (pg) [] := ⟨tab_ok tabGood rfl, handNil_ok, rfl⟩
  exact good_first (hp) (runOK_of (hp) hnp trivial fin) (fun x => (seg0 x.1 x.2.1))
end laws_eqTerm

/-! ### loop.example/wholecheck/laws.eqTermS -/
namespace laws_eqTermS
noncomputable abbrev c0 : Code := (Tryd.f35.body).getD .skip
noncomputable abbrev pin : Tpl := ⟨[⟨0, false, [.d (.sl (.prod (.int .i64) (.prod (.int .i64) (.prod (.int .i64) (.last (.int .i64))))))]⟩, ⟨1, false, [.d (.sl (.prod (.int .i64) (.prod (.int .i64) (.prod (.int .i64) (.last (.int .i64))))))]⟩], []⟩
noncomputable abbrev pout : Tpl := ⟨[⟨0, false, [.d .bool]⟩], []⟩
noncomputable abbrev p4 : Tpl := ⟨[⟨0, false, [.d (.sl (.prod (.int .i64) (.prod (.int .i64) (.prod (.int .i64) (.last (.int .i64))))))]⟩, ⟨1, false, [.d (.sl (.prod (.int .i64) (.prod (.int .i64) (.prod (.int .i64) (.last (.int .i64))))))]⟩, ⟨5, false, [.d (.int .i64)]⟩], []⟩
noncomputable def T4 : List Item := (find 4 c0 []).getD []
noncomputable abbrev p6 : Tpl := ⟨[⟨0, false, [.d (.sl (.prod (.int .i64) (.prod (.int .i64) (.prod (.int .i64) (.last (.int .i64))))))]⟩, ⟨1, false, [.d (.sl (.prod (.int .i64) (.prod (.int .i64) (.prod (.int .i64) (.last (.int .i64))))))]⟩, ⟨5, false, [.d (.int .i64)]⟩], []⟩
noncomputable def T6 : List Item := (find 6 c0 []).getD []
noncomputable abbrev PI := (List (Int × Int × Int × Int)) × (List (Int × Int × Int × Int)) × Unit
noncomputable abbrev PO := Bool × Unit
noncomputable abbrev P4 := (List (Int × Int × Int × Int)) × (List (Int × Int × Int × Int)) × Int × Unit
noncomputable abbrev P6 := (List (Int × Int × Int × Int)) × (List (Int × Int × Int × Int)) × Int × Unit
noncomputable abbrev rs : List ResultVar := [.tmp 4]
noncomputable def F0 (J4 : P4 → Option PO) (x0 : List (Int × Int × Int × Int)) (x1 : List (Int × Int × Int × Int)) : Option PO :=
  bif (x0.length : Int) != (x1.length : Int) then
    some (false, ())
  else
    J4 (x0, x1, 0, ())
noncomputable def F4 (J6 : P6 → Option PO) (t0 : List (Int × Int × Int × Int)) (t1 : List (Int × Int × Int × Int)) (t5 : Int) : Option PO :=
  bif decide (t5 < (t0.length : Int)) then
    J6 (t0, t1, t5, ())
  else
    some (true, ())
noncomputable def F6 (J4 : P4 → Option PO) (Glaws_eqTerm : laws_eqTerm.PI → Option laws_eqTerm.PO) (t0 : List (Int × Int × Int × Int)) (t1 : List (Int × Int × Int × Int)) (t5 : Int) : Option PO :=
  bif inb t5 t0.length then
    bif inb t5 t1.length then
      Option.bind (Glaws_eqTerm (t0.getD t5.toNat (0, 0, 0, 0), t1.getD t5.toNat (0, 0, 0, 0), ())) fun y0 =>
      bif !y0.1 then
        some (false, ())
      else
        J4 (t0, t1, wI (t5 + 1), ())
    else
      none
  else
    none
noncomputable def hd {R : Type} (Glaws_eqTerm : laws_eqTerm.PI → Option laws_eqTerm.PO) : Hand R := (handAt 81 [25] true ⟨2, 1, 2, laws_eqTerm.pin, laws_eqTerm.pout, Glaws_eqTerm⟩ handNil)
noncomputable def pg (Glaws_eqTerm : laws_eqTerm.PI → Option laws_eqTerm.PO) (J4 : List Item → P4 → Option PO) (J6 : List Item → P6 → Option PO) : Prog PO := { nt := 27, np := 2, tb := tabOf tab, hd := hd Glaws_eqTerm, cuts := cutsOf [(4, cut p4 J4), (6, cut p6 J6)], fin := endOf (tabOf tab) rs 2 pout }
noncomputable def q : FuncId → Bool := fun f => hasId [81] f
theorem seg0 (Glaws_eqTerm : laws_eqTerm.PI → Option laws_eqTerm.PO) (J4 : List Item → P4 → Option PO) (J6 : List Item → P6 → Option PO) (x0 : List (Int × Int × Int × Int)) (x1 : List (Int × Int × Int × Int)) : arun (pg Glaws_eqTerm J4 J6) 5000 [.code c0] (mk pin (x0, x1, ())) = F0 (J4 T4) x0 x1 := by kernel_rfl
theorem seg4 (Glaws_eqTerm : laws_eqTerm.PI → Option laws_eqTerm.PO) (J4 : List Item → P4 → Option PO) (J6 : List Item → P6 → Option PO) (t0 : List (Int × Int × Int × Int)) (t1 : List (Int × Int × Int × Int)) (t5 : Int) : arun1 (pg Glaws_eqTerm J4 J6) 5000 T4 (mk p4 (t0, t1, t5, ())) = F4 (J6 T6) t0 t1 t5 := by kernel_rfl
theorem seg6 (Glaws_eqTerm : laws_eqTerm.PI → Option laws_eqTerm.PO) (J4 : List Item → P4 → Option PO) (J6 : List Item → P6 → Option PO) (t0 : List (Int × Int × Int × Int)) (t1 : List (Int × Int × Int × Int)) (t5 : Int) : arunQ (pg Glaws_eqTerm J4 J6) q [] [] 5000 T6 (mk p6 (t0, t1, t5, ())) = List.replicate (arunQ (pg Glaws_eqTerm J4 J6) q [] [] 5000 T6 (mk p6 (t0, t1, t5, ()))).length (F6 (J4 T4) Glaws_eqTerm t0 t1 t5) := by kernel_rfl
noncomputable def L6 (J4 : P4 → Option PO) : P6 → Option PO := fun x => F6 J4 laws_eqTerm.impl x.1 x.2.1 x.2.2.1
noncomputable def L4 : P4 → Option PO := lfp fun J4 x => F4 (L6 J4) x.1 x.2.1 x.2.2.1
noncomputable def impl : PI → Option PO := fun x => F0 L4 x.1 x.2.1
theorem F6_le {J4 J4' : P4 → Option PO} (h4 : OLe J4 J4') {Glaws_eqTerm : laws_eqTerm.PI → Option laws_eqTerm.PO} (t0 : List (Int × Int × Int × Int)) (t1 : List (Int × Int × Int × Int)) (t5 : Int) : OptLe (F6 J4 Glaws_eqTerm t0 t1 t5) (F6 J4' Glaws_eqTerm t0 t1 t5) := by unfold F6; exact .cond (.cond (.bind (.refl _) fun _ => .cond (.refl _) (.of h4 _)) (.refl _)) (.refl _)
theorem F4_le {J6 J6' : P6 → Option PO} (h6 : OLe J6 J6') (t0 : List (Int × Int × Int × Int)) (t1 : List (Int × Int × Int × Int)) (t5 : Int) : OptLe (F4 J6 t0 t1 t5) (F4 J6' t0 t1 t5) := by unfold F4; exact .cond (.of h6 _) (.refl _)
theorem L6_eq (J4 : P4 → Option PO) (t0 : List (Int × Int × Int × Int)) (t1 : List (Int × Int × Int × Int)) (t5 : Int) : L6 J4 (t0, t1, t5, ()) = F6 J4 laws_eqTerm.impl t0 t1 t5 := rfl
theorem L6_le {J4 J4' : P4 → Option PO} (h4 : OLe J4 J4') : OLe (L6 J4) (L6 J4') := fun x => F6_le h4 x.1 x.2.1 x.2.2.1
theorem L4_mono : OMono fun J4 (x : P4) => F4 (L6 J4) x.1 x.2.1 x.2.2.1 := fun J J' h4 x => F4_le (L6_le h4) x.1 x.2.1 x.2.2.1
theorem L4_eq (t0 : List (Int × Int × Int × Int)) (t1 : List (Int × Int × Int × Int)) (t5 : Int) : L4 (t0, t1, t5, ()) = F4 (L6 (L4)) t0 t1 t5 := congrFun (lfp_eq (L4_mono)) _
theorem impl_eq (x0 : List (Int × Int × Int × Int)) (x1 : List (Int × Int × Int × Int)) : impl (x0, x1, ()) = F0 L4 x0 x1 := rfl
theorem con : Con Tryd.prog 35 2 rs.length 2 pin pout impl := by
  refine con_of_run' (nt := 27) (c := c0) tabGood Tryd.func35 (by kernel_rfl) (by kernel_rfl) (by kernel_rfl) (by kernel_rfl) (by kernel_rfl) (by kernel_rfl) (by kernel_rfl) ?_
  intro w0 O y hnp
  generalize hPost : (fun (a' : Act) (w' : World) => ∃ μ' S' st', Rel 27 w0 O μ' S' st' a' w' ∧ endOf (tabOf tab) rs 2 pout st' = some y) = Post
  have fin : ∀ (μ : Id → Option Value) (S : Nat → Prop) (st : St) (a : Act) (w : World), Rel 27 w0 O μ S st a w → endOf (tabOf tab) rs 2 pout st = some y → Post a w := fun μ S st a w h he => by rw [← hPost]; exact ⟨μ, S, st, h, he⟩
  have hp : ∀ (J4 : List Item → P4 → Option PO), ∀ (J6 : List Item → P6 → Option PO), Parts Tryd.prog 35 (pg laws_eqTerm.impl J4 J6) [(4, cut p4 J4), (6, cut p6 J6)] := fun J4 J6 => ⟨tab_ok tabGood rfl, (handAt_ok laws_eqTerm.con handNil_ok), rfl⟩
  have g6 : ∀ (J4 : P4 → Option PO), Good Tryd.prog 27 w0 O Post y T4 p4 J4 → Good Tryd.prog 27 w0 O Post y T6 p6 (L6 J4) := fun J4 h4 => good_quiet (hs := hd laws_eqTerm.impl) (cv' := hd laws_eqTerm.impl) (Checked.mixed Tryd.checked) (hp (atT T4 J4) (atT T6 (fun _ => none))) (handAt_D laws_eqTerm.con (by rfl) rfl handNil_D) (handAt_nat handNil_nat) (handAt_nat handNil_nat) (runOK_of (hp (atT T4 J4) (atT T6 (fun _ => none))) hnp ⟨cutOK_at h4, cutOK_at (p := p6) (T := T6) (J := fun _ => none) good_none, trivial⟩ fin) (fun x => all_same ⟨_, (seg6 laws_eqTerm.impl (atT T4 J4) (atT T6 (fun _ => none)) x.1 x.2.1 x.2.2.1).trans (by simp only [atT_self] <;> rfl)⟩)
  have g4 : Good Tryd.prog 27 w0 O Post y T4 p4 L4 := good_lfp fun J4 h4 => good_part (hp (atT T4 (fun _ => none)) (atT T6 (L6 J4))) (runOK_of (hp (atT T4 (fun _ => none)) (atT T6 (L6 J4))) hnp ⟨cutOK_at (p := p4) (T := T4) (J := fun _ => none) good_none, cutOK_at (g6 J4 h4), trivial⟩ fin) (fun x => (seg4 laws_eqTerm.impl (atT T4 (fun _ => none)) (atT T6 (L6 J4)) x.1 x.2.1 x.2.2.1).trans (by simp only [atT_self] <;> rfl))
  exact good_first (hp (atT T4 L4) (atT T6 (fun _ => none))) (runOK_of (hp (atT T4 L4) (atT T6 (fun _ => none))) hnp ⟨cutOK_at g4, cutOK_at (p := p6) (T := T6) (J := fun _ => none) good_none, trivial⟩ fin) (fun x => (seg0 laws_eqTerm.impl (atT T4 L4) (atT T6 (fun _ => none)) x.1 x.2.1).trans (by simp only [atT_self] <;> rfl))
end laws_eqTermS

/-! ### loop.example/wholecheck/laws.eqIntS -/
namespace laws_eqIntS
noncomputable abbrev c0 : Code := (Tryd.f30.body).getD .skip
noncomputable abbrev pin : Tpl := ⟨[⟨0, false, [.d (.sl (.int .i64))]⟩, ⟨1, false, [.d (.sl (.int .i64))]⟩], []⟩
noncomputable abbrev pout : Tpl := ⟨[⟨0, false, [.d .bool]⟩], []⟩
noncomputable abbrev p4 : Tpl := ⟨[⟨0, false, [.d (.sl (.int .i64))]⟩, ⟨1, false, [.d (.sl (.int .i64))]⟩, ⟨5, false, [.d (.int .i64)]⟩], []⟩
noncomputable def T4 : List Item := (find 4 c0 []).getD []
noncomputable abbrev p6 : Tpl := ⟨[⟨0, false, [.d (.sl (.int .i64))]⟩, ⟨1, false, [.d (.sl (.int .i64))]⟩, ⟨5, false, [.d (.int .i64)]⟩], []⟩
noncomputable def T6 : List Item := (find 6 c0 []).getD []
noncomputable abbrev PI := (List Int) × (List Int) × Unit
noncomputable abbrev PO := Bool × Unit
noncomputable abbrev P4 := (List Int) × (List Int) × Int × Unit
noncomputable abbrev P6 := (List Int) × (List Int) × Int × Unit
noncomputable abbrev rs : List ResultVar := [.tmp 4]
noncomputable def F0 (J4 : P4 → Option PO) (x0 : List Int) (x1 : List Int) : Option PO :=
  bif (x0.length : Int) != (x1.length : Int) then
    some (false, ())
  else
    J4 (x0, x1, 0, ())
noncomputable def F4 (J6 : P6 → Option PO) (t0 : List Int) (t1 : List Int) (t5 : Int) : Option PO :=
  bif decide (t5 < (t0.length : Int)) then
    J6 (t0, t1, t5, ())
  else
    some (true, ())
noncomputable def F6 (J4 : P4 → Option PO) (t0 : List Int) (t1 : List Int) (t5 : Int) : Option PO :=
  bif inb t5 t0.length then
    bif inb t5 t1.length then
      bif t0.getD t5.toNat 0 != t1.getD t5.toNat 0 then
        some (false, ())
      else
        J4 (t0, t1, wI (t5 + 1), ())
    else
      none
  else
    none
noncomputable def hd {R : Type} : Hand R := handNil
noncomputable def pg (J4 : List Item → P4 → Option PO) (J6 : List Item → P6 → Option PO) : Prog PO := { nt := 26, np := 2, tb := tabOf tab, hd := hd, cuts := cutsOf [(4, cut p4 J4), (6, cut p6 J6)], fin := endOf (tabOf tab) rs 2 pout }
noncomputable def q : FuncId → Bool := fun f => hasId [] f
theorem seg0 (J4 : List Item → P4 → Option PO) (J6 : List Item → P6 → Option PO) (x0 : List Int) (x1 : List Int) : arun (pg J4 J6) 5000 [.code c0] (mk pin (x0, x1, ())) = F0 (J4 T4) x0 x1 := by kernel_rfl
theorem seg4 (J4 : List Item → P4 → Option PO) (J6 : List Item → P6 → Option PO) (t0 : List Int) (t1 : List Int) (t5 : Int) : arun1 (pg J4 J6) 5000 T4 (mk p4 (t0, t1, t5, ())) = F4 (J6 T6) t0 t1 t5 := by kernel_rfl
theorem seg6 (J4 : List Item → P4 → Option PO) (J6 : List Item → P6 → Option PO) (t0 : List Int) (t1 : List Int) (t5 : Int) : arunQ (pg J4 J6) q [] [] 5000 T6 (mk p6 (t0, t1, t5, ())) = List.replicate (arunQ (pg J4 J6) q [] [] 5000 T6 (mk p6 (t0, t1, t5, ()))).length (F6 (J4 T4) t0 t1 t5) := by kernel_rfl
noncomputable def L6 (J4 : P4 → Option PO) : P6 → Option PO := fun x => F6 J4 x.1 x.2.1 x.2.2.1
noncomputable def L4 : P4 → Option PO := lfp fun J4 x => F4 (L6 J4) x.1 x.2.1 x.2.2.1
noncomputable def impl : PI → Option PO := fun x => F0 L4 x.1 x.2.1
theorem F6_le {J4 J4' : P4 → Option PO} (h4 : OLe J4 J4') (t0 : List Int) (t1 : List Int) (t5 : Int) : OptLe (F6 J4 t0 t1 t5) (F6 J4' t0 t1 t5) := by unfold F6; exact .cond (.cond (.cond (.refl _) (.of h4 _)) (.refl _)) (.refl _)
theorem F4_le {J6 J6' : P6 → Option PO} (h6 : OLe J6 J6') (t0 : List Int) (t1 : List Int) (t5 : Int) : OptLe (F4 J6 t0 t1 t5) (F4 J6' t0 t1 t5) := by unfold F4; exact .cond (.of h6 _) (.refl _)
theorem L6_eq (J4 : P4 → Option PO) (t0 : List Int) (t1 : List Int) (t5 : Int) : L6 J4 (t0, t1, t5, ()) = F6 J4 t0 t1 t5 := rfl
theorem L6_le {J4 J4' : P4 → Option PO} (h4 : OLe J4 J4') : OLe (L6 J4) (L6 J4') := fun x => F6_le h4 x.1 x.2.1 x.2.2.1
theorem L4_mono : OMono fun J4 (x : P4) => F4 (L6 J4) x.1 x.2.1 x.2.2.1 := fun J J' h4 x => F4_le (L6_le h4) x.1 x.2.1 x.2.2.1
theorem L4_eq (t0 : List Int) (t1 : List Int) (t5 : Int) : L4 (t0, t1, t5, ()) = F4 (L6 (L4)) t0 t1 t5 := congrFun (lfp_eq (L4_mono)) _
theorem impl_eq (x0 : List Int) (x1 : List Int) : impl (x0, x1, ()) = F0 L4 x0 x1 := rfl
theorem con : Con Tryd.prog 30 2 rs.length 2 pin pout impl := by
  refine con_of_run' (nt := 26) (c := c0) tabGood Tryd.func30 (by kernel_rfl) (by kernel_rfl) (by kernel_rfl) (by kernel_rfl) (by kernel_rfl) (by kernel_rfl) (by kernel_rfl) ?_
  intro w0 O y hnp
  generalize hPost : (fun (a' : Act) (w' : World) => ∃ μ' S' st', Rel 26 w0 O μ' S' st' a' w' ∧ endOf (tabOf tab) rs 2 pout st' = some y) = Post
  have fin : ∀ (μ : Id → Option Value) (S : Nat → Prop) (st : St) (a : Act) (w : World), Rel 26 w0 O μ S st a w → endOf (tabOf tab) rs 2 pout st = some y → Post a w := fun μ S st a w h he => by rw [← hPost]; exact ⟨μ, S, st, h, he⟩
  have hp : ∀ (J4 : List Item → P4 → Option PO), ∀ (J6 : List Item → P6 → Option PO), Parts Tryd.prog 30 (pg J4 J6) [(4, cut p4 J4), (6, cut p6 J6)] := fun J4 J6 => ⟨tab_ok tabGood rfl, handNil_ok, rfl⟩
  have g6 : ∀ (J4 : P4 → Option PO), Good Tryd.prog 26 w0 O Post y T4 p4 J4 → Good Tryd.prog 26 w0 O Post y T6 p6 (L6 J4) := fun J4 h4 => good_quiet (hs := hd) (cv' := hd) (Checked.mixed Tryd.checked) (hp (atT T4 J4) (atT T6 (fun _ => none))) handNil_D handNil_nat handNil_nat (runOK_of (hp (atT T4 J4) (atT T6 (fun _ => none))) hnp ⟨cutOK_at h4, cutOK_at (p := p6) (T := T6) (J := fun _ => none) good_none, trivial⟩ fin) (fun x => all_same ⟨_, (seg6 (atT T4 J4) (atT T6 (fun _ => none)) x.1 x.2.1 x.2.2.1).trans (by simp only [atT_self] <;> rfl)⟩)
  have g4 : Good Tryd.prog 26 w0 O Post y T4 p4 L4 := good_lfp fun J4 h4 => good_part (hp (atT T4 (fun _ => none)) (atT T6 (L6 J4))) (runOK_of (hp (atT T4 (fun _ => none)) (atT T6 (L6 J4))) hnp ⟨cutOK_at (p := p4) (T := T4) (J := fun _ => none) good_none, cutOK_at (g6 J4 h4), trivial⟩ fin) (fun x => (seg4 (atT T4 (fun _ => none)) (atT T6 (L6 J4)) x.1 x.2.1 x.2.2.1).trans (by simp only [atT_self] <;> rfl))
  exact good_first (hp (atT T4 L4) (atT T6 (fun _ => none))) (runOK_of (hp (atT T4 L4) (atT T6 (fun _ => none))) hnp ⟨cutOK_at g4, cutOK_at (p := p6) (T := T6) (J := fun _ => none) good_none, trivial⟩ fin) (fun x => (seg0 (atT T4 L4) (atT T6 (fun _ => none)) x.1 x.2.1).trans (by simp only [atT_self] <;> rfl))
end laws_eqIntS

/-! ### loop.example/wholecheck/laws.eqTermSS -/
namespace laws_eqTermSS
noncomputable abbrev c0 : Code := (Tryd.f93.body).getD .skip
noncomputable abbrev pin : Tpl := ⟨[⟨0, false, [.d (.sl (.sl (.prod (.int .i64) (.prod (.int .i64) (.prod (.int .i64) (.last (.int .i64)))))))]⟩, ⟨1, false, [.d (.sl (.sl (.prod (.int .i64) (.prod (.int .i64) (.prod (.int .i64) (.last (.int .i64)))))))]⟩], []⟩
noncomputable abbrev pout : Tpl := ⟨[⟨0, false, [.d .bool]⟩], []⟩
noncomputable abbrev p4 : Tpl := ⟨[⟨0, false, [.d (.sl (.sl (.prod (.int .i64) (.prod (.int .i64) (.prod (.int .i64) (.last (.int .i64)))))))]⟩, ⟨1, false, [.d (.sl (.sl (.prod (.int .i64) (.prod (.int .i64) (.prod (.int .i64) (.last (.int .i64)))))))]⟩, ⟨5, false, [.d (.int .i64)]⟩], []⟩
noncomputable def T4 : List Item := (find 4 c0 []).getD []
noncomputable abbrev p6 : Tpl := ⟨[⟨0, false, [.d (.sl (.sl (.prod (.int .i64) (.prod (.int .i64) (.prod (.int .i64) (.last (.int .i64)))))))]⟩, ⟨1, false, [.d (.sl (.sl (.prod (.int .i64) (.prod (.int .i64) (.prod (.int .i64) (.last (.int .i64)))))))]⟩, ⟨5, false, [.d (.int .i64)]⟩], []⟩
noncomputable def T6 : List Item := (find 6 c0 []).getD []
noncomputable abbrev PI := (List (List (Int × Int × Int × Int))) × (List (List (Int × Int × Int × Int))) × Unit
noncomputable abbrev PO := Bool × Unit
noncomputable abbrev P4 := (List (List (Int × Int × Int × Int))) × (List (List (Int × Int × Int × Int))) × Int × Unit
noncomputable abbrev P6 := (List (List (Int × Int × Int × Int))) × (List (List (Int × Int × Int × Int))) × Int × Unit
noncomputable abbrev rs : List ResultVar := [.tmp 4]
noncomputable def F0 (J4 : P4 → Option PO) (x0 : List (List (Int × Int × Int × Int))) (x1 : List (List (Int × Int × Int × Int))) : Option PO :=
  bif (x0.length : Int) != (x1.length : Int) then
    some (false, ())
  else
    J4 (x0, x1, 0, ())
noncomputable def F4 (J6 : P6 → Option PO) (t0 : List (List (Int × Int × Int × Int))) (t1 : List (List (Int × Int × Int × Int))) (t5 : Int) : Option PO :=
  bif decide (t5 < (t0.length : Int)) then
    J6 (t0, t1, t5, ())
  else
    some (true, ())
noncomputable def F6 (J4 : P4 → Option PO) (Glaws_eqTermS : laws_eqTermS.PI → Option laws_eqTermS.PO) (t0 : List (List (Int × Int × Int × Int))) (t1 : List (List (Int × Int × Int × Int))) (t5 : Int) : Option PO :=
  bif inb t5 t0.length then
    bif inb t5 t1.length then
      Option.bind (Glaws_eqTermS (t0.getD t5.toNat [], t1.getD t5.toNat [], ())) fun y0 =>
      bif !y0.1 then
        some (false, ())
      else
        J4 (t0, t1, wI (t5 + 1), ())
    else
      none
  else
    none
noncomputable def hd {R : Type} (Glaws_eqTermS : laws_eqTermS.PI → Option laws_eqTermS.PO) : Hand R := (handAt 35 [25] true ⟨2, 1, 2, laws_eqTermS.pin, laws_eqTermS.pout, Glaws_eqTermS⟩ handNil)
noncomputable def pg (Glaws_eqTermS : laws_eqTermS.PI → Option laws_eqTermS.PO) (J4 : List Item → P4 → Option PO) (J6 : List Item → P6 → Option PO) : Prog PO := { nt := 27, np := 2, tb := tabOf tab, hd := hd Glaws_eqTermS, cuts := cutsOf [(4, cut p4 J4), (6, cut p6 J6)], fin := endOf (tabOf tab) rs 2 pout }
noncomputable def q : FuncId → Bool := fun f => hasId [35] f
theorem seg0 (Glaws_eqTermS : laws_eqTermS.PI → Option laws_eqTermS.PO) (J4 : List Item → P4 → Option PO) (J6 : List Item → P6 → Option PO) (x0 : List (List (Int × Int × Int × Int))) (x1 : List (List (Int × Int × Int × Int))) : arun (pg Glaws_eqTermS J4 J6) 5000 [.code c0] (mk pin (x0, x1, ())) = F0 (J4 T4) x0 x1 := by kernel_rfl
theorem seg4 (Glaws_eqTermS : laws_eqTermS.PI → Option laws_eqTermS.PO) (J4 : List Item → P4 → Option PO) (J6 : List Item → P6 → Option PO) (t0 : List (List (Int × Int × Int × Int))) (t1 : List (List (Int × Int × Int × Int))) (t5 : Int) : arun1 (pg Glaws_eqTermS J4 J6) 5000 T4 (mk p4 (t0, t1, t5, ())) = F4 (J6 T6) t0 t1 t5 := by kernel_rfl
theorem seg6 (Glaws_eqTermS : laws_eqTermS.PI → Option laws_eqTermS.PO) (J4 : List Item → P4 → Option PO) (J6 : List Item → P6 → Option PO) (t0 : List (List (Int × Int × Int × Int))) (t1 : List (List (Int × Int × Int × Int))) (t5 : Int) : arunQ (pg Glaws_eqTermS J4 J6) q [] [] 5000 T6 (mk p6 (t0, t1, t5, ())) = List.replicate (arunQ (pg Glaws_eqTermS J4 J6) q [] [] 5000 T6 (mk p6 (t0, t1, t5, ()))).length (F6 (J4 T4) Glaws_eqTermS t0 t1 t5) := by kernel_rfl
noncomputable def L6 (J4 : P4 → Option PO) : P6 → Option PO := fun x => F6 J4 laws_eqTermS.impl x.1 x.2.1 x.2.2.1
noncomputable def L4 : P4 → Option PO := lfp fun J4 x => F4 (L6 J4) x.1 x.2.1 x.2.2.1
noncomputable def impl : PI → Option PO := fun x => F0 L4 x.1 x.2.1
theorem F6_le {J4 J4' : P4 → Option PO} (h4 : OLe J4 J4') {Glaws_eqTermS : laws_eqTermS.PI → Option laws_eqTermS.PO} (t0 : List (List (Int × Int × Int × Int))) (t1 : List (List (Int × Int × Int × Int))) (t5 : Int) : OptLe (F6 J4 Glaws_eqTermS t0 t1 t5) (F6 J4' Glaws_eqTermS t0 t1 t5) := by unfold F6; exact .cond (.cond (.bind (.refl _) fun _ => .cond (.refl _) (.of h4 _)) (.refl _)) (.refl _)
theorem F4_le {J6 J6' : P6 → Option PO} (h6 : OLe J6 J6') (t0 : List (List (Int × Int × Int × Int))) (t1 : List (List (Int × Int × Int × Int))) (t5 : Int) : OptLe (F4 J6 t0 t1 t5) (F4 J6' t0 t1 t5) := by unfold F4; exact .cond (.of h6 _) (.refl _)
theorem L6_eq (J4 : P4 → Option PO) (t0 : List (List (Int × Int × Int × Int))) (t1 : List (List (Int × Int × Int × Int))) (t5 : Int) : L6 J4 (t0, t1, t5, ()) = F6 J4 laws_eqTermS.impl t0 t1 t5 := rfl
theorem L6_le {J4 J4' : P4 → Option PO} (h4 : OLe J4 J4') : OLe (L6 J4) (L6 J4') := fun x => F6_le h4 x.1 x.2.1 x.2.2.1
theorem L4_mono : OMono fun J4 (x : P4) => F4 (L6 J4) x.1 x.2.1 x.2.2.1 := fun J J' h4 x => F4_le (L6_le h4) x.1 x.2.1 x.2.2.1
theorem L4_eq (t0 : List (List (Int × Int × Int × Int))) (t1 : List (List (Int × Int × Int × Int))) (t5 : Int) : L4 (t0, t1, t5, ()) = F4 (L6 (L4)) t0 t1 t5 := congrFun (lfp_eq (L4_mono)) _
theorem impl_eq (x0 : List (List (Int × Int × Int × Int))) (x1 : List (List (Int × Int × Int × Int))) : impl (x0, x1, ()) = F0 L4 x0 x1 := rfl
theorem con : Con Tryd.prog 93 2 rs.length 2 pin pout impl := by
  refine con_of_run' (nt := 27) (c := c0) tabGood Tryd.func93 (by kernel_rfl) (by kernel_rfl) (by kernel_rfl) (by kernel_rfl) (by kernel_rfl) (by kernel_rfl) (by kernel_rfl) ?_
  intro w0 O y hnp
  generalize hPost : (fun (a' : Act) (w' : World) => ∃ μ' S' st', Rel 27 w0 O μ' S' st' a' w' ∧ endOf (tabOf tab) rs 2 pout st' = some y) = Post
  have fin : ∀ (μ : Id → Option Value) (S : Nat → Prop) (st : St) (a : Act) (w : World), Rel 27 w0 O μ S st a w → endOf (tabOf tab) rs 2 pout st = some y → Post a w := fun μ S st a w h he => by rw [← hPost]; exact ⟨μ, S, st, h, he⟩
  have hp : ∀ (J4 : List Item → P4 → Option PO), ∀ (J6 : List Item → P6 → Option PO), Parts Tryd.prog 93 (pg laws_eqTermS.impl J4 J6) [(4, cut p4 J4), (6, cut p6 J6)] := fun J4 J6 => ⟨tab_ok tabGood rfl, (handAt_ok laws_eqTermS.con handNil_ok), rfl⟩
  have g6 : ∀ (J4 : P4 → Option PO), Good Tryd.prog 27 w0 O Post y T4 p4 J4 → Good Tryd.prog 27 w0 O Post y T6 p6 (L6 J4) := fun J4 h4 => good_quiet (hs := hd laws_eqTermS.impl) (cv' := hd laws_eqTermS.impl) (Checked.mixed Tryd.checked) (hp (atT T4 J4) (atT T6 (fun _ => none))) (handAt_D laws_eqTermS.con (by rfl) rfl handNil_D) (handAt_nat handNil_nat) (handAt_nat handNil_nat) (runOK_of (hp (atT T4 J4) (atT T6 (fun _ => none))) hnp ⟨cutOK_at h4, cutOK_at (p := p6) (T := T6) (J := fun _ => none) good_none, trivial⟩ fin) (fun x => all_same ⟨_, (seg6 laws_eqTermS.impl (atT T4 J4) (atT T6 (fun _ => none)) x.1 x.2.1 x.2.2.1).trans (by simp only [atT_self] <;> rfl)⟩)
  have g4 : Good Tryd.prog 27 w0 O Post y T4 p4 L4 := good_lfp fun J4 h4 => good_part (hp (atT T4 (fun _ => none)) (atT T6 (L6 J4))) (runOK_of (hp (atT T4 (fun _ => none)) (atT T6 (L6 J4))) hnp ⟨cutOK_at (p := p4) (T := T4) (J := fun _ => none) good_none, cutOK_at (g6 J4 h4), trivial⟩ fin) (fun x => (seg4 laws_eqTermS.impl (atT T4 (fun _ => none)) (atT T6 (L6 J4)) x.1 x.2.1 x.2.2.1).trans (by simp only [atT_self] <;> rfl))
  exact good_first (hp (atT T4 L4) (atT T6 (fun _ => none))) (runOK_of (hp (atT T4 L4) (atT T6 (fun _ => none))) hnp ⟨cutOK_at g4, cutOK_at (p := p6) (T := T6) (J := fun _ => none) good_none, trivial⟩ fin) (fun x => (seg0 laws_eqTermS.impl (atT T4 L4) (atT T6 (fun _ => none)) x.1 x.2.1).trans (by simp only [atT_self] <;> rfl))
end laws_eqTermSS

/-! ### loop.example/wholecheck/laws.eqRule -/
namespace laws_eqRule
noncomputable abbrev c0 : Code := (Tryd.f167.body).getD .skip
noncomputable abbrev pin : Tpl := ⟨[⟨0, true, [.d (.prod (.sl (.prod (.int .i64) (.prod (.int .i64) (.prod (.int .i64) (.last (.int .i64)))))) (.prod (.sl (.int .i64)) (.last (.sl (.sl (.prod (.int .i64) (.prod (.int .i64) (.prod (.int .i64) (.last (.int .i64))))))))))]⟩, ⟨1, true, [.d (.prod (.sl (.prod (.int .i64) (.prod (.int .i64) (.prod (.int .i64) (.last (.int .i64)))))) (.prod (.sl (.int .i64)) (.last (.sl (.sl (.prod (.int .i64) (.prod (.int .i64) (.prod (.int .i64) (.last (.int .i64))))))))))]⟩], []⟩
noncomputable abbrev pout : Tpl := ⟨[⟨0, false, [.d .bool]⟩], []⟩
noncomputable abbrev PI := ((List (Int × Int × Int × Int)) × (List Int) × List (List (Int × Int × Int × Int))) × ((List (Int × Int × Int × Int)) × (List Int) × List (List (Int × Int × Int × Int))) × Unit
noncomputable abbrev PO := Bool × Unit
noncomputable abbrev rs : List ResultVar := [.tmp 4]
noncomputable def F0 (Glaws_eqIntS : laws_eqIntS.PI → Option laws_eqIntS.PO) (Glaws_eqTermS : laws_eqTermS.PI → Option laws_eqTermS.PO) (Glaws_eqTermSS : laws_eqTermSS.PI → Option laws_eqTermSS.PO) (x0 : (List (Int × Int × Int × Int)) × (List Int) × List (List (Int × Int × Int × Int))) (x1 : (List (Int × Int × Int × Int)) × (List Int) × List (List (Int × Int × Int × Int))) : Option PO :=
  Option.bind (Glaws_eqTermS (x0.1, x1.1, ())) fun y0 =>
  bif !y0.1 then
    some (false, ())
  else
    Option.bind (Glaws_eqIntS (x0.2.1, x1.2.1, ())) fun y1 =>
    bif !y1.1 then
      some (false, ())
    else
      Option.bind (Glaws_eqTermSS (x0.2.2, x1.2.2, ())) fun y2 =>
      bif !y2.1 then
        some (false, ())
      else
        some (true, ())
noncomputable def hd {R : Type} (Glaws_eqIntS : laws_eqIntS.PI → Option laws_eqIntS.PO) (Glaws_eqTermS : laws_eqTermS.PI → Option laws_eqTermS.PO) (Glaws_eqTermSS : laws_eqTermSS.PI → Option laws_eqTermSS.PO) : Hand R := (handAt 93 [21] true ⟨2, 1, 2, laws_eqTermSS.pin, laws_eqTermSS.pout, Glaws_eqTermSS⟩ (handAt 35 [9] true ⟨2, 1, 2, laws_eqTermS.pin, laws_eqTermS.pout, Glaws_eqTermS⟩ (handAt 30 [15] true ⟨2, 1, 2, laws_eqIntS.pin, laws_eqIntS.pout, Glaws_eqIntS⟩ handNil)))
noncomputable def pg (Glaws_eqIntS : laws_eqIntS.PI → Option laws_eqIntS.PO) (Glaws_eqTermS : laws_eqTermS.PI → Option laws_eqTermS.PO) (Glaws_eqTermSS : laws_eqTermSS.PI → Option laws_eqTermSS.PO) : Prog PO := { nt := 23, np := 2, tb := tabOf tab, hd := hd Glaws_eqIntS Glaws_eqTermS Glaws_eqTermSS, cuts := cutsOf [], fin := endOf (tabOf tab) rs 2 pout }
noncomputable def q : FuncId → Bool := fun f => hasId [30, 35, 93] f
theorem seg0 (Glaws_eqIntS : laws_eqIntS.PI → Option laws_eqIntS.PO) (Glaws_eqTermS : laws_eqTermS.PI → Option laws_eqTermS.PO) (Glaws_eqTermSS : laws_eqTermSS.PI → Option laws_eqTermSS.PO) (x0 : (List (Int × Int × Int × Int)) × (List Int) × List (List (Int × Int × Int × Int))) (x1 : (List (Int × Int × Int × Int)) × (List Int) × List (List (Int × Int × Int × Int))) : arun (pg Glaws_eqIntS Glaws_eqTermS Glaws_eqTermSS) 5000 [.code c0] (mk pin (x0, x1, ())) = F0 Glaws_eqIntS Glaws_eqTermS Glaws_eqTermSS x0 x1 := by kernel_rfl
noncomputable def impl : PI → Option PO := fun x => F0 laws_eqIntS.impl laws_eqTermS.impl laws_eqTermSS.impl x.1 x.2.1
theorem impl_eq (x0 : (List (Int × Int × Int × Int)) × (List Int) × List (List (Int × Int × Int × Int))) (x1 : (List (Int × Int × Int × Int)) × (List Int) × List (List (Int × Int × Int × Int))) : impl (x0, x1, ()) = F0 laws_eqIntS.impl laws_eqTermS.impl laws_eqTermSS.impl x0 x1 := rfl
theorem con : Con Tryd.prog 167 2 rs.length 2 pin pout impl := by
  refine con_of_run' (nt := 23) (c := c0) tabGood Tryd.func167 (by kernel_rfl) (by kernel_rfl) (by kernel_rfl) (by kernel_rfl) (by kernel_rfl) (by kernel_rfl) (by kernel_rfl) ?_
  intro w0 O y hnp
  generalize hPost : (fun (a' : Act) (w' : World) => ∃ μ' S' st', Rel 23 w0 O μ' S' st' a' w' ∧ endOf (tabOf tab) rs 2 pout st' = some y) = Post
  have fin : ∀ (μ : Id → Option Value) (S : Nat → Prop) (st : St) (a : Act) (w : World), Rel 23 w0 O μ S st a w → endOf (tabOf tab) rs 2 pout st = some y → Post a w := fun μ S st a w h he => by rw [← hPost]; exact ⟨μ, S, st, h, he⟩
  have hp : Parts Tryd.prog 167 (pg laws_eqIntS.impl laws_eqTermS.impl laws_eqTermSS.impl) [] := ⟨tab_ok tabGood rfl, (handAt_ok laws_eqTermSS.con (handAt_ok laws_eqTermS.con (handAt_ok laws_eqIntS.con handNil_ok))), rfl⟩
  exact good_first (hp) (runOK_of (hp) hnp trivial fin) (fun x => (seg0 laws_eqIntS.impl laws_eqTermS.impl laws_eqTermSS.impl x.1 x.2.1))
end laws_eqRule

/-! ### loop.example/wholecheck/laws.eqRuleS -/
namespace laws_eqRuleS
noncomputable abbrev c0 : Code := (Tryd.f139.body).getD .skip
noncomputable abbrev pin : Tpl := ⟨[⟨0, false, [.d (.sl (.prod (.sl (.prod (.int .i64) (.prod (.int .i64) (.prod (.int .i64) (.last (.int .i64)))))) (.prod (.sl (.int .i64)) (.last (.sl (.sl (.prod (.int .i64) (.prod (.int .i64) (.prod (.int .i64) (.last (.int .i64)))))))))))]⟩, ⟨1, false, [.d (.sl (.prod (.sl (.prod (.int .i64) (.prod (.int .i64) (.prod (.int .i64) (.last (.int .i64)))))) (.prod (.sl (.int .i64)) (.last (.sl (.sl (.prod (.int .i64) (.prod (.int .i64) (.prod (.int .i64) (.last (.int .i64)))))))))))]⟩], []⟩
noncomputable abbrev pout : Tpl := ⟨[⟨0, false, [.d .bool]⟩], []⟩
noncomputable abbrev p4 : Tpl := ⟨[⟨0, false, [.d (.sl (.prod (.sl (.prod (.int .i64) (.prod (.int .i64) (.prod (.int .i64) (.last (.int .i64)))))) (.prod (.sl (.int .i64)) (.last (.sl (.sl (.prod (.int .i64) (.prod (.int .i64) (.prod (.int .i64) (.last (.int .i64)))))))))))]⟩, ⟨1, false, [.d (.sl (.prod (.sl (.prod (.int .i64) (.prod (.int .i64) (.prod (.int .i64) (.last (.int .i64)))))) (.prod (.sl (.int .i64)) (.last (.sl (.sl (.prod (.int .i64) (.prod (.int .i64) (.prod (.int .i64) (.last (.int .i64)))))))))))]⟩, ⟨5, false, [.d (.int .i64)]⟩], []⟩
noncomputable def T4 : List Item := (find 4 c0 []).getD []
noncomputable abbrev p6 : Tpl := ⟨[⟨0, false, [.d (.sl (.prod (.sl (.prod (.int .i64) (.prod (.int .i64) (.prod (.int .i64) (.last (.int .i64)))))) (.prod (.sl (.int .i64)) (.last (.sl (.sl (.prod (.int .i64) (.prod (.int .i64) (.prod (.int .i64) (.last (.int .i64)))))))))))]⟩, ⟨1, false, [.d (.sl (.prod (.sl (.prod (.int .i64) (.prod (.int .i64) (.prod (.int .i64) (.last (.int .i64)))))) (.prod (.sl (.int .i64)) (.last (.sl (.sl (.prod (.int .i64) (.prod (.int .i64) (.prod (.int .i64) (.last (.int .i64)))))))))))]⟩, ⟨5, false, [.d (.int .i64)]⟩], []⟩
noncomputable def T6 : List Item := (find 6 c0 []).getD []
noncomputable abbrev PI := (List ((List (Int × Int × Int × Int)) × (List Int) × List (List (Int × Int × Int × Int)))) × (List ((List (Int × Int × Int × Int)) × (List Int) × List (List (Int × Int × Int × Int)))) × Unit
noncomputable abbrev PO := Bool × Unit
noncomputable abbrev P4 := (List ((List (Int × Int × Int × Int)) × (List Int) × List (List (Int × Int × Int × Int)))) × (List ((List (Int × Int × Int × Int)) × (List Int) × List (List (Int × Int × Int × Int)))) × Int × Unit
noncomputable abbrev P6 := (List ((List (Int × Int × Int × Int)) × (List Int) × List (List (Int × Int × Int × Int)))) × (List ((List (Int × Int × Int × Int)) × (List Int) × List (List (Int × Int × Int × Int)))) × Int × Unit
noncomputable abbrev rs : List ResultVar := [.tmp 4]
noncomputable def F0 (J4 : P4 → Option PO) (x0 : List ((List (Int × Int × Int × Int)) × (List Int) × List (List (Int × Int × Int × Int)))) (x1 : List ((List (Int × Int × Int × Int)) × (List Int) × List (List (Int × Int × Int × Int)))) : Option PO :=
  bif (x0.length : Int) != (x1.length : Int) then
    some (false, ())
  else
    J4 (x0, x1, 0, ())
noncomputable def F4 (J6 : P6 → Option PO) (t0 : List ((List (Int × Int × Int × Int)) × (List Int) × List (List (Int × Int × Int × Int)))) (t1 : List ((List (Int × Int × Int × Int)) × (List Int) × List (List (Int × Int × Int × Int)))) (t5 : Int) : Option PO :=
  bif decide (t5 < (t0.length : Int)) then
    J6 (t0, t1, t5, ())
  else
    some (true, ())
noncomputable def F6 (J4 : P4 → Option PO) (Glaws_eqRule : laws_eqRule.PI → Option laws_eqRule.PO) (t0 : List ((List (Int × Int × Int × Int)) × (List Int) × List (List (Int × Int × Int × Int)))) (t1 : List ((List (Int × Int × Int × Int)) × (List Int) × List (List (Int × Int × Int × Int)))) (t5 : Int) : Option PO :=
  bif inb t5 t0.length then
    bif inb t5 t1.length then
      Option.bind (Glaws_eqRule (t0.getD t5.toNat ([], [], []), t1.getD t5.toNat ([], [], []), ())) fun y0 =>
      bif !y0.1 then
        some (false, ())
      else
        J4 (t0, t1, wI (t5 + 1), ())
    else
      none
  else
    none
noncomputable def hd {R : Type} (Glaws_eqRule : laws_eqRule.PI → Option laws_eqRule.PO) : Hand R := (handAt 167 [25] true ⟨2, 1, 2, laws_eqRule.pin, laws_eqRule.pout, Glaws_eqRule⟩ handNil)
noncomputable def pg (Glaws_eqRule : laws_eqRule.PI → Option laws_eqRule.PO) (J4 : List Item → P4 → Option PO) (J6 : List Item → P6 → Option PO) : Prog PO := { nt := 27, np := 2, tb := tabOf tab, hd := hd Glaws_eqRule, cuts := cutsOf [(4, cut p4 J4), (6, cut p6 J6)], fin := endOf (tabOf tab) rs 2 pout }
noncomputable def q : FuncId → Bool := fun f => hasId [167] f
theorem seg0 (Glaws_eqRule : laws_eqRule.PI → Option laws_eqRule.PO) (J4 : List Item → P4 → Option PO) (J6 : List Item → P6 → Option PO) (x0 : List ((List (Int × Int × Int × Int)) × (List Int) × List (List (Int × Int × Int × Int)))) (x1 : List ((List (Int × Int × Int × Int)) × (List Int) × List (List (Int × Int × Int × Int)))) : arun (pg Glaws_eqRule J4 J6) 5000 [.code c0] (mk pin (x0, x1, ())) = F0 (J4 T4) x0 x1 := by kernel_rfl
theorem seg4 (Glaws_eqRule : laws_eqRule.PI → Option laws_eqRule.PO) (J4 : List Item → P4 → Option PO) (J6 : List Item → P6 → Option PO) (t0 : List ((List (Int × Int × Int × Int)) × (List Int) × List (List (Int × Int × Int × Int)))) (t1 : List ((List (Int × Int × Int × Int)) × (List Int) × List (List (Int × Int × Int × Int)))) (t5 : Int) : arun1 (pg Glaws_eqRule J4 J6) 5000 T4 (mk p4 (t0, t1, t5, ())) = F4 (J6 T6) t0 t1 t5 := by kernel_rfl
theorem seg6 (Glaws_eqRule : laws_eqRule.PI → Option laws_eqRule.PO) (J4 : List Item → P4 → Option PO) (J6 : List Item → P6 → Option PO) (t0 : List ((List (Int × Int × Int × Int)) × (List Int) × List (List (Int × Int × Int × Int)))) (t1 : List ((List (Int × Int × Int × Int)) × (List Int) × List (List (Int × Int × Int × Int)))) (t5 : Int) : arunQ (pg Glaws_eqRule J4 J6) q [] [] 5000 T6 (mk p6 (t0, t1, t5, ())) = List.replicate (arunQ (pg Glaws_eqRule J4 J6) q [] [] 5000 T6 (mk p6 (t0, t1, t5, ()))).length (F6 (J4 T4) Glaws_eqRule t0 t1 t5) := by kernel_rfl
noncomputable def L6 (J4 : P4 → Option PO) : P6 → Option PO := fun x => F6 J4 laws_eqRule.impl x.1 x.2.1 x.2.2.1
noncomputable def L4 : P4 → Option PO := lfp fun J4 x => F4 (L6 J4) x.1 x.2.1 x.2.2.1
noncomputable def impl : PI → Option PO := fun x => F0 L4 x.1 x.2.1
theorem F6_le {J4 J4' : P4 → Option PO} (h4 : OLe J4 J4') {Glaws_eqRule : laws_eqRule.PI → Option laws_eqRule.PO} (t0 : List ((List (Int × Int × Int × Int)) × (List Int) × List (List (Int × Int × Int × Int)))) (t1 : List ((List (Int × Int × Int × Int)) × (List Int) × List (List (Int × Int × Int × Int)))) (t5 : Int) : OptLe (F6 J4 Glaws_eqRule t0 t1 t5) (F6 J4' Glaws_eqRule t0 t1 t5) := by unfold F6; exact .cond (.cond (.bind (.refl _) fun _ => .cond (.refl _) (.of h4 _)) (.refl _)) (.refl _)
theorem F4_le {J6 J6' : P6 → Option PO} (h6 : OLe J6 J6') (t0 : List ((List (Int × Int × Int × Int)) × (List Int) × List (List (Int × Int × Int × Int)))) (t1 : List ((List (Int × Int × Int × Int)) × (List Int) × List (List (Int × Int × Int × Int)))) (t5 : Int) : OptLe (F4 J6 t0 t1 t5) (F4 J6' t0 t1 t5) := by unfold F4; exact .cond (.of h6 _) (.refl _)
theorem L6_eq (J4 : P4 → Option PO) (t0 : List ((List (Int × Int × Int × Int)) × (List Int) × List (List (Int × Int × Int × Int)))) (t1 : List ((List (Int × Int × Int × Int)) × (List Int) × List (List (Int × Int × Int × Int)))) (t5 : Int) : L6 J4 (t0, t1, t5, ()) = F6 J4 laws_eqRule.impl t0 t1 t5 := rfl
theorem L6_le {J4 J4' : P4 → Option PO} (h4 : OLe J4 J4') : OLe (L6 J4) (L6 J4') := fun x => F6_le h4 x.1 x.2.1 x.2.2.1
theorem L4_mono : OMono fun J4 (x : P4) => F4 (L6 J4) x.1 x.2.1 x.2.2.1 := fun J J' h4 x => F4_le (L6_le h4) x.1 x.2.1 x.2.2.1
theorem L4_eq (t0 : List ((List (Int × Int × Int × Int)) × (List Int) × List (List (Int × Int × Int × Int)))) (t1 : List ((List (Int × Int × Int × Int)) × (List Int) × List (List (Int × Int × Int × Int)))) (t5 : Int) : L4 (t0, t1, t5, ()) = F4 (L6 (L4)) t0 t1 t5 := congrFun (lfp_eq (L4_mono)) _
theorem impl_eq (x0 : List ((List (Int × Int × Int × Int)) × (List Int) × List (List (Int × Int × Int × Int)))) (x1 : List ((List (Int × Int × Int × Int)) × (List Int) × List (List (Int × Int × Int × Int)))) : impl (x0, x1, ()) = F0 L4 x0 x1 := rfl
theorem con : Con Tryd.prog 139 2 rs.length 2 pin pout impl := by
  refine con_of_run' (nt := 27) (c := c0) tabGood Tryd.func139 (by kernel_rfl) (by kernel_rfl) (by kernel_rfl) (by kernel_rfl) (by kernel_rfl) (by kernel_rfl) (by kernel_rfl) ?_
  intro w0 O y hnp
  generalize hPost : (fun (a' : Act) (w' : World) => ∃ μ' S' st', Rel 27 w0 O μ' S' st' a' w' ∧ endOf (tabOf tab) rs 2 pout st' = some y) = Post
  have fin : ∀ (μ : Id → Option Value) (S : Nat → Prop) (st : St) (a : Act) (w : World), Rel 27 w0 O μ S st a w → endOf (tabOf tab) rs 2 pout st = some y → Post a w := fun μ S st a w h he => by rw [← hPost]; exact ⟨μ, S, st, h, he⟩
  have hp : ∀ (J4 : List Item → P4 → Option PO), ∀ (J6 : List Item → P6 → Option PO), Parts Tryd.prog 139 (pg laws_eqRule.impl J4 J6) [(4, cut p4 J4), (6, cut p6 J6)] := fun J4 J6 => ⟨tab_ok tabGood rfl, (handAt_ok laws_eqRule.con handNil_ok), rfl⟩
  have g6 : ∀ (J4 : P4 → Option PO), Good Tryd.prog 27 w0 O Post y T4 p4 J4 → Good Tryd.prog 27 w0 O Post y T6 p6 (L6 J4) := fun J4 h4 => good_quiet (hs := hd laws_eqRule.impl) (cv' := hd laws_eqRule.impl) (Checked.mixed Tryd.checked) (hp (atT T4 J4) (atT T6 (fun _ => none))) (handAt_D laws_eqRule.con (by rfl) rfl handNil_D) (handAt_nat handNil_nat) (handAt_nat handNil_nat) (runOK_of (hp (atT T4 J4) (atT T6 (fun _ => none))) hnp ⟨cutOK_at h4, cutOK_at (p := p6) (T := T6) (J := fun _ => none) good_none, trivial⟩ fin) (fun x => all_same ⟨_, (seg6 laws_eqRule.impl (atT T4 J4) (atT T6 (fun _ => none)) x.1 x.2.1 x.2.2.1).trans (by simp only [atT_self] <;> rfl)⟩)
  have g4 : Good Tryd.prog 27 w0 O Post y T4 p4 L4 := good_lfp fun J4 h4 => good_part (hp (atT T4 (fun _ => none)) (atT T6 (L6 J4))) (runOK_of (hp (atT T4 (fun _ => none)) (atT T6 (L6 J4))) hnp ⟨cutOK_at (p := p4) (T := T4) (J := fun _ => none) good_none, cutOK_at (g6 J4 h4), trivial⟩ fin) (fun x => (seg4 laws_eqRule.impl (atT T4 (fun _ => none)) (atT T6 (L6 J4)) x.1 x.2.1 x.2.2.1).trans (by simp only [atT_self] <;> rfl))
  exact good_first (hp (atT T4 L4) (atT T6 (fun _ => none))) (runOK_of (hp (atT T4 L4) (atT T6 (fun _ => none))) hnp ⟨cutOK_at g4, cutOK_at (p := p6) (T := T6) (J := fun _ => none) good_none, trivial⟩ fin) (fun x => (seg0 laws_eqRule.impl (atT T4 L4) (atT T6 (fun _ => none)) x.1 x.2.1).trans (by simp only [atT_self] <;> rfl))
end laws_eqRuleS

/-! ### loop.example/wholecheck/laws.eqSystem -/
namespace laws_eqSystem
noncomputable abbrev c0 : Code := (Tryd.f92.body).getD .skip
noncomputable abbrev pin : Tpl := ⟨[⟨0, true, [.d (.prod (.sl (.prod (.int .i64) (.prod (.int .i64) (.last (.int .i64))))) (.last (.sl (.prod (.sl (.prod (.int .i64) (.prod (.int .i64) (.prod (.int .i64) (.last (.int .i64)))))) (.prod (.sl (.int .i64)) (.last (.sl (.sl (.prod (.int .i64) (.prod (.int .i64) (.prod (.int .i64) (.last (.int .i64)))))))))))))]⟩, ⟨1, true, [.d (.prod (.sl (.prod (.int .i64) (.prod (.int .i64) (.last (.int .i64))))) (.last (.sl (.prod (.sl (.prod (.int .i64) (.prod (.int .i64) (.prod (.int .i64) (.last (.int .i64)))))) (.prod (.sl (.int .i64)) (.last (.sl (.sl (.prod (.int .i64) (.prod (.int .i64) (.prod (.int .i64) (.last (.int .i64)))))))))))))]⟩], []⟩
noncomputable abbrev pout : Tpl := ⟨[⟨0, false, [.d .bool]⟩], []⟩
noncomputable abbrev PI := ((List (Int × Int × Int)) × List ((List (Int × Int × Int × Int)) × (List Int) × List (List (Int × Int × Int × Int)))) × ((List (Int × Int × Int)) × List ((List (Int × Int × Int × Int)) × (List Int) × List (List (Int × Int × Int × Int)))) × Unit
noncomputable abbrev PO := Bool × Unit
noncomputable abbrev rs : List ResultVar := [.tmp 4]
noncomputable def F0 (Glaws_eqRuleS : laws_eqRuleS.PI → Option laws_eqRuleS.PO) (Glaws_eqVarS : laws_eqVarS.PI → Option laws_eqVarS.PO) (x0 : (List (Int × Int × Int)) × List ((List (Int × Int × Int × Int)) × (List Int) × List (List (Int × Int × Int × Int)))) (x1 : (List (Int × Int × Int)) × List ((List (Int × Int × Int × Int)) × (List Int) × List (List (Int × Int × Int × Int)))) : Option PO :=
  Option.bind (Glaws_eqVarS (x0.1, x1.1, ())) fun y0 =>
  bif !y0.1 then
    some (false, ())
  else
    Option.bind (Glaws_eqRuleS (x0.2, x1.2, ())) fun y1 =>
    bif !y1.1 then
      some (false, ())
    else
      some (true, ())
noncomputable def hd {R : Type} (Glaws_eqRuleS : laws_eqRuleS.PI → Option laws_eqRuleS.PO) (Glaws_eqVarS : laws_eqVarS.PI → Option laws_eqVarS.PO) : Hand R := (handAt 139 [15] true ⟨2, 1, 2, laws_eqRuleS.pin, laws_eqRuleS.pout, Glaws_eqRuleS⟩ (handAt 138 [9] true ⟨2, 1, 2, laws_eqVarS.pin, laws_eqVarS.pout, Glaws_eqVarS⟩ handNil))
noncomputable def pg (Glaws_eqRuleS : laws_eqRuleS.PI → Option laws_eqRuleS.PO) (Glaws_eqVarS : laws_eqVarS.PI → Option laws_eqVarS.PO) : Prog PO := { nt := 17, np := 2, tb := tabOf tab, hd := hd Glaws_eqRuleS Glaws_eqVarS, cuts := cutsOf [], fin := endOf (tabOf tab) rs 2 pout }
noncomputable def q : FuncId → Bool := fun f => hasId [138, 139] f
theorem seg0 (Glaws_eqRuleS : laws_eqRuleS.PI → Option laws_eqRuleS.PO) (Glaws_eqVarS : laws_eqVarS.PI → Option laws_eqVarS.PO) (x0 : (List (Int × Int × Int)) × List ((List (Int × Int × Int × Int)) × (List Int) × List (List (Int × Int × Int × Int)))) (x1 : (List (Int × Int × Int)) × List ((List (Int × Int × Int × Int)) × (List Int) × List (List (Int × Int × Int × Int)))) : arun (pg Glaws_eqRuleS Glaws_eqVarS) 5000 [.code c0] (mk pin (x0, x1, ())) = F0 Glaws_eqRuleS Glaws_eqVarS x0 x1 := by kernel_rfl
noncomputable def impl : PI → Option PO := fun x => F0 laws_eqRuleS.impl laws_eqVarS.impl x.1 x.2.1
theorem impl_eq (x0 : (List (Int × Int × Int)) × List ((List (Int × Int × Int × Int)) × (List Int) × List (List (Int × Int × Int × Int)))) (x1 : (List (Int × Int × Int)) × List ((List (Int × Int × Int × Int)) × (List Int) × List (List (Int × Int × Int × Int)))) : impl (x0, x1, ()) = F0 laws_eqRuleS.impl laws_eqVarS.impl x0 x1 := rfl
theorem con : Con Tryd.prog 92 2 rs.length 2 pin pout impl := by
  refine con_of_run' (nt := 17) (c := c0) tabGood Tryd.func92 (by kernel_rfl) (by kernel_rfl) (by kernel_rfl) (by kernel_rfl) (by kernel_rfl) (by kernel_rfl) (by kernel_rfl) ?_
  intro w0 O y hnp
  generalize hPost : (fun (a' : Act) (w' : World) => ∃ μ' S' st', Rel 17 w0 O μ' S' st' a' w' ∧ endOf (tabOf tab) rs 2 pout st' = some y) = Post
  have fin : ∀ (μ : Id → Option Value) (S : Nat → Prop) (st : St) (a : Act) (w : World), Rel 17 w0 O μ S st a w → endOf (tabOf tab) rs 2 pout st = some y → Post a w := fun μ S st a w h he => by rw [← hPost]; exact ⟨μ, S, st, h, he⟩
  have hp : Parts Tryd.prog 92 (pg laws_eqRuleS.impl laws_eqVarS.impl) [] := ⟨tab_ok tabGood rfl, (handAt_ok laws_eqRuleS.con (handAt_ok laws_eqVarS.con handNil_ok)), rfl⟩
  exact good_first (hp) (runOK_of (hp) hnp trivial fin) (fun x => (seg0 laws_eqRuleS.impl laws_eqVarS.impl x.1 x.2.1))
end laws_eqSystem

/-! ### loop.example/wholecheck/laws.eqModel -/
namespace laws_eqModel
noncomputable abbrev c0 : Code := (Tryd.f40.body).getD .skip
noncomputable abbrev pin : Tpl := ⟨[⟨0, true, [.d (.prod (.sl .str) (.prod (.prod (.sl (.prod (.int .i64) (.prod (.int .i64) (.last (.int .i64))))) (.last (.sl (.prod (.sl (.prod (.int .i64) (.prod (.int .i64) (.prod (.int .i64) (.last (.int .i64)))))) (.prod (.sl (.int .i64)) (.last (.sl (.sl (.prod (.int .i64) (.prod (.int .i64) (.prod (.int .i64) (.last (.int .i64))))))))))))) (.last (.sl (.sl (.prod (.int .i64) (.prod (.int .i64) (.prod (.int .i64) (.last (.int .i64))))))))))]⟩, ⟨1, true, [.d (.prod (.sl .str) (.prod (.prod (.sl (.prod (.int .i64) (.prod (.int .i64) (.last (.int .i64))))) (.last (.sl (.prod (.sl (.prod (.int .i64) (.prod (.int .i64) (.prod (.int .i64) (.last (.int .i64)))))) (.prod (.sl (.int .i64)) (.last (.sl (.sl (.prod (.int .i64) (.prod (.int .i64) (.prod (.int .i64) (.last (.int .i64))))))))))))) (.last (.sl (.sl (.prod (.int .i64) (.prod (.int .i64) (.prod (.int .i64) (.last (.int .i64))))))))))]⟩], []⟩
noncomputable abbrev pout : Tpl := ⟨[⟨0, false, [.d .bool]⟩], []⟩
noncomputable abbrev PI := ((List (List UInt8)) × ((List (Int × Int × Int)) × List ((List (Int × Int × Int × Int)) × (List Int) × List (List (Int × Int × Int × Int)))) × List (List (Int × Int × Int × Int))) × ((List (List UInt8)) × ((List (Int × Int × Int)) × List ((List (Int × Int × Int × Int)) × (List Int) × List (List (Int × Int × Int × Int)))) × List (List (Int × Int × Int × Int))) × Unit
noncomputable abbrev PO := Bool × Unit
noncomputable abbrev rs : List ResultVar := [.tmp 4]
noncomputable def F0 (Glaws_eqStringS : laws_eqStringS.PI → Option laws_eqStringS.PO) (Glaws_eqSystem : laws_eqSystem.PI → Option laws_eqSystem.PO) (Glaws_eqTermSS : laws_eqTermSS.PI → Option laws_eqTermSS.PO) (x0 : (List (List UInt8)) × ((List (Int × Int × Int)) × List ((List (Int × Int × Int × Int)) × (List Int) × List (List (Int × Int × Int × Int)))) × List (List (Int × Int × Int × Int))) (x1 : (List (List UInt8)) × ((List (Int × Int × Int)) × List ((List (Int × Int × Int × Int)) × (List Int) × List (List (Int × Int × Int × Int)))) × List (List (Int × Int × Int × Int))) : Option PO :=
  Option.bind (Glaws_eqStringS (x0.1, x1.1, ())) fun y0 =>
  bif !y0.1 then
    some (false, ())
  else
    Option.bind (Glaws_eqSystem (x0.2.1, x1.2.1, ())) fun y1 =>
    bif !y1.1 then
      some (false, ())
    else
      Option.bind (Glaws_eqTermSS (x0.2.2, x1.2.2, ())) fun y2 =>
      bif !y2.1 then
        some (false, ())
      else
        some (true, ())
noncomputable def hd {R : Type} (Glaws_eqStringS : laws_eqStringS.PI → Option laws_eqStringS.PO) (Glaws_eqSystem : laws_eqSystem.PI → Option laws_eqSystem.PO) (Glaws_eqTermSS : laws_eqTermSS.PI → Option laws_eqTermSS.PO) : Hand R := (handAt 93 [21] true ⟨2, 1, 2, laws_eqTermSS.pin, laws_eqTermSS.pout, Glaws_eqTermSS⟩ (handAt 92 [15] true ⟨2, 1, 2, laws_eqSystem.pin, laws_eqSystem.pout, Glaws_eqSystem⟩ (handAt 15 [9] true ⟨2, 1, 2, laws_eqStringS.pin, laws_eqStringS.pout, Glaws_eqStringS⟩ handNil)))
noncomputable def pg (Glaws_eqStringS : laws_eqStringS.PI → Option laws_eqStringS.PO) (Glaws_eqSystem : laws_eqSystem.PI → Option laws_eqSystem.PO) (Glaws_eqTermSS : laws_eqTermSS.PI → Option laws_eqTermSS.PO) : Prog PO := { nt := 23, np := 2, tb := tabOf tab, hd := hd Glaws_eqStringS Glaws_eqSystem Glaws_eqTermSS, cuts := cutsOf [], fin := endOf (tabOf tab) rs 2 pout }
noncomputable def q : FuncId → Bool := fun f => hasId [15, 92, 93] f
theorem seg0 (Glaws_eqStringS : laws_eqStringS.PI → Option laws_eqStringS.PO) (Glaws_eqSystem : laws_eqSystem.PI → Option laws_eqSystem.PO) (Glaws_eqTermSS : laws_eqTermSS.PI → Option laws_eqTermSS.PO) (x0 : (List (List UInt8)) × ((List (Int × Int × Int)) × List ((List (Int × Int × Int × Int)) × (List Int) × List (List (Int × Int × Int × Int)))) × List (List (Int × Int × Int × Int))) (x1 : (List (List UInt8)) × ((List (Int × Int × Int)) × List ((List (Int × Int × Int × Int)) × (List Int) × List (List (Int × Int × Int × Int)))) × List (List (Int × Int × Int × Int))) : arun (pg Glaws_eqStringS Glaws_eqSystem Glaws_eqTermSS) 5000 [.code c0] (mk pin (x0, x1, ())) = F0 Glaws_eqStringS Glaws_eqSystem Glaws_eqTermSS x0 x1 := by kernel_rfl
noncomputable def impl : PI → Option PO := fun x => F0 laws_eqStringS.impl laws_eqSystem.impl laws_eqTermSS.impl x.1 x.2.1
theorem impl_eq (x0 : (List (List UInt8)) × ((List (Int × Int × Int)) × List ((List (Int × Int × Int × Int)) × (List Int) × List (List (Int × Int × Int × Int)))) × List (List (Int × Int × Int × Int))) (x1 : (List (List UInt8)) × ((List (Int × Int × Int)) × List ((List (Int × Int × Int × Int)) × (List Int) × List (List (Int × Int × Int × Int)))) × List (List (Int × Int × Int × Int))) : impl (x0, x1, ()) = F0 laws_eqStringS.impl laws_eqSystem.impl laws_eqTermSS.impl x0 x1 := rfl
theorem con : Con Tryd.prog 40 2 rs.length 2 pin pout impl := by
  refine con_of_run' (nt := 23) (c := c0) tabGood Tryd.func40 (by kernel_rfl) (by kernel_rfl) (by kernel_rfl) (by kernel_rfl) (by kernel_rfl) (by kernel_rfl) (by kernel_rfl) ?_
  intro w0 O y hnp
  generalize hPost : (fun (a' : Act) (w' : World) => ∃ μ' S' st', Rel 23 w0 O μ' S' st' a' w' ∧ endOf (tabOf tab) rs 2 pout st' = some y) = Post
  have fin : ∀ (μ : Id → Option Value) (S : Nat → Prop) (st : St) (a : Act) (w : World), Rel 23 w0 O μ S st a w → endOf (tabOf tab) rs 2 pout st = some y → Post a w := fun μ S st a w h he => by rw [← hPost]; exact ⟨μ, S, st, h, he⟩
  have hp : Parts Tryd.prog 40 (pg laws_eqStringS.impl laws_eqSystem.impl laws_eqTermSS.impl) [] := ⟨tab_ok tabGood rfl, (handAt_ok laws_eqTermSS.con (handAt_ok laws_eqSystem.con (handAt_ok laws_eqStringS.con handNil_ok))), rfl⟩
  exact good_first (hp) (runOK_of (hp) hnp trivial fin) (fun x => (seg0 laws_eqStringS.impl laws_eqSystem.impl laws_eqTermSS.impl x.1 x.2.1))
end laws_eqModel

/-! ### loop.example/wholecheck/laws.FnExactModelValid -/
namespace laws_FnExactModelValid
noncomputable abbrev c0 : Code := (Tryd.f8.body).getD .skip
noncomputable abbrev pin : Tpl := ⟨[⟨0, true, [.d (.prod (.sl .str) (.prod (.prod (.sl (.prod (.int .i64) (.prod (.int .i64) (.last (.int .i64))))) (.last (.sl (.prod (.sl (.prod (.int .i64) (.prod (.int .i64) (.prod (.int .i64) (.last (.int .i64)))))) (.prod (.sl (.int .i64)) (.last (.sl (.sl (.prod (.int .i64) (.prod (.int .i64) (.prod (.int .i64) (.last (.int .i64))))))))))))) (.last (.sl (.sl (.prod (.int .i64) (.prod (.int .i64) (.prod (.int .i64) (.last (.int .i64))))))))))]⟩], []⟩
noncomputable abbrev pout : Tpl := ⟨[⟨0, false, [.d .bool]⟩], []⟩
noncomputable abbrev p10 : Tpl := ⟨[⟨1, false, [.ptr 3000000 0]⟩, ⟨5, false, [.ptr 3000001 0]⟩], [(3000000, .box [.d (.sl .str), .d (.sl (.prod (.int .i64) (.prod (.int .i64) (.last (.int .i64))))), .d (.sl (.prod (.sl (.prod (.int .i64) (.prod (.int .i64) (.prod (.int .i64) (.last (.int .i64)))))) (.prod (.sl (.int .i64)) (.last (.sl (.sl (.prod (.int .i64) (.prod (.int .i64) (.prod (.int .i64) (.last (.int .i64))))))))))), .d (.sl (.sl (.prod (.int .i64) (.prod (.int .i64) (.prod (.int .i64) (.last (.int .i64)))))))]), (3000001, .box [.row 3000002, .row 3000003, .row 3000004, .row 3000005]), (3000002, .row 9 false .str), (3000003, .row 162 false (.prod (.int .i64) (.prod (.int .i64) (.last (.int .i64))))), (3000004, .row 165 false (.prod (.sl (.prod (.int .i64) (.prod (.int .i64) (.prod (.int .i64) (.last (.int .i64)))))) (.prod (.sl (.int .i64)) (.last (.sl (.sl (.prod (.int .i64) (.prod (.int .i64) (.prod (.int .i64) (.last (.int .i64))))))))))), (3000005, .row 58 false (.sl (.prod (.int .i64) (.prod (.int .i64) (.prod (.int .i64) (.last (.int .i64)))))))]⟩
noncomputable def T10 : List Item := (find 10 c0 []).getD []
noncomputable abbrev PI := ((List (List UInt8)) × ((List (Int × Int × Int)) × List ((List (Int × Int × Int × Int)) × (List Int) × List (List (Int × Int × Int × Int)))) × List (List (Int × Int × Int × Int))) × Unit
noncomputable abbrev PO := Bool × Unit
noncomputable abbrev P10 := (List (List UInt8)) × (List (Int × Int × Int)) × (List ((List (Int × Int × Int × Int)) × (List Int) × List (List (Int × Int × Int × Int)))) × (List (List (Int × Int × Int × Int))) × (List (List UInt8)) × (List (Int × Int × Int)) × (List ((List (Int × Int × Int × Int)) × (List Int) × List (List (Int × Int × Int × Int)))) × (List (List (Int × Int × Int × Int))) × Unit
noncomputable abbrev rs : List ResultVar := [.tmp 2]
noncomputable def F0 (J10 : P10 → Option PO) (Gimpl_ModelValid : impl_ModelValid.PI → Option impl_ModelValid.PO) (Glaws_szModel : laws_szModel.PI → Option laws_szModel.PO) (Glaws_toModel : laws_toModel.PI → Option laws_toModel.PO) (Gspec_ModelValid : spec_ModelValid.PI → Option spec_ModelValid.PO) (x0 : (List (List UInt8)) × ((List (Int × Int × Int)) × List ((List (Int × Int × Int × Int)) × (List Int) × List (List (Int × Int × Int × Int)))) × List (List (Int × Int × Int × Int))) : Option PO :=
  Option.bind (Glaws_szModel (x0, 1048576, ())) fun y0 =>
  bif decide (y0.1 < 0) then
    some (true, ())
  else
    Option.bind (Glaws_toModel (x0, ())) fun y1 =>
    Option.bind (Gspec_ModelValid ((y1.1, (y1.2.1, y1.2.2.1), y1.2.2.2.1), ())) fun y2 =>
    Option.bind (Glaws_toModel (x0, ())) fun y3 =>
    Option.bind (Gimpl_ModelValid ((y3.1, (y3.2.1, y3.2.2.1), y3.2.2.2.1), ())) fun y4 =>
    bif !(y4.1 == y2.1) then
      some (false, ())
    else
      J10 (x0.1, x0.2.1.1, x0.2.1.2, x0.2.2, y3.1, y3.2.1, y3.2.2.1, y3.2.2.2.1, ())
noncomputable def F10 (Glaws_eqModel : laws_eqModel.PI → Option laws_eqModel.PO) (Glaws_toModel : laws_toModel.PI → Option laws_toModel.PO) (b0_0 : List (List UInt8)) (b0_1 : List (Int × Int × Int)) (b0_2 : List ((List (Int × Int × Int × Int)) × (List Int) × List (List (Int × Int × Int × Int)))) (b0_3 : List (List (Int × Int × Int × Int))) (r2 : List (List UInt8)) (r3 : List (Int × Int × Int)) (r4 : List ((List (Int × Int × Int × Int)) × (List Int) × List (List (Int × Int × Int × Int)))) (r5 : List (List (Int × Int × Int × Int))) : Option PO :=
  Option.bind (Glaws_toModel ((b0_0, (b0_1, b0_2), b0_3), ())) fun y5 =>
  Option.bind (Glaws_eqModel ((r2, (r3, r4), r5), (y5.1, (y5.2.1, y5.2.2.1), y5.2.2.2.1), ())) fun y6 =>
  bif !y6.1 then
    some (false, ())
  else
    some (true, ())
noncomputable def hd {R : Type} (Gimpl_ModelValid : impl_ModelValid.PI → Option impl_ModelValid.PO) (Glaws_eqModel : laws_eqModel.PI → Option laws_eqModel.PO) (Glaws_szModel : laws_szModel.PI → Option laws_szModel.PO) (Glaws_toModel : laws_toModel.PI → Option laws_toModel.PO) (Gspec_ModelValid : spec_ModelValid.PI → Option spec_ModelValid.PO) : Hand R := (handAt 40 [25] true ⟨2, 1, 2, laws_eqModel.pin, laws_eqModel.pout, Glaws_eqModel⟩ (handAt 39 [18] true ⟨1, 1, 1, impl_ModelValid.pin, impl_ModelValid.pout, Gimpl_ModelValid⟩ (handAt 38 [13, 16, 24] false ⟨1, 1, 1, laws_toModel.pin, laws_toModel.pout, Glaws_toModel⟩ (handAt 37 [14] true ⟨1, 1, 1, spec_ModelValid.pin, spec_ModelValid.pout, Gspec_ModelValid⟩ (handAt 36 [9] true ⟨2, 1, 1, laws_szModel.pin, laws_szModel.pout, Glaws_szModel⟩ handNil)))))
noncomputable def pg (Gimpl_ModelValid : impl_ModelValid.PI → Option impl_ModelValid.PO) (Glaws_eqModel : laws_eqModel.PI → Option laws_eqModel.PO) (Glaws_szModel : laws_szModel.PI → Option laws_szModel.PO) (Glaws_toModel : laws_toModel.PI → Option laws_toModel.PO) (Gspec_ModelValid : spec_ModelValid.PI → Option spec_ModelValid.PO) (J10 : List Item → P10 → Option PO) : Prog PO := { nt := 27, np := 1, tb := tabOf tab, hd := hd Gimpl_ModelValid Glaws_eqModel Glaws_szModel Glaws_toModel Gspec_ModelValid, cuts := cutsOf [(10, cut p10 J10)], fin := endOf (tabOf tab) rs 1 pout }
noncomputable def q : FuncId → Bool := fun f => hasId [36, 37, 39, 40] f
theorem seg0 (Gimpl_ModelValid : impl_ModelValid.PI → Option impl_ModelValid.PO) (Glaws_eqModel : laws_eqModel.PI → Option laws_eqModel.PO) (Glaws_szModel : laws_szModel.PI → Option laws_szModel.PO) (Glaws_toModel : laws_toModel.PI → Option laws_toModel.PO) (Gspec_ModelValid : spec_ModelValid.PI → Option spec_ModelValid.PO) (J10 : List Item → P10 → Option PO) (x0 : (List (List UInt8)) × ((List (Int × Int × Int)) × List ((List (Int × Int × Int × Int)) × (List Int) × List (List (Int × Int × Int × Int)))) × List (List (Int × Int × Int × Int))) : arun (pg Gimpl_ModelValid Glaws_eqModel Glaws_szModel Glaws_toModel Gspec_ModelValid J10) 5000 [.code c0] (mk pin (x0, ())) = F0 (J10 T10) Gimpl_ModelValid Glaws_szModel Glaws_toModel Gspec_ModelValid x0 := by kernel_rfl
theorem seg10 (Gimpl_ModelValid : impl_ModelValid.PI → Option impl_ModelValid.PO) (Glaws_eqModel : laws_eqModel.PI → Option laws_eqModel.PO) (Glaws_szModel : laws_szModel.PI → Option laws_szModel.PO) (Glaws_toModel : laws_toModel.PI → Option laws_toModel.PO) (Gspec_ModelValid : spec_ModelValid.PI → Option spec_ModelValid.PO) (J10 : List Item → P10 → Option PO) (b0_0 : List (List UInt8)) (b0_1 : List (Int × Int × Int)) (b0_2 : List ((List (Int × Int × Int × Int)) × (List Int) × List (List (Int × Int × Int × Int)))) (b0_3 : List (List (Int × Int × Int × Int))) (r2 : List (List UInt8)) (r3 : List (Int × Int × Int)) (r4 : List ((List (Int × Int × Int × Int)) × (List Int) × List (List (Int × Int × Int × Int)))) (r5 : List (List (Int × Int × Int × Int))) : arunE (pg Gimpl_ModelValid Glaws_eqModel Glaws_szModel Glaws_toModel Gspec_ModelValid J10) 5000 T10 (mk p10 (b0_0, b0_1, b0_2, b0_3, r2, r3, r4, r5, ())) = List.replicate (arunE (pg Gimpl_ModelValid Glaws_eqModel Glaws_szModel Glaws_toModel Gspec_ModelValid J10) 5000 T10 (mk p10 (b0_0, b0_1, b0_2, b0_3, r2, r3, r4, r5, ()))).length (F10 Glaws_eqModel Glaws_toModel b0_0 b0_1 b0_2 b0_3 r2 r3 r4 r5) := by kernel_rfl
noncomputable def L10 : P10 → Option PO := fun x => F10 laws_eqModel.impl laws_toModel.impl x.1 x.2.1 x.2.2.1 x.2.2.2.1 x.2.2.2.2.1 x.2.2.2.2.2.1 x.2.2.2.2.2.2.1 x.2.2.2.2.2.2.2.1
noncomputable def impl : PI → Option PO := fun x => F0 L10 impl_ModelValid.impl laws_szModel.impl laws_toModel.impl spec_ModelValid.impl x.1
theorem L10_eq (b0_0 : List (List UInt8)) (b0_1 : List (Int × Int × Int)) (b0_2 : List ((List (Int × Int × Int × Int)) × (List Int) × List (List (Int × Int × Int × Int)))) (b0_3 : List (List (Int × Int × Int × Int))) (r2 : List (List UInt8)) (r3 : List (Int × Int × Int)) (r4 : List ((List (Int × Int × Int × Int)) × (List Int) × List (List (Int × Int × Int × Int)))) (r5 : List (List (Int × Int × Int × Int))) : L10 (b0_0, b0_1, b0_2, b0_3, r2, r3, r4, r5, ()) = F10 laws_eqModel.impl laws_toModel.impl b0_0 b0_1 b0_2 b0_3 r2 r3 r4 r5 := rfl
theorem impl_eq (x0 : (List (List UInt8)) × ((List (Int × Int × Int)) × List ((List (Int × Int × Int × Int)) × (List Int) × List (List (Int × Int × Int × Int)))) × List (List (Int × Int × Int × Int))) : impl (x0, ()) = F0 L10 impl_ModelValid.impl laws_szModel.impl laws_toModel.impl spec_ModelValid.impl x0 := rfl
theorem con : Con Tryd.prog 8 1 rs.length 1 pin pout impl := by
  refine con_of_run' (nt := 27) (c := c0) tabGood Tryd.func8 (by kernel_rfl) (by kernel_rfl) (by kernel_rfl) (by kernel_rfl) (by kernel_rfl) (by kernel_rfl) (by kernel_rfl) ?_
  intro w0 O y hnp
  generalize hPost : (fun (a' : Act) (w' : World) => ∃ μ' S' st', Rel 27 w0 O μ' S' st' a' w' ∧ endOf (tabOf tab) rs 1 pout st' = some y) = Post
  have fin : ∀ (μ : Id → Option Value) (S : Nat → Prop) (st : St) (a : Act) (w : World), Rel 27 w0 O μ S st a w → endOf (tabOf tab) rs 1 pout st = some y → Post a w := fun μ S st a w h he => by rw [← hPost]; exact ⟨μ, S, st, h, he⟩
  have hp : ∀ (J10 : List Item → P10 → Option PO), Parts Tryd.prog 8 (pg impl_ModelValid.impl laws_eqModel.impl laws_szModel.impl laws_toModel.impl spec_ModelValid.impl J10) [(10, cut p10 J10)] := fun J10 => ⟨tab_ok tabGood rfl, (handAt_ok laws_eqModel.con (handAt_ok impl_ModelValid.con (handAt_ok laws_toModel.con (handAt_ok spec_ModelValid.con (handAt_ok laws_szModel.con handNil_ok))))), rfl⟩
  have g10 : Good Tryd.prog 27 w0 O Post y T10 p10 L10 := good_orders (hs := hd impl_ModelValid.impl laws_eqModel.impl laws_szModel.impl laws_toModel.impl spec_ModelValid.impl) (cv' := hd impl_ModelValid.impl laws_eqModel.impl laws_szModel.impl laws_toModel.impl spec_ModelValid.impl) (Checked.mixed Tryd.checked) (hp (atT T10 (fun _ => none))) (handAt_ok laws_eqModel.con (handAt_ok impl_ModelValid.con (handAt_ok laws_toModel.con (handAt_ok spec_ModelValid.con (handAt_ok laws_szModel.con handNil_ok))))) (handAt_nat (handAt_nat (handAt_nat (handAt_nat (handAt_nat handNil_nat))))) (handAt_nat (handAt_nat (handAt_nat (handAt_nat (handAt_nat handNil_nat))))) (runOK_of (hp (atT T10 (fun _ => none))) hnp ⟨cutOK_at (p := p10) (T := T10) (J := fun _ => none) good_none, trivial⟩ fin) (fun x => all_same ⟨_, (seg10 impl_ModelValid.impl laws_eqModel.impl laws_szModel.impl laws_toModel.impl spec_ModelValid.impl (atT T10 (fun _ => none)) x.1 x.2.1 x.2.2.1 x.2.2.2.1 x.2.2.2.2.1 x.2.2.2.2.2.1 x.2.2.2.2.2.2.1 x.2.2.2.2.2.2.2.1)⟩)
  exact good_first (hp (atT T10 L10)) (runOK_of (hp (atT T10 L10)) hnp ⟨cutOK_at g10, trivial⟩ fin) (fun x => (seg0 impl_ModelValid.impl laws_eqModel.impl laws_szModel.impl laws_toModel.impl spec_ModelValid.impl (atT T10 L10) x.1).trans (by simp only [atT_self] <;> rfl))
end laws_FnExactModelValid
end Go.Proofs.YtambmmpilakgoaaDoorB
