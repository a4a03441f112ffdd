/- PRINTED BY A PROGRAM OF THIS CLAIM'S AUTHOR (wip/gen): functions of the given program, their parts, their contracts. -/
import Derived.Test.YtjjepjfjikefiaaKFnContrarya
set_option linter.unusedVariables false
set_option linter.unusedSimpArgs false
set_option maxRecDepth 100000
namespace Go.Proofs.YtjjepjfjikefiaaB
open Go

/-! ### loop.example/wholecheck/impl.Contrary -/
namespace impl_Contrary
noncomputable abbrev c0 : Code := (Try.f13.body).getD .skip
noncomputable abbrev pin : Tpl := ⟨[⟨0, false, [.d (.sl q4)]⟩, ⟨1, false, [.d i64]⟩], []⟩
noncomputable abbrev pout : Tpl := ⟨[⟨0, false, [.row 600001]⟩], [(600001, .row 73 false q4)]⟩
noncomputable abbrev p3 : Tpl := ⟨[⟨0, false, [.d (.sl q4)]⟩], []⟩
noncomputable def T3 : List Item := (find 3 c0 []).getD []
noncomputable abbrev PI := (List Q4) × Int × Unit
noncomputable abbrev PO := (List Q4) × Unit
noncomputable abbrev G := PI → Option PO
noncomputable abbrev P3 := (List Q4) × Unit
noncomputable abbrev C3 := P3 → Option PO
noncomputable abbrev rs : List ResultVar := [.tmp 4]
noncomputable def F0 (J3 : C3) (Gimpl_TimesValid : impl_TimesValid.G) (x0 : List Q4) (x1 : Int) : Option PO :=
  Option.bind (Gimpl_TimesValid (x0, x1, ())) fun y0 =>
  bif !y0.1 then
    some ([], ())
  else
    bif (x0.length : Int) == 24 then
      some ([], ())
    else
      J3 (x0, ())
noncomputable def F3 (Gimpl_clone_of : impl_clone_of.G) (Gslices_Clip_of : slices_Clip_of.G) (Gslices_Clone_of : slices_Clone_of.G) (t0 : List Q4) : Option PO :=
  Option.bind (Gslices_Clone_of (t0, ())) fun y1 =>
  Option.bind (Gslices_Clip_of (y1.1, ())) fun y2 =>
  bif decide ((y2.1.length + ([(2, 0, wI ((t0.length : Int) - 1), wI ((t0.length : Int) - 1))] : List Q4).length) * 32 ≤ 140737488355328) && Nat.blt 0 ([(2, 0, wI ((t0.length : Int) - 1), wI ((t0.length : Int) - 1))] : List Q4).length then
    Option.bind (Gimpl_clone_of (y2.1 ++ ([(2, 0, wI ((t0.length : Int) - 1), wI ((t0.length : Int) - 1))] : List Q4), ())) fun y3 =>
    some (y3.1, ())
  else
    none
noncomputable def hd {R : Type} (Gimpl_TimesValid : impl_TimesValid.G) (Gimpl_clone_of : impl_clone_of.G) (Gslices_Clip_of : slices_Clip_of.G) (Gslices_Clone_of : slices_Clone_of.G) : Hand R := (handAt 52 [15] true ⟨1, 1, 1, slices_Clone_of.pin, slices_Clone_of.pout, Gslices_Clone_of⟩ (handAt 51 [16] false ⟨1, 1, 1, slices_Clip_of.pin, slices_Clip_of.pout, Gslices_Clip_of⟩ (handAt 50 [26] true ⟨1, 1, 1, impl_clone_of.pin, impl_clone_of.pout, Gimpl_clone_of⟩ (handAt 49 [7] true ⟨2, 1, 2, impl_TimesValid.pin, impl_TimesValid.pout, Gimpl_TimesValid⟩ handNil))))
noncomputable def pg (Gimpl_TimesValid : impl_TimesValid.G) (Gimpl_clone_of : impl_clone_of.G) (Gslices_Clip_of : slices_Clip_of.G) (Gslices_Clone_of : slices_Clone_of.G) (J3 : List Item → C3) : Prog PO := { nt := 27, np := 2, tb := tabOf tab, hd := hd Gimpl_TimesValid Gimpl_clone_of Gslices_Clip_of Gslices_Clone_of, cuts := cutsOf [(3, cut p3 J3)], fin := endOf (tabOf tab) rs 2 pout }
noncomputable def q : FuncId → Bool := fun f => hasId [49] f
theorem seg0 (Gimpl_TimesValid : impl_TimesValid.G) (Gimpl_clone_of : impl_clone_of.G) (Gslices_Clip_of : slices_Clip_of.G) (Gslices_Clone_of : slices_Clone_of.G) (J3 : List Item → C3) (x0 : List Q4) (x1 : Int) : arun (pg Gimpl_TimesValid Gimpl_clone_of Gslices_Clip_of Gslices_Clone_of J3) 5000 [.code c0] (mk pin (x0, x1, ())) = F0 (J3 T3) Gimpl_TimesValid x0 x1 := by kernel_rfl
theorem seg3 (Gimpl_TimesValid : impl_TimesValid.G) (Gimpl_clone_of : impl_clone_of.G) (Gslices_Clip_of : slices_Clip_of.G) (Gslices_Clone_of : slices_Clone_of.G) (J3 : List Item → C3) (t0 : List Q4) : arun1 (pg Gimpl_TimesValid Gimpl_clone_of Gslices_Clip_of Gslices_Clone_of J3) 5000 T3 (mk p3 (t0, ())) = F3 Gimpl_clone_of Gslices_Clip_of Gslices_Clone_of t0 := by kernel_rfl
noncomputable def L3 : C3 := fun x => F3 impl_clone_of.impl slices_Clip_of.impl slices_Clone_of.impl x.1
noncomputable def impl : G := fun x => F0 L3 impl_TimesValid.impl x.1 x.2.1
theorem L3_eq (t0 : List Q4) : L3 (t0, ()) = F3 impl_clone_of.impl slices_Clip_of.impl slices_Clone_of.impl t0 := rfl
theorem impl_eq (x0 : List Q4) (x1 : Int) : impl (x0, x1, ()) = F0 L3 impl_TimesValid.impl x0 x1 := rfl
theorem con : Con Try.prog 13 2 rs.length 2 pin pout impl := by
  refine con_of_run3 (nt := 27) (c := c0) tabGood Try.func13 (by kernel_rfl) (by kernel_rfl) (by kernel_rfl) (by kernel_rfl) (by kernel_rfl) (by kernel_rfl) (by kernel_rfl) ?_
  intro w0 O y Post hnp fin
  have hp : ∀ (J3 : List Item → C3), Parts Try.prog 13 (pg impl_TimesValid.impl impl_clone_of.impl slices_Clip_of.impl slices_Clone_of.impl J3) [(3, cut p3 J3)] := fun J3 => ⟨tab_ok tabGood rfl, (handAt_ok slices_Clone_of.con (handAt_ok slices_Clip_of.con (handAt_ok impl_clone_of.con (handAt_ok impl_TimesValid.con handNil_ok)))), rfl⟩
  have g3 : Good Try.prog 27 w0 O Post y T3 p3 L3 := good_part (hp (atT T3 (fun _ => none))) (runOK_of (hp (atT T3 (fun _ => none))) hnp ⟨cutOK_at (p := p3) (T := T3) (J := fun _ => none) good_none, trivial⟩ fin) (fun x => (seg3 impl_TimesValid.impl impl_clone_of.impl slices_Clip_of.impl slices_Clone_of.impl (atT T3 (fun _ => none)) x.1))
  exact good_first (hp (atT T3 L3)) (runOK_of (hp (atT T3 L3)) hnp ⟨cutOK_at g3, trivial⟩ fin) (fun x => (seg0 impl_TimesValid.impl impl_clone_of.impl slices_Clip_of.impl slices_Clone_of.impl (atT T3 L3) x.1 x.2.1).trans (by simp only [atT_self] <;> rfl))
end impl_Contrary

/-! ### slices.Index[[]loop.example/wholecheck/impl.Time,loop.example/wholecheck/impl.Time] -/
namespace slices_Index_of
noncomputable abbrev c0 : Code := (Try.f145.body).getD .skip
noncomputable abbrev pin : Tpl := ⟨[⟨0, false, [.d (.sl q4)]⟩, ⟨1, true, [.d q4]⟩], []⟩
noncomputable abbrev pout : Tpl := ⟨[⟨0, false, [.d i64]⟩], []⟩
noncomputable abbrev p2 : Tpl := ⟨[⟨0, false, [.d (.sl q4)]⟩, ⟨3, false, [.ptr 3000000 0]⟩, ⟨7, false, [.d i64]⟩, ⟨8, false, [.d i64]⟩], [(3000000, .box [.d i64, .d i64, .d i64, .d i64])]⟩
noncomputable def T2 : List Item := (find 2 c0 []).getD []
noncomputable abbrev p4 : Tpl := ⟨[⟨0, false, [.d (.sl q4)]⟩, ⟨3, false, [.ptr 3000000 0]⟩, ⟨5, false, [.d i64]⟩, ⟨7, false, [.d i64]⟩, ⟨8, false, [.d i64]⟩], [(3000000, .box [.d i64, .d i64, .d i64, .d i64])]⟩
noncomputable def T4 : List Item := (find 4 c0 []).getD []
noncomputable abbrev PI := (List Q4) × Q4 × Unit
noncomputable abbrev PO := Int × Unit
noncomputable abbrev G := PI → Option PO
noncomputable abbrev P2 := (List Q4) × Int × Int × Int × Int × Int × Int × Unit
noncomputable abbrev C2 := P2 → Option PO
noncomputable abbrev P4 := (List Q4) × Int × Int × Int × Int × Int × Int × Int × Unit
noncomputable abbrev C4 := P4 → Option PO
noncomputable abbrev rs : List ResultVar := [.tmp 4]
noncomputable def F0 (J2 : C2) (x0 : List Q4) (x1 : Int × Int × Int × Int) : Option PO :=
  J2 (x0, (x0.length : Int), 0, x1.1, x1.2.1, x1.2.2.1, x1.2.2.2, ())
noncomputable def F2 (J4 : C4) (t0 : List Q4) (t7 : Int) (t8 : Int) (b0_0 : Int) (b0_1 : Int) (b0_2 : Int) (b0_3 : Int) : Option PO :=
  bif decide (t8 < t7) then
    J4 (t0, t8, t7, t8, b0_0, b0_1, b0_2, b0_3, ())
  else
    some ((-1), ())
noncomputable def F4 (J2 : C2) (t0 : List Q4) (t5 : Int) (t7 : Int) (t8 : Int) (b0_0 : Int) (b0_1 : Int) (b0_2 : Int) (b0_3 : Int) : Option PO :=
  bif inb t5 t0.length then
    bif ((b0_0 == (t0.getD t5.toNat (0, 0, 0, 0)).1) && ((b0_1 == (t0.getD t5.toNat (0, 0, 0, 0)).2.1) && ((b0_2 == (t0.getD t5.toNat (0, 0, 0, 0)).2.2.1) && (b0_3 == (t0.getD t5.toNat (0, 0, 0, 0)).2.2.2)))) then
      some (t5, ())
    else
      J2 (t0, t7, wI (t8 + 1), b0_0, b0_1, b0_2, b0_3, ())
  else
    none
noncomputable def hd {R : Type} : Hand R := handNil
noncomputable def pg (J2 : List Item → C2) (J4 : List Item → C4) : Prog PO := { nt := 19, np := 2, tb := tabOf tab, hd := hd, cuts := cutsOf [(2, cut p2 J2), (4, cut p4 J4)], fin := endOf (tabOf tab) rs 2 pout }
noncomputable def q : FuncId → Bool := fun f => hasId [] f
theorem seg0 (J2 : List Item → C2) (J4 : List Item → C4) (x0 : List Q4) (x1 : Int × Int × Int × Int) : arun (pg J2 J4) 5000 [.code c0] (mk pin (x0, x1, ())) = F0 (J2 T2) x0 x1 := by kernel_rfl
theorem seg2 (J2 : List Item → C2) (J4 : List Item → C4) (t0 : List Q4) (t7 : Int) (t8 : Int) (b0_0 : Int) (b0_1 : Int) (b0_2 : Int) (b0_3 : Int) : arun1 (pg J2 J4) 5000 T2 (mk p2 (t0, t7, t8, b0_0, b0_1, b0_2, b0_3, ())) = F2 (J4 T4) t0 t7 t8 b0_0 b0_1 b0_2 b0_3 := by kernel_rfl
theorem seg4 (J2 : List Item → C2) (J4 : List Item → C4) (t0 : List Q4) (t5 : Int) (t7 : Int) (t8 : Int) (b0_0 : Int) (b0_1 : Int) (b0_2 : Int) (b0_3 : Int) : arunQ (pg J2 J4) q [] [] 5000 T4 (mk p4 (t0, t5, t7, t8, b0_0, b0_1, b0_2, b0_3, ())) = List.replicate (arunQ (pg J2 J4) q [] [] 5000 T4 (mk p4 (t0, t5, t7, t8, b0_0, b0_1, b0_2, b0_3, ()))).length (F4 (J2 T2) t0 t5 t7 t8 b0_0 b0_1 b0_2 b0_3) := by kernel_rfl
noncomputable def L4 (J2 : C2) : C4 := fun x => F4 J2 x.1 x.2.1 x.2.2.1 x.2.2.2.1 x.2.2.2.2.1 x.2.2.2.2.2.1 x.2.2.2.2.2.2.1 x.2.2.2.2.2.2.2.1
noncomputable def L2 : C2 := lfp fun J2 x => F2 (L4 J2) x.1 x.2.1 x.2.2.1 x.2.2.2.1 x.2.2.2.2.1 x.2.2.2.2.2.1 x.2.2.2.2.2.2.1
noncomputable def impl : G := fun x => F0 L2 x.1 x.2.1
theorem F4_le {J2 J2' : C2} (h2 : OLe J2 J2') (t0 : List Q4) (t5 : Int) (t7 : Int) (t8 : Int) (b0_0 : Int) (b0_1 : Int) (b0_2 : Int) (b0_3 : Int) : OptLe (F4 J2 t0 t5 t7 t8 b0_0 b0_1 b0_2 b0_3) (F4 J2' t0 t5 t7 t8 b0_0 b0_1 b0_2 b0_3) := by unfold F4; exact .cond (.cond (.refl _) (.of h2 _)) (.refl _)
theorem F2_le {J4 J4' : C4} (h4 : OLe J4 J4') (t0 : List Q4) (t7 : Int) (t8 : Int) (b0_0 : Int) (b0_1 : Int) (b0_2 : Int) (b0_3 : Int) : OptLe (F2 J4 t0 t7 t8 b0_0 b0_1 b0_2 b0_3) (F2 J4' t0 t7 t8 b0_0 b0_1 b0_2 b0_3) := by unfold F2; exact .cond (.of h4 _) (.refl _)
theorem L4_eq (J2 : C2) (t0 : List Q4) (t5 : Int) (t7 : Int) (t8 : Int) (b0_0 : Int) (b0_1 : Int) (b0_2 : Int) (b0_3 : Int) : L4 J2 (t0, t5, t7, t8, b0_0, b0_1, b0_2, b0_3, ()) = F4 J2 t0 t5 t7 t8 b0_0 b0_1 b0_2 b0_3 := rfl
theorem L4_le {J2 J2' : C2} (h2 : OLe J2 J2') : OLe (L4 J2) (L4 J2') := fun x => F4_le h2 x.1 x.2.1 x.2.2.1 x.2.2.2.1 x.2.2.2.2.1 x.2.2.2.2.2.1 x.2.2.2.2.2.2.1 x.2.2.2.2.2.2.2.1
theorem L2_mono : OMono fun J2 (x : P2) => F2 (L4 J2) x.1 x.2.1 x.2.2.1 x.2.2.2.1 x.2.2.2.2.1 x.2.2.2.2.2.1 x.2.2.2.2.2.2.1 := fun J J' h2 x => F2_le (L4_le h2) x.1 x.2.1 x.2.2.1 x.2.2.2.1 x.2.2.2.2.1 x.2.2.2.2.2.1 x.2.2.2.2.2.2.1
theorem L2_eq (t0 : List Q4) (t7 : Int) (t8 : Int) (b0_0 : Int) (b0_1 : Int) (b0_2 : Int) (b0_3 : Int) : L2 (t0, t7, t8, b0_0, b0_1, b0_2, b0_3, ()) = F2 (L4 (L2)) t0 t7 t8 b0_0 b0_1 b0_2 b0_3 := congrFun (lfp_eq (L2_mono)) _
theorem impl_eq (x0 : List Q4) (x1 : Int × Int × Int × Int) : impl (x0, x1, ()) = F0 L2 x0 x1 := rfl
theorem con : Con Try.prog 145 2 rs.length 2 pin pout impl := by
  refine con_of_run3 (nt := 19) (c := c0) tabGood Try.func145 (by kernel_rfl) (by kernel_rfl) (by kernel_rfl) (by kernel_rfl) (by kernel_rfl) (by kernel_rfl) (by kernel_rfl) ?_
  intro w0 O y Post hnp fin
  have hp : ∀ (J2 : List Item → C2), ∀ (J4 : List Item → C4), Parts Try.prog 145 (pg J2 J4) [(2, cut p2 J2), (4, cut p4 J4)] := fun J2 J4 => ⟨tab_ok tabGood rfl, handNil_ok, rfl⟩
  have g4 : ∀ (J2 : C2), Good Try.prog 19 w0 O Post y T2 p2 J2 → Good Try.prog 19 w0 O Post y T4 p4 (L4 J2) := fun J2 h2 => good_quiet (hs := hd) (cv' := hd) (Checked.mixed Try.checked) (hp (atT T2 J2) (atT T4 (fun _ => none))) handNil_D handNil_nat handNil_nat (runOK_of (hp (atT T2 J2) (atT T4 (fun _ => none))) hnp ⟨cutOK_at h2, cutOK_at (p := p4) (T := T4) (J := fun _ => none) good_none, trivial⟩ fin) (fun x => all_same ⟨_, (seg4 (atT T2 J2) (atT T4 (fun _ => none)) x.1 x.2.1 x.2.2.1 x.2.2.2.1 x.2.2.2.2.1 x.2.2.2.2.2.1 x.2.2.2.2.2.2.1 x.2.2.2.2.2.2.2.1).trans (by simp only [atT_self] <;> rfl)⟩)
  have g2 : Good Try.prog 19 w0 O Post y T2 p2 L2 := good_lfp fun J2 h2 => good_part (hp (atT T2 (fun _ => none)) (atT T4 (L4 J2))) (runOK_of (hp (atT T2 (fun _ => none)) (atT T4 (L4 J2))) hnp ⟨cutOK_at (p := p2) (T := T2) (J := fun _ => none) good_none, cutOK_at (g4 J2 h2), trivial⟩ fin) (fun x => (seg2 (atT T2 (fun _ => none)) (atT T4 (L4 J2)) x.1 x.2.1 x.2.2.1 x.2.2.2.1 x.2.2.2.2.1 x.2.2.2.2.2.1 x.2.2.2.2.2.2.1).trans (by simp only [atT_self] <;> rfl))
  exact good_first (hp (atT T2 L2) (atT T4 (fun _ => none))) (runOK_of (hp (atT T2 L2) (atT T4 (fun _ => none))) hnp ⟨cutOK_at g2, cutOK_at (p := p4) (T := T4) (J := fun _ => none) good_none, trivial⟩ fin) (fun x => (seg0 (atT T2 L2) (atT T4 (fun _ => none)) x.1 x.2.1).trans (by simp only [atT_self] <;> rfl))
end slices_Index_of

/-! ### (*loop.example/wholecheck/impl.pushing).put -/
namespace impl_pushing_put
noncomputable abbrev c0 : Code := (Try.f95.body).getD .skip
noncomputable abbrev pin : Tpl := ⟨[⟨0, false, [.ptr 500001 0]⟩, ⟨1, true, [.d q4]⟩], [(500001, .box [.d (.sl q4), .row 500002]), (500002, .row 73 true q4)]⟩
noncomputable abbrev pout : Tpl := ⟨[⟨0, false, [.d i64]⟩, ⟨1, false, [.ptr 500001 0]⟩], [(500001, .box [.d (.sl q4), .row 500002]), (500002, .row 73 true q4)]⟩
noncomputable abbrev p1 : Tpl := ⟨[⟨0, false, [.ptr 500001 0]⟩, ⟨3, false, [.ptr 3000000 0]⟩], [(500001, .box [.d (.sl q4), .row 500002]), (3000000, .box [.d i64, .d i64, .d i64, .d i64]), (500002, .row 73 true q4)]⟩
noncomputable def T1 : List Item := (find 1 c0 []).getD []
noncomputable abbrev p4 : Tpl := ⟨[⟨0, false, [.ptr 500001 0]⟩, ⟨3, false, [.ptr 3000000 0]⟩], [(500001, .box [.d (.sl q4), .row 500002]), (3000000, .box [.d i64, .d i64, .d i64, .d i64]), (500002, .row 73 true q4)]⟩
noncomputable def T4 : List Item := (find 4 c0 []).getD []
noncomputable abbrev PI := Q4 × (List Q4) × (List Q4) × Unit
noncomputable abbrev PO := Int × (List Q4) × (List Q4) × Unit
noncomputable abbrev G := PI → Option PO
noncomputable abbrev P1 := (List Q4) × Int × Int × Int × Int × (List Q4) × Unit
noncomputable abbrev C1 := P1 → Option PO
noncomputable abbrev P4 := (List Q4) × Int × Int × Int × Int × (List Q4) × Unit
noncomputable abbrev C4 := P4 → Option PO
noncomputable abbrev rs : List ResultVar := [.tmp 4]
noncomputable def F0 (J1 : C1) (x1 : Int × Int × Int × Int) (c1_0 : List Q4) (s2 : List Q4) : Option PO :=
  J1 (c1_0, x1.1, x1.2.1, x1.2.2.1, x1.2.2.2, s2, ())
noncomputable def F1 (J4 : C4) (Gslices_Index_of : slices_Index_of.G) (c1_0 : List Q4) (b0_0 : Int) (b0_1 : Int) (b0_2 : Int) (b0_3 : Int) (s2 : List Q4) : Option PO :=
  Option.bind (Gslices_Index_of (s2, (b0_0, b0_1, b0_2, b0_3), ())) fun y0 =>
  bif decide (y0.1 ≥ 0) then
    some (y0.1, c1_0, s2, ())
  else
    J4 (c1_0, b0_0, b0_1, b0_2, b0_3, s2, ())
noncomputable def F4 (c1_0 : List Q4) (b0_0 : Int) (b0_1 : Int) (b0_2 : Int) (b0_3 : Int) (s2 : List Q4) : Option PO :=
  bif decide ((s2.length + ([(b0_0, b0_1, b0_2, b0_3)] : List Q4).length) * 32 ≤ 140737488355328) then
    some (wI (((s2 ++ ([(b0_0, b0_1, b0_2, b0_3)] : List Q4)).length : Int) - 1), c1_0, s2 ++ ([(b0_0, b0_1, b0_2, b0_3)] : List Q4), ())
  else
    none
noncomputable def hd {R : Type} (Gslices_Index_of : slices_Index_of.G) : Hand R := (handAt 145 [11] true ⟨2, 1, 2, slices_Index_of.pin, slices_Index_of.pout, Gslices_Index_of⟩ handNil)
noncomputable def pg (Gslices_Index_of : slices_Index_of.G) (J1 : List Item → C1) (J4 : List Item → C4) : Prog PO := { nt := 31, np := 2, tb := tabOf tab, hd := hd Gslices_Index_of, cuts := cutsOf [(1, cut p1 J1), (4, cut p4 J4)], fin := endOf (tabOf tab) rs 2 pout }
noncomputable def q : FuncId → Bool := fun f => hasId [145] f
theorem seg0 (Gslices_Index_of : slices_Index_of.G) (J1 : List Item → C1) (J4 : List Item → C4) (x1 : Int × Int × Int × Int) (c1_0 : List Q4) (s2 : List Q4) : arun (pg Gslices_Index_of J1 J4) 5000 [.code c0] (mk pin (x1, c1_0, s2, ())) = F0 (J1 T1) x1 c1_0 s2 := by kernel_rfl
theorem seg1 (Gslices_Index_of : slices_Index_of.G) (J1 : List Item → C1) (J4 : List Item → C4) (c1_0 : List Q4) (b0_0 : Int) (b0_1 : Int) (b0_2 : Int) (b0_3 : Int) (s2 : List Q4) : arunQ (pg Gslices_Index_of J1 J4) q [] [] 5000 T1 (mk p1 (c1_0, b0_0, b0_1, b0_2, b0_3, s2, ())) = List.replicate (arunQ (pg Gslices_Index_of J1 J4) q [] [] 5000 T1 (mk p1 (c1_0, b0_0, b0_1, b0_2, b0_3, s2, ()))).length (F1 (J4 T4) Gslices_Index_of c1_0 b0_0 b0_1 b0_2 b0_3 s2) := by kernel_rfl
theorem seg4 (Gslices_Index_of : slices_Index_of.G) (J1 : List Item → C1) (J4 : List Item → C4) (c1_0 : List Q4) (b0_0 : Int) (b0_1 : Int) (b0_2 : Int) (b0_3 : Int) (s2 : List Q4) : arunE (pg Gslices_Index_of J1 J4) 5000 T4 (mk p4 (c1_0, b0_0, b0_1, b0_2, b0_3, s2, ())) = List.replicate (arunE (pg Gslices_Index_of J1 J4) 5000 T4 (mk p4 (c1_0, b0_0, b0_1, b0_2, b0_3, s2, ()))).length (F4 c1_0 b0_0 b0_1 b0_2 b0_3 s2) := by kernel_rfl
noncomputable def L4 : C4 := fun x => F4 x.1 x.2.1 x.2.2.1 x.2.2.2.1 x.2.2.2.2.1 x.2.2.2.2.2.1
noncomputable def L1 : C1 := fun x => F1 L4 slices_Index_of.impl x.1 x.2.1 x.2.2.1 x.2.2.2.1 x.2.2.2.2.1 x.2.2.2.2.2.1
noncomputable def impl : G := fun x => F0 L1 x.1 x.2.1 x.2.2.1
theorem L4_eq (c1_0 : List Q4) (b0_0 : Int) (b0_1 : Int) (b0_2 : Int) (b0_3 : Int) (s2 : List Q4) : L4 (c1_0, b0_0, b0_1, b0_2, b0_3, s2, ()) = F4 c1_0 b0_0 b0_1 b0_2 b0_3 s2 := rfl
theorem L1_eq (c1_0 : List Q4) (b0_0 : Int) (b0_1 : Int) (b0_2 : Int) (b0_3 : Int) (s2 : List Q4) : L1 (c1_0, b0_0, b0_1, b0_2, b0_3, s2, ()) = F1 (L4) slices_Index_of.impl c1_0 b0_0 b0_1 b0_2 b0_3 s2 := rfl
theorem impl_eq (x1 : Int × Int × Int × Int) (c1_0 : List Q4) (s2 : List Q4) : impl (x1, c1_0, s2, ()) = F0 L1 x1 c1_0 s2 := rfl
theorem con : Con Try.prog 95 2 rs.length 2 pin pout impl := by
  refine con_of_run3 (nt := 31) (c := c0) tabGood Try.func95 (by kernel_rfl) (by kernel_rfl) (by kernel_rfl) (by kernel_rfl) (by kernel_rfl) (by kernel_rfl) (by kernel_rfl) ?_
  intro w0 O y Post hnp fin
  have hp : ∀ (J1 : List Item → C1), ∀ (J4 : List Item → C4), Parts Try.prog 95 (pg slices_Index_of.impl J1 J4) [(1, cut p1 J1), (4, cut p4 J4)] := fun J1 J4 => ⟨tab_ok tabGood rfl, (handAt_ok slices_Index_of.con handNil_ok), rfl⟩
  have g4 : Good Try.prog 31 w0 O Post y T4 p4 L4 := good_orders (hs := hd slices_Index_of.impl) (cv' := hd slices_Index_of.impl) (Checked.mixed Try.checked) (hp (atT T1 (fun _ => none)) (atT T4 (fun _ => none))) (handAt_ok slices_Index_of.con handNil_ok) (handAt_nat handNil_nat) (handAt_nat handNil_nat) (runOK_of (hp (atT T1 (fun _ => none)) (atT T4 (fun _ => none))) hnp ⟨cutOK_at (p := p1) (T := T1) (J := fun _ => none) good_none, cutOK_at (p := p4) (T := T4) (J := fun _ => none) good_none, trivial⟩ fin) (fun x => all_same ⟨_, (seg4 slices_Index_of.impl (atT T1 (fun _ => none)) (atT T4 (fun _ => none)) x.1 x.2.1 x.2.2.1 x.2.2.2.1 x.2.2.2.2.1 x.2.2.2.2.2.1)⟩)
  have g1 : Good Try.prog 31 w0 O Post y T1 p1 L1 := good_quiet (hs := hd slices_Index_of.impl) (cv' := hd slices_Index_of.impl) (Checked.mixed Try.checked) (hp (atT T1 (fun _ => none)) (atT T4 L4)) (handAt_D slices_Index_of.con (by rfl) rfl handNil_D) (handAt_nat handNil_nat) (handAt_nat handNil_nat) (runOK_of (hp (atT T1 (fun _ => none)) (atT T4 L4)) hnp ⟨cutOK_at (p := p1) (T := T1) (J := fun _ => none) good_none, cutOK_at g4, trivial⟩ fin) (fun x => all_same ⟨_, (seg1 slices_Index_of.impl (atT T1 (fun _ => none)) (atT T4 L4) x.1 x.2.1 x.2.2.1 x.2.2.2.1 x.2.2.2.2.1 x.2.2.2.2.2.1).trans (by simp only [atT_self] <;> rfl)⟩)
  exact good_first (hp (atT T1 L1) (atT T4 (fun _ => none))) (runOK_of (hp (atT T1 L1) (atT T4 (fun _ => none))) hnp ⟨cutOK_at g1, cutOK_at (p := p4) (T := T4) (J := fun _ => none) good_none, trivial⟩ fin) (fun x => (seg0 slices_Index_of.impl (atT T1 L1) (atT T4 (fun _ => none)) x.1 x.2.1 x.2.2.1).trans (by simp only [atT_self] <;> rfl))
end impl_pushing_put

/-! ### (*loop.example/wholecheck/impl.pushing).of -/
namespace impl_pushing_of
noncomputable abbrev c0 : Code := (Try.f53.body).getD .skip
noncomputable abbrev pin : Tpl := ⟨[⟨0, false, [.ptr 500001 0]⟩, ⟨1, false, [.d i64]⟩, ⟨2, false, [.d .bool]⟩], [(500001, .box [.d (.sl q4), .row 500002]), (500002, .row 73 true q4)]⟩
noncomputable abbrev pout : Tpl := ⟨[⟨0, false, [.d i64]⟩, ⟨1, false, [.ptr 500001 0]⟩], [(500001, .box [.d (.sl q4), .row 500002]), (500002, .row 73 true q4)]⟩
noncomputable abbrev p13 : Tpl := ⟨[⟨0, false, [.ptr 500001 0]⟩, ⟨2, false, [.d .bool]⟩, ⟨7, false, [.ptr 3000000 0]⟩], [(500001, .box [.d (.sl q4), .row 500002]), (3000000, .box [.d i64, .d i64, .d i64, .d i64]), (500002, .row 73 true q4)]⟩
noncomputable def T13 : List Item := (find 13 c0 []).getD []
noncomputable abbrev p17 : Tpl := ⟨[⟨0, false, [.ptr 500001 0]⟩, ⟨2, false, [.d .bool]⟩, ⟨7, false, [.ptr 3000000 0]⟩, ⟨9, false, [.d i64]⟩, ⟨10, false, [.d i64]⟩], [(500001, .box [.d (.sl q4), .row 500002]), (3000000, .box [.d i64, .d i64, .d i64, .d i64]), (500002, .row 73 true q4)]⟩
noncomputable def T17 : List Item := (find 17 c0 []).getD []
noncomputable abbrev PI := Int × Bool × (List Q4) × (List Q4) × Unit
noncomputable abbrev PO := Int × (List Q4) × (List Q4) × Unit
noncomputable abbrev G := PI → Option PO
noncomputable abbrev P13 := Bool × (List Q4) × Int × Int × Int × Int × (List Q4) × Unit
noncomputable abbrev C13 := P13 → Option PO
noncomputable abbrev P17 := Bool × Int × Int × (List Q4) × Int × Int × Int × Int × (List Q4) × Unit
noncomputable abbrev C17 := P17 → Option PO
noncomputable abbrev rs : List ResultVar := [.tmp 6]
noncomputable def F0 (J13 : C13) (Gimpl_pushing_of : G) (Gimpl_pushing_put : impl_pushing_put.G) (x1 : Int) (x2 : Bool) (c1_0 : List Q4) (s2 : List Q4) : Option PO :=
  bif decide ((s2.length : Int) > 24) then
    some (0, c1_0, s2, ())
  else
    bif inb x1 c1_0.length then
      bif (c1_0.getD x1.toNat (0, 0, 0, 0)).1 == 2 then
        Option.bind (Gimpl_pushing_of ((c1_0.getD x1.toNat (0, 0, 0, 0)).2.2.1, !x2, c1_0, s2, ())) fun y0 =>
        some (y0.1, y0.2.1, y0.2.2.1, ())
      else
        bif (c1_0.getD x1.toNat (0, 0, 0, 0)).1 == 0 then
          Option.bind (Gimpl_pushing_put (c1_0.getD x1.toNat (0, 0, 0, 0), c1_0, s2, ())) fun y1 =>
          bif x2 then
            Option.bind (Gimpl_pushing_put ((2, 0, y1.1, y1.1), y1.2.1, y1.2.2.1, ())) fun y2 =>
            some (y2.1, y2.2.1, y2.2.2.1, ())
          else
            some (y1.1, y1.2.1, y1.2.2.1, ())
        else
          bif (c1_0.getD x1.toNat (0, 0, 0, 0)).1 == 1 then
            Option.bind (Gimpl_pushing_put (c1_0.getD x1.toNat (0, 0, 0, 0), c1_0, s2, ())) fun y3 =>
            bif x2 then
              Option.bind (Gimpl_pushing_put ((2, 0, y3.1, y3.1), y3.2.1, y3.2.2.1, ())) fun y4 =>
              some (y4.1, y4.2.1, y4.2.2.1, ())
            else
              some (y3.1, y3.2.1, y3.2.2.1, ())
          else
            J13 (x2, c1_0, (c1_0.getD x1.toNat (0, 0, 0, 0)).1, (c1_0.getD x1.toNat (0, 0, 0, 0)).2.1, (c1_0.getD x1.toNat (0, 0, 0, 0)).2.2.1, (c1_0.getD x1.toNat (0, 0, 0, 0)).2.2.2, s2, ())
    else
      none
noncomputable def F13 (J17 : C17) (Gimpl_pushing_of : G) (t2 : Bool) (c1_0 : List Q4) (b0_0 : Int) (b0_1 : Int) (b0_2 : Int) (b0_3 : Int) (s2 : List Q4) : Option PO :=
  Option.bind (Gimpl_pushing_of (b0_2, t2, c1_0, s2, ())) fun y5 =>
  bif b0_0 != 5 then
    Option.bind (Gimpl_pushing_of (b0_3, t2, y5.2.1, y5.2.2.1, ())) fun y6 =>
    J17 (t2, y5.1, y6.1, y6.2.1, b0_0, b0_1, b0_2, b0_3, y6.2.2.1, ())
  else
    J17 (t2, y5.1, y5.1, y5.2.1, b0_0, b0_1, b0_2, b0_3, y5.2.2.1, ())
noncomputable def F17 (Gimpl_pushing_put : impl_pushing_put.G) (t2 : Bool) (t9 : Int) (t10 : Int) (c1_0 : List Q4) (b0_0 : Int) (b0_1 : Int) (b0_2 : Int) (b0_3 : Int) (s2 : List Q4) : Option PO :=
  bif t2 then
    Option.bind (Gimpl_pushing_put ((mapGet i64 i64 (mapPut i64 i64 (mapPut i64 i64 (mapPut i64 i64 (mapPut i64 i64 (mapPut i64 i64 [] 3 4) 4 3) 6 7) 7 6) 5 5) b0_0, 0, t9, t10), c1_0, s2, ())) fun y7 =>
    some (y7.1, y7.2.1, y7.2.2.1, ())
  else
    Option.bind (Gimpl_pushing_put ((b0_0, 0, t9, t10), c1_0, s2, ())) fun y8 =>
    some (y8.1, y8.2.1, y8.2.2.1, ())
noncomputable def hd {R : Type} (Gimpl_pushing_of : G) (Gimpl_pushing_put : impl_pushing_put.G) : Hand R := (handAt 95 [40, 46, 74] false ⟨2, 1, 2, impl_pushing_put.pin, impl_pushing_put.pout, Gimpl_pushing_put⟩ (handAt 53 [34, 52, 61] false ⟨3, 1, 3, pin, pout, Gimpl_pushing_of⟩ handNil))
noncomputable def pg (Gimpl_pushing_of : G) (Gimpl_pushing_put : impl_pushing_put.G) (J13 : List Item → C13) (J17 : List Item → C17) : Prog PO := { nt := 75, np := 3, tb := tabOf tab, hd := hd Gimpl_pushing_of Gimpl_pushing_put, cuts := cutsOf [(13, cut p13 J13), (17, cut p17 J17)], fin := endOf (tabOf tab) rs 3 pout }
noncomputable def q : FuncId → Bool := fun f => hasId [] f
theorem seg0 (Gimpl_pushing_of : G) (Gimpl_pushing_put : impl_pushing_put.G) (J13 : List Item → C13) (J17 : List Item → C17) (x1 : Int) (x2 : Bool) (c1_0 : List Q4) (s2 : List Q4) : arun (pg Gimpl_pushing_of Gimpl_pushing_put J13 J17) 5000 [.code c0] (mk pin (x1, x2, c1_0, s2, ())) = F0 (J13 T13) Gimpl_pushing_of Gimpl_pushing_put x1 x2 c1_0 s2 := by kernel_rfl
theorem seg13 (Gimpl_pushing_of : G) (Gimpl_pushing_put : impl_pushing_put.G) (J13 : List Item → C13) (J17 : List Item → C17) (t2 : Bool) (c1_0 : List Q4) (b0_0 : Int) (b0_1 : Int) (b0_2 : Int) (b0_3 : Int) (s2 : List Q4) : arun1 (pg Gimpl_pushing_of Gimpl_pushing_put J13 J17) 5000 T13 (mk p13 (t2, c1_0, b0_0, b0_1, b0_2, b0_3, s2, ())) = F13 (J17 T17) Gimpl_pushing_of t2 c1_0 b0_0 b0_1 b0_2 b0_3 s2 := by kernel_rfl
theorem seg17 (Gimpl_pushing_of : G) (Gimpl_pushing_put : impl_pushing_put.G) (J13 : List Item → C13) (J17 : List Item → C17) (t2 : Bool) (t9 : Int) (t10 : Int) (c1_0 : List Q4) (b0_0 : Int) (b0_1 : Int) (b0_2 : Int) (b0_3 : Int) (s2 : List Q4) : arun1 (pg Gimpl_pushing_of Gimpl_pushing_put J13 J17) 5000 T17 (mk p17 (t2, t9, t10, c1_0, b0_0, b0_1, b0_2, b0_3, s2, ())) = F17 Gimpl_pushing_put t2 t9 t10 c1_0 b0_0 b0_1 b0_2 b0_3 s2 := by kernel_rfl
noncomputable def L17 (Gself : G) : C17 := fun x => F17 impl_pushing_put.impl x.1 x.2.1 x.2.2.1 x.2.2.2.1 x.2.2.2.2.1 x.2.2.2.2.2.1 x.2.2.2.2.2.2.1 x.2.2.2.2.2.2.2.1 x.2.2.2.2.2.2.2.2.1
noncomputable def L13 (Gself : G) : C13 := fun x => F13 (L17 Gself) Gself x.1 x.2.1 x.2.2.1 x.2.2.2.1 x.2.2.2.2.1 x.2.2.2.2.2.1 x.2.2.2.2.2.2.1
noncomputable def step (Gself : G) : G := fun x => F0 (L13 Gself) Gself impl_pushing_put.impl x.1 x.2.1 x.2.2.1 x.2.2.2.1
noncomputable def impl : G := lfp step
theorem F17_le {Gimpl_pushing_put : impl_pushing_put.G} (t2 : Bool) (t9 : Int) (t10 : Int) (c1_0 : List Q4) (b0_0 : Int) (b0_1 : Int) (b0_2 : Int) (b0_3 : Int) (s2 : List Q4) : OptLe (F17 Gimpl_pushing_put t2 t9 t10 c1_0 b0_0 b0_1 b0_2 b0_3 s2) (F17 Gimpl_pushing_put t2 t9 t10 c1_0 b0_0 b0_1 b0_2 b0_3 s2) := by unfold F17; exact .refl _
theorem F13_le {J17 J17' : C17} (h17 : OLe J17 J17') {Gself Gself' : G} (hG : OLe Gself Gself') (t2 : Bool) (c1_0 : List Q4) (b0_0 : Int) (b0_1 : Int) (b0_2 : Int) (b0_3 : Int) (s2 : List Q4) : OptLe (F13 J17 Gself t2 c1_0 b0_0 b0_1 b0_2 b0_3 s2) (F13 J17' Gself' t2 c1_0 b0_0 b0_1 b0_2 b0_3 s2) := by unfold F13; exact .bind (.of hG _) fun _ => .cond (.bind (.of hG _) fun _ => .of h17 _) (.of h17 _)
theorem F0_le {J13 J13' : C13} (h13 : OLe J13 J13') {Gself Gself' : G} (hG : OLe Gself Gself') {Gimpl_pushing_put : impl_pushing_put.G} (x1 : Int) (x2 : Bool) (c1_0 : List Q4) (s2 : List Q4) : OptLe (F0 J13 Gself Gimpl_pushing_put x1 x2 c1_0 s2) (F0 J13' Gself' Gimpl_pushing_put x1 x2 c1_0 s2) := by unfold F0; exact .cond (.refl _) (.cond (.cond (.bind (.of hG _) fun _ => .refl _) (.cond (.refl _) (.cond (.refl _) (.of h13 _)))) (.refl _))
theorem L17_eq (Gself : G) (t2 : Bool) (t9 : Int) (t10 : Int) (c1_0 : List Q4) (b0_0 : Int) (b0_1 : Int) (b0_2 : Int) (b0_3 : Int) (s2 : List Q4) : L17 Gself (t2, t9, t10, c1_0, b0_0, b0_1, b0_2, b0_3, s2, ()) = F17 impl_pushing_put.impl t2 t9 t10 c1_0 b0_0 b0_1 b0_2 b0_3 s2 := rfl
theorem L17_le {Gself Gself' : G} (hG : OLe Gself Gself') : OLe (L17 Gself) (L17 Gself') := fun x => F17_le x.1 x.2.1 x.2.2.1 x.2.2.2.1 x.2.2.2.2.1 x.2.2.2.2.2.1 x.2.2.2.2.2.2.1 x.2.2.2.2.2.2.2.1 x.2.2.2.2.2.2.2.2.1
theorem L13_eq (Gself : G) (t2 : Bool) (c1_0 : List Q4) (b0_0 : Int) (b0_1 : Int) (b0_2 : Int) (b0_3 : Int) (s2 : List Q4) : L13 Gself (t2, c1_0, b0_0, b0_1, b0_2, b0_3, s2, ()) = F13 (L17 Gself) Gself t2 c1_0 b0_0 b0_1 b0_2 b0_3 s2 := rfl
theorem L13_le {Gself Gself' : G} (hG : OLe Gself Gself') : OLe (L13 Gself) (L13 Gself') := fun x => F13_le (L17_le hG) hG x.1 x.2.1 x.2.2.1 x.2.2.2.1 x.2.2.2.2.1 x.2.2.2.2.2.1 x.2.2.2.2.2.2.1
theorem step_mono : OMono step := fun G G' hG x => F0_le (L13_le hG) hG x.1 x.2.1 x.2.2.1 x.2.2.2.1
theorem impl_eq (x1 : Int) (x2 : Bool) (c1_0 : List Q4) (s2 : List Q4) : impl (x1, x2, c1_0, s2, ()) = F0 (L13 impl) impl impl_pushing_put.impl x1 x2 c1_0 s2 := congrFun (lfp_eq step_mono) _
theorem con_step (Gself : G) (hself : Con Try.prog 53 3 rs.length 3 pin pout Gself) : Con Try.prog 53 3 rs.length 3 pin pout (step Gself) := by
  refine con_of_run3 (nt := 75) (c := c0) tabGood Try.func53 (by kernel_rfl) (by kernel_rfl) (by kernel_rfl) (by kernel_rfl) (by kernel_rfl) (by kernel_rfl) (by kernel_rfl) ?_
  intro w0 O y Post hnp fin
  have hp : ∀ (J13 : List Item → C13), ∀ (J17 : List Item → C17), Parts Try.prog 53 (pg Gself impl_pushing_put.impl J13 J17) [(13, cut p13 J13), (17, cut p17 J17)] := fun J13 J17 => ⟨tab_ok tabGood rfl, (handAt_ok impl_pushing_put.con (handAt_ok hself handNil_ok)), rfl⟩
  have g17 : Good Try.prog 75 w0 O Post y T17 p17 (L17 Gself) := good_part (hp (atT T13 (fun _ => none)) (atT T17 (fun _ => none))) (runOK_of (hp (atT T13 (fun _ => none)) (atT T17 (fun _ => none))) hnp ⟨cutOK_at (p := p13) (T := T13) (J := fun _ => none) good_none, cutOK_at (p := p17) (T := T17) (J := fun _ => none) good_none, trivial⟩ fin) (fun x => (seg17 Gself impl_pushing_put.impl (atT T13 (fun _ => none)) (atT T17 (fun _ => none)) x.1 x.2.1 x.2.2.1 x.2.2.2.1 x.2.2.2.2.1 x.2.2.2.2.2.1 x.2.2.2.2.2.2.1 x.2.2.2.2.2.2.2.1 x.2.2.2.2.2.2.2.2.1))
  have g13 : Good Try.prog 75 w0 O Post y T13 p13 (L13 Gself) := good_part (hp (atT T13 (fun _ => none)) (atT T17 (L17 Gself))) (runOK_of (hp (atT T13 (fun _ => none)) (atT T17 (L17 Gself))) hnp ⟨cutOK_at (p := p13) (T := T13) (J := fun _ => none) good_none, cutOK_at g17, trivial⟩ fin) (fun x => (seg13 Gself impl_pushing_put.impl (atT T13 (fun _ => none)) (atT T17 (L17 Gself)) x.1 x.2.1 x.2.2.1 x.2.2.2.1 x.2.2.2.2.1 x.2.2.2.2.2.1 x.2.2.2.2.2.2.1).trans (by simp only [atT_self] <;> rfl))
  exact good_first (hp (atT T13 (L13 Gself)) (atT T17 (fun _ => none))) (runOK_of (hp (atT T13 (L13 Gself)) (atT T17 (fun _ => none))) hnp ⟨cutOK_at g13, cutOK_at (p := p17) (T := T17) (J := fun _ => none) good_none, trivial⟩ fin) (fun x => (seg0 Gself impl_pushing_put.impl (atT T13 (L13 Gself)) (atT T17 (fun _ => none)) x.1 x.2.1 x.2.2.1 x.2.2.2.1).trans (by simp only [atT_self] <;> rfl))
theorem con : Con Try.prog 53 3 rs.length 3 pin pout impl := con_lfp (c := c0) Try.func53 (by kernel_rfl) (by kernel_rfl) (by kernel_rfl) con_step
end impl_pushing_of

/-! ### loop.example/wholecheck/impl.Pushed -/
namespace impl_Pushed
noncomputable abbrev c0 : Code := (Try.f14.body).getD .skip
noncomputable abbrev pin : Tpl := ⟨[⟨0, false, [.d (.sl q4)]⟩, ⟨1, false, [.d i64]⟩], []⟩
noncomputable abbrev pout : Tpl := ⟨[⟨0, false, [.row 600001]⟩], [(600001, .row 73 false q4)]⟩
noncomputable abbrev PI := (List Q4) × Int × Unit
noncomputable abbrev PO := (List Q4) × Unit
noncomputable abbrev G := PI → Option PO
noncomputable abbrev rs : List ResultVar := [.tmp 4]
noncomputable def F0 (Gimpl_TimesValid : impl_TimesValid.G) (Gimpl_clone_of : impl_clone_of.G) (Gimpl_pushing_of : impl_pushing_of.G) (x0 : List Q4) (x1 : Int) : Option PO :=
  Option.bind (Gimpl_TimesValid (x0, x1, ())) fun y0 =>
  bif !y0.1 then
    some ([], ())
  else
    Option.bind (Gimpl_pushing_of (wI ((x0.length : Int) - 1), false, x0, [], ())) fun y1 =>
    bif decide ((y1.2.2.1.length : Int) > 24) then
      some ([], ())
    else
      bif decide (0 ≤ wI (y1.1 + 1)) && decide (wI (y1.1 + 1) ≤ (y1.2.2.1.length : Int)) then
        Option.bind (Gimpl_clone_of ((y1.2.2.1.drop 0).take ((wI (y1.1 + 1)).toNat - 0), ())) fun y2 =>
        some (y2.1, ())
      else
        none
noncomputable def hd {R : Type} (Gimpl_TimesValid : impl_TimesValid.G) (Gimpl_clone_of : impl_clone_of.G) (Gimpl_pushing_of : impl_pushing_of.G) : Hand R := (handAt 53 [18] false ⟨3, 1, 3, impl_pushing_of.pin, impl_pushing_of.pout, Gimpl_pushing_of⟩ (handAt 50 [32] true ⟨1, 1, 1, impl_clone_of.pin, impl_clone_of.pout, Gimpl_clone_of⟩ (handAt 49 [9] true ⟨2, 1, 2, impl_TimesValid.pin, impl_TimesValid.pout, Gimpl_TimesValid⟩ handNil)))
noncomputable def pg (Gimpl_TimesValid : impl_TimesValid.G) (Gimpl_clone_of : impl_clone_of.G) (Gimpl_pushing_of : impl_pushing_of.G) : Prog PO := { nt := 33, np := 2, tb := tabOf tab, hd := hd Gimpl_TimesValid Gimpl_clone_of Gimpl_pushing_of, cuts := cutsOf [], fin := endOf (tabOf tab) rs 2 pout }
noncomputable def q : FuncId → Bool := fun f => hasId [49] f
theorem seg0 (Gimpl_TimesValid : impl_TimesValid.G) (Gimpl_clone_of : impl_clone_of.G) (Gimpl_pushing_of : impl_pushing_of.G) (x0 : List Q4) (x1 : Int) : arun (pg Gimpl_TimesValid Gimpl_clone_of Gimpl_pushing_of) 5000 [.code c0] (mk pin (x0, x1, ())) = F0 Gimpl_TimesValid Gimpl_clone_of Gimpl_pushing_of x0 x1 := by kernel_rfl
noncomputable def impl : G := fun x => F0 impl_TimesValid.impl impl_clone_of.impl impl_pushing_of.impl x.1 x.2.1
theorem impl_eq (x0 : List Q4) (x1 : Int) : impl (x0, x1, ()) = F0 impl_TimesValid.impl impl_clone_of.impl impl_pushing_of.impl x0 x1 := rfl
theorem con : Con Try.prog 14 2 rs.length 2 pin pout impl := by
  refine con_of_run3 (nt := 33) (c := c0) tabGood Try.func14 (by kernel_rfl) (by kernel_rfl) (by kernel_rfl) (by kernel_rfl) (by kernel_rfl) (by kernel_rfl) (by kernel_rfl) ?_
  intro w0 O y Post hnp fin
  have hp : Parts Try.prog 14 (pg impl_TimesValid.impl impl_clone_of.impl impl_pushing_of.impl) [] := ⟨tab_ok tabGood rfl, (handAt_ok impl_pushing_of.con (handAt_ok impl_clone_of.con (handAt_ok impl_TimesValid.con handNil_ok))), rfl⟩
  exact good_first (hp) (runOK_of (hp) hnp trivial fin) (fun x => (seg0 impl_TimesValid.impl impl_clone_of.impl impl_pushing_of.impl x.1 x.2.1))
end impl_Pushed

/-! ### loop.example/wholecheck/laws.FnContrary -/
namespace laws_FnContrary
noncomputable abbrev c0 : Code := (Try.f3.body).getD .skip
noncomputable abbrev pin : Tpl := ⟨[⟨0, false, [.d (.sl (.int .u8))]⟩], []⟩
noncomputable abbrev pout : Tpl := ⟨[⟨0, false, [.d .bool]⟩], []⟩
noncomputable abbrev p7 : Tpl := ⟨[⟨3, false, [.row 3000000]⟩, ⟨4, false, [.row 3000001]⟩, ⟨5, false, [.row 3000002]⟩, ⟨6, false, [.d i64]⟩, ⟨7, false, [.d .bool]⟩], [(3000000, .row 73 false q4), (3000001, .row 60 false (.sl i64)), (3000002, .row 60 false (.sl i64))]⟩
noncomputable def T7 : List Item := (find 7 c0 []).getD []
noncomputable abbrev p9 : Tpl := ⟨[⟨3, false, [.row 3000000]⟩, ⟨4, false, [.row 3000001]⟩, ⟨5, false, [.row 3000002]⟩, ⟨6, false, [.d i64]⟩, ⟨7, false, [.d .bool]⟩], [(3000000, .row 73 false q4), (3000001, .row 60 false (.sl i64)), (3000002, .row 60 false (.sl i64))]⟩
noncomputable def T9 : List Item := (find 9 c0 []).getD []
noncomputable abbrev PI := (List Int) × Unit
noncomputable abbrev PO := Bool × Unit
noncomputable abbrev G := PI → Option PO
noncomputable abbrev P7 := Int × Bool × (List Q4) × (List (List Int)) × (List (List Int)) × Unit
noncomputable abbrev C7 := P7 → Option PO
noncomputable abbrev P9 := Int × Bool × (List Q4) × (List (List Int)) × (List (List Int)) × Unit
noncomputable abbrev C9 := P9 → Option PO
noncomputable abbrev rs : List ResultVar := [.tmp 2]
noncomputable def F0 (J7 : C7) (Gimpl_HoldsOn : impl_HoldsOn.G) (Gimpl_WordValid : impl_WordValid.G) (Gspec_DrawHoldsOn : spec_DrawHoldsOn.G) (Gspec_HoldsOn : spec_HoldsOn.G) (Gspec_WordValid : spec_WordValid.G) (x0 : List Int) : Option PO :=
  bif decide ((x0.length : Int) > 1048576) then
    some (true, ())
  else
    Option.bind (Gspec_DrawHoldsOn (x0, ())) fun y0 =>
    Option.bind (Gimpl_HoldsOn (y0.2.1, y0.2.2.1, y0.2.2.2.1, y0.1, ())) fun y1 =>
    Option.bind (Gspec_HoldsOn (y0.2.1, y0.2.2.1, y0.2.2.2.1, y0.1, ())) fun y2 =>
    bif !(y1.1 == y2.1) then
      some (false, ())
    else
      Option.bind (Gimpl_WordValid (y0.2.2.1, y0.2.2.2.1, y0.1, ())) fun y3 =>
      Option.bind (Gspec_WordValid (y0.2.2.1, y0.2.2.2.1, y0.1, ())) fun y4 =>
      bif !(y3.1 == y4.1) then
        some (false, ())
      else
        J7 (y0.1, y1.1, y0.2.1, y0.2.2.1, y0.2.2.2.1, ())
noncomputable def F7 (J9 : C9) (Gspec_TimesValid : spec_TimesValid.G) (Gspec_WordValid : spec_WordValid.G) (t6 : Int) (t7 : Bool) (r0 : List Q4) (r1 : List (List Int)) (r2 : List (List Int)) : Option PO :=
  Option.bind (Gspec_TimesValid (r0, t6, ())) fun y5 =>
  bif !y5.1 then
    some (!t7, ())
  else
    Option.bind (Gspec_WordValid (r1, r2, t6, ())) fun y6 =>
    bif !y6.1 then
      some (!t7, ())
    else
      J9 (t6, t7, r0, r1, r2, ())
noncomputable def F9 (Gimpl_Contrary : impl_Contrary.G) (Gimpl_HoldsOn : impl_HoldsOn.G) (Gimpl_Pushed : impl_Pushed.G) (t6 : Int) (t7 : Bool) (r0 : List Q4) (r1 : List (List Int)) (r2 : List (List Int)) : Option PO :=
  Option.bind (Gimpl_Contrary (r0, t6, ())) fun y7 =>
  Option.bind (Gimpl_Pushed (y7.1, t6, ())) fun y8 =>
  Option.bind (Gimpl_HoldsOn (y7.1, r1, r2, t6, ())) fun y9 =>
  bif !(y9.1 == t7) then
    bif (y8.1.length : Int) == 0 then
      some (true, ())
    else
      Option.bind (Gimpl_HoldsOn (y8.1, r1, r2, t6, ())) fun y10 =>
      some (!(y10.1 == t7), ())
  else
    some (false, ())
noncomputable def hd {R : Type} (Gimpl_Contrary : impl_Contrary.G) (Gimpl_HoldsOn : impl_HoldsOn.G) (Gimpl_Pushed : impl_Pushed.G) (Gimpl_WordValid : impl_WordValid.G) (Gspec_DrawHoldsOn : spec_DrawHoldsOn.G) (Gspec_HoldsOn : spec_HoldsOn.G) (Gspec_TimesValid : spec_TimesValid.G) (Gspec_WordValid : spec_WordValid.G) : Hand R := (handAt 14 [61] true ⟨2, 1, 2, impl_Pushed.pin, impl_Pushed.pout, Gimpl_Pushed⟩ (handAt 13 [58] true ⟨2, 1, 2, impl_Contrary.pin, impl_Contrary.pout, Gimpl_Contrary⟩ (handAt 12 [45] true ⟨2, 1, 2, spec_TimesValid.pin, spec_TimesValid.pout, Gspec_TimesValid⟩ (handAt 11 [40, 51] true ⟨3, 1, 3, spec_WordValid.pin, spec_WordValid.pout, Gspec_WordValid⟩ (handAt 10 [36] true ⟨3, 1, 3, impl_WordValid.pin, impl_WordValid.pout, Gimpl_WordValid⟩ (handAt 9 [30] true ⟨4, 1, 4, spec_HoldsOn.pin, spec_HoldsOn.pout, Gspec_HoldsOn⟩ (handAt 8 [24, 66, 78] true ⟨4, 1, 4, impl_HoldsOn.pin, impl_HoldsOn.pout, Gimpl_HoldsOn⟩ (handAt 7 [15] false ⟨1, 4, 1, spec_DrawHoldsOn.pin, spec_DrawHoldsOn.pout, Gspec_DrawHoldsOn⟩ handNil))))))))
noncomputable def pg (Gimpl_Contrary : impl_Contrary.G) (Gimpl_HoldsOn : impl_HoldsOn.G) (Gimpl_Pushed : impl_Pushed.G) (Gimpl_WordValid : impl_WordValid.G) (Gspec_DrawHoldsOn : spec_DrawHoldsOn.G) (Gspec_HoldsOn : spec_HoldsOn.G) (Gspec_TimesValid : spec_TimesValid.G) (Gspec_WordValid : spec_WordValid.G) (J7 : List Item → C7) (J9 : List Item → C9) : Prog PO := { nt := 83, np := 1, tb := tabOf tab, hd := hd Gimpl_Contrary Gimpl_HoldsOn Gimpl_Pushed Gimpl_WordValid Gspec_DrawHoldsOn Gspec_HoldsOn Gspec_TimesValid Gspec_WordValid, cuts := cutsOf [(7, cut p7 J7), (9, cut p9 J9)], fin := endOf (tabOf tab) rs 1 pout }
noncomputable def q : FuncId → Bool := fun f => hasId [8, 9, 10, 11, 12] f
theorem seg0 (Gimpl_Contrary : impl_Contrary.G) (Gimpl_HoldsOn : impl_HoldsOn.G) (Gimpl_Pushed : impl_Pushed.G) (Gimpl_WordValid : impl_WordValid.G) (Gspec_DrawHoldsOn : spec_DrawHoldsOn.G) (Gspec_HoldsOn : spec_HoldsOn.G) (Gspec_TimesValid : spec_TimesValid.G) (Gspec_WordValid : spec_WordValid.G) (J7 : List Item → C7) (J9 : List Item → C9) (x0 : List Int) : arun (pg Gimpl_Contrary Gimpl_HoldsOn Gimpl_Pushed Gimpl_WordValid Gspec_DrawHoldsOn Gspec_HoldsOn Gspec_TimesValid Gspec_WordValid J7 J9) 5000 [.code c0] (mk pin (x0, ())) = F0 (J7 T7) Gimpl_HoldsOn Gimpl_WordValid Gspec_DrawHoldsOn Gspec_HoldsOn Gspec_WordValid x0 := by kernel_rfl
theorem seg7 (Gimpl_Contrary : impl_Contrary.G) (Gimpl_HoldsOn : impl_HoldsOn.G) (Gimpl_Pushed : impl_Pushed.G) (Gimpl_WordValid : impl_WordValid.G) (Gspec_DrawHoldsOn : spec_DrawHoldsOn.G) (Gspec_HoldsOn : spec_HoldsOn.G) (Gspec_TimesValid : spec_TimesValid.G) (Gspec_WordValid : spec_WordValid.G) (J7 : List Item → C7) (J9 : List Item → C9) (t6 : Int) (t7 : Bool) (r0 : List Q4) (r1 : List (List Int)) (r2 : List (List Int)) : arun1 (pg Gimpl_Contrary Gimpl_HoldsOn Gimpl_Pushed Gimpl_WordValid Gspec_DrawHoldsOn Gspec_HoldsOn Gspec_TimesValid Gspec_WordValid J7 J9) 5000 T7 (mk p7 (t6, t7, r0, r1, r2, ())) = F7 (J9 T9) Gspec_TimesValid Gspec_WordValid t6 t7 r0 r1 r2 := by kernel_rfl
theorem seg9 (Gimpl_Contrary : impl_Contrary.G) (Gimpl_HoldsOn : impl_HoldsOn.G) (Gimpl_Pushed : impl_Pushed.G) (Gimpl_WordValid : impl_WordValid.G) (Gspec_DrawHoldsOn : spec_DrawHoldsOn.G) (Gspec_HoldsOn : spec_HoldsOn.G) (Gspec_TimesValid : spec_TimesValid.G) (Gspec_WordValid : spec_WordValid.G) (J7 : List Item → C7) (J9 : List Item → C9) (t6 : Int) (t7 : Bool) (r0 : List Q4) (r1 : List (List Int)) (r2 : List (List Int)) : arun1 (pg Gimpl_Contrary Gimpl_HoldsOn Gimpl_Pushed Gimpl_WordValid Gspec_DrawHoldsOn Gspec_HoldsOn Gspec_TimesValid Gspec_WordValid J7 J9) 5000 T9 (mk p9 (t6, t7, r0, r1, r2, ())) = F9 Gimpl_Contrary Gimpl_HoldsOn Gimpl_Pushed t6 t7 r0 r1 r2 := by kernel_rfl
noncomputable def L9 : C9 := fun x => F9 impl_Contrary.impl impl_HoldsOn.impl impl_Pushed.impl x.1 x.2.1 x.2.2.1 x.2.2.2.1 x.2.2.2.2.1
noncomputable def L7 : C7 := fun x => F7 L9 spec_TimesValid.impl spec_WordValid.impl x.1 x.2.1 x.2.2.1 x.2.2.2.1 x.2.2.2.2.1
noncomputable def impl : G := fun x => F0 L7 impl_HoldsOn.impl impl_WordValid.impl spec_DrawHoldsOn.impl spec_HoldsOn.impl spec_WordValid.impl x.1
theorem L9_eq (t6 : Int) (t7 : Bool) (r0 : List Q4) (r1 : List (List Int)) (r2 : List (List Int)) : L9 (t6, t7, r0, r1, r2, ()) = F9 impl_Contrary.impl impl_HoldsOn.impl impl_Pushed.impl t6 t7 r0 r1 r2 := rfl
theorem L7_eq (t6 : Int) (t7 : Bool) (r0 : List Q4) (r1 : List (List Int)) (r2 : List (List Int)) : L7 (t6, t7, r0, r1, r2, ()) = F7 (L9) spec_TimesValid.impl spec_WordValid.impl t6 t7 r0 r1 r2 := rfl
theorem impl_eq (x0 : List Int) : impl (x0, ()) = F0 L7 impl_HoldsOn.impl impl_WordValid.impl spec_DrawHoldsOn.impl spec_HoldsOn.impl spec_WordValid.impl x0 := rfl
theorem con : Con Try.prog 3 1 rs.length 1 pin pout impl := by
  refine con_of_run3 (nt := 83) (c := c0) tabGood Try.func3 (by kernel_rfl) (by kernel_rfl) (by kernel_rfl) (by kernel_rfl) (by kernel_rfl) (by kernel_rfl) (by kernel_rfl) ?_
  intro w0 O y Post hnp fin
  have hp : ∀ (J7 : List Item → C7), ∀ (J9 : List Item → C9), Parts Try.prog 3 (pg impl_Contrary.impl impl_HoldsOn.impl impl_Pushed.impl impl_WordValid.impl spec_DrawHoldsOn.impl spec_HoldsOn.impl spec_TimesValid.impl spec_WordValid.impl J7 J9) [(7, cut p7 J7), (9, cut p9 J9)] := fun J7 J9 => ⟨tab_ok tabGood rfl, (handAt_ok impl_Pushed.con (handAt_ok impl_Contrary.con (handAt_ok spec_TimesValid.con (handAt_ok spec_WordValid.con (handAt_ok impl_WordValid.con (handAt_ok spec_HoldsOn.con (handAt_ok impl_HoldsOn.con (handAt_ok spec_DrawHoldsOn.con handNil_ok)))))))), rfl⟩
  have g9 : Good Try.prog 83 w0 O Post y T9 p9 L9 := good_part (hp (atT T7 (fun _ => none)) (atT T9 (fun _ => none))) (runOK_of (hp (atT T7 (fun _ => none)) (atT T9 (fun _ => none))) hnp ⟨cutOK_at (p := p7) (T := T7) (J := fun _ => none) good_none, cutOK_at (p := p9) (T := T9) (J := fun _ => none) good_none, trivial⟩ fin) (fun x => (seg9 impl_Contrary.impl impl_HoldsOn.impl impl_Pushed.impl impl_WordValid.impl spec_DrawHoldsOn.impl spec_HoldsOn.impl spec_TimesValid.impl spec_WordValid.impl (atT T7 (fun _ => none)) (atT T9 (fun _ => none)) x.1 x.2.1 x.2.2.1 x.2.2.2.1 x.2.2.2.2.1))
  have g7 : Good Try.prog 83 w0 O Post y T7 p7 L7 := good_part (hp (atT T7 (fun _ => none)) (atT T9 L9)) (runOK_of (hp (atT T7 (fun _ => none)) (atT T9 L9)) hnp ⟨cutOK_at (p := p7) (T := T7) (J := fun _ => none) good_none, cutOK_at g9, trivial⟩ fin) (fun x => (seg7 impl_Contrary.impl impl_HoldsOn.impl impl_Pushed.impl impl_WordValid.impl spec_DrawHoldsOn.impl spec_HoldsOn.impl spec_TimesValid.impl spec_WordValid.impl (atT T7 (fun _ => none)) (atT T9 L9) x.1 x.2.1 x.2.2.1 x.2.2.2.1 x.2.2.2.2.1).trans (by simp only [atT_self] <;> rfl))
  exact good_first (hp (atT T7 L7) (atT T9 (fun _ => none))) (runOK_of (hp (atT T7 L7) (atT T9 (fun _ => none))) hnp ⟨cutOK_at g7, cutOK_at (p := p9) (T := T9) (J := fun _ => none) good_none, trivial⟩ fin) (fun x => (seg0 impl_Contrary.impl impl_HoldsOn.impl impl_Pushed.impl impl_WordValid.impl spec_DrawHoldsOn.impl spec_HoldsOn.impl spec_TimesValid.impl spec_WordValid.impl (atT T7 L7) (atT T9 (fun _ => none)) x.1).trans (by simp only [atT_self] <;> rfl))
end laws_FnContrary
end Go.Proofs.YtjjepjfjikefiaaB
