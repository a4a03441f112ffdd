/- PRINTED BY A PROGRAM OF THIS CLAIM'S AUTHOR (wip/gen): functions of the given program, their parts, their contracts. -/
import Derived.Test.YtfjnckjkpkhbdaaGreatDoorKFnReadExpra
set_option linter.unusedVariables false
set_option linter.unusedSimpArgs false
set_option maxRecDepth 100000
namespace Go.Proofs.YtfjnckjkpkhbdaaGreatDoorB
open Go

/-! ### loop.example/wholecheck/impl.parts -/
namespace impl_parts
noncomputable abbrev c0 : Code := (Tryz.f120.body).getD .skip
noncomputable abbrev pin : Tpl := ⟨[⟨0, false, [.d (.int .i64)]⟩], []⟩
noncomputable abbrev pout : Tpl := ⟨[⟨0, false, [.d (.int .i64)]⟩, ⟨1, false, [.d (.int .i64)]⟩, ⟨2, false, [.d (.int .i64)]⟩], []⟩
noncomputable abbrev PI := Int × Unit
noncomputable abbrev PO := Int × Int × Int × Unit
noncomputable abbrev rs : List ResultVar := [.tmp 2, .tmp 3, .tmp 4]
noncomputable def F0 (x0 : Int) : Option PO :=
  bif x0 == 2 then
    some (2, 1, 1, ())
  else
    bif x0 == 3 then
      some (2, 1, 1, ())
    else
      bif x0 == 4 then
        some (2, 1, 1, ())
      else
        bif x0 == 5 then
          some (2, 1, 2, ())
        else
          bif x0 == 6 then
            some (2, 1, 2, ())
          else
            bif x0 == 7 then
              some (1, 2, 2, ())
            else
              bif x0 == 8 then
                some (2, 2, 2, ())
              else
                bif x0 == 9 then
                  some (2, 2, 2, ())
                else
                  some (0, 0, 1, ())
noncomputable def hd {R : Type} : Hand R := handNil
noncomputable def pg : Prog PO := { nt := 18, np := 1, tb := tabOf tab, hd := hd, cuts := cutsOf [], fin := endOf (tabOf tab) rs 1 pout }
noncomputable def q : FuncId → Bool := fun f => hasId [] f
theorem seg0 (x0 : Int) : arun (pg) 5000 [.code c0] (mk pin (x0, ())) = F0 x0 := by kernel_rfl
noncomputable def impl : PI → Option PO := fun x => F0 x.1
theorem impl_eq (x0 : Int) : impl (x0, ()) = F0 x0 := rfl
theorem con : Con Tryz.prog 120 1 rs.length 1 pin pout impl := by
  refine con_of_run' (nt := 18) (c := c0) tabGood Tryz.func120 (by kernel_rfl) (by kernel_rfl) (by kernel_rfl) (by kernel_rfl) (by kernel_rfl) (by kernel_rfl) (by kernel_rfl) ?_
  intro w0 O y hnp
  generalize hPost : (fun (a' : Act) (w' : World) => ∃ μ' S' st', Rel 18 w0 O μ' S' st' a' w' ∧ endOf (tabOf tab) rs 1 pout st' = some y) = Post
  have fin : ∀ (μ : Id → Option Value) (S : Nat → Prop) (st : St) (a : Act) (w : World), Rel 18 w0 O μ S st a w → endOf (tabOf tab) rs 1 pout st = some y → Post a w := fun μ S st a w h he => by rw [← hPost]; exact ⟨μ, S, st, h, he⟩
  have hp : Parts Tryz.prog 120 (pg) [] := ⟨tab_ok tabGood rfl, handNil_ok, rfl⟩
  exact good_first (hp) (runOK_of (hp) hnp trivial fin) (fun x => (seg0 x.1))
end impl_parts

/-! ### loop.example/wholecheck/impl.kindsOf -/
namespace impl_kindsOf
noncomputable abbrev c0 : Code := (Tryz.f72.body).getD .skip
noncomputable abbrev pin : Tpl := ⟨[⟨0, false, [.d (.sl (.prod (.int .i64) (.prod (.int .i64) (.prod (.int .i64) (.last (.int .i64))))))]⟩, ⟨1, false, [.d (.int .i64)]⟩], []⟩
noncomputable abbrev pout : Tpl := ⟨[⟨0, false, [.row 600001]⟩], [(600001, .row 3 true (.int .i64))]⟩
noncomputable abbrev p3 : Tpl := ⟨[⟨0, false, [.d (.sl (.prod (.int .i64) (.prod (.int .i64) (.prod (.int .i64) (.last (.int .i64))))))]⟩, ⟨1, false, [.d (.int .i64)]⟩], []⟩
noncomputable def T3 : List Item := (find 3 c0 []).getD []
noncomputable abbrev p5 : Tpl := ⟨[⟨1, false, [.d (.int .i64)]⟩, ⟨5, false, [.row 3000000]⟩, ⟨24, false, [.d (.sl (.prod (.int .i64) (.prod (.int .i64) (.prod (.int .i64) (.last (.int .i64))))))]⟩, ⟨25, false, [.d (.int .i64)]⟩, ⟨26, false, [.d (.int .i64)]⟩], [(3000000, .row 3 false (.int .i64))]⟩
noncomputable def T5 : List Item := (find 5 c0 []).getD []
noncomputable abbrev PI := (List (Int × Int × Int × Int)) × Int × Unit
noncomputable abbrev PO := (List Int) × Unit
noncomputable abbrev P3 := (List (Int × Int × Int × Int)) × Int × Unit
noncomputable abbrev P5 := Int × (List (Int × Int × Int × Int)) × Int × Int × (List Int) × Unit
noncomputable abbrev rs : List ResultVar := [.tmp 4]
noncomputable def F0 (J3 : P3 → Option PO) (Gimpl_in : impl_in.PI → Option impl_in.PO) (x0 : List (Int × Int × Int × Int)) (x1 : Int) : Option PO :=
  Option.bind (Gimpl_in (x1, 0, 5, ())) fun y0 =>
  bif !y0.1 then
    some ([], ())
  else
    Option.bind (Gimpl_in ((x0.length : Int), 1, 40, ())) fun y1 =>
    bif !y1.1 then
      some ([], ())
    else
      J3 (x0, x1, ())
noncomputable def F3 (J5 : P5 → Option PO) (t0 : List (Int × Int × Int × Int)) (t1 : Int) : Option PO :=
  bif decide (0 ≤ (t0.length : Int)) && decide ((t0.length : Int) * 8 ≤ 140737488355328) then
    J5 (t1, t0, (t0.length : Int), 0, (List.replicate 0 0 : List Int), ())
  else
    none
noncomputable def F5 (J5 : P5 → Option PO) (Gimpl_in : impl_in.PI → Option impl_in.PO) (Gimpl_parts : impl_parts.PI → Option impl_parts.PO) (t1 : Int) (t24 : List (Int × Int × Int × Int)) (t25 : Int) (t26 : Int) (r0 : List Int) : Option PO :=
  bif decide (t26 < t25) then
    bif inb t26 t24.length then
      Option.bind (Gimpl_parts ((t24.getD t26.toNat (0, 0, 0, 0)).1, ())) fun y2 =>
      Option.bind (Gimpl_in ((t24.getD t26.toNat (0, 0, 0, 0)).1, 0, 9, ())) fun y3 =>
      bif (t24.getD t26.toNat (0, 0, 0, 0)).1 == 0 then
        Option.bind (Gimpl_in ((t24.getD t26.toNat (0, 0, 0, 0)).2.1, (-9999), 9999, ())) fun y4 =>
        bif y4.1 then
          bif (t24.getD t26.toNat (0, 0, 0, 0)).2.2.1 == 0 then
            bif !((t24.getD t26.toNat (0, 0, 0, 0)).2.2.2 == 0) then
              some ([], ())
            else
              bif decide ((r0.length + ([y2.2.2.1] : List Int).length) * 8 ≤ 140737488355328) then
                J5 (t1, t24, t25, wI (t26 + 1), r0 ++ ([y2.2.2.1] : List Int), ())
              else
                none
          else
            some ([], ())
        else
          some ([], ())
      else
        bif (t24.getD t26.toNat (0, 0, 0, 0)).1 == 1 then
          Option.bind (Gimpl_in ((t24.getD t26.toNat (0, 0, 0, 0)).2.1, 0, wI (t1 - 1), ())) fun y5 =>
          bif y5.1 then
            bif (t24.getD t26.toNat (0, 0, 0, 0)).2.2.1 == 0 then
              bif !((t24.getD t26.toNat (0, 0, 0, 0)).2.2.2 == 0) then
                some ([], ())
              else
                bif decide ((r0.length + ([y2.2.2.1] : List Int).length) * 8 ≤ 140737488355328) then
                  J5 (t1, t24, t25, wI (t26 + 1), r0 ++ ([y2.2.2.1] : List Int), ())
                else
                  none
            else
              some ([], ())
          else
            some ([], ())
        else
          bif y3.1 then
            bif (t24.getD t26.toNat (0, 0, 0, 0)).2.1 == 0 then
              Option.bind (Gimpl_in ((t24.getD t26.toNat (0, 0, 0, 0)).2.2.1, 0, wI (t26 - 1), ())) fun y6 =>
              bif y6.1 then
                Option.bind (Gimpl_in ((t24.getD t26.toNat (0, 0, 0, 0)).2.2.2, 0, wI (t26 - 1), ())) fun y7 =>
                bif y7.1 then
                  bif inb (t24.getD t26.toNat (0, 0, 0, 0)).2.2.1 r0.length then
                    bif r0.getD (t24.getD t26.toNat (0, 0, 0, 0)).2.2.1.toNat 0 == y2.2.1 then
                      bif inb (t24.getD t26.toNat (0, 0, 0, 0)).2.2.2 r0.length then
                        bif r0.getD (t24.getD t26.toNat (0, 0, 0, 0)).2.2.2.toNat 0 == y2.2.1 then
                          bif y2.1 == 2 then
                            bif decide ((r0.length + ([y2.2.2.1] : List Int).length) * 8 ≤ 140737488355328) then
                              J5 (t1, t24, t25, wI (t26 + 1), r0 ++ ([y2.2.2.1] : List Int), ())
                            else
                              none
                          else
                            bif !((t24.getD t26.toNat (0, 0, 0, 0)).2.2.1 == (t24.getD t26.toNat (0, 0, 0, 0)).2.2.2) then
                              some ([], ())
                            else
                              bif decide ((r0.length + ([y2.2.2.1] : List Int).length) * 8 ≤ 140737488355328) then
                                J5 (t1, t24, t25, wI (t26 + 1), r0 ++ ([y2.2.2.1] : List Int), ())
                              else
                                none
                        else
                          some ([], ())
                      else
                        none
                    else
                      some ([], ())
                  else
                    none
                else
                  some ([], ())
              else
                some ([], ())
            else
              some ([], ())
          else
            bif !y3.1 then
              some ([], ())
            else
              bif decide ((r0.length + ([y2.2.2.1] : List Int).length) * 8 ≤ 140737488355328) then
                J5 (t1, t24, t25, wI (t26 + 1), r0 ++ ([y2.2.2.1] : List Int), ())
              else
                none
    else
      none
  else
    bif (!r0.isEmpty && true) then
      some (r0, ())
    else
      none
noncomputable def hd {R : Type} (Gimpl_in : impl_in.PI → Option impl_in.PO) (Gimpl_parts : impl_parts.PI → Option impl_parts.PO) : Hand R := (handAt 120 [34] true ⟨1, 3, 1, impl_parts.pin, impl_parts.pout, Gimpl_parts⟩ (handAt 74 [13, 18, 40, 47, 66, 87, 94] true ⟨3, 1, 3, impl_in.pin, impl_in.pout, Gimpl_in⟩ handNil))
noncomputable def pg (Gimpl_in : impl_in.PI → Option impl_in.PO) (Gimpl_parts : impl_parts.PI → Option impl_parts.PO) (J3 : List Item → P3 → Option PO) (J5 : List Item → P5 → Option PO) : Prog PO := { nt := 133, np := 2, tb := tabOf tab, hd := hd Gimpl_in Gimpl_parts, cuts := cutsOf [(3, cut p3 J3), (5, cut p5 J5)], fin := endOf (tabOf tab) rs 2 pout }
noncomputable def q : FuncId → Bool := fun f => hasId [74, 120] f
theorem seg0 (Gimpl_in : impl_in.PI → Option impl_in.PO) (Gimpl_parts : impl_parts.PI → Option impl_parts.PO) (J3 : List Item → P3 → Option PO) (J5 : List Item → P5 → Option PO) (x0 : List (Int × Int × Int × Int)) (x1 : Int) : arun (pg Gimpl_in Gimpl_parts J3 J5) 5000 [.code c0] (mk pin (x0, x1, ())) = F0 (J3 T3) Gimpl_in x0 x1 := by kernel_rfl
theorem seg3 (Gimpl_in : impl_in.PI → Option impl_in.PO) (Gimpl_parts : impl_parts.PI → Option impl_parts.PO) (J3 : List Item → P3 → Option PO) (J5 : List Item → P5 → Option PO) (t0 : List (Int × Int × Int × Int)) (t1 : Int) : arun1 (pg Gimpl_in Gimpl_parts J3 J5) 5000 T3 (mk p3 (t0, t1, ())) = F3 (J5 T5) t0 t1 := by kernel_rfl
theorem seg5 (Gimpl_in : impl_in.PI → Option impl_in.PO) (Gimpl_parts : impl_parts.PI → Option impl_parts.PO) (J3 : List Item → P3 → Option PO) (J5 : List Item → P5 → Option PO) (t1 : Int) (t24 : List (Int × Int × Int × Int)) (t25 : Int) (t26 : Int) (r0 : List Int) : arun1 (pg Gimpl_in Gimpl_parts J3 J5) 5000 T5 (mk p5 (t1, t24, t25, t26, r0, ())) = F5 (J5 T5) Gimpl_in Gimpl_parts t1 t24 t25 t26 r0 := by kernel_rfl
noncomputable def L5 : P5 → Option PO := lfp fun J5 x => F5 J5 impl_in.impl impl_parts.impl x.1 x.2.1 x.2.2.1 x.2.2.2.1 x.2.2.2.2.1
noncomputable def L3 : P3 → Option PO := fun x => F3 L5 x.1 x.2.1
noncomputable def impl : PI → Option PO := fun x => F0 L3 impl_in.impl x.1 x.2.1
theorem F5_le {J5 J5' : P5 → Option PO} (h5 : OLe J5 J5') {Gimpl_in : impl_in.PI → Option impl_in.PO} {Gimpl_parts : impl_parts.PI → Option impl_parts.PO} (t1 : Int) (t24 : List (Int × Int × Int × Int)) (t25 : Int) (t26 : Int) (r0 : List Int) : OptLe (F5 J5 Gimpl_in Gimpl_parts t1 t24 t25 t26 r0) (F5 J5' Gimpl_in Gimpl_parts t1 t24 t25 t26 r0) := by unfold F5; exact .cond (.cond (.bind (.refl _) fun _ => .bind (.refl _) fun _ => .cond (.bind (.refl _) fun _ => .cond (.cond (.cond (.refl _) (.cond (.of h5 _) (.refl _))) (.refl _)) (.refl _)) (.cond (.bind (.refl _) fun _ => .cond (.cond (.cond (.refl _) (.cond (.of h5 _) (.refl _))) (.refl _)) (.refl _)) (.cond (.cond (.bind (.refl _) fun _ => .cond (.bind (.refl _) fun _ => .cond (.cond (.cond (.cond (.cond (.cond (.cond (.of h5 _) (.refl _)) (.cond (.refl _) (.cond (.of h5 _) (.refl _)))) (.refl _)) (.refl _)) (.refl _)) (.refl _)) (.refl _)) (.refl _)) (.refl _)) (.cond (.refl _) (.cond (.of h5 _) (.refl _)))))) (.refl _)) (.refl _)
theorem L5_mono : OMono fun J5 (x : P5) => F5 J5 impl_in.impl impl_parts.impl x.1 x.2.1 x.2.2.1 x.2.2.2.1 x.2.2.2.2.1 := fun J J' h5 x => F5_le h5 x.1 x.2.1 x.2.2.1 x.2.2.2.1 x.2.2.2.2.1
theorem L5_eq (t1 : Int) (t24 : List (Int × Int × Int × Int)) (t25 : Int) (t26 : Int) (r0 : List Int) : L5 (t1, t24, t25, t26, r0, ()) = F5 (L5) impl_in.impl impl_parts.impl t1 t24 t25 t26 r0 := congrFun (lfp_eq (L5_mono)) _
theorem L3_eq (t0 : List (Int × Int × Int × Int)) (t1 : Int) : L3 (t0, t1, ()) = F3 (L5) t0 t1 := rfl
theorem impl_eq (x0 : List (Int × Int × Int × Int)) (x1 : Int) : impl (x0, x1, ()) = F0 L3 impl_in.impl x0 x1 := rfl
theorem con : Con Tryz.prog 72 2 rs.length 2 pin pout impl := by
  refine con_of_run' (nt := 133) (c := c0) tabGood Tryz.func72 (by kernel_rfl) (by kernel_rfl) (by kernel_rfl) (by kernel_rfl) (by kernel_rfl) (by kernel_rfl) (by kernel_rfl) ?_
  intro w0 O y hnp
  generalize hPost : (fun (a' : Act) (w' : World) => ∃ μ' S' st', Rel 133 w0 O μ' S' st' a' w' ∧ endOf (tabOf tab) rs 2 pout st' = some y) = Post
  have fin : ∀ (μ : Id → Option Value) (S : Nat → Prop) (st : St) (a : Act) (w : World), Rel 133 w0 O μ S st a w → endOf (tabOf tab) rs 2 pout st = some y → Post a w := fun μ S st a w h he => by rw [← hPost]; exact ⟨μ, S, st, h, he⟩
  have hp : ∀ (J3 : List Item → P3 → Option PO), ∀ (J5 : List Item → P5 → Option PO), Parts Tryz.prog 72 (pg impl_in.impl impl_parts.impl J3 J5) [(3, cut p3 J3), (5, cut p5 J5)] := fun J3 J5 => ⟨tab_ok tabGood rfl, (handAt_ok impl_parts.con (handAt_ok impl_in.con handNil_ok)), rfl⟩
  have g5 : Good Tryz.prog 133 w0 O Post y T5 p5 L5 := good_lfp fun J5 h5 => good_part (hp (atT T3 (fun _ => none)) (atT T5 J5)) (runOK_of (hp (atT T3 (fun _ => none)) (atT T5 J5)) hnp ⟨cutOK_at (p := p3) (T := T3) (J := fun _ => none) good_none, cutOK_at h5, trivial⟩ fin) (fun x => (seg5 impl_in.impl impl_parts.impl (atT T3 (fun _ => none)) (atT T5 J5) x.1 x.2.1 x.2.2.1 x.2.2.2.1 x.2.2.2.2.1).trans (by simp only [atT_self] <;> rfl))
  have g3 : Good Tryz.prog 133 w0 O Post y T3 p3 L3 := good_part (hp (atT T3 (fun _ => none)) (atT T5 L5)) (runOK_of (hp (atT T3 (fun _ => none)) (atT T5 L5)) hnp ⟨cutOK_at (p := p3) (T := T3) (J := fun _ => none) good_none, cutOK_at g5, trivial⟩ fin) (fun x => (seg3 impl_in.impl impl_parts.impl (atT T3 (fun _ => none)) (atT T5 L5) x.1 x.2.1).trans (by simp only [atT_self] <;> rfl))
  exact good_first (hp (atT T3 L3) (atT T5 (fun _ => none))) (runOK_of (hp (atT T3 L3) (atT T5 (fun _ => none))) hnp ⟨cutOK_at g3, cutOK_at (p := p5) (T := T5) (J := fun _ => none) good_none, trivial⟩ fin) (fun x => (seg0 impl_in.impl impl_parts.impl (atT T3 L3) (atT T5 (fun _ => none)) x.1 x.2.1).trans (by simp only [atT_self] <;> rfl))
end impl_kindsOf

/-! ### loop.example/wholecheck/impl.TermsValid -/
namespace impl_TermsValid
noncomputable abbrev c0 : Code := (Tryz.f23.body).getD .skip
noncomputable abbrev pin : Tpl := ⟨[⟨0, false, [.d (.sl (.prod (.int .i64) (.prod (.int .i64) (.prod (.int .i64) (.last (.int .i64))))))]⟩, ⟨1, false, [.d (.int .i64)]⟩], []⟩
noncomputable abbrev pout : Tpl := ⟨[⟨0, false, [.d .bool]⟩], []⟩
noncomputable abbrev PI := (List (Int × Int × Int × Int)) × Int × Unit
noncomputable abbrev PO := Bool × Unit
noncomputable abbrev rs : List ResultVar := [.tmp 4]
noncomputable def F0 (Gimpl_kindsOf : impl_kindsOf.PI → Option impl_kindsOf.PO) (x0 : List (Int × Int × Int × Int)) (x1 : Int) : Option PO :=
  Option.bind (Gimpl_kindsOf (x0, x1, ())) fun y0 =>
  some (!y0.1.isEmpty, ())
noncomputable def hd {R : Type} (Gimpl_kindsOf : impl_kindsOf.PI → Option impl_kindsOf.PO) : Hand R := (handAt 72 [7] true ⟨2, 1, 2, impl_kindsOf.pin, impl_kindsOf.pout, Gimpl_kindsOf⟩ handNil)
noncomputable def pg (Gimpl_kindsOf : impl_kindsOf.PI → Option impl_kindsOf.PO) : Prog PO := { nt := 9, np := 2, tb := tabOf tab, hd := hd Gimpl_kindsOf, cuts := cutsOf [], fin := endOf (tabOf tab) rs 2 pout }
noncomputable def q : FuncId → Bool := fun f => hasId [] f
theorem seg0 (Gimpl_kindsOf : impl_kindsOf.PI → Option impl_kindsOf.PO) (x0 : List (Int × Int × Int × Int)) (x1 : Int) : arun (pg Gimpl_kindsOf) 5000 [.code c0] (mk pin (x0, x1, ())) = F0 Gimpl_kindsOf x0 x1 := by kernel_rfl
noncomputable def impl : PI → Option PO := fun x => F0 impl_kindsOf.impl x.1 x.2.1
theorem impl_eq (x0 : List (Int × Int × Int × Int)) (x1 : Int) : impl (x0, x1, ()) = F0 impl_kindsOf.impl x0 x1 := rfl
theorem con : Con Tryz.prog 23 2 rs.length 2 pin pout impl := by
  refine con_of_run' (nt := 9) (c := c0) tabGood Tryz.func23 (by kernel_rfl) (by kernel_rfl) (by kernel_rfl) (by kernel_rfl) (by kernel_rfl) (by kernel_rfl) (by kernel_rfl) ?_
  intro w0 O y hnp
  generalize hPost : (fun (a' : Act) (w' : World) => ∃ μ' S' st', Rel 9 w0 O μ' S' st' a' w' ∧ endOf (tabOf tab) rs 2 pout st' = some y) = Post
  have fin : ∀ (μ : Id → Option Value) (S : Nat → Prop) (st : St) (a : Act) (w : World), Rel 9 w0 O μ S st a w → endOf (tabOf tab) rs 2 pout st = some y → Post a w := fun μ S st a w h he => by rw [← hPost]; exact ⟨μ, S, st, h, he⟩
  have hp : Parts Tryz.prog 23 (pg impl_kindsOf.impl) [] := ⟨tab_ok tabGood rfl, (handAt_ok impl_kindsOf.con handNil_ok), rfl⟩
  exact good_first (hp) (runOK_of (hp) hnp trivial fin) (fun x => (seg0 impl_kindsOf.impl x.1 x.2.1))
end impl_TermsValid

/-! ### loop.example/wholecheck/impl.clone[loop.example/wholecheck/impl.Term] -/
namespace impl_clone_of
noncomputable abbrev c0 : Code := (Tryz.f65.body).getD .skip
noncomputable abbrev pin : Tpl := ⟨[⟨0, false, [.d (.sl (.prod (.int .i64) (.prod (.int .i64) (.prod (.int .i64) (.last (.int .i64))))))]⟩], []⟩
noncomputable abbrev pout : Tpl := ⟨[⟨0, false, [.row 600001]⟩], [(600001, .row 52 false (.prod (.int .i64) (.prod (.int .i64) (.prod (.int .i64) (.last (.int .i64))))))]⟩
noncomputable abbrev PI := (List (Int × Int × Int × Int)) × Unit
noncomputable abbrev PO := (List (Int × Int × Int × Int)) × Unit
noncomputable abbrev rs : List ResultVar := [.tmp 2]
noncomputable def F0 (x0 : List (Int × Int × Int × Int)) : Option PO :=
  bif (x0.length : Int) == 0 then
    some ([], ())
  else
    bif decide (0 ≤ (x0.length : Int)) && decide ((x0.length : Int) ≤ (x0.length : Int)) && decide ((x0.length : Int) * 32 ≤ 140737488355328) then
      some (x0.take (List.replicate (x0.length : Int).toNat (0, 0, 0, 0) : List (Int × Int × Int × Int)).length ++ (List.replicate (x0.length : Int).toNat (0, 0, 0, 0) : List (Int × Int × Int × Int)).drop x0.length, ())
    else
      none
noncomputable def hd {R : Type} : Hand R := handNil
noncomputable def pg : Prog PO := { nt := 14, np := 1, tb := tabOf tab, hd := hd, cuts := cutsOf [], fin := endOf (tabOf tab) rs 1 pout }
noncomputable def q : FuncId → Bool := fun f => hasId [] f
theorem seg0 (x0 : List (Int × Int × Int × Int)) : arun (pg) 5000 [.code c0] (mk pin (x0, ())) = F0 x0 := by kernel_rfl
noncomputable def impl : PI → Option PO := fun x => F0 x.1
theorem impl_eq (x0 : List (Int × Int × Int × Int)) : impl (x0, ()) = F0 x0 := rfl
theorem con : Con Tryz.prog 65 1 rs.length 1 pin pout impl := by
  refine con_of_run' (nt := 14) (c := c0) tabGood Tryz.func65 (by kernel_rfl) (by kernel_rfl) (by kernel_rfl) (by kernel_rfl) (by kernel_rfl) (by kernel_rfl) (by kernel_rfl) ?_
  intro w0 O y hnp
  generalize hPost : (fun (a' : Act) (w' : World) => ∃ μ' S' st', Rel 14 w0 O μ' S' st' a' w' ∧ endOf (tabOf tab) rs 1 pout st' = some y) = Post
  have fin : ∀ (μ : Id → Option Value) (S : Nat → Prop) (st : St) (a : Act) (w : World), Rel 14 w0 O μ S st a w → endOf (tabOf tab) rs 1 pout st = some y → Post a w := fun μ S st a w h he => by rw [← hPost]; exact ⟨μ, S, st, h, he⟩
  have hp : Parts Tryz.prog 65 (pg) [] := ⟨tab_ok tabGood rfl, handNil_ok, rfl⟩
  exact good_first (hp) (runOK_of (hp) hnp trivial fin) (fun x => (seg0 x.1))
end impl_clone_of

/-! ### loop.example/wholecheck/impl.readExpr -/
namespace impl_readExpr
noncomputable abbrev c0 : Code := (Tryz.f62.body).getD .skip
noncomputable abbrev pin : Tpl := ⟨[⟨0, false, [.d (.sl .str)]⟩, ⟨1, false, [.d .str]⟩], []⟩
noncomputable abbrev pout : Tpl := ⟨[⟨0, false, [.row 600001]⟩, ⟨1, false, [.d .bool]⟩], [(600001, .row 52 false (.prod (.int .i64) (.prod (.int .i64) (.prod (.int .i64) (.last (.int .i64))))))]⟩
noncomputable abbrev p3 : Tpl := ⟨[⟨0, false, [.d (.sl .str)]⟩, ⟨1, false, [.d .str]⟩], []⟩
noncomputable def T3 : List Item := (find 3 c0 []).getD []
noncomputable abbrev PI := (List (List UInt8)) × (List UInt8) × Unit
noncomputable abbrev PO := Bool × (List (Int × Int × Int × Int)) × Unit
noncomputable abbrev P3 := (List (List UInt8)) × (List UInt8) × Unit
noncomputable abbrev rs : List ResultVar := [.tmp 4, .tmp 5]
noncomputable def F0 (J3 : P3 → Option PO) (Gimpl_NamesValid : impl_NamesValid.PI → Option impl_NamesValid.PO) (x0 : List (List UInt8)) (x1 : List UInt8) : Option PO :=
  Option.bind (Gimpl_NamesValid (x0, ())) fun y0 =>
  bif !y0.1 then
    some (false, [], ())
  else
    bif decide ((x1.length : Int) > 4000) then
      some (false, [], ())
    else
      J3 (x0, x1, ())
noncomputable def F3 (Gimpl_TermsValid : impl_TermsValid.PI → Option impl_TermsValid.PO) (Gimpl_clone_of : impl_clone_of.PI → Option impl_clone_of.PO) (Gimpl_scan_expr : impl_scan_expr.PI → Option impl_scan_expr.PO) (t0 : List (List UInt8)) (t1 : List UInt8) : Option PO :=
  Option.bind (Gimpl_scan_expr (0, t0, t1, 0, [], ())) fun y1 =>
  bif decide (y1.1 < 0) then
    some (false, [], ())
  else
    bif decide (y1.2.2.2.1 < (t1.length : Int)) then
      some (false, [], ())
    else
      Option.bind (Gimpl_TermsValid (y1.2.2.2.2.1, (t0.length : Int), ())) fun y2 =>
      bif !y2.1 then
        some (false, [], ())
      else
        Option.bind (Gimpl_clone_of (y1.2.2.2.2.1, ())) fun y3 =>
        some (true, y3.1, ())
noncomputable def hd {R : Type} (Gimpl_NamesValid : impl_NamesValid.PI → Option impl_NamesValid.PO) (Gimpl_TermsValid : impl_TermsValid.PI → Option impl_TermsValid.PO) (Gimpl_clone_of : impl_clone_of.PI → Option impl_clone_of.PO) (Gimpl_scan_expr : impl_scan_expr.PI → Option impl_scan_expr.PO) : Hand R := (handAt 108 [20] false ⟨2, 1, 2, impl_scan_expr.pin, impl_scan_expr.pout, Gimpl_scan_expr⟩ (handAt 65 [45] true ⟨1, 1, 1, impl_clone_of.pin, impl_clone_of.pout, Gimpl_clone_of⟩ (handAt 23 [38] true ⟨2, 1, 2, impl_TermsValid.pin, impl_TermsValid.pout, Gimpl_TermsValid⟩ (handAt 16 [8] true ⟨1, 1, 1, impl_NamesValid.pin, impl_NamesValid.pout, Gimpl_NamesValid⟩ handNil))))
noncomputable def pg (Gimpl_NamesValid : impl_NamesValid.PI → Option impl_NamesValid.PO) (Gimpl_TermsValid : impl_TermsValid.PI → Option impl_TermsValid.PO) (Gimpl_clone_of : impl_clone_of.PI → Option impl_clone_of.PO) (Gimpl_scan_expr : impl_scan_expr.PI → Option impl_scan_expr.PO) (J3 : List Item → P3 → Option PO) : Prog PO := { nt := 46, np := 2, tb := tabOf tab, hd := hd Gimpl_NamesValid Gimpl_TermsValid Gimpl_clone_of Gimpl_scan_expr, cuts := cutsOf [(3, cut p3 J3)], fin := endOf (tabOf tab) rs 2 pout }
noncomputable def q : FuncId → Bool := fun f => hasId [16, 23] f
theorem seg0 (Gimpl_NamesValid : impl_NamesValid.PI → Option impl_NamesValid.PO) (Gimpl_TermsValid : impl_TermsValid.PI → Option impl_TermsValid.PO) (Gimpl_clone_of : impl_clone_of.PI → Option impl_clone_of.PO) (Gimpl_scan_expr : impl_scan_expr.PI → Option impl_scan_expr.PO) (J3 : List Item → P3 → Option PO) (x0 : List (List UInt8)) (x1 : List UInt8) : arun (pg Gimpl_NamesValid Gimpl_TermsValid Gimpl_clone_of Gimpl_scan_expr J3) 5000 [.code c0] (mk pin (x0, x1, ())) = F0 (J3 T3) Gimpl_NamesValid x0 x1 := by kernel_rfl
theorem seg3 (Gimpl_NamesValid : impl_NamesValid.PI → Option impl_NamesValid.PO) (Gimpl_TermsValid : impl_TermsValid.PI → Option impl_TermsValid.PO) (Gimpl_clone_of : impl_clone_of.PI → Option impl_clone_of.PO) (Gimpl_scan_expr : impl_scan_expr.PI → Option impl_scan_expr.PO) (J3 : List Item → P3 → Option PO) (t0 : List (List UInt8)) (t1 : List UInt8) : arun1 (pg Gimpl_NamesValid Gimpl_TermsValid Gimpl_clone_of Gimpl_scan_expr J3) 5000 T3 (mk p3 (t0, t1, ())) = F3 Gimpl_TermsValid Gimpl_clone_of Gimpl_scan_expr t0 t1 := by kernel_rfl
noncomputable def L3 : P3 → Option PO := fun x => F3 impl_TermsValid.impl impl_clone_of.impl impl_scan_expr.impl x.1 x.2.1
noncomputable def impl : PI → Option PO := fun x => F0 L3 impl_NamesValid.impl x.1 x.2.1
theorem L3_eq (t0 : List (List UInt8)) (t1 : List UInt8) : L3 (t0, t1, ()) = F3 impl_TermsValid.impl impl_clone_of.impl impl_scan_expr.impl t0 t1 := rfl
theorem impl_eq (x0 : List (List UInt8)) (x1 : List UInt8) : impl (x0, x1, ()) = F0 L3 impl_NamesValid.impl x0 x1 := rfl
theorem con : Con Tryz.prog 62 2 rs.length 2 pin pout impl := by
  refine con_of_run' (nt := 46) (c := c0) tabGood Tryz.func62 (by kernel_rfl) (by kernel_rfl) (by kernel_rfl) (by kernel_rfl) (by kernel_rfl) (by kernel_rfl) (by kernel_rfl) ?_
  intro w0 O y hnp
  generalize hPost : (fun (a' : Act) (w' : World) => ∃ μ' S' st', Rel 46 w0 O μ' S' st' a' w' ∧ endOf (tabOf tab) rs 2 pout st' = some y) = Post
  have fin : ∀ (μ : Id → Option Value) (S : Nat → Prop) (st : St) (a : Act) (w : World), Rel 46 w0 O μ S st a w → endOf (tabOf tab) rs 2 pout st = some y → Post a w := fun μ S st a w h he => by rw [← hPost]; exact ⟨μ, S, st, h, he⟩
  have hp : ∀ (J3 : List Item → P3 → Option PO), Parts Tryz.prog 62 (pg impl_NamesValid.impl impl_TermsValid.impl impl_clone_of.impl impl_scan_expr.impl J3) [(3, cut p3 J3)] := fun J3 => ⟨tab_ok tabGood rfl, (handAt_ok impl_scan_expr.con (handAt_ok impl_clone_of.con (handAt_ok impl_TermsValid.con (handAt_ok impl_NamesValid.con handNil_ok)))), rfl⟩
  have g3 : Good Tryz.prog 46 w0 O Post y T3 p3 L3 := good_part (hp (atT T3 (fun _ => none))) (runOK_of (hp (atT T3 (fun _ => none))) hnp ⟨cutOK_at (p := p3) (T := T3) (J := fun _ => none) good_none, trivial⟩ fin) (fun x => (seg3 impl_NamesValid.impl impl_TermsValid.impl impl_clone_of.impl impl_scan_expr.impl (atT T3 (fun _ => none)) x.1 x.2.1))
  exact good_first (hp (atT T3 L3)) (runOK_of (hp (atT T3 L3)) hnp ⟨cutOK_at g3, trivial⟩ fin) (fun x => (seg0 impl_NamesValid.impl impl_TermsValid.impl impl_clone_of.impl impl_scan_expr.impl (atT T3 L3) x.1 x.2.1).trans (by simp only [atT_self] <;> rfl))
end impl_readExpr

/-! ### loop.example/wholecheck/impl.ReadExpr -/
namespace impl_ReadExpr
noncomputable abbrev c0 : Code := (Tryz.f18.body).getD .skip
noncomputable abbrev pin : Tpl := ⟨[⟨0, false, [.d (.sl .str)]⟩, ⟨1, false, [.d .str]⟩], []⟩
noncomputable abbrev pout : Tpl := ⟨[⟨0, false, [.row 600001]⟩, ⟨1, false, [.d .bool]⟩], [(600001, .row 52 false (.prod (.int .i64) (.prod (.int .i64) (.prod (.int .i64) (.last (.int .i64))))))]⟩
noncomputable abbrev PI := (List (List UInt8)) × (List UInt8) × Unit
noncomputable abbrev PO := Bool × (List (Int × Int × Int × Int)) × Unit
noncomputable abbrev rs : List ResultVar := [.tmp 4, .tmp 5]
noncomputable def F0 (Gimpl_readExpr : impl_readExpr.PI → Option impl_readExpr.PO) (x0 : List (List UInt8)) (x1 : List UInt8) : Option PO :=
  Option.bind (Gimpl_readExpr (x0, x1, ())) fun y0 =>
  some (y0.1, y0.2.1, ())
noncomputable def hd {R : Type} (Gimpl_readExpr : impl_readExpr.PI → Option impl_readExpr.PO) : Hand R := (handAt 62 [8] true ⟨2, 2, 2, impl_readExpr.pin, impl_readExpr.pout, Gimpl_readExpr⟩ handNil)
noncomputable def pg (Gimpl_readExpr : impl_readExpr.PI → Option impl_readExpr.PO) : Prog PO := { nt := 11, np := 2, tb := tabOf tab, hd := hd Gimpl_readExpr, cuts := cutsOf [], fin := endOf (tabOf tab) rs 2 pout }
noncomputable def q : FuncId → Bool := fun f => hasId [] f
theorem seg0 (Gimpl_readExpr : impl_readExpr.PI → Option impl_readExpr.PO) (x0 : List (List UInt8)) (x1 : List UInt8) : arun (pg Gimpl_readExpr) 5000 [.code c0] (mk pin (x0, x1, ())) = F0 Gimpl_readExpr x0 x1 := by kernel_rfl
noncomputable def impl : PI → Option PO := fun x => F0 impl_readExpr.impl x.1 x.2.1
theorem impl_eq (x0 : List (List UInt8)) (x1 : List UInt8) : impl (x0, x1, ()) = F0 impl_readExpr.impl x0 x1 := rfl
theorem con : Con Tryz.prog 18 2 rs.length 2 pin pout impl := by
  refine con_of_run' (nt := 11) (c := c0) tabGood Tryz.func18 (by kernel_rfl) (by kernel_rfl) (by kernel_rfl) (by kernel_rfl) (by kernel_rfl) (by kernel_rfl) (by kernel_rfl) ?_
  intro w0 O y hnp
  generalize hPost : (fun (a' : Act) (w' : World) => ∃ μ' S' st', Rel 11 w0 O μ' S' st' a' w' ∧ endOf (tabOf tab) rs 2 pout st' = some y) = Post
  have fin : ∀ (μ : Id → Option Value) (S : Nat → Prop) (st : St) (a : Act) (w : World), Rel 11 w0 O μ S st a w → endOf (tabOf tab) rs 2 pout st = some y → Post a w := fun μ S st a w h he => by rw [← hPost]; exact ⟨μ, S, st, h, he⟩
  have hp : Parts Tryz.prog 18 (pg impl_readExpr.impl) [] := ⟨tab_ok tabGood rfl, (handAt_ok impl_readExpr.con handNil_ok), rfl⟩
  exact good_first (hp) (runOK_of (hp) hnp trivial fin) (fun x => (seg0 impl_readExpr.impl x.1 x.2.1))
end impl_ReadExpr

/-! ### loop.example/wholecheck/spec.l30Word -/
namespace spec_l30Word
noncomputable abbrev c0 : Code := (Tryz.f157.body).getD .skip
noncomputable abbrev pin : Tpl := ⟨[⟨0, true, [.d .str, .d (.int .i64), .row 500001, .row 500002, .d .bool]⟩], [(500001, .row 9 false .str), (500002, .row 52 true (.prod (.int .i64) (.prod (.int .i64) (.prod (.int .i64) (.last (.int .i64))))))]⟩
noncomputable abbrev pout : Tpl := ⟨[⟨0, false, [.d .str]⟩, ⟨1, true, [.any, .any, .row 500001, .row 500002, .any]⟩], [(500001, .row 9 false .str), (500002, .row 52 true (.prod (.int .i64) (.prod (.int .i64) (.prod (.int .i64) (.last (.int .i64))))))]⟩
noncomputable abbrev p2 : Tpl := ⟨[⟨0, true, [.d .str, .d (.int .i64), .row 500001, .row 500002, .d .bool]⟩, ⟨1, false, [.ptr 3000000 0]⟩, ⟨3, false, [.d (.int .i64)]⟩], [(500001, .row 9 false .str), (500002, .row 52 true (.prod (.int .i64) (.prod (.int .i64) (.prod (.int .i64) (.last (.int .i64)))))), (3000000, .box [.d .str, .d (.int .i64), .row 500001, .row 500002, .d .bool])]⟩
noncomputable def T2 : List Item := (find 2 c0 []).getD []
noncomputable abbrev PI := (List UInt8) × Int × Bool × (List (List UInt8)) × (List (Int × Int × Int × Int)) × Unit
noncomputable abbrev PO := (List UInt8) × (List (List UInt8)) × (List (Int × Int × Int × Int)) × Unit
noncomputable abbrev P2 := (List UInt8) × Int × Bool × Int × (List (List UInt8)) × (List (Int × Int × Int × Int)) × (List UInt8) × Int × Bool × Unit
noncomputable abbrev rs : List ResultVar := [.tmp 2]
noncomputable def F0 (J2 : P2 → Option PO) (x0_0 : List UInt8) (x0_1 : Int) (x0_2 : Bool) (s1 : List (List UInt8)) (s2 : List (Int × Int × Int × Int)) : Option PO :=
  J2 (x0_0, x0_1, x0_2, x0_1, s1, s2, x0_0, x0_1, x0_2, ())
noncomputable def F2 (J2 : P2 → Option PO) (t0_0 : List UInt8) (t0_1 : Int) (t0_2 : Bool) (t3 : Int) (s1 : List (List UInt8)) (s2 : List (Int × Int × Int × Int)) (b0_0 : List UInt8) (b0_1 : Int) (b0_2 : Bool) : Option PO :=
  bif decide (t3 < (b0_0.length : Int)) then
    bif inb t3 b0_0.length then
      bif decide (((b0_0.getD t3.toNat 0).toNat : Int) ≥ 97) then
        bif inb t3 b0_0.length then
          bif decide (((b0_0.getD t3.toNat 0).toNat : Int) ≤ 122) then
            J2 (t0_0, t0_1, t0_2, wI (t3 + 1), s1, s2, b0_0, b0_1, b0_2, ())
          else
            bif inb t3 b0_0.length then
              bif decide (((b0_0.getD t3.toNat 0).toNat : Int) ≥ 48) then
                bif inb t3 b0_0.length then
                  bif decide (((b0_0.getD t3.toNat 0).toNat : Int) ≤ 57) then
                    J2 (t0_0, t0_1, t0_2, wI (t3 + 1), s1, s2, b0_0, b0_1, b0_2, ())
                  else
                    bif inb t3 b0_0.length then
                      bif ((b0_0.getD t3.toNat 0).toNat : Int) == 45 then
                        bif t3 == b0_1 then
                          J2 (t0_0, t0_1, t0_2, wI (t3 + 1), s1, s2, b0_0, b0_1, b0_2, ())
                        else
                          bif decide (0 ≤ b0_1) && decide (b0_1 ≤ t3) && decide (t3 ≤ (b0_0.length : Int)) then
                            some ((b0_0.take t3.toNat).drop b0_1.toNat, s1, s2, ())
                          else
                            none
                      else
                        bif decide (0 ≤ b0_1) && decide (b0_1 ≤ t3) && decide (t3 ≤ (b0_0.length : Int)) then
                          some ((b0_0.take t3.toNat).drop b0_1.toNat, s1, s2, ())
                        else
                          none
                    else
                      none
                else
                  none
              else
                bif inb t3 b0_0.length then
                  bif ((b0_0.getD t3.toNat 0).toNat : Int) == 45 then
                    bif t3 == b0_1 then
                      J2 (t0_0, t0_1, t0_2, wI (t3 + 1), s1, s2, b0_0, b0_1, b0_2, ())
                    else
                      bif decide (0 ≤ b0_1) && decide (b0_1 ≤ t3) && decide (t3 ≤ (b0_0.length : Int)) then
                        some ((b0_0.take t3.toNat).drop b0_1.toNat, s1, s2, ())
                      else
                        none
                  else
                    bif decide (0 ≤ b0_1) && decide (b0_1 ≤ t3) && decide (t3 ≤ (b0_0.length : Int)) then
                      some ((b0_0.take t3.toNat).drop b0_1.toNat, s1, s2, ())
                    else
                      none
                else
                  none
            else
              none
        else
          none
      else
        bif inb t3 b0_0.length then
          bif decide (((b0_0.getD t3.toNat 0).toNat : Int) ≥ 48) then
            bif inb t3 b0_0.length then
              bif decide (((b0_0.getD t3.toNat 0).toNat : Int) ≤ 57) then
                J2 (t0_0, t0_1, t0_2, wI (t3 + 1), s1, s2, b0_0, b0_1, b0_2, ())
              else
                bif inb t3 b0_0.length then
                  bif ((b0_0.getD t3.toNat 0).toNat : Int) == 45 then
                    bif t3 == b0_1 then
                      J2 (t0_0, t0_1, t0_2, wI (t3 + 1), s1, s2, b0_0, b0_1, b0_2, ())
                    else
                      bif decide (0 ≤ b0_1) && decide (b0_1 ≤ t3) && decide (t3 ≤ (b0_0.length : Int)) then
                        some ((b0_0.take t3.toNat).drop b0_1.toNat, s1, s2, ())
                      else
                        none
                  else
                    bif decide (0 ≤ b0_1) && decide (b0_1 ≤ t3) && decide (t3 ≤ (b0_0.length : Int)) then
                      some ((b0_0.take t3.toNat).drop b0_1.toNat, s1, s2, ())
                    else
                      none
                else
                  none
            else
              none
          else
            bif inb t3 b0_0.length then
              bif ((b0_0.getD t3.toNat 0).toNat : Int) == 45 then
                bif t3 == b0_1 then
                  J2 (t0_0, t0_1, t0_2, wI (t3 + 1), s1, s2, b0_0, b0_1, b0_2, ())
                else
                  bif decide (0 ≤ b0_1) && decide (b0_1 ≤ t3) && decide (t3 ≤ (b0_0.length : Int)) then
                    some ((b0_0.take t3.toNat).drop b0_1.toNat, s1, s2, ())
                  else
                    none
              else
                bif decide (0 ≤ b0_1) && decide (b0_1 ≤ t3) && decide (t3 ≤ (b0_0.length : Int)) then
                  some ((b0_0.take t3.toNat).drop b0_1.toNat, s1, s2, ())
                else
                  none
            else
              none
        else
          none
    else
      none
  else
    bif decide (0 ≤ b0_1) && decide (b0_1 ≤ t3) && decide (t3 ≤ (b0_0.length : Int)) then
      some ((b0_0.take t3.toNat).drop b0_1.toNat, s1, s2, ())
    else
      none
noncomputable def hd {R : Type} : Hand R := handNil
noncomputable def pg (J2 : List Item → P2 → Option PO) : Prog PO := { nt := 60, np := 1, tb := tabOf tab, hd := hd, cuts := cutsOf [(2, cut p2 J2)], fin := endOf (tabOf tab) rs 1 pout }
noncomputable def q : FuncId → Bool := fun f => hasId [] f
theorem seg0 (J2 : List Item → P2 → Option PO) (x0_0 : List UInt8) (x0_1 : Int) (x0_2 : Bool) (s1 : List (List UInt8)) (s2 : List (Int × Int × Int × Int)) : arun (pg J2) 5000 [.code c0] (mk pin (x0_0, x0_1, x0_2, s1, s2, ())) = F0 (J2 T2) x0_0 x0_1 x0_2 s1 s2 := by kernel_rfl
theorem seg2 (J2 : List Item → P2 → Option PO) (t0_0 : List UInt8) (t0_1 : Int) (t0_2 : Bool) (t3 : Int) (s1 : List (List UInt8)) (s2 : List (Int × Int × Int × Int)) (b0_0 : List UInt8) (b0_1 : Int) (b0_2 : Bool) : arun1 (pg J2) 5000 T2 (mk p2 (t0_0, t0_1, t0_2, t3, s1, s2, b0_0, b0_1, b0_2, ())) = F2 (J2 T2) t0_0 t0_1 t0_2 t3 s1 s2 b0_0 b0_1 b0_2 := by kernel_rfl
noncomputable def L2 : P2 → Option PO := lfp fun J2 x => F2 J2 x.1 x.2.1 x.2.2.1 x.2.2.2.1 x.2.2.2.2.1 x.2.2.2.2.2.1 x.2.2.2.2.2.2.1 x.2.2.2.2.2.2.2.1 x.2.2.2.2.2.2.2.2.1
noncomputable def impl : PI → Option PO := fun x => F0 L2 x.1 x.2.1 x.2.2.1 x.2.2.2.1 x.2.2.2.2.1
theorem F2_le {J2 J2' : P2 → Option PO} (h2 : OLe J2 J2') (t0_0 : List UInt8) (t0_1 : Int) (t0_2 : Bool) (t3 : Int) (s1 : List (List UInt8)) (s2 : List (Int × Int × Int × Int)) (b0_0 : List UInt8) (b0_1 : Int) (b0_2 : Bool) : OptLe (F2 J2 t0_0 t0_1 t0_2 t3 s1 s2 b0_0 b0_1 b0_2) (F2 J2' t0_0 t0_1 t0_2 t3 s1 s2 b0_0 b0_1 b0_2) := by unfold F2; exact .cond (.cond (.cond (.cond (.cond (.of h2 _) (.cond (.cond (.cond (.cond (.of h2 _) (.cond (.cond (.cond (.of h2 _) (.refl _)) (.refl _)) (.refl _))) (.refl _)) (.cond (.cond (.cond (.of h2 _) (.refl _)) (.refl _)) (.refl _))) (.refl _))) (.refl _)) (.cond (.cond (.cond (.cond (.of h2 _) (.cond (.cond (.cond (.of h2 _) (.refl _)) (.refl _)) (.refl _))) (.refl _)) (.cond (.cond (.cond (.of h2 _) (.refl _)) (.refl _)) (.refl _))) (.refl _))) (.refl _)) (.refl _)
theorem L2_mono : OMono fun J2 (x : P2) => F2 J2 x.1 x.2.1 x.2.2.1 x.2.2.2.1 x.2.2.2.2.1 x.2.2.2.2.2.1 x.2.2.2.2.2.2.1 x.2.2.2.2.2.2.2.1 x.2.2.2.2.2.2.2.2.1 := fun J J' h2 x => F2_le h2 x.1 x.2.1 x.2.2.1 x.2.2.2.1 x.2.2.2.2.1 x.2.2.2.2.2.1 x.2.2.2.2.2.2.1 x.2.2.2.2.2.2.2.1 x.2.2.2.2.2.2.2.2.1
theorem L2_eq (t0_0 : List UInt8) (t0_1 : Int) (t0_2 : Bool) (t3 : Int) (s1 : List (List UInt8)) (s2 : List (Int × Int × Int × Int)) (b0_0 : List UInt8) (b0_1 : Int) (b0_2 : Bool) : L2 (t0_0, t0_1, t0_2, t3, s1, s2, b0_0, b0_1, b0_2, ()) = F2 (L2) t0_0 t0_1 t0_2 t3 s1 s2 b0_0 b0_1 b0_2 := congrFun (lfp_eq (L2_mono)) _
theorem impl_eq (x0_0 : List UInt8) (x0_1 : Int) (x0_2 : Bool) (s1 : List (List UInt8)) (s2 : List (Int × Int × Int × Int)) : impl (x0_0, x0_1, x0_2, s1, s2, ()) = F0 L2 x0_0 x0_1 x0_2 s1 s2 := rfl
theorem con : Con Tryz.prog 157 1 rs.length 1 pin pout impl := by
  refine con_of_run' (nt := 60) (c := c0) tabGood Tryz.func157 (by kernel_rfl) (by kernel_rfl) (by kernel_rfl) (by kernel_rfl) (by kernel_rfl) (by kernel_rfl) (by kernel_rfl) ?_
  intro w0 O y hnp
  generalize hPost : (fun (a' : Act) (w' : World) => ∃ μ' S' st', Rel 60 w0 O μ' S' st' a' w' ∧ endOf (tabOf tab) rs 1 pout st' = some y) = Post
  have fin : ∀ (μ : Id → Option Value) (S : Nat → Prop) (st : St) (a : Act) (w : World), Rel 60 w0 O μ S st a w → endOf (tabOf tab) rs 1 pout st = some y → Post a w := fun μ S st a w h he => by rw [← hPost]; exact ⟨μ, S, st, h, he⟩
  have hp : ∀ (J2 : List Item → P2 → Option PO), Parts Tryz.prog 157 (pg J2) [(2, cut p2 J2)] := fun J2 => ⟨tab_ok tabGood rfl, handNil_ok, rfl⟩
  have g2 : Good Tryz.prog 60 w0 O Post y T2 p2 L2 := good_lfp fun J2 h2 => good_part (hp (atT T2 J2)) (runOK_of (hp (atT T2 J2)) hnp ⟨cutOK_at h2, trivial⟩ fin) (fun x => (seg2 (atT T2 J2) x.1 x.2.1 x.2.2.1 x.2.2.2.1 x.2.2.2.2.1 x.2.2.2.2.2.1 x.2.2.2.2.2.2.1 x.2.2.2.2.2.2.2.1 x.2.2.2.2.2.2.2.2.1).trans (by simp only [atT_self] <;> rfl))
  exact good_first (hp (atT T2 L2)) (runOK_of (hp (atT T2 L2)) hnp ⟨cutOK_at g2, trivial⟩ fin) (fun x => (seg0 (atT T2 L2) x.1 x.2.1 x.2.2.1 x.2.2.2.1 x.2.2.2.2.1).trans (by simp only [atT_self] <;> rfl))
end spec_l30Word

/-! ### loop.example/wholecheck/spec.l30Put -/
namespace spec_l30Put
noncomputable abbrev c0 : Code := (Tryz.f116.body).getD .skip
noncomputable abbrev pin : Tpl := ⟨[⟨0, true, [.d .str, .d (.int .i64), .row 500001, .row 500002, .d .bool]⟩, ⟨1, true, [.d (.prod (.int .i64) (.prod (.int .i64) (.prod (.int .i64) (.last (.int .i64)))))]⟩], [(500001, .row 9 false .str), (500002, .row 52 true (.prod (.int .i64) (.prod (.int .i64) (.prod (.int .i64) (.last (.int .i64))))))]⟩
noncomputable abbrev pout : Tpl := ⟨[⟨0, true, [.d .str, .d (.int .i64), .row 500001, .row 500002, .d .bool]⟩, ⟨1, false, [.d (.int .i64)]⟩, ⟨2, true, [.any, .any, .row 500001, .any, .any]⟩], [(500001, .row 9 false .str), (500002, .row 52 true (.prod (.int .i64) (.prod (.int .i64) (.prod (.int .i64) (.last (.int .i64))))))]⟩
noncomputable abbrev p2 : Tpl := ⟨[⟨0, true, [.d .str, .d (.int .i64), .row 500001, .row 500002, .d .bool]⟩, ⟨2, false, [.ptr 3000000 0]⟩, ⟨3, false, [.ptr 3000001 0]⟩, ⟨4, false, [.ptr 3000002 0]⟩, ⟨6, false, [.d (.int .i64)]⟩], [(500001, .row 9 false .str), (500002, .row 52 true (.prod (.int .i64) (.prod (.int .i64) (.prod (.int .i64) (.last (.int .i64)))))), (3000000, .box [.d .str, .d (.int .i64), .row 500001, .row 500002, .d .bool]), (3000001, .box [.d (.int .i64), .d (.int .i64), .d (.int .i64), .d (.int .i64)]), (3000002, .box [.d .str, .d (.int .i64), .row 3000003, .row 3000004, .d .bool]), (3000003, .row 9 true .str), (3000004, .row 52 true (.prod (.int .i64) (.prod (.int .i64) (.prod (.int .i64) (.last (.int .i64))))))]⟩
noncomputable def T2 : List Item := (find 2 c0 []).getD []
noncomputable abbrev p4 : Tpl := ⟨[⟨0, true, [.d .str, .d (.int .i64), .row 500001, .row 500002, .d .bool]⟩, ⟨2, false, [.ptr 3000000 0]⟩, ⟨3, false, [.ptr 3000001 0]⟩, ⟨4, false, [.ptr 3000002 0]⟩, ⟨6, false, [.d (.int .i64)]⟩], [(500001, .row 9 false .str), (500002, .row 52 true (.prod (.int .i64) (.prod (.int .i64) (.prod (.int .i64) (.last (.int .i64)))))), (3000000, .box [.d .str, .d (.int .i64), .row 500001, .row 500002, .d .bool]), (3000001, .box [.d (.int .i64), .d (.int .i64), .d (.int .i64), .d (.int .i64)]), (3000002, .box [.d .str, .d (.int .i64), .row 3000003, .row 3000004, .d .bool]), (3000003, .row 9 true .str), (3000004, .row 52 true (.prod (.int .i64) (.prod (.int .i64) (.prod (.int .i64) (.last (.int .i64))))))]⟩
noncomputable def T4 : List Item := (find 4 c0 []).getD []
noncomputable abbrev p8 : Tpl := ⟨[⟨0, true, [.d .str, .d (.int .i64), .row 500001, .any, .d .bool]⟩, ⟨2, false, [.ptr 3000000 0]⟩, ⟨4, false, [.ptr 3000001 0]⟩], [(500001, .row 9 false .str), (3000000, .box [.d .str, .d (.int .i64), .row 500001, .row 500002, .d .bool]), (3000001, .box [.d .str, .d (.int .i64), .row 3000002, .row 3000003, .d .bool]), (500002, .row 52 true (.prod (.int .i64) (.prod (.int .i64) (.prod (.int .i64) (.last (.int .i64)))))), (3000002, .row 9 true .str), (3000003, .row 52 true (.prod (.int .i64) (.prod (.int .i64) (.prod (.int .i64) (.last (.int .i64))))))]⟩
noncomputable def T8 : List Item := (find 8 c0 []).getD []
noncomputable abbrev PI := (List UInt8) × Int × Bool × (Int × Int × Int × Int) × (List (List UInt8)) × (List (Int × Int × Int × Int)) × Unit
noncomputable abbrev PO := (List UInt8) × Int × Bool × Int × (List (List UInt8)) × (List (Int × Int × Int × Int)) × Unit
noncomputable abbrev P2 := (List UInt8) × Int × Bool × Int × (List (List UInt8)) × (List (Int × Int × Int × Int)) × (List UInt8) × Int × Bool × Int × Int × Int × Int × (List UInt8) × Int × Bool × (List (List UInt8)) × (List (Int × Int × Int × Int)) × Unit
noncomputable abbrev P4 := (List UInt8) × Int × Bool × Int × (List (List UInt8)) × (List (Int × Int × Int × Int)) × (List UInt8) × Int × Bool × Int × Int × Int × Int × (List UInt8) × Int × Bool × (List (List UInt8)) × (List (Int × Int × Int × Int)) × Unit
noncomputable abbrev P8 := (List UInt8) × Int × Bool × (List (List UInt8)) × (List UInt8) × Int × Bool × (List UInt8) × Int × Bool × (List (Int × Int × Int × Int)) × (List (List UInt8)) × (List (Int × Int × Int × Int)) × Unit
noncomputable abbrev rs : List ResultVar := [.cell 4 114, .tmp 5]
noncomputable def F0 (J2 : P2 → Option PO) (x0_0 : List UInt8) (x0_1 : Int) (x0_2 : Bool) (x1 : Int × Int × Int × Int) (s1 : List (List UInt8)) (s2 : List (Int × Int × Int × Int)) : Option PO :=
  J2 (x0_0, x0_1, x0_2, 0, s1, s2, x0_0, x0_1, x0_2, x1.1, x1.2.1, x1.2.2.1, x1.2.2.2, [], 0, false, [], [], ())
noncomputable def F2 (J4 : P4 → Option PO) (J8 : P8 → Option PO) (t0_0 : List UInt8) (t0_1 : Int) (t0_2 : Bool) (t6 : Int) (s1 : List (List UInt8)) (s2 : List (Int × Int × Int × Int)) (b0_0 : List UInt8) (b0_1 : Int) (b0_2 : Bool) (b1_0 : Int) (b1_1 : Int) (b1_2 : Int) (b1_3 : Int) (b2_0 : List UInt8) (b2_1 : Int) (b2_2 : Bool) (r3 : List (List UInt8)) (r4 : List (Int × Int × Int × Int)) : Option PO :=
  bif decide (t6 < (s2.length : Int)) then
    J4 (t0_0, t0_1, t0_2, t6, s1, s2, b0_0, b0_1, b0_2, b1_0, b1_1, b1_2, b1_3, b2_0, b2_1, b2_2, r3, r4, ())
  else
    bif decide ((s2.length + ([(b1_0, b1_1, b1_2, b1_3)] : List (Int × Int × Int × Int)).length) * 32 ≤ 140737488355328) then
      bif b0_2 then
        J8 (t0_0, t0_1, t0_2, s1, b0_0, b0_1, decide (((s2 ++ ([(b1_0, b1_1, b1_2, b1_3)] : List (Int × Int × Int × Int))).length : Int) ≤ 40), b2_0, b2_1, b2_2, s2 ++ ([(b1_0, b1_1, b1_2, b1_3)] : List (Int × Int × Int × Int)), r3, r4, ())
      else
        J8 (t0_0, t0_1, t0_2, s1, b0_0, b0_1, false, b2_0, b2_1, b2_2, s2 ++ ([(b1_0, b1_1, b1_2, b1_3)] : List (Int × Int × Int × Int)), r3, r4, ())
    else
      none
noncomputable def F4 (J2 : P2 → Option PO) (t0_0 : List UInt8) (t0_1 : Int) (t0_2 : Bool) (t6 : Int) (s1 : List (List UInt8)) (s2 : List (Int × Int × Int × Int)) (b0_0 : List UInt8) (b0_1 : Int) (b0_2 : Bool) (b1_0 : Int) (b1_1 : Int) (b1_2 : Int) (b1_3 : Int) (b2_0 : List UInt8) (b2_1 : Int) (b2_2 : Bool) (r3 : List (List UInt8)) (r4 : List (Int × Int × Int × Int)) : Option PO :=
  bif inb t6 s2.length then
    bif (((s2.getD t6.toNat (0, 0, 0, 0)).1 == b1_0) && (((s2.getD t6.toNat (0, 0, 0, 0)).2.1 == b1_1) && (((s2.getD t6.toNat (0, 0, 0, 0)).2.2.1 == b1_2) && ((s2.getD t6.toNat (0, 0, 0, 0)).2.2.2 == b1_3)))) then
      some (b0_0, b0_1, b0_2, t6, s1, s2, ())
    else
      J2 (t0_0, t0_1, t0_2, wI (t6 + 1), s1, s2, b0_0, b0_1, b0_2, b1_0, b1_1, b1_2, b1_3, b2_0, b2_1, b2_2, r3, r4, ())
  else
    none
noncomputable def F8 (t0_0 : List UInt8) (t0_1 : Int) (t0_2 : Bool) (s1 : List (List UInt8)) (b0_0 : List UInt8) (b0_1 : Int) (b0_2 : Bool) (b1_0 : List UInt8) (b1_1 : Int) (b1_2 : Bool) (s2 : List (Int × Int × Int × Int)) (r2 : List (List UInt8)) (r3 : List (Int × Int × Int × Int)) : Option PO :=
  some (b0_0, b0_1, b0_2, wI ((s2.length : Int) - 1), s1, s2, ())
noncomputable def hd {R : Type} : Hand R := handNil
noncomputable def pg (J2 : List Item → P2 → Option PO) (J4 : List Item → P4 → Option PO) (J8 : List Item → P8 → Option PO) : Prog PO := { nt := 43, np := 2, tb := tabOf tab, hd := hd, cuts := cutsOf [(2, cut p2 J2), (4, cut p4 J4), (8, cut p8 J8)], fin := endOf (tabOf tab) rs 2 pout }
noncomputable def q : FuncId → Bool := fun f => hasId [] f
theorem seg0 (J2 : List Item → P2 → Option PO) (J4 : List Item → P4 → Option PO) (J8 : List Item → P8 → Option PO) (x0_0 : List UInt8) (x0_1 : Int) (x0_2 : Bool) (x1 : Int × Int × Int × Int) (s1 : List (List UInt8)) (s2 : List (Int × Int × Int × Int)) : arun (pg J2 J4 J8) 5000 [.code c0] (mk pin (x0_0, x0_1, x0_2, x1, s1, s2, ())) = F0 (J2 T2) x0_0 x0_1 x0_2 x1 s1 s2 := by kernel_rfl
theorem seg2 (J2 : List Item → P2 → Option PO) (J4 : List Item → P4 → Option PO) (J8 : List Item → P8 → Option PO) (t0_0 : List UInt8) (t0_1 : Int) (t0_2 : Bool) (t6 : Int) (s1 : List (List UInt8)) (s2 : List (Int × Int × Int × Int)) (b0_0 : List UInt8) (b0_1 : Int) (b0_2 : Bool) (b1_0 : Int) (b1_1 : Int) (b1_2 : Int) (b1_3 : Int) (b2_0 : List UInt8) (b2_1 : Int) (b2_2 : Bool) (r3 : List (List UInt8)) (r4 : List (Int × Int × Int × Int)) : arun1 (pg J2 J4 J8) 5000 T2 (mk p2 (t0_0, t0_1, t0_2, t6, s1, s2, b0_0, b0_1, b0_2, b1_0, b1_1, b1_2, b1_3, b2_0, b2_1, b2_2, r3, r4, ())) = F2 (J4 T4) (J8 T8) t0_0 t0_1 t0_2 t6 s1 s2 b0_0 b0_1 b0_2 b1_0 b1_1 b1_2 b1_3 b2_0 b2_1 b2_2 r3 r4 := by kernel_rfl
theorem seg4 (J2 : List Item → P2 → Option PO) (J4 : List Item → P4 → Option PO) (J8 : List Item → P8 → Option PO) (t0_0 : List UInt8) (t0_1 : Int) (t0_2 : Bool) (t6 : Int) (s1 : List (List UInt8)) (s2 : List (Int × Int × Int × Int)) (b0_0 : List UInt8) (b0_1 : Int) (b0_2 : Bool) (b1_0 : Int) (b1_1 : Int) (b1_2 : Int) (b1_3 : Int) (b2_0 : List UInt8) (b2_1 : Int) (b2_2 : Bool) (r3 : List (List UInt8)) (r4 : List (Int × Int × Int × Int)) : arunQ (pg J2 J4 J8) q [] [] 5000 T4 (mk p4 (t0_0, t0_1, t0_2, t6, s1, s2, b0_0, b0_1, b0_2, b1_0, b1_1, b1_2, b1_3, b2_0, b2_1, b2_2, r3, r4, ())) = List.replicate (arunQ (pg J2 J4 J8) q [] [] 5000 T4 (mk p4 (t0_0, t0_1, t0_2, t6, s1, s2, b0_0, b0_1, b0_2, b1_0, b1_1, b1_2, b1_3, b2_0, b2_1, b2_2, r3, r4, ()))).length (F4 (J2 T2) t0_0 t0_1 t0_2 t6 s1 s2 b0_0 b0_1 b0_2 b1_0 b1_1 b1_2 b1_3 b2_0 b2_1 b2_2 r3 r4) := by kernel_rfl
theorem seg8 (J2 : List Item → P2 → Option PO) (J4 : List Item → P4 → Option PO) (J8 : List Item → P8 → Option PO) (t0_0 : List UInt8) (t0_1 : Int) (t0_2 : Bool) (s1 : List (List UInt8)) (b0_0 : List UInt8) (b0_1 : Int) (b0_2 : Bool) (b1_0 : List UInt8) (b1_1 : Int) (b1_2 : Bool) (s2 : List (Int × Int × Int × Int)) (r2 : List (List UInt8)) (r3 : List (Int × Int × Int × Int)) : arunQ (pg J2 J4 J8) q [3000001] [] 5000 T8 (mk p8 (t0_0, t0_1, t0_2, s1, b0_0, b0_1, b0_2, b1_0, b1_1, b1_2, s2, r2, r3, ())) = List.replicate (arunQ (pg J2 J4 J8) q [3000001] [] 5000 T8 (mk p8 (t0_0, t0_1, t0_2, s1, b0_0, b0_1, b0_2, b1_0, b1_1, b1_2, s2, r2, r3, ()))).length (F8 t0_0 t0_1 t0_2 s1 b0_0 b0_1 b0_2 b1_0 b1_1 b1_2 s2 r2 r3) := by kernel_rfl
noncomputable def L8 : P8 → Option PO := fun x => F8 x.1 x.2.1 x.2.2.1 x.2.2.2.1 x.2.2.2.2.1 x.2.2.2.2.2.1 x.2.2.2.2.2.2.1 x.2.2.2.2.2.2.2.1 x.2.2.2.2.2.2.2.2.1 x.2.2.2.2.2.2.2.2.2.1 x.2.2.2.2.2.2.2.2.2.2.1 x.2.2.2.2.2.2.2.2.2.2.2.1 x.2.2.2.2.2.2.2.2.2.2.2.2.1
noncomputable def L4 (J2 : P2 → Option PO) : P4 → Option PO := fun x => F4 J2 x.1 x.2.1 x.2.2.1 x.2.2.2.1 x.2.2.2.2.1 x.2.2.2.2.2.1 x.2.2.2.2.2.2.1 x.2.2.2.2.2.2.2.1 x.2.2.2.2.2.2.2.2.1 x.2.2.2.2.2.2.2.2.2.1 x.2.2.2.2.2.2.2.2.2.2.1 x.2.2.2.2.2.2.2.2.2.2.2.1 x.2.2.2.2.2.2.2.2.2.2.2.2.1 x.2.2.2.2.2.2.2.2.2.2.2.2.2.1 x.2.2.2.2.2.2.2.2.2.2.2.2.2.2.1 x.2.2.2.2.2.2.2.2.2.2.2.2.2.2.2.1 x.2.2.2.2.2.2.2.2.2.2.2.2.2.2.2.2.1 x.2.2.2.2.2.2.2.2.2.2.2.2.2.2.2.2.2.1
noncomputable def L2 : P2 → Option PO := lfp fun J2 x => F2 (L4 J2) L8 x.1 x.2.1 x.2.2.1 x.2.2.2.1 x.2.2.2.2.1 x.2.2.2.2.2.1 x.2.2.2.2.2.2.1 x.2.2.2.2.2.2.2.1 x.2.2.2.2.2.2.2.2.1 x.2.2.2.2.2.2.2.2.2.1 x.2.2.2.2.2.2.2.2.2.2.1 x.2.2.2.2.2.2.2.2.2.2.2.1 x.2.2.2.2.2.2.2.2.2.2.2.2.1 x.2.2.2.2.2.2.2.2.2.2.2.2.2.1 x.2.2.2.2.2.2.2.2.2.2.2.2.2.2.1 x.2.2.2.2.2.2.2.2.2.2.2.2.2.2.2.1 x.2.2.2.2.2.2.2.2.2.2.2.2.2.2.2.2.1 x.2.2.2.2.2.2.2.2.2.2.2.2.2.2.2.2.2.1
noncomputable def impl : PI → Option PO := fun x => F0 L2 x.1 x.2.1 x.2.2.1 x.2.2.2.1 x.2.2.2.2.1 x.2.2.2.2.2.1
theorem F4_le {J2 J2' : P2 → Option PO} (h2 : OLe J2 J2') (t0_0 : List UInt8) (t0_1 : Int) (t0_2 : Bool) (t6 : Int) (s1 : List (List UInt8)) (s2 : List (Int × Int × Int × Int)) (b0_0 : List UInt8) (b0_1 : Int) (b0_2 : Bool) (b1_0 : Int) (b1_1 : Int) (b1_2 : Int) (b1_3 : Int) (b2_0 : List UInt8) (b2_1 : Int) (b2_2 : Bool) (r3 : List (List UInt8)) (r4 : List (Int × Int × Int × Int)) : OptLe (F4 J2 t0_0 t0_1 t0_2 t6 s1 s2 b0_0 b0_1 b0_2 b1_0 b1_1 b1_2 b1_3 b2_0 b2_1 b2_2 r3 r4) (F4 J2' t0_0 t0_1 t0_2 t6 s1 s2 b0_0 b0_1 b0_2 b1_0 b1_1 b1_2 b1_3 b2_0 b2_1 b2_2 r3 r4) := by unfold F4; exact .cond (.cond (.refl _) (.of h2 _)) (.refl _)
theorem F2_le {J4 J4' : P4 → Option PO} (h4 : OLe J4 J4') {J8 J8' : P8 → Option PO} (h8 : OLe J8 J8') (t0_0 : List UInt8) (t0_1 : Int) (t0_2 : Bool) (t6 : Int) (s1 : List (List UInt8)) (s2 : List (Int × Int × Int × Int)) (b0_0 : List UInt8) (b0_1 : Int) (b0_2 : Bool) (b1_0 : Int) (b1_1 : Int) (b1_2 : Int) (b1_3 : Int) (b2_0 : List UInt8) (b2_1 : Int) (b2_2 : Bool) (r3 : List (List UInt8)) (r4 : List (Int × Int × Int × Int)) : OptLe (F2 J4 J8 t0_0 t0_1 t0_2 t6 s1 s2 b0_0 b0_1 b0_2 b1_0 b1_1 b1_2 b1_3 b2_0 b2_1 b2_2 r3 r4) (F2 J4' J8' t0_0 t0_1 t0_2 t6 s1 s2 b0_0 b0_1 b0_2 b1_0 b1_1 b1_2 b1_3 b2_0 b2_1 b2_2 r3 r4) := by unfold F2; exact .cond (.of h4 _) (.cond (.cond (.of h8 _) (.of h8 _)) (.refl _))
theorem L8_eq (t0_0 : List UInt8) (t0_1 : Int) (t0_2 : Bool) (s1 : List (List UInt8)) (b0_0 : List UInt8) (b0_1 : Int) (b0_2 : Bool) (b1_0 : List UInt8) (b1_1 : Int) (b1_2 : Bool) (s2 : List (Int × Int × Int × Int)) (r2 : List (List UInt8)) (r3 : List (Int × Int × Int × Int)) : L8 (t0_0, t0_1, t0_2, s1, b0_0, b0_1, b0_2, b1_0, b1_1, b1_2, s2, r2, r3, ()) = F8 t0_0 t0_1 t0_2 s1 b0_0 b0_1 b0_2 b1_0 b1_1 b1_2 s2 r2 r3 := rfl
theorem L4_eq (J2 : P2 → Option PO) (t0_0 : List UInt8) (t0_1 : Int) (t0_2 : Bool) (t6 : Int) (s1 : List (List UInt8)) (s2 : List (Int × Int × Int × Int)) (b0_0 : List UInt8) (b0_1 : Int) (b0_2 : Bool) (b1_0 : Int) (b1_1 : Int) (b1_2 : Int) (b1_3 : Int) (b2_0 : List UInt8) (b2_1 : Int) (b2_2 : Bool) (r3 : List (List UInt8)) (r4 : List (Int × Int × Int × Int)) : L4 J2 (t0_0, t0_1, t0_2, t6, s1, s2, b0_0, b0_1, b0_2, b1_0, b1_1, b1_2, b1_3, b2_0, b2_1, b2_2, r3, r4, ()) = F4 J2 t0_0 t0_1 t0_2 t6 s1 s2 b0_0 b0_1 b0_2 b1_0 b1_1 b1_2 b1_3 b2_0 b2_1 b2_2 r3 r4 := rfl
theorem L4_le {J2 J2' : P2 → Option PO} (h2 : OLe J2 J2') : OLe (L4 J2) (L4 J2') := fun x => F4_le h2 x.1 x.2.1 x.2.2.1 x.2.2.2.1 x.2.2.2.2.1 x.2.2.2.2.2.1 x.2.2.2.2.2.2.1 x.2.2.2.2.2.2.2.1 x.2.2.2.2.2.2.2.2.1 x.2.2.2.2.2.2.2.2.2.1 x.2.2.2.2.2.2.2.2.2.2.1 x.2.2.2.2.2.2.2.2.2.2.2.1 x.2.2.2.2.2.2.2.2.2.2.2.2.1 x.2.2.2.2.2.2.2.2.2.2.2.2.2.1 x.2.2.2.2.2.2.2.2.2.2.2.2.2.2.1 x.2.2.2.2.2.2.2.2.2.2.2.2.2.2.2.1 x.2.2.2.2.2.2.2.2.2.2.2.2.2.2.2.2.1 x.2.2.2.2.2.2.2.2.2.2.2.2.2.2.2.2.2.1
theorem L2_mono : OMono fun J2 (x : P2) => F2 (L4 J2) L8 x.1 x.2.1 x.2.2.1 x.2.2.2.1 x.2.2.2.2.1 x.2.2.2.2.2.1 x.2.2.2.2.2.2.1 x.2.2.2.2.2.2.2.1 x.2.2.2.2.2.2.2.2.1 x.2.2.2.2.2.2.2.2.2.1 x.2.2.2.2.2.2.2.2.2.2.1 x.2.2.2.2.2.2.2.2.2.2.2.1 x.2.2.2.2.2.2.2.2.2.2.2.2.1 x.2.2.2.2.2.2.2.2.2.2.2.2.2.1 x.2.2.2.2.2.2.2.2.2.2.2.2.2.2.1 x.2.2.2.2.2.2.2.2.2.2.2.2.2.2.2.1 x.2.2.2.2.2.2.2.2.2.2.2.2.2.2.2.2.1 x.2.2.2.2.2.2.2.2.2.2.2.2.2.2.2.2.2.1 := fun J J' h2 x => F2_le (L4_le h2) (fun _ _ h => h) x.1 x.2.1 x.2.2.1 x.2.2.2.1 x.2.2.2.2.1 x.2.2.2.2.2.1 x.2.2.2.2.2.2.1 x.2.2.2.2.2.2.2.1 x.2.2.2.2.2.2.2.2.1 x.2.2.2.2.2.2.2.2.2.1 x.2.2.2.2.2.2.2.2.2.2.1 x.2.2.2.2.2.2.2.2.2.2.2.1 x.2.2.2.2.2.2.2.2.2.2.2.2.1 x.2.2.2.2.2.2.2.2.2.2.2.2.2.1 x.2.2.2.2.2.2.2.2.2.2.2.2.2.2.1 x.2.2.2.2.2.2.2.2.2.2.2.2.2.2.2.1 x.2.2.2.2.2.2.2.2.2.2.2.2.2.2.2.2.1 x.2.2.2.2.2.2.2.2.2.2.2.2.2.2.2.2.2.1
theorem L2_eq (t0_0 : List UInt8) (t0_1 : Int) (t0_2 : Bool) (t6 : Int) (s1 : List (List UInt8)) (s2 : List (Int × Int × Int × Int)) (b0_0 : List UInt8) (b0_1 : Int) (b0_2 : Bool) (b1_0 : Int) (b1_1 : Int) (b1_2 : Int) (b1_3 : Int) (b2_0 : List UInt8) (b2_1 : Int) (b2_2 : Bool) (r3 : List (List UInt8)) (r4 : List (Int × Int × Int × Int)) : L2 (t0_0, t0_1, t0_2, t6, s1, s2, b0_0, b0_1, b0_2, b1_0, b1_1, b1_2, b1_3, b2_0, b2_1, b2_2, r3, r4, ()) = F2 (L4 (L2)) (L8) t0_0 t0_1 t0_2 t6 s1 s2 b0_0 b0_1 b0_2 b1_0 b1_1 b1_2 b1_3 b2_0 b2_1 b2_2 r3 r4 := congrFun (lfp_eq (L2_mono)) _
theorem impl_eq (x0_0 : List UInt8) (x0_1 : Int) (x0_2 : Bool) (x1 : Int × Int × Int × Int) (s1 : List (List UInt8)) (s2 : List (Int × Int × Int × Int)) : impl (x0_0, x0_1, x0_2, x1, s1, s2, ()) = F0 L2 x0_0 x0_1 x0_2 x1 s1 s2 := rfl
theorem con : Con Tryz.prog 116 2 rs.length 2 pin pout impl := by
  refine con_of_run' (nt := 43) (c := c0) tabGood Tryz.func116 (by kernel_rfl) (by kernel_rfl) (by kernel_rfl) (by kernel_rfl) (by kernel_rfl) (by kernel_rfl) (by kernel_rfl) ?_
  intro w0 O y hnp
  generalize hPost : (fun (a' : Act) (w' : World) => ∃ μ' S' st', Rel 43 w0 O μ' S' st' a' w' ∧ endOf (tabOf tab) rs 2 pout st' = some y) = Post
  have fin : ∀ (μ : Id → Option Value) (S : Nat → Prop) (st : St) (a : Act) (w : World), Rel 43 w0 O μ S st a w → endOf (tabOf tab) rs 2 pout st = some y → Post a w := fun μ S st a w h he => by rw [← hPost]; exact ⟨μ, S, st, h, he⟩
  have hp : ∀ (J2 : List Item → P2 → Option PO), ∀ (J4 : List Item → P4 → Option PO), ∀ (J8 : List Item → P8 → Option PO), Parts Tryz.prog 116 (pg J2 J4 J8) [(2, cut p2 J2), (4, cut p4 J4), (8, cut p8 J8)] := fun J2 J4 J8 => ⟨tab_ok tabGood rfl, handNil_ok, rfl⟩
  have g8 : Good Tryz.prog 43 w0 O Post y T8 p8 L8 := good_quiet (hs := hd) (cv' := hd) (Checked.mixed Tryz.checked) (hp (atT T2 (fun _ => none)) (atT T4 (fun _ => none)) (atT T8 (fun _ => none))) handNil_D handNil_nat handNil_nat (runOK_of (hp (atT T2 (fun _ => none)) (atT T4 (fun _ => none)) (atT T8 (fun _ => none))) hnp ⟨cutOK_at (p := p2) (T := T2) (J := fun _ => none) good_none, cutOK_at (p := p4) (T := T4) (J := fun _ => none) good_none, cutOK_at (p := p8) (T := T8) (J := fun _ => none) good_none, trivial⟩ fin) (fun x => all_same ⟨_, (seg8 (atT T2 (fun _ => none)) (atT T4 (fun _ => none)) (atT T8 (fun _ => none)) x.1 x.2.1 x.2.2.1 x.2.2.2.1 x.2.2.2.2.1 x.2.2.2.2.2.1 x.2.2.2.2.2.2.1 x.2.2.2.2.2.2.2.1 x.2.2.2.2.2.2.2.2.1 x.2.2.2.2.2.2.2.2.2.1 x.2.2.2.2.2.2.2.2.2.2.1 x.2.2.2.2.2.2.2.2.2.2.2.1 x.2.2.2.2.2.2.2.2.2.2.2.2.1)⟩)
  have g4 : ∀ (J2 : P2 → Option PO), Good Tryz.prog 43 w0 O Post y T2 p2 J2 → Good Tryz.prog 43 w0 O Post y T4 p4 (L4 J2) := fun J2 h2 => good_quiet (hs := hd) (cv' := hd) (Checked.mixed Tryz.checked) (hp (atT T2 J2) (atT T4 (fun _ => none)) (atT T8 (fun _ => none))) handNil_D handNil_nat handNil_nat (runOK_of (hp (atT T2 J2) (atT T4 (fun _ => none)) (atT T8 (fun _ => none))) hnp ⟨cutOK_at h2, cutOK_at (p := p4) (T := T4) (J := fun _ => none) good_none, cutOK_at (p := p8) (T := T8) (J := fun _ => none) good_none, trivial⟩ fin) (fun x => all_same ⟨_, (seg4 (atT T2 J2) (atT T4 (fun _ => none)) (atT T8 (fun _ => none)) x.1 x.2.1 x.2.2.1 x.2.2.2.1 x.2.2.2.2.1 x.2.2.2.2.2.1 x.2.2.2.2.2.2.1 x.2.2.2.2.2.2.2.1 x.2.2.2.2.2.2.2.2.1 x.2.2.2.2.2.2.2.2.2.1 x.2.2.2.2.2.2.2.2.2.2.1 x.2.2.2.2.2.2.2.2.2.2.2.1 x.2.2.2.2.2.2.2.2.2.2.2.2.1 x.2.2.2.2.2.2.2.2.2.2.2.2.2.1 x.2.2.2.2.2.2.2.2.2.2.2.2.2.2.1 x.2.2.2.2.2.2.2.2.2.2.2.2.2.2.2.1 x.2.2.2.2.2.2.2.2.2.2.2.2.2.2.2.2.1 x.2.2.2.2.2.2.2.2.2.2.2.2.2.2.2.2.2.1).trans (by simp only [atT_self] <;> rfl)⟩)
  have g2 : Good Tryz.prog 43 w0 O Post y T2 p2 L2 := good_lfp fun J2 h2 => good_part (hp (atT T2 (fun _ => none)) (atT T4 (L4 J2)) (atT T8 L8)) (runOK_of (hp (atT T2 (fun _ => none)) (atT T4 (L4 J2)) (atT T8 L8)) hnp ⟨cutOK_at (p := p2) (T := T2) (J := fun _ => none) good_none, cutOK_at (g4 J2 h2), cutOK_at g8, trivial⟩ fin) (fun x => (seg2 (atT T2 (fun _ => none)) (atT T4 (L4 J2)) (atT T8 L8) x.1 x.2.1 x.2.2.1 x.2.2.2.1 x.2.2.2.2.1 x.2.2.2.2.2.1 x.2.2.2.2.2.2.1 x.2.2.2.2.2.2.2.1 x.2.2.2.2.2.2.2.2.1 x.2.2.2.2.2.2.2.2.2.1 x.2.2.2.2.2.2.2.2.2.2.1 x.2.2.2.2.2.2.2.2.2.2.2.1 x.2.2.2.2.2.2.2.2.2.2.2.2.1 x.2.2.2.2.2.2.2.2.2.2.2.2.2.1 x.2.2.2.2.2.2.2.2.2.2.2.2.2.2.1 x.2.2.2.2.2.2.2.2.2.2.2.2.2.2.2.1 x.2.2.2.2.2.2.2.2.2.2.2.2.2.2.2.2.1 x.2.2.2.2.2.2.2.2.2.2.2.2.2.2.2.2.2.1).trans (by simp only [atT_self] <;> rfl))
  exact good_first (hp (atT T2 L2) (atT T4 (fun _ => none)) (atT T8 (fun _ => none))) (runOK_of (hp (atT T2 L2) (atT T4 (fun _ => none)) (atT T8 (fun _ => none))) hnp ⟨cutOK_at g2, cutOK_at (p := p4) (T := T4) (J := fun _ => none) good_none, cutOK_at (p := p8) (T := T8) (J := fun _ => none) good_none, trivial⟩ fin) (fun x => (seg0 (atT T2 L2) (atT T4 (fun _ => none)) (atT T8 (fun _ => none)) x.1 x.2.1 x.2.2.1 x.2.2.2.1 x.2.2.2.2.1 x.2.2.2.2.2.1).trans (by simp only [atT_self] <;> rfl))
end spec_l30Put

/-! ### loop.example/wholecheck/spec.l40Num -/
namespace spec_l40Num
noncomputable abbrev c0 : Code := (Tryz.f124.body).getD .skip
noncomputable abbrev pin : Tpl := ⟨[⟨0, false, [.d .str]⟩], []⟩
noncomputable abbrev pout : Tpl := ⟨[⟨0, false, [.d (.int .i64)]⟩, ⟨1, false, [.d .bool]⟩], []⟩
noncomputable abbrev p2 : Tpl := ⟨[⟨0, false, [.d .str]⟩, ⟨4, false, [.d .bool]⟩], []⟩
noncomputable def T2 : List Item := (find 2 c0 []).getD []
noncomputable abbrev p4 : Tpl := ⟨[⟨0, false, [.d .str]⟩, ⟨4, false, [.d .bool]⟩], []⟩
noncomputable def T4 : List Item := (find 4 c0 []).getD []
noncomputable abbrev p6 : Tpl := ⟨[⟨0, false, [.d .str]⟩, ⟨4, false, [.d .bool]⟩], []⟩
noncomputable def T6 : List Item := (find 6 c0 []).getD []
noncomputable abbrev p8 : Tpl := ⟨[⟨0, false, [.d .str]⟩, ⟨4, false, [.d .bool]⟩, ⟨5, false, [.d (.int .i64)]⟩, ⟨6, false, [.d (.int .i64)]⟩], []⟩
noncomputable def T8 : List Item := (find 8 c0 []).getD []
noncomputable abbrev p12 : Tpl := ⟨[⟨0, false, [.d .str]⟩, ⟨4, false, [.d .bool]⟩, ⟨5, false, [.d (.int .i64)]⟩, ⟨6, false, [.d (.int .i64)]⟩], []⟩
noncomputable def T12 : List Item := (find 12 c0 []).getD []
noncomputable abbrev PI := (List UInt8) × Unit
noncomputable abbrev PO := Int × Bool × Unit
noncomputable abbrev P2 := (List UInt8) × Bool × Unit
noncomputable abbrev P4 := (List UInt8) × Bool × Unit
noncomputable abbrev P6 := (List UInt8) × Bool × Unit
noncomputable abbrev P8 := (List UInt8) × Bool × Int × Int × Unit
noncomputable abbrev P12 := (List UInt8) × Bool × Int × Int × Unit
noncomputable abbrev rs : List ResultVar := [.tmp 2, .tmp 3]
noncomputable def F0 (J2 : P2 → Option PO) (x0 : List UInt8) : Option PO :=
  bif decide ((x0.length : Int) > 0) then
    bif inb 0 x0.length then
      J2 (x0, ((x0.getD 0 0).toNat : Int) == 45, ())
    else
      none
  else
    J2 (x0, false, ())
noncomputable def F2 (J4 : P4 → Option PO) (t0 : List UInt8) (t4 : Bool) : Option PO :=
  bif t4 then
    bif decide (1 ≤ (t0.length : Int)) && decide ((t0.length : Int) ≤ (t0.length : Int)) then
      J4 ((t0.take (t0.length : Int).toNat).drop 1, t4, ())
    else
      none
  else
    J4 (t0, t4, ())
noncomputable def F4 (J6 : P6 → Option PO) (t0 : List UInt8) (t4 : Bool) : Option PO :=
  bif (t0.length : Int) == 0 then
    some (0, false, ())
  else
    bif decide ((t0.length : Int) > 17) then
      some (0, false, ())
    else
      bif inb 0 t0.length then
        bif ((t0.getD 0 0).toNat : Int) == 48 then
          bif decide ((t0.length : Int) > 1) then
            some (0, false, ())
          else
            bif t4 then
              some (0, false, ())
            else
              J6 (t0, t4, ())
        else
          J6 (t0, t4, ())
      else
        none
noncomputable def F6 (J8 : P8 → Option PO) (t0 : List UInt8) (t4 : Bool) : Option PO :=
  J8 (t0, t4, 0, 0, ())
noncomputable def F8 (J12 : P12 → Option PO) (t0 : List UInt8) (t4 : Bool) (t5 : Int) (t6 : Int) : Option PO :=
  bif decide (t6 < (t0.length : Int)) then
    bif inb t6 t0.length then
      bif decide (((t0.getD t6.toNat 0).toNat : Int) < 48) then
        some (0, false, ())
      else
        bif inb t6 t0.length then
          bif decide (((t0.getD t6.toNat 0).toNat : Int) > 57) then
            some (0, false, ())
          else
            J12 (t0, t4, t5, t6, ())
        else
          none
    else
      none
  else
    bif t4 then
      some (wI (0 - t5), true, ())
    else
      some (t5, true, ())
noncomputable def F12 (J8 : P8 → Option PO) (t0 : List UInt8) (t4 : Bool) (t5 : Int) (t6 : Int) : Option PO :=
  bif inb t6 t0.length then
    J8 (t0, t4, wI ((wI (t5 * 10)) + (wI (IntKind.u8.wrap (((t0.getD t6.toNat 0).toNat : Int) - 48)))), wI (t6 + 1), ())
  else
    none
noncomputable def hd {R : Type} : Hand R := handNil
noncomputable def pg (J2 : List Item → P2 → Option PO) (J4 : List Item → P4 → Option PO) (J6 : List Item → P6 → Option PO) (J8 : List Item → P8 → Option PO) (J12 : List Item → P12 → Option PO) : Prog PO := { nt := 67, np := 0, tb := tabOf tab, hd := hd, cuts := cutsOf [(2, cut p2 J2), (4, cut p4 J4), (6, cut p6 J6), (8, cut p8 J8), (12, cut p12 J12)], fin := endOf (tabOf tab) rs 0 pout }
noncomputable def q : FuncId → Bool := fun f => hasId [] f
theorem seg0 (J2 : List Item → P2 → Option PO) (J4 : List Item → P4 → Option PO) (J6 : List Item → P6 → Option PO) (J8 : List Item → P8 → Option PO) (J12 : List Item → P12 → Option PO) (x0 : List UInt8) : arun (pg J2 J4 J6 J8 J12) 5000 [.code c0] (mk pin (x0, ())) = F0 (J2 T2) x0 := by kernel_rfl
theorem seg2 (J2 : List Item → P2 → Option PO) (J4 : List Item → P4 → Option PO) (J6 : List Item → P6 → Option PO) (J8 : List Item → P8 → Option PO) (J12 : List Item → P12 → Option PO) (t0 : List UInt8) (t4 : Bool) : arun1 (pg J2 J4 J6 J8 J12) 5000 T2 (mk p2 (t0, t4, ())) = F2 (J4 T4) t0 t4 := by kernel_rfl
theorem seg4 (J2 : List Item → P2 → Option PO) (J4 : List Item → P4 → Option PO) (J6 : List Item → P6 → Option PO) (J8 : List Item → P8 → Option PO) (J12 : List Item → P12 → Option PO) (t0 : List UInt8) (t4 : Bool) : arun1 (pg J2 J4 J6 J8 J12) 5000 T4 (mk p4 (t0, t4, ())) = F4 (J6 T6) t0 t4 := by kernel_rfl
theorem seg6 (J2 : List Item → P2 → Option PO) (J4 : List Item → P4 → Option PO) (J6 : List Item → P6 → Option PO) (J8 : List Item → P8 → Option PO) (J12 : List Item → P12 → Option PO) (t0 : List UInt8) (t4 : Bool) : arun1 (pg J2 J4 J6 J8 J12) 5000 T6 (mk p6 (t0, t4, ())) = F6 (J8 T8) t0 t4 := by kernel_rfl
theorem seg8 (J2 : List Item → P2 → Option PO) (J4 : List Item → P4 → Option PO) (J6 : List Item → P6 → Option PO) (J8 : List Item → P8 → Option PO) (J12 : List Item → P12 → Option PO) (t0 : List UInt8) (t4 : Bool) (t5 : Int) (t6 : Int) : arun1 (pg J2 J4 J6 J8 J12) 5000 T8 (mk p8 (t0, t4, t5, t6, ())) = F8 (J12 T12) t0 t4 t5 t6 := by kernel_rfl
theorem seg12 (J2 : List Item → P2 → Option PO) (J4 : List Item → P4 → Option PO) (J6 : List Item → P6 → Option PO) (J8 : List Item → P8 → Option PO) (J12 : List Item → P12 → Option PO) (t0 : List UInt8) (t4 : Bool) (t5 : Int) (t6 : Int) : arun1 (pg J2 J4 J6 J8 J12) 5000 T12 (mk p12 (t0, t4, t5, t6, ())) = F12 (J8 T8) t0 t4 t5 t6 := by kernel_rfl
noncomputable def L12 (J8 : P8 → Option PO) : P12 → Option PO := fun x => F12 J8 x.1 x.2.1 x.2.2.1 x.2.2.2.1
noncomputable def L8 : P8 → Option PO := lfp fun J8 x => F8 (L12 J8) x.1 x.2.1 x.2.2.1 x.2.2.2.1
noncomputable def L6 : P6 → Option PO := fun x => F6 L8 x.1 x.2.1
noncomputable def L4 : P4 → Option PO := fun x => F4 L6 x.1 x.2.1
noncomputable def L2 : P2 → Option PO := fun x => F2 L4 x.1 x.2.1
noncomputable def impl : PI → Option PO := fun x => F0 L2 x.1
theorem F12_le {J8 J8' : P8 → Option PO} (h8 : OLe J8 J8') (t0 : List UInt8) (t4 : Bool) (t5 : Int) (t6 : Int) : OptLe (F12 J8 t0 t4 t5 t6) (F12 J8' t0 t4 t5 t6) := by unfold F12; exact .cond (.of h8 _) (.refl _)
theorem F8_le {J12 J12' : P12 → Option PO} (h12 : OLe J12 J12') (t0 : List UInt8) (t4 : Bool) (t5 : Int) (t6 : Int) : OptLe (F8 J12 t0 t4 t5 t6) (F8 J12' t0 t4 t5 t6) := by unfold F8; exact .cond (.cond (.cond (.refl _) (.cond (.cond (.refl _) (.of h12 _)) (.refl _))) (.refl _)) (.refl _)
theorem L12_eq (J8 : P8 → Option PO) (t0 : List UInt8) (t4 : Bool) (t5 : Int) (t6 : Int) : L12 J8 (t0, t4, t5, t6, ()) = F12 J8 t0 t4 t5 t6 := rfl
theorem L12_le {J8 J8' : P8 → Option PO} (h8 : OLe J8 J8') : OLe (L12 J8) (L12 J8') := fun x => F12_le h8 x.1 x.2.1 x.2.2.1 x.2.2.2.1
theorem L8_mono : OMono fun J8 (x : P8) => F8 (L12 J8) x.1 x.2.1 x.2.2.1 x.2.2.2.1 := fun J J' h8 x => F8_le (L12_le h8) x.1 x.2.1 x.2.2.1 x.2.2.2.1
theorem L8_eq (t0 : List UInt8) (t4 : Bool) (t5 : Int) (t6 : Int) : L8 (t0, t4, t5, t6, ()) = F8 (L12 (L8)) t0 t4 t5 t6 := congrFun (lfp_eq (L8_mono)) _
theorem L6_eq (t0 : List UInt8) (t4 : Bool) : L6 (t0, t4, ()) = F6 (L8) t0 t4 := rfl
theorem L4_eq (t0 : List UInt8) (t4 : Bool) : L4 (t0, t4, ()) = F4 (L6) t0 t4 := rfl
theorem L2_eq (t0 : List UInt8) (t4 : Bool) : L2 (t0, t4, ()) = F2 (L4) t0 t4 := rfl
theorem impl_eq (x0 : List UInt8) : impl (x0, ()) = F0 L2 x0 := rfl
theorem con : Con Tryz.prog 124 1 rs.length 0 pin pout impl := by
  refine con_of_run' (nt := 67) (c := c0) tabGood Tryz.func124 (by kernel_rfl) (by kernel_rfl) (by kernel_rfl) (by kernel_rfl) (by kernel_rfl) (by kernel_rfl) (by kernel_rfl) ?_
  intro w0 O y hnp
  generalize hPost : (fun (a' : Act) (w' : World) => ∃ μ' S' st', Rel 67 w0 O μ' S' st' a' w' ∧ endOf (tabOf tab) rs 0 pout st' = some y) = Post
  have fin : ∀ (μ : Id → Option Value) (S : Nat → Prop) (st : St) (a : Act) (w : World), Rel 67 w0 O μ S st a w → endOf (tabOf tab) rs 0 pout st = some y → Post a w := fun μ S st a w h he => by rw [← hPost]; exact ⟨μ, S, st, h, he⟩
  have hp : ∀ (J2 : List Item → P2 → Option PO), ∀ (J4 : List Item → P4 → Option PO), ∀ (J6 : List Item → P6 → Option PO), ∀ (J8 : List Item → P8 → Option PO), ∀ (J12 : List Item → P12 → Option PO), Parts Tryz.prog 124 (pg J2 J4 J6 J8 J12) [(2, cut p2 J2), (4, cut p4 J4), (6, cut p6 J6), (8, cut p8 J8), (12, cut p12 J12)] := fun J2 J4 J6 J8 J12 => ⟨tab_ok tabGood rfl, handNil_ok, rfl⟩
  have g12 : ∀ (J8 : P8 → Option PO), Good Tryz.prog 67 w0 O Post y T8 p8 J8 → Good Tryz.prog 67 w0 O Post y T12 p12 (L12 J8) := fun J8 h8 => good_part (hp (atT T2 (fun _ => none)) (atT T4 (fun _ => none)) (atT T6 (fun _ => none)) (atT T8 J8) (atT T12 (fun _ => none))) (runOK_of (hp (atT T2 (fun _ => none)) (atT T4 (fun _ => none)) (atT T6 (fun _ => none)) (atT T8 J8) (atT T12 (fun _ => none))) hnp ⟨cutOK_at (p := p2) (T := T2) (J := fun _ => none) good_none, cutOK_at (p := p4) (T := T4) (J := fun _ => none) good_none, cutOK_at (p := p6) (T := T6) (J := fun _ => none) good_none, cutOK_at h8, cutOK_at (p := p12) (T := T12) (J := fun _ => none) good_none, trivial⟩ fin) (fun x => (seg12 (atT T2 (fun _ => none)) (atT T4 (fun _ => none)) (atT T6 (fun _ => none)) (atT T8 J8) (atT T12 (fun _ => none)) x.1 x.2.1 x.2.2.1 x.2.2.2.1).trans (by simp only [atT_self] <;> rfl))
  have g8 : Good Tryz.prog 67 w0 O Post y T8 p8 L8 := good_lfp fun J8 h8 => good_part (hp (atT T2 (fun _ => none)) (atT T4 (fun _ => none)) (atT T6 (fun _ => none)) (atT T8 (fun _ => none)) (atT T12 (L12 J8))) (runOK_of (hp (atT T2 (fun _ => none)) (atT T4 (fun _ => none)) (atT T6 (fun _ => none)) (atT T8 (fun _ => none)) (atT T12 (L12 J8))) hnp ⟨cutOK_at (p := p2) (T := T2) (J := fun _ => none) good_none, cutOK_at (p := p4) (T := T4) (J := fun _ => none) good_none, cutOK_at (p := p6) (T := T6) (J := fun _ => none) good_none, cutOK_at (p := p8) (T := T8) (J := fun _ => none) good_none, cutOK_at (g12 J8 h8), trivial⟩ fin) (fun x => (seg8 (atT T2 (fun _ => none)) (atT T4 (fun _ => none)) (atT T6 (fun _ => none)) (atT T8 (fun _ => none)) (atT T12 (L12 J8)) x.1 x.2.1 x.2.2.1 x.2.2.2.1).trans (by simp only [atT_self] <;> rfl))
  have g6 : Good Tryz.prog 67 w0 O Post y T6 p6 L6 := good_part (hp (atT T2 (fun _ => none)) (atT T4 (fun _ => none)) (atT T6 (fun _ => none)) (atT T8 L8) (atT T12 (fun _ => none))) (runOK_of (hp (atT T2 (fun _ => none)) (atT T4 (fun _ => none)) (atT T6 (fun _ => none)) (atT T8 L8) (atT T12 (fun _ => none))) hnp ⟨cutOK_at (p := p2) (T := T2) (J := fun _ => none) good_none, cutOK_at (p := p4) (T := T4) (J := fun _ => none) good_none, cutOK_at (p := p6) (T := T6) (J := fun _ => none) good_none, cutOK_at g8, cutOK_at (p := p12) (T := T12) (J := fun _ => none) good_none, trivial⟩ fin) (fun x => (seg6 (atT T2 (fun _ => none)) (atT T4 (fun _ => none)) (atT T6 (fun _ => none)) (atT T8 L8) (atT T12 (fun _ => none)) x.1 x.2.1).trans (by simp only [atT_self] <;> rfl))
  have g4 : Good Tryz.prog 67 w0 O Post y T4 p4 L4 := good_part (hp (atT T2 (fun _ => none)) (atT T4 (fun _ => none)) (atT T6 L6) (atT T8 (fun _ => none)) (atT T12 (fun _ => none))) (runOK_of (hp (atT T2 (fun _ => none)) (atT T4 (fun _ => none)) (atT T6 L6) (atT T8 (fun _ => none)) (atT T12 (fun _ => none))) hnp ⟨cutOK_at (p := p2) (T := T2) (J := fun _ => none) good_none, cutOK_at (p := p4) (T := T4) (J := fun _ => none) good_none, cutOK_at g6, cutOK_at (p := p8) (T := T8) (J := fun _ => none) good_none, cutOK_at (p := p12) (T := T12) (J := fun _ => none) good_none, trivial⟩ fin) (fun x => (seg4 (atT T2 (fun _ => none)) (atT T4 (fun _ => none)) (atT T6 L6) (atT T8 (fun _ => none)) (atT T12 (fun _ => none)) x.1 x.2.1).trans (by simp only [atT_self] <;> rfl))
  have g2 : Good Tryz.prog 67 w0 O Post y T2 p2 L2 := good_part (hp (atT T2 (fun _ => none)) (atT T4 L4) (atT T6 (fun _ => none)) (atT T8 (fun _ => none)) (atT T12 (fun _ => none))) (runOK_of (hp (atT T2 (fun _ => none)) (atT T4 L4) (atT T6 (fun _ => none)) (atT T8 (fun _ => none)) (atT T12 (fun _ => none))) hnp ⟨cutOK_at (p := p2) (T := T2) (J := fun _ => none) good_none, cutOK_at g4, cutOK_at (p := p6) (T := T6) (J := fun _ => none) good_none, cutOK_at (p := p8) (T := T8) (J := fun _ => none) good_none, cutOK_at (p := p12) (T := T12) (J := fun _ => none) good_none, trivial⟩ fin) (fun x => (seg2 (atT T2 (fun _ => none)) (atT T4 L4) (atT T6 (fun _ => none)) (atT T8 (fun _ => none)) (atT T12 (fun _ => none)) x.1 x.2.1).trans (by simp only [atT_self] <;> rfl))
  exact good_first (hp (atT T2 L2) (atT T4 (fun _ => none)) (atT T6 (fun _ => none)) (atT T8 (fun _ => none)) (atT T12 (fun _ => none))) (runOK_of (hp (atT T2 L2) (atT T4 (fun _ => none)) (atT T6 (fun _ => none)) (atT T8 (fun _ => none)) (atT T12 (fun _ => none))) hnp ⟨cutOK_at g2, cutOK_at (p := p4) (T := T4) (J := fun _ => none) good_none, cutOK_at (p := p6) (T := T6) (J := fun _ => none) good_none, cutOK_at (p := p8) (T := T8) (J := fun _ => none) good_none, cutOK_at (p := p12) (T := T12) (J := fun _ => none) good_none, trivial⟩ fin) (fun x => (seg0 (atT T2 L2) (atT T4 (fun _ => none)) (atT T6 (fun _ => none)) (atT T8 (fun _ => none)) (atT T12 (fun _ => none)) x.1).trans (by simp only [atT_self] <;> rfl))
end spec_l40Num

/-! ### loop.example/wholecheck/spec.l30Leaf -/
namespace spec_l30Leaf
noncomputable abbrev c0 : Code := (Tryz.f117.body).getD .skip
noncomputable abbrev pin : Tpl := ⟨[⟨0, true, [.d .str, .d (.int .i64), .row 500001, .row 500002, .d .bool]⟩], [(500001, .row 9 false .str), (500002, .row 52 true (.prod (.int .i64) (.prod (.int .i64) (.prod (.int .i64) (.last (.int .i64))))))]⟩
noncomputable abbrev pout : Tpl := ⟨[⟨0, true, [.d .str, .d (.int .i64), .row 500001, .row 500002, .d .bool]⟩, ⟨1, false, [.d (.int .i64)]⟩, ⟨2, true, [.any, .any, .row 500001, .any, .any]⟩], [(500001, .row 9 false .str), (500002, .row 52 true (.prod (.int .i64) (.prod (.int .i64) (.prod (.int .i64) (.last (.int .i64))))))]⟩
noncomputable abbrev PI := (List UInt8) × Int × Bool × (List (List UInt8)) × (List (Int × Int × Int × Int)) × Unit
noncomputable abbrev PO := (List UInt8) × Int × Bool × Int × (List (List UInt8)) × (List (Int × Int × Int × Int)) × Unit
noncomputable abbrev rs : List ResultVar := [.cell 2 114, .tmp 3]
noncomputable def F0 (Gspec_l1In : spec_l1In.PI → Option spec_l1In.PO) (Gspec_l30At : spec_l30At.PI → Option spec_l30At.PO) (Gspec_l30Put : spec_l30Put.PI → Option spec_l30Put.PO) (Gspec_l30Word : spec_l30Word.PI → Option spec_l30Word.PO) (Gspec_l40Num : spec_l40Num.PI → Option spec_l40Num.PO) (x0_0 : List UInt8) (x0_1 : Int) (x0_2 : Bool) (s1 : List (List UInt8)) (s2 : List (Int × Int × Int × Int)) : Option PO :=
  Option.bind (Gspec_l30Word (x0_0, x0_1, x0_2, s1, s2, ())) fun y0 =>
  Option.bind (Gspec_l30At (y0.2.1, y0.1, ())) fun y1 =>
  bif decide (y1.1 ≥ 0) then
    Option.bind (Gspec_l30Put (x0_0, wI (x0_1 + (y0.1.length : Int)), x0_2, (1, y1.1, 0, 0), y0.2.1, y0.2.2.1, ())) fun y2 =>
    some (y2.1, y2.2.1, y2.2.2.1, y2.2.2.2.1, y2.2.2.2.2.1, y2.2.2.2.2.2.1, ())
  else
    Option.bind (Gspec_l40Num (y0.1, ())) fun y3 =>
    bif !y3.2.1 then
      some (x0_0, wI (x0_1 + (y0.1.length : Int)), false, 0, y0.2.1, y0.2.2.1, ())
    else
      Option.bind (Gspec_l1In (y3.1, (-9999), 9999, ())) fun y4 =>
      bif !y4.1 then
        some (x0_0, wI (x0_1 + (y0.1.length : Int)), false, 0, y0.2.1, y0.2.2.1, ())
      else
        Option.bind (Gspec_l30Put (x0_0, wI (x0_1 + (y0.1.length : Int)), x0_2, (0, y3.1, 0, 0), y0.2.1, y0.2.2.1, ())) fun y5 =>
        some (y5.1, y5.2.1, y5.2.2.1, y5.2.2.2.1, y5.2.2.2.2.1, y5.2.2.2.2.2.1, ())
noncomputable def hd {R : Type} (Gspec_l1In : spec_l1In.PI → Option spec_l1In.PO) (Gspec_l30At : spec_l30At.PI → Option spec_l30At.PO) (Gspec_l30Put : spec_l30Put.PI → Option spec_l30Put.PO) (Gspec_l30Word : spec_l30Word.PI → Option spec_l30Word.PO) (Gspec_l40Num : spec_l40Num.PI → Option spec_l40Num.PO) : Hand R := (handAt 157 [9] true ⟨1, 1, 1, spec_l30Word.pin, spec_l30Word.pout, Gspec_l30Word⟩ (handAt 124 [30] true ⟨1, 2, 0, spec_l40Num.pin, spec_l40Num.pout, Gspec_l40Num⟩ (handAt 116 [25, 45] true ⟨2, 2, 2, spec_l30Put.pin, spec_l30Put.pout, Gspec_l30Put⟩ (handAt 107 [37] true ⟨3, 1, 3, spec_l1In.pin, spec_l1In.pout, Gspec_l1In⟩ (handAt 61 [19] true ⟨2, 1, 2, spec_l30At.pin, spec_l30At.pout, Gspec_l30At⟩ handNil)))))
noncomputable def pg (Gspec_l1In : spec_l1In.PI → Option spec_l1In.PO) (Gspec_l30At : spec_l30At.PI → Option spec_l30At.PO) (Gspec_l30Put : spec_l30Put.PI → Option spec_l30Put.PO) (Gspec_l30Word : spec_l30Word.PI → Option spec_l30Word.PO) (Gspec_l40Num : spec_l40Num.PI → Option spec_l40Num.PO) : Prog PO := { nt := 48, np := 1, tb := tabOf tab, hd := hd Gspec_l1In Gspec_l30At Gspec_l30Put Gspec_l30Word Gspec_l40Num, cuts := cutsOf [], fin := endOf (tabOf tab) rs 1 pout }
noncomputable def q : FuncId → Bool := fun f => hasId [61, 107, 124] f
theorem seg0 (Gspec_l1In : spec_l1In.PI → Option spec_l1In.PO) (Gspec_l30At : spec_l30At.PI → Option spec_l30At.PO) (Gspec_l30Put : spec_l30Put.PI → Option spec_l30Put.PO) (Gspec_l30Word : spec_l30Word.PI → Option spec_l30Word.PO) (Gspec_l40Num : spec_l40Num.PI → Option spec_l40Num.PO) (x0_0 : List UInt8) (x0_1 : Int) (x0_2 : Bool) (s1 : List (List UInt8)) (s2 : List (Int × Int × Int × Int)) : arun (pg Gspec_l1In Gspec_l30At Gspec_l30Put Gspec_l30Word Gspec_l40Num) 5000 [.code c0] (mk pin (x0_0, x0_1, x0_2, s1, s2, ())) = F0 Gspec_l1In Gspec_l30At Gspec_l30Put Gspec_l30Word Gspec_l40Num x0_0 x0_1 x0_2 s1 s2 := by kernel_rfl
noncomputable def impl : PI → Option PO := fun x => F0 spec_l1In.impl spec_l30At.impl spec_l30Put.impl spec_l30Word.impl spec_l40Num.impl x.1 x.2.1 x.2.2.1 x.2.2.2.1 x.2.2.2.2.1
theorem impl_eq (x0_0 : List UInt8) (x0_1 : Int) (x0_2 : Bool) (s1 : List (List UInt8)) (s2 : List (Int × Int × Int × Int)) : impl (x0_0, x0_1, x0_2, s1, s2, ()) = F0 spec_l1In.impl spec_l30At.impl spec_l30Put.impl spec_l30Word.impl spec_l40Num.impl x0_0 x0_1 x0_2 s1 s2 := rfl
theorem con : Con Tryz.prog 117 1 rs.length 1 pin pout impl := by
  refine con_of_run' (nt := 48) (c := c0) tabGood Tryz.func117 (by kernel_rfl) (by kernel_rfl) (by kernel_rfl) (by kernel_rfl) (by kernel_rfl) (by kernel_rfl) (by kernel_rfl) ?_
  intro w0 O y hnp
  generalize hPost : (fun (a' : Act) (w' : World) => ∃ μ' S' st', Rel 48 w0 O μ' S' st' a' w' ∧ endOf (tabOf tab) rs 1 pout st' = some y) = Post
  have fin : ∀ (μ : Id → Option Value) (S : Nat → Prop) (st : St) (a : Act) (w : World), Rel 48 w0 O μ S st a w → endOf (tabOf tab) rs 1 pout st = some y → Post a w := fun μ S st a w h he => by rw [← hPost]; exact ⟨μ, S, st, h, he⟩
  have hp : Parts Tryz.prog 117 (pg spec_l1In.impl spec_l30At.impl spec_l30Put.impl spec_l30Word.impl spec_l40Num.impl) [] := ⟨tab_ok tabGood rfl, (handAt_ok spec_l30Word.con (handAt_ok spec_l40Num.con (handAt_ok spec_l30Put.con (handAt_ok spec_l1In.con (handAt_ok spec_l30At.con handNil_ok))))), rfl⟩
  exact good_first (hp) (runOK_of (hp) hnp trivial fin) (fun x => (seg0 spec_l1In.impl spec_l30At.impl spec_l30Put.impl spec_l30Word.impl spec_l40Num.impl x.1 x.2.1 x.2.2.1 x.2.2.2.1 x.2.2.2.2.1))
end spec_l30Leaf

/-! ### loop.example/wholecheck/spec.l30Take -/
namespace spec_l30Take
noncomputable abbrev c0 : Code := (Tryz.f118.body).getD .skip
noncomputable abbrev pin : Tpl := ⟨[⟨0, true, [.d .str, .d (.int .i64), .row 500001, .row 500002, .d .bool]⟩, ⟨1, false, [.d .str]⟩], [(500001, .row 9 false .str), (500002, .row 52 true (.prod (.int .i64) (.prod (.int .i64) (.prod (.int .i64) (.last (.int .i64))))))]⟩
noncomputable abbrev pout : Tpl := ⟨[⟨0, true, [.d .str, .d (.int .i64), .row 500001, .row 500002, .d .bool]⟩, ⟨1, true, [.any, .any, .row 500001, .row 500002, .any]⟩], [(500001, .row 9 false .str), (500002, .row 52 true (.prod (.int .i64) (.prod (.int .i64) (.prod (.int .i64) (.last (.int .i64))))))]⟩
noncomputable abbrev p4 : Tpl := ⟨[⟨0, true, [.d .str, .d (.int .i64), .row 500001, .row 500002, .d .bool]⟩, ⟨1, false, [.d .str]⟩, ⟨2, false, [.ptr 3000000 0]⟩, ⟨4, false, [.ptr 3000001 0]⟩], [(500001, .row 9 false .str), (500002, .row 52 true (.prod (.int .i64) (.prod (.int .i64) (.prod (.int .i64) (.last (.int .i64)))))), (3000000, .box [.d .str, .d (.int .i64), .row 500001, .row 500002, .d .bool]), (3000001, .box [.d .str, .d (.int .i64), .row 3000002, .row 3000003, .d .bool]), (3000002, .row 9 true .str), (3000003, .row 52 true (.prod (.int .i64) (.prod (.int .i64) (.prod (.int .i64) (.last (.int .i64))))))]⟩
noncomputable def T4 : List Item := (find 4 c0 []).getD []
noncomputable abbrev PI := (List UInt8) × Int × Bool × (List UInt8) × (List (List UInt8)) × (List (Int × Int × Int × Int)) × Unit
noncomputable abbrev PO := (List UInt8) × Int × Bool × (List (List UInt8)) × (List (Int × Int × Int × Int)) × Unit
noncomputable abbrev P4 := (List UInt8) × Int × Bool × (List UInt8) × (List (List UInt8)) × (List (Int × Int × Int × Int)) × (List UInt8) × Int × Bool × (List UInt8) × Int × Bool × (List (List UInt8)) × (List (Int × Int × Int × Int)) × Unit
noncomputable abbrev rs : List ResultVar := [.cell 4 114]
noncomputable def F0 (J4 : P4 → Option PO) (x0_0 : List UInt8) (x0_1 : Int) (x0_2 : Bool) (x1 : List UInt8) (s1 : List (List UInt8)) (s2 : List (Int × Int × Int × Int)) : Option PO :=
  bif !x0_2 then
    some (x0_0, x0_1, false, s1, s2, ())
  else
    bif decide (wI (x0_1 + (x1.length : Int)) > (x0_0.length : Int)) then
      some (x0_0, x0_1, false, s1, s2, ())
    else
      bif decide (0 ≤ x0_1) && decide (x0_1 ≤ wI (x0_1 + (x1.length : Int))) && decide (wI (x0_1 + (x1.length : Int)) ≤ (x0_0.length : Int)) then
        bif !(((x0_0.take (wI (x0_1 + (x1.length : Int))).toNat).drop x0_1.toNat) == x1) then
          some (x0_0, x0_1, false, s1, s2, ())
        else
          J4 (x0_0, x0_1, x0_2, x1, s1, s2, x0_0, x0_1, x0_2, [], 0, false, [], [], ())
      else
        none
noncomputable def F4 (t0_0 : List UInt8) (t0_1 : Int) (t0_2 : Bool) (t1 : List UInt8) (s1 : List (List UInt8)) (s2 : List (Int × Int × Int × Int)) (b0_0 : List UInt8) (b0_1 : Int) (b0_2 : Bool) (b1_0 : List UInt8) (b1_1 : Int) (b1_2 : Bool) (r2 : List (List UInt8)) (r3 : List (Int × Int × Int × Int)) : Option PO :=
  some (b0_0, wI (b0_1 + (t1.length : Int)), b0_2, s1, s2, ())
noncomputable def hd {R : Type} : Hand R := handNil
noncomputable def pg (J4 : List Item → P4 → Option PO) : Prog PO := { nt := 42, np := 2, tb := tabOf tab, hd := hd, cuts := cutsOf [(4, cut p4 J4)], fin := endOf (tabOf tab) rs 2 pout }
noncomputable def q : FuncId → Bool := fun f => hasId [] f
theorem seg0 (J4 : List Item → P4 → Option PO) (x0_0 : List UInt8) (x0_1 : Int) (x0_2 : Bool) (x1 : List UInt8) (s1 : List (List UInt8)) (s2 : List (Int × Int × Int × Int)) : arun (pg J4) 5000 [.code c0] (mk pin (x0_0, x0_1, x0_2, x1, s1, s2, ())) = F0 (J4 T4) x0_0 x0_1 x0_2 x1 s1 s2 := by kernel_rfl
theorem seg4 (J4 : List Item → P4 → Option PO) (t0_0 : List UInt8) (t0_1 : Int) (t0_2 : Bool) (t1 : List UInt8) (s1 : List (List UInt8)) (s2 : List (Int × Int × Int × Int)) (b0_0 : List UInt8) (b0_1 : Int) (b0_2 : Bool) (b1_0 : List UInt8) (b1_1 : Int) (b1_2 : Bool) (r2 : List (List UInt8)) (r3 : List (Int × Int × Int × Int)) : arun1 (pg J4) 5000 T4 (mk p4 (t0_0, t0_1, t0_2, t1, s1, s2, b0_0, b0_1, b0_2, b1_0, b1_1, b1_2, r2, r3, ())) = F4 t0_0 t0_1 t0_2 t1 s1 s2 b0_0 b0_1 b0_2 b1_0 b1_1 b1_2 r2 r3 := by kernel_rfl
noncomputable def L4 : P4 → Option PO := fun x => F4 x.1 x.2.1 x.2.2.1 x.2.2.2.1 x.2.2.2.2.1 x.2.2.2.2.2.1 x.2.2.2.2.2.2.1 x.2.2.2.2.2.2.2.1 x.2.2.2.2.2.2.2.2.1 x.2.2.2.2.2.2.2.2.2.1 x.2.2.2.2.2.2.2.2.2.2.1 x.2.2.2.2.2.2.2.2.2.2.2.1 x.2.2.2.2.2.2.2.2.2.2.2.2.1 x.2.2.2.2.2.2.2.2.2.2.2.2.2.1
noncomputable def impl : PI → Option PO := fun x => F0 L4 x.1 x.2.1 x.2.2.1 x.2.2.2.1 x.2.2.2.2.1 x.2.2.2.2.2.1
theorem L4_eq (t0_0 : List UInt8) (t0_1 : Int) (t0_2 : Bool) (t1 : List UInt8) (s1 : List (List UInt8)) (s2 : List (Int × Int × Int × Int)) (b0_0 : List UInt8) (b0_1 : Int) (b0_2 : Bool) (b1_0 : List UInt8) (b1_1 : Int) (b1_2 : Bool) (r2 : List (List UInt8)) (r3 : List (Int × Int × Int × Int)) : L4 (t0_0, t0_1, t0_2, t1, s1, s2, b0_0, b0_1, b0_2, b1_0, b1_1, b1_2, r2, r3, ()) = F4 t0_0 t0_1 t0_2 t1 s1 s2 b0_0 b0_1 b0_2 b1_0 b1_1 b1_2 r2 r3 := rfl
theorem impl_eq (x0_0 : List UInt8) (x0_1 : Int) (x0_2 : Bool) (x1 : List UInt8) (s1 : List (List UInt8)) (s2 : List (Int × Int × Int × Int)) : impl (x0_0, x0_1, x0_2, x1, s1, s2, ()) = F0 L4 x0_0 x0_1 x0_2 x1 s1 s2 := rfl
theorem con : Con Tryz.prog 118 2 rs.length 2 pin pout impl := by
  refine con_of_run' (nt := 42) (c := c0) tabGood Tryz.func118 (by kernel_rfl) (by kernel_rfl) (by kernel_rfl) (by kernel_rfl) (by kernel_rfl) (by kernel_rfl) (by kernel_rfl) ?_
  intro w0 O y hnp
  generalize hPost : (fun (a' : Act) (w' : World) => ∃ μ' S' st', Rel 42 w0 O μ' S' st' a' w' ∧ endOf (tabOf tab) rs 2 pout st' = some y) = Post
  have fin : ∀ (μ : Id → Option Value) (S : Nat → Prop) (st : St) (a : Act) (w : World), Rel 42 w0 O μ S st a w → endOf (tabOf tab) rs 2 pout st = some y → Post a w := fun μ S st a w h he => by rw [← hPost]; exact ⟨μ, S, st, h, he⟩
  have hp : ∀ (J4 : List Item → P4 → Option PO), Parts Tryz.prog 118 (pg J4) [(4, cut p4 J4)] := fun J4 => ⟨tab_ok tabGood rfl, handNil_ok, rfl⟩
  have g4 : Good Tryz.prog 42 w0 O Post y T4 p4 L4 := good_part (hp (atT T4 (fun _ => none))) (runOK_of (hp (atT T4 (fun _ => none))) hnp ⟨cutOK_at (p := p4) (T := T4) (J := fun _ => none) good_none, trivial⟩ fin) (fun x => (seg4 (atT T4 (fun _ => none)) x.1 x.2.1 x.2.2.1 x.2.2.2.1 x.2.2.2.2.1 x.2.2.2.2.2.1 x.2.2.2.2.2.2.1 x.2.2.2.2.2.2.2.1 x.2.2.2.2.2.2.2.2.1 x.2.2.2.2.2.2.2.2.2.1 x.2.2.2.2.2.2.2.2.2.2.1 x.2.2.2.2.2.2.2.2.2.2.2.1 x.2.2.2.2.2.2.2.2.2.2.2.2.1 x.2.2.2.2.2.2.2.2.2.2.2.2.2.1))
  exact good_first (hp (atT T4 L4)) (runOK_of (hp (atT T4 L4)) hnp ⟨cutOK_at g4, trivial⟩ fin) (fun x => (seg0 (atT T4 L4) x.1 x.2.1 x.2.2.1 x.2.2.2.1 x.2.2.2.2.1 x.2.2.2.2.2.1).trans (by simp only [atT_self] <;> rfl))
end spec_l30Take

/-! ### loop.example/wholecheck/spec.l30Op -/
namespace spec_l30Op
noncomputable abbrev c0 : Code := (Tryz.f119.body).getD .skip
noncomputable abbrev pin : Tpl := ⟨[⟨0, false, [.d (.int .u8)]⟩], []⟩
noncomputable abbrev pout : Tpl := ⟨[⟨0, false, [.d (.int .i64)]⟩], []⟩
noncomputable abbrev p2 : Tpl := ⟨[⟨0, false, [.d (.int .u8)]⟩, ⟨3, false, [.d (.int .i64)]⟩], []⟩
noncomputable def T2 : List Item := (find 2 c0 []).getD []
noncomputable abbrev PI := Int × Unit
noncomputable abbrev PO := Int × Unit
noncomputable abbrev P2 := Int × Int × Unit
noncomputable abbrev rs : List ResultVar := [.tmp 2]
noncomputable def F0 (J2 : P2 → Option PO) (x0 : Int) : Option PO :=
  J2 (x0, 2, ())
noncomputable def F2 (J2 : P2 → Option PO) (Gspec_l1Sign : spec_l1Sign.PI → Option spec_l1Sign.PO) (t0 : Int) (t3 : Int) : Option PO :=
  bif decide (t3 ≤ 9) then
    Option.bind (Gspec_l1Sign (t3, ())) fun y0 =>
    bif inb 0 y0.1.length then
      bif ((y0.1.getD 0 0).toNat : Int) == t0 then
        bif t3 != 7 then
          some (t3, ())
        else
          J2 (t0, wI (t3 + 1), ())
      else
        J2 (t0, wI (t3 + 1), ())
    else
      none
  else
    some ((-1), ())
noncomputable def hd {R : Type} (Gspec_l1Sign : spec_l1Sign.PI → Option spec_l1Sign.PO) : Hand R := (handAt 57 [9] true ⟨1, 1, 1, spec_l1Sign.pin, spec_l1Sign.pout, Gspec_l1Sign⟩ handNil)
noncomputable def pg (Gspec_l1Sign : spec_l1Sign.PI → Option spec_l1Sign.PO) (J2 : List Item → P2 → Option PO) : Prog PO := { nt := 18, np := 1, tb := tabOf tab, hd := hd Gspec_l1Sign, cuts := cutsOf [(2, cut p2 J2)], fin := endOf (tabOf tab) rs 1 pout }
noncomputable def q : FuncId → Bool := fun f => hasId [57] f
theorem seg0 (Gspec_l1Sign : spec_l1Sign.PI → Option spec_l1Sign.PO) (J2 : List Item → P2 → Option PO) (x0 : Int) : arun (pg Gspec_l1Sign J2) 5000 [.code c0] (mk pin (x0, ())) = F0 (J2 T2) x0 := by kernel_rfl
theorem seg2 (Gspec_l1Sign : spec_l1Sign.PI → Option spec_l1Sign.PO) (J2 : List Item → P2 → Option PO) (t0 : Int) (t3 : Int) : arun1 (pg Gspec_l1Sign J2) 5000 T2 (mk p2 (t0, t3, ())) = F2 (J2 T2) Gspec_l1Sign t0 t3 := by kernel_rfl
noncomputable def L2 : P2 → Option PO := lfp fun J2 x => F2 J2 spec_l1Sign.impl x.1 x.2.1
noncomputable def impl : PI → Option PO := fun x => F0 L2 x.1
theorem F2_le {J2 J2' : P2 → Option PO} (h2 : OLe J2 J2') {Gspec_l1Sign : spec_l1Sign.PI → Option spec_l1Sign.PO} (t0 : Int) (t3 : Int) : OptLe (F2 J2 Gspec_l1Sign t0 t3) (F2 J2' Gspec_l1Sign t0 t3) := by unfold F2; exact .cond (.bind (.refl _) fun _ => .cond (.cond (.cond (.refl _) (.of h2 _)) (.of h2 _)) (.refl _)) (.refl _)
theorem L2_mono : OMono fun J2 (x : P2) => F2 J2 spec_l1Sign.impl x.1 x.2.1 := fun J J' h2 x => F2_le h2 x.1 x.2.1
theorem L2_eq (t0 : Int) (t3 : Int) : L2 (t0, t3, ()) = F2 (L2) spec_l1Sign.impl t0 t3 := congrFun (lfp_eq (L2_mono)) _
theorem impl_eq (x0 : Int) : impl (x0, ()) = F0 L2 x0 := rfl
theorem con : Con Tryz.prog 119 1 rs.length 1 pin pout impl := by
  refine con_of_run' (nt := 18) (c := c0) tabGood Tryz.func119 (by kernel_rfl) (by kernel_rfl) (by kernel_rfl) (by kernel_rfl) (by kernel_rfl) (by kernel_rfl) (by kernel_rfl) ?_
  intro w0 O y hnp
  generalize hPost : (fun (a' : Act) (w' : World) => ∃ μ' S' st', Rel 18 w0 O μ' S' st' a' w' ∧ endOf (tabOf tab) rs 1 pout st' = some y) = Post
  have fin : ∀ (μ : Id → Option Value) (S : Nat → Prop) (st : St) (a : Act) (w : World), Rel 18 w0 O μ S st a w → endOf (tabOf tab) rs 1 pout st = some y → Post a w := fun μ S st a w h he => by rw [← hPost]; exact ⟨μ, S, st, h, he⟩
  have hp : ∀ (J2 : List Item → P2 → Option PO), Parts Tryz.prog 119 (pg spec_l1Sign.impl J2) [(2, cut p2 J2)] := fun J2 => ⟨tab_ok tabGood rfl, (handAt_ok spec_l1Sign.con handNil_ok), rfl⟩
  have g2 : Good Tryz.prog 18 w0 O Post y T2 p2 L2 := good_lfp fun J2 h2 => good_part (hp (atT T2 J2)) (runOK_of (hp (atT T2 J2)) hnp ⟨cutOK_at h2, trivial⟩ fin) (fun x => (seg2 spec_l1Sign.impl (atT T2 J2) x.1 x.2.1).trans (by simp only [atT_self] <;> rfl))
  exact good_first (hp (atT T2 L2)) (runOK_of (hp (atT T2 L2)) hnp ⟨cutOK_at g2, trivial⟩ fin) (fun x => (seg0 spec_l1Sign.impl (atT T2 L2) x.1).trans (by simp only [atT_self] <;> rfl))
end spec_l30Op

/-! ### loop.example/wholecheck/spec.l30Expr -/
namespace spec_l30Expr
noncomputable abbrev c0 : Code := (Tryz.f71.body).getD .skip
noncomputable abbrev pin : Tpl := ⟨[⟨0, true, [.d .str, .d (.int .i64), .row 500001, .row 500002, .d .bool]⟩, ⟨1, false, [.d (.int .i64)]⟩], [(500001, .row 9 false .str), (500002, .row 52 true (.prod (.int .i64) (.prod (.int .i64) (.prod (.int .i64) (.last (.int .i64))))))]⟩
noncomputable abbrev pout : Tpl := ⟨[⟨0, true, [.d .str, .d (.int .i64), .row 500001, .row 500002, .d .bool]⟩, ⟨1, false, [.d (.int .i64)]⟩, ⟨2, true, [.any, .any, .row 500001, .any, .any]⟩], [(500001, .row 9 false .str), (500002, .row 52 true (.prod (.int .i64) (.prod (.int .i64) (.prod (.int .i64) (.last (.int .i64))))))]⟩
noncomputable abbrev p4 : Tpl := ⟨[⟨0, true, [.d .str, .d (.int .i64), .row 500001, .row 500002, .d .bool]⟩, ⟨1, false, [.d (.int .i64)]⟩, ⟨2, false, [.ptr 3000000 0]⟩, ⟨4, false, [.ptr 3000001 0]⟩], [(500001, .row 9 false .str), (500002, .row 52 true (.prod (.int .i64) (.prod (.int .i64) (.prod (.int .i64) (.last (.int .i64)))))), (3000000, .box [.d .str, .d (.int .i64), .row 500001, .row 500002, .d .bool]), (3000001, .box [.d .str, .d (.int .i64), .row 3000002, .row 3000003, .d .bool]), (3000002, .row 9 true .str), (3000003, .row 52 true (.prod (.int .i64) (.prod (.int .i64) (.prod (.int .i64) (.last (.int .i64))))))]⟩
noncomputable def T4 : List Item := (find 4 c0 []).getD []
noncomputable abbrev p18 : Tpl := ⟨[⟨0, true, [.d .str, .d (.int .i64), .row 500001, .any, .d .bool]⟩, ⟨1, false, [.d (.int .i64)]⟩, ⟨4, false, [.ptr 3000000 0]⟩, ⟨8, false, [.ptr 3000001 0]⟩, ⟨9, false, [.d (.int .i64)]⟩], [(500001, .row 9 false .str), (3000000, .box [.d .str, .d (.int .i64), .row 3000002, .row 3000003, .d .bool]), (3000001, .box [.d .str, .d (.int .i64), .row 500001, .row 500002, .d .bool]), (3000002, .row 9 true .str), (3000003, .row 52 true (.prod (.int .i64) (.prod (.int .i64) (.prod (.int .i64) (.last (.int .i64)))))), (500002, .row 52 true (.prod (.int .i64) (.prod (.int .i64) (.prod (.int .i64) (.last (.int .i64))))))]⟩
noncomputable def T18 : List Item := (find 18 c0 []).getD []
noncomputable abbrev p25 : Tpl := ⟨[⟨0, true, [.d .str, .d (.int .i64), .row 500001, .any, .d .bool]⟩, ⟨4, false, [.ptr 3000000 0]⟩, ⟨9, false, [.d (.int .i64)]⟩, ⟨10, false, [.d (.int .i64)]⟩, ⟨11, false, [.ptr 3000001 0]⟩, ⟨12, false, [.d (.int .i64)]⟩], [(500001, .row 9 false .str), (3000000, .box [.d .str, .d (.int .i64), .row 3000002, .row 3000003, .d .bool]), (3000001, .box [.d .str, .d (.int .i64), .row 500001, .row 500002, .d .bool]), (3000002, .row 9 true .str), (3000003, .row 52 true (.prod (.int .i64) (.prod (.int .i64) (.prod (.int .i64) (.last (.int .i64)))))), (500002, .row 52 true (.prod (.int .i64) (.prod (.int .i64) (.prod (.int .i64) (.last (.int .i64))))))]⟩
noncomputable def T25 : List Item := (find 25 c0 []).getD []
noncomputable abbrev PI := (List UInt8) × Int × Bool × Int × (List (List UInt8)) × (List (Int × Int × Int × Int)) × Unit
noncomputable abbrev PO := (List UInt8) × Int × Bool × Int × (List (List UInt8)) × (List (Int × Int × Int × Int)) × Unit
noncomputable abbrev P4 := (List UInt8) × Int × Bool × Int × (List (List UInt8)) × (List (Int × Int × Int × Int)) × (List UInt8) × Int × Bool × (List UInt8) × Int × Bool × (List (List UInt8)) × (List (Int × Int × Int × Int)) × Unit
noncomputable abbrev P18 := (List UInt8) × Int × Bool × Int × Int × (List (List UInt8)) × (List UInt8) × Int × Bool × (List UInt8) × Int × Bool × (List (List UInt8)) × (List (Int × Int × Int × Int)) × (List (Int × Int × Int × Int)) × Unit
noncomputable abbrev P25 := (List UInt8) × Int × Bool × Int × Int × Int × (List (List UInt8)) × (List UInt8) × Int × Bool × (List UInt8) × Int × Bool × (List (List UInt8)) × (List (Int × Int × Int × Int)) × (List (Int × Int × Int × Int)) × Unit
noncomputable abbrev rs : List ResultVar := [.cell 4 114, .tmp 5]
noncomputable def F0 (J4 : P4 → Option PO) (x0_0 : List UInt8) (x0_1 : Int) (x0_2 : Bool) (x1 : Int) (s1 : List (List UInt8)) (s2 : List (Int × Int × Int × Int)) : Option PO :=
  bif !x0_2 then
    some (x0_0, x0_1, false, 0, s1, s2, ())
  else
    bif x1 == 0 then
      some (x0_0, x0_1, false, 0, s1, s2, ())
    else
      bif decide (x0_1 ≥ (x0_0.length : Int)) then
        some (x0_0, x0_1, false, 0, s1, s2, ())
      else
        J4 (x0_0, x0_1, x0_2, x1, s1, s2, x0_0, x0_1, x0_2, [], 0, false, [], [], ())
noncomputable def F4 (J18 : P18 → Option PO) (Gspec_l30Expr : PI → Option PO) (Gspec_l30Leaf : spec_l30Leaf.PI → Option spec_l30Leaf.PO) (Gspec_l30Put : spec_l30Put.PI → Option spec_l30Put.PO) (Gspec_l30Take : spec_l30Take.PI → Option spec_l30Take.PO) (t0_0 : List UInt8) (t0_1 : Int) (t0_2 : Bool) (t1 : Int) (s1 : List (List UInt8)) (s2 : List (Int × Int × Int × Int)) (b0_0 : List UInt8) (b0_1 : Int) (b0_2 : Bool) (b1_0 : List UInt8) (b1_1 : Int) (b1_2 : Bool) (r2 : List (List UInt8)) (r3 : List (Int × Int × Int × Int)) : Option PO :=
  bif inb b0_1 b0_0.length then
    bif ((b0_0.getD b0_1.toNat 0).toNat : Int) == 33 then
      Option.bind (Gspec_l30Expr (b0_0, wI (b0_1 + 1), b0_2, wI (t1 - 1), s1, s2, ())) fun y0 =>
      bif !y0.2.2.1 then
        some (y0.1, y0.2.1, y0.2.2.1, 0, y0.2.2.2.2.1, y0.2.2.2.2.2.1, ())
      else
        Option.bind (Gspec_l30Put (y0.1, y0.2.1, y0.2.2.1, (7, 0, y0.2.2.2.1, y0.2.2.2.1), y0.2.2.2.2.1, y0.2.2.2.2.2.1, ())) fun y1 =>
        some (y1.1, y1.2.1, y1.2.2.1, y1.2.2.2.1, y1.2.2.2.2.1, y1.2.2.2.2.2.1, ())
    else
      bif inb b0_1 b0_0.length then
        bif ((b0_0.getD b0_1.toNat 0).toNat : Int) != 40 then
          Option.bind (Gspec_l30Leaf (b0_0, b0_1, b0_2, s1, s2, ())) fun y2 =>
          some (y2.1, y2.2.1, y2.2.2.1, y2.2.2.2.1, y2.2.2.2.2.1, y2.2.2.2.2.2.1, ())
        else
          Option.bind (Gspec_l30Expr (b0_0, wI (b0_1 + 1), b0_2, wI (t1 - 1), s1, s2, ())) fun y3 =>
          Option.bind (Gspec_l30Take (y3.1, y3.2.1, y3.2.2.1, ([32] : List UInt8), y3.2.2.2.2.1, y3.2.2.2.2.2.1, ())) fun y4 =>
          bif !y4.2.2.1 then
            some (y4.1, y4.2.1, false, 0, y4.2.2.2.1, y4.2.2.2.2.1, ())
          else
            bif decide (y4.2.1 ≥ (y4.1.length : Int)) then
              some (y4.1, y4.2.1, false, 0, y4.2.2.2.1, y4.2.2.2.2.1, ())
            else
              J18 (t0_0, t0_1, t0_2, t1, y3.2.2.2.1, y4.2.2.2.1, b1_0, b1_1, b1_2, y4.1, y4.2.1, y4.2.2.1, r2, r3, y4.2.2.2.2.1, ())
      else
        none
  else
    none
noncomputable def F18 (J25 : P25 → Option PO) (Gspec_l30Expr : PI → Option PO) (Gspec_l30Op : spec_l30Op.PI → Option spec_l30Op.PO) (Gspec_l30Take : spec_l30Take.PI → Option spec_l30Take.PO) (t0_0 : List UInt8) (t0_1 : Int) (t0_2 : Bool) (t1 : Int) (t9 : Int) (s1 : List (List UInt8)) (b0_0 : List UInt8) (b0_1 : Int) (b0_2 : Bool) (b1_0 : List UInt8) (b1_1 : Int) (b1_2 : Bool) (r2 : List (List UInt8)) (r3 : List (Int × Int × Int × Int)) (s2 : List (Int × Int × Int × Int)) : Option PO :=
  bif inb b1_1 b1_0.length then
    Option.bind (Gspec_l30Op (((b1_0.getD b1_1.toNat 0).toNat : Int), ())) fun y5 =>
    Option.bind (Gspec_l30Take (b1_0, wI (b1_1 + 1), b1_2, ([32] : List UInt8), s1, s2, ())) fun y6 =>
    Option.bind (Gspec_l30Expr (y6.1, y6.2.1, y6.2.2.1, wI (t1 - 1), y6.2.2.2.1, y6.2.2.2.2.1, ())) fun y7 =>
    Option.bind (Gspec_l30Take (y7.1, y7.2.1, y7.2.2.1, ([41] : List UInt8), y7.2.2.2.2.1, y7.2.2.2.2.2.1, ())) fun y8 =>
    bif !y8.2.2.1 then
      some (y8.1, y8.2.1, false, 0, y8.2.2.2.1, y8.2.2.2.2.1, ())
    else
      bif decide (y5.1 < 0) then
        some (y8.1, y8.2.1, false, 0, y8.2.2.2.1, y8.2.2.2.2.1, ())
      else
        J25 (t0_0, t0_1, t0_2, t9, y5.1, y7.2.2.2.1, y8.2.2.2.1, b0_0, b0_1, b0_2, y8.1, y8.2.1, y8.2.2.1, r2, r3, y8.2.2.2.2.1, ())
  else
    none
noncomputable def F25 (Gspec_l30Put : spec_l30Put.PI → Option spec_l30Put.PO) (t0_0 : List UInt8) (t0_1 : Int) (t0_2 : Bool) (t9 : Int) (t10 : Int) (t12 : Int) (s1 : List (List UInt8)) (b0_0 : List UInt8) (b0_1 : Int) (b0_2 : Bool) (b1_0 : List UInt8) (b1_1 : Int) (b1_2 : Bool) (r2 : List (List UInt8)) (r3 : List (Int × Int × Int × Int)) (s2 : List (Int × Int × Int × Int)) : Option PO :=
  Option.bind (Gspec_l30Put (b1_0, b1_1, b1_2, (t10, 0, t9, t12), s1, s2, ())) fun y9 =>
  some (y9.1, y9.2.1, y9.2.2.1, y9.2.2.2.1, y9.2.2.2.2.1, y9.2.2.2.2.2.1, ())
noncomputable def hd {R : Type} (Gspec_l30Expr : PI → Option PO) (Gspec_l30Leaf : spec_l30Leaf.PI → Option spec_l30Leaf.PO) (Gspec_l30Op : spec_l30Op.PI → Option spec_l30Op.PO) (Gspec_l30Put : spec_l30Put.PI → Option spec_l30Put.PO) (Gspec_l30Take : spec_l30Take.PI → Option spec_l30Take.PO) : Hand R := (handAt 119 [99] true ⟨1, 1, 1, spec_l30Op.pin, spec_l30Op.pout, Gspec_l30Op⟩ (handAt 118 [80, 106, 113] true ⟨2, 1, 2, spec_l30Take.pin, spec_l30Take.pout, Gspec_l30Take⟩ (handAt 117 [65] true ⟨1, 2, 1, spec_l30Leaf.pin, spec_l30Leaf.pout, Gspec_l30Leaf⟩ (handAt 116 [55, 128] true ⟨2, 2, 2, spec_l30Put.pin, spec_l30Put.pout, Gspec_l30Put⟩ (handAt 71 [44, 76, 109] true ⟨2, 2, 2, pin, pout, Gspec_l30Expr⟩ handNil)))))
noncomputable def pg (Gspec_l30Expr : PI → Option PO) (Gspec_l30Leaf : spec_l30Leaf.PI → Option spec_l30Leaf.PO) (Gspec_l30Op : spec_l30Op.PI → Option spec_l30Op.PO) (Gspec_l30Put : spec_l30Put.PI → Option spec_l30Put.PO) (Gspec_l30Take : spec_l30Take.PI → Option spec_l30Take.PO) (J4 : List Item → P4 → Option PO) (J18 : List Item → P18 → Option PO) (J25 : List Item → P25 → Option PO) : Prog PO := { nt := 131, np := 2, tb := tabOf tab, hd := hd Gspec_l30Expr Gspec_l30Leaf Gspec_l30Op Gspec_l30Put Gspec_l30Take, cuts := cutsOf [(4, cut p4 J4), (18, cut p18 J18), (25, cut p25 J25)], fin := endOf (tabOf tab) rs 2 pout }
noncomputable def q : FuncId → Bool := fun f => hasId [119] f
theorem seg0 (Gspec_l30Expr : PI → Option PO) (Gspec_l30Leaf : spec_l30Leaf.PI → Option spec_l30Leaf.PO) (Gspec_l30Op : spec_l30Op.PI → Option spec_l30Op.PO) (Gspec_l30Put : spec_l30Put.PI → Option spec_l30Put.PO) (Gspec_l30Take : spec_l30Take.PI → Option spec_l30Take.PO) (J4 : List Item → P4 → Option PO) (J18 : List Item → P18 → Option PO) (J25 : List Item → P25 → Option PO) (x0_0 : List UInt8) (x0_1 : Int) (x0_2 : Bool) (x1 : Int) (s1 : List (List UInt8)) (s2 : List (Int × Int × Int × Int)) : arun (pg Gspec_l30Expr Gspec_l30Leaf Gspec_l30Op Gspec_l30Put Gspec_l30Take J4 J18 J25) 5000 [.code c0] (mk pin (x0_0, x0_1, x0_2, x1, s1, s2, ())) = F0 (J4 T4) x0_0 x0_1 x0_2 x1 s1 s2 := by kernel_rfl
theorem seg4 (Gspec_l30Expr : PI → Option PO) (Gspec_l30Leaf : spec_l30Leaf.PI → Option spec_l30Leaf.PO) (Gspec_l30Op : spec_l30Op.PI → Option spec_l30Op.PO) (Gspec_l30Put : spec_l30Put.PI → Option spec_l30Put.PO) (Gspec_l30Take : spec_l30Take.PI → Option spec_l30Take.PO) (J4 : List Item → P4 → Option PO) (J18 : List Item → P18 → Option PO) (J25 : List Item → P25 → Option PO) (t0_0 : List UInt8) (t0_1 : Int) (t0_2 : Bool) (t1 : Int) (s1 : List (List UInt8)) (s2 : List (Int × Int × Int × Int)) (b0_0 : List UInt8) (b0_1 : Int) (b0_2 : Bool) (b1_0 : List UInt8) (b1_1 : Int) (b1_2 : Bool) (r2 : List (List UInt8)) (r3 : List (Int × Int × Int × Int)) : arun1 (pg Gspec_l30Expr Gspec_l30Leaf Gspec_l30Op Gspec_l30Put Gspec_l30Take J4 J18 J25) 5000 T4 (mk p4 (t0_0, t0_1, t0_2, t1, s1, s2, b0_0, b0_1, b0_2, b1_0, b1_1, b1_2, r2, r3, ())) = F4 (J18 T18) Gspec_l30Expr Gspec_l30Leaf Gspec_l30Put Gspec_l30Take t0_0 t0_1 t0_2 t1 s1 s2 b0_0 b0_1 b0_2 b1_0 b1_1 b1_2 r2 r3 := by kernel_rfl
theorem seg18 (Gspec_l30Expr : PI → Option PO) (Gspec_l30Leaf : spec_l30Leaf.PI → Option spec_l30Leaf.PO) (Gspec_l30Op : spec_l30Op.PI → Option spec_l30Op.PO) (Gspec_l30Put : spec_l30Put.PI → Option spec_l30Put.PO) (Gspec_l30Take : spec_l30Take.PI → Option spec_l30Take.PO) (J4 : List Item → P4 → Option PO) (J18 : List Item → P18 → Option PO) (J25 : List Item → P25 → Option PO) (t0_0 : List UInt8) (t0_1 : Int) (t0_2 : Bool) (t1 : Int) (t9 : Int) (s1 : List (List UInt8)) (b0_0 : List UInt8) (b0_1 : Int) (b0_2 : Bool) (b1_0 : List UInt8) (b1_1 : Int) (b1_2 : Bool) (r2 : List (List UInt8)) (r3 : List (Int × Int × Int × Int)) (s2 : List (Int × Int × Int × Int)) : arun1 (pg Gspec_l30Expr Gspec_l30Leaf Gspec_l30Op Gspec_l30Put Gspec_l30Take J4 J18 J25) 5000 T18 (mk p18 (t0_0, t0_1, t0_2, t1, t9, s1, b0_0, b0_1, b0_2, b1_0, b1_1, b1_2, r2, r3, s2, ())) = F18 (J25 T25) Gspec_l30Expr Gspec_l30Op Gspec_l30Take t0_0 t0_1 t0_2 t1 t9 s1 b0_0 b0_1 b0_2 b1_0 b1_1 b1_2 r2 r3 s2 := by kernel_rfl
theorem seg25 (Gspec_l30Expr : PI → Option PO) (Gspec_l30Leaf : spec_l30Leaf.PI → Option spec_l30Leaf.PO) (Gspec_l30Op : spec_l30Op.PI → Option spec_l30Op.PO) (Gspec_l30Put : spec_l30Put.PI → Option spec_l30Put.PO) (Gspec_l30Take : spec_l30Take.PI → Option spec_l30Take.PO) (J4 : List Item → P4 → Option PO) (J18 : List Item → P18 → Option PO) (J25 : List Item → P25 → Option PO) (t0_0 : List UInt8) (t0_1 : Int) (t0_2 : Bool) (t9 : Int) (t10 : Int) (t12 : Int) (s1 : List (List UInt8)) (b0_0 : List UInt8) (b0_1 : Int) (b0_2 : Bool) (b1_0 : List UInt8) (b1_1 : Int) (b1_2 : Bool) (r2 : List (List UInt8)) (r3 : List (Int × Int × Int × Int)) (s2 : List (Int × Int × Int × Int)) : arun1 (pg Gspec_l30Expr Gspec_l30Leaf Gspec_l30Op Gspec_l30Put Gspec_l30Take J4 J18 J25) 5000 T25 (mk p25 (t0_0, t0_1, t0_2, t9, t10, t12, s1, b0_0, b0_1, b0_2, b1_0, b1_1, b1_2, r2, r3, s2, ())) = F25 Gspec_l30Put t0_0 t0_1 t0_2 t9 t10 t12 s1 b0_0 b0_1 b0_2 b1_0 b1_1 b1_2 r2 r3 s2 := by kernel_rfl
noncomputable def L25 (Gself : PI → Option PO) : P25 → Option PO := fun x => F25 spec_l30Put.impl x.1 x.2.1 x.2.2.1 x.2.2.2.1 x.2.2.2.2.1 x.2.2.2.2.2.1 x.2.2.2.2.2.2.1 x.2.2.2.2.2.2.2.1 x.2.2.2.2.2.2.2.2.1 x.2.2.2.2.2.2.2.2.2.1 x.2.2.2.2.2.2.2.2.2.2.1 x.2.2.2.2.2.2.2.2.2.2.2.1 x.2.2.2.2.2.2.2.2.2.2.2.2.1 x.2.2.2.2.2.2.2.2.2.2.2.2.2.1 x.2.2.2.2.2.2.2.2.2.2.2.2.2.2.1 x.2.2.2.2.2.2.2.2.2.2.2.2.2.2.2.1
noncomputable def L18 (Gself : PI → Option PO) : P18 → Option PO := fun x => F18 (L25 Gself) Gself spec_l30Op.impl spec_l30Take.impl x.1 x.2.1 x.2.2.1 x.2.2.2.1 x.2.2.2.2.1 x.2.2.2.2.2.1 x.2.2.2.2.2.2.1 x.2.2.2.2.2.2.2.1 x.2.2.2.2.2.2.2.2.1 x.2.2.2.2.2.2.2.2.2.1 x.2.2.2.2.2.2.2.2.2.2.1 x.2.2.2.2.2.2.2.2.2.2.2.1 x.2.2.2.2.2.2.2.2.2.2.2.2.1 x.2.2.2.2.2.2.2.2.2.2.2.2.2.1 x.2.2.2.2.2.2.2.2.2.2.2.2.2.2.1
noncomputable def L4 (Gself : PI → Option PO) : P4 → Option PO := fun x => F4 (L18 Gself) Gself spec_l30Leaf.impl spec_l30Put.impl spec_l30Take.impl x.1 x.2.1 x.2.2.1 x.2.2.2.1 x.2.2.2.2.1 x.2.2.2.2.2.1 x.2.2.2.2.2.2.1 x.2.2.2.2.2.2.2.1 x.2.2.2.2.2.2.2.2.1 x.2.2.2.2.2.2.2.2.2.1 x.2.2.2.2.2.2.2.2.2.2.1 x.2.2.2.2.2.2.2.2.2.2.2.1 x.2.2.2.2.2.2.2.2.2.2.2.2.1 x.2.2.2.2.2.2.2.2.2.2.2.2.2.1
noncomputable def step (Gself : PI → Option PO) : PI → Option PO := fun x => F0 (L4 Gself) x.1 x.2.1 x.2.2.1 x.2.2.2.1 x.2.2.2.2.1 x.2.2.2.2.2.1
noncomputable def impl : PI → Option PO := lfp step
theorem F25_le {Gspec_l30Put : spec_l30Put.PI → Option spec_l30Put.PO} (t0_0 : List UInt8) (t0_1 : Int) (t0_2 : Bool) (t9 : Int) (t10 : Int) (t12 : Int) (s1 : List (List UInt8)) (b0_0 : List UInt8) (b0_1 : Int) (b0_2 : Bool) (b1_0 : List UInt8) (b1_1 : Int) (b1_2 : Bool) (r2 : List (List UInt8)) (r3 : List (Int × Int × Int × Int)) (s2 : List (Int × Int × Int × Int)) : OptLe (F25 Gspec_l30Put t0_0 t0_1 t0_2 t9 t10 t12 s1 b0_0 b0_1 b0_2 b1_0 b1_1 b1_2 r2 r3 s2) (F25 Gspec_l30Put t0_0 t0_1 t0_2 t9 t10 t12 s1 b0_0 b0_1 b0_2 b1_0 b1_1 b1_2 r2 r3 s2) := by unfold F25; exact .refl _
theorem F18_le {J25 J25' : P25 → Option PO} (h25 : OLe J25 J25') {Gself Gself' : PI → Option PO} (hG : OLe Gself Gself') {Gspec_l30Op : spec_l30Op.PI → Option spec_l30Op.PO} {Gspec_l30Take : spec_l30Take.PI → Option spec_l30Take.PO} (t0_0 : List UInt8) (t0_1 : Int) (t0_2 : Bool) (t1 : Int) (t9 : Int) (s1 : List (List UInt8)) (b0_0 : List UInt8) (b0_1 : Int) (b0_2 : Bool) (b1_0 : List UInt8) (b1_1 : Int) (b1_2 : Bool) (r2 : List (List UInt8)) (r3 : List (Int × Int × Int × Int)) (s2 : List (Int × Int × Int × Int)) : OptLe (F18 J25 Gself Gspec_l30Op Gspec_l30Take t0_0 t0_1 t0_2 t1 t9 s1 b0_0 b0_1 b0_2 b1_0 b1_1 b1_2 r2 r3 s2) (F18 J25' Gself' Gspec_l30Op Gspec_l30Take t0_0 t0_1 t0_2 t1 t9 s1 b0_0 b0_1 b0_2 b1_0 b1_1 b1_2 r2 r3 s2) := by unfold F18; exact .cond (.bind (.refl _) fun _ => .bind (.refl _) fun _ => .bind (.of hG _) fun _ => .bind (.refl _) fun _ => .cond (.refl _) (.cond (.refl _) (.of h25 _))) (.refl _)
theorem F4_le {J18 J18' : P18 → Option PO} (h18 : OLe J18 J18') {Gself Gself' : PI → Option PO} (hG : OLe Gself Gself') {Gspec_l30Leaf : spec_l30Leaf.PI → Option spec_l30Leaf.PO} {Gspec_l30Put : spec_l30Put.PI → Option spec_l30Put.PO} {Gspec_l30Take : spec_l30Take.PI → Option spec_l30Take.PO} (t0_0 : List UInt8) (t0_1 : Int) (t0_2 : Bool) (t1 : Int) (s1 : List (List UInt8)) (s2 : List (Int × Int × Int × Int)) (b0_0 : List UInt8) (b0_1 : Int) (b0_2 : Bool) (b1_0 : List UInt8) (b1_1 : Int) (b1_2 : Bool) (r2 : List (List UInt8)) (r3 : List (Int × Int × Int × Int)) : OptLe (F4 J18 Gself Gspec_l30Leaf Gspec_l30Put Gspec_l30Take t0_0 t0_1 t0_2 t1 s1 s2 b0_0 b0_1 b0_2 b1_0 b1_1 b1_2 r2 r3) (F4 J18' Gself' Gspec_l30Leaf Gspec_l30Put Gspec_l30Take t0_0 t0_1 t0_2 t1 s1 s2 b0_0 b0_1 b0_2 b1_0 b1_1 b1_2 r2 r3) := by unfold F4; exact .cond (.cond (.bind (.of hG _) fun _ => .refl _) (.cond (.cond (.refl _) (.bind (.of hG _) fun _ => .bind (.refl _) fun _ => .cond (.refl _) (.cond (.refl _) (.of h18 _)))) (.refl _))) (.refl _)
theorem F0_le {J4 J4' : P4 → Option PO} (h4 : OLe J4 J4') (x0_0 : List UInt8) (x0_1 : Int) (x0_2 : Bool) (x1 : Int) (s1 : List (List UInt8)) (s2 : List (Int × Int × Int × Int)) : OptLe (F0 J4 x0_0 x0_1 x0_2 x1 s1 s2) (F0 J4' x0_0 x0_1 x0_2 x1 s1 s2) := by unfold F0; exact .cond (.refl _) (.cond (.refl _) (.cond (.refl _) (.of h4 _)))
theorem L25_eq (Gself : PI → Option PO) (t0_0 : List UInt8) (t0_1 : Int) (t0_2 : Bool) (t9 : Int) (t10 : Int) (t12 : Int) (s1 : List (List UInt8)) (b0_0 : List UInt8) (b0_1 : Int) (b0_2 : Bool) (b1_0 : List UInt8) (b1_1 : Int) (b1_2 : Bool) (r2 : List (List UInt8)) (r3 : List (Int × Int × Int × Int)) (s2 : List (Int × Int × Int × Int)) : L25 Gself (t0_0, t0_1, t0_2, t9, t10, t12, s1, b0_0, b0_1, b0_2, b1_0, b1_1, b1_2, r2, r3, s2, ()) = F25 spec_l30Put.impl t0_0 t0_1 t0_2 t9 t10 t12 s1 b0_0 b0_1 b0_2 b1_0 b1_1 b1_2 r2 r3 s2 := rfl
theorem L25_le {Gself Gself' : PI → Option PO} (hG : OLe Gself Gself') : OLe (L25 Gself) (L25 Gself') := fun x => F25_le x.1 x.2.1 x.2.2.1 x.2.2.2.1 x.2.2.2.2.1 x.2.2.2.2.2.1 x.2.2.2.2.2.2.1 x.2.2.2.2.2.2.2.1 x.2.2.2.2.2.2.2.2.1 x.2.2.2.2.2.2.2.2.2.1 x.2.2.2.2.2.2.2.2.2.2.1 x.2.2.2.2.2.2.2.2.2.2.2.1 x.2.2.2.2.2.2.2.2.2.2.2.2.1 x.2.2.2.2.2.2.2.2.2.2.2.2.2.1 x.2.2.2.2.2.2.2.2.2.2.2.2.2.2.1 x.2.2.2.2.2.2.2.2.2.2.2.2.2.2.2.1
theorem L18_eq (Gself : PI → Option PO) (t0_0 : List UInt8) (t0_1 : Int) (t0_2 : Bool) (t1 : Int) (t9 : Int) (s1 : List (List UInt8)) (b0_0 : List UInt8) (b0_1 : Int) (b0_2 : Bool) (b1_0 : List UInt8) (b1_1 : Int) (b1_2 : Bool) (r2 : List (List UInt8)) (r3 : List (Int × Int × Int × Int)) (s2 : List (Int × Int × Int × Int)) : L18 Gself (t0_0, t0_1, t0_2, t1, t9, s1, b0_0, b0_1, b0_2, b1_0, b1_1, b1_2, r2, r3, s2, ()) = F18 (L25 Gself) Gself spec_l30Op.impl spec_l30Take.impl t0_0 t0_1 t0_2 t1 t9 s1 b0_0 b0_1 b0_2 b1_0 b1_1 b1_2 r2 r3 s2 := rfl
theorem L18_le {Gself Gself' : PI → Option PO} (hG : OLe Gself Gself') : OLe (L18 Gself) (L18 Gself') := fun x => F18_le (L25_le hG) hG x.1 x.2.1 x.2.2.1 x.2.2.2.1 x.2.2.2.2.1 x.2.2.2.2.2.1 x.2.2.2.2.2.2.1 x.2.2.2.2.2.2.2.1 x.2.2.2.2.2.2.2.2.1 x.2.2.2.2.2.2.2.2.2.1 x.2.2.2.2.2.2.2.2.2.2.1 x.2.2.2.2.2.2.2.2.2.2.2.1 x.2.2.2.2.2.2.2.2.2.2.2.2.1 x.2.2.2.2.2.2.2.2.2.2.2.2.2.1 x.2.2.2.2.2.2.2.2.2.2.2.2.2.2.1
theorem L4_eq (Gself : PI → Option PO) (t0_0 : List UInt8) (t0_1 : Int) (t0_2 : Bool) (t1 : Int) (s1 : List (List UInt8)) (s2 : List (Int × Int × Int × Int)) (b0_0 : List UInt8) (b0_1 : Int) (b0_2 : Bool) (b1_0 : List UInt8) (b1_1 : Int) (b1_2 : Bool) (r2 : List (List UInt8)) (r3 : List (Int × Int × Int × Int)) : L4 Gself (t0_0, t0_1, t0_2, t1, s1, s2, b0_0, b0_1, b0_2, b1_0, b1_1, b1_2, r2, r3, ()) = F4 (L18 Gself) Gself spec_l30Leaf.impl spec_l30Put.impl spec_l30Take.impl t0_0 t0_1 t0_2 t1 s1 s2 b0_0 b0_1 b0_2 b1_0 b1_1 b1_2 r2 r3 := rfl
theorem L4_le {Gself Gself' : PI → Option PO} (hG : OLe Gself Gself') : OLe (L4 Gself) (L4 Gself') := fun x => F4_le (L18_le hG) hG x.1 x.2.1 x.2.2.1 x.2.2.2.1 x.2.2.2.2.1 x.2.2.2.2.2.1 x.2.2.2.2.2.2.1 x.2.2.2.2.2.2.2.1 x.2.2.2.2.2.2.2.2.1 x.2.2.2.2.2.2.2.2.2.1 x.2.2.2.2.2.2.2.2.2.2.1 x.2.2.2.2.2.2.2.2.2.2.2.1 x.2.2.2.2.2.2.2.2.2.2.2.2.1 x.2.2.2.2.2.2.2.2.2.2.2.2.2.1
theorem step_mono : OMono step := fun G G' hG x => F0_le (L4_le hG) x.1 x.2.1 x.2.2.1 x.2.2.2.1 x.2.2.2.2.1 x.2.2.2.2.2.1
theorem impl_eq (x0_0 : List UInt8) (x0_1 : Int) (x0_2 : Bool) (x1 : Int) (s1 : List (List UInt8)) (s2 : List (Int × Int × Int × Int)) : impl (x0_0, x0_1, x0_2, x1, s1, s2, ()) = F0 (L4 impl) x0_0 x0_1 x0_2 x1 s1 s2 := congrFun (lfp_eq step_mono) _
theorem con_step (Gself : PI → Option PO) (hself : Con Tryz.prog 71 2 rs.length 2 pin pout Gself) : Con Tryz.prog 71 2 rs.length 2 pin pout (step Gself) := by
  refine con_of_run' (nt := 131) (c := c0) tabGood Tryz.func71 (by kernel_rfl) (by kernel_rfl) (by kernel_rfl) (by kernel_rfl) (by kernel_rfl) (by kernel_rfl) (by kernel_rfl) ?_
  intro w0 O y hnp
  generalize hPost : (fun (a' : Act) (w' : World) => ∃ μ' S' st', Rel 131 w0 O μ' S' st' a' w' ∧ endOf (tabOf tab) rs 2 pout st' = some y) = Post
  have fin : ∀ (μ : Id → Option Value) (S : Nat → Prop) (st : St) (a : Act) (w : World), Rel 131 w0 O μ S st a w → endOf (tabOf tab) rs 2 pout st = some y → Post a w := fun μ S st a w h he => by rw [← hPost]; exact ⟨μ, S, st, h, he⟩
  have hp : ∀ (J4 : List Item → P4 → Option PO), ∀ (J18 : List Item → P18 → Option PO), ∀ (J25 : List Item → P25 → Option PO), Parts Tryz.prog 71 (pg Gself spec_l30Leaf.impl spec_l30Op.impl spec_l30Put.impl spec_l30Take.impl J4 J18 J25) [(4, cut p4 J4), (18, cut p18 J18), (25, cut p25 J25)] := fun J4 J18 J25 => ⟨tab_ok tabGood rfl, (handAt_ok spec_l30Op.con (handAt_ok spec_l30Take.con (handAt_ok spec_l30Leaf.con (handAt_ok spec_l30Put.con (handAt_ok hself handNil_ok))))), rfl⟩
  have g25 : Good Tryz.prog 131 w0 O Post y T25 p25 (L25 Gself) := good_part (hp (atT T4 (fun _ => none)) (atT T18 (fun _ => none)) (atT T25 (fun _ => none))) (runOK_of (hp (atT T4 (fun _ => none)) (atT T18 (fun _ => none)) (atT T25 (fun _ => none))) hnp ⟨cutOK_at (p := p4) (T := T4) (J := fun _ => none) good_none, cutOK_at (p := p18) (T := T18) (J := fun _ => none) good_none, cutOK_at (p := p25) (T := T25) (J := fun _ => none) good_none, trivial⟩ fin) (fun x => (seg25 Gself spec_l30Leaf.impl spec_l30Op.impl spec_l30Put.impl spec_l30Take.impl (atT T4 (fun _ => none)) (atT T18 (fun _ => none)) (atT T25 (fun _ => none)) x.1 x.2.1 x.2.2.1 x.2.2.2.1 x.2.2.2.2.1 x.2.2.2.2.2.1 x.2.2.2.2.2.2.1 x.2.2.2.2.2.2.2.1 x.2.2.2.2.2.2.2.2.1 x.2.2.2.2.2.2.2.2.2.1 x.2.2.2.2.2.2.2.2.2.2.1 x.2.2.2.2.2.2.2.2.2.2.2.1 x.2.2.2.2.2.2.2.2.2.2.2.2.1 x.2.2.2.2.2.2.2.2.2.2.2.2.2.1 x.2.2.2.2.2.2.2.2.2.2.2.2.2.2.1 x.2.2.2.2.2.2.2.2.2.2.2.2.2.2.2.1))
  have g18 : Good Tryz.prog 131 w0 O Post y T18 p18 (L18 Gself) := good_part (hp (atT T4 (fun _ => none)) (atT T18 (fun _ => none)) (atT T25 (L25 Gself))) (runOK_of (hp (atT T4 (fun _ => none)) (atT T18 (fun _ => none)) (atT T25 (L25 Gself))) hnp ⟨cutOK_at (p := p4) (T := T4) (J := fun _ => none) good_none, cutOK_at (p := p18) (T := T18) (J := fun _ => none) good_none, cutOK_at g25, trivial⟩ fin) (fun x => (seg18 Gself spec_l30Leaf.impl spec_l30Op.impl spec_l30Put.impl spec_l30Take.impl (atT T4 (fun _ => none)) (atT T18 (fun _ => none)) (atT T25 (L25 Gself)) x.1 x.2.1 x.2.2.1 x.2.2.2.1 x.2.2.2.2.1 x.2.2.2.2.2.1 x.2.2.2.2.2.2.1 x.2.2.2.2.2.2.2.1 x.2.2.2.2.2.2.2.2.1 x.2.2.2.2.2.2.2.2.2.1 x.2.2.2.2.2.2.2.2.2.2.1 x.2.2.2.2.2.2.2.2.2.2.2.1 x.2.2.2.2.2.2.2.2.2.2.2.2.1 x.2.2.2.2.2.2.2.2.2.2.2.2.2.1 x.2.2.2.2.2.2.2.2.2.2.2.2.2.2.1).trans (by simp only [atT_self] <;> rfl))
  have g4 : Good Tryz.prog 131 w0 O Post y T4 p4 (L4 Gself) := good_part (hp (atT T4 (fun _ => none)) (atT T18 (L18 Gself)) (atT T25 (fun _ => none))) (runOK_of (hp (atT T4 (fun _ => none)) (atT T18 (L18 Gself)) (atT T25 (fun _ => none))) hnp ⟨cutOK_at (p := p4) (T := T4) (J := fun _ => none) good_none, cutOK_at g18, cutOK_at (p := p25) (T := T25) (J := fun _ => none) good_none, trivial⟩ fin) (fun x => (seg4 Gself spec_l30Leaf.impl spec_l30Op.impl spec_l30Put.impl spec_l30Take.impl (atT T4 (fun _ => none)) (atT T18 (L18 Gself)) (atT T25 (fun _ => none)) x.1 x.2.1 x.2.2.1 x.2.2.2.1 x.2.2.2.2.1 x.2.2.2.2.2.1 x.2.2.2.2.2.2.1 x.2.2.2.2.2.2.2.1 x.2.2.2.2.2.2.2.2.1 x.2.2.2.2.2.2.2.2.2.1 x.2.2.2.2.2.2.2.2.2.2.1 x.2.2.2.2.2.2.2.2.2.2.2.1 x.2.2.2.2.2.2.2.2.2.2.2.2.1 x.2.2.2.2.2.2.2.2.2.2.2.2.2.1).trans (by simp only [atT_self] <;> rfl))
  exact good_first (hp (atT T4 (L4 Gself)) (atT T18 (fun _ => none)) (atT T25 (fun _ => none))) (runOK_of (hp (atT T4 (L4 Gself)) (atT T18 (fun _ => none)) (atT T25 (fun _ => none))) hnp ⟨cutOK_at g4, cutOK_at (p := p18) (T := T18) (J := fun _ => none) good_none, cutOK_at (p := p25) (T := T25) (J := fun _ => none) good_none, trivial⟩ fin) (fun x => (seg0 Gself spec_l30Leaf.impl spec_l30Op.impl spec_l30Put.impl spec_l30Take.impl (atT T4 (L4 Gself)) (atT T18 (fun _ => none)) (atT T25 (fun _ => none)) x.1 x.2.1 x.2.2.1 x.2.2.2.1 x.2.2.2.2.1 x.2.2.2.2.2.1).trans (by simp only [atT_self] <;> rfl))
theorem con : Con Tryz.prog 71 2 rs.length 2 pin pout impl := con_lfp (c := c0) Tryz.func71 (by kernel_rfl) (by kernel_rfl) (by kernel_rfl) con_step
end spec_l30Expr

/-! ### loop.example/wholecheck/spec.ReadExpr -/
namespace spec_ReadExpr
noncomputable abbrev c0 : Code := (Tryz.f22.body).getD .skip
noncomputable abbrev pin : Tpl := ⟨[⟨0, false, [.row 500001]⟩, ⟨1, false, [.d .str]⟩], [(500001, .row 9 false .str)]⟩
noncomputable abbrev pout : Tpl := ⟨[⟨0, false, [.row 600001]⟩, ⟨1, false, [.d .bool]⟩, ⟨2, false, [.row 500001]⟩], [(600001, .row 52 true (.prod (.int .i64) (.prod (.int .i64) (.prod (.int .i64) (.last (.int .i64)))))), (500001, .row 9 false .str)]⟩
noncomputable abbrev p3 : Tpl := ⟨[⟨0, false, [.row 500001]⟩, ⟨1, false, [.d .str]⟩], [(500001, .row 9 false .str)]⟩
noncomputable def T3 : List Item := (find 3 c0 []).getD []
noncomputable abbrev PI := (List UInt8) × (List (List UInt8)) × Unit
noncomputable abbrev PO := Bool × (List (Int × Int × Int × Int)) × (List (List UInt8)) × Unit
noncomputable abbrev P3 := (List UInt8) × (List (List UInt8)) × Unit
noncomputable abbrev rs : List ResultVar := [.tmp 4, .tmp 5]
noncomputable def F0 (J3 : P3 → Option PO) (Gspec_NamesValid : spec_NamesValid.PI → Option spec_NamesValid.PO) (x1 : List UInt8) (s1 : List (List UInt8)) : Option PO :=
  Option.bind (Gspec_NamesValid (s1, ())) fun y0 =>
  bif !y0.1 then
    some (false, [], s1, ())
  else
    bif decide ((x1.length : Int) > 4000) then
      some (false, [], s1, ())
    else
      J3 (x1, s1, ())
noncomputable def F3 (Gspec_TermsValid : spec_TermsValid.PI → Option spec_TermsValid.PO) (Gspec_l30Expr : spec_l30Expr.PI → Option spec_l30Expr.PO) (t1 : List UInt8) (s1 : List (List UInt8)) : Option PO :=
  Option.bind (Gspec_l30Expr (t1, 0, true, 40, s1, [], ())) fun y1 =>
  bif !y1.2.2.1 then
    some (false, [], y1.2.2.2.2.1, ())
  else
    bif y1.2.1 != (t1.length : Int) then
      some (false, [], y1.2.2.2.2.1, ())
    else
      bif y1.2.2.2.1 != wI ((y1.2.2.2.2.2.1.length : Int) - 1) then
        some (false, [], y1.2.2.2.2.1, ())
      else
        Option.bind (Gspec_TermsValid (y1.2.2.2.2.2.1, (y1.2.2.2.2.1.length : Int), ())) fun y2 =>
        bif !y2.1 then
          some (false, [], y1.2.2.2.2.1, ())
        else
          some (true, y1.2.2.2.2.2.1, y1.2.2.2.2.1, ())
noncomputable def hd {R : Type} (Gspec_NamesValid : spec_NamesValid.PI → Option spec_NamesValid.PO) (Gspec_TermsValid : spec_TermsValid.PI → Option spec_TermsValid.PO) (Gspec_l30Expr : spec_l30Expr.PI → Option spec_l30Expr.PO) : Hand R := (handAt 71 [20] false ⟨2, 2, 2, spec_l30Expr.pin, spec_l30Expr.pout, Gspec_l30Expr⟩ (handAt 55 [46] true ⟨2, 1, 2, spec_TermsValid.pin, spec_TermsValid.pout, Gspec_TermsValid⟩ (handAt 17 [9] true ⟨1, 1, 1, spec_NamesValid.pin, spec_NamesValid.pout, Gspec_NamesValid⟩ handNil)))
noncomputable def pg (Gspec_NamesValid : spec_NamesValid.PI → Option spec_NamesValid.PO) (Gspec_TermsValid : spec_TermsValid.PI → Option spec_TermsValid.PO) (Gspec_l30Expr : spec_l30Expr.PI → Option spec_l30Expr.PO) (J3 : List Item → P3 → Option PO) : Prog PO := { nt := 51, np := 2, tb := tabOf tab, hd := hd Gspec_NamesValid Gspec_TermsValid Gspec_l30Expr, cuts := cutsOf [(3, cut p3 J3)], fin := endOf (tabOf tab) rs 2 pout }
noncomputable def q : FuncId → Bool := fun f => hasId [17, 55] f
theorem seg0 (Gspec_NamesValid : spec_NamesValid.PI → Option spec_NamesValid.PO) (Gspec_TermsValid : spec_TermsValid.PI → Option spec_TermsValid.PO) (Gspec_l30Expr : spec_l30Expr.PI → Option spec_l30Expr.PO) (J3 : List Item → P3 → Option PO) (x1 : List UInt8) (s1 : List (List UInt8)) : arun (pg Gspec_NamesValid Gspec_TermsValid Gspec_l30Expr J3) 5000 [.code c0] (mk pin (x1, s1, ())) = F0 (J3 T3) Gspec_NamesValid x1 s1 := by kernel_rfl
theorem seg3 (Gspec_NamesValid : spec_NamesValid.PI → Option spec_NamesValid.PO) (Gspec_TermsValid : spec_TermsValid.PI → Option spec_TermsValid.PO) (Gspec_l30Expr : spec_l30Expr.PI → Option spec_l30Expr.PO) (J3 : List Item → P3 → Option PO) (t1 : List UInt8) (s1 : List (List UInt8)) : arun1 (pg Gspec_NamesValid Gspec_TermsValid Gspec_l30Expr J3) 5000 T3 (mk p3 (t1, s1, ())) = F3 Gspec_TermsValid Gspec_l30Expr t1 s1 := by kernel_rfl
noncomputable def L3 : P3 → Option PO := fun x => F3 spec_TermsValid.impl spec_l30Expr.impl x.1 x.2.1
noncomputable def impl : PI → Option PO := fun x => F0 L3 spec_NamesValid.impl x.1 x.2.1
theorem L3_eq (t1 : List UInt8) (s1 : List (List UInt8)) : L3 (t1, s1, ()) = F3 spec_TermsValid.impl spec_l30Expr.impl t1 s1 := rfl
theorem impl_eq (x1 : List UInt8) (s1 : List (List UInt8)) : impl (x1, s1, ()) = F0 L3 spec_NamesValid.impl x1 s1 := rfl
theorem con : Con Tryz.prog 22 2 rs.length 2 pin pout impl := by
  refine con_of_run' (nt := 51) (c := c0) tabGood Tryz.func22 (by kernel_rfl) (by kernel_rfl) (by kernel_rfl) (by kernel_rfl) (by kernel_rfl) (by kernel_rfl) (by kernel_rfl) ?_
  intro w0 O y hnp
  generalize hPost : (fun (a' : Act) (w' : World) => ∃ μ' S' st', Rel 51 w0 O μ' S' st' a' w' ∧ endOf (tabOf tab) rs 2 pout st' = some y) = Post
  have fin : ∀ (μ : Id → Option Value) (S : Nat → Prop) (st : St) (a : Act) (w : World), Rel 51 w0 O μ S st a w → endOf (tabOf tab) rs 2 pout st = some y → Post a w := fun μ S st a w h he => by rw [← hPost]; exact ⟨μ, S, st, h, he⟩
  have hp : ∀ (J3 : List Item → P3 → Option PO), Parts Tryz.prog 22 (pg spec_NamesValid.impl spec_TermsValid.impl spec_l30Expr.impl J3) [(3, cut p3 J3)] := fun J3 => ⟨tab_ok tabGood rfl, (handAt_ok spec_l30Expr.con (handAt_ok spec_TermsValid.con (handAt_ok spec_NamesValid.con handNil_ok))), rfl⟩
  have g3 : Good Tryz.prog 51 w0 O Post y T3 p3 L3 := good_part (hp (atT T3 (fun _ => none))) (runOK_of (hp (atT T3 (fun _ => none))) hnp ⟨cutOK_at (p := p3) (T := T3) (J := fun _ => none) good_none, trivial⟩ fin) (fun x => (seg3 spec_NamesValid.impl spec_TermsValid.impl spec_l30Expr.impl (atT T3 (fun _ => none)) x.1 x.2.1))
  exact good_first (hp (atT T3 L3)) (runOK_of (hp (atT T3 L3)) hnp ⟨cutOK_at g3, trivial⟩ fin) (fun x => (seg0 spec_NamesValid.impl spec_TermsValid.impl spec_l30Expr.impl (atT T3 L3) x.1 x.2.1).trans (by simp only [atT_self] <;> rfl))
end spec_ReadExpr

/-! ### loop.example/wholecheck/impl.WriteExpr -/
namespace impl_WriteExpr
noncomputable abbrev c0 : Code := (Tryz.f14.body).getD .skip
noncomputable abbrev pin : Tpl := ⟨[⟨0, false, [.d (.sl .str)]⟩, ⟨1, false, [.d (.sl (.prod (.int .i64) (.prod (.int .i64) (.prod (.int .i64) (.last (.int .i64))))))]⟩], []⟩
noncomputable abbrev pout : Tpl := ⟨[⟨0, false, [.d .str]⟩], []⟩
noncomputable abbrev p3 : Tpl := ⟨[⟨0, false, [.d (.sl .str)]⟩, ⟨1, false, [.d (.sl (.prod (.int .i64) (.prod (.int .i64) (.prod (.int .i64) (.last (.int .i64))))))]⟩], []⟩
noncomputable def T3 : List Item := (find 3 c0 []).getD []
noncomputable abbrev p5 : Tpl := ⟨[⟨0, false, [.d (.sl .str)]⟩, ⟨5, false, [.row 3000000]⟩, ⟨21, false, [.d (.sl (.prod (.int .i64) (.prod (.int .i64) (.prod (.int .i64) (.last (.int .i64))))))]⟩, ⟨22, false, [.d (.int .i64)]⟩, ⟨23, false, [.d (.int .i64)]⟩], [(3000000, .row 9 false .str)]⟩
noncomputable def T5 : List Item := (find 5 c0 []).getD []
noncomputable abbrev p8 : Tpl := ⟨[⟨0, false, [.d (.sl .str)]⟩, ⟨5, false, [.row 3000000]⟩, ⟨6, false, [.d (.int .i64)]⟩, ⟨7, false, [.ptr 3000001 0]⟩, ⟨21, false, [.d (.sl (.prod (.int .i64) (.prod (.int .i64) (.prod (.int .i64) (.last (.int .i64))))))]⟩, ⟨22, false, [.d (.int .i64)]⟩, ⟨23, false, [.d (.int .i64)]⟩], [(3000000, .row 9 false .str), (3000001, .box [.d (.int .i64), .d (.int .i64), .d (.int .i64), .d (.int .i64)])]⟩
noncomputable def T8 : List Item := (find 8 c0 []).getD []
noncomputable abbrev PI := (List (List UInt8)) × (List (Int × Int × Int × Int)) × Unit
noncomputable abbrev PO := (List UInt8) × Unit
noncomputable abbrev P3 := (List (List UInt8)) × (List (Int × Int × Int × Int)) × Unit
noncomputable abbrev P5 := (List (List UInt8)) × (List (Int × Int × Int × Int)) × Int × Int × (List (List UInt8)) × Unit
noncomputable abbrev P8 := (List (List UInt8)) × Int × (List (Int × Int × Int × Int)) × Int × Int × (List (List UInt8)) × Int × Int × Int × Int × Unit
noncomputable abbrev rs : List ResultVar := [.tmp 4]
noncomputable def F0 (J3 : P3 → Option PO) (Gimpl_NamesValid : impl_NamesValid.PI → Option impl_NamesValid.PO) (Gimpl_TermsValid : impl_TermsValid.PI → Option impl_TermsValid.PO) (x0 : List (List UInt8)) (x1 : List (Int × Int × Int × Int)) : Option PO :=
  Option.bind (Gimpl_NamesValid (x0, ())) fun y0 =>
  bif !y0.1 then
    some ([], ())
  else
    Option.bind (Gimpl_TermsValid (x1, (x0.length : Int), ())) fun y1 =>
    bif !y1.1 then
      some ([], ())
    else
      J3 (x0, x1, ())
noncomputable def F3 (J5 : P5 → Option PO) (t0 : List (List UInt8)) (t1 : List (Int × Int × Int × Int)) : Option PO :=
  bif decide (0 ≤ (t1.length : Int)) && decide ((t1.length : Int) ≤ (t1.length : Int)) && decide ((t1.length : Int) * 16 ≤ 140737488355328) then
    J5 (t0, t1, (t1.length : Int), 0, (List.replicate (t1.length : Int).toNat [] : List (List UInt8)), ())
  else
    none
noncomputable def F5 (J5 : P5 → Option PO) (J8 : P8 → Option PO) (Glib_Itoa : lib_Itoa.PI → Option lib_Itoa.PO) (t0 : List (List UInt8)) (t21 : List (Int × Int × Int × Int)) (t22 : Int) (t23 : Int) (r0 : List (List UInt8)) : Option PO :=
  bif decide (t23 < t22) then
    bif inb t23 t21.length then
      bif (t21.getD t23.toNat (0, 0, 0, 0)).1 == 0 then
        Option.bind (Glib_Itoa ((t21.getD t23.toNat (0, 0, 0, 0)).2.1, ())) fun y2 =>
        bif inb t23 r0.length then
          bif inb t23 (r0.set t23.toNat y2.1).length then
            bif decide ((((r0.set t23.toNat y2.1).getD t23.toNat []).length : Int) > 4000) then
              some ([], ())
            else
              J5 (t0, t21, t22, wI (t23 + 1), r0.set t23.toNat y2.1, ())
          else
            none
        else
          none
      else
        bif (t21.getD t23.toNat (0, 0, 0, 0)).1 == 1 then
          bif inb (t21.getD t23.toNat (0, 0, 0, 0)).2.1 t0.length then
            bif inb t23 r0.length then
              bif inb t23 (r0.set t23.toNat (t0.getD (t21.getD t23.toNat (0, 0, 0, 0)).2.1.toNat [])).length then
                bif decide ((((r0.set t23.toNat (t0.getD (t21.getD t23.toNat (0, 0, 0, 0)).2.1.toNat [])).getD t23.toNat []).length : Int) > 4000) then
                  some ([], ())
                else
                  J5 (t0, t21, t22, wI (t23 + 1), r0.set t23.toNat (t0.getD (t21.getD t23.toNat (0, 0, 0, 0)).2.1.toNat []), ())
              else
                none
            else
              none
          else
            none
        else
          bif (t21.getD t23.toNat (0, 0, 0, 0)).1 == 7 then
            bif inb (t21.getD t23.toNat (0, 0, 0, 0)).2.2.1 r0.length then
              bif decide (([33] : List UInt8).length + (r0.getD (t21.getD t23.toNat (0, 0, 0, 0)).2.2.1.toNat []).length ≤ 140737488355328) then
                bif inb t23 r0.length then
                  bif inb t23 (r0.set t23.toNat (([33] : List UInt8) ++ (r0.getD (t21.getD t23.toNat (0, 0, 0, 0)).2.2.1.toNat []))).length then
                    bif decide ((((r0.set t23.toNat (([33] : List UInt8) ++ (r0.getD (t21.getD t23.toNat (0, 0, 0, 0)).2.2.1.toNat []))).getD t23.toNat []).length : Int) > 4000) then
                      some ([], ())
                    else
                      J5 (t0, t21, t22, wI (t23 + 1), r0.set t23.toNat (([33] : List UInt8) ++ (r0.getD (t21.getD t23.toNat (0, 0, 0, 0)).2.2.1.toNat [])), ())
                  else
                    none
                else
                  none
              else
                none
            else
              none
          else
            J8 (t0, t23, t21, t22, t23, r0, (t21.getD t23.toNat (0, 0, 0, 0)).1, (t21.getD t23.toNat (0, 0, 0, 0)).2.1, (t21.getD t23.toNat (0, 0, 0, 0)).2.2.1, (t21.getD t23.toNat (0, 0, 0, 0)).2.2.2, ())
    else
      none
  else
    bif inb (wI ((r0.length : Int) - 1)) r0.length then
      some (r0.getD (wI ((r0.length : Int) - 1)).toNat [], ())
    else
      none
noncomputable def F8 (J5 : P5 → Option PO) (t0 : List (List UInt8)) (t6 : Int) (t21 : List (Int × Int × Int × Int)) (t22 : Int) (t23 : Int) (r0 : List (List UInt8)) (b1_0 : Int) (b1_1 : Int) (b1_2 : Int) (b1_3 : Int) : Option PO :=
  bif inb b1_2 r0.length then
    bif decide (0 ≤ b1_0) && decide (b1_0 ≤ wI (b1_0 + 1)) && decide (wI (b1_0 + 1) ≤ (([32, 32, 43, 45, 42, 60, 61, 33, 38, 124] : List UInt8).length : Int)) then
      bif inb b1_3 r0.length then
        bif decide (([40] : List UInt8).length + (r0.getD b1_2.toNat []).length ≤ 140737488355328) then
          bif decide ((([40] : List UInt8) ++ (r0.getD b1_2.toNat [])).length + ([32] : List UInt8).length ≤ 140737488355328) then
            bif decide (((([40] : List UInt8) ++ (r0.getD b1_2.toNat [])) ++ ([32] : List UInt8)).length + ((([32, 32, 43, 45, 42, 60, 61, 33, 38, 124] : List UInt8).take (wI (b1_0 + 1)).toNat).drop b1_0.toNat).length ≤ 140737488355328) then
              bif decide ((((([40] : List UInt8) ++ (r0.getD b1_2.toNat [])) ++ ([32] : List UInt8)) ++ ((([32, 32, 43, 45, 42, 60, 61, 33, 38, 124] : List UInt8).take (wI (b1_0 + 1)).toNat).drop b1_0.toNat)).length + ([32] : List UInt8).length ≤ 140737488355328) then
                bif decide (((((([40] : List UInt8) ++ (r0.getD b1_2.toNat [])) ++ ([32] : List UInt8)) ++ ((([32, 32, 43, 45, 42, 60, 61, 33, 38, 124] : List UInt8).take (wI (b1_0 + 1)).toNat).drop b1_0.toNat)) ++ ([32] : List UInt8)).length + (r0.getD b1_3.toNat []).length ≤ 140737488355328) then
                  bif decide ((((((([40] : List UInt8) ++ (r0.getD b1_2.toNat [])) ++ ([32] : List UInt8)) ++ ((([32, 32, 43, 45, 42, 60, 61, 33, 38, 124] : List UInt8).take (wI (b1_0 + 1)).toNat).drop b1_0.toNat)) ++ ([32] : List UInt8)) ++ (r0.getD b1_3.toNat [])).length + ([41] : List UInt8).length ≤ 140737488355328) then
                    bif inb t6 r0.length then
                      bif inb t6 (r0.set t6.toNat ((((((([40] : List UInt8) ++ (r0.getD b1_2.toNat [])) ++ ([32] : List UInt8)) ++ ((([32, 32, 43, 45, 42, 60, 61, 33, 38, 124] : List UInt8).take (wI (b1_0 + 1)).toNat).drop b1_0.toNat)) ++ ([32] : List UInt8)) ++ (r0.getD b1_3.toNat [])) ++ ([41] : List UInt8))).length then
                        bif decide ((((r0.set t6.toNat ((((((([40] : List UInt8) ++ (r0.getD b1_2.toNat [])) ++ ([32] : List UInt8)) ++ ((([32, 32, 43, 45, 42, 60, 61, 33, 38, 124] : List UInt8).take (wI (b1_0 + 1)).toNat).drop b1_0.toNat)) ++ ([32] : List UInt8)) ++ (r0.getD b1_3.toNat [])) ++ ([41] : List UInt8))).getD t6.toNat []).length : Int) > 4000) then
                          some ([], ())
                        else
                          J5 (t0, t21, t22, wI (t23 + 1), r0.set t6.toNat ((((((([40] : List UInt8) ++ (r0.getD b1_2.toNat [])) ++ ([32] : List UInt8)) ++ ((([32, 32, 43, 45, 42, 60, 61, 33, 38, 124] : List UInt8).take (wI (b1_0 + 1)).toNat).drop b1_0.toNat)) ++ ([32] : List UInt8)) ++ (r0.getD b1_3.toNat [])) ++ ([41] : List UInt8)), ())
                      else
                        none
                    else
                      none
                  else
                    none
                else
                  none
              else
                none
            else
              none
          else
            none
        else
          none
      else
        none
    else
      none
  else
    none
noncomputable def hd {R : Type} (Gimpl_NamesValid : impl_NamesValid.PI → Option impl_NamesValid.PO) (Gimpl_TermsValid : impl_TermsValid.PI → Option impl_TermsValid.PO) (Glib_Itoa : lib_Itoa.PI → Option lib_Itoa.PO) : Hand R := (handAt 45 [61] true ⟨1, 1, 0, lib_Itoa.pin, lib_Itoa.pout, Glib_Itoa⟩ (handAt 23 [15] true ⟨2, 1, 2, impl_TermsValid.pin, impl_TermsValid.pout, Gimpl_TermsValid⟩ (handAt 16 [9] true ⟨1, 1, 1, impl_NamesValid.pin, impl_NamesValid.pout, Gimpl_NamesValid⟩ handNil)))
noncomputable def pg (Gimpl_NamesValid : impl_NamesValid.PI → Option impl_NamesValid.PO) (Gimpl_TermsValid : impl_TermsValid.PI → Option impl_TermsValid.PO) (Glib_Itoa : lib_Itoa.PI → Option lib_Itoa.PO) (J3 : List Item → P3 → Option PO) (J5 : List Item → P5 → Option PO) (J8 : List Item → P8 → Option PO) : Prog PO := { nt := 97, np := 2, tb := tabOf tab, hd := hd Gimpl_NamesValid Gimpl_TermsValid Glib_Itoa, cuts := cutsOf [(3, cut p3 J3), (5, cut p5 J5), (8, cut p8 J8)], fin := endOf (tabOf tab) rs 2 pout }
noncomputable def q : FuncId → Bool := fun f => hasId [16, 23, 45] f
theorem seg0 (Gimpl_NamesValid : impl_NamesValid.PI → Option impl_NamesValid.PO) (Gimpl_TermsValid : impl_TermsValid.PI → Option impl_TermsValid.PO) (Glib_Itoa : lib_Itoa.PI → Option lib_Itoa.PO) (J3 : List Item → P3 → Option PO) (J5 : List Item → P5 → Option PO) (J8 : List Item → P8 → Option PO) (x0 : List (List UInt8)) (x1 : List (Int × Int × Int × Int)) : arun (pg Gimpl_NamesValid Gimpl_TermsValid Glib_Itoa J3 J5 J8) 5000 [.code c0] (mk pin (x0, x1, ())) = F0 (J3 T3) Gimpl_NamesValid Gimpl_TermsValid x0 x1 := by kernel_rfl
theorem seg3 (Gimpl_NamesValid : impl_NamesValid.PI → Option impl_NamesValid.PO) (Gimpl_TermsValid : impl_TermsValid.PI → Option impl_TermsValid.PO) (Glib_Itoa : lib_Itoa.PI → Option lib_Itoa.PO) (J3 : List Item → P3 → Option PO) (J5 : List Item → P5 → Option PO) (J8 : List Item → P8 → Option PO) (t0 : List (List UInt8)) (t1 : List (Int × Int × Int × Int)) : arun1 (pg Gimpl_NamesValid Gimpl_TermsValid Glib_Itoa J3 J5 J8) 5000 T3 (mk p3 (t0, t1, ())) = F3 (J5 T5) t0 t1 := by kernel_rfl
theorem seg5 (Gimpl_NamesValid : impl_NamesValid.PI → Option impl_NamesValid.PO) (Gimpl_TermsValid : impl_TermsValid.PI → Option impl_TermsValid.PO) (Glib_Itoa : lib_Itoa.PI → Option lib_Itoa.PO) (J3 : List Item → P3 → Option PO) (J5 : List Item → P5 → Option PO) (J8 : List Item → P8 → Option PO) (t0 : List (List UInt8)) (t21 : List (Int × Int × Int × Int)) (t22 : Int) (t23 : Int) (r0 : List (List UInt8)) : arun1 (pg Gimpl_NamesValid Gimpl_TermsValid Glib_Itoa J3 J5 J8) 5000 T5 (mk p5 (t0, t21, t22, t23, r0, ())) = F5 (J5 T5) (J8 T8) Glib_Itoa t0 t21 t22 t23 r0 := by kernel_rfl
theorem seg8 (Gimpl_NamesValid : impl_NamesValid.PI → Option impl_NamesValid.PO) (Gimpl_TermsValid : impl_TermsValid.PI → Option impl_TermsValid.PO) (Glib_Itoa : lib_Itoa.PI → Option lib_Itoa.PO) (J3 : List Item → P3 → Option PO) (J5 : List Item → P5 → Option PO) (J8 : List Item → P8 → Option PO) (t0 : List (List UInt8)) (t6 : Int) (t21 : List (Int × Int × Int × Int)) (t22 : Int) (t23 : Int) (r0 : List (List UInt8)) (b1_0 : Int) (b1_1 : Int) (b1_2 : Int) (b1_3 : Int) : arunQ (pg Gimpl_NamesValid Gimpl_TermsValid Glib_Itoa J3 J5 J8) q [3000000] [6, 21] 5000 T8 (mk p8 (t0, t6, t21, t22, t23, r0, b1_0, b1_1, b1_2, b1_3, ())) = List.replicate (arunQ (pg Gimpl_NamesValid Gimpl_TermsValid Glib_Itoa J3 J5 J8) q [3000000] [6, 21] 5000 T8 (mk p8 (t0, t6, t21, t22, t23, r0, b1_0, b1_1, b1_2, b1_3, ()))).length (F8 (J5 T5) t0 t6 t21 t22 t23 r0 b1_0 b1_1 b1_2 b1_3) := by kernel_rfl
noncomputable def L8 (J5 : P5 → Option PO) : P8 → Option PO := fun x => F8 J5 x.1 x.2.1 x.2.2.1 x.2.2.2.1 x.2.2.2.2.1 x.2.2.2.2.2.1 x.2.2.2.2.2.2.1 x.2.2.2.2.2.2.2.1 x.2.2.2.2.2.2.2.2.1 x.2.2.2.2.2.2.2.2.2.1
noncomputable def L5 : P5 → Option PO := lfp fun J5 x => F5 J5 (L8 J5) lib_Itoa.impl x.1 x.2.1 x.2.2.1 x.2.2.2.1 x.2.2.2.2.1
noncomputable def L3 : P3 → Option PO := fun x => F3 L5 x.1 x.2.1
noncomputable def impl : PI → Option PO := fun x => F0 L3 impl_NamesValid.impl impl_TermsValid.impl x.1 x.2.1
theorem F8_le {J5 J5' : P5 → Option PO} (h5 : OLe J5 J5') (t0 : List (List UInt8)) (t6 : Int) (t21 : List (Int × Int × Int × Int)) (t22 : Int) (t23 : Int) (r0 : List (List UInt8)) (b1_0 : Int) (b1_1 : Int) (b1_2 : Int) (b1_3 : Int) : OptLe (F8 J5 t0 t6 t21 t22 t23 r0 b1_0 b1_1 b1_2 b1_3) (F8 J5' t0 t6 t21 t22 t23 r0 b1_0 b1_1 b1_2 b1_3) := by unfold F8; exact .cond (.cond (.cond (.cond (.cond (.cond (.cond (.cond (.cond (.cond (.cond (.cond (.refl _) (.of h5 _)) (.refl _)) (.refl _)) (.refl _)) (.refl _)) (.refl _)) (.refl _)) (.refl _)) (.refl _)) (.refl _)) (.refl _)) (.refl _)
theorem F5_le {J5 J5' : P5 → Option PO} (h5 : OLe J5 J5') {J8 J8' : P8 → Option PO} (h8 : OLe J8 J8') {Glib_Itoa : lib_Itoa.PI → Option lib_Itoa.PO} (t0 : List (List UInt8)) (t21 : List (Int × Int × Int × Int)) (t22 : Int) (t23 : Int) (r0 : List (List UInt8)) : OptLe (F5 J5 J8 Glib_Itoa t0 t21 t22 t23 r0) (F5 J5' J8' Glib_Itoa t0 t21 t22 t23 r0) := by unfold F5; exact .cond (.cond (.cond (.bind (.refl _) fun _ => .cond (.cond (.cond (.refl _) (.of h5 _)) (.refl _)) (.refl _)) (.cond (.cond (.cond (.cond (.cond (.refl _) (.of h5 _)) (.refl _)) (.refl _)) (.refl _)) (.cond (.cond (.cond (.cond (.cond (.cond (.refl _) (.of h5 _)) (.refl _)) (.refl _)) (.refl _)) (.refl _)) (.of h8 _)))) (.refl _)) (.refl _)
theorem L8_eq (J5 : P5 → Option PO) (t0 : List (List UInt8)) (t6 : Int) (t21 : List (Int × Int × Int × Int)) (t22 : Int) (t23 : Int) (r0 : List (List UInt8)) (b1_0 : Int) (b1_1 : Int) (b1_2 : Int) (b1_3 : Int) : L8 J5 (t0, t6, t21, t22, t23, r0, b1_0, b1_1, b1_2, b1_3, ()) = F8 J5 t0 t6 t21 t22 t23 r0 b1_0 b1_1 b1_2 b1_3 := rfl
theorem L8_le {J5 J5' : P5 → Option PO} (h5 : OLe J5 J5') : OLe (L8 J5) (L8 J5') := fun x => F8_le h5 x.1 x.2.1 x.2.2.1 x.2.2.2.1 x.2.2.2.2.1 x.2.2.2.2.2.1 x.2.2.2.2.2.2.1 x.2.2.2.2.2.2.2.1 x.2.2.2.2.2.2.2.2.1 x.2.2.2.2.2.2.2.2.2.1
theorem L5_mono : OMono fun J5 (x : P5) => F5 J5 (L8 J5) lib_Itoa.impl x.1 x.2.1 x.2.2.1 x.2.2.2.1 x.2.2.2.2.1 := fun J J' h5 x => F5_le h5 (L8_le h5) x.1 x.2.1 x.2.2.1 x.2.2.2.1 x.2.2.2.2.1
theorem L5_eq (t0 : List (List UInt8)) (t21 : List (Int × Int × Int × Int)) (t22 : Int) (t23 : Int) (r0 : List (List UInt8)) : L5 (t0, t21, t22, t23, r0, ()) = F5 (L5) (L8 (L5)) lib_Itoa.impl t0 t21 t22 t23 r0 := congrFun (lfp_eq (L5_mono)) _
theorem L3_eq (t0 : List (List UInt8)) (t1 : List (Int × Int × Int × Int)) : L3 (t0, t1, ()) = F3 (L5) t0 t1 := rfl
theorem impl_eq (x0 : List (List UInt8)) (x1 : List (Int × Int × Int × Int)) : impl (x0, x1, ()) = F0 L3 impl_NamesValid.impl impl_TermsValid.impl x0 x1 := rfl
theorem con : Con Tryz.prog 14 2 rs.length 2 pin pout impl := by
  refine con_of_run' (nt := 97) (c := c0) tabGood Tryz.func14 (by kernel_rfl) (by kernel_rfl) (by kernel_rfl) (by kernel_rfl) (by kernel_rfl) (by kernel_rfl) (by kernel_rfl) ?_
  intro w0 O y hnp
  generalize hPost : (fun (a' : Act) (w' : World) => ∃ μ' S' st', Rel 97 w0 O μ' S' st' a' w' ∧ endOf (tabOf tab) rs 2 pout st' = some y) = Post
  have fin : ∀ (μ : Id → Option Value) (S : Nat → Prop) (st : St) (a : Act) (w : World), Rel 97 w0 O μ S st a w → endOf (tabOf tab) rs 2 pout st = some y → Post a w := fun μ S st a w h he => by rw [← hPost]; exact ⟨μ, S, st, h, he⟩
  have hp : ∀ (J3 : List Item → P3 → Option PO), ∀ (J5 : List Item → P5 → Option PO), ∀ (J8 : List Item → P8 → Option PO), Parts Tryz.prog 14 (pg impl_NamesValid.impl impl_TermsValid.impl lib_Itoa.impl J3 J5 J8) [(3, cut p3 J3), (5, cut p5 J5), (8, cut p8 J8)] := fun J3 J5 J8 => ⟨tab_ok tabGood rfl, (handAt_ok lib_Itoa.con (handAt_ok impl_TermsValid.con (handAt_ok impl_NamesValid.con handNil_ok))), rfl⟩
  have g8 : ∀ (J5 : P5 → Option PO), Good Tryz.prog 97 w0 O Post y T5 p5 J5 → Good Tryz.prog 97 w0 O Post y T8 p8 (L8 J5) := fun J5 h5 => good_quiet (hs := hd impl_NamesValid.impl impl_TermsValid.impl lib_Itoa.impl) (cv' := hd impl_NamesValid.impl impl_TermsValid.impl lib_Itoa.impl) (Checked.mixed Tryz.checked) (hp (atT T3 (fun _ => none)) (atT T5 J5) (atT T8 (fun _ => none))) (handAt_D lib_Itoa.con (by rfl) rfl (handAt_D impl_TermsValid.con (by rfl) rfl (handAt_D impl_NamesValid.con (by rfl) rfl handNil_D))) (handAt_nat (handAt_nat (handAt_nat handNil_nat))) (handAt_nat (handAt_nat (handAt_nat handNil_nat))) (runOK_of (hp (atT T3 (fun _ => none)) (atT T5 J5) (atT T8 (fun _ => none))) hnp ⟨cutOK_at (p := p3) (T := T3) (J := fun _ => none) good_none, cutOK_at h5, cutOK_at (p := p8) (T := T8) (J := fun _ => none) good_none, trivial⟩ fin) (fun x => all_same ⟨_, (seg8 impl_NamesValid.impl impl_TermsValid.impl lib_Itoa.impl (atT T3 (fun _ => none)) (atT T5 J5) (atT T8 (fun _ => none)) x.1 x.2.1 x.2.2.1 x.2.2.2.1 x.2.2.2.2.1 x.2.2.2.2.2.1 x.2.2.2.2.2.2.1 x.2.2.2.2.2.2.2.1 x.2.2.2.2.2.2.2.2.1 x.2.2.2.2.2.2.2.2.2.1).trans (by simp only [atT_self] <;> rfl)⟩)
  have g5 : Good Tryz.prog 97 w0 O Post y T5 p5 L5 := good_lfp fun J5 h5 => good_part (hp (atT T3 (fun _ => none)) (atT T5 J5) (atT T8 (L8 J5))) (runOK_of (hp (atT T3 (fun _ => none)) (atT T5 J5) (atT T8 (L8 J5))) hnp ⟨cutOK_at (p := p3) (T := T3) (J := fun _ => none) good_none, cutOK_at h5, cutOK_at (g8 J5 h5), trivial⟩ fin) (fun x => (seg5 impl_NamesValid.impl impl_TermsValid.impl lib_Itoa.impl (atT T3 (fun _ => none)) (atT T5 J5) (atT T8 (L8 J5)) x.1 x.2.1 x.2.2.1 x.2.2.2.1 x.2.2.2.2.1).trans (by simp only [atT_self] <;> rfl))
  have g3 : Good Tryz.prog 97 w0 O Post y T3 p3 L3 := good_part (hp (atT T3 (fun _ => none)) (atT T5 L5) (atT T8 (fun _ => none))) (runOK_of (hp (atT T3 (fun _ => none)) (atT T5 L5) (atT T8 (fun _ => none))) hnp ⟨cutOK_at (p := p3) (T := T3) (J := fun _ => none) good_none, cutOK_at g5, cutOK_at (p := p8) (T := T8) (J := fun _ => none) good_none, trivial⟩ fin) (fun x => (seg3 impl_NamesValid.impl impl_TermsValid.impl lib_Itoa.impl (atT T3 (fun _ => none)) (atT T5 L5) (atT T8 (fun _ => none)) x.1 x.2.1).trans (by simp only [atT_self] <;> rfl))
  exact good_first (hp (atT T3 L3) (atT T5 (fun _ => none)) (atT T8 (fun _ => none))) (runOK_of (hp (atT T3 L3) (atT T5 (fun _ => none)) (atT T8 (fun _ => none))) hnp ⟨cutOK_at g3, cutOK_at (p := p5) (T := T5) (J := fun _ => none) good_none, cutOK_at (p := p8) (T := T8) (J := fun _ => none) good_none, trivial⟩ fin) (fun x => (seg0 impl_NamesValid.impl impl_TermsValid.impl lib_Itoa.impl (atT T3 L3) (atT T5 (fun _ => none)) (atT T8 (fun _ => none)) x.1 x.2.1).trans (by simp only [atT_self] <;> rfl))
end impl_WriteExpr

/-! ### loop.example/wholecheck/laws.FnReadExpr -/
namespace laws_FnReadExpr
noncomputable abbrev c0 : Code := (Tryz.f5.body).getD .skip
noncomputable abbrev pin : Tpl := ⟨[⟨0, false, [.d (.sl (.int .u8))]⟩], []⟩
noncomputable abbrev pout : Tpl := ⟨[⟨0, false, [.d .bool]⟩], []⟩
noncomputable abbrev p8 : Tpl := ⟨[⟨3, false, [.row 3000000]⟩, ⟨4, false, [.d .str]⟩, ⟨5, false, [.row 3000001]⟩, ⟨6, false, [.d .bool]⟩], [(3000000, .row 9 false .str), (3000001, .row 52 false (.prod (.int .i64) (.prod (.int .i64) (.prod (.int .i64) (.last (.int .i64))))))]⟩
noncomputable def T8 : List Item := (find 8 c0 []).getD []
noncomputable abbrev PI := (List Int) × Unit
noncomputable abbrev PO := Bool × Unit
noncomputable abbrev P8 := (List UInt8) × Bool × (List (List UInt8)) × (List (Int × Int × Int × Int)) × Unit
noncomputable abbrev rs : List ResultVar := [.tmp 2]
noncomputable def F0 (J8 : P8 → Option PO) (Gimpl_NamesValid : impl_NamesValid.PI → Option impl_NamesValid.PO) (Gimpl_ReadExpr : impl_ReadExpr.PI → Option impl_ReadExpr.PO) (Gspec_DrawReadExpr : spec_DrawReadExpr.PI → Option spec_DrawReadExpr.PO) (Gspec_NamesValid : spec_NamesValid.PI → Option spec_NamesValid.PO) (Gspec_ReadExpr : spec_ReadExpr.PI → Option spec_ReadExpr.PO) (x0 : List Int) : Option PO :=
  bif decide ((x0.length : Int) > 1048576) then
    some (true, ())
  else
    Option.bind (Gspec_DrawReadExpr (x0, ())) fun y0 =>
    Option.bind (Gimpl_ReadExpr (y0.2.1, y0.1, ())) fun y1 =>
    Option.bind (Gspec_ReadExpr (y0.1, y0.2.1, ())) fun y2 =>
    bif !(y1.1 == y2.1) then
      some (false, ())
    else
      bif (y1.2.1.length : Int) != (y2.2.1.length : Int) then
        some (false, ())
      else
        Option.bind (Gimpl_NamesValid (y2.2.2.1, ())) fun y3 =>
        Option.bind (Gspec_NamesValid (y2.2.2.1, ())) fun y4 =>
        bif !(y3.1 == y4.1) then
          some (false, ())
        else
          J8 (y0.1, y1.1, y2.2.2.1, y1.2.1, ())
noncomputable def F8 (Gimpl_TermsValid : impl_TermsValid.PI → Option impl_TermsValid.PO) (Gimpl_WriteExpr : impl_WriteExpr.PI → Option impl_WriteExpr.PO) (t4 : List UInt8) (t6 : Bool) (r0 : List (List UInt8)) (r1 : List (Int × Int × Int × Int)) : Option PO :=
  bif !t6 then
    bif (r1.length : Int) == 0 then
      some (true, ())
    else
      bif t6 then
        Option.bind (Gimpl_WriteExpr (r0, r1, ())) fun y5 =>
        bif y5.1 == t4 then
          Option.bind (Gimpl_TermsValid (r1, (r0.length : Int), ())) fun y6 =>
          some (y6.1, ())
        else
          some (false, ())
      else
        some (false, ())
  else
    bif t6 then
      Option.bind (Gimpl_WriteExpr (r0, r1, ())) fun y7 =>
      bif y7.1 == t4 then
        Option.bind (Gimpl_TermsValid (r1, (r0.length : Int), ())) fun y8 =>
        some (y8.1, ())
      else
        some (false, ())
    else
      some (false, ())
noncomputable def hd {R : Type} (Gimpl_NamesValid : impl_NamesValid.PI → Option impl_NamesValid.PO) (Gimpl_ReadExpr : impl_ReadExpr.PI → Option impl_ReadExpr.PO) (Gimpl_TermsValid : impl_TermsValid.PI → Option impl_TermsValid.PO) (Gimpl_WriteExpr : impl_WriteExpr.PI → Option impl_WriteExpr.PO) (Gspec_DrawReadExpr : spec_DrawReadExpr.PI → Option spec_DrawReadExpr.PO) (Gspec_NamesValid : spec_NamesValid.PI → Option spec_NamesValid.PO) (Gspec_ReadExpr : spec_ReadExpr.PI → Option spec_ReadExpr.PO) : Hand R := (handAt 23 [66] true ⟨2, 1, 2, impl_TermsValid.pin, impl_TermsValid.pout, Gimpl_TermsValid⟩ (handAt 22 [26] true ⟨2, 2, 2, spec_ReadExpr.pin, spec_ReadExpr.pout, Gspec_ReadExpr⟩ (handAt 21 [14] true ⟨1, 2, 1, spec_DrawReadExpr.pin, spec_DrawReadExpr.pout, Gspec_DrawReadExpr⟩ (handAt 18 [20] true ⟨2, 2, 2, impl_ReadExpr.pin, impl_ReadExpr.pout, Gimpl_ReadExpr⟩ (handAt 17 [43] true ⟨1, 1, 1, spec_NamesValid.pin, spec_NamesValid.pout, Gspec_NamesValid⟩ (handAt 16 [41] true ⟨1, 1, 1, impl_NamesValid.pin, impl_NamesValid.pout, Gimpl_NamesValid⟩ (handAt 14 [58] true ⟨2, 1, 2, impl_WriteExpr.pin, impl_WriteExpr.pout, Gimpl_WriteExpr⟩ handNil)))))))
noncomputable def pg (Gimpl_NamesValid : impl_NamesValid.PI → Option impl_NamesValid.PO) (Gimpl_ReadExpr : impl_ReadExpr.PI → Option impl_ReadExpr.PO) (Gimpl_TermsValid : impl_TermsValid.PI → Option impl_TermsValid.PO) (Gimpl_WriteExpr : impl_WriteExpr.PI → Option impl_WriteExpr.PO) (Gspec_DrawReadExpr : spec_DrawReadExpr.PI → Option spec_DrawReadExpr.PO) (Gspec_NamesValid : spec_NamesValid.PI → Option spec_NamesValid.PO) (Gspec_ReadExpr : spec_ReadExpr.PI → Option spec_ReadExpr.PO) (J8 : List Item → P8 → Option PO) : Prog PO := { nt := 69, np := 1, tb := tabOf tab, hd := hd Gimpl_NamesValid Gimpl_ReadExpr Gimpl_TermsValid Gimpl_WriteExpr Gspec_DrawReadExpr Gspec_NamesValid Gspec_ReadExpr, cuts := cutsOf [(8, cut p8 J8)], fin := endOf (tabOf tab) rs 1 pout }
noncomputable def q : FuncId → Bool := fun f => hasId [14, 16, 17, 23] f
theorem seg0 (Gimpl_NamesValid : impl_NamesValid.PI → Option impl_NamesValid.PO) (Gimpl_ReadExpr : impl_ReadExpr.PI → Option impl_ReadExpr.PO) (Gimpl_TermsValid : impl_TermsValid.PI → Option impl_TermsValid.PO) (Gimpl_WriteExpr : impl_WriteExpr.PI → Option impl_WriteExpr.PO) (Gspec_DrawReadExpr : spec_DrawReadExpr.PI → Option spec_DrawReadExpr.PO) (Gspec_NamesValid : spec_NamesValid.PI → Option spec_NamesValid.PO) (Gspec_ReadExpr : spec_ReadExpr.PI → Option spec_ReadExpr.PO) (J8 : List Item → P8 → Option PO) (x0 : List Int) : arun (pg Gimpl_NamesValid Gimpl_ReadExpr Gimpl_TermsValid Gimpl_WriteExpr Gspec_DrawReadExpr Gspec_NamesValid Gspec_ReadExpr J8) 5000 [.code c0] (mk pin (x0, ())) = F0 (J8 T8) Gimpl_NamesValid Gimpl_ReadExpr Gspec_DrawReadExpr Gspec_NamesValid Gspec_ReadExpr x0 := by kernel_rfl
theorem seg8 (Gimpl_NamesValid : impl_NamesValid.PI → Option impl_NamesValid.PO) (Gimpl_ReadExpr : impl_ReadExpr.PI → Option impl_ReadExpr.PO) (Gimpl_TermsValid : impl_TermsValid.PI → Option impl_TermsValid.PO) (Gimpl_WriteExpr : impl_WriteExpr.PI → Option impl_WriteExpr.PO) (Gspec_DrawReadExpr : spec_DrawReadExpr.PI → Option spec_DrawReadExpr.PO) (Gspec_NamesValid : spec_NamesValid.PI → Option spec_NamesValid.PO) (Gspec_ReadExpr : spec_ReadExpr.PI → Option spec_ReadExpr.PO) (J8 : List Item → P8 → Option PO) (t4 : List UInt8) (t6 : Bool) (r0 : List (List UInt8)) (r1 : List (Int × Int × Int × Int)) : arun1 (pg Gimpl_NamesValid Gimpl_ReadExpr Gimpl_TermsValid Gimpl_WriteExpr Gspec_DrawReadExpr Gspec_NamesValid Gspec_ReadExpr J8) 5000 T8 (mk p8 (t4, t6, r0, r1, ())) = F8 Gimpl_TermsValid Gimpl_WriteExpr t4 t6 r0 r1 := by kernel_rfl
noncomputable def L8 : P8 → Option PO := fun x => F8 impl_TermsValid.impl impl_WriteExpr.impl x.1 x.2.1 x.2.2.1 x.2.2.2.1
noncomputable def impl : PI → Option PO := fun x => F0 L8 impl_NamesValid.impl impl_ReadExpr.impl spec_DrawReadExpr.impl spec_NamesValid.impl spec_ReadExpr.impl x.1
theorem L8_eq (t4 : List UInt8) (t6 : Bool) (r0 : List (List UInt8)) (r1 : List (Int × Int × Int × Int)) : L8 (t4, t6, r0, r1, ()) = F8 impl_TermsValid.impl impl_WriteExpr.impl t4 t6 r0 r1 := rfl
theorem impl_eq (x0 : List Int) : impl (x0, ()) = F0 L8 impl_NamesValid.impl impl_ReadExpr.impl spec_DrawReadExpr.impl spec_NamesValid.impl spec_ReadExpr.impl x0 := rfl
theorem con : Con Tryz.prog 5 1 rs.length 1 pin pout impl := by
  refine con_of_run' (nt := 69) (c := c0) tabGood Tryz.func5 (by kernel_rfl) (by kernel_rfl) (by kernel_rfl) (by kernel_rfl) (by kernel_rfl) (by kernel_rfl) (by kernel_rfl) ?_
  intro w0 O y hnp
  generalize hPost : (fun (a' : Act) (w' : World) => ∃ μ' S' st', Rel 69 w0 O μ' S' st' a' w' ∧ endOf (tabOf tab) rs 1 pout st' = some y) = Post
  have fin : ∀ (μ : Id → Option Value) (S : Nat → Prop) (st : St) (a : Act) (w : World), Rel 69 w0 O μ S st a w → endOf (tabOf tab) rs 1 pout st = some y → Post a w := fun μ S st a w h he => by rw [← hPost]; exact ⟨μ, S, st, h, he⟩
  have hp : ∀ (J8 : List Item → P8 → Option PO), Parts Tryz.prog 5 (pg impl_NamesValid.impl impl_ReadExpr.impl impl_TermsValid.impl impl_WriteExpr.impl spec_DrawReadExpr.impl spec_NamesValid.impl spec_ReadExpr.impl J8) [(8, cut p8 J8)] := fun J8 => ⟨tab_ok tabGood rfl, (handAt_ok impl_TermsValid.con (handAt_ok spec_ReadExpr.con (handAt_ok spec_DrawReadExpr.con (handAt_ok impl_ReadExpr.con (handAt_ok spec_NamesValid.con (handAt_ok impl_NamesValid.con (handAt_ok impl_WriteExpr.con handNil_ok))))))), rfl⟩
  have g8 : Good Tryz.prog 69 w0 O Post y T8 p8 L8 := good_part (hp (atT T8 (fun _ => none))) (runOK_of (hp (atT T8 (fun _ => none))) hnp ⟨cutOK_at (p := p8) (T := T8) (J := fun _ => none) good_none, trivial⟩ fin) (fun x => (seg8 impl_NamesValid.impl impl_ReadExpr.impl impl_TermsValid.impl impl_WriteExpr.impl spec_DrawReadExpr.impl spec_NamesValid.impl spec_ReadExpr.impl (atT T8 (fun _ => none)) x.1 x.2.1 x.2.2.1 x.2.2.2.1))
  exact good_first (hp (atT T8 L8)) (runOK_of (hp (atT T8 L8)) hnp ⟨cutOK_at g8, trivial⟩ fin) (fun x => (seg0 impl_NamesValid.impl impl_ReadExpr.impl impl_TermsValid.impl impl_WriteExpr.impl spec_DrawReadExpr.impl spec_NamesValid.impl spec_ReadExpr.impl (atT T8 L8) x.1).trans (by simp only [atT_self] <;> rfl))
end laws_FnReadExpr
end Go.Proofs.YtfjnckjkpkhbdaaGreatDoorB
