/- PRINTED BY A PROGRAM OF THIS CLAIM'S AUTHOR (wip/gen): functions of the given program, their parts, their contracts. -/
import Derived.Test.YtfjnckjkpkhbdaaDoorKFnExactReadExpra
set_option linter.unusedVariables false
set_option linter.unusedSimpArgs false
set_option maxRecDepth 100000
namespace Go.Proofs.YtfjnckjkpkhbdaaDoorB
open Go

/-! ### loop.example/wholecheck/impl.kindsOf -/
namespace impl_kindsOf
noncomputable abbrev c0 : Code := (Tryd.f42.body).getD .skip
noncomputable abbrev pin : Tpl := ⟨[⟨0, false, [.d (.sl (.prod (.int .i64) (.prod (.int .i64) (.prod (.int .i64) (.last (.int .i64))))))]⟩, ⟨1, false, [.d (.int .i64)]⟩], []⟩
noncomputable abbrev pout : Tpl := ⟨[⟨0, false, [.row 600001]⟩], [(600001, .row 3 true (.int .i64))]⟩
noncomputable abbrev p3 : Tpl := ⟨[⟨0, false, [.d (.sl (.prod (.int .i64) (.prod (.int .i64) (.prod (.int .i64) (.last (.int .i64))))))]⟩, ⟨1, false, [.d (.int .i64)]⟩], []⟩
noncomputable def T3 : List Item := (find 3 c0 []).getD []
noncomputable abbrev p5 : Tpl := ⟨[⟨1, false, [.d (.int .i64)]⟩, ⟨5, false, [.row 3000000]⟩, ⟨24, false, [.d (.sl (.prod (.int .i64) (.prod (.int .i64) (.prod (.int .i64) (.last (.int .i64))))))]⟩, ⟨25, false, [.d (.int .i64)]⟩, ⟨26, false, [.d (.int .i64)]⟩], [(3000000, .row 3 false (.int .i64))]⟩
noncomputable def T5 : List Item := (find 5 c0 []).getD []
noncomputable abbrev PI := (List (Int × Int × Int × Int)) × Int × Unit
noncomputable abbrev PO := (List Int) × Unit
noncomputable abbrev P3 := (List (Int × Int × Int × Int)) × Int × Unit
noncomputable abbrev P5 := Int × (List (Int × Int × Int × Int)) × Int × Int × (List Int) × Unit
noncomputable abbrev rs : List ResultVar := [.tmp 4]
noncomputable def F0 (J3 : P3 → Option PO) (Gimpl_in : impl_in.PI → Option impl_in.PO) (x0 : List (Int × Int × Int × Int)) (x1 : Int) : Option PO :=
  Option.bind (Gimpl_in (x1, 0, 5, ())) fun y0 =>
  bif !y0.1 then
    some ([], ())
  else
    Option.bind (Gimpl_in ((x0.length : Int), 1, 40, ())) fun y1 =>
    bif !y1.1 then
      some ([], ())
    else
      J3 (x0, x1, ())
noncomputable def F3 (J5 : P5 → Option PO) (t0 : List (Int × Int × Int × Int)) (t1 : Int) : Option PO :=
  bif decide (0 ≤ (t0.length : Int)) && decide ((t0.length : Int) * 8 ≤ 140737488355328) then
    J5 (t1, t0, (t0.length : Int), 0, (List.replicate 0 0 : List Int), ())
  else
    none
noncomputable def F5 (J5 : P5 → Option PO) (Gimpl_in : impl_in.PI → Option impl_in.PO) (Gimpl_parts : impl_parts.PI → Option impl_parts.PO) (t1 : Int) (t24 : List (Int × Int × Int × Int)) (t25 : Int) (t26 : Int) (r0 : List Int) : Option PO :=
  bif decide (t26 < t25) then
    bif inb t26 t24.length then
      Option.bind (Gimpl_parts ((t24.getD t26.toNat (0, 0, 0, 0)).1, ())) fun y2 =>
      Option.bind (Gimpl_in ((t24.getD t26.toNat (0, 0, 0, 0)).1, 0, 9, ())) fun y3 =>
      bif (t24.getD t26.toNat (0, 0, 0, 0)).1 == 0 then
        Option.bind (Gimpl_in ((t24.getD t26.toNat (0, 0, 0, 0)).2.1, (-9999), 9999, ())) fun y4 =>
        bif y4.1 then
          bif (t24.getD t26.toNat (0, 0, 0, 0)).2.2.1 == 0 then
            bif !((t24.getD t26.toNat (0, 0, 0, 0)).2.2.2 == 0) then
              some ([], ())
            else
              bif decide ((r0.length + ([y2.2.2.1] : List Int).length) * 8 ≤ 140737488355328) then
                J5 (t1, t24, t25, wI (t26 + 1), r0 ++ ([y2.2.2.1] : List Int), ())
              else
                none
          else
            some ([], ())
        else
          some ([], ())
      else
        bif (t24.getD t26.toNat (0, 0, 0, 0)).1 == 1 then
          Option.bind (Gimpl_in ((t24.getD t26.toNat (0, 0, 0, 0)).2.1, 0, wI (t1 - 1), ())) fun y5 =>
          bif y5.1 then
            bif (t24.getD t26.toNat (0, 0, 0, 0)).2.2.1 == 0 then
              bif !((t24.getD t26.toNat (0, 0, 0, 0)).2.2.2 == 0) then
                some ([], ())
              else
                bif decide ((r0.length + ([y2.2.2.1] : List Int).length) * 8 ≤ 140737488355328) then
                  J5 (t1, t24, t25, wI (t26 + 1), r0 ++ ([y2.2.2.1] : List Int), ())
                else
                  none
            else
              some ([], ())
          else
            some ([], ())
        else
          bif y3.1 then
            bif (t24.getD t26.toNat (0, 0, 0, 0)).2.1 == 0 then
              Option.bind (Gimpl_in ((t24.getD t26.toNat (0, 0, 0, 0)).2.2.1, 0, wI (t26 - 1), ())) fun y6 =>
              bif y6.1 then
                Option.bind (Gimpl_in ((t24.getD t26.toNat (0, 0, 0, 0)).2.2.2, 0, wI (t26 - 1), ())) fun y7 =>
                bif y7.1 then
                  bif inb (t24.getD t26.toNat (0, 0, 0, 0)).2.2.1 r0.length then
                    bif r0.getD (t24.getD t26.toNat (0, 0, 0, 0)).2.2.1.toNat 0 == y2.2.1 then
                      bif inb (t24.getD t26.toNat (0, 0, 0, 0)).2.2.2 r0.length then
                        bif r0.getD (t24.getD t26.toNat (0, 0, 0, 0)).2.2.2.toNat 0 == y2.2.1 then
                          bif y2.1 == 2 then
                            bif decide ((r0.length + ([y2.2.2.1] : List Int).length) * 8 ≤ 140737488355328) then
                              J5 (t1, t24, t25, wI (t26 + 1), r0 ++ ([y2.2.2.1] : List Int), ())
                            else
                              none
                          else
                            bif !((t24.getD t26.toNat (0, 0, 0, 0)).2.2.1 == (t24.getD t26.toNat (0, 0, 0, 0)).2.2.2) then
                              some ([], ())
                            else
                              bif decide ((r0.length + ([y2.2.2.1] : List Int).length) * 8 ≤ 140737488355328) then
                                J5 (t1, t24, t25, wI (t26 + 1), r0 ++ ([y2.2.2.1] : List Int), ())
                              else
                                none
                        else
                          some ([], ())
                      else
                        none
                    else
                      some ([], ())
                  else
                    none
                else
                  some ([], ())
              else
                some ([], ())
            else
              some ([], ())
          else
            bif !y3.1 then
              some ([], ())
            else
              bif decide ((r0.length + ([y2.2.2.1] : List Int).length) * 8 ≤ 140737488355328) then
                J5 (t1, t24, t25, wI (t26 + 1), r0 ++ ([y2.2.2.1] : List Int), ())
              else
                none
    else
      none
  else
    bif (!r0.isEmpty && true) then
      some (r0, ())
    else
      none
noncomputable def hd {R : Type} (Gimpl_in : impl_in.PI → Option impl_in.PO) (Gimpl_parts : impl_parts.PI → Option impl_parts.PO) : Hand R := (handAt 51 [34] true ⟨1, 3, 1, impl_parts.pin, impl_parts.pout, Gimpl_parts⟩ (handAt 44 [13, 18, 40, 47, 66, 87, 94] true ⟨3, 1, 3, impl_in.pin, impl_in.pout, Gimpl_in⟩ handNil))
noncomputable def pg (Gimpl_in : impl_in.PI → Option impl_in.PO) (Gimpl_parts : impl_parts.PI → Option impl_parts.PO) (J3 : List Item → P3 → Option PO) (J5 : List Item → P5 → Option PO) : Prog PO := { nt := 133, np := 2, tb := tabOf tab, hd := hd Gimpl_in Gimpl_parts, cuts := cutsOf [(3, cut p3 J3), (5, cut p5 J5)], fin := endOf (tabOf tab) rs 2 pout }
noncomputable def q : FuncId → Bool := fun f => hasId [44, 51] f
theorem seg0 (Gimpl_in : impl_in.PI → Option impl_in.PO) (Gimpl_parts : impl_parts.PI → Option impl_parts.PO) (J3 : List Item → P3 → Option PO) (J5 : List Item → P5 → Option PO) (x0 : List (Int × Int × Int × Int)) (x1 : Int) : arun (pg Gimpl_in Gimpl_parts J3 J5) 5000 [.code c0] (mk pin (x0, x1, ())) = F0 (J3 T3) Gimpl_in x0 x1 := by kernel_rfl
theorem seg3 (Gimpl_in : impl_in.PI → Option impl_in.PO) (Gimpl_parts : impl_parts.PI → Option impl_parts.PO) (J3 : List Item → P3 → Option PO) (J5 : List Item → P5 → Option PO) (t0 : List (Int × Int × Int × Int)) (t1 : Int) : arun1 (pg Gimpl_in Gimpl_parts J3 J5) 5000 T3 (mk p3 (t0, t1, ())) = F3 (J5 T5) t0 t1 := by kernel_rfl
theorem seg5 (Gimpl_in : impl_in.PI → Option impl_in.PO) (Gimpl_parts : impl_parts.PI → Option impl_parts.PO) (J3 : List Item → P3 → Option PO) (J5 : List Item → P5 → Option PO) (t1 : Int) (t24 : List (Int × Int × Int × Int)) (t25 : Int) (t26 : Int) (r0 : List Int) : arun1 (pg Gimpl_in Gimpl_parts J3 J5) 5000 T5 (mk p5 (t1, t24, t25, t26, r0, ())) = F5 (J5 T5) Gimpl_in Gimpl_parts t1 t24 t25 t26 r0 := by kernel_rfl
noncomputable def L5 : P5 → Option PO := lfp fun J5 x => F5 J5 impl_in.impl impl_parts.impl x.1 x.2.1 x.2.2.1 x.2.2.2.1 x.2.2.2.2.1
noncomputable def L3 : P3 → Option PO := fun x => F3 L5 x.1 x.2.1
noncomputable def impl : PI → Option PO := fun x => F0 L3 impl_in.impl x.1 x.2.1
theorem F5_le {J5 J5' : P5 → Option PO} (h5 : OLe J5 J5') {Gimpl_in : impl_in.PI → Option impl_in.PO} {Gimpl_parts : impl_parts.PI → Option impl_parts.PO} (t1 : Int) (t24 : List (Int × Int × Int × Int)) (t25 : Int) (t26 : Int) (r0 : List Int) : OptLe (F5 J5 Gimpl_in Gimpl_parts t1 t24 t25 t26 r0) (F5 J5' Gimpl_in Gimpl_parts t1 t24 t25 t26 r0) := by unfold F5; exact .cond (.cond (.bind (.refl _) fun _ => .bind (.refl _) fun _ => .cond (.bind (.refl _) fun _ => .cond (.cond (.cond (.refl _) (.cond (.of h5 _) (.refl _))) (.refl _)) (.refl _)) (.cond (.bind (.refl _) fun _ => .cond (.cond (.cond (.refl _) (.cond (.of h5 _) (.refl _))) (.refl _)) (.refl _)) (.cond (.cond (.bind (.refl _) fun _ => .cond (.bind (.refl _) fun _ => .cond (.cond (.cond (.cond (.cond (.cond (.cond (.of h5 _) (.refl _)) (.cond (.refl _) (.cond (.of h5 _) (.refl _)))) (.refl _)) (.refl _)) (.refl _)) (.refl _)) (.refl _)) (.refl _)) (.refl _)) (.cond (.refl _) (.cond (.of h5 _) (.refl _)))))) (.refl _)) (.refl _)
theorem L5_mono : OMono fun J5 (x : P5) => F5 J5 impl_in.impl impl_parts.impl x.1 x.2.1 x.2.2.1 x.2.2.2.1 x.2.2.2.2.1 := fun J J' h5 x => F5_le h5 x.1 x.2.1 x.2.2.1 x.2.2.2.1 x.2.2.2.2.1
theorem L5_eq (t1 : Int) (t24 : List (Int × Int × Int × Int)) (t25 : Int) (t26 : Int) (r0 : List Int) : L5 (t1, t24, t25, t26, r0, ()) = F5 (L5) impl_in.impl impl_parts.impl t1 t24 t25 t26 r0 := congrFun (lfp_eq (L5_mono)) _
theorem L3_eq (t0 : List (Int × Int × Int × Int)) (t1 : Int) : L3 (t0, t1, ()) = F3 (L5) t0 t1 := rfl
theorem impl_eq (x0 : List (Int × Int × Int × Int)) (x1 : Int) : impl (x0, x1, ()) = F0 L3 impl_in.impl x0 x1 := rfl
theorem con : Con Tryd.prog 42 2 rs.length 2 pin pout impl := by
  refine con_of_run' (nt := 133) (c := c0) tabGood Tryd.func42 (by kernel_rfl) (by kernel_rfl) (by kernel_rfl) (by kernel_rfl) (by kernel_rfl) (by kernel_rfl) (by kernel_rfl) ?_
  intro w0 O y hnp
  generalize hPost : (fun (a' : Act) (w' : World) => ∃ μ' S' st', Rel 133 w0 O μ' S' st' a' w' ∧ endOf (tabOf tab) rs 2 pout st' = some y) = Post
  have fin : ∀ (μ : Id → Option Value) (S : Nat → Prop) (st : St) (a : Act) (w : World), Rel 133 w0 O μ S st a w → endOf (tabOf tab) rs 2 pout st = some y → Post a w := fun μ S st a w h he => by rw [← hPost]; exact ⟨μ, S, st, h, he⟩
  have hp : ∀ (J3 : List Item → P3 → Option PO), ∀ (J5 : List Item → P5 → Option PO), Parts Tryd.prog 42 (pg impl_in.impl impl_parts.impl J3 J5) [(3, cut p3 J3), (5, cut p5 J5)] := fun J3 J5 => ⟨tab_ok tabGood rfl, (handAt_ok impl_parts.con (handAt_ok impl_in.con handNil_ok)), rfl⟩
  have g5 : Good Tryd.prog 133 w0 O Post y T5 p5 L5 := good_lfp fun J5 h5 => good_part (hp (atT T3 (fun _ => none)) (atT T5 J5)) (runOK_of (hp (atT T3 (fun _ => none)) (atT T5 J5)) hnp ⟨cutOK_at (p := p3) (T := T3) (J := fun _ => none) good_none, cutOK_at h5, trivial⟩ fin) (fun x => (seg5 impl_in.impl impl_parts.impl (atT T3 (fun _ => none)) (atT T5 J5) x.1 x.2.1 x.2.2.1 x.2.2.2.1 x.2.2.2.2.1).trans (by simp only [atT_self] <;> rfl))
  have g3 : Good Tryd.prog 133 w0 O Post y T3 p3 L3 := good_part (hp (atT T3 (fun _ => none)) (atT T5 L5)) (runOK_of (hp (atT T3 (fun _ => none)) (atT T5 L5)) hnp ⟨cutOK_at (p := p3) (T := T3) (J := fun _ => none) good_none, cutOK_at g5, trivial⟩ fin) (fun x => (seg3 impl_in.impl impl_parts.impl (atT T3 (fun _ => none)) (atT T5 L5) x.1 x.2.1).trans (by simp only [atT_self] <;> rfl))
  exact good_first (hp (atT T3 L3) (atT T5 (fun _ => none))) (runOK_of (hp (atT T3 L3) (atT T5 (fun _ => none))) hnp ⟨cutOK_at g3, cutOK_at (p := p5) (T := T5) (J := fun _ => none) good_none, trivial⟩ fin) (fun x => (seg0 impl_in.impl impl_parts.impl (atT T3 L3) (atT T5 (fun _ => none)) x.1 x.2.1).trans (by simp only [atT_self] <;> rfl))
end impl_kindsOf

/-! ### loop.example/wholecheck/impl.TermsValid -/
namespace impl_TermsValid
noncomputable abbrev c0 : Code := (Tryd.f28.body).getD .skip
noncomputable abbrev pin : Tpl := ⟨[⟨0, false, [.d (.sl (.prod (.int .i64) (.prod (.int .i64) (.prod (.int .i64) (.last (.int .i64))))))]⟩, ⟨1, false, [.d (.int .i64)]⟩], []⟩
noncomputable abbrev pout : Tpl := ⟨[⟨0, false, [.d .bool]⟩], []⟩
noncomputable abbrev PI := (List (Int × Int × Int × Int)) × Int × Unit
noncomputable abbrev PO := Bool × Unit
noncomputable abbrev rs : List ResultVar := [.tmp 4]
noncomputable def F0 (Gimpl_kindsOf : impl_kindsOf.PI → Option impl_kindsOf.PO) (x0 : List (Int × Int × Int × Int)) (x1 : Int) : Option PO :=
  Option.bind (Gimpl_kindsOf (x0, x1, ())) fun y0 =>
  some (!y0.1.isEmpty, ())
noncomputable def hd {R : Type} (Gimpl_kindsOf : impl_kindsOf.PI → Option impl_kindsOf.PO) : Hand R := (handAt 42 [7] true ⟨2, 1, 2, impl_kindsOf.pin, impl_kindsOf.pout, Gimpl_kindsOf⟩ handNil)
noncomputable def pg (Gimpl_kindsOf : impl_kindsOf.PI → Option impl_kindsOf.PO) : Prog PO := { nt := 9, np := 2, tb := tabOf tab, hd := hd Gimpl_kindsOf, cuts := cutsOf [], fin := endOf (tabOf tab) rs 2 pout }
noncomputable def q : FuncId → Bool := fun f => hasId [] f
theorem seg0 (Gimpl_kindsOf : impl_kindsOf.PI → Option impl_kindsOf.PO) (x0 : List (Int × Int × Int × Int)) (x1 : Int) : arun (pg Gimpl_kindsOf) 5000 [.code c0] (mk pin (x0, x1, ())) = F0 Gimpl_kindsOf x0 x1 := by kernel_rfl
noncomputable def impl : PI → Option PO := fun x => F0 impl_kindsOf.impl x.1 x.2.1
theorem impl_eq (x0 : List (Int × Int × Int × Int)) (x1 : Int) : impl (x0, x1, ()) = F0 impl_kindsOf.impl x0 x1 := rfl
theorem con : Con Tryd.prog 28 2 rs.length 2 pin pout impl := by
  refine con_of_run' (nt := 9) (c := c0) tabGood Tryd.func28 (by kernel_rfl) (by kernel_rfl) (by kernel_rfl) (by kernel_rfl) (by kernel_rfl) (by kernel_rfl) (by kernel_rfl) ?_
  intro w0 O y hnp
  generalize hPost : (fun (a' : Act) (w' : World) => ∃ μ' S' st', Rel 9 w0 O μ' S' st' a' w' ∧ endOf (tabOf tab) rs 2 pout st' = some y) = Post
  have fin : ∀ (μ : Id → Option Value) (S : Nat → Prop) (st : St) (a : Act) (w : World), Rel 9 w0 O μ S st a w → endOf (tabOf tab) rs 2 pout st = some y → Post a w := fun μ S st a w h he => by rw [← hPost]; exact ⟨μ, S, st, h, he⟩
  have hp : Parts Tryd.prog 28 (pg impl_kindsOf.impl) [] := ⟨tab_ok tabGood rfl, (handAt_ok impl_kindsOf.con handNil_ok), rfl⟩
  exact good_first (hp) (runOK_of (hp) hnp trivial fin) (fun x => (seg0 impl_kindsOf.impl x.1 x.2.1))
end impl_TermsValid

/-! ### loop.example/wholecheck/impl.clone[loop.example/wholecheck/impl.Term] -/
namespace impl_clone_of
noncomputable abbrev c0 : Code := (Tryd.f29.body).getD .skip
noncomputable abbrev pin : Tpl := ⟨[⟨0, false, [.d (.sl (.prod (.int .i64) (.prod (.int .i64) (.prod (.int .i64) (.last (.int .i64))))))]⟩], []⟩
noncomputable abbrev pout : Tpl := ⟨[⟨0, false, [.row 600001]⟩], [(600001, .row 40 false (.prod (.int .i64) (.prod (.int .i64) (.prod (.int .i64) (.last (.int .i64))))))]⟩
noncomputable abbrev PI := (List (Int × Int × Int × Int)) × Unit
noncomputable abbrev PO := (List (Int × Int × Int × Int)) × Unit
noncomputable abbrev rs : List ResultVar := [.tmp 2]
noncomputable def F0 (x0 : List (Int × Int × Int × Int)) : Option PO :=
  bif (x0.length : Int) == 0 then
    some ([], ())
  else
    bif decide (0 ≤ (x0.length : Int)) && decide ((x0.length : Int) ≤ (x0.length : Int)) && decide ((x0.length : Int) * 32 ≤ 140737488355328) then
      some (x0.take (List.replicate (x0.length : Int).toNat (0, 0, 0, 0) : List (Int × Int × Int × Int)).length ++ (List.replicate (x0.length : Int).toNat (0, 0, 0, 0) : List (Int × Int × Int × Int)).drop x0.length, ())
    else
      none
noncomputable def hd {R : Type} : Hand R := handNil
noncomputable def pg : Prog PO := { nt := 14, np := 1, tb := tabOf tab, hd := hd, cuts := cutsOf [], fin := endOf (tabOf tab) rs 1 pout }
noncomputable def q : FuncId → Bool := fun f => hasId [] f
theorem seg0 (x0 : List (Int × Int × Int × Int)) : arun (pg) 5000 [.code c0] (mk pin (x0, ())) = F0 x0 := by kernel_rfl
noncomputable def impl : PI → Option PO := fun x => F0 x.1
theorem impl_eq (x0 : List (Int × Int × Int × Int)) : impl (x0, ()) = F0 x0 := rfl
theorem con : Con Tryd.prog 29 1 rs.length 1 pin pout impl := by
  refine con_of_run' (nt := 14) (c := c0) tabGood Tryd.func29 (by kernel_rfl) (by kernel_rfl) (by kernel_rfl) (by kernel_rfl) (by kernel_rfl) (by kernel_rfl) (by kernel_rfl) ?_
  intro w0 O y hnp
  generalize hPost : (fun (a' : Act) (w' : World) => ∃ μ' S' st', Rel 14 w0 O μ' S' st' a' w' ∧ endOf (tabOf tab) rs 1 pout st' = some y) = Post
  have fin : ∀ (μ : Id → Option Value) (S : Nat → Prop) (st : St) (a : Act) (w : World), Rel 14 w0 O μ S st a w → endOf (tabOf tab) rs 1 pout st = some y → Post a w := fun μ S st a w h he => by rw [← hPost]; exact ⟨μ, S, st, h, he⟩
  have hp : Parts Tryd.prog 29 (pg) [] := ⟨tab_ok tabGood rfl, handNil_ok, rfl⟩
  exact good_first (hp) (runOK_of (hp) hnp trivial fin) (fun x => (seg0 x.1))
end impl_clone_of

/-! ### loop.example/wholecheck/impl.readExpr -/
namespace impl_readExpr
noncomputable abbrev c0 : Code := (Tryd.f16.body).getD .skip
noncomputable abbrev pin : Tpl := ⟨[⟨0, false, [.d (.sl .str)]⟩, ⟨1, false, [.d .str]⟩], []⟩
noncomputable abbrev pout : Tpl := ⟨[⟨0, false, [.row 600001]⟩, ⟨1, false, [.d .bool]⟩], [(600001, .row 40 false (.prod (.int .i64) (.prod (.int .i64) (.prod (.int .i64) (.last (.int .i64))))))]⟩
noncomputable abbrev p3 : Tpl := ⟨[⟨0, false, [.d (.sl .str)]⟩, ⟨1, false, [.d .str]⟩], []⟩
noncomputable def T3 : List Item := (find 3 c0 []).getD []
noncomputable abbrev PI := (List (List UInt8)) × (List UInt8) × Unit
noncomputable abbrev PO := Bool × (List (Int × Int × Int × Int)) × Unit
noncomputable abbrev P3 := (List (List UInt8)) × (List UInt8) × Unit
noncomputable abbrev rs : List ResultVar := [.tmp 4, .tmp 5]
noncomputable def F0 (J3 : P3 → Option PO) (Gimpl_NamesValid : impl_NamesValid.PI → Option impl_NamesValid.PO) (x0 : List (List UInt8)) (x1 : List UInt8) : Option PO :=
  Option.bind (Gimpl_NamesValid (x0, ())) fun y0 =>
  bif !y0.1 then
    some (false, [], ())
  else
    bif decide ((x1.length : Int) > 4000) then
      some (false, [], ())
    else
      J3 (x0, x1, ())
noncomputable def F3 (Gimpl_TermsValid : impl_TermsValid.PI → Option impl_TermsValid.PO) (Gimpl_clone_of : impl_clone_of.PI → Option impl_clone_of.PO) (Gimpl_scan_expr : impl_scan_expr.PI → Option impl_scan_expr.PO) (t0 : List (List UInt8)) (t1 : List UInt8) : Option PO :=
  Option.bind (Gimpl_scan_expr (0, t0, t1, 0, [], ())) fun y1 =>
  bif decide (y1.1 < 0) then
    some (false, [], ())
  else
    bif decide (y1.2.2.2.1 < (t1.length : Int)) then
      some (false, [], ())
    else
      Option.bind (Gimpl_TermsValid (y1.2.2.2.2.1, (t0.length : Int), ())) fun y2 =>
      bif !y2.1 then
        some (false, [], ())
      else
        Option.bind (Gimpl_clone_of (y1.2.2.2.2.1, ())) fun y3 =>
        some (true, y3.1, ())
noncomputable def hd {R : Type} (Gimpl_NamesValid : impl_NamesValid.PI → Option impl_NamesValid.PO) (Gimpl_TermsValid : impl_TermsValid.PI → Option impl_TermsValid.PO) (Gimpl_clone_of : impl_clone_of.PI → Option impl_clone_of.PO) (Gimpl_scan_expr : impl_scan_expr.PI → Option impl_scan_expr.PO) : Hand R := (handAt 29 [45] true ⟨1, 1, 1, impl_clone_of.pin, impl_clone_of.pout, Gimpl_clone_of⟩ (handAt 28 [38] true ⟨2, 1, 2, impl_TermsValid.pin, impl_TermsValid.pout, Gimpl_TermsValid⟩ (handAt 27 [20] false ⟨2, 1, 2, impl_scan_expr.pin, impl_scan_expr.pout, Gimpl_scan_expr⟩ (handAt 26 [8] true ⟨1, 1, 1, impl_NamesValid.pin, impl_NamesValid.pout, Gimpl_NamesValid⟩ handNil))))
noncomputable def pg (Gimpl_NamesValid : impl_NamesValid.PI → Option impl_NamesValid.PO) (Gimpl_TermsValid : impl_TermsValid.PI → Option impl_TermsValid.PO) (Gimpl_clone_of : impl_clone_of.PI → Option impl_clone_of.PO) (Gimpl_scan_expr : impl_scan_expr.PI → Option impl_scan_expr.PO) (J3 : List Item → P3 → Option PO) : Prog PO := { nt := 46, np := 2, tb := tabOf tab, hd := hd Gimpl_NamesValid Gimpl_TermsValid Gimpl_clone_of Gimpl_scan_expr, cuts := cutsOf [(3, cut p3 J3)], fin := endOf (tabOf tab) rs 2 pout }
noncomputable def q : FuncId → Bool := fun f => hasId [26, 28] f
theorem seg0 (Gimpl_NamesValid : impl_NamesValid.PI → Option impl_NamesValid.PO) (Gimpl_TermsValid : impl_TermsValid.PI → Option impl_TermsValid.PO) (Gimpl_clone_of : impl_clone_of.PI → Option impl_clone_of.PO) (Gimpl_scan_expr : impl_scan_expr.PI → Option impl_scan_expr.PO) (J3 : List Item → P3 → Option PO) (x0 : List (List UInt8)) (x1 : List UInt8) : arun (pg Gimpl_NamesValid Gimpl_TermsValid Gimpl_clone_of Gimpl_scan_expr J3) 5000 [.code c0] (mk pin (x0, x1, ())) = F0 (J3 T3) Gimpl_NamesValid x0 x1 := by kernel_rfl
theorem seg3 (Gimpl_NamesValid : impl_NamesValid.PI → Option impl_NamesValid.PO) (Gimpl_TermsValid : impl_TermsValid.PI → Option impl_TermsValid.PO) (Gimpl_clone_of : impl_clone_of.PI → Option impl_clone_of.PO) (Gimpl_scan_expr : impl_scan_expr.PI → Option impl_scan_expr.PO) (J3 : List Item → P3 → Option PO) (t0 : List (List UInt8)) (t1 : List UInt8) : arun1 (pg Gimpl_NamesValid Gimpl_TermsValid Gimpl_clone_of Gimpl_scan_expr J3) 5000 T3 (mk p3 (t0, t1, ())) = F3 Gimpl_TermsValid Gimpl_clone_of Gimpl_scan_expr t0 t1 := by kernel_rfl
noncomputable def L3 : P3 → Option PO := fun x => F3 impl_TermsValid.impl impl_clone_of.impl impl_scan_expr.impl x.1 x.2.1
noncomputable def impl : PI → Option PO := fun x => F0 L3 impl_NamesValid.impl x.1 x.2.1
theorem L3_eq (t0 : List (List UInt8)) (t1 : List UInt8) : L3 (t0, t1, ()) = F3 impl_TermsValid.impl impl_clone_of.impl impl_scan_expr.impl t0 t1 := rfl
theorem impl_eq (x0 : List (List UInt8)) (x1 : List UInt8) : impl (x0, x1, ()) = F0 L3 impl_NamesValid.impl x0 x1 := rfl
theorem con : Con Tryd.prog 16 2 rs.length 2 pin pout impl := by
  refine con_of_run' (nt := 46) (c := c0) tabGood Tryd.func16 (by kernel_rfl) (by kernel_rfl) (by kernel_rfl) (by kernel_rfl) (by kernel_rfl) (by kernel_rfl) (by kernel_rfl) ?_
  intro w0 O y hnp
  generalize hPost : (fun (a' : Act) (w' : World) => ∃ μ' S' st', Rel 46 w0 O μ' S' st' a' w' ∧ endOf (tabOf tab) rs 2 pout st' = some y) = Post
  have fin : ∀ (μ : Id → Option Value) (S : Nat → Prop) (st : St) (a : Act) (w : World), Rel 46 w0 O μ S st a w → endOf (tabOf tab) rs 2 pout st = some y → Post a w := fun μ S st a w h he => by rw [← hPost]; exact ⟨μ, S, st, h, he⟩
  have hp : ∀ (J3 : List Item → P3 → Option PO), Parts Tryd.prog 16 (pg impl_NamesValid.impl impl_TermsValid.impl impl_clone_of.impl impl_scan_expr.impl J3) [(3, cut p3 J3)] := fun J3 => ⟨tab_ok tabGood rfl, (handAt_ok impl_clone_of.con (handAt_ok impl_TermsValid.con (handAt_ok impl_scan_expr.con (handAt_ok impl_NamesValid.con handNil_ok)))), rfl⟩
  have g3 : Good Tryd.prog 46 w0 O Post y T3 p3 L3 := good_part (hp (atT T3 (fun _ => none))) (runOK_of (hp (atT T3 (fun _ => none))) hnp ⟨cutOK_at (p := p3) (T := T3) (J := fun _ => none) good_none, trivial⟩ fin) (fun x => (seg3 impl_NamesValid.impl impl_TermsValid.impl impl_clone_of.impl impl_scan_expr.impl (atT T3 (fun _ => none)) x.1 x.2.1))
  exact good_first (hp (atT T3 L3)) (runOK_of (hp (atT T3 L3)) hnp ⟨cutOK_at g3, trivial⟩ fin) (fun x => (seg0 impl_NamesValid.impl impl_TermsValid.impl impl_clone_of.impl impl_scan_expr.impl (atT T3 L3) x.1 x.2.1).trans (by simp only [atT_self] <;> rfl))
end impl_readExpr

/-! ### loop.example/wholecheck/impl.ReadExpr -/
namespace impl_ReadExpr
noncomputable abbrev c0 : Code := (Tryd.f7.body).getD .skip
noncomputable abbrev pin : Tpl := ⟨[⟨0, false, [.d (.sl .str)]⟩, ⟨1, false, [.d .str]⟩], []⟩
noncomputable abbrev pout : Tpl := ⟨[⟨0, false, [.row 600001]⟩, ⟨1, false, [.d .bool]⟩], [(600001, .row 40 false (.prod (.int .i64) (.prod (.int .i64) (.prod (.int .i64) (.last (.int .i64))))))]⟩
noncomputable abbrev PI := (List (List UInt8)) × (List UInt8) × Unit
noncomputable abbrev PO := Bool × (List (Int × Int × Int × Int)) × Unit
noncomputable abbrev rs : List ResultVar := [.tmp 4, .tmp 5]
noncomputable def F0 (Gimpl_readExpr : impl_readExpr.PI → Option impl_readExpr.PO) (x0 : List (List UInt8)) (x1 : List UInt8) : Option PO :=
  Option.bind (Gimpl_readExpr (x0, x1, ())) fun y0 =>
  some (y0.1, y0.2.1, ())
noncomputable def hd {R : Type} (Gimpl_readExpr : impl_readExpr.PI → Option impl_readExpr.PO) : Hand R := (handAt 16 [8] true ⟨2, 2, 2, impl_readExpr.pin, impl_readExpr.pout, Gimpl_readExpr⟩ handNil)
noncomputable def pg (Gimpl_readExpr : impl_readExpr.PI → Option impl_readExpr.PO) : Prog PO := { nt := 11, np := 2, tb := tabOf tab, hd := hd Gimpl_readExpr, cuts := cutsOf [], fin := endOf (tabOf tab) rs 2 pout }
noncomputable def q : FuncId → Bool := fun f => hasId [] f
theorem seg0 (Gimpl_readExpr : impl_readExpr.PI → Option impl_readExpr.PO) (x0 : List (List UInt8)) (x1 : List UInt8) : arun (pg Gimpl_readExpr) 5000 [.code c0] (mk pin (x0, x1, ())) = F0 Gimpl_readExpr x0 x1 := by kernel_rfl
noncomputable def impl : PI → Option PO := fun x => F0 impl_readExpr.impl x.1 x.2.1
theorem impl_eq (x0 : List (List UInt8)) (x1 : List UInt8) : impl (x0, x1, ()) = F0 impl_readExpr.impl x0 x1 := rfl
theorem con : Con Tryd.prog 7 2 rs.length 2 pin pout impl := by
  refine con_of_run' (nt := 11) (c := c0) tabGood Tryd.func7 (by kernel_rfl) (by kernel_rfl) (by kernel_rfl) (by kernel_rfl) (by kernel_rfl) (by kernel_rfl) (by kernel_rfl) ?_
  intro w0 O y hnp
  generalize hPost : (fun (a' : Act) (w' : World) => ∃ μ' S' st', Rel 11 w0 O μ' S' st' a' w' ∧ endOf (tabOf tab) rs 2 pout st' = some y) = Post
  have fin : ∀ (μ : Id → Option Value) (S : Nat → Prop) (st : St) (a : Act) (w : World), Rel 11 w0 O μ S st a w → endOf (tabOf tab) rs 2 pout st = some y → Post a w := fun μ S st a w h he => by rw [← hPost]; exact ⟨μ, S, st, h, he⟩
  have hp : Parts Tryd.prog 7 (pg impl_readExpr.impl) [] := ⟨tab_ok tabGood rfl, (handAt_ok impl_readExpr.con handNil_ok), rfl⟩
  exact good_first (hp) (runOK_of (hp) hnp trivial fin) (fun x => (seg0 impl_readExpr.impl x.1 x.2.1))
end impl_ReadExpr

/-! ### loop.example/wholecheck/laws.eqTerm -/
namespace laws_eqTerm
noncomputable abbrev c0 : Code := (Tryd.f17.body).getD .skip
noncomputable abbrev pin : Tpl := ⟨[⟨0, true, [.d (.prod (.int .i64) (.prod (.int .i64) (.prod (.int .i64) (.last (.int .i64)))))]⟩, ⟨1, true, [.d (.prod (.int .i64) (.prod (.int .i64) (.prod (.int .i64) (.last (.int .i64)))))]⟩], []⟩
noncomputable abbrev pout : Tpl := ⟨[⟨0, false, [.d .bool]⟩], []⟩
noncomputable abbrev PI := (Int × Int × Int × Int) × (Int × Int × Int × Int) × Unit
noncomputable abbrev PO := Bool × Unit
noncomputable abbrev rs : List ResultVar := [.tmp 4]
noncomputable def F0 (x0 : Int × Int × Int × Int) (x1 : Int × Int × Int × Int) : Option PO :=
  bif x0.1 != x1.1 then
    some (false, ())
  else
    bif x0.2.1 != x1.2.1 then
      some (false, ())
    else
      bif x0.2.2.1 != x1.2.2.1 then
        some (false, ())
      else
        bif x0.2.2.2 != x1.2.2.2 then
          some (false, ())
        else
          some (true, ())
noncomputable def hd {R : Type} : Hand R := handNil
noncomputable def pg : Prog PO := { nt := 25, np := 2, tb := tabOf tab, hd := hd, cuts := cutsOf [], fin := endOf (tabOf tab) rs 2 pout }
noncomputable def q : FuncId → Bool := fun f => hasId [] f
theorem seg0 (x0 : Int × Int × Int × Int) (x1 : Int × Int × Int × Int) : arun (pg) 5000 [.code c0] (mk pin (x0, x1, ())) = F0 x0 x1 := by kernel_rfl
noncomputable def impl : PI → Option PO := fun x => F0 x.1 x.2.1
theorem impl_eq (x0 : Int × Int × Int × Int) (x1 : Int × Int × Int × Int) : impl (x0, x1, ()) = F0 x0 x1 := rfl
theorem con : Con Tryd.prog 17 2 rs.length 2 pin pout impl := by
  refine con_of_run' (nt := 25) (c := c0) tabGood Tryd.func17 (by kernel_rfl) (by kernel_rfl) (by kernel_rfl) (by kernel_rfl) (by kernel_rfl) (by kernel_rfl) (by kernel_rfl) ?_
  intro w0 O y hnp
  generalize hPost : (fun (a' : Act) (w' : World) => ∃ μ' S' st', Rel 25 w0 O μ' S' st' a' w' ∧ endOf (tabOf tab) rs 2 pout st' = some y) = Post
  have fin : ∀ (μ : Id → Option Value) (S : Nat → Prop) (st : St) (a : Act) (w : World), Rel 25 w0 O μ S st a w → endOf (tabOf tab) rs 2 pout st = some y → Post a w := fun μ S st a w h he => by rw [← hPost]; exact ⟨μ, S, st, h, he⟩
  have hp : Parts Tryd.prog 17 (pg) [] := ⟨tab_ok tabGood rfl, handNil_ok, rfl⟩
  exact good_first (hp) (runOK_of (hp) hnp trivial fin) (fun x => (seg0 x.1 x.2.1))
end laws_eqTerm

/-! ### loop.example/wholecheck/laws.eqTermS -/
namespace laws_eqTermS
noncomputable abbrev c0 : Code := (Tryd.f8.body).getD .skip
noncomputable abbrev pin : Tpl := ⟨[⟨0, false, [.d (.sl (.prod (.int .i64) (.prod (.int .i64) (.prod (.int .i64) (.last (.int .i64))))))]⟩, ⟨1, false, [.d (.sl (.prod (.int .i64) (.prod (.int .i64) (.prod (.int .i64) (.last (.int .i64))))))]⟩], []⟩
noncomputable abbrev pout : Tpl := ⟨[⟨0, false, [.d .bool]⟩], []⟩
noncomputable abbrev p4 : Tpl := ⟨[⟨0, false, [.d (.sl (.prod (.int .i64) (.prod (.int .i64) (.prod (.int .i64) (.last (.int .i64))))))]⟩, ⟨1, false, [.d (.sl (.prod (.int .i64) (.prod (.int .i64) (.prod (.int .i64) (.last (.int .i64))))))]⟩, ⟨5, false, [.d (.int .i64)]⟩], []⟩
noncomputable def T4 : List Item := (find 4 c0 []).getD []
noncomputable abbrev p6 : Tpl := ⟨[⟨0, false, [.d (.sl (.prod (.int .i64) (.prod (.int .i64) (.prod (.int .i64) (.last (.int .i64))))))]⟩, ⟨1, false, [.d (.sl (.prod (.int .i64) (.prod (.int .i64) (.prod (.int .i64) (.last (.int .i64))))))]⟩, ⟨5, false, [.d (.int .i64)]⟩], []⟩
noncomputable def T6 : List Item := (find 6 c0 []).getD []
noncomputable abbrev PI := (List (Int × Int × Int × Int)) × (List (Int × Int × Int × Int)) × Unit
noncomputable abbrev PO := Bool × Unit
noncomputable abbrev P4 := (List (Int × Int × Int × Int)) × (List (Int × Int × Int × Int)) × Int × Unit
noncomputable abbrev P6 := (List (Int × Int × Int × Int)) × (List (Int × Int × Int × Int)) × Int × Unit
noncomputable abbrev rs : List ResultVar := [.tmp 4]
noncomputable def F0 (J4 : P4 → Option PO) (x0 : List (Int × Int × Int × Int)) (x1 : List (Int × Int × Int × Int)) : Option PO :=
  bif (x0.length : Int) != (x1.length : Int) then
    some (false, ())
  else
    J4 (x0, x1, 0, ())
noncomputable def F4 (J6 : P6 → Option PO) (t0 : List (Int × Int × Int × Int)) (t1 : List (Int × Int × Int × Int)) (t5 : Int) : Option PO :=
  bif decide (t5 < (t0.length : Int)) then
    J6 (t0, t1, t5, ())
  else
    some (true, ())
noncomputable def F6 (J4 : P4 → Option PO) (Glaws_eqTerm : laws_eqTerm.PI → Option laws_eqTerm.PO) (t0 : List (Int × Int × Int × Int)) (t1 : List (Int × Int × Int × Int)) (t5 : Int) : Option PO :=
  bif inb t5 t0.length then
    bif inb t5 t1.length then
      Option.bind (Glaws_eqTerm (t0.getD t5.toNat (0, 0, 0, 0), t1.getD t5.toNat (0, 0, 0, 0), ())) fun y0 =>
      bif !y0.1 then
        some (false, ())
      else
        J4 (t0, t1, wI (t5 + 1), ())
    else
      none
  else
    none
noncomputable def hd {R : Type} (Glaws_eqTerm : laws_eqTerm.PI → Option laws_eqTerm.PO) : Hand R := (handAt 17 [25] true ⟨2, 1, 2, laws_eqTerm.pin, laws_eqTerm.pout, Glaws_eqTerm⟩ handNil)
noncomputable def pg (Glaws_eqTerm : laws_eqTerm.PI → Option laws_eqTerm.PO) (J4 : List Item → P4 → Option PO) (J6 : List Item → P6 → Option PO) : Prog PO := { nt := 27, np := 2, tb := tabOf tab, hd := hd Glaws_eqTerm, cuts := cutsOf [(4, cut p4 J4), (6, cut p6 J6)], fin := endOf (tabOf tab) rs 2 pout }
noncomputable def q : FuncId → Bool := fun f => hasId [17] f
theorem seg0 (Glaws_eqTerm : laws_eqTerm.PI → Option laws_eqTerm.PO) (J4 : List Item → P4 → Option PO) (J6 : List Item → P6 → Option PO) (x0 : List (Int × Int × Int × Int)) (x1 : List (Int × Int × Int × Int)) : arun (pg Glaws_eqTerm J4 J6) 5000 [.code c0] (mk pin (x0, x1, ())) = F0 (J4 T4) x0 x1 := by kernel_rfl
theorem seg4 (Glaws_eqTerm : laws_eqTerm.PI → Option laws_eqTerm.PO) (J4 : List Item → P4 → Option PO) (J6 : List Item → P6 → Option PO) (t0 : List (Int × Int × Int × Int)) (t1 : List (Int × Int × Int × Int)) (t5 : Int) : arun1 (pg Glaws_eqTerm J4 J6) 5000 T4 (mk p4 (t0, t1, t5, ())) = F4 (J6 T6) t0 t1 t5 := by kernel_rfl
theorem seg6 (Glaws_eqTerm : laws_eqTerm.PI → Option laws_eqTerm.PO) (J4 : List Item → P4 → Option PO) (J6 : List Item → P6 → Option PO) (t0 : List (Int × Int × Int × Int)) (t1 : List (Int × Int × Int × Int)) (t5 : Int) : arunQ (pg Glaws_eqTerm J4 J6) q [] [] 5000 T6 (mk p6 (t0, t1, t5, ())) = List.replicate (arunQ (pg Glaws_eqTerm J4 J6) q [] [] 5000 T6 (mk p6 (t0, t1, t5, ()))).length (F6 (J4 T4) Glaws_eqTerm t0 t1 t5) := by kernel_rfl
noncomputable def L6 (J4 : P4 → Option PO) : P6 → Option PO := fun x => F6 J4 laws_eqTerm.impl x.1 x.2.1 x.2.2.1
noncomputable def L4 : P4 → Option PO := lfp fun J4 x => F4 (L6 J4) x.1 x.2.1 x.2.2.1
noncomputable def impl : PI → Option PO := fun x => F0 L4 x.1 x.2.1
theorem F6_le {J4 J4' : P4 → Option PO} (h4 : OLe J4 J4') {Glaws_eqTerm : laws_eqTerm.PI → Option laws_eqTerm.PO} (t0 : List (Int × Int × Int × Int)) (t1 : List (Int × Int × Int × Int)) (t5 : Int) : OptLe (F6 J4 Glaws_eqTerm t0 t1 t5) (F6 J4' Glaws_eqTerm t0 t1 t5) := by unfold F6; exact .cond (.cond (.bind (.refl _) fun _ => .cond (.refl _) (.of h4 _)) (.refl _)) (.refl _)
theorem F4_le {J6 J6' : P6 → Option PO} (h6 : OLe J6 J6') (t0 : List (Int × Int × Int × Int)) (t1 : List (Int × Int × Int × Int)) (t5 : Int) : OptLe (F4 J6 t0 t1 t5) (F4 J6' t0 t1 t5) := by unfold F4; exact .cond (.of h6 _) (.refl _)
theorem L6_eq (J4 : P4 → Option PO) (t0 : List (Int × Int × Int × Int)) (t1 : List (Int × Int × Int × Int)) (t5 : Int) : L6 J4 (t0, t1, t5, ()) = F6 J4 laws_eqTerm.impl t0 t1 t5 := rfl
theorem L6_le {J4 J4' : P4 → Option PO} (h4 : OLe J4 J4') : OLe (L6 J4) (L6 J4') := fun x => F6_le h4 x.1 x.2.1 x.2.2.1
theorem L4_mono : OMono fun J4 (x : P4) => F4 (L6 J4) x.1 x.2.1 x.2.2.1 := fun J J' h4 x => F4_le (L6_le h4) x.1 x.2.1 x.2.2.1
theorem L4_eq (t0 : List (Int × Int × Int × Int)) (t1 : List (Int × Int × Int × Int)) (t5 : Int) : L4 (t0, t1, t5, ()) = F4 (L6 (L4)) t0 t1 t5 := congrFun (lfp_eq (L4_mono)) _
theorem impl_eq (x0 : List (Int × Int × Int × Int)) (x1 : List (Int × Int × Int × Int)) : impl (x0, x1, ()) = F0 L4 x0 x1 := rfl
theorem con : Con Tryd.prog 8 2 rs.length 2 pin pout impl := by
  refine con_of_run' (nt := 27) (c := c0) tabGood Tryd.func8 (by kernel_rfl) (by kernel_rfl) (by kernel_rfl) (by kernel_rfl) (by kernel_rfl) (by kernel_rfl) (by kernel_rfl) ?_
  intro w0 O y hnp
  generalize hPost : (fun (a' : Act) (w' : World) => ∃ μ' S' st', Rel 27 w0 O μ' S' st' a' w' ∧ endOf (tabOf tab) rs 2 pout st' = some y) = Post
  have fin : ∀ (μ : Id → Option Value) (S : Nat → Prop) (st : St) (a : Act) (w : World), Rel 27 w0 O μ S st a w → endOf (tabOf tab) rs 2 pout st = some y → Post a w := fun μ S st a w h he => by rw [← hPost]; exact ⟨μ, S, st, h, he⟩
  have hp : ∀ (J4 : List Item → P4 → Option PO), ∀ (J6 : List Item → P6 → Option PO), Parts Tryd.prog 8 (pg laws_eqTerm.impl J4 J6) [(4, cut p4 J4), (6, cut p6 J6)] := fun J4 J6 => ⟨tab_ok tabGood rfl, (handAt_ok laws_eqTerm.con handNil_ok), rfl⟩
  have g6 : ∀ (J4 : P4 → Option PO), Good Tryd.prog 27 w0 O Post y T4 p4 J4 → Good Tryd.prog 27 w0 O Post y T6 p6 (L6 J4) := fun J4 h4 => good_quiet (hs := hd laws_eqTerm.impl) (cv' := hd laws_eqTerm.impl) (Checked.mixed Tryd.checked) (hp (atT T4 J4) (atT T6 (fun _ => none))) (handAt_D laws_eqTerm.con (by rfl) rfl handNil_D) (handAt_nat handNil_nat) (handAt_nat handNil_nat) (runOK_of (hp (atT T4 J4) (atT T6 (fun _ => none))) hnp ⟨cutOK_at h4, cutOK_at (p := p6) (T := T6) (J := fun _ => none) good_none, trivial⟩ fin) (fun x => all_same ⟨_, (seg6 laws_eqTerm.impl (atT T4 J4) (atT T6 (fun _ => none)) x.1 x.2.1 x.2.2.1).trans (by simp only [atT_self] <;> rfl)⟩)
  have g4 : Good Tryd.prog 27 w0 O Post y T4 p4 L4 := good_lfp fun J4 h4 => good_part (hp (atT T4 (fun _ => none)) (atT T6 (L6 J4))) (runOK_of (hp (atT T4 (fun _ => none)) (atT T6 (L6 J4))) hnp ⟨cutOK_at (p := p4) (T := T4) (J := fun _ => none) good_none, cutOK_at (g6 J4 h4), trivial⟩ fin) (fun x => (seg4 laws_eqTerm.impl (atT T4 (fun _ => none)) (atT T6 (L6 J4)) x.1 x.2.1 x.2.2.1).trans (by simp only [atT_self] <;> rfl))
  exact good_first (hp (atT T4 L4) (atT T6 (fun _ => none))) (runOK_of (hp (atT T4 L4) (atT T6 (fun _ => none))) hnp ⟨cutOK_at g4, cutOK_at (p := p6) (T := T6) (J := fun _ => none) good_none, trivial⟩ fin) (fun x => (seg0 laws_eqTerm.impl (atT T4 L4) (atT T6 (fun _ => none)) x.1 x.2.1).trans (by simp only [atT_self] <;> rfl))
end laws_eqTermS

/-! ### loop.example/wholecheck/laws.eqStringS -/
namespace laws_eqStringS
noncomputable abbrev c0 : Code := (Tryd.f9.body).getD .skip
noncomputable abbrev pin : Tpl := ⟨[⟨0, false, [.d (.sl .str)]⟩, ⟨1, false, [.d (.sl .str)]⟩], []⟩
noncomputable abbrev pout : Tpl := ⟨[⟨0, false, [.d .bool]⟩], []⟩
noncomputable abbrev p4 : Tpl := ⟨[⟨0, false, [.d (.sl .str)]⟩, ⟨1, false, [.d (.sl .str)]⟩, ⟨5, false, [.d (.int .i64)]⟩], []⟩
noncomputable def T4 : List Item := (find 4 c0 []).getD []
noncomputable abbrev p6 : Tpl := ⟨[⟨0, false, [.d (.sl .str)]⟩, ⟨1, false, [.d (.sl .str)]⟩, ⟨5, false, [.d (.int .i64)]⟩], []⟩
noncomputable def T6 : List Item := (find 6 c0 []).getD []
noncomputable abbrev PI := (List (List UInt8)) × (List (List UInt8)) × Unit
noncomputable abbrev PO := Bool × Unit
noncomputable abbrev P4 := (List (List UInt8)) × (List (List UInt8)) × Int × Unit
noncomputable abbrev P6 := (List (List UInt8)) × (List (List UInt8)) × Int × Unit
noncomputable abbrev rs : List ResultVar := [.tmp 4]
noncomputable def F0 (J4 : P4 → Option PO) (x0 : List (List UInt8)) (x1 : List (List UInt8)) : Option PO :=
  bif (x0.length : Int) != (x1.length : Int) then
    some (false, ())
  else
    J4 (x0, x1, 0, ())
noncomputable def F4 (J6 : P6 → Option PO) (t0 : List (List UInt8)) (t1 : List (List UInt8)) (t5 : Int) : Option PO :=
  bif decide (t5 < (t0.length : Int)) then
    J6 (t0, t1, t5, ())
  else
    some (true, ())
noncomputable def F6 (J4 : P4 → Option PO) (t0 : List (List UInt8)) (t1 : List (List UInt8)) (t5 : Int) : Option PO :=
  bif inb t5 t0.length then
    bif inb t5 t1.length then
      bif !((t0.getD t5.toNat []) == (t1.getD t5.toNat [])) then
        some (false, ())
      else
        J4 (t0, t1, wI (t5 + 1), ())
    else
      none
  else
    none
noncomputable def hd {R : Type} : Hand R := handNil
noncomputable def pg (J4 : List Item → P4 → Option PO) (J6 : List Item → P6 → Option PO) : Prog PO := { nt := 26, np := 2, tb := tabOf tab, hd := hd, cuts := cutsOf [(4, cut p4 J4), (6, cut p6 J6)], fin := endOf (tabOf tab) rs 2 pout }
noncomputable def q : FuncId → Bool := fun f => hasId [] f
theorem seg0 (J4 : List Item → P4 → Option PO) (J6 : List Item → P6 → Option PO) (x0 : List (List UInt8)) (x1 : List (List UInt8)) : arun (pg J4 J6) 5000 [.code c0] (mk pin (x0, x1, ())) = F0 (J4 T4) x0 x1 := by kernel_rfl
theorem seg4 (J4 : List Item → P4 → Option PO) (J6 : List Item → P6 → Option PO) (t0 : List (List UInt8)) (t1 : List (List UInt8)) (t5 : Int) : arun1 (pg J4 J6) 5000 T4 (mk p4 (t0, t1, t5, ())) = F4 (J6 T6) t0 t1 t5 := by kernel_rfl
theorem seg6 (J4 : List Item → P4 → Option PO) (J6 : List Item → P6 → Option PO) (t0 : List (List UInt8)) (t1 : List (List UInt8)) (t5 : Int) : arunQ (pg J4 J6) q [] [] 5000 T6 (mk p6 (t0, t1, t5, ())) = List.replicate (arunQ (pg J4 J6) q [] [] 5000 T6 (mk p6 (t0, t1, t5, ()))).length (F6 (J4 T4) t0 t1 t5) := by kernel_rfl
noncomputable def L6 (J4 : P4 → Option PO) : P6 → Option PO := fun x => F6 J4 x.1 x.2.1 x.2.2.1
noncomputable def L4 : P4 → Option PO := lfp fun J4 x => F4 (L6 J4) x.1 x.2.1 x.2.2.1
noncomputable def impl : PI → Option PO := fun x => F0 L4 x.1 x.2.1
theorem F6_le {J4 J4' : P4 → Option PO} (h4 : OLe J4 J4') (t0 : List (List UInt8)) (t1 : List (List UInt8)) (t5 : Int) : OptLe (F6 J4 t0 t1 t5) (F6 J4' t0 t1 t5) := by unfold F6; exact .cond (.cond (.cond (.refl _) (.of h4 _)) (.refl _)) (.refl _)
theorem F4_le {J6 J6' : P6 → Option PO} (h6 : OLe J6 J6') (t0 : List (List UInt8)) (t1 : List (List UInt8)) (t5 : Int) : OptLe (F4 J6 t0 t1 t5) (F4 J6' t0 t1 t5) := by unfold F4; exact .cond (.of h6 _) (.refl _)
theorem L6_eq (J4 : P4 → Option PO) (t0 : List (List UInt8)) (t1 : List (List UInt8)) (t5 : Int) : L6 J4 (t0, t1, t5, ()) = F6 J4 t0 t1 t5 := rfl
theorem L6_le {J4 J4' : P4 → Option PO} (h4 : OLe J4 J4') : OLe (L6 J4) (L6 J4') := fun x => F6_le h4 x.1 x.2.1 x.2.2.1
theorem L4_mono : OMono fun J4 (x : P4) => F4 (L6 J4) x.1 x.2.1 x.2.2.1 := fun J J' h4 x => F4_le (L6_le h4) x.1 x.2.1 x.2.2.1
theorem L4_eq (t0 : List (List UInt8)) (t1 : List (List UInt8)) (t5 : Int) : L4 (t0, t1, t5, ()) = F4 (L6 (L4)) t0 t1 t5 := congrFun (lfp_eq (L4_mono)) _
theorem impl_eq (x0 : List (List UInt8)) (x1 : List (List UInt8)) : impl (x0, x1, ()) = F0 L4 x0 x1 := rfl
theorem con : Con Tryd.prog 9 2 rs.length 2 pin pout impl := by
  refine con_of_run' (nt := 26) (c := c0) tabGood Tryd.func9 (by kernel_rfl) (by kernel_rfl) (by kernel_rfl) (by kernel_rfl) (by kernel_rfl) (by kernel_rfl) (by kernel_rfl) ?_
  intro w0 O y hnp
  generalize hPost : (fun (a' : Act) (w' : World) => ∃ μ' S' st', Rel 26 w0 O μ' S' st' a' w' ∧ endOf (tabOf tab) rs 2 pout st' = some y) = Post
  have fin : ∀ (μ : Id → Option Value) (S : Nat → Prop) (st : St) (a : Act) (w : World), Rel 26 w0 O μ S st a w → endOf (tabOf tab) rs 2 pout st = some y → Post a w := fun μ S st a w h he => by rw [← hPost]; exact ⟨μ, S, st, h, he⟩
  have hp : ∀ (J4 : List Item → P4 → Option PO), ∀ (J6 : List Item → P6 → Option PO), Parts Tryd.prog 9 (pg J4 J6) [(4, cut p4 J4), (6, cut p6 J6)] := fun J4 J6 => ⟨tab_ok tabGood rfl, handNil_ok, rfl⟩
  have g6 : ∀ (J4 : P4 → Option PO), Good Tryd.prog 26 w0 O Post y T4 p4 J4 → Good Tryd.prog 26 w0 O Post y T6 p6 (L6 J4) := fun J4 h4 => good_quiet (hs := hd) (cv' := hd) (Checked.mixed Tryd.checked) (hp (atT T4 J4) (atT T6 (fun _ => none))) handNil_D handNil_nat handNil_nat (runOK_of (hp (atT T4 J4) (atT T6 (fun _ => none))) hnp ⟨cutOK_at h4, cutOK_at (p := p6) (T := T6) (J := fun _ => none) good_none, trivial⟩ fin) (fun x => all_same ⟨_, (seg6 (atT T4 J4) (atT T6 (fun _ => none)) x.1 x.2.1 x.2.2.1).trans (by simp only [atT_self] <;> rfl)⟩)
  have g4 : Good Tryd.prog 26 w0 O Post y T4 p4 L4 := good_lfp fun J4 h4 => good_part (hp (atT T4 (fun _ => none)) (atT T6 (L6 J4))) (runOK_of (hp (atT T4 (fun _ => none)) (atT T6 (L6 J4))) hnp ⟨cutOK_at (p := p4) (T := T4) (J := fun _ => none) good_none, cutOK_at (g6 J4 h4), trivial⟩ fin) (fun x => (seg4 (atT T4 (fun _ => none)) (atT T6 (L6 J4)) x.1 x.2.1 x.2.2.1).trans (by simp only [atT_self] <;> rfl))
  exact good_first (hp (atT T4 L4) (atT T6 (fun _ => none))) (runOK_of (hp (atT T4 L4) (atT T6 (fun _ => none))) hnp ⟨cutOK_at g4, cutOK_at (p := p6) (T := T6) (J := fun _ => none) good_none, trivial⟩ fin) (fun x => (seg0 (atT T4 L4) (atT T6 (fun _ => none)) x.1 x.2.1).trans (by simp only [atT_self] <;> rfl))
end laws_eqStringS

/-! ### loop.example/wholecheck/laws.markText -/
namespace laws_markText
noncomputable abbrev c0 : Code := (Tryd.f18.body).getD .skip
noncomputable abbrev pin : Tpl := ⟨[⟨0, false, [.d (.int .i64)]⟩], []⟩
noncomputable abbrev pout : Tpl := ⟨[⟨0, false, [.d .str]⟩], []⟩
noncomputable abbrev p4 : Tpl := ⟨[⟨0, false, [.d (.int .i64)]⟩, ⟨3, false, [.d .str]⟩], []⟩
noncomputable def T4 : List Item := (find 4 c0 []).getD []
noncomputable abbrev PI := Int × Unit
noncomputable abbrev PO := (List UInt8) × Unit
noncomputable abbrev P4 := Int × (List UInt8) × Unit
noncomputable abbrev rs : List ResultVar := [.tmp 2]
noncomputable def F0 (J4 : P4 → Option PO) (x0 : Int) : Option PO :=
  bif decide (x0 ≤ 0) then
    some (([109, 48] : List UInt8), ())
  else
    J4 (x0, [], ())
noncomputable def F4 (J4 : P4 → Option PO) (t0 : Int) (t3 : List UInt8) : Option PO :=
  bif decide (t0 > 0) then
    bif decide ((strOf ([IntKind.u8.wrap (wI (48 + (Int.tmod t0 10)))] : List Int)).length + t3.length ≤ 140737488355328) then
      J4 (wI (Int.tdiv t0 10), (strOf ([IntKind.u8.wrap (wI (48 + (Int.tmod t0 10)))] : List Int)) ++ t3, ())
    else
      none
  else
    bif decide (([109] : List UInt8).length + t3.length ≤ 140737488355328) then
      some (([109] : List UInt8) ++ t3, ())
    else
      none
noncomputable def hd {R : Type} : Hand R := handNil
noncomputable def pg (J4 : List Item → P4 → Option PO) : Prog PO := { nt := 20, np := 0, tb := tabOf tab, hd := hd, cuts := cutsOf [(4, cut p4 J4)], fin := endOf (tabOf tab) rs 0 pout }
noncomputable def q : FuncId → Bool := fun f => hasId [] f
theorem seg0 (J4 : List Item → P4 → Option PO) (x0 : Int) : arun (pg J4) 5000 [.code c0] (mk pin (x0, ())) = F0 (J4 T4) x0 := by kernel_rfl
theorem seg4 (J4 : List Item → P4 → Option PO) (t0 : Int) (t3 : List UInt8) : arun1 (pg J4) 5000 T4 (mk p4 (t0, t3, ())) = F4 (J4 T4) t0 t3 := by kernel_rfl
noncomputable def L4 : P4 → Option PO := lfp fun J4 x => F4 J4 x.1 x.2.1
noncomputable def impl : PI → Option PO := fun x => F0 L4 x.1
theorem F4_le {J4 J4' : P4 → Option PO} (h4 : OLe J4 J4') (t0 : Int) (t3 : List UInt8) : OptLe (F4 J4 t0 t3) (F4 J4' t0 t3) := by unfold F4; exact .cond (.cond (.of h4 _) (.refl _)) (.refl _)
theorem L4_mono : OMono fun J4 (x : P4) => F4 J4 x.1 x.2.1 := fun J J' h4 x => F4_le h4 x.1 x.2.1
theorem L4_eq (t0 : Int) (t3 : List UInt8) : L4 (t0, t3, ()) = F4 (L4) t0 t3 := congrFun (lfp_eq (L4_mono)) _
theorem impl_eq (x0 : Int) : impl (x0, ()) = F0 L4 x0 := rfl
theorem con : Con Tryd.prog 18 1 rs.length 0 pin pout impl := by
  refine con_of_run' (nt := 20) (c := c0) tabGood Tryd.func18 (by kernel_rfl) (by kernel_rfl) (by kernel_rfl) (by kernel_rfl) (by kernel_rfl) (by kernel_rfl) (by kernel_rfl) ?_
  intro w0 O y hnp
  generalize hPost : (fun (a' : Act) (w' : World) => ∃ μ' S' st', Rel 20 w0 O μ' S' st' a' w' ∧ endOf (tabOf tab) rs 0 pout st' = some y) = Post
  have fin : ∀ (μ : Id → Option Value) (S : Nat → Prop) (st : St) (a : Act) (w : World), Rel 20 w0 O μ S st a w → endOf (tabOf tab) rs 0 pout st = some y → Post a w := fun μ S st a w h he => by rw [← hPost]; exact ⟨μ, S, st, h, he⟩
  have hp : ∀ (J4 : List Item → P4 → Option PO), Parts Tryd.prog 18 (pg J4) [(4, cut p4 J4)] := fun J4 => ⟨tab_ok tabGood rfl, handNil_ok, rfl⟩
  have g4 : Good Tryd.prog 20 w0 O Post y T4 p4 L4 := good_lfp fun J4 h4 => good_part (hp (atT T4 J4)) (runOK_of (hp (atT T4 J4)) hnp ⟨cutOK_at h4, trivial⟩ fin) (fun x => (seg4 (atT T4 J4) x.1 x.2.1).trans (by simp only [atT_self] <;> rfl))
  exact good_first (hp (atT T4 L4)) (runOK_of (hp (atT T4 L4)) hnp ⟨cutOK_at g4, trivial⟩ fin) (fun x => (seg0 (atT T4 L4) x.1).trans (by simp only [atT_self] <;> rfl))
end laws_markText

/-! ### loop.example/wholecheck/laws.markStringS -/
namespace laws_markStringS
noncomputable abbrev c0 : Code := (Tryd.f10.body).getD .skip
noncomputable abbrev pin : Tpl := ⟨[⟨0, false, [.row 500001]⟩, ⟨1, false, [.d (.int .i64)]⟩], [(500001, .row 9 false .str)]⟩
noncomputable abbrev pout : Tpl := ⟨[⟨0, false, [.d (.int .i64)]⟩, ⟨1, false, [.row 500001]⟩], [(500001, .row 9 false .str)]⟩
noncomputable abbrev p2 : Tpl := ⟨[⟨0, false, [.row 500001]⟩, ⟨1, false, [.d (.int .i64)]⟩, ⟨5, false, [.d (.int .i64)]⟩], [(500001, .row 9 false .str)]⟩
noncomputable def T2 : List Item := (find 2 c0 []).getD []
noncomputable abbrev PI := Int × (List (List UInt8)) × Unit
noncomputable abbrev PO := Int × (List (List UInt8)) × Unit
noncomputable abbrev P2 := Int × Int × (List (List UInt8)) × Unit
noncomputable abbrev rs : List ResultVar := [.tmp 4]
noncomputable def F0 (J2 : P2 → Option PO) (x1 : Int) (s1 : List (List UInt8)) : Option PO :=
  J2 (x1, 0, s1, ())
noncomputable def F2 (J2 : P2 → Option PO) (Glaws_markText : laws_markText.PI → Option laws_markText.PO) (t1 : Int) (t5 : Int) (s1 : List (List UInt8)) : Option PO :=
  bif decide (t5 < (s1.length : Int)) then
    Option.bind (Glaws_markText (t1, ())) fun y0 =>
    bif inb t5 s1.length then
      J2 (wI (t1 + 1), wI (t5 + 1), s1.set t5.toNat y0.1, ())
    else
      none
  else
    some (t1, s1, ())
noncomputable def hd {R : Type} (Glaws_markText : laws_markText.PI → Option laws_markText.PO) : Hand R := (handAt 18 [15] true ⟨1, 1, 0, laws_markText.pin, laws_markText.pout, Glaws_markText⟩ handNil)
noncomputable def pg (Glaws_markText : laws_markText.PI → Option laws_markText.PO) (J2 : List Item → P2 → Option PO) : Prog PO := { nt := 20, np := 1, tb := tabOf tab, hd := hd Glaws_markText, cuts := cutsOf [(2, cut p2 J2)], fin := endOf (tabOf tab) rs 1 pout }
noncomputable def q : FuncId → Bool := fun f => hasId [18] f
theorem seg0 (Glaws_markText : laws_markText.PI → Option laws_markText.PO) (J2 : List Item → P2 → Option PO) (x1 : Int) (s1 : List (List UInt8)) : arun (pg Glaws_markText J2) 5000 [.code c0] (mk pin (x1, s1, ())) = F0 (J2 T2) x1 s1 := by kernel_rfl
theorem seg2 (Glaws_markText : laws_markText.PI → Option laws_markText.PO) (J2 : List Item → P2 → Option PO) (t1 : Int) (t5 : Int) (s1 : List (List UInt8)) : arun1 (pg Glaws_markText J2) 5000 T2 (mk p2 (t1, t5, s1, ())) = F2 (J2 T2) Glaws_markText t1 t5 s1 := by kernel_rfl
noncomputable def L2 : P2 → Option PO := lfp fun J2 x => F2 J2 laws_markText.impl x.1 x.2.1 x.2.2.1
noncomputable def impl : PI → Option PO := fun x => F0 L2 x.1 x.2.1
theorem F2_le {J2 J2' : P2 → Option PO} (h2 : OLe J2 J2') {Glaws_markText : laws_markText.PI → Option laws_markText.PO} (t1 : Int) (t5 : Int) (s1 : List (List UInt8)) : OptLe (F2 J2 Glaws_markText t1 t5 s1) (F2 J2' Glaws_markText t1 t5 s1) := by unfold F2; exact .cond (.bind (.refl _) fun _ => .cond (.of h2 _) (.refl _)) (.refl _)
theorem L2_mono : OMono fun J2 (x : P2) => F2 J2 laws_markText.impl x.1 x.2.1 x.2.2.1 := fun J J' h2 x => F2_le h2 x.1 x.2.1 x.2.2.1
theorem L2_eq (t1 : Int) (t5 : Int) (s1 : List (List UInt8)) : L2 (t1, t5, s1, ()) = F2 (L2) laws_markText.impl t1 t5 s1 := congrFun (lfp_eq (L2_mono)) _
theorem impl_eq (x1 : Int) (s1 : List (List UInt8)) : impl (x1, s1, ()) = F0 L2 x1 s1 := rfl
theorem con : Con Tryd.prog 10 2 rs.length 1 pin pout impl := by
  refine con_of_run' (nt := 20) (c := c0) tabGood Tryd.func10 (by kernel_rfl) (by kernel_rfl) (by kernel_rfl) (by kernel_rfl) (by kernel_rfl) (by kernel_rfl) (by kernel_rfl) ?_
  intro w0 O y hnp
  generalize hPost : (fun (a' : Act) (w' : World) => ∃ μ' S' st', Rel 20 w0 O μ' S' st' a' w' ∧ endOf (tabOf tab) rs 1 pout st' = some y) = Post
  have fin : ∀ (μ : Id → Option Value) (S : Nat → Prop) (st : St) (a : Act) (w : World), Rel 20 w0 O μ S st a w → endOf (tabOf tab) rs 1 pout st = some y → Post a w := fun μ S st a w h he => by rw [← hPost]; exact ⟨μ, S, st, h, he⟩
  have hp : ∀ (J2 : List Item → P2 → Option PO), Parts Tryd.prog 10 (pg laws_markText.impl J2) [(2, cut p2 J2)] := fun J2 => ⟨tab_ok tabGood rfl, (handAt_ok laws_markText.con handNil_ok), rfl⟩
  have g2 : Good Tryd.prog 20 w0 O Post y T2 p2 L2 := good_lfp fun J2 h2 => good_part (hp (atT T2 J2)) (runOK_of (hp (atT T2 J2)) hnp ⟨cutOK_at h2, trivial⟩ fin) (fun x => (seg2 laws_markText.impl (atT T2 J2) x.1 x.2.1 x.2.2.1).trans (by simp only [atT_self] <;> rfl))
  exact good_first (hp (atT T2 L2)) (runOK_of (hp (atT T2 L2)) hnp ⟨cutOK_at g2, trivial⟩ fin) (fun x => (seg0 laws_markText.impl (atT T2 L2) x.1 x.2.1).trans (by simp only [atT_self] <;> rfl))
end laws_markStringS

/-! ### loop.example/wholecheck/laws.markTermS -/
namespace laws_markTermS
noncomputable abbrev c0 : Code := (Tryd.f11.body).getD .skip
noncomputable abbrev pin : Tpl := ⟨[⟨0, false, [.row 500001]⟩, ⟨1, false, [.d (.int .i64)]⟩], [(500001, .row 40 false (.prod (.int .i64) (.prod (.int .i64) (.prod (.int .i64) (.last (.int .i64))))))]⟩
noncomputable abbrev pout : Tpl := ⟨[⟨0, false, [.d (.int .i64)]⟩, ⟨1, false, [.row 500001]⟩], [(500001, .row 40 false (.prod (.int .i64) (.prod (.int .i64) (.prod (.int .i64) (.last (.int .i64))))))]⟩
noncomputable abbrev p2 : Tpl := ⟨[⟨0, false, [.row 500001]⟩, ⟨1, false, [.d (.int .i64)]⟩, ⟨5, false, [.d (.int .i64)]⟩], [(500001, .row 40 false (.prod (.int .i64) (.prod (.int .i64) (.prod (.int .i64) (.last (.int .i64))))))]⟩
noncomputable def T2 : List Item := (find 2 c0 []).getD []
noncomputable abbrev PI := Int × (List (Int × Int × Int × Int)) × Unit
noncomputable abbrev PO := Int × (List (Int × Int × Int × Int)) × Unit
noncomputable abbrev P2 := Int × Int × (List (Int × Int × Int × Int)) × Unit
noncomputable abbrev rs : List ResultVar := [.tmp 4]
noncomputable def F0 (J2 : P2 → Option PO) (x1 : Int) (s1 : List (Int × Int × Int × Int)) : Option PO :=
  J2 (x1, 0, s1, ())
noncomputable def F2 (J2 : P2 → Option PO) (t1 : Int) (t5 : Int) (s1 : List (Int × Int × Int × Int)) : Option PO :=
  bif decide (t5 < (s1.length : Int)) then
    bif inb t5 s1.length then
      bif inb t5 (s1.set t5.toNat (t1, (s1.getD t5.toNat (0, 0, 0, 0)).2)).length then
        bif inb t5 ((s1.set t5.toNat (t1, (s1.getD t5.toNat (0, 0, 0, 0)).2)).set t5.toNat (((s1.set t5.toNat (t1, (s1.getD t5.toNat (0, 0, 0, 0)).2)).getD t5.toNat (0, 0, 0, 0)).1, wI (t1 + 1), ((s1.set t5.toNat (t1, (s1.getD t5.toNat (0, 0, 0, 0)).2)).getD t5.toNat (0, 0, 0, 0)).2.2)).length then
          bif inb t5 (((s1.set t5.toNat (t1, (s1.getD t5.toNat (0, 0, 0, 0)).2)).set t5.toNat (((s1.set t5.toNat (t1, (s1.getD t5.toNat (0, 0, 0, 0)).2)).getD t5.toNat (0, 0, 0, 0)).1, wI (t1 + 1), ((s1.set t5.toNat (t1, (s1.getD t5.toNat (0, 0, 0, 0)).2)).getD t5.toNat (0, 0, 0, 0)).2.2)).set t5.toNat ((((s1.set t5.toNat (t1, (s1.getD t5.toNat (0, 0, 0, 0)).2)).set t5.toNat (((s1.set t5.toNat (t1, (s1.getD t5.toNat (0, 0, 0, 0)).2)).getD t5.toNat (0, 0, 0, 0)).1, wI (t1 + 1), ((s1.set t5.toNat (t1, (s1.getD t5.toNat (0, 0, 0, 0)).2)).getD t5.toNat (0, 0, 0, 0)).2.2)).getD t5.toNat (0, 0, 0, 0)).1, (((s1.set t5.toNat (t1, (s1.getD t5.toNat (0, 0, 0, 0)).2)).set t5.toNat (((s1.set t5.toNat (t1, (s1.getD t5.toNat (0, 0, 0, 0)).2)).getD t5.toNat (0, 0, 0, 0)).1, wI (t1 + 1), ((s1.set t5.toNat (t1, (s1.getD t5.toNat (0, 0, 0, 0)).2)).getD t5.toNat (0, 0, 0, 0)).2.2)).getD t5.toNat (0, 0, 0, 0)).2.1, wI ((wI (t1 + 1)) + 1), (((s1.set t5.toNat (t1, (s1.getD t5.toNat (0, 0, 0, 0)).2)).set t5.toNat (((s1.set t5.toNat (t1, (s1.getD t5.toNat (0, 0, 0, 0)).2)).getD t5.toNat (0, 0, 0, 0)).1, wI (t1 + 1), ((s1.set t5.toNat (t1, (s1.getD t5.toNat (0, 0, 0, 0)).2)).getD t5.toNat (0, 0, 0, 0)).2.2)).getD t5.toNat (0, 0, 0, 0)).2.2.2)).length then
            J2 (wI ((wI ((wI ((wI (t1 + 1)) + 1)) + 1)) + 1), wI (t5 + 1), (((s1.set t5.toNat (t1, (s1.getD t5.toNat (0, 0, 0, 0)).2)).set t5.toNat (((s1.set t5.toNat (t1, (s1.getD t5.toNat (0, 0, 0, 0)).2)).getD t5.toNat (0, 0, 0, 0)).1, wI (t1 + 1), ((s1.set t5.toNat (t1, (s1.getD t5.toNat (0, 0, 0, 0)).2)).getD t5.toNat (0, 0, 0, 0)).2.2)).set t5.toNat ((((s1.set t5.toNat (t1, (s1.getD t5.toNat (0, 0, 0, 0)).2)).set t5.toNat (((s1.set t5.toNat (t1, (s1.getD t5.toNat (0, 0, 0, 0)).2)).getD t5.toNat (0, 0, 0, 0)).1, wI (t1 + 1), ((s1.set t5.toNat (t1, (s1.getD t5.toNat (0, 0, 0, 0)).2)).getD t5.toNat (0, 0, 0, 0)).2.2)).getD t5.toNat (0, 0, 0, 0)).1, (((s1.set t5.toNat (t1, (s1.getD t5.toNat (0, 0, 0, 0)).2)).set t5.toNat (((s1.set t5.toNat (t1, (s1.getD t5.toNat (0, 0, 0, 0)).2)).getD t5.toNat (0, 0, 0, 0)).1, wI (t1 + 1), ((s1.set t5.toNat (t1, (s1.getD t5.toNat (0, 0, 0, 0)).2)).getD t5.toNat (0, 0, 0, 0)).2.2)).getD t5.toNat (0, 0, 0, 0)).2.1, wI ((wI (t1 + 1)) + 1), (((s1.set t5.toNat (t1, (s1.getD t5.toNat (0, 0, 0, 0)).2)).set t5.toNat (((s1.set t5.toNat (t1, (s1.getD t5.toNat (0, 0, 0, 0)).2)).getD t5.toNat (0, 0, 0, 0)).1, wI (t1 + 1), ((s1.set t5.toNat (t1, (s1.getD t5.toNat (0, 0, 0, 0)).2)).getD t5.toNat (0, 0, 0, 0)).2.2)).getD t5.toNat (0, 0, 0, 0)).2.2.2)).set t5.toNat (((((s1.set t5.toNat (t1, (s1.getD t5.toNat (0, 0, 0, 0)).2)).set t5.toNat (((s1.set t5.toNat (t1, (s1.getD t5.toNat (0, 0, 0, 0)).2)).getD t5.toNat (0, 0, 0, 0)).1, wI (t1 + 1), ((s1.set t5.toNat (t1, (s1.getD t5.toNat (0, 0, 0, 0)).2)).getD t5.toNat (0, 0, 0, 0)).2.2)).set t5.toNat ((((s1.set t5.toNat (t1, (s1.getD t5.toNat (0, 0, 0, 0)).2)).set t5.toNat (((s1.set t5.toNat (t1, (s1.getD t5.toNat (0, 0, 0, 0)).2)).getD t5.toNat (0, 0, 0, 0)).1, wI (t1 + 1), ((s1.set t5.toNat (t1, (s1.getD t5.toNat (0, 0, 0, 0)).2)).getD t5.toNat (0, 0, 0, 0)).2.2)).getD t5.toNat (0, 0, 0, 0)).1, (((s1.set t5.toNat (t1, (s1.getD t5.toNat (0, 0, 0, 0)).2)).set t5.toNat (((s1.set t5.toNat (t1, (s1.getD t5.toNat (0, 0, 0, 0)).2)).getD t5.toNat (0, 0, 0, 0)).1, wI (t1 + 1), ((s1.set t5.toNat (t1, (s1.getD t5.toNat (0, 0, 0, 0)).2)).getD t5.toNat (0, 0, 0, 0)).2.2)).getD t5.toNat (0, 0, 0, 0)).2.1, wI ((wI (t1 + 1)) + 1), (((s1.set t5.toNat (t1, (s1.getD t5.toNat (0, 0, 0, 0)).2)).set t5.toNat (((s1.set t5.toNat (t1, (s1.getD t5.toNat (0, 0, 0, 0)).2)).getD t5.toNat (0, 0, 0, 0)).1, wI (t1 + 1), ((s1.set t5.toNat (t1, (s1.getD t5.toNat (0, 0, 0, 0)).2)).getD t5.toNat (0, 0, 0, 0)).2.2)).getD t5.toNat (0, 0, 0, 0)).2.2.2)).getD t5.toNat (0, 0, 0, 0)).1, ((((s1.set t5.toNat (t1, (s1.getD t5.toNat (0, 0, 0, 0)).2)).set t5.toNat (((s1.set t5.toNat (t1, (s1.getD t5.toNat (0, 0, 0, 0)).2)).getD t5.toNat (0, 0, 0, 0)).1, wI (t1 + 1), ((s1.set t5.toNat (t1, (s1.getD t5.toNat (0, 0, 0, 0)).2)).getD t5.toNat (0, 0, 0, 0)).2.2)).set t5.toNat ((((s1.set t5.toNat (t1, (s1.getD t5.toNat (0, 0, 0, 0)).2)).set t5.toNat (((s1.set t5.toNat (t1, (s1.getD t5.toNat (0, 0, 0, 0)).2)).getD t5.toNat (0, 0, 0, 0)).1, wI (t1 + 1), ((s1.set t5.toNat (t1, (s1.getD t5.toNat (0, 0, 0, 0)).2)).getD t5.toNat (0, 0, 0, 0)).2.2)).getD t5.toNat (0, 0, 0, 0)).1, (((s1.set t5.toNat (t1, (s1.getD t5.toNat (0, 0, 0, 0)).2)).set t5.toNat (((s1.set t5.toNat (t1, (s1.getD t5.toNat (0, 0, 0, 0)).2)).getD t5.toNat (0, 0, 0, 0)).1, wI (t1 + 1), ((s1.set t5.toNat (t1, (s1.getD t5.toNat (0, 0, 0, 0)).2)).getD t5.toNat (0, 0, 0, 0)).2.2)).getD t5.toNat (0, 0, 0, 0)).2.1, wI ((wI (t1 + 1)) + 1), (((s1.set t5.toNat (t1, (s1.getD t5.toNat (0, 0, 0, 0)).2)).set t5.toNat (((s1.set t5.toNat (t1, (s1.getD t5.toNat (0, 0, 0, 0)).2)).getD t5.toNat (0, 0, 0, 0)).1, wI (t1 + 1), ((s1.set t5.toNat (t1, (s1.getD t5.toNat (0, 0, 0, 0)).2)).getD t5.toNat (0, 0, 0, 0)).2.2)).getD t5.toNat (0, 0, 0, 0)).2.2.2)).getD t5.toNat (0, 0, 0, 0)).2.1, ((((s1.set t5.toNat (t1, (s1.getD t5.toNat (0, 0, 0, 0)).2)).set t5.toNat (((s1.set t5.toNat (t1, (s1.getD t5.toNat (0, 0, 0, 0)).2)).getD t5.toNat (0, 0, 0, 0)).1, wI (t1 + 1), ((s1.set t5.toNat (t1, (s1.getD t5.toNat (0, 0, 0, 0)).2)).getD t5.toNat (0, 0, 0, 0)).2.2)).set t5.toNat ((((s1.set t5.toNat (t1, (s1.getD t5.toNat (0, 0, 0, 0)).2)).set t5.toNat (((s1.set t5.toNat (t1, (s1.getD t5.toNat (0, 0, 0, 0)).2)).getD t5.toNat (0, 0, 0, 0)).1, wI (t1 + 1), ((s1.set t5.toNat (t1, (s1.getD t5.toNat (0, 0, 0, 0)).2)).getD t5.toNat (0, 0, 0, 0)).2.2)).getD t5.toNat (0, 0, 0, 0)).1, (((s1.set t5.toNat (t1, (s1.getD t5.toNat (0, 0, 0, 0)).2)).set t5.toNat (((s1.set t5.toNat (t1, (s1.getD t5.toNat (0, 0, 0, 0)).2)).getD t5.toNat (0, 0, 0, 0)).1, wI (t1 + 1), ((s1.set t5.toNat (t1, (s1.getD t5.toNat (0, 0, 0, 0)).2)).getD t5.toNat (0, 0, 0, 0)).2.2)).getD t5.toNat (0, 0, 0, 0)).2.1, wI ((wI (t1 + 1)) + 1), (((s1.set t5.toNat (t1, (s1.getD t5.toNat (0, 0, 0, 0)).2)).set t5.toNat (((s1.set t5.toNat (t1, (s1.getD t5.toNat (0, 0, 0, 0)).2)).getD t5.toNat (0, 0, 0, 0)).1, wI (t1 + 1), ((s1.set t5.toNat (t1, (s1.getD t5.toNat (0, 0, 0, 0)).2)).getD t5.toNat (0, 0, 0, 0)).2.2)).getD t5.toNat (0, 0, 0, 0)).2.2.2)).getD t5.toNat (0, 0, 0, 0)).2.2.1, wI ((wI ((wI (t1 + 1)) + 1)) + 1)), ())
          else
            none
        else
          none
      else
        none
    else
      none
  else
    some (t1, s1, ())
noncomputable def hd {R : Type} : Hand R := handNil
noncomputable def pg (J2 : List Item → P2 → Option PO) : Prog PO := { nt := 41, np := 1, tb := tabOf tab, hd := hd, cuts := cutsOf [(2, cut p2 J2)], fin := endOf (tabOf tab) rs 1 pout }
noncomputable def q : FuncId → Bool := fun f => hasId [] f
theorem seg0 (J2 : List Item → P2 → Option PO) (x1 : Int) (s1 : List (Int × Int × Int × Int)) : arun (pg J2) 5000 [.code c0] (mk pin (x1, s1, ())) = F0 (J2 T2) x1 s1 := by kernel_rfl
theorem seg2 (J2 : List Item → P2 → Option PO) (t1 : Int) (t5 : Int) (s1 : List (Int × Int × Int × Int)) : arun1 (pg J2) 5000 T2 (mk p2 (t1, t5, s1, ())) = F2 (J2 T2) t1 t5 s1 := by kernel_rfl
noncomputable def L2 : P2 → Option PO := lfp fun J2 x => F2 J2 x.1 x.2.1 x.2.2.1
noncomputable def impl : PI → Option PO := fun x => F0 L2 x.1 x.2.1
theorem F2_le {J2 J2' : P2 → Option PO} (h2 : OLe J2 J2') (t1 : Int) (t5 : Int) (s1 : List (Int × Int × Int × Int)) : OptLe (F2 J2 t1 t5 s1) (F2 J2' t1 t5 s1) := by unfold F2; exact .cond (.cond (.cond (.cond (.cond (.of h2 _) (.refl _)) (.refl _)) (.refl _)) (.refl _)) (.refl _)
theorem L2_mono : OMono fun J2 (x : P2) => F2 J2 x.1 x.2.1 x.2.2.1 := fun J J' h2 x => F2_le h2 x.1 x.2.1 x.2.2.1
theorem L2_eq (t1 : Int) (t5 : Int) (s1 : List (Int × Int × Int × Int)) : L2 (t1, t5, s1, ()) = F2 (L2) t1 t5 s1 := congrFun (lfp_eq (L2_mono)) _
theorem impl_eq (x1 : Int) (s1 : List (Int × Int × Int × Int)) : impl (x1, s1, ()) = F0 L2 x1 s1 := rfl
theorem con : Con Tryd.prog 11 2 rs.length 1 pin pout impl := by
  refine con_of_run' (nt := 41) (c := c0) tabGood Tryd.func11 (by kernel_rfl) (by kernel_rfl) (by kernel_rfl) (by kernel_rfl) (by kernel_rfl) (by kernel_rfl) (by kernel_rfl) ?_
  intro w0 O y hnp
  generalize hPost : (fun (a' : Act) (w' : World) => ∃ μ' S' st', Rel 41 w0 O μ' S' st' a' w' ∧ endOf (tabOf tab) rs 1 pout st' = some y) = Post
  have fin : ∀ (μ : Id → Option Value) (S : Nat → Prop) (st : St) (a : Act) (w : World), Rel 41 w0 O μ S st a w → endOf (tabOf tab) rs 1 pout st = some y → Post a w := fun μ S st a w h he => by rw [← hPost]; exact ⟨μ, S, st, h, he⟩
  have hp : ∀ (J2 : List Item → P2 → Option PO), Parts Tryd.prog 11 (pg J2) [(2, cut p2 J2)] := fun J2 => ⟨tab_ok tabGood rfl, handNil_ok, rfl⟩
  have g2 : Good Tryd.prog 41 w0 O Post y T2 p2 L2 := good_lfp fun J2 h2 => good_part (hp (atT T2 J2)) (runOK_of (hp (atT T2 J2)) hnp ⟨cutOK_at h2, trivial⟩ fin) (fun x => (seg2 (atT T2 J2) x.1 x.2.1 x.2.2.1).trans (by simp only [atT_self] <;> rfl))
  exact good_first (hp (atT T2 L2)) (runOK_of (hp (atT T2 L2)) hnp ⟨cutOK_at g2, trivial⟩ fin) (fun x => (seg0 (atT T2 L2) x.1 x.2.1).trans (by simp only [atT_self] <;> rfl))
end laws_markTermS

/-! ### loop.example/wholecheck/laws.heldTermS -/
namespace laws_heldTermS
noncomputable abbrev c0 : Code := (Tryd.f12.body).getD .skip
noncomputable abbrev pin : Tpl := ⟨[⟨0, false, [.d (.sl (.prod (.int .i64) (.prod (.int .i64) (.prod (.int .i64) (.last (.int .i64))))))]⟩, ⟨1, false, [.d (.int .i64)]⟩], []⟩
noncomputable abbrev pout : Tpl := ⟨[⟨0, false, [.d (.int .i64)]⟩], []⟩
noncomputable abbrev p2 : Tpl := ⟨[⟨0, false, [.d (.sl (.prod (.int .i64) (.prod (.int .i64) (.prod (.int .i64) (.last (.int .i64))))))]⟩, ⟨1, false, [.d (.int .i64)]⟩, ⟨5, false, [.d (.int .i64)]⟩], []⟩
noncomputable def T2 : List Item := (find 2 c0 []).getD []
noncomputable abbrev PI := (List (Int × Int × Int × Int)) × Int × Unit
noncomputable abbrev PO := Int × Unit
noncomputable abbrev P2 := (List (Int × Int × Int × Int)) × Int × Int × Unit
noncomputable abbrev rs : List ResultVar := [.tmp 4]
noncomputable def F0 (J2 : P2 → Option PO) (x0 : List (Int × Int × Int × Int)) (x1 : Int) : Option PO :=
  J2 (x0, x1, 0, ())
noncomputable def F2 (J2 : P2 → Option PO) (t0 : List (Int × Int × Int × Int)) (t1 : Int) (t5 : Int) : Option PO :=
  bif decide (t5 < (t0.length : Int)) then
    bif inb t5 t0.length then
      bif (t0.getD t5.toNat (0, 0, 0, 0)).1 != t1 then
        some ((-1), ())
      else
        bif inb t5 t0.length then
          bif (t0.getD t5.toNat (0, 0, 0, 0)).2.1 != wI (t1 + 1) then
            some ((-1), ())
          else
            bif inb t5 t0.length then
              bif (t0.getD t5.toNat (0, 0, 0, 0)).2.2.1 != wI ((wI (t1 + 1)) + 1) then
                some ((-1), ())
              else
                bif inb t5 t0.length then
                  bif (t0.getD t5.toNat (0, 0, 0, 0)).2.2.2 != wI ((wI ((wI (t1 + 1)) + 1)) + 1) then
                    some ((-1), ())
                  else
                    J2 (t0, wI ((wI ((wI ((wI (t1 + 1)) + 1)) + 1)) + 1), wI (t5 + 1), ())
                else
                  none
            else
              none
        else
          none
    else
      none
  else
    some (t1, ())
noncomputable def hd {R : Type} : Hand R := handNil
noncomputable def pg (J2 : List Item → P2 → Option PO) : Prog PO := { nt := 49, np := 1, tb := tabOf tab, hd := hd, cuts := cutsOf [(2, cut p2 J2)], fin := endOf (tabOf tab) rs 1 pout }
noncomputable def q : FuncId → Bool := fun f => hasId [] f
theorem seg0 (J2 : List Item → P2 → Option PO) (x0 : List (Int × Int × Int × Int)) (x1 : Int) : arun (pg J2) 5000 [.code c0] (mk pin (x0, x1, ())) = F0 (J2 T2) x0 x1 := by kernel_rfl
theorem seg2 (J2 : List Item → P2 → Option PO) (t0 : List (Int × Int × Int × Int)) (t1 : Int) (t5 : Int) : arun1 (pg J2) 5000 T2 (mk p2 (t0, t1, t5, ())) = F2 (J2 T2) t0 t1 t5 := by kernel_rfl
noncomputable def L2 : P2 → Option PO := lfp fun J2 x => F2 J2 x.1 x.2.1 x.2.2.1
noncomputable def impl : PI → Option PO := fun x => F0 L2 x.1 x.2.1
theorem F2_le {J2 J2' : P2 → Option PO} (h2 : OLe J2 J2') (t0 : List (Int × Int × Int × Int)) (t1 : Int) (t5 : Int) : OptLe (F2 J2 t0 t1 t5) (F2 J2' t0 t1 t5) := by unfold F2; exact .cond (.cond (.cond (.refl _) (.cond (.cond (.refl _) (.cond (.cond (.refl _) (.cond (.cond (.refl _) (.of h2 _)) (.refl _))) (.refl _))) (.refl _))) (.refl _)) (.refl _)
theorem L2_mono : OMono fun J2 (x : P2) => F2 J2 x.1 x.2.1 x.2.2.1 := fun J J' h2 x => F2_le h2 x.1 x.2.1 x.2.2.1
theorem L2_eq (t0 : List (Int × Int × Int × Int)) (t1 : Int) (t5 : Int) : L2 (t0, t1, t5, ()) = F2 (L2) t0 t1 t5 := congrFun (lfp_eq (L2_mono)) _
theorem impl_eq (x0 : List (Int × Int × Int × Int)) (x1 : Int) : impl (x0, x1, ()) = F0 L2 x0 x1 := rfl
theorem con : Con Tryd.prog 12 2 rs.length 1 pin pout impl := by
  refine con_of_run' (nt := 49) (c := c0) tabGood Tryd.func12 (by kernel_rfl) (by kernel_rfl) (by kernel_rfl) (by kernel_rfl) (by kernel_rfl) (by kernel_rfl) (by kernel_rfl) ?_
  intro w0 O y hnp
  generalize hPost : (fun (a' : Act) (w' : World) => ∃ μ' S' st', Rel 49 w0 O μ' S' st' a' w' ∧ endOf (tabOf tab) rs 1 pout st' = some y) = Post
  have fin : ∀ (μ : Id → Option Value) (S : Nat → Prop) (st : St) (a : Act) (w : World), Rel 49 w0 O μ S st a w → endOf (tabOf tab) rs 1 pout st = some y → Post a w := fun μ S st a w h he => by rw [← hPost]; exact ⟨μ, S, st, h, he⟩
  have hp : ∀ (J2 : List Item → P2 → Option PO), Parts Tryd.prog 12 (pg J2) [(2, cut p2 J2)] := fun J2 => ⟨tab_ok tabGood rfl, handNil_ok, rfl⟩
  have g2 : Good Tryd.prog 49 w0 O Post y T2 p2 L2 := good_lfp fun J2 h2 => good_part (hp (atT T2 J2)) (runOK_of (hp (atT T2 J2)) hnp ⟨cutOK_at h2, trivial⟩ fin) (fun x => (seg2 (atT T2 J2) x.1 x.2.1 x.2.2.1).trans (by simp only [atT_self] <;> rfl))
  exact good_first (hp (atT T2 L2)) (runOK_of (hp (atT T2 L2)) hnp ⟨cutOK_at g2, trivial⟩ fin) (fun x => (seg0 (atT T2 L2) x.1 x.2.1).trans (by simp only [atT_self] <;> rfl))
end laws_heldTermS

/-! ### loop.example/wholecheck/laws.FnExactReadExpr -/
namespace laws_FnExactReadExpr
noncomputable abbrev c0 : Code := (Tryd.f3.body).getD .skip
noncomputable abbrev pin : Tpl := ⟨[⟨0, false, [.d (.sl .str)]⟩, ⟨1, false, [.d .str]⟩], []⟩
noncomputable abbrev pout : Tpl := ⟨[⟨0, false, [.d .bool]⟩], []⟩
noncomputable abbrev p12 : Tpl := ⟨[⟨0, false, [.d (.sl .str)]⟩, ⟨1, false, [.d .str]⟩, ⟨6, false, [.row 3000000]⟩, ⟨7, false, [.d .bool]⟩, ⟨8, false, [.row 3000001]⟩, ⟨9, false, [.row 3000002]⟩, ⟨10, false, [.d .bool]⟩], [(3000000, .row 40 true (.prod (.int .i64) (.prod (.int .i64) (.prod (.int .i64) (.last (.int .i64)))))), (3000001, .row 9 false .str), (3000002, .row 40 false (.prod (.int .i64) (.prod (.int .i64) (.prod (.int .i64) (.last (.int .i64))))))]⟩
noncomputable def T12 : List Item := (find 12 c0 []).getD []
noncomputable abbrev p18 : Tpl := ⟨[⟨0, false, [.d (.sl .str)]⟩, ⟨1, false, [.d .str]⟩, ⟨6, false, [.row 3000000]⟩, ⟨7, false, [.d .bool]⟩, ⟨9, false, [.row 3000001]⟩], [(3000000, .row 40 true (.prod (.int .i64) (.prod (.int .i64) (.prod (.int .i64) (.last (.int .i64)))))), (3000001, .row 40 false (.prod (.int .i64) (.prod (.int .i64) (.prod (.int .i64) (.last (.int .i64))))))]⟩
noncomputable def T18 : List Item := (find 18 c0 []).getD []
noncomputable abbrev p29 : Tpl := ⟨[⟨9, false, [.row 3000000]⟩, ⟨12, false, [.d (.int .i64)]⟩], [(3000000, .row 40 false (.prod (.int .i64) (.prod (.int .i64) (.prod (.int .i64) (.last (.int .i64))))))]⟩
noncomputable def T29 : List Item := (find 29 c0 []).getD []
noncomputable abbrev PI := (List (List UInt8)) × (List UInt8) × Unit
noncomputable abbrev PO := Bool × Unit
noncomputable abbrev P12 := (List (List UInt8)) × (List UInt8) × Bool × Bool × (List (Int × Int × Int × Int)) × (List (List UInt8)) × (List (Int × Int × Int × Int)) × Unit
noncomputable abbrev P18 := (List (List UInt8)) × (List UInt8) × Bool × (List (Int × Int × Int × Int)) × (List (Int × Int × Int × Int)) × Unit
noncomputable abbrev P29 := Int × (List (Int × Int × Int × Int)) × Unit
noncomputable abbrev rs : List ResultVar := [.tmp 4]
noncomputable def F0 (J12 : P12 → Option PO) (Gimpl_ReadExpr : impl_ReadExpr.PI → Option impl_ReadExpr.PO) (Glaws_eqTermS : laws_eqTermS.PI → Option laws_eqTermS.PO) (Glaws_szStringS : laws_szStringS.PI → Option laws_szStringS.PO) (Glaws_toStringS : laws_toStringS.PI → Option laws_toStringS.PO) (Gspec_ReadExpr : spec_ReadExpr.PI → Option spec_ReadExpr.PO) (x0 : List (List UInt8)) (x1 : List UInt8) : Option PO :=
  bif decide ((x1.length : Int) > 1048576) then
    some (true, ())
  else
    Option.bind (Glaws_szStringS (x0, 1048576, ())) fun y0 =>
    bif decide (y0.1 < 0) then
      some (true, ())
    else
      Option.bind (Glaws_toStringS (x0, ())) fun y1 =>
      Option.bind (Gspec_ReadExpr (x1, y1.1, ())) fun y2 =>
      Option.bind (Glaws_toStringS (x0, ())) fun y3 =>
      Option.bind (Gimpl_ReadExpr (y3.1, x1, ())) fun y4 =>
      Option.bind (Glaws_eqTermS (y4.2.1, y2.2.1, ())) fun y5 =>
      bif !y5.1 then
        some (false, ())
      else
        bif !(y4.1 == y2.1) then
          some (false, ())
        else
          J12 (x0, x1, y2.1, y4.1, y2.2.1, y3.1, y4.2.1, ())
noncomputable def F12 (J18 : P18 → Option PO) (Glaws_eqStringS : laws_eqStringS.PI → Option laws_eqStringS.PO) (Glaws_eqTermS : laws_eqTermS.PI → Option laws_eqTermS.PO) (Glaws_markStringS : laws_markStringS.PI → Option laws_markStringS.PO) (Glaws_toStringS : laws_toStringS.PI → Option laws_toStringS.PO) (t0 : List (List UInt8)) (t1 : List UInt8) (t7 : Bool) (t10 : Bool) (r0 : List (Int × Int × Int × Int)) (r1 : List (List UInt8)) (r2 : List (Int × Int × Int × Int)) : Option PO :=
  Option.bind (Glaws_toStringS (t0, ())) fun y6 =>
  Option.bind (Glaws_eqStringS (r1, y6.1, ())) fun y7 =>
  bif !y7.1 then
    some (false, ())
  else
    Option.bind (Glaws_markStringS (1, r1, ())) fun y8 =>
    bif decide (y8.1 < 0) then
      some (false, ())
    else
      Option.bind (Glaws_eqTermS (r2, r0, ())) fun y9 =>
      bif !y9.1 then
        some (false, ())
      else
        bif !(t10 == t7) then
          some (false, ())
        else
          J18 (t0, t1, t7, r0, r2, ())
noncomputable def F18 (J29 : P29 → Option PO) (Gimpl_ReadExpr : impl_ReadExpr.PI → Option impl_ReadExpr.PO) (Glaws_eqTermS : laws_eqTermS.PI → Option laws_eqTermS.PO) (Glaws_heldTermS : laws_heldTermS.PI → Option laws_heldTermS.PO) (Glaws_markTermS : laws_markTermS.PI → Option laws_markTermS.PO) (Glaws_toStringS : laws_toStringS.PI → Option laws_toStringS.PO) (t0 : List (List UInt8)) (t1 : List UInt8) (t7 : Bool) (r0 : List (Int × Int × Int × Int)) (r1 : List (Int × Int × Int × Int)) : Option PO :=
  Option.bind (Glaws_markTermS (1, r1, ())) fun y10 =>
  Option.bind (Glaws_heldTermS (y10.2.1, 1, ())) fun y11 =>
  bif decide (y11.1 < 0) then
    some (false, ())
  else
    bif y11.1 != y10.1 then
      some (false, ())
    else
      Option.bind (Glaws_toStringS (t0, ())) fun y12 =>
      Option.bind (Gimpl_ReadExpr (y12.1, t1, ())) fun y13 =>
      Option.bind (Glaws_eqTermS (y13.2.1, r0, ())) fun y14 =>
      bif !y14.1 then
        some (false, ())
      else
        bif !(y13.1 == t7) then
          some (false, ())
        else
          J29 (y10.1, y10.2.1, ())
noncomputable def F29 (Glaws_heldTermS : laws_heldTermS.PI → Option laws_heldTermS.PO) (t12 : Int) (r0 : List (Int × Int × Int × Int)) : Option PO :=
  Option.bind (Glaws_heldTermS (r0, 1, ())) fun y15 =>
  bif decide (y15.1 < 0) then
    some (false, ())
  else
    bif y15.1 != t12 then
      some (false, ())
    else
      some (true, ())
noncomputable def hd {R : Type} (Gimpl_ReadExpr : impl_ReadExpr.PI → Option impl_ReadExpr.PO) (Glaws_eqStringS : laws_eqStringS.PI → Option laws_eqStringS.PO) (Glaws_eqTermS : laws_eqTermS.PI → Option laws_eqTermS.PO) (Glaws_heldTermS : laws_heldTermS.PI → Option laws_heldTermS.PO) (Glaws_markStringS : laws_markStringS.PI → Option laws_markStringS.PO) (Glaws_markTermS : laws_markTermS.PI → Option laws_markTermS.PO) (Glaws_szStringS : laws_szStringS.PI → Option laws_szStringS.PO) (Glaws_toStringS : laws_toStringS.PI → Option laws_toStringS.PO) (Gspec_ReadExpr : spec_ReadExpr.PI → Option spec_ReadExpr.PO) : Hand R := (handAt 12 [74, 98] true ⟨2, 1, 1, laws_heldTermS.pin, laws_heldTermS.pout, Glaws_heldTermS⟩ (handAt 11 [71] true ⟨2, 1, 1, laws_markTermS.pin, laws_markTermS.pout, Glaws_markTermS⟩ (handAt 10 [55] true ⟨2, 1, 1, laws_markStringS.pin, laws_markStringS.pout, Glaws_markStringS⟩ (handAt 9 [51] true ⟨2, 1, 2, laws_eqStringS.pin, laws_eqStringS.pout, Glaws_eqStringS⟩ (handAt 8 [41, 61, 89] true ⟨2, 1, 2, laws_eqTermS.pin, laws_eqTermS.pout, Glaws_eqTermS⟩ (handAt 7 [36, 84] true ⟨2, 2, 2, impl_ReadExpr.pin, impl_ReadExpr.pout, Gimpl_ReadExpr⟩ (handAt 6 [26, 32, 50, 82] true ⟨1, 1, 1, laws_toStringS.pin, laws_toStringS.pout, Glaws_toStringS⟩ (handAt 5 [28] true ⟨2, 2, 2, spec_ReadExpr.pin, spec_ReadExpr.pout, Gspec_ReadExpr⟩ (handAt 4 [21] true ⟨2, 1, 1, laws_szStringS.pin, laws_szStringS.pout, Glaws_szStringS⟩ handNil)))))))))
noncomputable def pg (Gimpl_ReadExpr : impl_ReadExpr.PI → Option impl_ReadExpr.PO) (Glaws_eqStringS : laws_eqStringS.PI → Option laws_eqStringS.PO) (Glaws_eqTermS : laws_eqTermS.PI → Option laws_eqTermS.PO) (Glaws_heldTermS : laws_heldTermS.PI → Option laws_heldTermS.PO) (Glaws_markStringS : laws_markStringS.PI → Option laws_markStringS.PO) (Glaws_markTermS : laws_markTermS.PI → Option laws_markTermS.PO) (Glaws_szStringS : laws_szStringS.PI → Option laws_szStringS.PO) (Glaws_toStringS : laws_toStringS.PI → Option laws_toStringS.PO) (Gspec_ReadExpr : spec_ReadExpr.PI → Option spec_ReadExpr.PO) (J12 : List Item → P12 → Option PO) (J18 : List Item → P18 → Option PO) (J29 : List Item → P29 → Option PO) : Prog PO := { nt := 104, np := 2, tb := tabOf tab, hd := hd Gimpl_ReadExpr Glaws_eqStringS Glaws_eqTermS Glaws_heldTermS Glaws_markStringS Glaws_markTermS Glaws_szStringS Glaws_toStringS Gspec_ReadExpr, cuts := cutsOf [(12, cut p12 J12), (18, cut p18 J18), (29, cut p29 J29)], fin := endOf (tabOf tab) rs 2 pout }
noncomputable def q : FuncId → Bool := fun f => hasId [4, 8, 9, 12] f
theorem seg0 (Gimpl_ReadExpr : impl_ReadExpr.PI → Option impl_ReadExpr.PO) (Glaws_eqStringS : laws_eqStringS.PI → Option laws_eqStringS.PO) (Glaws_eqTermS : laws_eqTermS.PI → Option laws_eqTermS.PO) (Glaws_heldTermS : laws_heldTermS.PI → Option laws_heldTermS.PO) (Glaws_markStringS : laws_markStringS.PI → Option laws_markStringS.PO) (Glaws_markTermS : laws_markTermS.PI → Option laws_markTermS.PO) (Glaws_szStringS : laws_szStringS.PI → Option laws_szStringS.PO) (Glaws_toStringS : laws_toStringS.PI → Option laws_toStringS.PO) (Gspec_ReadExpr : spec_ReadExpr.PI → Option spec_ReadExpr.PO) (J12 : List Item → P12 → Option PO) (J18 : List Item → P18 → Option PO) (J29 : List Item → P29 → Option PO) (x0 : List (List UInt8)) (x1 : List UInt8) : arun (pg Gimpl_ReadExpr Glaws_eqStringS Glaws_eqTermS Glaws_heldTermS Glaws_markStringS Glaws_markTermS Glaws_szStringS Glaws_toStringS Gspec_ReadExpr J12 J18 J29) 5000 [.code c0] (mk pin (x0, x1, ())) = F0 (J12 T12) Gimpl_ReadExpr Glaws_eqTermS Glaws_szStringS Glaws_toStringS Gspec_ReadExpr x0 x1 := by kernel_rfl
theorem seg12 (Gimpl_ReadExpr : impl_ReadExpr.PI → Option impl_ReadExpr.PO) (Glaws_eqStringS : laws_eqStringS.PI → Option laws_eqStringS.PO) (Glaws_eqTermS : laws_eqTermS.PI → Option laws_eqTermS.PO) (Glaws_heldTermS : laws_heldTermS.PI → Option laws_heldTermS.PO) (Glaws_markStringS : laws_markStringS.PI → Option laws_markStringS.PO) (Glaws_markTermS : laws_markTermS.PI → Option laws_markTermS.PO) (Glaws_szStringS : laws_szStringS.PI → Option laws_szStringS.PO) (Glaws_toStringS : laws_toStringS.PI → Option laws_toStringS.PO) (Gspec_ReadExpr : spec_ReadExpr.PI → Option spec_ReadExpr.PO) (J12 : List Item → P12 → Option PO) (J18 : List Item → P18 → Option PO) (J29 : List Item → P29 → Option PO) (t0 : List (List UInt8)) (t1 : List UInt8) (t7 : Bool) (t10 : Bool) (r0 : List (Int × Int × Int × Int)) (r1 : List (List UInt8)) (r2 : List (Int × Int × Int × Int)) : arun1 (pg Gimpl_ReadExpr Glaws_eqStringS Glaws_eqTermS Glaws_heldTermS Glaws_markStringS Glaws_markTermS Glaws_szStringS Glaws_toStringS Gspec_ReadExpr J12 J18 J29) 5000 T12 (mk p12 (t0, t1, t7, t10, r0, r1, r2, ())) = F12 (J18 T18) Glaws_eqStringS Glaws_eqTermS Glaws_markStringS Glaws_toStringS t0 t1 t7 t10 r0 r1 r2 := by kernel_rfl
theorem seg18 (Gimpl_ReadExpr : impl_ReadExpr.PI → Option impl_ReadExpr.PO) (Glaws_eqStringS : laws_eqStringS.PI → Option laws_eqStringS.PO) (Glaws_eqTermS : laws_eqTermS.PI → Option laws_eqTermS.PO) (Glaws_heldTermS : laws_heldTermS.PI → Option laws_heldTermS.PO) (Glaws_markStringS : laws_markStringS.PI → Option laws_markStringS.PO) (Glaws_markTermS : laws_markTermS.PI → Option laws_markTermS.PO) (Glaws_szStringS : laws_szStringS.PI → Option laws_szStringS.PO) (Glaws_toStringS : laws_toStringS.PI → Option laws_toStringS.PO) (Gspec_ReadExpr : spec_ReadExpr.PI → Option spec_ReadExpr.PO) (J12 : List Item → P12 → Option PO) (J18 : List Item → P18 → Option PO) (J29 : List Item → P29 → Option PO) (t0 : List (List UInt8)) (t1 : List UInt8) (t7 : Bool) (r0 : List (Int × Int × Int × Int)) (r1 : List (Int × Int × Int × Int)) : arun1 (pg Gimpl_ReadExpr Glaws_eqStringS Glaws_eqTermS Glaws_heldTermS Glaws_markStringS Glaws_markTermS Glaws_szStringS Glaws_toStringS Gspec_ReadExpr J12 J18 J29) 5000 T18 (mk p18 (t0, t1, t7, r0, r1, ())) = F18 (J29 T29) Gimpl_ReadExpr Glaws_eqTermS Glaws_heldTermS Glaws_markTermS Glaws_toStringS t0 t1 t7 r0 r1 := by kernel_rfl
theorem seg29 (Gimpl_ReadExpr : impl_ReadExpr.PI → Option impl_ReadExpr.PO) (Glaws_eqStringS : laws_eqStringS.PI → Option laws_eqStringS.PO) (Glaws_eqTermS : laws_eqTermS.PI → Option laws_eqTermS.PO) (Glaws_heldTermS : laws_heldTermS.PI → Option laws_heldTermS.PO) (Glaws_markStringS : laws_markStringS.PI → Option laws_markStringS.PO) (Glaws_markTermS : laws_markTermS.PI → Option laws_markTermS.PO) (Glaws_szStringS : laws_szStringS.PI → Option laws_szStringS.PO) (Glaws_toStringS : laws_toStringS.PI → Option laws_toStringS.PO) (Gspec_ReadExpr : spec_ReadExpr.PI → Option spec_ReadExpr.PO) (J12 : List Item → P12 → Option PO) (J18 : List Item → P18 → Option PO) (J29 : List Item → P29 → Option PO) (t12 : Int) (r0 : List (Int × Int × Int × Int)) : arun1 (pg Gimpl_ReadExpr Glaws_eqStringS Glaws_eqTermS Glaws_heldTermS Glaws_markStringS Glaws_markTermS Glaws_szStringS Glaws_toStringS Gspec_ReadExpr J12 J18 J29) 5000 T29 (mk p29 (t12, r0, ())) = F29 Glaws_heldTermS t12 r0 := by kernel_rfl
noncomputable def L29 : P29 → Option PO := fun x => F29 laws_heldTermS.impl x.1 x.2.1
noncomputable def L18 : P18 → Option PO := fun x => F18 L29 impl_ReadExpr.impl laws_eqTermS.impl laws_heldTermS.impl laws_markTermS.impl laws_toStringS.impl x.1 x.2.1 x.2.2.1 x.2.2.2.1 x.2.2.2.2.1
noncomputable def L12 : P12 → Option PO := fun x => F12 L18 laws_eqStringS.impl laws_eqTermS.impl laws_markStringS.impl laws_toStringS.impl x.1 x.2.1 x.2.2.1 x.2.2.2.1 x.2.2.2.2.1 x.2.2.2.2.2.1 x.2.2.2.2.2.2.1
noncomputable def impl : PI → Option PO := fun x => F0 L12 impl_ReadExpr.impl laws_eqTermS.impl laws_szStringS.impl laws_toStringS.impl spec_ReadExpr.impl x.1 x.2.1
theorem L29_eq (t12 : Int) (r0 : List (Int × Int × Int × Int)) : L29 (t12, r0, ()) = F29 laws_heldTermS.impl t12 r0 := rfl
theorem L18_eq (t0 : List (List UInt8)) (t1 : List UInt8) (t7 : Bool) (r0 : List (Int × Int × Int × Int)) (r1 : List (Int × Int × Int × Int)) : L18 (t0, t1, t7, r0, r1, ()) = F18 (L29) impl_ReadExpr.impl laws_eqTermS.impl laws_heldTermS.impl laws_markTermS.impl laws_toStringS.impl t0 t1 t7 r0 r1 := rfl
theorem L12_eq (t0 : List (List UInt8)) (t1 : List UInt8) (t7 : Bool) (t10 : Bool) (r0 : List (Int × Int × Int × Int)) (r1 : List (List UInt8)) (r2 : List (Int × Int × Int × Int)) : L12 (t0, t1, t7, t10, r0, r1, r2, ()) = F12 (L18) laws_eqStringS.impl laws_eqTermS.impl laws_markStringS.impl laws_toStringS.impl t0 t1 t7 t10 r0 r1 r2 := rfl
theorem impl_eq (x0 : List (List UInt8)) (x1 : List UInt8) : impl (x0, x1, ()) = F0 L12 impl_ReadExpr.impl laws_eqTermS.impl laws_szStringS.impl laws_toStringS.impl spec_ReadExpr.impl x0 x1 := rfl
theorem con : Con Tryd.prog 3 2 rs.length 2 pin pout impl := by
  refine con_of_run' (nt := 104) (c := c0) tabGood Tryd.func3 (by kernel_rfl) (by kernel_rfl) (by kernel_rfl) (by kernel_rfl) (by kernel_rfl) (by kernel_rfl) (by kernel_rfl) ?_
  intro w0 O y hnp
  generalize hPost : (fun (a' : Act) (w' : World) => ∃ μ' S' st', Rel 104 w0 O μ' S' st' a' w' ∧ endOf (tabOf tab) rs 2 pout st' = some y) = Post
  have fin : ∀ (μ : Id → Option Value) (S : Nat → Prop) (st : St) (a : Act) (w : World), Rel 104 w0 O μ S st a w → endOf (tabOf tab) rs 2 pout st = some y → Post a w := fun μ S st a w h he => by rw [← hPost]; exact ⟨μ, S, st, h, he⟩
  have hp : ∀ (J12 : List Item → P12 → Option PO), ∀ (J18 : List Item → P18 → Option PO), ∀ (J29 : List Item → P29 → Option PO), Parts Tryd.prog 3 (pg impl_ReadExpr.impl laws_eqStringS.impl laws_eqTermS.impl laws_heldTermS.impl laws_markStringS.impl laws_markTermS.impl laws_szStringS.impl laws_toStringS.impl spec_ReadExpr.impl J12 J18 J29) [(12, cut p12 J12), (18, cut p18 J18), (29, cut p29 J29)] := fun J12 J18 J29 => ⟨tab_ok tabGood rfl, (handAt_ok laws_heldTermS.con (handAt_ok laws_markTermS.con (handAt_ok laws_markStringS.con (handAt_ok laws_eqStringS.con (handAt_ok laws_eqTermS.con (handAt_ok impl_ReadExpr.con (handAt_ok laws_toStringS.con (handAt_ok spec_ReadExpr.con (handAt_ok laws_szStringS.con handNil_ok))))))))), rfl⟩
  have g29 : Good Tryd.prog 104 w0 O Post y T29 p29 L29 := good_part (hp (atT T12 (fun _ => none)) (atT T18 (fun _ => none)) (atT T29 (fun _ => none))) (runOK_of (hp (atT T12 (fun _ => none)) (atT T18 (fun _ => none)) (atT T29 (fun _ => none))) hnp ⟨cutOK_at (p := p12) (T := T12) (J := fun _ => none) good_none, cutOK_at (p := p18) (T := T18) (J := fun _ => none) good_none, cutOK_at (p := p29) (T := T29) (J := fun _ => none) good_none, trivial⟩ fin) (fun x => (seg29 impl_ReadExpr.impl laws_eqStringS.impl laws_eqTermS.impl laws_heldTermS.impl laws_markStringS.impl laws_markTermS.impl laws_szStringS.impl laws_toStringS.impl spec_ReadExpr.impl (atT T12 (fun _ => none)) (atT T18 (fun _ => none)) (atT T29 (fun _ => none)) x.1 x.2.1))
  have g18 : Good Tryd.prog 104 w0 O Post y T18 p18 L18 := good_part (hp (atT T12 (fun _ => none)) (atT T18 (fun _ => none)) (atT T29 L29)) (runOK_of (hp (atT T12 (fun _ => none)) (atT T18 (fun _ => none)) (atT T29 L29)) hnp ⟨cutOK_at (p := p12) (T := T12) (J := fun _ => none) good_none, cutOK_at (p := p18) (T := T18) (J := fun _ => none) good_none, cutOK_at g29, trivial⟩ fin) (fun x => (seg18 impl_ReadExpr.impl laws_eqStringS.impl laws_eqTermS.impl laws_heldTermS.impl laws_markStringS.impl laws_markTermS.impl laws_szStringS.impl laws_toStringS.impl spec_ReadExpr.impl (atT T12 (fun _ => none)) (atT T18 (fun _ => none)) (atT T29 L29) x.1 x.2.1 x.2.2.1 x.2.2.2.1 x.2.2.2.2.1).trans (by simp only [atT_self] <;> rfl))
  have g12 : Good Tryd.prog 104 w0 O Post y T12 p12 L12 := good_part (hp (atT T12 (fun _ => none)) (atT T18 L18) (atT T29 (fun _ => none))) (runOK_of (hp (atT T12 (fun _ => none)) (atT T18 L18) (atT T29 (fun _ => none))) hnp ⟨cutOK_at (p := p12) (T := T12) (J := fun _ => none) good_none, cutOK_at g18, cutOK_at (p := p29) (T := T29) (J := fun _ => none) good_none, trivial⟩ fin) (fun x => (seg12 impl_ReadExpr.impl laws_eqStringS.impl laws_eqTermS.impl laws_heldTermS.impl laws_markStringS.impl laws_markTermS.impl laws_szStringS.impl laws_toStringS.impl spec_ReadExpr.impl (atT T12 (fun _ => none)) (atT T18 L18) (atT T29 (fun _ => none)) x.1 x.2.1 x.2.2.1 x.2.2.2.1 x.2.2.2.2.1 x.2.2.2.2.2.1 x.2.2.2.2.2.2.1).trans (by simp only [atT_self] <;> rfl))
  exact good_first (hp (atT T12 L12) (atT T18 (fun _ => none)) (atT T29 (fun _ => none))) (runOK_of (hp (atT T12 L12) (atT T18 (fun _ => none)) (atT T29 (fun _ => none))) hnp ⟨cutOK_at g12, cutOK_at (p := p18) (T := T18) (J := fun _ => none) good_none, cutOK_at (p := p29) (T := T29) (J := fun _ => none) good_none, trivial⟩ fin) (fun x => (seg0 impl_ReadExpr.impl laws_eqStringS.impl laws_eqTermS.impl laws_heldTermS.impl laws_markStringS.impl laws_markTermS.impl laws_szStringS.impl laws_toStringS.impl spec_ReadExpr.impl (atT T12 L12) (atT T18 (fun _ => none)) (atT T29 (fun _ => none)) x.1 x.2.1).trans (by simp only [atT_self] <;> rfl))
end laws_FnExactReadExpr
end Go.Proofs.YtfjnckjkpkhbdaaDoorB
