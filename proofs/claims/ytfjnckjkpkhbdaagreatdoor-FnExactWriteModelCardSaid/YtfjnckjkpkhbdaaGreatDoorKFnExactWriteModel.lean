/- PRINTED BY A PROGRAM OF THIS CLAIM'S AUTHOR (wip/gen): functions of the given program, their parts, their contracts. -/
import Derived.Test.YtfjnckjkpkhbdaaGreatDoorKFnExactWriteModelb
set_option linter.unusedVariables false
set_option linter.unusedSimpArgs false
set_option maxRecDepth 100000
namespace Go.Proofs.YtfjnckjkpkhbdaaGreatDoorB
open Go

/-! ### loop.example/wholecheck/laws.eqIntS -/
namespace laws_eqIntS
noncomputable abbrev c0 : Code := (Tryz.f174.body).getD .skip
noncomputable abbrev pin : Tpl := ⟨[⟨0, false, [.d (.sl (.int .i64))]⟩, ⟨1, false, [.d (.sl (.int .i64))]⟩], []⟩
noncomputable abbrev pout : Tpl := ⟨[⟨0, false, [.d .bool]⟩], []⟩
noncomputable abbrev p4 : Tpl := ⟨[⟨0, false, [.d (.sl (.int .i64))]⟩, ⟨1, false, [.d (.sl (.int .i64))]⟩, ⟨5, false, [.d (.int .i64)]⟩], []⟩
noncomputable def T4 : List Item := (find 4 c0 []).getD []
noncomputable abbrev p6 : Tpl := ⟨[⟨0, false, [.d (.sl (.int .i64))]⟩, ⟨1, false, [.d (.sl (.int .i64))]⟩, ⟨5, false, [.d (.int .i64)]⟩], []⟩
noncomputable def T6 : List Item := (find 6 c0 []).getD []
noncomputable abbrev PI := (List Int) × (List Int) × Unit
noncomputable abbrev PO := Bool × Unit
noncomputable abbrev P4 := (List Int) × (List Int) × Int × Unit
noncomputable abbrev P6 := (List Int) × (List Int) × Int × Unit
noncomputable abbrev rs : List ResultVar := [.tmp 4]
noncomputable def F0 (J4 : P4 → Option PO) (x0 : List Int) (x1 : List Int) : Option PO :=
  bif (x0.length : Int) != (x1.length : Int) then
    some (false, ())
  else
    J4 (x0, x1, 0, ())
noncomputable def F4 (J6 : P6 → Option PO) (t0 : List Int) (t1 : List Int) (t5 : Int) : Option PO :=
  bif decide (t5 < (t0.length : Int)) then
    J6 (t0, t1, t5, ())
  else
    some (true, ())
noncomputable def F6 (J4 : P4 → Option PO) (t0 : List Int) (t1 : List Int) (t5 : Int) : Option PO :=
  bif inb t5 t0.length then
    bif inb t5 t1.length then
      bif t0.getD t5.toNat 0 != t1.getD t5.toNat 0 then
        some (false, ())
      else
        J4 (t0, t1, wI (t5 + 1), ())
    else
      none
  else
    none
noncomputable def hd {R : Type} : Hand R := handNil
noncomputable def pg (J4 : List Item → P4 → Option PO) (J6 : List Item → P6 → Option PO) : Prog PO := { nt := 26, np := 2, tb := tabOf tab, hd := hd, cuts := cutsOf [(4, cut p4 J4), (6, cut p6 J6)], fin := endOf (tabOf tab) rs 2 pout }
noncomputable def q : FuncId → Bool := fun f => hasId [] f
theorem seg0 (J4 : List Item → P4 → Option PO) (J6 : List Item → P6 → Option PO) (x0 : List Int) (x1 : List Int) : arun (pg J4 J6) 5000 [.code c0] (mk pin (x0, x1, ())) = F0 (J4 T4) x0 x1 := by kernel_rfl
theorem seg4 (J4 : List Item → P4 → Option PO) (J6 : List Item → P6 → Option PO) (t0 : List Int) (t1 : List Int) (t5 : Int) : arun1 (pg J4 J6) 5000 T4 (mk p4 (t0, t1, t5, ())) = F4 (J6 T6) t0 t1 t5 := by kernel_rfl
theorem seg6 (J4 : List Item → P4 → Option PO) (J6 : List Item → P6 → Option PO) (t0 : List Int) (t1 : List Int) (t5 : Int) : arunQ (pg J4 J6) q [] [] 5000 T6 (mk p6 (t0, t1, t5, ())) = List.replicate (arunQ (pg J4 J6) q [] [] 5000 T6 (mk p6 (t0, t1, t5, ()))).length (F6 (J4 T4) t0 t1 t5) := by kernel_rfl
noncomputable def L6 (J4 : P4 → Option PO) : P6 → Option PO := fun x => F6 J4 x.1 x.2.1 x.2.2.1
noncomputable def L4 : P4 → Option PO := lfp fun J4 x => F4 (L6 J4) x.1 x.2.1 x.2.2.1
noncomputable def impl : PI → Option PO := fun x => F0 L4 x.1 x.2.1
theorem F6_le {J4 J4' : P4 → Option PO} (h4 : OLe J4 J4') (t0 : List Int) (t1 : List Int) (t5 : Int) : OptLe (F6 J4 t0 t1 t5) (F6 J4' t0 t1 t5) := by unfold F6; exact .cond (.cond (.cond (.refl _) (.of h4 _)) (.refl _)) (.refl _)
theorem F4_le {J6 J6' : P6 → Option PO} (h6 : OLe J6 J6') (t0 : List Int) (t1 : List Int) (t5 : Int) : OptLe (F4 J6 t0 t1 t5) (F4 J6' t0 t1 t5) := by unfold F4; exact .cond (.of h6 _) (.refl _)
theorem L6_eq (J4 : P4 → Option PO) (t0 : List Int) (t1 : List Int) (t5 : Int) : L6 J4 (t0, t1, t5, ()) = F6 J4 t0 t1 t5 := rfl
theorem L6_le {J4 J4' : P4 → Option PO} (h4 : OLe J4 J4') : OLe (L6 J4) (L6 J4') := fun x => F6_le h4 x.1 x.2.1 x.2.2.1
theorem L4_mono : OMono fun J4 (x : P4) => F4 (L6 J4) x.1 x.2.1 x.2.2.1 := fun J J' h4 x => F4_le (L6_le h4) x.1 x.2.1 x.2.2.1
theorem L4_eq (t0 : List Int) (t1 : List Int) (t5 : Int) : L4 (t0, t1, t5, ()) = F4 (L6 (L4)) t0 t1 t5 := congrFun (lfp_eq (L4_mono)) _
theorem impl_eq (x0 : List Int) (x1 : List Int) : impl (x0, x1, ()) = F0 L4 x0 x1 := rfl
theorem con : Con Tryz.prog 174 2 rs.length 2 pin pout impl := by
  refine con_of_run' (nt := 26) (c := c0) tabGood Tryz.func174 (by kernel_rfl) (by kernel_rfl) (by kernel_rfl) (by kernel_rfl) (by kernel_rfl) (by kernel_rfl) (by kernel_rfl) ?_
  intro w0 O y hnp
  generalize hPost : (fun (a' : Act) (w' : World) => ∃ μ' S' st', Rel 26 w0 O μ' S' st' a' w' ∧ endOf (tabOf tab) rs 2 pout st' = some y) = Post
  have fin : ∀ (μ : Id → Option Value) (S : Nat → Prop) (st : St) (a : Act) (w : World), Rel 26 w0 O μ S st a w → endOf (tabOf tab) rs 2 pout st = some y → Post a w := fun μ S st a w h he => by rw [← hPost]; exact ⟨μ, S, st, h, he⟩
  have hp : ∀ (J4 : List Item → P4 → Option PO), ∀ (J6 : List Item → P6 → Option PO), Parts Tryz.prog 174 (pg J4 J6) [(4, cut p4 J4), (6, cut p6 J6)] := fun J4 J6 => ⟨tab_ok tabGood rfl, handNil_ok, rfl⟩
  have g6 : ∀ (J4 : P4 → Option PO), Good Tryz.prog 26 w0 O Post y T4 p4 J4 → Good Tryz.prog 26 w0 O Post y T6 p6 (L6 J4) := fun J4 h4 => good_quiet (hs := hd) (cv' := hd) (Checked.mixed Tryz.checked) (hp (atT T4 J4) (atT T6 (fun _ => none))) handNil_D handNil_nat handNil_nat (runOK_of (hp (atT T4 J4) (atT T6 (fun _ => none))) hnp ⟨cutOK_at h4, cutOK_at (p := p6) (T := T6) (J := fun _ => none) good_none, trivial⟩ fin) (fun x => all_same ⟨_, (seg6 (atT T4 J4) (atT T6 (fun _ => none)) x.1 x.2.1 x.2.2.1).trans (by simp only [atT_self] <;> rfl)⟩)
  have g4 : Good Tryz.prog 26 w0 O Post y T4 p4 L4 := good_lfp fun J4 h4 => good_part (hp (atT T4 (fun _ => none)) (atT T6 (L6 J4))) (runOK_of (hp (atT T4 (fun _ => none)) (atT T6 (L6 J4))) hnp ⟨cutOK_at (p := p4) (T := T4) (J := fun _ => none) good_none, cutOK_at (g6 J4 h4), trivial⟩ fin) (fun x => (seg4 (atT T4 (fun _ => none)) (atT T6 (L6 J4)) x.1 x.2.1 x.2.2.1).trans (by simp only [atT_self] <;> rfl))
  exact good_first (hp (atT T4 L4) (atT T6 (fun _ => none))) (runOK_of (hp (atT T4 L4) (atT T6 (fun _ => none))) hnp ⟨cutOK_at g4, cutOK_at (p := p6) (T := T6) (J := fun _ => none) good_none, trivial⟩ fin) (fun x => (seg0 (atT T4 L4) (atT T6 (fun _ => none)) x.1 x.2.1).trans (by simp only [atT_self] <;> rfl))
end laws_eqIntS

/-! ### loop.example/wholecheck/laws.eqTermSS -/
namespace laws_eqTermSS
noncomputable abbrev c0 : Code := (Tryz.f50.body).getD .skip
noncomputable abbrev pin : Tpl := ⟨[⟨0, false, [.d (.sl (.sl (.prod (.int .i64) (.prod (.int .i64) (.prod (.int .i64) (.last (.int .i64)))))))]⟩, ⟨1, false, [.d (.sl (.sl (.prod (.int .i64) (.prod (.int .i64) (.prod (.int .i64) (.last (.int .i64)))))))]⟩], []⟩
noncomputable abbrev pout : Tpl := ⟨[⟨0, false, [.d .bool]⟩], []⟩
noncomputable abbrev p4 : Tpl := ⟨[⟨0, false, [.d (.sl (.sl (.prod (.int .i64) (.prod (.int .i64) (.prod (.int .i64) (.last (.int .i64)))))))]⟩, ⟨1, false, [.d (.sl (.sl (.prod (.int .i64) (.prod (.int .i64) (.prod (.int .i64) (.last (.int .i64)))))))]⟩, ⟨5, false, [.d (.int .i64)]⟩], []⟩
noncomputable def T4 : List Item := (find 4 c0 []).getD []
noncomputable abbrev p6 : Tpl := ⟨[⟨0, false, [.d (.sl (.sl (.prod (.int .i64) (.prod (.int .i64) (.prod (.int .i64) (.last (.int .i64)))))))]⟩, ⟨1, false, [.d (.sl (.sl (.prod (.int .i64) (.prod (.int .i64) (.prod (.int .i64) (.last (.int .i64)))))))]⟩, ⟨5, false, [.d (.int .i64)]⟩], []⟩
noncomputable def T6 : List Item := (find 6 c0 []).getD []
noncomputable abbrev PI := (List (List (Int × Int × Int × Int))) × (List (List (Int × Int × Int × Int))) × Unit
noncomputable abbrev PO := Bool × Unit
noncomputable abbrev P4 := (List (List (Int × Int × Int × Int))) × (List (List (Int × Int × Int × Int))) × Int × Unit
noncomputable abbrev P6 := (List (List (Int × Int × Int × Int))) × (List (List (Int × Int × Int × Int))) × Int × Unit
noncomputable abbrev rs : List ResultVar := [.tmp 4]
noncomputable def F0 (J4 : P4 → Option PO) (x0 : List (List (Int × Int × Int × Int))) (x1 : List (List (Int × Int × Int × Int))) : Option PO :=
  bif (x0.length : Int) != (x1.length : Int) then
    some (false, ())
  else
    J4 (x0, x1, 0, ())
noncomputable def F4 (J6 : P6 → Option PO) (t0 : List (List (Int × Int × Int × Int))) (t1 : List (List (Int × Int × Int × Int))) (t5 : Int) : Option PO :=
  bif decide (t5 < (t0.length : Int)) then
    J6 (t0, t1, t5, ())
  else
    some (true, ())
noncomputable def F6 (J4 : P4 → Option PO) (Glaws_eqTermS : laws_eqTermS.PI → Option laws_eqTermS.PO) (t0 : List (List (Int × Int × Int × Int))) (t1 : List (List (Int × Int × Int × Int))) (t5 : Int) : Option PO :=
  bif inb t5 t0.length then
    bif inb t5 t1.length then
      Option.bind (Glaws_eqTermS (t0.getD t5.toNat [], t1.getD t5.toNat [], ())) fun y0 =>
      bif !y0.1 then
        some (false, ())
      else
        J4 (t0, t1, wI (t5 + 1), ())
    else
      none
  else
    none
noncomputable def hd {R : Type} (Glaws_eqTermS : laws_eqTermS.PI → Option laws_eqTermS.PO) : Hand R := (handAt 102 [25] true ⟨2, 1, 2, laws_eqTermS.pin, laws_eqTermS.pout, Glaws_eqTermS⟩ handNil)
noncomputable def pg (Glaws_eqTermS : laws_eqTermS.PI → Option laws_eqTermS.PO) (J4 : List Item → P4 → Option PO) (J6 : List Item → P6 → Option PO) : Prog PO := { nt := 27, np := 2, tb := tabOf tab, hd := hd Glaws_eqTermS, cuts := cutsOf [(4, cut p4 J4), (6, cut p6 J6)], fin := endOf (tabOf tab) rs 2 pout }
noncomputable def q : FuncId → Bool := fun f => hasId [102] f
theorem seg0 (Glaws_eqTermS : laws_eqTermS.PI → Option laws_eqTermS.PO) (J4 : List Item → P4 → Option PO) (J6 : List Item → P6 → Option PO) (x0 : List (List (Int × Int × Int × Int))) (x1 : List (List (Int × Int × Int × Int))) : arun (pg Glaws_eqTermS J4 J6) 5000 [.code c0] (mk pin (x0, x1, ())) = F0 (J4 T4) x0 x1 := by kernel_rfl
theorem seg4 (Glaws_eqTermS : laws_eqTermS.PI → Option laws_eqTermS.PO) (J4 : List Item → P4 → Option PO) (J6 : List Item → P6 → Option PO) (t0 : List (List (Int × Int × Int × Int))) (t1 : List (List (Int × Int × Int × Int))) (t5 : Int) : arun1 (pg Glaws_eqTermS J4 J6) 5000 T4 (mk p4 (t0, t1, t5, ())) = F4 (J6 T6) t0 t1 t5 := by kernel_rfl
theorem seg6 (Glaws_eqTermS : laws_eqTermS.PI → Option laws_eqTermS.PO) (J4 : List Item → P4 → Option PO) (J6 : List Item → P6 → Option PO) (t0 : List (List (Int × Int × Int × Int))) (t1 : List (List (Int × Int × Int × Int))) (t5 : Int) : arunQ (pg Glaws_eqTermS J4 J6) q [] [] 5000 T6 (mk p6 (t0, t1, t5, ())) = List.replicate (arunQ (pg Glaws_eqTermS J4 J6) q [] [] 5000 T6 (mk p6 (t0, t1, t5, ()))).length (F6 (J4 T4) Glaws_eqTermS t0 t1 t5) := by kernel_rfl
noncomputable def L6 (J4 : P4 → Option PO) : P6 → Option PO := fun x => F6 J4 laws_eqTermS.impl x.1 x.2.1 x.2.2.1
noncomputable def L4 : P4 → Option PO := lfp fun J4 x => F4 (L6 J4) x.1 x.2.1 x.2.2.1
noncomputable def impl : PI → Option PO := fun x => F0 L4 x.1 x.2.1
theorem F6_le {J4 J4' : P4 → Option PO} (h4 : OLe J4 J4') {Glaws_eqTermS : laws_eqTermS.PI → Option laws_eqTermS.PO} (t0 : List (List (Int × Int × Int × Int))) (t1 : List (List (Int × Int × Int × Int))) (t5 : Int) : OptLe (F6 J4 Glaws_eqTermS t0 t1 t5) (F6 J4' Glaws_eqTermS t0 t1 t5) := by unfold F6; exact .cond (.cond (.bind (.refl _) fun _ => .cond (.refl _) (.of h4 _)) (.refl _)) (.refl _)
theorem F4_le {J6 J6' : P6 → Option PO} (h6 : OLe J6 J6') (t0 : List (List (Int × Int × Int × Int))) (t1 : List (List (Int × Int × Int × Int))) (t5 : Int) : OptLe (F4 J6 t0 t1 t5) (F4 J6' t0 t1 t5) := by unfold F4; exact .cond (.of h6 _) (.refl _)
theorem L6_eq (J4 : P4 → Option PO) (t0 : List (List (Int × Int × Int × Int))) (t1 : List (List (Int × Int × Int × Int))) (t5 : Int) : L6 J4 (t0, t1, t5, ()) = F6 J4 laws_eqTermS.impl t0 t1 t5 := rfl
theorem L6_le {J4 J4' : P4 → Option PO} (h4 : OLe J4 J4') : OLe (L6 J4) (L6 J4') := fun x => F6_le h4 x.1 x.2.1 x.2.2.1
theorem L4_mono : OMono fun J4 (x : P4) => F4 (L6 J4) x.1 x.2.1 x.2.2.1 := fun J J' h4 x => F4_le (L6_le h4) x.1 x.2.1 x.2.2.1
theorem L4_eq (t0 : List (List (Int × Int × Int × Int))) (t1 : List (List (Int × Int × Int × Int))) (t5 : Int) : L4 (t0, t1, t5, ()) = F4 (L6 (L4)) t0 t1 t5 := congrFun (lfp_eq (L4_mono)) _
theorem impl_eq (x0 : List (List (Int × Int × Int × Int))) (x1 : List (List (Int × Int × Int × Int))) : impl (x0, x1, ()) = F0 L4 x0 x1 := rfl
theorem con : Con Tryz.prog 50 2 rs.length 2 pin pout impl := by
  refine con_of_run' (nt := 27) (c := c0) tabGood Tryz.func50 (by kernel_rfl) (by kernel_rfl) (by kernel_rfl) (by kernel_rfl) (by kernel_rfl) (by kernel_rfl) (by kernel_rfl) ?_
  intro w0 O y hnp
  generalize hPost : (fun (a' : Act) (w' : World) => ∃ μ' S' st', Rel 27 w0 O μ' S' st' a' w' ∧ endOf (tabOf tab) rs 2 pout st' = some y) = Post
  have fin : ∀ (μ : Id → Option Value) (S : Nat → Prop) (st : St) (a : Act) (w : World), Rel 27 w0 O μ S st a w → endOf (tabOf tab) rs 2 pout st = some y → Post a w := fun μ S st a w h he => by rw [← hPost]; exact ⟨μ, S, st, h, he⟩
  have hp : ∀ (J4 : List Item → P4 → Option PO), ∀ (J6 : List Item → P6 → Option PO), Parts Tryz.prog 50 (pg laws_eqTermS.impl J4 J6) [(4, cut p4 J4), (6, cut p6 J6)] := fun J4 J6 => ⟨tab_ok tabGood rfl, (handAt_ok laws_eqTermS.con handNil_ok), rfl⟩
  have g6 : ∀ (J4 : P4 → Option PO), Good Tryz.prog 27 w0 O Post y T4 p4 J4 → Good Tryz.prog 27 w0 O Post y T6 p6 (L6 J4) := fun J4 h4 => good_quiet (hs := hd laws_eqTermS.impl) (cv' := hd laws_eqTermS.impl) (Checked.mixed Tryz.checked) (hp (atT T4 J4) (atT T6 (fun _ => none))) (handAt_D laws_eqTermS.con (by rfl) rfl handNil_D) (handAt_nat handNil_nat) (handAt_nat handNil_nat) (runOK_of (hp (atT T4 J4) (atT T6 (fun _ => none))) hnp ⟨cutOK_at h4, cutOK_at (p := p6) (T := T6) (J := fun _ => none) good_none, trivial⟩ fin) (fun x => all_same ⟨_, (seg6 laws_eqTermS.impl (atT T4 J4) (atT T6 (fun _ => none)) x.1 x.2.1 x.2.2.1).trans (by simp only [atT_self] <;> rfl)⟩)
  have g4 : Good Tryz.prog 27 w0 O Post y T4 p4 L4 := good_lfp fun J4 h4 => good_part (hp (atT T4 (fun _ => none)) (atT T6 (L6 J4))) (runOK_of (hp (atT T4 (fun _ => none)) (atT T6 (L6 J4))) hnp ⟨cutOK_at (p := p4) (T := T4) (J := fun _ => none) good_none, cutOK_at (g6 J4 h4), trivial⟩ fin) (fun x => (seg4 laws_eqTermS.impl (atT T4 (fun _ => none)) (atT T6 (L6 J4)) x.1 x.2.1 x.2.2.1).trans (by simp only [atT_self] <;> rfl))
  exact good_first (hp (atT T4 L4) (atT T6 (fun _ => none))) (runOK_of (hp (atT T4 L4) (atT T6 (fun _ => none))) hnp ⟨cutOK_at g4, cutOK_at (p := p6) (T := T6) (J := fun _ => none) good_none, trivial⟩ fin) (fun x => (seg0 laws_eqTermS.impl (atT T4 L4) (atT T6 (fun _ => none)) x.1 x.2.1).trans (by simp only [atT_self] <;> rfl))
end laws_eqTermSS

/-! ### loop.example/wholecheck/laws.eqRule -/
namespace laws_eqRule
noncomputable abbrev c0 : Code := (Tryz.f143.body).getD .skip
noncomputable abbrev pin : Tpl := ⟨[⟨0, true, [.d (.prod (.sl (.prod (.int .i64) (.prod (.int .i64) (.prod (.int .i64) (.last (.int .i64)))))) (.prod (.sl (.int .i64)) (.last (.sl (.sl (.prod (.int .i64) (.prod (.int .i64) (.prod (.int .i64) (.last (.int .i64))))))))))]⟩, ⟨1, true, [.d (.prod (.sl (.prod (.int .i64) (.prod (.int .i64) (.prod (.int .i64) (.last (.int .i64)))))) (.prod (.sl (.int .i64)) (.last (.sl (.sl (.prod (.int .i64) (.prod (.int .i64) (.prod (.int .i64) (.last (.int .i64))))))))))]⟩], []⟩
noncomputable abbrev pout : Tpl := ⟨[⟨0, false, [.d .bool]⟩], []⟩
noncomputable abbrev PI := ((List (Int × Int × Int × Int)) × (List Int) × List (List (Int × Int × Int × Int))) × ((List (Int × Int × Int × Int)) × (List Int) × List (List (Int × Int × Int × Int))) × Unit
noncomputable abbrev PO := Bool × Unit
noncomputable abbrev rs : List ResultVar := [.tmp 4]
noncomputable def F0 (Glaws_eqIntS : laws_eqIntS.PI → Option laws_eqIntS.PO) (Glaws_eqTermS : laws_eqTermS.PI → Option laws_eqTermS.PO) (Glaws_eqTermSS : laws_eqTermSS.PI → Option laws_eqTermSS.PO) (x0 : (List (Int × Int × Int × Int)) × (List Int) × List (List (Int × Int × Int × Int))) (x1 : (List (Int × Int × Int × Int)) × (List Int) × List (List (Int × Int × Int × Int))) : Option PO :=
  Option.bind (Glaws_eqTermS (x0.1, x1.1, ())) fun y0 =>
  bif !y0.1 then
    some (false, ())
  else
    Option.bind (Glaws_eqIntS (x0.2.1, x1.2.1, ())) fun y1 =>
    bif !y1.1 then
      some (false, ())
    else
      Option.bind (Glaws_eqTermSS (x0.2.2, x1.2.2, ())) fun y2 =>
      bif !y2.1 then
        some (false, ())
      else
        some (true, ())
noncomputable def hd {R : Type} (Glaws_eqIntS : laws_eqIntS.PI → Option laws_eqIntS.PO) (Glaws_eqTermS : laws_eqTermS.PI → Option laws_eqTermS.PO) (Glaws_eqTermSS : laws_eqTermSS.PI → Option laws_eqTermSS.PO) : Hand R := (handAt 174 [15] true ⟨2, 1, 2, laws_eqIntS.pin, laws_eqIntS.pout, Glaws_eqIntS⟩ (handAt 102 [9] true ⟨2, 1, 2, laws_eqTermS.pin, laws_eqTermS.pout, Glaws_eqTermS⟩ (handAt 50 [21] true ⟨2, 1, 2, laws_eqTermSS.pin, laws_eqTermSS.pout, Glaws_eqTermSS⟩ handNil)))
noncomputable def pg (Glaws_eqIntS : laws_eqIntS.PI → Option laws_eqIntS.PO) (Glaws_eqTermS : laws_eqTermS.PI → Option laws_eqTermS.PO) (Glaws_eqTermSS : laws_eqTermSS.PI → Option laws_eqTermSS.PO) : Prog PO := { nt := 23, np := 2, tb := tabOf tab, hd := hd Glaws_eqIntS Glaws_eqTermS Glaws_eqTermSS, cuts := cutsOf [], fin := endOf (tabOf tab) rs 2 pout }
noncomputable def q : FuncId → Bool := fun f => hasId [50, 102, 174] f
theorem seg0 (Glaws_eqIntS : laws_eqIntS.PI → Option laws_eqIntS.PO) (Glaws_eqTermS : laws_eqTermS.PI → Option laws_eqTermS.PO) (Glaws_eqTermSS : laws_eqTermSS.PI → Option laws_eqTermSS.PO) (x0 : (List (Int × Int × Int × Int)) × (List Int) × List (List (Int × Int × Int × Int))) (x1 : (List (Int × Int × Int × Int)) × (List Int) × List (List (Int × Int × Int × Int))) : arun (pg Glaws_eqIntS Glaws_eqTermS Glaws_eqTermSS) 5000 [.code c0] (mk pin (x0, x1, ())) = F0 Glaws_eqIntS Glaws_eqTermS Glaws_eqTermSS x0 x1 := by kernel_rfl
noncomputable def impl : PI → Option PO := fun x => F0 laws_eqIntS.impl laws_eqTermS.impl laws_eqTermSS.impl x.1 x.2.1
theorem impl_eq (x0 : (List (Int × Int × Int × Int)) × (List Int) × List (List (Int × Int × Int × Int))) (x1 : (List (Int × Int × Int × Int)) × (List Int) × List (List (Int × Int × Int × Int))) : impl (x0, x1, ()) = F0 laws_eqIntS.impl laws_eqTermS.impl laws_eqTermSS.impl x0 x1 := rfl
theorem con : Con Tryz.prog 143 2 rs.length 2 pin pout impl := by
  refine con_of_run' (nt := 23) (c := c0) tabGood Tryz.func143 (by kernel_rfl) (by kernel_rfl) (by kernel_rfl) (by kernel_rfl) (by kernel_rfl) (by kernel_rfl) (by kernel_rfl) ?_
  intro w0 O y hnp
  generalize hPost : (fun (a' : Act) (w' : World) => ∃ μ' S' st', Rel 23 w0 O μ' S' st' a' w' ∧ endOf (tabOf tab) rs 2 pout st' = some y) = Post
  have fin : ∀ (μ : Id → Option Value) (S : Nat → Prop) (st : St) (a : Act) (w : World), Rel 23 w0 O μ S st a w → endOf (tabOf tab) rs 2 pout st = some y → Post a w := fun μ S st a w h he => by rw [← hPost]; exact ⟨μ, S, st, h, he⟩
  have hp : Parts Tryz.prog 143 (pg laws_eqIntS.impl laws_eqTermS.impl laws_eqTermSS.impl) [] := ⟨tab_ok tabGood rfl, (handAt_ok laws_eqIntS.con (handAt_ok laws_eqTermS.con (handAt_ok laws_eqTermSS.con handNil_ok))), rfl⟩
  exact good_first (hp) (runOK_of (hp) hnp trivial fin) (fun x => (seg0 laws_eqIntS.impl laws_eqTermS.impl laws_eqTermSS.impl x.1 x.2.1))
end laws_eqRule

/-! ### loop.example/wholecheck/laws.eqRuleS -/
namespace laws_eqRuleS
noncomputable abbrev c0 : Code := (Tryz.f101.body).getD .skip
noncomputable abbrev pin : Tpl := ⟨[⟨0, false, [.d (.sl (.prod (.sl (.prod (.int .i64) (.prod (.int .i64) (.prod (.int .i64) (.last (.int .i64)))))) (.prod (.sl (.int .i64)) (.last (.sl (.sl (.prod (.int .i64) (.prod (.int .i64) (.prod (.int .i64) (.last (.int .i64)))))))))))]⟩, ⟨1, false, [.d (.sl (.prod (.sl (.prod (.int .i64) (.prod (.int .i64) (.prod (.int .i64) (.last (.int .i64)))))) (.prod (.sl (.int .i64)) (.last (.sl (.sl (.prod (.int .i64) (.prod (.int .i64) (.prod (.int .i64) (.last (.int .i64)))))))))))]⟩], []⟩
noncomputable abbrev pout : Tpl := ⟨[⟨0, false, [.d .bool]⟩], []⟩
noncomputable abbrev p4 : Tpl := ⟨[⟨0, false, [.d (.sl (.prod (.sl (.prod (.int .i64) (.prod (.int .i64) (.prod (.int .i64) (.last (.int .i64)))))) (.prod (.sl (.int .i64)) (.last (.sl (.sl (.prod (.int .i64) (.prod (.int .i64) (.prod (.int .i64) (.last (.int .i64)))))))))))]⟩, ⟨1, false, [.d (.sl (.prod (.sl (.prod (.int .i64) (.prod (.int .i64) (.prod (.int .i64) (.last (.int .i64)))))) (.prod (.sl (.int .i64)) (.last (.sl (.sl (.prod (.int .i64) (.prod (.int .i64) (.prod (.int .i64) (.last (.int .i64)))))))))))]⟩, ⟨5, false, [.d (.int .i64)]⟩], []⟩
noncomputable def T4 : List Item := (find 4 c0 []).getD []
noncomputable abbrev p6 : Tpl := ⟨[⟨0, false, [.d (.sl (.prod (.sl (.prod (.int .i64) (.prod (.int .i64) (.prod (.int .i64) (.last (.int .i64)))))) (.prod (.sl (.int .i64)) (.last (.sl (.sl (.prod (.int .i64) (.prod (.int .i64) (.prod (.int .i64) (.last (.int .i64)))))))))))]⟩, ⟨1, false, [.d (.sl (.prod (.sl (.prod (.int .i64) (.prod (.int .i64) (.prod (.int .i64) (.last (.int .i64)))))) (.prod (.sl (.int .i64)) (.last (.sl (.sl (.prod (.int .i64) (.prod (.int .i64) (.prod (.int .i64) (.last (.int .i64)))))))))))]⟩, ⟨5, false, [.d (.int .i64)]⟩], []⟩
noncomputable def T6 : List Item := (find 6 c0 []).getD []
noncomputable abbrev PI := (List ((List (Int × Int × Int × Int)) × (List Int) × List (List (Int × Int × Int × Int)))) × (List ((List (Int × Int × Int × Int)) × (List Int) × List (List (Int × Int × Int × Int)))) × Unit
noncomputable abbrev PO := Bool × Unit
noncomputable abbrev P4 := (List ((List (Int × Int × Int × Int)) × (List Int) × List (List (Int × Int × Int × Int)))) × (List ((List (Int × Int × Int × Int)) × (List Int) × List (List (Int × Int × Int × Int)))) × Int × Unit
noncomputable abbrev P6 := (List ((List (Int × Int × Int × Int)) × (List Int) × List (List (Int × Int × Int × Int)))) × (List ((List (Int × Int × Int × Int)) × (List Int) × List (List (Int × Int × Int × Int)))) × Int × Unit
noncomputable abbrev rs : List ResultVar := [.tmp 4]
noncomputable def F0 (J4 : P4 → Option PO) (x0 : List ((List (Int × Int × Int × Int)) × (List Int) × List (List (Int × Int × Int × Int)))) (x1 : List ((List (Int × Int × Int × Int)) × (List Int) × List (List (Int × Int × Int × Int)))) : Option PO :=
  bif (x0.length : Int) != (x1.length : Int) then
    some (false, ())
  else
    J4 (x0, x1, 0, ())
noncomputable def F4 (J6 : P6 → Option PO) (t0 : List ((List (Int × Int × Int × Int)) × (List Int) × List (List (Int × Int × Int × Int)))) (t1 : List ((List (Int × Int × Int × Int)) × (List Int) × List (List (Int × Int × Int × Int)))) (t5 : Int) : Option PO :=
  bif decide (t5 < (t0.length : Int)) then
    J6 (t0, t1, t5, ())
  else
    some (true, ())
noncomputable def F6 (J4 : P4 → Option PO) (Glaws_eqRule : laws_eqRule.PI → Option laws_eqRule.PO) (t0 : List ((List (Int × Int × Int × Int)) × (List Int) × List (List (Int × Int × Int × Int)))) (t1 : List ((List (Int × Int × Int × Int)) × (List Int) × List (List (Int × Int × Int × Int)))) (t5 : Int) : Option PO :=
  bif inb t5 t0.length then
    bif inb t5 t1.length then
      Option.bind (Glaws_eqRule (t0.getD t5.toNat ([], [], []), t1.getD t5.toNat ([], [], []), ())) fun y0 =>
      bif !y0.1 then
        some (false, ())
      else
        J4 (t0, t1, wI (t5 + 1), ())
    else
      none
  else
    none
noncomputable def hd {R : Type} (Glaws_eqRule : laws_eqRule.PI → Option laws_eqRule.PO) : Hand R := (handAt 143 [25] true ⟨2, 1, 2, laws_eqRule.pin, laws_eqRule.pout, Glaws_eqRule⟩ handNil)
noncomputable def pg (Glaws_eqRule : laws_eqRule.PI → Option laws_eqRule.PO) (J4 : List Item → P4 → Option PO) (J6 : List Item → P6 → Option PO) : Prog PO := { nt := 27, np := 2, tb := tabOf tab, hd := hd Glaws_eqRule, cuts := cutsOf [(4, cut p4 J4), (6, cut p6 J6)], fin := endOf (tabOf tab) rs 2 pout }
noncomputable def q : FuncId → Bool := fun f => hasId [143] f
theorem seg0 (Glaws_eqRule : laws_eqRule.PI → Option laws_eqRule.PO) (J4 : List Item → P4 → Option PO) (J6 : List Item → P6 → Option PO) (x0 : List ((List (Int × Int × Int × Int)) × (List Int) × List (List (Int × Int × Int × Int)))) (x1 : List ((List (Int × Int × Int × Int)) × (List Int) × List (List (Int × Int × Int × Int)))) : arun (pg Glaws_eqRule J4 J6) 5000 [.code c0] (mk pin (x0, x1, ())) = F0 (J4 T4) x0 x1 := by kernel_rfl
theorem seg4 (Glaws_eqRule : laws_eqRule.PI → Option laws_eqRule.PO) (J4 : List Item → P4 → Option PO) (J6 : List Item → P6 → Option PO) (t0 : List ((List (Int × Int × Int × Int)) × (List Int) × List (List (Int × Int × Int × Int)))) (t1 : List ((List (Int × Int × Int × Int)) × (List Int) × List (List (Int × Int × Int × Int)))) (t5 : Int) : arun1 (pg Glaws_eqRule J4 J6) 5000 T4 (mk p4 (t0, t1, t5, ())) = F4 (J6 T6) t0 t1 t5 := by kernel_rfl
theorem seg6 (Glaws_eqRule : laws_eqRule.PI → Option laws_eqRule.PO) (J4 : List Item → P4 → Option PO) (J6 : List Item → P6 → Option PO) (t0 : List ((List (Int × Int × Int × Int)) × (List Int) × List (List (Int × Int × Int × Int)))) (t1 : List ((List (Int × Int × Int × Int)) × (List Int) × List (List (Int × Int × Int × Int)))) (t5 : Int) : arunQ (pg Glaws_eqRule J4 J6) q [] [] 5000 T6 (mk p6 (t0, t1, t5, ())) = List.replicate (arunQ (pg Glaws_eqRule J4 J6) q [] [] 5000 T6 (mk p6 (t0, t1, t5, ()))).length (F6 (J4 T4) Glaws_eqRule t0 t1 t5) := by kernel_rfl
noncomputable def L6 (J4 : P4 → Option PO) : P6 → Option PO := fun x => F6 J4 laws_eqRule.impl x.1 x.2.1 x.2.2.1
noncomputable def L4 : P4 → Option PO := lfp fun J4 x => F4 (L6 J4) x.1 x.2.1 x.2.2.1
noncomputable def impl : PI → Option PO := fun x => F0 L4 x.1 x.2.1
theorem F6_le {J4 J4' : P4 → Option PO} (h4 : OLe J4 J4') {Glaws_eqRule : laws_eqRule.PI → Option laws_eqRule.PO} (t0 : List ((List (Int × Int × Int × Int)) × (List Int) × List (List (Int × Int × Int × Int)))) (t1 : List ((List (Int × Int × Int × Int)) × (List Int) × List (List (Int × Int × Int × Int)))) (t5 : Int) : OptLe (F6 J4 Glaws_eqRule t0 t1 t5) (F6 J4' Glaws_eqRule t0 t1 t5) := by unfold F6; exact .cond (.cond (.bind (.refl _) fun _ => .cond (.refl _) (.of h4 _)) (.refl _)) (.refl _)
theorem F4_le {J6 J6' : P6 → Option PO} (h6 : OLe J6 J6') (t0 : List ((List (Int × Int × Int × Int)) × (List Int) × List (List (Int × Int × Int × Int)))) (t1 : List ((List (Int × Int × Int × Int)) × (List Int) × List (List (Int × Int × Int × Int)))) (t5 : Int) : OptLe (F4 J6 t0 t1 t5) (F4 J6' t0 t1 t5) := by unfold F4; exact .cond (.of h6 _) (.refl _)
theorem L6_eq (J4 : P4 → Option PO) (t0 : List ((List (Int × Int × Int × Int)) × (List Int) × List (List (Int × Int × Int × Int)))) (t1 : List ((List (Int × Int × Int × Int)) × (List Int) × List (List (Int × Int × Int × Int)))) (t5 : Int) : L6 J4 (t0, t1, t5, ()) = F6 J4 laws_eqRule.impl t0 t1 t5 := rfl
theorem L6_le {J4 J4' : P4 → Option PO} (h4 : OLe J4 J4') : OLe (L6 J4) (L6 J4') := fun x => F6_le h4 x.1 x.2.1 x.2.2.1
theorem L4_mono : OMono fun J4 (x : P4) => F4 (L6 J4) x.1 x.2.1 x.2.2.1 := fun J J' h4 x => F4_le (L6_le h4) x.1 x.2.1 x.2.2.1
theorem L4_eq (t0 : List ((List (Int × Int × Int × Int)) × (List Int) × List (List (Int × Int × Int × Int)))) (t1 : List ((List (Int × Int × Int × Int)) × (List Int) × List (List (Int × Int × Int × Int)))) (t5 : Int) : L4 (t0, t1, t5, ()) = F4 (L6 (L4)) t0 t1 t5 := congrFun (lfp_eq (L4_mono)) _
theorem impl_eq (x0 : List ((List (Int × Int × Int × Int)) × (List Int) × List (List (Int × Int × Int × Int)))) (x1 : List ((List (Int × Int × Int × Int)) × (List Int) × List (List (Int × Int × Int × Int)))) : impl (x0, x1, ()) = F0 L4 x0 x1 := rfl
theorem con : Con Tryz.prog 101 2 rs.length 2 pin pout impl := by
  refine con_of_run' (nt := 27) (c := c0) tabGood Tryz.func101 (by kernel_rfl) (by kernel_rfl) (by kernel_rfl) (by kernel_rfl) (by kernel_rfl) (by kernel_rfl) (by kernel_rfl) ?_
  intro w0 O y hnp
  generalize hPost : (fun (a' : Act) (w' : World) => ∃ μ' S' st', Rel 27 w0 O μ' S' st' a' w' ∧ endOf (tabOf tab) rs 2 pout st' = some y) = Post
  have fin : ∀ (μ : Id → Option Value) (S : Nat → Prop) (st : St) (a : Act) (w : World), Rel 27 w0 O μ S st a w → endOf (tabOf tab) rs 2 pout st = some y → Post a w := fun μ S st a w h he => by rw [← hPost]; exact ⟨μ, S, st, h, he⟩
  have hp : ∀ (J4 : List Item → P4 → Option PO), ∀ (J6 : List Item → P6 → Option PO), Parts Tryz.prog 101 (pg laws_eqRule.impl J4 J6) [(4, cut p4 J4), (6, cut p6 J6)] := fun J4 J6 => ⟨tab_ok tabGood rfl, (handAt_ok laws_eqRule.con handNil_ok), rfl⟩
  have g6 : ∀ (J4 : P4 → Option PO), Good Tryz.prog 27 w0 O Post y T4 p4 J4 → Good Tryz.prog 27 w0 O Post y T6 p6 (L6 J4) := fun J4 h4 => good_quiet (hs := hd laws_eqRule.impl) (cv' := hd laws_eqRule.impl) (Checked.mixed Tryz.checked) (hp (atT T4 J4) (atT T6 (fun _ => none))) (handAt_D laws_eqRule.con (by rfl) rfl handNil_D) (handAt_nat handNil_nat) (handAt_nat handNil_nat) (runOK_of (hp (atT T4 J4) (atT T6 (fun _ => none))) hnp ⟨cutOK_at h4, cutOK_at (p := p6) (T := T6) (J := fun _ => none) good_none, trivial⟩ fin) (fun x => all_same ⟨_, (seg6 laws_eqRule.impl (atT T4 J4) (atT T6 (fun _ => none)) x.1 x.2.1 x.2.2.1).trans (by simp only [atT_self] <;> rfl)⟩)
  have g4 : Good Tryz.prog 27 w0 O Post y T4 p4 L4 := good_lfp fun J4 h4 => good_part (hp (atT T4 (fun _ => none)) (atT T6 (L6 J4))) (runOK_of (hp (atT T4 (fun _ => none)) (atT T6 (L6 J4))) hnp ⟨cutOK_at (p := p4) (T := T4) (J := fun _ => none) good_none, cutOK_at (g6 J4 h4), trivial⟩ fin) (fun x => (seg4 laws_eqRule.impl (atT T4 (fun _ => none)) (atT T6 (L6 J4)) x.1 x.2.1 x.2.2.1).trans (by simp only [atT_self] <;> rfl))
  exact good_first (hp (atT T4 L4) (atT T6 (fun _ => none))) (runOK_of (hp (atT T4 L4) (atT T6 (fun _ => none))) hnp ⟨cutOK_at g4, cutOK_at (p := p6) (T := T6) (J := fun _ => none) good_none, trivial⟩ fin) (fun x => (seg0 laws_eqRule.impl (atT T4 L4) (atT T6 (fun _ => none)) x.1 x.2.1).trans (by simp only [atT_self] <;> rfl))
end laws_eqRuleS

/-! ### loop.example/wholecheck/laws.eqSystem -/
namespace laws_eqSystem
noncomputable abbrev c0 : Code := (Tryz.f49.body).getD .skip
noncomputable abbrev pin : Tpl := ⟨[⟨0, true, [.d (.prod (.sl (.prod (.int .i64) (.prod (.int .i64) (.last (.int .i64))))) (.last (.sl (.prod (.sl (.prod (.int .i64) (.prod (.int .i64) (.prod (.int .i64) (.last (.int .i64)))))) (.prod (.sl (.int .i64)) (.last (.sl (.sl (.prod (.int .i64) (.prod (.int .i64) (.prod (.int .i64) (.last (.int .i64)))))))))))))]⟩, ⟨1, true, [.d (.prod (.sl (.prod (.int .i64) (.prod (.int .i64) (.last (.int .i64))))) (.last (.sl (.prod (.sl (.prod (.int .i64) (.prod (.int .i64) (.prod (.int .i64) (.last (.int .i64)))))) (.prod (.sl (.int .i64)) (.last (.sl (.sl (.prod (.int .i64) (.prod (.int .i64) (.prod (.int .i64) (.last (.int .i64)))))))))))))]⟩], []⟩
noncomputable abbrev pout : Tpl := ⟨[⟨0, false, [.d .bool]⟩], []⟩
noncomputable abbrev PI := ((List (Int × Int × Int)) × List ((List (Int × Int × Int × Int)) × (List Int) × List (List (Int × Int × Int × Int)))) × ((List (Int × Int × Int)) × List ((List (Int × Int × Int × Int)) × (List Int) × List (List (Int × Int × Int × Int)))) × Unit
noncomputable abbrev PO := Bool × Unit
noncomputable abbrev rs : List ResultVar := [.tmp 4]
noncomputable def F0 (Glaws_eqRuleS : laws_eqRuleS.PI → Option laws_eqRuleS.PO) (Glaws_eqVarS : laws_eqVarS.PI → Option laws_eqVarS.PO) (x0 : (List (Int × Int × Int)) × List ((List (Int × Int × Int × Int)) × (List Int) × List (List (Int × Int × Int × Int)))) (x1 : (List (Int × Int × Int)) × List ((List (Int × Int × Int × Int)) × (List Int) × List (List (Int × Int × Int × Int)))) : Option PO :=
  Option.bind (Glaws_eqVarS (x0.1, x1.1, ())) fun y0 =>
  bif !y0.1 then
    some (false, ())
  else
    Option.bind (Glaws_eqRuleS (x0.2, x1.2, ())) fun y1 =>
    bif !y1.1 then
      some (false, ())
    else
      some (true, ())
noncomputable def hd {R : Type} (Glaws_eqRuleS : laws_eqRuleS.PI → Option laws_eqRuleS.PO) (Glaws_eqVarS : laws_eqVarS.PI → Option laws_eqVarS.PO) : Hand R := (handAt 101 [15] true ⟨2, 1, 2, laws_eqRuleS.pin, laws_eqRuleS.pout, Glaws_eqRuleS⟩ (handAt 100 [9] true ⟨2, 1, 2, laws_eqVarS.pin, laws_eqVarS.pout, Glaws_eqVarS⟩ handNil))
noncomputable def pg (Glaws_eqRuleS : laws_eqRuleS.PI → Option laws_eqRuleS.PO) (Glaws_eqVarS : laws_eqVarS.PI → Option laws_eqVarS.PO) : Prog PO := { nt := 17, np := 2, tb := tabOf tab, hd := hd Glaws_eqRuleS Glaws_eqVarS, cuts := cutsOf [], fin := endOf (tabOf tab) rs 2 pout }
noncomputable def q : FuncId → Bool := fun f => hasId [100, 101] f
theorem seg0 (Glaws_eqRuleS : laws_eqRuleS.PI → Option laws_eqRuleS.PO) (Glaws_eqVarS : laws_eqVarS.PI → Option laws_eqVarS.PO) (x0 : (List (Int × Int × Int)) × List ((List (Int × Int × Int × Int)) × (List Int) × List (List (Int × Int × Int × Int)))) (x1 : (List (Int × Int × Int)) × List ((List (Int × Int × Int × Int)) × (List Int) × List (List (Int × Int × Int × Int)))) : arun (pg Glaws_eqRuleS Glaws_eqVarS) 5000 [.code c0] (mk pin (x0, x1, ())) = F0 Glaws_eqRuleS Glaws_eqVarS x0 x1 := by kernel_rfl
noncomputable def impl : PI → Option PO := fun x => F0 laws_eqRuleS.impl laws_eqVarS.impl x.1 x.2.1
theorem impl_eq (x0 : (List (Int × Int × Int)) × List ((List (Int × Int × Int × Int)) × (List Int) × List (List (Int × Int × Int × Int)))) (x1 : (List (Int × Int × Int)) × List ((List (Int × Int × Int × Int)) × (List Int) × List (List (Int × Int × Int × Int)))) : impl (x0, x1, ()) = F0 laws_eqRuleS.impl laws_eqVarS.impl x0 x1 := rfl
theorem con : Con Tryz.prog 49 2 rs.length 2 pin pout impl := by
  refine con_of_run' (nt := 17) (c := c0) tabGood Tryz.func49 (by kernel_rfl) (by kernel_rfl) (by kernel_rfl) (by kernel_rfl) (by kernel_rfl) (by kernel_rfl) (by kernel_rfl) ?_
  intro w0 O y hnp
  generalize hPost : (fun (a' : Act) (w' : World) => ∃ μ' S' st', Rel 17 w0 O μ' S' st' a' w' ∧ endOf (tabOf tab) rs 2 pout st' = some y) = Post
  have fin : ∀ (μ : Id → Option Value) (S : Nat → Prop) (st : St) (a : Act) (w : World), Rel 17 w0 O μ S st a w → endOf (tabOf tab) rs 2 pout st = some y → Post a w := fun μ S st a w h he => by rw [← hPost]; exact ⟨μ, S, st, h, he⟩
  have hp : Parts Tryz.prog 49 (pg laws_eqRuleS.impl laws_eqVarS.impl) [] := ⟨tab_ok tabGood rfl, (handAt_ok laws_eqRuleS.con (handAt_ok laws_eqVarS.con handNil_ok)), rfl⟩
  exact good_first (hp) (runOK_of (hp) hnp trivial fin) (fun x => (seg0 laws_eqRuleS.impl laws_eqVarS.impl x.1 x.2.1))
end laws_eqSystem

/-! ### loop.example/wholecheck/laws.eqModel -/
namespace laws_eqModel
noncomputable abbrev c0 : Code := (Tryz.f12.body).getD .skip
noncomputable abbrev pin : Tpl := ⟨[⟨0, true, [.d (.prod (.sl .str) (.prod (.prod (.sl (.prod (.int .i64) (.prod (.int .i64) (.last (.int .i64))))) (.last (.sl (.prod (.sl (.prod (.int .i64) (.prod (.int .i64) (.prod (.int .i64) (.last (.int .i64)))))) (.prod (.sl (.int .i64)) (.last (.sl (.sl (.prod (.int .i64) (.prod (.int .i64) (.prod (.int .i64) (.last (.int .i64))))))))))))) (.last (.sl (.sl (.prod (.int .i64) (.prod (.int .i64) (.prod (.int .i64) (.last (.int .i64))))))))))]⟩, ⟨1, true, [.d (.prod (.sl .str) (.prod (.prod (.sl (.prod (.int .i64) (.prod (.int .i64) (.last (.int .i64))))) (.last (.sl (.prod (.sl (.prod (.int .i64) (.prod (.int .i64) (.prod (.int .i64) (.last (.int .i64)))))) (.prod (.sl (.int .i64)) (.last (.sl (.sl (.prod (.int .i64) (.prod (.int .i64) (.prod (.int .i64) (.last (.int .i64))))))))))))) (.last (.sl (.sl (.prod (.int .i64) (.prod (.int .i64) (.prod (.int .i64) (.last (.int .i64))))))))))]⟩], []⟩
noncomputable abbrev pout : Tpl := ⟨[⟨0, false, [.d .bool]⟩], []⟩
noncomputable abbrev PI := ((List (List UInt8)) × ((List (Int × Int × Int)) × List ((List (Int × Int × Int × Int)) × (List Int) × List (List (Int × Int × Int × Int)))) × List (List (Int × Int × Int × Int))) × ((List (List UInt8)) × ((List (Int × Int × Int)) × List ((List (Int × Int × Int × Int)) × (List Int) × List (List (Int × Int × Int × Int)))) × List (List (Int × Int × Int × Int))) × Unit
noncomputable abbrev PO := Bool × Unit
noncomputable abbrev rs : List ResultVar := [.tmp 4]
noncomputable def F0 (Glaws_eqStringS : laws_eqStringS.PI → Option laws_eqStringS.PO) (Glaws_eqSystem : laws_eqSystem.PI → Option laws_eqSystem.PO) (Glaws_eqTermSS : laws_eqTermSS.PI → Option laws_eqTermSS.PO) (x0 : (List (List UInt8)) × ((List (Int × Int × Int)) × List ((List (Int × Int × Int × Int)) × (List Int) × List (List (Int × Int × Int × Int)))) × List (List (Int × Int × Int × Int))) (x1 : (List (List UInt8)) × ((List (Int × Int × Int)) × List ((List (Int × Int × Int × Int)) × (List Int) × List (List (Int × Int × Int × Int)))) × List (List (Int × Int × Int × Int))) : Option PO :=
  Option.bind (Glaws_eqStringS (x0.1, x1.1, ())) fun y0 =>
  bif !y0.1 then
    some (false, ())
  else
    Option.bind (Glaws_eqSystem (x0.2.1, x1.2.1, ())) fun y1 =>
    bif !y1.1 then
      some (false, ())
    else
      Option.bind (Glaws_eqTermSS (x0.2.2, x1.2.2, ())) fun y2 =>
      bif !y2.1 then
        some (false, ())
      else
        some (true, ())
noncomputable def hd {R : Type} (Glaws_eqStringS : laws_eqStringS.PI → Option laws_eqStringS.PO) (Glaws_eqSystem : laws_eqSystem.PI → Option laws_eqSystem.PO) (Glaws_eqTermSS : laws_eqTermSS.PI → Option laws_eqTermSS.PO) : Hand R := (handAt 50 [21] true ⟨2, 1, 2, laws_eqTermSS.pin, laws_eqTermSS.pout, Glaws_eqTermSS⟩ (handAt 49 [15] true ⟨2, 1, 2, laws_eqSystem.pin, laws_eqSystem.pout, Glaws_eqSystem⟩ (handAt 48 [9] true ⟨2, 1, 2, laws_eqStringS.pin, laws_eqStringS.pout, Glaws_eqStringS⟩ handNil)))
noncomputable def pg (Glaws_eqStringS : laws_eqStringS.PI → Option laws_eqStringS.PO) (Glaws_eqSystem : laws_eqSystem.PI → Option laws_eqSystem.PO) (Glaws_eqTermSS : laws_eqTermSS.PI → Option laws_eqTermSS.PO) : Prog PO := { nt := 23, np := 2, tb := tabOf tab, hd := hd Glaws_eqStringS Glaws_eqSystem Glaws_eqTermSS, cuts := cutsOf [], fin := endOf (tabOf tab) rs 2 pout }
noncomputable def q : FuncId → Bool := fun f => hasId [48, 49, 50] f
theorem seg0 (Glaws_eqStringS : laws_eqStringS.PI → Option laws_eqStringS.PO) (Glaws_eqSystem : laws_eqSystem.PI → Option laws_eqSystem.PO) (Glaws_eqTermSS : laws_eqTermSS.PI → Option laws_eqTermSS.PO) (x0 : (List (List UInt8)) × ((List (Int × Int × Int)) × List ((List (Int × Int × Int × Int)) × (List Int) × List (List (Int × Int × Int × Int)))) × List (List (Int × Int × Int × Int))) (x1 : (List (List UInt8)) × ((List (Int × Int × Int)) × List ((List (Int × Int × Int × Int)) × (List Int) × List (List (Int × Int × Int × Int)))) × List (List (Int × Int × Int × Int))) : arun (pg Glaws_eqStringS Glaws_eqSystem Glaws_eqTermSS) 5000 [.code c0] (mk pin (x0, x1, ())) = F0 Glaws_eqStringS Glaws_eqSystem Glaws_eqTermSS x0 x1 := by kernel_rfl
noncomputable def impl : PI → Option PO := fun x => F0 laws_eqStringS.impl laws_eqSystem.impl laws_eqTermSS.impl x.1 x.2.1
theorem impl_eq (x0 : (List (List UInt8)) × ((List (Int × Int × Int)) × List ((List (Int × Int × Int × Int)) × (List Int) × List (List (Int × Int × Int × Int)))) × List (List (Int × Int × Int × Int))) (x1 : (List (List UInt8)) × ((List (Int × Int × Int)) × List ((List (Int × Int × Int × Int)) × (List Int) × List (List (Int × Int × Int × Int)))) × List (List (Int × Int × Int × Int))) : impl (x0, x1, ()) = F0 laws_eqStringS.impl laws_eqSystem.impl laws_eqTermSS.impl x0 x1 := rfl
theorem con : Con Tryz.prog 12 2 rs.length 2 pin pout impl := by
  refine con_of_run' (nt := 23) (c := c0) tabGood Tryz.func12 (by kernel_rfl) (by kernel_rfl) (by kernel_rfl) (by kernel_rfl) (by kernel_rfl) (by kernel_rfl) (by kernel_rfl) ?_
  intro w0 O y hnp
  generalize hPost : (fun (a' : Act) (w' : World) => ∃ μ' S' st', Rel 23 w0 O μ' S' st' a' w' ∧ endOf (tabOf tab) rs 2 pout st' = some y) = Post
  have fin : ∀ (μ : Id → Option Value) (S : Nat → Prop) (st : St) (a : Act) (w : World), Rel 23 w0 O μ S st a w → endOf (tabOf tab) rs 2 pout st = some y → Post a w := fun μ S st a w h he => by rw [← hPost]; exact ⟨μ, S, st, h, he⟩
  have hp : Parts Tryz.prog 12 (pg laws_eqStringS.impl laws_eqSystem.impl laws_eqTermSS.impl) [] := ⟨tab_ok tabGood rfl, (handAt_ok laws_eqTermSS.con (handAt_ok laws_eqSystem.con (handAt_ok laws_eqStringS.con handNil_ok))), rfl⟩
  exact good_first (hp) (runOK_of (hp) hnp trivial fin) (fun x => (seg0 laws_eqStringS.impl laws_eqSystem.impl laws_eqTermSS.impl x.1 x.2.1))
end laws_eqModel

/-! ### loop.example/wholecheck/laws.FnExactWriteModel -/
namespace laws_FnExactWriteModel
noncomputable abbrev c0 : Code := (Tryz.f3.body).getD .skip
noncomputable abbrev pin : Tpl := ⟨[⟨0, true, [.d (.prod (.sl .str) (.prod (.prod (.sl (.prod (.int .i64) (.prod (.int .i64) (.last (.int .i64))))) (.last (.sl (.prod (.sl (.prod (.int .i64) (.prod (.int .i64) (.prod (.int .i64) (.last (.int .i64)))))) (.prod (.sl (.int .i64)) (.last (.sl (.sl (.prod (.int .i64) (.prod (.int .i64) (.prod (.int .i64) (.last (.int .i64))))))))))))) (.last (.sl (.sl (.prod (.int .i64) (.prod (.int .i64) (.prod (.int .i64) (.last (.int .i64))))))))))]⟩], []⟩
noncomputable abbrev pout : Tpl := ⟨[⟨0, false, [.d .bool]⟩], []⟩
noncomputable abbrev p10 : Tpl := ⟨[⟨1, false, [.ptr 3000000 0]⟩, ⟨5, false, [.ptr 3000001 0]⟩], [(3000000, .box [.d (.sl .str), .d (.sl (.prod (.int .i64) (.prod (.int .i64) (.last (.int .i64))))), .d (.sl (.prod (.sl (.prod (.int .i64) (.prod (.int .i64) (.prod (.int .i64) (.last (.int .i64)))))) (.prod (.sl (.int .i64)) (.last (.sl (.sl (.prod (.int .i64) (.prod (.int .i64) (.prod (.int .i64) (.last (.int .i64))))))))))), .d (.sl (.sl (.prod (.int .i64) (.prod (.int .i64) (.prod (.int .i64) (.last (.int .i64)))))))]), (3000001, .box [.row 3000002, .row 3000003, .row 3000004, .row 3000005]), (3000002, .row 9 false .str), (3000003, .row 75 false (.prod (.int .i64) (.prod (.int .i64) (.last (.int .i64))))), (3000004, .row 78 false (.prod (.sl (.prod (.int .i64) (.prod (.int .i64) (.prod (.int .i64) (.last (.int .i64)))))) (.prod (.sl (.int .i64)) (.last (.sl (.sl (.prod (.int .i64) (.prod (.int .i64) (.prod (.int .i64) (.last (.int .i64))))))))))), (3000005, .row 43 false (.sl (.prod (.int .i64) (.prod (.int .i64) (.prod (.int .i64) (.last (.int .i64)))))))]⟩
noncomputable def T10 : List Item := (find 10 c0 []).getD []
noncomputable abbrev PI := ((List (List UInt8)) × ((List (Int × Int × Int)) × List ((List (Int × Int × Int × Int)) × (List Int) × List (List (Int × Int × Int × Int)))) × List (List (Int × Int × Int × Int))) × Unit
noncomputable abbrev PO := Bool × Unit
noncomputable abbrev P10 := (List (List UInt8)) × (List (Int × Int × Int)) × (List ((List (Int × Int × Int × Int)) × (List Int) × List (List (Int × Int × Int × Int)))) × (List (List (Int × Int × Int × Int))) × (List (List UInt8)) × (List (Int × Int × Int)) × (List ((List (Int × Int × Int × Int)) × (List Int) × List (List (Int × Int × Int × Int)))) × (List (List (Int × Int × Int × Int))) × Unit
noncomputable abbrev rs : List ResultVar := [.tmp 2]
noncomputable def F0 (J10 : P10 → Option PO) (Gimpl_WriteModel : impl_WriteModel.PI → Option impl_WriteModel.PO) (Glaws_szModel : laws_szModel.PI → Option laws_szModel.PO) (Glaws_toModel : laws_toModel.PI → Option laws_toModel.PO) (Gspec_WriteModel : spec_WriteModel.PI → Option spec_WriteModel.PO) (x0 : (List (List UInt8)) × ((List (Int × Int × Int)) × List ((List (Int × Int × Int × Int)) × (List Int) × List (List (Int × Int × Int × Int)))) × List (List (Int × Int × Int × Int))) : Option PO :=
  Option.bind (Glaws_szModel (x0, 1048576, ())) fun y0 =>
  bif decide (y0.1 < 0) then
    some (true, ())
  else
    Option.bind (Glaws_toModel (x0, ())) fun y1 =>
    Option.bind (Gspec_WriteModel ((y1.1, (y1.2.1, y1.2.2.1), y1.2.2.2.1), ())) fun y2 =>
    Option.bind (Glaws_toModel (x0, ())) fun y3 =>
    Option.bind (Gimpl_WriteModel ((y3.1, (y3.2.1, y3.2.2.1), y3.2.2.2.1), ())) fun y4 =>
    bif !(y4.1 == y2.1) then
      some (false, ())
    else
      J10 (x0.1, x0.2.1.1, x0.2.1.2, x0.2.2, y3.1, y3.2.1, y3.2.2.1, y3.2.2.2.1, ())
noncomputable def F10 (Glaws_eqModel : laws_eqModel.PI → Option laws_eqModel.PO) (Glaws_toModel : laws_toModel.PI → Option laws_toModel.PO) (b0_0 : List (List UInt8)) (b0_1 : List (Int × Int × Int)) (b0_2 : List ((List (Int × Int × Int × Int)) × (List Int) × List (List (Int × Int × Int × Int)))) (b0_3 : List (List (Int × Int × Int × Int))) (r2 : List (List UInt8)) (r3 : List (Int × Int × Int)) (r4 : List ((List (Int × Int × Int × Int)) × (List Int) × List (List (Int × Int × Int × Int)))) (r5 : List (List (Int × Int × Int × Int))) : Option PO :=
  Option.bind (Glaws_toModel ((b0_0, (b0_1, b0_2), b0_3), ())) fun y5 =>
  Option.bind (Glaws_eqModel ((r2, (r3, r4), r5), (y5.1, (y5.2.1, y5.2.2.1), y5.2.2.2.1), ())) fun y6 =>
  bif !y6.1 then
    some (false, ())
  else
    some (true, ())
noncomputable def hd {R : Type} (Gimpl_WriteModel : impl_WriteModel.PI → Option impl_WriteModel.PO) (Glaws_eqModel : laws_eqModel.PI → Option laws_eqModel.PO) (Glaws_szModel : laws_szModel.PI → Option laws_szModel.PO) (Glaws_toModel : laws_toModel.PI → Option laws_toModel.PO) (Gspec_WriteModel : spec_WriteModel.PI → Option spec_WriteModel.PO) : Hand R := (handAt 12 [25] true ⟨2, 1, 2, laws_eqModel.pin, laws_eqModel.pout, Glaws_eqModel⟩ (handAt 11 [18] true ⟨1, 1, 1, impl_WriteModel.pin, impl_WriteModel.pout, Gimpl_WriteModel⟩ (handAt 10 [13, 16, 24] false ⟨1, 1, 1, laws_toModel.pin, laws_toModel.pout, Glaws_toModel⟩ (handAt 9 [14] true ⟨1, 1, 1, spec_WriteModel.pin, spec_WriteModel.pout, Gspec_WriteModel⟩ (handAt 8 [9] true ⟨2, 1, 1, laws_szModel.pin, laws_szModel.pout, Glaws_szModel⟩ handNil)))))
noncomputable def pg (Gimpl_WriteModel : impl_WriteModel.PI → Option impl_WriteModel.PO) (Glaws_eqModel : laws_eqModel.PI → Option laws_eqModel.PO) (Glaws_szModel : laws_szModel.PI → Option laws_szModel.PO) (Glaws_toModel : laws_toModel.PI → Option laws_toModel.PO) (Gspec_WriteModel : spec_WriteModel.PI → Option spec_WriteModel.PO) (J10 : List Item → P10 → Option PO) : Prog PO := { nt := 27, np := 1, tb := tabOf tab, hd := hd Gimpl_WriteModel Glaws_eqModel Glaws_szModel Glaws_toModel Gspec_WriteModel, cuts := cutsOf [(10, cut p10 J10)], fin := endOf (tabOf tab) rs 1 pout }
noncomputable def q : FuncId → Bool := fun f => hasId [8, 9, 11, 12] f
theorem seg0 (Gimpl_WriteModel : impl_WriteModel.PI → Option impl_WriteModel.PO) (Glaws_eqModel : laws_eqModel.PI → Option laws_eqModel.PO) (Glaws_szModel : laws_szModel.PI → Option laws_szModel.PO) (Glaws_toModel : laws_toModel.PI → Option laws_toModel.PO) (Gspec_WriteModel : spec_WriteModel.PI → Option spec_WriteModel.PO) (J10 : List Item → P10 → Option PO) (x0 : (List (List UInt8)) × ((List (Int × Int × Int)) × List ((List (Int × Int × Int × Int)) × (List Int) × List (List (Int × Int × Int × Int)))) × List (List (Int × Int × Int × Int))) : arun (pg Gimpl_WriteModel Glaws_eqModel Glaws_szModel Glaws_toModel Gspec_WriteModel J10) 5000 [.code c0] (mk pin (x0, ())) = F0 (J10 T10) Gimpl_WriteModel Glaws_szModel Glaws_toModel Gspec_WriteModel x0 := by kernel_rfl
theorem seg10 (Gimpl_WriteModel : impl_WriteModel.PI → Option impl_WriteModel.PO) (Glaws_eqModel : laws_eqModel.PI → Option laws_eqModel.PO) (Glaws_szModel : laws_szModel.PI → Option laws_szModel.PO) (Glaws_toModel : laws_toModel.PI → Option laws_toModel.PO) (Gspec_WriteModel : spec_WriteModel.PI → Option spec_WriteModel.PO) (J10 : List Item → P10 → Option PO) (b0_0 : List (List UInt8)) (b0_1 : List (Int × Int × Int)) (b0_2 : List ((List (Int × Int × Int × Int)) × (List Int) × List (List (Int × Int × Int × Int)))) (b0_3 : List (List (Int × Int × Int × Int))) (r2 : List (List UInt8)) (r3 : List (Int × Int × Int)) (r4 : List ((List (Int × Int × Int × Int)) × (List Int) × List (List (Int × Int × Int × Int)))) (r5 : List (List (Int × Int × Int × Int))) : arunE (pg Gimpl_WriteModel Glaws_eqModel Glaws_szModel Glaws_toModel Gspec_WriteModel J10) 5000 T10 (mk p10 (b0_0, b0_1, b0_2, b0_3, r2, r3, r4, r5, ())) = List.replicate (arunE (pg Gimpl_WriteModel Glaws_eqModel Glaws_szModel Glaws_toModel Gspec_WriteModel J10) 5000 T10 (mk p10 (b0_0, b0_1, b0_2, b0_3, r2, r3, r4, r5, ()))).length (F10 Glaws_eqModel Glaws_toModel b0_0 b0_1 b0_2 b0_3 r2 r3 r4 r5) := by kernel_rfl
noncomputable def L10 : P10 → Option PO := fun x => F10 laws_eqModel.impl laws_toModel.impl x.1 x.2.1 x.2.2.1 x.2.2.2.1 x.2.2.2.2.1 x.2.2.2.2.2.1 x.2.2.2.2.2.2.1 x.2.2.2.2.2.2.2.1
noncomputable def impl : PI → Option PO := fun x => F0 L10 impl_WriteModel.impl laws_szModel.impl laws_toModel.impl spec_WriteModel.impl x.1
theorem L10_eq (b0_0 : List (List UInt8)) (b0_1 : List (Int × Int × Int)) (b0_2 : List ((List (Int × Int × Int × Int)) × (List Int) × List (List (Int × Int × Int × Int)))) (b0_3 : List (List (Int × Int × Int × Int))) (r2 : List (List UInt8)) (r3 : List (Int × Int × Int)) (r4 : List ((List (Int × Int × Int × Int)) × (List Int) × List (List (Int × Int × Int × Int)))) (r5 : List (List (Int × Int × Int × Int))) : L10 (b0_0, b0_1, b0_2, b0_3, r2, r3, r4, r5, ()) = F10 laws_eqModel.impl laws_toModel.impl b0_0 b0_1 b0_2 b0_3 r2 r3 r4 r5 := rfl
theorem impl_eq (x0 : (List (List UInt8)) × ((List (Int × Int × Int)) × List ((List (Int × Int × Int × Int)) × (List Int) × List (List (Int × Int × Int × Int)))) × List (List (Int × Int × Int × Int))) : impl (x0, ()) = F0 L10 impl_WriteModel.impl laws_szModel.impl laws_toModel.impl spec_WriteModel.impl x0 := rfl
theorem con : Con Tryz.prog 3 1 rs.length 1 pin pout impl := by
  refine con_of_run' (nt := 27) (c := c0) tabGood Tryz.func3 (by kernel_rfl) (by kernel_rfl) (by kernel_rfl) (by kernel_rfl) (by kernel_rfl) (by kernel_rfl) (by kernel_rfl) ?_
  intro w0 O y hnp
  generalize hPost : (fun (a' : Act) (w' : World) => ∃ μ' S' st', Rel 27 w0 O μ' S' st' a' w' ∧ endOf (tabOf tab) rs 1 pout st' = some y) = Post
  have fin : ∀ (μ : Id → Option Value) (S : Nat → Prop) (st : St) (a : Act) (w : World), Rel 27 w0 O μ S st a w → endOf (tabOf tab) rs 1 pout st = some y → Post a w := fun μ S st a w h he => by rw [← hPost]; exact ⟨μ, S, st, h, he⟩
  have hp : ∀ (J10 : List Item → P10 → Option PO), Parts Tryz.prog 3 (pg impl_WriteModel.impl laws_eqModel.impl laws_szModel.impl laws_toModel.impl spec_WriteModel.impl J10) [(10, cut p10 J10)] := fun J10 => ⟨tab_ok tabGood rfl, (handAt_ok laws_eqModel.con (handAt_ok impl_WriteModel.con (handAt_ok laws_toModel.con (handAt_ok spec_WriteModel.con (handAt_ok laws_szModel.con handNil_ok))))), rfl⟩
  have g10 : Good Tryz.prog 27 w0 O Post y T10 p10 L10 := good_orders (hs := hd impl_WriteModel.impl laws_eqModel.impl laws_szModel.impl laws_toModel.impl spec_WriteModel.impl) (cv' := hd impl_WriteModel.impl laws_eqModel.impl laws_szModel.impl laws_toModel.impl spec_WriteModel.impl) (Checked.mixed Tryz.checked) (hp (atT T10 (fun _ => none))) (handAt_ok laws_eqModel.con (handAt_ok impl_WriteModel.con (handAt_ok laws_toModel.con (handAt_ok spec_WriteModel.con (handAt_ok laws_szModel.con handNil_ok))))) (handAt_nat (handAt_nat (handAt_nat (handAt_nat (handAt_nat handNil_nat))))) (handAt_nat (handAt_nat (handAt_nat (handAt_nat (handAt_nat handNil_nat))))) (runOK_of (hp (atT T10 (fun _ => none))) hnp ⟨cutOK_at (p := p10) (T := T10) (J := fun _ => none) good_none, trivial⟩ fin) (fun x => all_same ⟨_, (seg10 impl_WriteModel.impl laws_eqModel.impl laws_szModel.impl laws_toModel.impl spec_WriteModel.impl (atT T10 (fun _ => none)) x.1 x.2.1 x.2.2.1 x.2.2.2.1 x.2.2.2.2.1 x.2.2.2.2.2.1 x.2.2.2.2.2.2.1 x.2.2.2.2.2.2.2.1)⟩)
  exact good_first (hp (atT T10 L10)) (runOK_of (hp (atT T10 L10)) hnp ⟨cutOK_at g10, trivial⟩ fin) (fun x => (seg0 impl_WriteModel.impl laws_eqModel.impl laws_szModel.impl laws_toModel.impl spec_WriteModel.impl (atT T10 L10) x.1).trans (by simp only [atT_self] <;> rfl))
end laws_FnExactWriteModel
end Go.Proofs.YtfjnckjkpkhbdaaGreatDoorB
