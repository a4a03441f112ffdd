/- PRINTED BY A PROGRAM OF THIS CLAIM'S AUTHOR (wip/gen): functions of the given program, their parts, their contracts. -/
import Derived.Test.YtambmmpilakgoaaDoorB34
import Derived.Test.YtambmmpilakgoaaDoorB39
import Derived.Test.YtambmmpilakgoaaDoorChecked
import Derived.Test.YtambmmpilakgoaaDoorL
set_option linter.unusedVariables false
set_option maxRecDepth 100000
namespace Go.Proofs.YtambmmpilakgoaaDoorB
open Go
def tab : Tab := [(3, { kind := .scalar, zero := [.d (.int .i64) (0 : Int)], bytes := 8, data := some (.int .i64), eqf := none }),
  (5, { kind := .scalar, zero := [.d (.int .u8) (0 : Int)], bytes := 1, data := some (.int .u8), eqf := none }),
  (9, { kind := .scalar, zero := [.d .str ([] : List UInt8)], bytes := 16, data := some .str, eqf := none }),
  (22, { kind := .slice 9, zero := [.nilS], bytes := 24, data := some (.sl .str), eqf := none }),
  (27, { kind := .slice 3, zero := [.nilS], bytes := 24, data := some (.sl (.int .i64)), eqf := none }),
  (41, { kind := .slice 5, zero := [.nilS], bytes := 24, data := some (.sl (.int .u8)), eqf := none }),
  (55, { kind := .slice 120, zero := [.nilS], bytes := 24, data := some (.sl (.prod (.int .i64) (.prod (.int .i64) (.prod (.int .i64) (.last (.int .i64)))))), eqf := none }),
  (58, { kind := .slice 118, zero := [.nilS], bytes := 24, data := some (.sl (.prod (.int .i64) (.prod (.int .i64) (.prod (.int .i64) (.last (.int .i64)))))), eqf := none }),
  (118, { kind := .struct [(0, 1), (1, 1), (2, 1), (3, 1)], zero := [.d (.int .i64) (0 : Int), .d (.int .i64) (0 : Int), .d (.int .i64) (0 : Int), .d (.int .i64) (0 : Int)], bytes := 32, data := some (.prod (.int .i64) (.prod (.int .i64) (.prod (.int .i64) (.last (.int .i64))))), eqf := some [(.int .i64), (.int .i64), (.int .i64), (.int .i64)] }),
  (120, { kind := .struct [(0, 1), (1, 1), (2, 1), (3, 1)], zero := [.d (.int .i64) (0 : Int), .d (.int .i64) (0 : Int), .d (.int .i64) (0 : Int), .d (.int .i64) (0 : Int)], bytes := 32, data := some (.prod (.int .i64) (.prod (.int .i64) (.prod (.int .i64) (.last (.int .i64))))), eqf := some [(.int .i64), (.int .i64), (.int .i64), (.int .i64)] })]
theorem tabGood : tabB Tryd.prog tab = true := by kernel_rfl

/-! ### loop.example/wholecheck/laws.szStringS -/
namespace laws_szStringS
noncomputable abbrev c0 : Code := (Tryd.f11.body).getD .skip
noncomputable abbrev pin : Tpl := ⟨[⟨0, false, [.d (.sl .str)]⟩, ⟨1, false, [.d (.int .i64)]⟩], []⟩
noncomputable abbrev pout : Tpl := ⟨[⟨0, false, [.d (.int .i64)]⟩], []⟩
noncomputable abbrev p5 : Tpl := ⟨[⟨0, false, [.d (.sl .str)]⟩, ⟨1, false, [.d (.int .i64)]⟩, ⟨5, false, [.d (.int .i64)]⟩], []⟩
noncomputable def T5 : List Item := (find 5 c0 []).getD []
noncomputable abbrev PI := (List (List UInt8)) × Int × Unit
noncomputable abbrev PO := Int × Unit
noncomputable abbrev P5 := (List (List UInt8)) × Int × Int × Unit
noncomputable abbrev rs : List ResultVar := [.tmp 4]
noncomputable def F0 (J5 : P5 → Option PO) (x0 : List (List UInt8)) (x1 : Int) : Option PO :=
  bif decide (wI (x1 - (x0.length : Int)) < 0) then
    some ((-1), ())
  else
    J5 (x0, wI (x1 - (x0.length : Int)), 0, ())
noncomputable def F5 (J5 : P5 → Option PO) (t0 : List (List UInt8)) (t1 : Int) (t5 : Int) : Option PO :=
  bif decide (t5 < (t0.length : Int)) then
    bif inb t5 t0.length then
      bif decide (wI (t1 - ((t0.getD t5.toNat []).length : Int)) < 0) then
        some ((-1), ())
      else
        J5 (t0, wI (t1 - ((t0.getD t5.toNat []).length : Int)), wI (t5 + 1), ())
    else
      none
  else
    some (t1, ())
noncomputable def hd {R : Type} : Hand R := handNil
noncomputable def pg (J5 : List Item → P5 → Option PO) : Prog PO := { nt := 28, np := 1, tb := tabOf tab, hd := hd, cuts := cutsOf [(5, cut p5 J5)], fin := endOf (tabOf tab) rs 1 pout }
noncomputable def q : FuncId → Bool := fun f => hasId [] f
theorem seg0 (J5 : List Item → P5 → Option PO) (x0 : List (List UInt8)) (x1 : Int) : arun (pg J5) 5000 [.code c0] (mk pin (x0, x1, ())) = F0 (J5 T5) x0 x1 := by kernel_rfl
theorem seg5 (J5 : List Item → P5 → Option PO) (t0 : List (List UInt8)) (t1 : Int) (t5 : Int) : arun1 (pg J5) 5000 T5 (mk p5 (t0, t1, t5, ())) = F5 (J5 T5) t0 t1 t5 := by kernel_rfl
noncomputable def L5 : P5 → Option PO := lfp fun J5 x => F5 J5 x.1 x.2.1 x.2.2.1
noncomputable def impl : PI → Option PO := fun x => F0 L5 x.1 x.2.1
theorem F5_le {J5 J5' : P5 → Option PO} (h5 : OLe J5 J5') (t0 : List (List UInt8)) (t1 : Int) (t5 : Int) : OptLe (F5 J5 t0 t1 t5) (F5 J5' t0 t1 t5) := by unfold F5; exact .cond (.cond (.cond (.refl _) (.of h5 _)) (.refl _)) (.refl _)
theorem L5_mono : OMono fun J5 (x : P5) => F5 J5 x.1 x.2.1 x.2.2.1 := fun J J' h5 x => F5_le h5 x.1 x.2.1 x.2.2.1
theorem L5_eq (t0 : List (List UInt8)) (t1 : Int) (t5 : Int) : L5 (t0, t1, t5, ()) = F5 (L5) t0 t1 t5 := congrFun (lfp_eq (L5_mono)) _
theorem impl_eq (x0 : List (List UInt8)) (x1 : Int) : impl (x0, x1, ()) = F0 L5 x0 x1 := rfl
theorem con : Con Tryd.prog 11 2 rs.length 1 pin pout impl := by
  refine con_of_run' (nt := 28) (c := c0) tabGood Tryd.func11 (by kernel_rfl) (by kernel_rfl) (by kernel_rfl) (by kernel_rfl) (by kernel_rfl) (by kernel_rfl) (by kernel_rfl) ?_
  intro w0 O y hnp
  generalize hPost : (fun (a' : Act) (w' : World) => ∃ μ' S' st', Rel 28 w0 O μ' S' st' a' w' ∧ endOf (tabOf tab) rs 1 pout st' = some y) = Post
  have fin : ∀ (μ : Id → Option Value) (S : Nat → Prop) (st : St) (a : Act) (w : World), Rel 28 w0 O μ S st a w → endOf (tabOf tab) rs 1 pout st = some y → Post a w := fun μ S st a w h he => by rw [← hPost]; exact ⟨μ, S, st, h, he⟩
  have hp : ∀ (J5 : List Item → P5 → Option PO), Parts Tryd.prog 11 (pg J5) [(5, cut p5 J5)] := fun J5 => ⟨tab_ok tabGood rfl, handNil_ok, rfl⟩
  have g5 : Good Tryd.prog 28 w0 O Post y T5 p5 L5 := good_lfp fun J5 h5 => good_part (hp (atT T5 J5)) (runOK_of (hp (atT T5 J5)) hnp ⟨cutOK_at h5, trivial⟩ fin) (fun x => (seg5 (atT T5 J5) x.1 x.2.1 x.2.2.1).trans (by simp only [atT_self] <;> rfl))
  exact good_first (hp (atT T5 L5)) (runOK_of (hp (atT T5 L5)) hnp ⟨cutOK_at g5, trivial⟩ fin) (fun x => (seg0 (atT T5 L5) x.1 x.2.1).trans (by simp only [atT_self] <;> rfl))
end laws_szStringS

/-! ### loop.example/wholecheck/laws.szTermS -/
namespace laws_szTermS
noncomputable abbrev c0 : Code := (Tryd.f31.body).getD .skip
noncomputable abbrev pin : Tpl := ⟨[⟨0, false, [.d (.sl (.prod (.int .i64) (.prod (.int .i64) (.prod (.int .i64) (.last (.int .i64))))))]⟩, ⟨1, false, [.d (.int .i64)]⟩], []⟩
noncomputable abbrev pout : Tpl := ⟨[⟨0, false, [.d (.int .i64)]⟩], []⟩
noncomputable abbrev PI := (List (Int × Int × Int × Int)) × Int × Unit
noncomputable abbrev PO := Int × Unit
noncomputable abbrev rs : List ResultVar := [.tmp 4]
noncomputable def F0 (x0 : List (Int × Int × Int × Int)) (x1 : Int) : Option PO :=
  bif decide (wI (x1 - (x0.length : Int)) < 0) then
    some ((-1), ())
  else
    some (wI (x1 - (x0.length : Int)), ())
noncomputable def hd {R : Type} : Hand R := handNil
noncomputable def pg : Prog PO := { nt := 12, np := 1, tb := tabOf tab, hd := hd, cuts := cutsOf [], fin := endOf (tabOf tab) rs 1 pout }
noncomputable def q : FuncId → Bool := fun f => hasId [] f
theorem seg0 (x0 : List (Int × Int × Int × Int)) (x1 : Int) : arun (pg) 5000 [.code c0] (mk pin (x0, x1, ())) = F0 x0 x1 := by kernel_rfl
noncomputable def impl : PI → Option PO := fun x => F0 x.1 x.2.1
theorem impl_eq (x0 : List (Int × Int × Int × Int)) (x1 : Int) : impl (x0, x1, ()) = F0 x0 x1 := rfl
theorem con : Con Tryd.prog 31 2 rs.length 1 pin pout impl := by
  refine con_of_run' (nt := 12) (c := c0) tabGood Tryd.func31 (by kernel_rfl) (by kernel_rfl) (by kernel_rfl) (by kernel_rfl) (by kernel_rfl) (by kernel_rfl) (by kernel_rfl) ?_
  intro w0 O y hnp
  generalize hPost : (fun (a' : Act) (w' : World) => ∃ μ' S' st', Rel 12 w0 O μ' S' st' a' w' ∧ endOf (tabOf tab) rs 1 pout st' = some y) = Post
  have fin : ∀ (μ : Id → Option Value) (S : Nat → Prop) (st : St) (a : Act) (w : World), Rel 12 w0 O μ S st a w → endOf (tabOf tab) rs 1 pout st = some y → Post a w := fun μ S st a w h he => by rw [← hPost]; exact ⟨μ, S, st, h, he⟩
  have hp : Parts Tryd.prog 31 (pg) [] := ⟨tab_ok tabGood rfl, handNil_ok, rfl⟩
  exact good_first (hp) (runOK_of (hp) hnp trivial fin) (fun x => (seg0 x.1 x.2.1))
end laws_szTermS

/-! ### loop.example/wholecheck/laws.toStringS -/
namespace laws_toStringS
noncomputable abbrev c0 : Code := (Tryd.f13.body).getD .skip
noncomputable abbrev pin : Tpl := ⟨[⟨0, false, [.d (.sl .str)]⟩], []⟩
noncomputable abbrev pout : Tpl := ⟨[⟨0, false, [.row 600001]⟩], [(600001, .row 9 false .str)]⟩
noncomputable abbrev p3 : Tpl := ⟨[⟨0, false, [.d (.sl .str)]⟩, ⟨3, false, [.row 3000000]⟩, ⟨4, false, [.d (.int .i64)]⟩], [(3000000, .row 9 false .str)]⟩
noncomputable def T3 : List Item := (find 3 c0 []).getD []
noncomputable abbrev PI := (List (List UInt8)) × Unit
noncomputable abbrev PO := (List (List UInt8)) × Unit
noncomputable abbrev P3 := (List (List UInt8)) × Int × (List (List UInt8)) × Unit
noncomputable abbrev rs : List ResultVar := [.tmp 2]
noncomputable def F0 (J3 : P3 → Option PO) (x0 : List (List UInt8)) : Option PO :=
  bif decide (0 ≤ (x0.length : Int)) && decide ((x0.length : Int) ≤ (x0.length : Int)) && decide ((x0.length : Int) * 16 ≤ 140737488355328) then
    J3 (x0, 0, (List.replicate (x0.length : Int).toNat [] : List (List UInt8)), ())
  else
    none
noncomputable def F3 (J3 : P3 → Option PO) (t0 : List (List UInt8)) (t4 : Int) (r0 : List (List UInt8)) : Option PO :=
  bif decide (t4 < (t0.length : Int)) then
    bif inb t4 t0.length then
      bif inb t4 r0.length then
        J3 (t0, wI (t4 + 1), r0.set t4.toNat (t0.getD t4.toNat []), ())
      else
        none
    else
      none
  else
    some (r0, ())
noncomputable def hd {R : Type} : Hand R := handNil
noncomputable def pg (J3 : List Item → P3 → Option PO) : Prog PO := { nt := 22, np := 1, tb := tabOf tab, hd := hd, cuts := cutsOf [(3, cut p3 J3)], fin := endOf (tabOf tab) rs 1 pout }
noncomputable def q : FuncId → Bool := fun f => hasId [] f
theorem seg0 (J3 : List Item → P3 → Option PO) (x0 : List (List UInt8)) : arun (pg J3) 5000 [.code c0] (mk pin (x0, ())) = F0 (J3 T3) x0 := by kernel_rfl
theorem seg3 (J3 : List Item → P3 → Option PO) (t0 : List (List UInt8)) (t4 : Int) (r0 : List (List UInt8)) : arun1 (pg J3) 5000 T3 (mk p3 (t0, t4, r0, ())) = F3 (J3 T3) t0 t4 r0 := by kernel_rfl
noncomputable def L3 : P3 → Option PO := lfp fun J3 x => F3 J3 x.1 x.2.1 x.2.2.1
noncomputable def impl : PI → Option PO := fun x => F0 L3 x.1
theorem F3_le {J3 J3' : P3 → Option PO} (h3 : OLe J3 J3') (t0 : List (List UInt8)) (t4 : Int) (r0 : List (List UInt8)) : OptLe (F3 J3 t0 t4 r0) (F3 J3' t0 t4 r0) := by unfold F3; exact .cond (.cond (.cond (.of h3 _) (.refl _)) (.refl _)) (.refl _)
theorem L3_mono : OMono fun J3 (x : P3) => F3 J3 x.1 x.2.1 x.2.2.1 := fun J J' h3 x => F3_le h3 x.1 x.2.1 x.2.2.1
theorem L3_eq (t0 : List (List UInt8)) (t4 : Int) (r0 : List (List UInt8)) : L3 (t0, t4, r0, ()) = F3 (L3) t0 t4 r0 := congrFun (lfp_eq (L3_mono)) _
theorem impl_eq (x0 : List (List UInt8)) : impl (x0, ()) = F0 L3 x0 := rfl
theorem con : Con Tryd.prog 13 1 rs.length 1 pin pout impl := by
  refine con_of_run' (nt := 22) (c := c0) tabGood Tryd.func13 (by kernel_rfl) (by kernel_rfl) (by kernel_rfl) (by kernel_rfl) (by kernel_rfl) (by kernel_rfl) (by kernel_rfl) ?_
  intro w0 O y hnp
  generalize hPost : (fun (a' : Act) (w' : World) => ∃ μ' S' st', Rel 22 w0 O μ' S' st' a' w' ∧ endOf (tabOf tab) rs 1 pout st' = some y) = Post
  have fin : ∀ (μ : Id → Option Value) (S : Nat → Prop) (st : St) (a : Act) (w : World), Rel 22 w0 O μ S st a w → endOf (tabOf tab) rs 1 pout st = some y → Post a w := fun μ S st a w h he => by rw [← hPost]; exact ⟨μ, S, st, h, he⟩
  have hp : ∀ (J3 : List Item → P3 → Option PO), Parts Tryd.prog 13 (pg J3) [(3, cut p3 J3)] := fun J3 => ⟨tab_ok tabGood rfl, handNil_ok, rfl⟩
  have g3 : Good Tryd.prog 22 w0 O Post y T3 p3 L3 := good_lfp fun J3 h3 => good_part (hp (atT T3 J3)) (runOK_of (hp (atT T3 J3)) hnp ⟨cutOK_at h3, trivial⟩ fin) (fun x => (seg3 (atT T3 J3) x.1 x.2.1 x.2.2.1).trans (by simp only [atT_self] <;> rfl))
  exact good_first (hp (atT T3 L3)) (runOK_of (hp (atT T3 L3)) hnp ⟨cutOK_at g3, trivial⟩ fin) (fun x => (seg0 (atT T3 L3) x.1).trans (by simp only [atT_self] <;> rfl))
end laws_toStringS

/-! ### loop.example/wholecheck/laws.toTerm -/
namespace laws_toTerm
noncomputable abbrev c0 : Code := (Tryd.f79.body).getD .skip
noncomputable abbrev pin : Tpl := ⟨[⟨0, true, [.d (.prod (.int .i64) (.prod (.int .i64) (.prod (.int .i64) (.last (.int .i64)))))]⟩], []⟩
noncomputable abbrev pout : Tpl := ⟨[⟨0, true, [.d (.prod (.int .i64) (.prod (.int .i64) (.prod (.int .i64) (.last (.int .i64)))))]⟩], []⟩
noncomputable abbrev PI := (Int × Int × Int × Int) × Unit
noncomputable abbrev PO := (Int × Int × Int × Int) × Unit
noncomputable abbrev rs : List ResultVar := [.cell 2 118]
noncomputable def F0 (x0 : Int × Int × Int × Int) : Option PO :=
  some (x0, ())
noncomputable def hd {R : Type} : Hand R := handNil
noncomputable def pg : Prog PO := { nt := 17, np := 1, tb := tabOf tab, hd := hd, cuts := cutsOf [], fin := endOf (tabOf tab) rs 1 pout }
noncomputable def q : FuncId → Bool := fun f => hasId [] f
theorem seg0 (x0 : Int × Int × Int × Int) : arun (pg) 5000 [.code c0] (mk pin (x0, ())) = F0 x0 := by kernel_rfl
noncomputable def impl : PI → Option PO := fun x => F0 x.1
theorem impl_eq (x0 : Int × Int × Int × Int) : impl (x0, ()) = F0 x0 := rfl
theorem con : Con Tryd.prog 79 1 rs.length 1 pin pout impl := by
  refine con_of_run' (nt := 17) (c := c0) tabGood Tryd.func79 (by kernel_rfl) (by kernel_rfl) (by kernel_rfl) (by kernel_rfl) (by kernel_rfl) (by kernel_rfl) (by kernel_rfl) ?_
  intro w0 O y hnp
  generalize hPost : (fun (a' : Act) (w' : World) => ∃ μ' S' st', Rel 17 w0 O μ' S' st' a' w' ∧ endOf (tabOf tab) rs 1 pout st' = some y) = Post
  have fin : ∀ (μ : Id → Option Value) (S : Nat → Prop) (st : St) (a : Act) (w : World), Rel 17 w0 O μ S st a w → endOf (tabOf tab) rs 1 pout st = some y → Post a w := fun μ S st a w h he => by rw [← hPost]; exact ⟨μ, S, st, h, he⟩
  have hp : Parts Tryd.prog 79 (pg) [] := ⟨tab_ok tabGood rfl, handNil_ok, rfl⟩
  exact good_first (hp) (runOK_of (hp) hnp trivial fin) (fun x => (seg0 x.1))
end laws_toTerm

/-! ### loop.example/wholecheck/laws.toTermS -/
namespace laws_toTermS
noncomputable abbrev c0 : Code := (Tryd.f33.body).getD .skip
noncomputable abbrev pin : Tpl := ⟨[⟨0, false, [.d (.sl (.prod (.int .i64) (.prod (.int .i64) (.prod (.int .i64) (.last (.int .i64))))))]⟩], []⟩
noncomputable abbrev pout : Tpl := ⟨[⟨0, false, [.row 600001]⟩], [(600001, .row 118 false (.prod (.int .i64) (.prod (.int .i64) (.prod (.int .i64) (.last (.int .i64))))))]⟩
noncomputable abbrev p3 : Tpl := ⟨[⟨0, false, [.d (.sl (.prod (.int .i64) (.prod (.int .i64) (.prod (.int .i64) (.last (.int .i64))))))]⟩, ⟨3, false, [.row 3000000]⟩, ⟨4, false, [.d (.int .i64)]⟩], [(3000000, .row 118 false (.prod (.int .i64) (.prod (.int .i64) (.prod (.int .i64) (.last (.int .i64))))))]⟩
noncomputable def T3 : List Item := (find 3 c0 []).getD []
noncomputable abbrev PI := (List (Int × Int × Int × Int)) × Unit
noncomputable abbrev PO := (List (Int × Int × Int × Int)) × Unit
noncomputable abbrev P3 := (List (Int × Int × Int × Int)) × Int × (List (Int × Int × Int × Int)) × Unit
noncomputable abbrev rs : List ResultVar := [.tmp 2]
noncomputable def F0 (J3 : P3 → Option PO) (x0 : List (Int × Int × Int × Int)) : Option PO :=
  bif decide (0 ≤ (x0.length : Int)) && decide ((x0.length : Int) ≤ (x0.length : Int)) && decide ((x0.length : Int) * 32 ≤ 140737488355328) then
    J3 (x0, 0, (List.replicate (x0.length : Int).toNat (0, 0, 0, 0) : List (Int × Int × Int × Int)), ())
  else
    none
noncomputable def F3 (J3 : P3 → Option PO) (Glaws_toTerm : laws_toTerm.PI → Option laws_toTerm.PO) (t0 : List (Int × Int × Int × Int)) (t4 : Int) (r0 : List (Int × Int × Int × Int)) : Option PO :=
  bif decide (t4 < (t0.length : Int)) then
    bif inb t4 t0.length then
      Option.bind (Glaws_toTerm (t0.getD t4.toNat (0, 0, 0, 0), ())) fun y0 =>
      bif inb t4 r0.length then
        J3 (t0, wI (t4 + 1), r0.set t4.toNat y0.1, ())
      else
        none
    else
      none
  else
    some (r0, ())
noncomputable def hd {R : Type} (Glaws_toTerm : laws_toTerm.PI → Option laws_toTerm.PO) : Hand R := (handAt 79 [20] true ⟨1, 1, 1, laws_toTerm.pin, laws_toTerm.pout, Glaws_toTerm⟩ handNil)
noncomputable def pg (Glaws_toTerm : laws_toTerm.PI → Option laws_toTerm.PO) (J3 : List Item → P3 → Option PO) : Prog PO := { nt := 23, np := 1, tb := tabOf tab, hd := hd Glaws_toTerm, cuts := cutsOf [(3, cut p3 J3)], fin := endOf (tabOf tab) rs 1 pout }
noncomputable def q : FuncId → Bool := fun f => hasId [79] f
theorem seg0 (Glaws_toTerm : laws_toTerm.PI → Option laws_toTerm.PO) (J3 : List Item → P3 → Option PO) (x0 : List (Int × Int × Int × Int)) : arun (pg Glaws_toTerm J3) 5000 [.code c0] (mk pin (x0, ())) = F0 (J3 T3) x0 := by kernel_rfl
theorem seg3 (Glaws_toTerm : laws_toTerm.PI → Option laws_toTerm.PO) (J3 : List Item → P3 → Option PO) (t0 : List (Int × Int × Int × Int)) (t4 : Int) (r0 : List (Int × Int × Int × Int)) : arun1 (pg Glaws_toTerm J3) 5000 T3 (mk p3 (t0, t4, r0, ())) = F3 (J3 T3) Glaws_toTerm t0 t4 r0 := by kernel_rfl
noncomputable def L3 : P3 → Option PO := lfp fun J3 x => F3 J3 laws_toTerm.impl x.1 x.2.1 x.2.2.1
noncomputable def impl : PI → Option PO := fun x => F0 L3 x.1
theorem F3_le {J3 J3' : P3 → Option PO} (h3 : OLe J3 J3') {Glaws_toTerm : laws_toTerm.PI → Option laws_toTerm.PO} (t0 : List (Int × Int × Int × Int)) (t4 : Int) (r0 : List (Int × Int × Int × Int)) : OptLe (F3 J3 Glaws_toTerm t0 t4 r0) (F3 J3' Glaws_toTerm t0 t4 r0) := by unfold F3; exact .cond (.cond (.bind (.refl _) fun _ => .cond (.of h3 _) (.refl _)) (.refl _)) (.refl _)
theorem L3_mono : OMono fun J3 (x : P3) => F3 J3 laws_toTerm.impl x.1 x.2.1 x.2.2.1 := fun J J' h3 x => F3_le h3 x.1 x.2.1 x.2.2.1
theorem L3_eq (t0 : List (Int × Int × Int × Int)) (t4 : Int) (r0 : List (Int × Int × Int × Int)) : L3 (t0, t4, r0, ()) = F3 (L3) laws_toTerm.impl t0 t4 r0 := congrFun (lfp_eq (L3_mono)) _
theorem impl_eq (x0 : List (Int × Int × Int × Int)) : impl (x0, ()) = F0 L3 x0 := rfl
theorem con : Con Tryd.prog 33 1 rs.length 1 pin pout impl := by
  refine con_of_run' (nt := 23) (c := c0) tabGood Tryd.func33 (by kernel_rfl) (by kernel_rfl) (by kernel_rfl) (by kernel_rfl) (by kernel_rfl) (by kernel_rfl) (by kernel_rfl) ?_
  intro w0 O y hnp
  generalize hPost : (fun (a' : Act) (w' : World) => ∃ μ' S' st', Rel 23 w0 O μ' S' st' a' w' ∧ endOf (tabOf tab) rs 1 pout st' = some y) = Post
  have fin : ∀ (μ : Id → Option Value) (S : Nat → Prop) (st : St) (a : Act) (w : World), Rel 23 w0 O μ S st a w → endOf (tabOf tab) rs 1 pout st = some y → Post a w := fun μ S st a w h he => by rw [← hPost]; exact ⟨μ, S, st, h, he⟩
  have hp : ∀ (J3 : List Item → P3 → Option PO), Parts Tryd.prog 33 (pg laws_toTerm.impl J3) [(3, cut p3 J3)] := fun J3 => ⟨tab_ok tabGood rfl, (handAt_ok laws_toTerm.con handNil_ok), rfl⟩
  have g3 : Good Tryd.prog 23 w0 O Post y T3 p3 L3 := good_lfp fun J3 h3 => good_part (hp (atT T3 J3)) (runOK_of (hp (atT T3 J3)) hnp ⟨cutOK_at h3, trivial⟩ fin) (fun x => (seg3 laws_toTerm.impl (atT T3 J3) x.1 x.2.1 x.2.2.1).trans (by simp only [atT_self] <;> rfl))
  exact good_first (hp (atT T3 L3)) (runOK_of (hp (atT T3 L3)) hnp ⟨cutOK_at g3, trivial⟩ fin) (fun x => (seg0 laws_toTerm.impl (atT T3 L3) x.1).trans (by simp only [atT_self] <;> rfl))
end laws_toTermS

/-! ### loop.example/wholecheck/spec.l1In -/
namespace spec_l1In
noncomputable abbrev c0 : Code := (Tryd.f103.body).getD .skip
noncomputable abbrev pin : Tpl := ⟨[⟨0, false, [.d (.int .i64)]⟩, ⟨1, false, [.d (.int .i64)]⟩, ⟨2, false, [.d (.int .i64)]⟩], []⟩
noncomputable abbrev pout : Tpl := ⟨[⟨0, false, [.d .bool]⟩], []⟩
noncomputable abbrev PI := Int × Int × Int × Unit
noncomputable abbrev PO := Bool × Unit
noncomputable abbrev rs : List ResultVar := [.tmp 6]
noncomputable def F0 (x0 : Int) (x1 : Int) (x2 : Int) : Option PO :=
  bif decide (x0 ≥ x1) then
    some (decide (x0 ≤ x2), ())
  else
    some (false, ())
noncomputable def hd {R : Type} : Hand R := handNil
noncomputable def pg : Prog PO := { nt := 15, np := 3, tb := tabOf tab, hd := hd, cuts := cutsOf [], fin := endOf (tabOf tab) rs 3 pout }
noncomputable def q : FuncId → Bool := fun f => hasId [] f
theorem seg0 (x0 : Int) (x1 : Int) (x2 : Int) : arun (pg) 5000 [.code c0] (mk pin (x0, x1, x2, ())) = F0 x0 x1 x2 := by kernel_rfl
noncomputable def impl : PI → Option PO := fun x => F0 x.1 x.2.1 x.2.2.1
theorem impl_eq (x0 : Int) (x1 : Int) (x2 : Int) : impl (x0, x1, x2, ()) = F0 x0 x1 x2 := rfl
theorem con : Con Tryd.prog 103 3 rs.length 3 pin pout impl := by
  refine con_of_run' (nt := 15) (c := c0) tabGood Tryd.func103 (by kernel_rfl) (by kernel_rfl) (by kernel_rfl) (by kernel_rfl) (by kernel_rfl) (by kernel_rfl) (by kernel_rfl) ?_
  intro w0 O y hnp
  generalize hPost : (fun (a' : Act) (w' : World) => ∃ μ' S' st', Rel 15 w0 O μ' S' st' a' w' ∧ endOf (tabOf tab) rs 3 pout st' = some y) = Post
  have fin : ∀ (μ : Id → Option Value) (S : Nat → Prop) (st : St) (a : Act) (w : World), Rel 15 w0 O μ S st a w → endOf (tabOf tab) rs 3 pout st = some y → Post a w := fun μ S st a w h he => by rw [← hPost]; exact ⟨μ, S, st, h, he⟩
  have hp : Parts Tryd.prog 103 (pg) [] := ⟨tab_ok tabGood rfl, handNil_ok, rfl⟩
  exact good_first (hp) (runOK_of (hp) hnp trivial fin) (fun x => (seg0 x.1 x.2.1 x.2.2.1))
end spec_l1In

/-! ### loop.example/wholecheck/spec.l30Name -/
namespace spec_l30Name
noncomputable abbrev c0 : Code := (Tryd.f49.body).getD .skip
noncomputable abbrev pin : Tpl := ⟨[⟨0, false, [.d .str]⟩], []⟩
noncomputable abbrev pout : Tpl := ⟨[⟨0, false, [.d .bool]⟩], []⟩
noncomputable abbrev p2 : Tpl := ⟨[⟨0, false, [.d .str]⟩, ⟨3, false, [.d (.int .i64)]⟩], []⟩
noncomputable def T2 : List Item := (find 2 c0 []).getD []
noncomputable abbrev PI := (List UInt8) × Unit
noncomputable abbrev PO := Bool × Unit
noncomputable abbrev P2 := (List UInt8) × Int × Unit
noncomputable abbrev rs : List ResultVar := [.tmp 2]
noncomputable def F0 (J2 : P2 → Option PO) (x0 : List UInt8) : Option PO :=
  J2 (x0, 0, ())
noncomputable def F2 (J2 : P2 → Option PO) (Gspec_l1In : spec_l1In.PI → Option spec_l1In.PO) (t0 : List UInt8) (t3 : Int) : Option PO :=
  bif decide (t3 < (t0.length : Int)) then
    bif inb t3 t0.length then
      bif decide (((t0.getD t3.toNat 0).toNat : Int) < 97) then
        some (false, ())
      else
        bif inb t3 t0.length then
          bif decide (((t0.getD t3.toNat 0).toNat : Int) > 122) then
            some (false, ())
          else
            J2 (t0, wI (t3 + 1), ())
        else
          none
    else
      none
  else
    Option.bind (Gspec_l1In ((t0.length : Int), 1, 8, ())) fun y0 =>
    some (y0.1, ())
noncomputable def hd {R : Type} (Gspec_l1In : spec_l1In.PI → Option spec_l1In.PO) : Hand R := (handAt 103 [22] true ⟨3, 1, 3, spec_l1In.pin, spec_l1In.pout, Gspec_l1In⟩ handNil)
noncomputable def pg (Gspec_l1In : spec_l1In.PI → Option spec_l1In.PO) (J2 : List Item → P2 → Option PO) : Prog PO := { nt := 23, np := 1, tb := tabOf tab, hd := hd Gspec_l1In, cuts := cutsOf [(2, cut p2 J2)], fin := endOf (tabOf tab) rs 1 pout }
noncomputable def q : FuncId → Bool := fun f => hasId [103] f
theorem seg0 (Gspec_l1In : spec_l1In.PI → Option spec_l1In.PO) (J2 : List Item → P2 → Option PO) (x0 : List UInt8) : arun (pg Gspec_l1In J2) 5000 [.code c0] (mk pin (x0, ())) = F0 (J2 T2) x0 := by kernel_rfl
theorem seg2 (Gspec_l1In : spec_l1In.PI → Option spec_l1In.PO) (J2 : List Item → P2 → Option PO) (t0 : List UInt8) (t3 : Int) : arun1 (pg Gspec_l1In J2) 5000 T2 (mk p2 (t0, t3, ())) = F2 (J2 T2) Gspec_l1In t0 t3 := by kernel_rfl
noncomputable def L2 : P2 → Option PO := lfp fun J2 x => F2 J2 spec_l1In.impl x.1 x.2.1
noncomputable def impl : PI → Option PO := fun x => F0 L2 x.1
theorem F2_le {J2 J2' : P2 → Option PO} (h2 : OLe J2 J2') {Gspec_l1In : spec_l1In.PI → Option spec_l1In.PO} (t0 : List UInt8) (t3 : Int) : OptLe (F2 J2 Gspec_l1In t0 t3) (F2 J2' Gspec_l1In t0 t3) := by unfold F2; exact .cond (.cond (.cond (.refl _) (.cond (.cond (.refl _) (.of h2 _)) (.refl _))) (.refl _)) (.refl _)
theorem L2_mono : OMono fun J2 (x : P2) => F2 J2 spec_l1In.impl x.1 x.2.1 := fun J J' h2 x => F2_le h2 x.1 x.2.1
theorem L2_eq (t0 : List UInt8) (t3 : Int) : L2 (t0, t3, ()) = F2 (L2) spec_l1In.impl t0 t3 := congrFun (lfp_eq (L2_mono)) _
theorem impl_eq (x0 : List UInt8) : impl (x0, ()) = F0 L2 x0 := rfl
theorem con : Con Tryd.prog 49 1 rs.length 1 pin pout impl := by
  refine con_of_run' (nt := 23) (c := c0) tabGood Tryd.func49 (by kernel_rfl) (by kernel_rfl) (by kernel_rfl) (by kernel_rfl) (by kernel_rfl) (by kernel_rfl) (by kernel_rfl) ?_
  intro w0 O y hnp
  generalize hPost : (fun (a' : Act) (w' : World) => ∃ μ' S' st', Rel 23 w0 O μ' S' st' a' w' ∧ endOf (tabOf tab) rs 1 pout st' = some y) = Post
  have fin : ∀ (μ : Id → Option Value) (S : Nat → Prop) (st : St) (a : Act) (w : World), Rel 23 w0 O μ S st a w → endOf (tabOf tab) rs 1 pout st = some y → Post a w := fun μ S st a w h he => by rw [← hPost]; exact ⟨μ, S, st, h, he⟩
  have hp : ∀ (J2 : List Item → P2 → Option PO), Parts Tryd.prog 49 (pg spec_l1In.impl J2) [(2, cut p2 J2)] := fun J2 => ⟨tab_ok tabGood rfl, (handAt_ok spec_l1In.con handNil_ok), rfl⟩
  have g2 : Good Tryd.prog 23 w0 O Post y T2 p2 L2 := good_lfp fun J2 h2 => good_part (hp (atT T2 J2)) (runOK_of (hp (atT T2 J2)) hnp ⟨cutOK_at h2, trivial⟩ fin) (fun x => (seg2 spec_l1In.impl (atT T2 J2) x.1 x.2.1).trans (by simp only [atT_self] <;> rfl))
  exact good_first (hp (atT T2 L2)) (runOK_of (hp (atT T2 L2)) hnp ⟨cutOK_at g2, trivial⟩ fin) (fun x => (seg0 spec_l1In.impl (atT T2 L2) x.1).trans (by simp only [atT_self] <;> rfl))
end spec_l30Name

/-! ### loop.example/wholecheck/spec.l30At -/
namespace spec_l30At
noncomputable abbrev c0 : Code := (Tryd.f50.body).getD .skip
noncomputable abbrev pin : Tpl := ⟨[⟨0, false, [.d (.sl .str)]⟩, ⟨1, false, [.d .str]⟩], []⟩
noncomputable abbrev pout : Tpl := ⟨[⟨0, false, [.d (.int .i64)]⟩], []⟩
noncomputable abbrev p2 : Tpl := ⟨[⟨0, false, [.d (.sl .str)]⟩, ⟨1, false, [.d .str]⟩, ⟨5, false, [.d (.int .i64)]⟩], []⟩
noncomputable def T2 : List Item := (find 2 c0 []).getD []
noncomputable abbrev PI := (List (List UInt8)) × (List UInt8) × Unit
noncomputable abbrev PO := Int × Unit
noncomputable abbrev P2 := (List (List UInt8)) × (List UInt8) × Int × Unit
noncomputable abbrev rs : List ResultVar := [.tmp 4]
noncomputable def F0 (J2 : P2 → Option PO) (x0 : List (List UInt8)) (x1 : List UInt8) : Option PO :=
  J2 (x0, x1, 0, ())
noncomputable def F2 (J2 : P2 → Option PO) (t0 : List (List UInt8)) (t1 : List UInt8) (t5 : Int) : Option PO :=
  bif decide (t5 < (t0.length : Int)) then
    bif inb t5 t0.length then
      bif (t0.getD t5.toNat []) == t1 then
        some (t5, ())
      else
        J2 (t0, t1, wI (t5 + 1), ())
    else
      none
  else
    some ((-1), ())
noncomputable def hd {R : Type} : Hand R := handNil
noncomputable def pg (J2 : List Item → P2 → Option PO) : Prog PO := { nt := 19, np := 2, tb := tabOf tab, hd := hd, cuts := cutsOf [(2, cut p2 J2)], fin := endOf (tabOf tab) rs 2 pout }
noncomputable def q : FuncId → Bool := fun f => hasId [] f
theorem seg0 (J2 : List Item → P2 → Option PO) (x0 : List (List UInt8)) (x1 : List UInt8) : arun (pg J2) 5000 [.code c0] (mk pin (x0, x1, ())) = F0 (J2 T2) x0 x1 := by kernel_rfl
theorem seg2 (J2 : List Item → P2 → Option PO) (t0 : List (List UInt8)) (t1 : List UInt8) (t5 : Int) : arun1 (pg J2) 5000 T2 (mk p2 (t0, t1, t5, ())) = F2 (J2 T2) t0 t1 t5 := by kernel_rfl
noncomputable def L2 : P2 → Option PO := lfp fun J2 x => F2 J2 x.1 x.2.1 x.2.2.1
noncomputable def impl : PI → Option PO := fun x => F0 L2 x.1 x.2.1
theorem F2_le {J2 J2' : P2 → Option PO} (h2 : OLe J2 J2') (t0 : List (List UInt8)) (t1 : List UInt8) (t5 : Int) : OptLe (F2 J2 t0 t1 t5) (F2 J2' t0 t1 t5) := by unfold F2; exact .cond (.cond (.cond (.refl _) (.of h2 _)) (.refl _)) (.refl _)
theorem L2_mono : OMono fun J2 (x : P2) => F2 J2 x.1 x.2.1 x.2.2.1 := fun J J' h2 x => F2_le h2 x.1 x.2.1 x.2.2.1
theorem L2_eq (t0 : List (List UInt8)) (t1 : List UInt8) (t5 : Int) : L2 (t0, t1, t5, ()) = F2 (L2) t0 t1 t5 := congrFun (lfp_eq (L2_mono)) _
theorem impl_eq (x0 : List (List UInt8)) (x1 : List UInt8) : impl (x0, x1, ()) = F0 L2 x0 x1 := rfl
theorem con : Con Tryd.prog 50 2 rs.length 2 pin pout impl := by
  refine con_of_run' (nt := 19) (c := c0) tabGood Tryd.func50 (by kernel_rfl) (by kernel_rfl) (by kernel_rfl) (by kernel_rfl) (by kernel_rfl) (by kernel_rfl) (by kernel_rfl) ?_
  intro w0 O y hnp
  generalize hPost : (fun (a' : Act) (w' : World) => ∃ μ' S' st', Rel 19 w0 O μ' S' st' a' w' ∧ endOf (tabOf tab) rs 2 pout st' = some y) = Post
  have fin : ∀ (μ : Id → Option Value) (S : Nat → Prop) (st : St) (a : Act) (w : World), Rel 19 w0 O μ S st a w → endOf (tabOf tab) rs 2 pout st = some y → Post a w := fun μ S st a w h he => by rw [← hPost]; exact ⟨μ, S, st, h, he⟩
  have hp : ∀ (J2 : List Item → P2 → Option PO), Parts Tryd.prog 50 (pg J2) [(2, cut p2 J2)] := fun J2 => ⟨tab_ok tabGood rfl, handNil_ok, rfl⟩
  have g2 : Good Tryd.prog 19 w0 O Post y T2 p2 L2 := good_lfp fun J2 h2 => good_part (hp (atT T2 J2)) (runOK_of (hp (atT T2 J2)) hnp ⟨cutOK_at h2, trivial⟩ fin) (fun x => (seg2 (atT T2 J2) x.1 x.2.1 x.2.2.1).trans (by simp only [atT_self] <;> rfl))
  exact good_first (hp (atT T2 L2)) (runOK_of (hp (atT T2 L2)) hnp ⟨cutOK_at g2, trivial⟩ fin) (fun x => (seg0 (atT T2 L2) x.1 x.2.1).trans (by simp only [atT_self] <;> rfl))
end spec_l30At

/-! ### loop.example/wholecheck/spec.NamesValid -/
namespace spec_NamesValid
noncomputable abbrev c0 : Code := (Tryd.f12.body).getD .skip
noncomputable abbrev pin : Tpl := ⟨[⟨0, false, [.d (.sl .str)]⟩], []⟩
noncomputable abbrev pout : Tpl := ⟨[⟨0, false, [.d .bool]⟩], []⟩
noncomputable abbrev p2 : Tpl := ⟨[⟨0, false, [.d (.sl .str)]⟩, ⟨3, false, [.d (.int .i64)]⟩], []⟩
noncomputable def T2 : List Item := (find 2 c0 []).getD []
noncomputable abbrev p4 : Tpl := ⟨[⟨0, false, [.d (.sl .str)]⟩, ⟨3, false, [.d (.int .i64)]⟩], []⟩
noncomputable def T4 : List Item := (find 4 c0 []).getD []
noncomputable abbrev PI := (List (List UInt8)) × Unit
noncomputable abbrev PO := Bool × Unit
noncomputable abbrev P2 := (List (List UInt8)) × Int × Unit
noncomputable abbrev P4 := (List (List UInt8)) × Int × Unit
noncomputable abbrev rs : List ResultVar := [.tmp 2]
noncomputable def F0 (J2 : P2 → Option PO) (x0 : List (List UInt8)) : Option PO :=
  J2 (x0, 0, ())
noncomputable def F2 (J4 : P4 → Option PO) (t0 : List (List UInt8)) (t3 : Int) : Option PO :=
  bif decide (t3 < (t0.length : Int)) then
    J4 (t0, t3, ())
  else
    some (decide ((t0.length : Int) ≤ 5), ())
noncomputable def F4 (J2 : P2 → Option PO) (Gspec_l30At : spec_l30At.PI → Option spec_l30At.PO) (Gspec_l30Name : spec_l30Name.PI → Option spec_l30Name.PO) (t0 : List (List UInt8)) (t3 : Int) : Option PO :=
  bif inb t3 t0.length then
    Option.bind (Gspec_l30Name (t0.getD t3.toNat [], ())) fun y0 =>
    bif !y0.1 then
      some (false, ())
    else
      bif decide (0 ≤ t3) && decide (t3 ≤ (t0.length : Int)) then
        bif inb t3 t0.length then
          Option.bind (Gspec_l30At ((t0.take t3.toNat).drop 0, t0.getD t3.toNat [], ())) fun y1 =>
          bif decide (y1.1 ≥ 0) then
            some (false, ())
          else
            J2 (t0, wI (t3 + 1), ())
        else
          none
      else
        none
  else
    none
noncomputable def hd {R : Type} (Gspec_l30At : spec_l30At.PI → Option spec_l30At.PO) (Gspec_l30Name : spec_l30Name.PI → Option spec_l30Name.PO) : Hand R := (handAt 50 [24] true ⟨2, 1, 2, spec_l30At.pin, spec_l30At.pout, Gspec_l30At⟩ (handAt 49 [14] true ⟨1, 1, 1, spec_l30Name.pin, spec_l30Name.pout, Gspec_l30Name⟩ handNil))
noncomputable def pg (Gspec_l30At : spec_l30At.PI → Option spec_l30At.PO) (Gspec_l30Name : spec_l30Name.PI → Option spec_l30Name.PO) (J2 : List Item → P2 → Option PO) (J4 : List Item → P4 → Option PO) : Prog PO := { nt := 30, np := 1, tb := tabOf tab, hd := hd Gspec_l30At Gspec_l30Name, cuts := cutsOf [(2, cut p2 J2), (4, cut p4 J4)], fin := endOf (tabOf tab) rs 1 pout }
noncomputable def q : FuncId → Bool := fun f => hasId [49, 50] f
theorem seg0 (Gspec_l30At : spec_l30At.PI → Option spec_l30At.PO) (Gspec_l30Name : spec_l30Name.PI → Option spec_l30Name.PO) (J2 : List Item → P2 → Option PO) (J4 : List Item → P4 → Option PO) (x0 : List (List UInt8)) : arun (pg Gspec_l30At Gspec_l30Name J2 J4) 5000 [.code c0] (mk pin (x0, ())) = F0 (J2 T2) x0 := by kernel_rfl
theorem seg2 (Gspec_l30At : spec_l30At.PI → Option spec_l30At.PO) (Gspec_l30Name : spec_l30Name.PI → Option spec_l30Name.PO) (J2 : List Item → P2 → Option PO) (J4 : List Item → P4 → Option PO) (t0 : List (List UInt8)) (t3 : Int) : arun1 (pg Gspec_l30At Gspec_l30Name J2 J4) 5000 T2 (mk p2 (t0, t3, ())) = F2 (J4 T4) t0 t3 := by kernel_rfl
theorem seg4 (Gspec_l30At : spec_l30At.PI → Option spec_l30At.PO) (Gspec_l30Name : spec_l30Name.PI → Option spec_l30Name.PO) (J2 : List Item → P2 → Option PO) (J4 : List Item → P4 → Option PO) (t0 : List (List UInt8)) (t3 : Int) : arunQ (pg Gspec_l30At Gspec_l30Name J2 J4) q [] [] 5000 T4 (mk p4 (t0, t3, ())) = List.replicate (arunQ (pg Gspec_l30At Gspec_l30Name J2 J4) q [] [] 5000 T4 (mk p4 (t0, t3, ()))).length (F4 (J2 T2) Gspec_l30At Gspec_l30Name t0 t3) := by kernel_rfl
noncomputable def L4 (J2 : P2 → Option PO) : P4 → Option PO := fun x => F4 J2 spec_l30At.impl spec_l30Name.impl x.1 x.2.1
noncomputable def L2 : P2 → Option PO := lfp fun J2 x => F2 (L4 J2) x.1 x.2.1
noncomputable def impl : PI → Option PO := fun x => F0 L2 x.1
theorem F4_le {J2 J2' : P2 → Option PO} (h2 : OLe J2 J2') {Gspec_l30At : spec_l30At.PI → Option spec_l30At.PO} {Gspec_l30Name : spec_l30Name.PI → Option spec_l30Name.PO} (t0 : List (List UInt8)) (t3 : Int) : OptLe (F4 J2 Gspec_l30At Gspec_l30Name t0 t3) (F4 J2' Gspec_l30At Gspec_l30Name t0 t3) := by unfold F4; exact .cond (.bind (.refl _) fun _ => .cond (.refl _) (.cond (.cond (.bind (.refl _) fun _ => .cond (.refl _) (.of h2 _)) (.refl _)) (.refl _))) (.refl _)
theorem F2_le {J4 J4' : P4 → Option PO} (h4 : OLe J4 J4') (t0 : List (List UInt8)) (t3 : Int) : OptLe (F2 J4 t0 t3) (F2 J4' t0 t3) := by unfold F2; exact .cond (.of h4 _) (.refl _)
theorem L4_eq (J2 : P2 → Option PO) (t0 : List (List UInt8)) (t3 : Int) : L4 J2 (t0, t3, ()) = F4 J2 spec_l30At.impl spec_l30Name.impl t0 t3 := rfl
theorem L4_le {J2 J2' : P2 → Option PO} (h2 : OLe J2 J2') : OLe (L4 J2) (L4 J2') := fun x => F4_le h2 x.1 x.2.1
theorem L2_mono : OMono fun J2 (x : P2) => F2 (L4 J2) x.1 x.2.1 := fun J J' h2 x => F2_le (L4_le h2) x.1 x.2.1
theorem L2_eq (t0 : List (List UInt8)) (t3 : Int) : L2 (t0, t3, ()) = F2 (L4 (L2)) t0 t3 := congrFun (lfp_eq (L2_mono)) _
theorem impl_eq (x0 : List (List UInt8)) : impl (x0, ()) = F0 L2 x0 := rfl
theorem con : Con Tryd.prog 12 1 rs.length 1 pin pout impl := by
  refine con_of_run' (nt := 30) (c := c0) tabGood Tryd.func12 (by kernel_rfl) (by kernel_rfl) (by kernel_rfl) (by kernel_rfl) (by kernel_rfl) (by kernel_rfl) (by kernel_rfl) ?_
  intro w0 O y hnp
  generalize hPost : (fun (a' : Act) (w' : World) => ∃ μ' S' st', Rel 30 w0 O μ' S' st' a' w' ∧ endOf (tabOf tab) rs 1 pout st' = some y) = Post
  have fin : ∀ (μ : Id → Option Value) (S : Nat → Prop) (st : St) (a : Act) (w : World), Rel 30 w0 O μ S st a w → endOf (tabOf tab) rs 1 pout st = some y → Post a w := fun μ S st a w h he => by rw [← hPost]; exact ⟨μ, S, st, h, he⟩
  have hp : ∀ (J2 : List Item → P2 → Option PO), ∀ (J4 : List Item → P4 → Option PO), Parts Tryd.prog 12 (pg spec_l30At.impl spec_l30Name.impl J2 J4) [(2, cut p2 J2), (4, cut p4 J4)] := fun J2 J4 => ⟨tab_ok tabGood rfl, (handAt_ok spec_l30At.con (handAt_ok spec_l30Name.con handNil_ok)), rfl⟩
  have g4 : ∀ (J2 : P2 → Option PO), Good Tryd.prog 30 w0 O Post y T2 p2 J2 → Good Tryd.prog 30 w0 O Post y T4 p4 (L4 J2) := fun J2 h2 => good_quiet (hs := hd spec_l30At.impl spec_l30Name.impl) (cv' := hd spec_l30At.impl spec_l30Name.impl) (Checked.mixed Tryd.checked) (hp (atT T2 J2) (atT T4 (fun _ => none))) (handAt_D spec_l30At.con (by rfl) rfl (handAt_D spec_l30Name.con (by rfl) rfl handNil_D)) (handAt_nat (handAt_nat handNil_nat)) (handAt_nat (handAt_nat handNil_nat)) (runOK_of (hp (atT T2 J2) (atT T4 (fun _ => none))) hnp ⟨cutOK_at h2, cutOK_at (p := p4) (T := T4) (J := fun _ => none) good_none, trivial⟩ fin) (fun x => all_same ⟨_, (seg4 spec_l30At.impl spec_l30Name.impl (atT T2 J2) (atT T4 (fun _ => none)) x.1 x.2.1).trans (by simp only [atT_self] <;> rfl)⟩)
  have g2 : Good Tryd.prog 30 w0 O Post y T2 p2 L2 := good_lfp fun J2 h2 => good_part (hp (atT T2 (fun _ => none)) (atT T4 (L4 J2))) (runOK_of (hp (atT T2 (fun _ => none)) (atT T4 (L4 J2))) hnp ⟨cutOK_at (p := p2) (T := T2) (J := fun _ => none) good_none, cutOK_at (g4 J2 h2), trivial⟩ fin) (fun x => (seg2 spec_l30At.impl spec_l30Name.impl (atT T2 (fun _ => none)) (atT T4 (L4 J2)) x.1 x.2.1).trans (by simp only [atT_self] <;> rfl))
  exact good_first (hp (atT T2 L2) (atT T4 (fun _ => none))) (runOK_of (hp (atT T2 L2) (atT T4 (fun _ => none))) hnp ⟨cutOK_at g2, cutOK_at (p := p4) (T := T4) (J := fun _ => none) good_none, trivial⟩ fin) (fun x => (seg0 spec_l30At.impl spec_l30Name.impl (atT T2 L2) (atT T4 (fun _ => none)) x.1).trans (by simp only [atT_self] <;> rfl))
end spec_NamesValid

/-! ### loop.example/wholecheck/spec.l1One -/
namespace spec_l1One
noncomputable abbrev c0 : Code := (Tryd.f77.body).getD .skip
noncomputable abbrev pin : Tpl := ⟨[⟨0, false, [.d (.int .i64)]⟩], []⟩
noncomputable abbrev pout : Tpl := ⟨[⟨0, false, [.d .bool]⟩], []⟩
noncomputable abbrev PI := Int × Unit
noncomputable abbrev PO := Bool × Unit
noncomputable abbrev rs : List ResultVar := [.tmp 2]
noncomputable def F0 (x0 : Int) : Option PO :=
  some (x0 == 7, ())
noncomputable def hd {R : Type} : Hand R := handNil
noncomputable def pg : Prog PO := { nt := 5, np := 1, tb := tabOf tab, hd := hd, cuts := cutsOf [], fin := endOf (tabOf tab) rs 1 pout }
noncomputable def q : FuncId → Bool := fun f => hasId [] f
theorem seg0 (x0 : Int) : arun (pg) 5000 [.code c0] (mk pin (x0, ())) = F0 x0 := by kernel_rfl
noncomputable def impl : PI → Option PO := fun x => F0 x.1
theorem impl_eq (x0 : Int) : impl (x0, ()) = F0 x0 := rfl
theorem con : Con Tryd.prog 77 1 rs.length 1 pin pout impl := by
  refine con_of_run' (nt := 5) (c := c0) tabGood Tryd.func77 (by kernel_rfl) (by kernel_rfl) (by kernel_rfl) (by kernel_rfl) (by kernel_rfl) (by kernel_rfl) (by kernel_rfl) ?_
  intro w0 O y hnp
  generalize hPost : (fun (a' : Act) (w' : World) => ∃ μ' S' st', Rel 5 w0 O μ' S' st' a' w' ∧ endOf (tabOf tab) rs 1 pout st' = some y) = Post
  have fin : ∀ (μ : Id → Option Value) (S : Nat → Prop) (st : St) (a : Act) (w : World), Rel 5 w0 O μ S st a w → endOf (tabOf tab) rs 1 pout st = some y → Post a w := fun μ S st a w h he => by rw [← hPost]; exact ⟨μ, S, st, h, he⟩
  have hp : Parts Tryd.prog 77 (pg) [] := ⟨tab_ok tabGood rfl, handNil_ok, rfl⟩
  exact good_first (hp) (runOK_of (hp) hnp trivial fin) (fun x => (seg0 x.1))
end spec_l1One

/-! ### loop.example/wholecheck/spec.l1Kind -/
namespace spec_l1Kind
noncomputable abbrev c0 : Code := (Tryd.f159.body).getD .skip
noncomputable abbrev pin : Tpl := ⟨[⟨0, true, [.d (.prod (.int .i64) (.prod (.int .i64) (.prod (.int .i64) (.last (.int .i64)))))]⟩, ⟨1, false, [.d (.sl (.int .i64))]⟩, ⟨2, false, [.d (.int .i64)]⟩], []⟩
noncomputable abbrev pout : Tpl := ⟨[⟨0, false, [.d (.int .i64)]⟩], []⟩
noncomputable abbrev p3 : Tpl := ⟨[⟨1, false, [.d (.sl (.int .i64))]⟩, ⟨2, false, [.d (.int .i64)]⟩, ⟨3, false, [.ptr 3000000 0]⟩], [(3000000, .box [.d (.int .i64), .d (.int .i64), .d (.int .i64), .d (.int .i64)])]⟩
noncomputable def T3 : List Item := (find 3 c0 []).getD []
noncomputable abbrev p5 : Tpl := ⟨[⟨1, false, [.d (.sl (.int .i64))]⟩, ⟨3, false, [.ptr 3000000 0]⟩], [(3000000, .box [.d (.int .i64), .d (.int .i64), .d (.int .i64), .d (.int .i64)])]⟩
noncomputable def T5 : List Item := (find 5 c0 []).getD []
noncomputable abbrev p7 : Tpl := ⟨[⟨1, false, [.d (.sl (.int .i64))]⟩, ⟨3, false, [.ptr 3000000 0]⟩], [(3000000, .box [.d (.int .i64), .d (.int .i64), .d (.int .i64), .d (.int .i64)])]⟩
noncomputable def T7 : List Item := (find 7 c0 []).getD []
noncomputable abbrev p10 : Tpl := ⟨[⟨1, false, [.d (.sl (.int .i64))]⟩, ⟨3, false, [.ptr 3000000 0]⟩, ⟨7, false, [.d (.int .i64)]⟩], [(3000000, .box [.d (.int .i64), .d (.int .i64), .d (.int .i64), .d (.int .i64)])]⟩
noncomputable def T10 : List Item := (find 10 c0 []).getD []
noncomputable abbrev PI := (Int × Int × Int × Int) × (List Int) × Int × Unit
noncomputable abbrev PO := Int × Unit
noncomputable abbrev P3 := (List Int) × Int × Int × Int × Int × Int × Unit
noncomputable abbrev P5 := (List Int) × Int × Int × Int × Int × Unit
noncomputable abbrev P7 := (List Int) × Int × Int × Int × Int × Unit
noncomputable abbrev P10 := (List Int) × Int × Int × Int × Int × Int × Unit
noncomputable abbrev rs : List ResultVar := [.tmp 6]
noncomputable def F0 (J3 : P3 → Option PO) (Gspec_l1In : spec_l1In.PI → Option spec_l1In.PO) (x0 : Int × Int × Int × Int) (x1 : List Int) (x2 : Int) : Option PO :=
  bif x0.1 == 0 then
    Option.bind (Gspec_l1In (x0.2.1, (-9999), 9999, ())) fun y0 =>
    bif y0.1 then
      bif x0.2.2.1 == 0 then
        bif x0.2.2.2 == 0 then
          some (1, ())
        else
          J3 (x1, x2, x0.1, x0.2.1, x0.2.2.1, x0.2.2.2, ())
      else
        J3 (x1, x2, x0.1, x0.2.1, x0.2.2.1, x0.2.2.2, ())
    else
      J3 (x1, x2, x0.1, x0.2.1, x0.2.2.1, x0.2.2.2, ())
  else
    J3 (x1, x2, x0.1, x0.2.1, x0.2.2.1, x0.2.2.2, ())
noncomputable def F3 (J5 : P5 → Option PO) (Gspec_l1In : spec_l1In.PI → Option spec_l1In.PO) (t1 : List Int) (t2 : Int) (b0_0 : Int) (b0_1 : Int) (b0_2 : Int) (b0_3 : Int) : Option PO :=
  bif b0_0 == 1 then
    Option.bind (Gspec_l1In (b0_1, 0, wI (t2 - 1), ())) fun y1 =>
    bif y1.1 then
      bif b0_2 == 0 then
        bif b0_3 == 0 then
          some (1, ())
        else
          J5 (t1, b0_0, b0_1, b0_2, b0_3, ())
      else
        J5 (t1, b0_0, b0_1, b0_2, b0_3, ())
    else
      J5 (t1, b0_0, b0_1, b0_2, b0_3, ())
  else
    J5 (t1, b0_0, b0_1, b0_2, b0_3, ())
noncomputable def F5 (J7 : P7 → Option PO) (Gspec_l1In : spec_l1In.PI → Option spec_l1In.PO) (t1 : List Int) (b0_0 : Int) (b0_1 : Int) (b0_2 : Int) (b0_3 : Int) : Option PO :=
  Option.bind (Gspec_l1In (b0_0, 2, 9, ())) fun y2 =>
  bif !y2.1 then
    some (0, ())
  else
    bif b0_1 != 0 then
      some (0, ())
    else
      Option.bind (Gspec_l1In (b0_2, 0, wI ((t1.length : Int) - 1), ())) fun y3 =>
      bif !y3.1 then
        some (0, ())
      else
        Option.bind (Gspec_l1In (b0_3, 0, wI ((t1.length : Int) - 1), ())) fun y4 =>
        bif !y4.1 then
          some (0, ())
        else
          J7 (t1, b0_0, b0_1, b0_2, b0_3, ())
noncomputable def F7 (J10 : P10 → Option PO) (t1 : List Int) (b0_0 : Int) (b0_1 : Int) (b0_2 : Int) (b0_3 : Int) : Option PO :=
  bif decide (b0_0 ≥ 7) then
    J10 (t1, 2, b0_0, b0_1, b0_2, b0_3, ())
  else
    J10 (t1, 1, b0_0, b0_1, b0_2, b0_3, ())
noncomputable def F10 (Gspec_l1One : spec_l1One.PI → Option spec_l1One.PO) (t1 : List Int) (t7 : Int) (b0_0 : Int) (b0_1 : Int) (b0_2 : Int) (b0_3 : Int) : Option PO :=
  bif inb b0_2 t1.length then
    bif t1.getD b0_2.toNat 0 != t7 then
      some (0, ())
    else
      bif inb b0_3 t1.length then
        bif t1.getD b0_3.toNat 0 != t7 then
          some (0, ())
        else
          Option.bind (Gspec_l1One (b0_0, ())) fun y5 =>
          bif y5.1 then
            bif b0_3 != b0_2 then
              some (0, ())
            else
              bif decide (b0_0 ≥ 5) then
                some (2, ())
              else
                some (1, ())
          else
            bif decide (b0_0 ≥ 5) then
              some (2, ())
            else
              some (1, ())
      else
        none
  else
    none
noncomputable def hd {R : Type} (Gspec_l1In : spec_l1In.PI → Option spec_l1In.PO) (Gspec_l1One : spec_l1One.PI → Option spec_l1One.PO) : Hand R := (handAt 103 [14, 34, 48, 61, 70] true ⟨3, 1, 3, spec_l1In.pin, spec_l1In.pout, Gspec_l1In⟩ (handAt 77 [95] true ⟨1, 1, 1, spec_l1One.pin, spec_l1One.pout, Gspec_l1One⟩ handNil))
noncomputable def pg (Gspec_l1In : spec_l1In.PI → Option spec_l1In.PO) (Gspec_l1One : spec_l1One.PI → Option spec_l1One.PO) (J3 : List Item → P3 → Option PO) (J5 : List Item → P5 → Option PO) (J7 : List Item → P7 → Option PO) (J10 : List Item → P10 → Option PO) : Prog PO := { nt := 107, np := 3, tb := tabOf tab, hd := hd Gspec_l1In Gspec_l1One, cuts := cutsOf [(3, cut p3 J3), (5, cut p5 J5), (7, cut p7 J7), (10, cut p10 J10)], fin := endOf (tabOf tab) rs 3 pout }
noncomputable def q : FuncId → Bool := fun f => hasId [77, 103] f
theorem seg0 (Gspec_l1In : spec_l1In.PI → Option spec_l1In.PO) (Gspec_l1One : spec_l1One.PI → Option spec_l1One.PO) (J3 : List Item → P3 → Option PO) (J5 : List Item → P5 → Option PO) (J7 : List Item → P7 → Option PO) (J10 : List Item → P10 → Option PO) (x0 : Int × Int × Int × Int) (x1 : List Int) (x2 : Int) : arun (pg Gspec_l1In Gspec_l1One J3 J5 J7 J10) 5000 [.code c0] (mk pin (x0, x1, x2, ())) = F0 (J3 T3) Gspec_l1In x0 x1 x2 := by kernel_rfl
theorem seg3 (Gspec_l1In : spec_l1In.PI → Option spec_l1In.PO) (Gspec_l1One : spec_l1One.PI → Option spec_l1One.PO) (J3 : List Item → P3 → Option PO) (J5 : List Item → P5 → Option PO) (J7 : List Item → P7 → Option PO) (J10 : List Item → P10 → Option PO) (t1 : List Int) (t2 : Int) (b0_0 : Int) (b0_1 : Int) (b0_2 : Int) (b0_3 : Int) : arun1 (pg Gspec_l1In Gspec_l1One J3 J5 J7 J10) 5000 T3 (mk p3 (t1, t2, b0_0, b0_1, b0_2, b0_3, ())) = F3 (J5 T5) Gspec_l1In t1 t2 b0_0 b0_1 b0_2 b0_3 := by kernel_rfl
theorem seg5 (Gspec_l1In : spec_l1In.PI → Option spec_l1In.PO) (Gspec_l1One : spec_l1One.PI → Option spec_l1One.PO) (J3 : List Item → P3 → Option PO) (J5 : List Item → P5 → Option PO) (J7 : List Item → P7 → Option PO) (J10 : List Item → P10 → Option PO) (t1 : List Int) (b0_0 : Int) (b0_1 : Int) (b0_2 : Int) (b0_3 : Int) : arun1 (pg Gspec_l1In Gspec_l1One J3 J5 J7 J10) 5000 T5 (mk p5 (t1, b0_0, b0_1, b0_2, b0_3, ())) = F5 (J7 T7) Gspec_l1In t1 b0_0 b0_1 b0_2 b0_3 := by kernel_rfl
theorem seg7 (Gspec_l1In : spec_l1In.PI → Option spec_l1In.PO) (Gspec_l1One : spec_l1One.PI → Option spec_l1One.PO) (J3 : List Item → P3 → Option PO) (J5 : List Item → P5 → Option PO) (J7 : List Item → P7 → Option PO) (J10 : List Item → P10 → Option PO) (t1 : List Int) (b0_0 : Int) (b0_1 : Int) (b0_2 : Int) (b0_3 : Int) : arun1 (pg Gspec_l1In Gspec_l1One J3 J5 J7 J10) 5000 T7 (mk p7 (t1, b0_0, b0_1, b0_2, b0_3, ())) = F7 (J10 T10) t1 b0_0 b0_1 b0_2 b0_3 := by kernel_rfl
theorem seg10 (Gspec_l1In : spec_l1In.PI → Option spec_l1In.PO) (Gspec_l1One : spec_l1One.PI → Option spec_l1One.PO) (J3 : List Item → P3 → Option PO) (J5 : List Item → P5 → Option PO) (J7 : List Item → P7 → Option PO) (J10 : List Item → P10 → Option PO) (t1 : List Int) (t7 : Int) (b0_0 : Int) (b0_1 : Int) (b0_2 : Int) (b0_3 : Int) : arun1 (pg Gspec_l1In Gspec_l1One J3 J5 J7 J10) 5000 T10 (mk p10 (t1, t7, b0_0, b0_1, b0_2, b0_3, ())) = F10 Gspec_l1One t1 t7 b0_0 b0_1 b0_2 b0_3 := by kernel_rfl
noncomputable def L10 : P10 → Option PO := fun x => F10 spec_l1One.impl x.1 x.2.1 x.2.2.1 x.2.2.2.1 x.2.2.2.2.1 x.2.2.2.2.2.1
noncomputable def L7 : P7 → Option PO := fun x => F7 L10 x.1 x.2.1 x.2.2.1 x.2.2.2.1 x.2.2.2.2.1
noncomputable def L5 : P5 → Option PO := fun x => F5 L7 spec_l1In.impl x.1 x.2.1 x.2.2.1 x.2.2.2.1 x.2.2.2.2.1
noncomputable def L3 : P3 → Option PO := fun x => F3 L5 spec_l1In.impl x.1 x.2.1 x.2.2.1 x.2.2.2.1 x.2.2.2.2.1 x.2.2.2.2.2.1
noncomputable def impl : PI → Option PO := fun x => F0 L3 spec_l1In.impl x.1 x.2.1 x.2.2.1
theorem L10_eq (t1 : List Int) (t7 : Int) (b0_0 : Int) (b0_1 : Int) (b0_2 : Int) (b0_3 : Int) : L10 (t1, t7, b0_0, b0_1, b0_2, b0_3, ()) = F10 spec_l1One.impl t1 t7 b0_0 b0_1 b0_2 b0_3 := rfl
theorem L7_eq (t1 : List Int) (b0_0 : Int) (b0_1 : Int) (b0_2 : Int) (b0_3 : Int) : L7 (t1, b0_0, b0_1, b0_2, b0_3, ()) = F7 (L10) t1 b0_0 b0_1 b0_2 b0_3 := rfl
theorem L5_eq (t1 : List Int) (b0_0 : Int) (b0_1 : Int) (b0_2 : Int) (b0_3 : Int) : L5 (t1, b0_0, b0_1, b0_2, b0_3, ()) = F5 (L7) spec_l1In.impl t1 b0_0 b0_1 b0_2 b0_3 := rfl
theorem L3_eq (t1 : List Int) (t2 : Int) (b0_0 : Int) (b0_1 : Int) (b0_2 : Int) (b0_3 : Int) : L3 (t1, t2, b0_0, b0_1, b0_2, b0_3, ()) = F3 (L5) spec_l1In.impl t1 t2 b0_0 b0_1 b0_2 b0_3 := rfl
theorem impl_eq (x0 : Int × Int × Int × Int) (x1 : List Int) (x2 : Int) : impl (x0, x1, x2, ()) = F0 L3 spec_l1In.impl x0 x1 x2 := rfl
theorem con : Con Tryd.prog 159 3 rs.length 3 pin pout impl := by
  refine con_of_run' (nt := 107) (c := c0) tabGood Tryd.func159 (by kernel_rfl) (by kernel_rfl) (by kernel_rfl) (by kernel_rfl) (by kernel_rfl) (by kernel_rfl) (by kernel_rfl) ?_
  intro w0 O y hnp
  generalize hPost : (fun (a' : Act) (w' : World) => ∃ μ' S' st', Rel 107 w0 O μ' S' st' a' w' ∧ endOf (tabOf tab) rs 3 pout st' = some y) = Post
  have fin : ∀ (μ : Id → Option Value) (S : Nat → Prop) (st : St) (a : Act) (w : World), Rel 107 w0 O μ S st a w → endOf (tabOf tab) rs 3 pout st = some y → Post a w := fun μ S st a w h he => by rw [← hPost]; exact ⟨μ, S, st, h, he⟩
  have hp : ∀ (J3 : List Item → P3 → Option PO), ∀ (J5 : List Item → P5 → Option PO), ∀ (J7 : List Item → P7 → Option PO), ∀ (J10 : List Item → P10 → Option PO), Parts Tryd.prog 159 (pg spec_l1In.impl spec_l1One.impl J3 J5 J7 J10) [(3, cut p3 J3), (5, cut p5 J5), (7, cut p7 J7), (10, cut p10 J10)] := fun J3 J5 J7 J10 => ⟨tab_ok tabGood rfl, (handAt_ok spec_l1In.con (handAt_ok spec_l1One.con handNil_ok)), rfl⟩
  have g10 : Good Tryd.prog 107 w0 O Post y T10 p10 L10 := good_part (hp (atT T3 (fun _ => none)) (atT T5 (fun _ => none)) (atT T7 (fun _ => none)) (atT T10 (fun _ => none))) (runOK_of (hp (atT T3 (fun _ => none)) (atT T5 (fun _ => none)) (atT T7 (fun _ => none)) (atT T10 (fun _ => none))) hnp ⟨cutOK_at (p := p3) (T := T3) (J := fun _ => none) good_none, cutOK_at (p := p5) (T := T5) (J := fun _ => none) good_none, cutOK_at (p := p7) (T := T7) (J := fun _ => none) good_none, cutOK_at (p := p10) (T := T10) (J := fun _ => none) good_none, trivial⟩ fin) (fun x => (seg10 spec_l1In.impl spec_l1One.impl (atT T3 (fun _ => none)) (atT T5 (fun _ => none)) (atT T7 (fun _ => none)) (atT T10 (fun _ => none)) x.1 x.2.1 x.2.2.1 x.2.2.2.1 x.2.2.2.2.1 x.2.2.2.2.2.1))
  have g7 : Good Tryd.prog 107 w0 O Post y T7 p7 L7 := good_part (hp (atT T3 (fun _ => none)) (atT T5 (fun _ => none)) (atT T7 (fun _ => none)) (atT T10 L10)) (runOK_of (hp (atT T3 (fun _ => none)) (atT T5 (fun _ => none)) (atT T7 (fun _ => none)) (atT T10 L10)) hnp ⟨cutOK_at (p := p3) (T := T3) (J := fun _ => none) good_none, cutOK_at (p := p5) (T := T5) (J := fun _ => none) good_none, cutOK_at (p := p7) (T := T7) (J := fun _ => none) good_none, cutOK_at g10, trivial⟩ fin) (fun x => (seg7 spec_l1In.impl spec_l1One.impl (atT T3 (fun _ => none)) (atT T5 (fun _ => none)) (atT T7 (fun _ => none)) (atT T10 L10) x.1 x.2.1 x.2.2.1 x.2.2.2.1 x.2.2.2.2.1).trans (by simp only [atT_self] <;> rfl))
  have g5 : Good Tryd.prog 107 w0 O Post y T5 p5 L5 := good_part (hp (atT T3 (fun _ => none)) (atT T5 (fun _ => none)) (atT T7 L7) (atT T10 (fun _ => none))) (runOK_of (hp (atT T3 (fun _ => none)) (atT T5 (fun _ => none)) (atT T7 L7) (atT T10 (fun _ => none))) hnp ⟨cutOK_at (p := p3) (T := T3) (J := fun _ => none) good_none, cutOK_at (p := p5) (T := T5) (J := fun _ => none) good_none, cutOK_at g7, cutOK_at (p := p10) (T := T10) (J := fun _ => none) good_none, trivial⟩ fin) (fun x => (seg5 spec_l1In.impl spec_l1One.impl (atT T3 (fun _ => none)) (atT T5 (fun _ => none)) (atT T7 L7) (atT T10 (fun _ => none)) x.1 x.2.1 x.2.2.1 x.2.2.2.1 x.2.2.2.2.1).trans (by simp only [atT_self] <;> rfl))
  have g3 : Good Tryd.prog 107 w0 O Post y T3 p3 L3 := good_part (hp (atT T3 (fun _ => none)) (atT T5 L5) (atT T7 (fun _ => none)) (atT T10 (fun _ => none))) (runOK_of (hp (atT T3 (fun _ => none)) (atT T5 L5) (atT T7 (fun _ => none)) (atT T10 (fun _ => none))) hnp ⟨cutOK_at (p := p3) (T := T3) (J := fun _ => none) good_none, cutOK_at g5, cutOK_at (p := p7) (T := T7) (J := fun _ => none) good_none, cutOK_at (p := p10) (T := T10) (J := fun _ => none) good_none, trivial⟩ fin) (fun x => (seg3 spec_l1In.impl spec_l1One.impl (atT T3 (fun _ => none)) (atT T5 L5) (atT T7 (fun _ => none)) (atT T10 (fun _ => none)) x.1 x.2.1 x.2.2.1 x.2.2.2.1 x.2.2.2.2.1 x.2.2.2.2.2.1).trans (by simp only [atT_self] <;> rfl))
  exact good_first (hp (atT T3 L3) (atT T5 (fun _ => none)) (atT T7 (fun _ => none)) (atT T10 (fun _ => none))) (runOK_of (hp (atT T3 L3) (atT T5 (fun _ => none)) (atT T7 (fun _ => none)) (atT T10 (fun _ => none))) hnp ⟨cutOK_at g3, cutOK_at (p := p5) (T := T5) (J := fun _ => none) good_none, cutOK_at (p := p7) (T := T7) (J := fun _ => none) good_none, cutOK_at (p := p10) (T := T10) (J := fun _ => none) good_none, trivial⟩ fin) (fun x => (seg0 spec_l1In.impl spec_l1One.impl (atT T3 L3) (atT T5 (fun _ => none)) (atT T7 (fun _ => none)) (atT T10 (fun _ => none)) x.1 x.2.1 x.2.2.1).trans (by simp only [atT_self] <;> rfl))
end spec_l1Kind

/-! ### loop.example/wholecheck/spec.KindsOf -/
namespace spec_KindsOf
noncomputable abbrev c0 : Code := (Tryd.f122.body).getD .skip
noncomputable abbrev pin : Tpl := ⟨[⟨0, false, [.d (.sl (.prod (.int .i64) (.prod (.int .i64) (.prod (.int .i64) (.last (.int .i64))))))]⟩, ⟨1, false, [.d (.int .i64)]⟩], []⟩
noncomputable abbrev pout : Tpl := ⟨[⟨0, false, [.row 600001]⟩], [(600001, .row 3 false (.int .i64))]⟩
noncomputable abbrev p3 : Tpl := ⟨[⟨0, false, [.d (.sl (.prod (.int .i64) (.prod (.int .i64) (.prod (.int .i64) (.last (.int .i64))))))]⟩, ⟨1, false, [.d (.int .i64)]⟩], []⟩
noncomputable def T3 : List Item := (find 3 c0 []).getD []
noncomputable abbrev p5 : Tpl := ⟨[⟨0, false, [.d (.sl (.prod (.int .i64) (.prod (.int .i64) (.prod (.int .i64) (.last (.int .i64))))))]⟩, ⟨1, false, [.d (.int .i64)]⟩, ⟨5, false, [.row 3000000]⟩, ⟨6, false, [.d (.int .i64)]⟩], [(3000000, .row 3 false (.int .i64))]⟩
noncomputable def T5 : List Item := (find 5 c0 []).getD []
noncomputable abbrev PI := (List (Int × Int × Int × Int)) × Int × Unit
noncomputable abbrev PO := (List Int) × Unit
noncomputable abbrev P3 := (List (Int × Int × Int × Int)) × Int × Unit
noncomputable abbrev P5 := (List (Int × Int × Int × Int)) × Int × Int × (List Int) × Unit
noncomputable abbrev rs : List ResultVar := [.tmp 4]
noncomputable def F0 (J3 : P3 → Option PO) (Gspec_l1In : spec_l1In.PI → Option spec_l1In.PO) (x0 : List (Int × Int × Int × Int)) (x1 : Int) : Option PO :=
  Option.bind (Gspec_l1In (x1, 0, 5, ())) fun y0 =>
  bif !y0.1 then
    some ([], ())
  else
    Option.bind (Gspec_l1In ((x0.length : Int), 1, 40, ())) fun y1 =>
    bif !y1.1 then
      some ([], ())
    else
      J3 (x0, x1, ())
noncomputable def F3 (J5 : P5 → Option PO) (t0 : List (Int × Int × Int × Int)) (t1 : Int) : Option PO :=
  J5 (t0, t1, 0, ([] : List Int), ())
noncomputable def F5 (J5 : P5 → Option PO) (Gspec_l1Kind : spec_l1Kind.PI → Option spec_l1Kind.PO) (t0 : List (Int × Int × Int × Int)) (t1 : Int) (t6 : Int) (r0 : List Int) : Option PO :=
  bif decide (t6 < (t0.length : Int)) then
    bif inb t6 t0.length then
      Option.bind (Gspec_l1Kind (t0.getD t6.toNat (0, 0, 0, 0), r0, t1, ())) fun y2 =>
      bif y2.1 == 0 then
        some ([], ())
      else
        bif decide ((r0.length + ([y2.1] : List Int).length) * 8 ≤ 140737488355328) then
          J5 (t0, t1, wI (t6 + 1), r0 ++ ([y2.1] : List Int), ())
        else
          none
    else
      none
  else
    some (r0, ())
noncomputable def hd {R : Type} (Gspec_l1In : spec_l1In.PI → Option spec_l1In.PO) (Gspec_l1Kind : spec_l1Kind.PI → Option spec_l1Kind.PO) : Hand R := (handAt 159 [30] true ⟨3, 1, 3, spec_l1Kind.pin, spec_l1Kind.pout, Gspec_l1Kind⟩ (handAt 103 [9, 14] true ⟨3, 1, 3, spec_l1In.pin, spec_l1In.pout, Gspec_l1In⟩ handNil))
noncomputable def pg (Gspec_l1In : spec_l1In.PI → Option spec_l1In.PO) (Gspec_l1Kind : spec_l1Kind.PI → Option spec_l1Kind.PO) (J3 : List Item → P3 → Option PO) (J5 : List Item → P5 → Option PO) : Prog PO := { nt := 38, np := 2, tb := tabOf tab, hd := hd Gspec_l1In Gspec_l1Kind, cuts := cutsOf [(3, cut p3 J3), (5, cut p5 J5)], fin := endOf (tabOf tab) rs 2 pout }
noncomputable def q : FuncId → Bool := fun f => hasId [103, 159] f
theorem seg0 (Gspec_l1In : spec_l1In.PI → Option spec_l1In.PO) (Gspec_l1Kind : spec_l1Kind.PI → Option spec_l1Kind.PO) (J3 : List Item → P3 → Option PO) (J5 : List Item → P5 → Option PO) (x0 : List (Int × Int × Int × Int)) (x1 : Int) : arun (pg Gspec_l1In Gspec_l1Kind J3 J5) 5000 [.code c0] (mk pin (x0, x1, ())) = F0 (J3 T3) Gspec_l1In x0 x1 := by kernel_rfl
theorem seg3 (Gspec_l1In : spec_l1In.PI → Option spec_l1In.PO) (Gspec_l1Kind : spec_l1Kind.PI → Option spec_l1Kind.PO) (J3 : List Item → P3 → Option PO) (J5 : List Item → P5 → Option PO) (t0 : List (Int × Int × Int × Int)) (t1 : Int) : arun1 (pg Gspec_l1In Gspec_l1Kind J3 J5) 5000 T3 (mk p3 (t0, t1, ())) = F3 (J5 T5) t0 t1 := by kernel_rfl
theorem seg5 (Gspec_l1In : spec_l1In.PI → Option spec_l1In.PO) (Gspec_l1Kind : spec_l1Kind.PI → Option spec_l1Kind.PO) (J3 : List Item → P3 → Option PO) (J5 : List Item → P5 → Option PO) (t0 : List (Int × Int × Int × Int)) (t1 : Int) (t6 : Int) (r0 : List Int) : arun1 (pg Gspec_l1In Gspec_l1Kind J3 J5) 5000 T5 (mk p5 (t0, t1, t6, r0, ())) = F5 (J5 T5) Gspec_l1Kind t0 t1 t6 r0 := by kernel_rfl
noncomputable def L5 : P5 → Option PO := lfp fun J5 x => F5 J5 spec_l1Kind.impl x.1 x.2.1 x.2.2.1 x.2.2.2.1
noncomputable def L3 : P3 → Option PO := fun x => F3 L5 x.1 x.2.1
noncomputable def impl : PI → Option PO := fun x => F0 L3 spec_l1In.impl x.1 x.2.1
theorem F5_le {J5 J5' : P5 → Option PO} (h5 : OLe J5 J5') {Gspec_l1Kind : spec_l1Kind.PI → Option spec_l1Kind.PO} (t0 : List (Int × Int × Int × Int)) (t1 : Int) (t6 : Int) (r0 : List Int) : OptLe (F5 J5 Gspec_l1Kind t0 t1 t6 r0) (F5 J5' Gspec_l1Kind t0 t1 t6 r0) := by unfold F5; exact .cond (.cond (.bind (.refl _) fun _ => .cond (.refl _) (.cond (.of h5 _) (.refl _))) (.refl _)) (.refl _)
theorem L5_mono : OMono fun J5 (x : P5) => F5 J5 spec_l1Kind.impl x.1 x.2.1 x.2.2.1 x.2.2.2.1 := fun J J' h5 x => F5_le h5 x.1 x.2.1 x.2.2.1 x.2.2.2.1
theorem L5_eq (t0 : List (Int × Int × Int × Int)) (t1 : Int) (t6 : Int) (r0 : List Int) : L5 (t0, t1, t6, r0, ()) = F5 (L5) spec_l1Kind.impl t0 t1 t6 r0 := congrFun (lfp_eq (L5_mono)) _
theorem L3_eq (t0 : List (Int × Int × Int × Int)) (t1 : Int) : L3 (t0, t1, ()) = F3 (L5) t0 t1 := rfl
theorem impl_eq (x0 : List (Int × Int × Int × Int)) (x1 : Int) : impl (x0, x1, ()) = F0 L3 spec_l1In.impl x0 x1 := rfl
theorem con : Con Tryd.prog 122 2 rs.length 2 pin pout impl := by
  refine con_of_run' (nt := 38) (c := c0) tabGood Tryd.func122 (by kernel_rfl) (by kernel_rfl) (by kernel_rfl) (by kernel_rfl) (by kernel_rfl) (by kernel_rfl) (by kernel_rfl) ?_
  intro w0 O y hnp
  generalize hPost : (fun (a' : Act) (w' : World) => ∃ μ' S' st', Rel 38 w0 O μ' S' st' a' w' ∧ endOf (tabOf tab) rs 2 pout st' = some y) = Post
  have fin : ∀ (μ : Id → Option Value) (S : Nat → Prop) (st : St) (a : Act) (w : World), Rel 38 w0 O μ S st a w → endOf (tabOf tab) rs 2 pout st = some y → Post a w := fun μ S st a w h he => by rw [← hPost]; exact ⟨μ, S, st, h, he⟩
  have hp : ∀ (J3 : List Item → P3 → Option PO), ∀ (J5 : List Item → P5 → Option PO), Parts Tryd.prog 122 (pg spec_l1In.impl spec_l1Kind.impl J3 J5) [(3, cut p3 J3), (5, cut p5 J5)] := fun J3 J5 => ⟨tab_ok tabGood rfl, (handAt_ok spec_l1Kind.con (handAt_ok spec_l1In.con handNil_ok)), rfl⟩
  have g5 : Good Tryd.prog 38 w0 O Post y T5 p5 L5 := good_lfp fun J5 h5 => good_part (hp (atT T3 (fun _ => none)) (atT T5 J5)) (runOK_of (hp (atT T3 (fun _ => none)) (atT T5 J5)) hnp ⟨cutOK_at (p := p3) (T := T3) (J := fun _ => none) good_none, cutOK_at h5, trivial⟩ fin) (fun x => (seg5 spec_l1In.impl spec_l1Kind.impl (atT T3 (fun _ => none)) (atT T5 J5) x.1 x.2.1 x.2.2.1 x.2.2.2.1).trans (by simp only [atT_self] <;> rfl))
  have g3 : Good Tryd.prog 38 w0 O Post y T3 p3 L3 := good_part (hp (atT T3 (fun _ => none)) (atT T5 L5)) (runOK_of (hp (atT T3 (fun _ => none)) (atT T5 L5)) hnp ⟨cutOK_at (p := p3) (T := T3) (J := fun _ => none) good_none, cutOK_at g5, trivial⟩ fin) (fun x => (seg3 spec_l1In.impl spec_l1Kind.impl (atT T3 (fun _ => none)) (atT T5 L5) x.1 x.2.1).trans (by simp only [atT_self] <;> rfl))
  exact good_first (hp (atT T3 L3) (atT T5 (fun _ => none))) (runOK_of (hp (atT T3 L3) (atT T5 (fun _ => none))) hnp ⟨cutOK_at g3, cutOK_at (p := p5) (T := T5) (J := fun _ => none) good_none, trivial⟩ fin) (fun x => (seg0 spec_l1In.impl spec_l1Kind.impl (atT T3 L3) (atT T5 (fun _ => none)) x.1 x.2.1).trans (by simp only [atT_self] <;> rfl))
end spec_KindsOf

/-! ### loop.example/wholecheck/spec.TermsValid -/
namespace spec_TermsValid
noncomputable abbrev c0 : Code := (Tryd.f76.body).getD .skip
noncomputable abbrev pin : Tpl := ⟨[⟨0, false, [.d (.sl (.prod (.int .i64) (.prod (.int .i64) (.prod (.int .i64) (.last (.int .i64))))))]⟩, ⟨1, false, [.d (.int .i64)]⟩], []⟩
noncomputable abbrev pout : Tpl := ⟨[⟨0, false, [.d .bool]⟩], []⟩
noncomputable abbrev PI := (List (Int × Int × Int × Int)) × Int × Unit
noncomputable abbrev PO := Bool × Unit
noncomputable abbrev rs : List ResultVar := [.tmp 4]
noncomputable def F0 (Gspec_KindsOf : spec_KindsOf.PI → Option spec_KindsOf.PO) (x0 : List (Int × Int × Int × Int)) (x1 : Int) : Option PO :=
  Option.bind (Gspec_KindsOf (x0, x1, ())) fun y0 =>
  some (decide ((y0.1.length : Int) > 0), ())
noncomputable def hd {R : Type} (Gspec_KindsOf : spec_KindsOf.PI → Option spec_KindsOf.PO) : Hand R := (handAt 122 [7] true ⟨2, 1, 2, spec_KindsOf.pin, spec_KindsOf.pout, Gspec_KindsOf⟩ handNil)
noncomputable def pg (Gspec_KindsOf : spec_KindsOf.PI → Option spec_KindsOf.PO) : Prog PO := { nt := 10, np := 2, tb := tabOf tab, hd := hd Gspec_KindsOf, cuts := cutsOf [], fin := endOf (tabOf tab) rs 2 pout }
noncomputable def q : FuncId → Bool := fun f => hasId [] f
theorem seg0 (Gspec_KindsOf : spec_KindsOf.PI → Option spec_KindsOf.PO) (x0 : List (Int × Int × Int × Int)) (x1 : Int) : arun (pg Gspec_KindsOf) 5000 [.code c0] (mk pin (x0, x1, ())) = F0 Gspec_KindsOf x0 x1 := by kernel_rfl
noncomputable def impl : PI → Option PO := fun x => F0 spec_KindsOf.impl x.1 x.2.1
theorem impl_eq (x0 : List (Int × Int × Int × Int)) (x1 : Int) : impl (x0, x1, ()) = F0 spec_KindsOf.impl x0 x1 := rfl
theorem con : Con Tryd.prog 76 2 rs.length 2 pin pout impl := by
  refine con_of_run' (nt := 10) (c := c0) tabGood Tryd.func76 (by kernel_rfl) (by kernel_rfl) (by kernel_rfl) (by kernel_rfl) (by kernel_rfl) (by kernel_rfl) (by kernel_rfl) ?_
  intro w0 O y hnp
  generalize hPost : (fun (a' : Act) (w' : World) => ∃ μ' S' st', Rel 10 w0 O μ' S' st' a' w' ∧ endOf (tabOf tab) rs 2 pout st' = some y) = Post
  have fin : ∀ (μ : Id → Option Value) (S : Nat → Prop) (st : St) (a : Act) (w : World), Rel 10 w0 O μ S st a w → endOf (tabOf tab) rs 2 pout st = some y → Post a w := fun μ S st a w h he => by rw [← hPost]; exact ⟨μ, S, st, h, he⟩
  have hp : Parts Tryd.prog 76 (pg spec_KindsOf.impl) [] := ⟨tab_ok tabGood rfl, (handAt_ok spec_KindsOf.con handNil_ok), rfl⟩
  exact good_first (hp) (runOK_of (hp) hnp trivial fin) (fun x => (seg0 spec_KindsOf.impl x.1 x.2.1))
end spec_TermsValid

/-! ### loop.example/wholecheck/spec.l40Dec -/
namespace spec_l40Dec
noncomputable abbrev c0 : Code := (Tryd.f57.body).getD .skip
noncomputable abbrev pin : Tpl := ⟨[⟨0, false, [.d (.int .i64)]⟩], []⟩
noncomputable abbrev pout : Tpl := ⟨[⟨0, false, [.d .str]⟩], []⟩
noncomputable abbrev p6 : Tpl := ⟨[⟨0, false, [.d (.int .i64)]⟩, ⟨3, false, [.d .str]⟩], []⟩
noncomputable def T6 : List Item := (find 6 c0 []).getD []
noncomputable abbrev PI := Int × Unit
noncomputable abbrev PO := (List UInt8) × Unit
noncomputable abbrev P6 := Int × (List UInt8) × Unit
noncomputable abbrev rs : List ResultVar := [.tmp 2]
noncomputable def F0 (J6 : P6 → Option PO) (Gspec_l40Dec : PI → Option PO) (x0 : Int) : Option PO :=
  bif decide (x0 < (-9223372036854775807)) then
    some (([45, 57, 50, 50, 51, 51, 55, 50, 48, 51, 54, 56, 53, 52, 55, 55, 53, 56, 48, 56] : List UInt8), ())
  else
    bif decide (x0 < 0) then
      Option.bind (Gspec_l40Dec (wI (0 - x0), ())) fun y0 =>
      bif decide (([45] : List UInt8).length + y0.1.length ≤ 140737488355328) then
        some (([45] : List UInt8) ++ y0.1, ())
      else
        none
    else
      J6 (x0, [], ())
noncomputable def F6 (J6 : P6 → Option PO) (t0 : Int) (t3 : List UInt8) : Option PO :=
  bif decide (t0 > 9) then
    bif decide ((strOf ([IntKind.u8.wrap (wI (48 + (Int.tmod t0 10)))] : List Int)).length + t3.length ≤ 140737488355328) then
      J6 (wI (Int.tdiv t0 10), (strOf ([IntKind.u8.wrap (wI (48 + (Int.tmod t0 10)))] : List Int)) ++ t3, ())
    else
      none
  else
    bif decide ((strOf ([IntKind.u8.wrap (wI (48 + t0))] : List Int)).length + t3.length ≤ 140737488355328) then
      some ((strOf ([IntKind.u8.wrap (wI (48 + t0))] : List Int)) ++ t3, ())
    else
      none
noncomputable def hd {R : Type} (Gspec_l40Dec : PI → Option PO) : Hand R := (handAt 57 [10] true ⟨1, 1, 0, pin, pout, Gspec_l40Dec⟩ handNil)
noncomputable def pg (Gspec_l40Dec : PI → Option PO) (J6 : List Item → P6 → Option PO) : Prog PO := { nt := 31, np := 0, tb := tabOf tab, hd := hd Gspec_l40Dec, cuts := cutsOf [(6, cut p6 J6)], fin := endOf (tabOf tab) rs 0 pout }
noncomputable def q : FuncId → Bool := fun f => hasId [57] f
theorem seg0 (Gspec_l40Dec : PI → Option PO) (J6 : List Item → P6 → Option PO) (x0 : Int) : arun (pg Gspec_l40Dec J6) 5000 [.code c0] (mk pin (x0, ())) = F0 (J6 T6) Gspec_l40Dec x0 := by kernel_rfl
theorem seg6 (Gspec_l40Dec : PI → Option PO) (J6 : List Item → P6 → Option PO) (t0 : Int) (t3 : List UInt8) : arun1 (pg Gspec_l40Dec J6) 5000 T6 (mk p6 (t0, t3, ())) = F6 (J6 T6) t0 t3 := by kernel_rfl
noncomputable def L6 (Gself : PI → Option PO) : P6 → Option PO := lfp fun J6 x => F6 J6 x.1 x.2.1
noncomputable def step (Gself : PI → Option PO) : PI → Option PO := fun x => F0 (L6 Gself) Gself x.1
noncomputable def impl : PI → Option PO := lfp step
theorem F6_le {J6 J6' : P6 → Option PO} (h6 : OLe J6 J6') (t0 : Int) (t3 : List UInt8) : OptLe (F6 J6 t0 t3) (F6 J6' t0 t3) := by unfold F6; exact .cond (.cond (.of h6 _) (.refl _)) (.refl _)
theorem F0_le {J6 J6' : P6 → Option PO} (h6 : OLe J6 J6') {Gself Gself' : PI → Option PO} (hG : OLe Gself Gself') (x0 : Int) : OptLe (F0 J6 Gself x0) (F0 J6' Gself' x0) := by unfold F0; exact .cond (.refl _) (.cond (.bind (.of hG _) fun _ => .refl _) (.of h6 _))
theorem L6_mono (Gself : PI → Option PO) : OMono fun J6 (x : P6) => F6 J6 x.1 x.2.1 := fun J J' h6 x => F6_le h6 x.1 x.2.1
theorem L6_eq (Gself : PI → Option PO) (t0 : Int) (t3 : List UInt8) : L6 Gself (t0, t3, ()) = F6 (L6 Gself) t0 t3 := congrFun (lfp_eq (L6_mono Gself)) _
theorem L6_le {Gself Gself' : PI → Option PO} (hG : OLe Gself Gself') : OLe (L6 Gself) (L6 Gself') := lfp_le (L6_mono Gself') fun J x => F6_le (fun _ _ h => h) x.1 x.2.1
theorem step_mono : OMono step := fun G G' hG x => F0_le (L6_le hG) hG x.1
theorem impl_eq (x0 : Int) : impl (x0, ()) = F0 (L6 impl) impl x0 := congrFun (lfp_eq step_mono) _
theorem con_step (Gself : PI → Option PO) (hself : Con Tryd.prog 57 1 rs.length 0 pin pout Gself) : Con Tryd.prog 57 1 rs.length 0 pin pout (step Gself) := by
  refine con_of_run' (nt := 31) (c := c0) tabGood Tryd.func57 (by kernel_rfl) (by kernel_rfl) (by kernel_rfl) (by kernel_rfl) (by kernel_rfl) (by kernel_rfl) (by kernel_rfl) ?_
  intro w0 O y hnp
  generalize hPost : (fun (a' : Act) (w' : World) => ∃ μ' S' st', Rel 31 w0 O μ' S' st' a' w' ∧ endOf (tabOf tab) rs 0 pout st' = some y) = Post
  have fin : ∀ (μ : Id → Option Value) (S : Nat → Prop) (st : St) (a : Act) (w : World), Rel 31 w0 O μ S st a w → endOf (tabOf tab) rs 0 pout st = some y → Post a w := fun μ S st a w h he => by rw [← hPost]; exact ⟨μ, S, st, h, he⟩
  have hp : ∀ (J6 : List Item → P6 → Option PO), Parts Tryd.prog 57 (pg Gself J6) [(6, cut p6 J6)] := fun J6 => ⟨tab_ok tabGood rfl, (handAt_ok hself handNil_ok), rfl⟩
  have g6 : Good Tryd.prog 31 w0 O Post y T6 p6 (L6 Gself) := good_lfp fun J6 h6 => good_part (hp (atT T6 J6)) (runOK_of (hp (atT T6 J6)) hnp ⟨cutOK_at h6, trivial⟩ fin) (fun x => (seg6 Gself (atT T6 J6) x.1 x.2.1).trans (by simp only [atT_self] <;> rfl))
  exact good_first (hp (atT T6 (L6 Gself))) (runOK_of (hp (atT T6 (L6 Gself))) hnp ⟨cutOK_at g6, trivial⟩ fin) (fun x => (seg0 Gself (atT T6 (L6 Gself)) x.1).trans (by simp only [atT_self] <;> rfl))
theorem con : Con Tryd.prog 57 1 rs.length 0 pin pout impl := con_lfp (c := c0) Tryd.func57 (by kernel_rfl) (by kernel_rfl) (by kernel_rfl) con_step
end spec_l40Dec

/-! ### loop.example/wholecheck/spec.l1Sign -/
namespace spec_l1Sign
noncomputable abbrev c0 : Code := (Tryd.f78.body).getD .skip
noncomputable abbrev pin : Tpl := ⟨[⟨0, false, [.d (.int .i64)]⟩], []⟩
noncomputable abbrev pout : Tpl := ⟨[⟨0, false, [.d .str]⟩], []⟩
noncomputable abbrev PI := Int × Unit
noncomputable abbrev PO := (List UInt8) × Unit
noncomputable abbrev rs : List ResultVar := [.tmp 2]
noncomputable def F0 (x0 : Int) : Option PO :=
  bif inb x0 ([[], [], ([43] : List UInt8), ([45] : List UInt8), ([42] : List UInt8), ([60] : List UInt8), ([61] : List UInt8), ([33] : List UInt8), ([38] : List UInt8), ([124] : List UInt8)] : List (List UInt8)).length then
    some (([[], [], ([43] : List UInt8), ([45] : List UInt8), ([42] : List UInt8), ([60] : List UInt8), ([61] : List UInt8), ([33] : List UInt8), ([38] : List UInt8), ([124] : List UInt8)] : List (List UInt8)).getD x0.toNat [], ())
  else
    none
noncomputable def hd {R : Type} : Hand R := handNil
noncomputable def pg : Prog PO := { nt := 7, np := 1, tb := tabOf tab, hd := hd, cuts := cutsOf [], fin := endOf (tabOf tab) rs 1 pout }
noncomputable def q : FuncId → Bool := fun f => hasId [] f
theorem seg0 (x0 : Int) : arun (pg) 5000 [.code c0] (mk pin (x0, ())) = F0 x0 := by kernel_rfl
noncomputable def impl : PI → Option PO := fun x => F0 x.1
theorem impl_eq (x0 : Int) : impl (x0, ()) = F0 x0 := rfl
theorem con : Con Tryd.prog 78 1 rs.length 1 pin pout impl := by
  refine con_of_run' (nt := 7) (c := c0) tabGood Tryd.func78 (by kernel_rfl) (by kernel_rfl) (by kernel_rfl) (by kernel_rfl) (by kernel_rfl) (by kernel_rfl) (by kernel_rfl) ?_
  intro w0 O y hnp
  generalize hPost : (fun (a' : Act) (w' : World) => ∃ μ' S' st', Rel 7 w0 O μ' S' st' a' w' ∧ endOf (tabOf tab) rs 1 pout st' = some y) = Post
  have fin : ∀ (μ : Id → Option Value) (S : Nat → Prop) (st : St) (a : Act) (w : World), Rel 7 w0 O μ S st a w → endOf (tabOf tab) rs 1 pout st = some y → Post a w := fun μ S st a w h he => by rw [← hPost]; exact ⟨μ, S, st, h, he⟩
  have hp : Parts Tryd.prog 78 (pg) [] := ⟨tab_ok tabGood rfl, handNil_ok, rfl⟩
  exact good_first (hp) (runOK_of (hp) hnp trivial fin) (fun x => (seg0 x.1))
end spec_l1Sign

/-! ### loop.example/wholecheck/spec.WriteExpr -/
namespace spec_WriteExpr
noncomputable abbrev c0 : Code := (Tryd.f32.body).getD .skip
noncomputable abbrev pin : Tpl := ⟨[⟨0, false, [.d (.sl .str)]⟩, ⟨1, false, [.d (.sl (.prod (.int .i64) (.prod (.int .i64) (.prod (.int .i64) (.last (.int .i64))))))]⟩], []⟩
noncomputable abbrev pout : Tpl := ⟨[⟨0, false, [.d .str]⟩], []⟩
noncomputable abbrev p3 : Tpl := ⟨[⟨0, false, [.d (.sl .str)]⟩, ⟨1, false, [.d (.sl (.prod (.int .i64) (.prod (.int .i64) (.prod (.int .i64) (.last (.int .i64))))))]⟩], []⟩
noncomputable def T3 : List Item := (find 3 c0 []).getD []
noncomputable abbrev p5 : Tpl := ⟨[⟨0, false, [.d (.sl .str)]⟩, ⟨1, false, [.d (.sl (.prod (.int .i64) (.prod (.int .i64) (.prod (.int .i64) (.last (.int .i64))))))]⟩, ⟨5, false, [.row 3000000]⟩, ⟨6, false, [.d (.int .i64)]⟩], [(3000000, .row 9 false .str)]⟩
noncomputable def T5 : List Item := (find 5 c0 []).getD []
noncomputable abbrev p15 : Tpl := ⟨[⟨0, false, [.d (.sl .str)]⟩, ⟨1, false, [.d (.sl (.prod (.int .i64) (.prod (.int .i64) (.prod (.int .i64) (.last (.int .i64))))))]⟩, ⟨5, false, [.row 3000000]⟩, ⟨6, false, [.d (.int .i64)]⟩, ⟨7, false, [.ptr 3000001 0]⟩], [(3000000, .row 9 false .str), (3000001, .box [.d (.int .i64), .d (.int .i64), .d (.int .i64), .d (.int .i64)])]⟩
noncomputable def T15 : List Item := (find 15 c0 []).getD []
noncomputable abbrev p16 : Tpl := ⟨[⟨0, false, [.d (.sl .str)]⟩, ⟨1, false, [.d (.sl (.prod (.int .i64) (.prod (.int .i64) (.prod (.int .i64) (.last (.int .i64))))))]⟩, ⟨5, false, [.row 3000000]⟩, ⟨6, false, [.d (.int .i64)]⟩, ⟨8, false, [.d .str]⟩], [(3000000, .row 9 false .str)]⟩
noncomputable def T16 : List Item := (find 16 c0 []).getD []
noncomputable abbrev PI := (List (List UInt8)) × (List (Int × Int × Int × Int)) × Unit
noncomputable abbrev PO := (List UInt8) × Unit
noncomputable abbrev P3 := (List (List UInt8)) × (List (Int × Int × Int × Int)) × Unit
noncomputable abbrev P5 := (List (List UInt8)) × (List (Int × Int × Int × Int)) × Int × (List (List UInt8)) × Unit
noncomputable abbrev P15 := (List (List UInt8)) × (List (Int × Int × Int × Int)) × Int × (List (List UInt8)) × Int × Int × Int × Int × Unit
noncomputable abbrev P16 := (List (List UInt8)) × (List (Int × Int × Int × Int)) × Int × (List UInt8) × (List (List UInt8)) × Unit
noncomputable abbrev rs : List ResultVar := [.tmp 4]
noncomputable def F0 (J3 : P3 → Option PO) (Gspec_NamesValid : spec_NamesValid.PI → Option spec_NamesValid.PO) (Gspec_TermsValid : spec_TermsValid.PI → Option spec_TermsValid.PO) (x0 : List (List UInt8)) (x1 : List (Int × Int × Int × Int)) : Option PO :=
  Option.bind (Gspec_NamesValid (x0, ())) fun y0 =>
  bif !y0.1 then
    some ([], ())
  else
    Option.bind (Gspec_TermsValid (x1, (x0.length : Int), ())) fun y1 =>
    bif !y1.1 then
      some ([], ())
    else
      J3 (x0, x1, ())
noncomputable def F3 (J5 : P5 → Option PO) (t0 : List (List UInt8)) (t1 : List (Int × Int × Int × Int)) : Option PO :=
  J5 (t0, t1, 0, ([] : List (List UInt8)), ())
noncomputable def F5 (J15 : P15 → Option PO) (J16 : P16 → Option PO) (Gspec_l1One : spec_l1One.PI → Option spec_l1One.PO) (Gspec_l40Dec : spec_l40Dec.PI → Option spec_l40Dec.PO) (t0 : List (List UInt8)) (t1 : List (Int × Int × Int × Int)) (t6 : Int) (r0 : List (List UInt8)) : Option PO :=
  bif decide (t6 < (t1.length : Int)) then
    bif inb t6 t1.length then
      bif (t1.getD t6.toNat (0, 0, 0, 0)).1 == 0 then
        Option.bind (Gspec_l40Dec ((t1.getD t6.toNat (0, 0, 0, 0)).2.1, ())) fun y2 =>
        J16 (t0, t1, t6, y2.1, r0, ())
      else
        bif (t1.getD t6.toNat (0, 0, 0, 0)).1 == 1 then
          bif inb (t1.getD t6.toNat (0, 0, 0, 0)).2.1 t0.length then
            J16 (t0, t1, t6, t0.getD (t1.getD t6.toNat (0, 0, 0, 0)).2.1.toNat [], r0, ())
          else
            none
        else
          Option.bind (Gspec_l1One ((t1.getD t6.toNat (0, 0, 0, 0)).1, ())) fun y3 =>
          bif y3.1 then
            bif inb (t1.getD t6.toNat (0, 0, 0, 0)).2.2.1 r0.length then
              bif decide (([33] : List UInt8).length + (r0.getD (t1.getD t6.toNat (0, 0, 0, 0)).2.2.1.toNat []).length ≤ 140737488355328) then
                J16 (t0, t1, t6, ([33] : List UInt8) ++ (r0.getD (t1.getD t6.toNat (0, 0, 0, 0)).2.2.1.toNat []), r0, ())
              else
                none
            else
              none
          else
            J15 (t0, t1, t6, r0, (t1.getD t6.toNat (0, 0, 0, 0)).1, (t1.getD t6.toNat (0, 0, 0, 0)).2.1, (t1.getD t6.toNat (0, 0, 0, 0)).2.2.1, (t1.getD t6.toNat (0, 0, 0, 0)).2.2.2, ())
    else
      none
  else
    bif inb (wI ((r0.length : Int) - 1)) r0.length then
      some (r0.getD (wI ((r0.length : Int) - 1)).toNat [], ())
    else
      none
noncomputable def F15 (J16 : P16 → Option PO) (Gspec_l1Sign : spec_l1Sign.PI → Option spec_l1Sign.PO) (t0 : List (List UInt8)) (t1 : List (Int × Int × Int × Int)) (t6 : Int) (r0 : List (List UInt8)) (b1_0 : Int) (b1_1 : Int) (b1_2 : Int) (b1_3 : Int) : Option PO :=
  bif inb b1_2 r0.length then
    bif decide (([40] : List UInt8).length + (r0.getD b1_2.toNat []).length ≤ 140737488355328) then
      bif decide ((([40] : List UInt8) ++ (r0.getD b1_2.toNat [])).length + ([32] : List UInt8).length ≤ 140737488355328) then
        bif inb b1_3 r0.length then
          Option.bind (Gspec_l1Sign (b1_0, ())) fun y4 =>
          bif decide (((([40] : List UInt8) ++ (r0.getD b1_2.toNat [])) ++ ([32] : List UInt8)).length + y4.1.length ≤ 140737488355328) then
            bif decide ((((([40] : List UInt8) ++ (r0.getD b1_2.toNat [])) ++ ([32] : List UInt8)) ++ y4.1).length + ([32] : List UInt8).length ≤ 140737488355328) then
              bif decide (((((([40] : List UInt8) ++ (r0.getD b1_2.toNat [])) ++ ([32] : List UInt8)) ++ y4.1) ++ ([32] : List UInt8)).length + (r0.getD b1_3.toNat []).length ≤ 140737488355328) then
                bif decide ((((((([40] : List UInt8) ++ (r0.getD b1_2.toNat [])) ++ ([32] : List UInt8)) ++ y4.1) ++ ([32] : List UInt8)) ++ (r0.getD b1_3.toNat [])).length + ([41] : List UInt8).length ≤ 140737488355328) then
                  J16 (t0, t1, t6, (((((([40] : List UInt8) ++ (r0.getD b1_2.toNat [])) ++ ([32] : List UInt8)) ++ y4.1) ++ ([32] : List UInt8)) ++ (r0.getD b1_3.toNat [])) ++ ([41] : List UInt8), r0, ())
                else
                  none
              else
                none
            else
              none
          else
            none
        else
          none
      else
        none
    else
      none
  else
    none
noncomputable def F16 (J5 : P5 → Option PO) (t0 : List (List UInt8)) (t1 : List (Int × Int × Int × Int)) (t6 : Int) (t8 : List UInt8) (r0 : List (List UInt8)) : Option PO :=
  bif decide ((t8.length : Int) > 4000) then
    some ([], ())
  else
    bif decide ((r0.length + ([t8] : List (List UInt8)).length) * 16 ≤ 140737488355328) then
      J5 (t0, t1, wI (t6 + 1), r0 ++ ([t8] : List (List UInt8)), ())
    else
      none
noncomputable def hd {R : Type} (Gspec_NamesValid : spec_NamesValid.PI → Option spec_NamesValid.PO) (Gspec_TermsValid : spec_TermsValid.PI → Option spec_TermsValid.PO) (Gspec_l1One : spec_l1One.PI → Option spec_l1One.PO) (Gspec_l1Sign : spec_l1Sign.PI → Option spec_l1Sign.PO) (Gspec_l40Dec : spec_l40Dec.PI → Option spec_l40Dec.PO) : Hand R := (handAt 78 [62] true ⟨1, 1, 1, spec_l1Sign.pin, spec_l1Sign.pout, Gspec_l1Sign⟩ (handAt 77 [46] true ⟨1, 1, 1, spec_l1One.pin, spec_l1One.pout, Gspec_l1One⟩ (handAt 76 [16] true ⟨2, 1, 2, spec_TermsValid.pin, spec_TermsValid.pout, Gspec_TermsValid⟩ (handAt 57 [35] true ⟨1, 1, 0, spec_l40Dec.pin, spec_l40Dec.pout, Gspec_l40Dec⟩ (handAt 12 [10] true ⟨1, 1, 1, spec_NamesValid.pin, spec_NamesValid.pout, Gspec_NamesValid⟩ handNil)))))
noncomputable def pg (Gspec_NamesValid : spec_NamesValid.PI → Option spec_NamesValid.PO) (Gspec_TermsValid : spec_TermsValid.PI → Option spec_TermsValid.PO) (Gspec_l1One : spec_l1One.PI → Option spec_l1One.PO) (Gspec_l1Sign : spec_l1Sign.PI → Option spec_l1Sign.PO) (Gspec_l40Dec : spec_l40Dec.PI → Option spec_l40Dec.PO) (J3 : List Item → P3 → Option PO) (J5 : List Item → P5 → Option PO) (J15 : List Item → P15 → Option PO) (J16 : List Item → P16 → Option PO) : Prog PO := { nt := 85, np := 2, tb := tabOf tab, hd := hd Gspec_NamesValid Gspec_TermsValid Gspec_l1One Gspec_l1Sign Gspec_l40Dec, cuts := cutsOf [(3, cut p3 J3), (5, cut p5 J5), (15, cut p15 J15), (16, cut p16 J16)], fin := endOf (tabOf tab) rs 2 pout }
noncomputable def q : FuncId → Bool := fun f => hasId [12, 57, 76, 77, 78] f
theorem seg0 (Gspec_NamesValid : spec_NamesValid.PI → Option spec_NamesValid.PO) (Gspec_TermsValid : spec_TermsValid.PI → Option spec_TermsValid.PO) (Gspec_l1One : spec_l1One.PI → Option spec_l1One.PO) (Gspec_l1Sign : spec_l1Sign.PI → Option spec_l1Sign.PO) (Gspec_l40Dec : spec_l40Dec.PI → Option spec_l40Dec.PO) (J3 : List Item → P3 → Option PO) (J5 : List Item → P5 → Option PO) (J15 : List Item → P15 → Option PO) (J16 : List Item → P16 → Option PO) (x0 : List (List UInt8)) (x1 : List (Int × Int × Int × Int)) : arun (pg Gspec_NamesValid Gspec_TermsValid Gspec_l1One Gspec_l1Sign Gspec_l40Dec J3 J5 J15 J16) 5000 [.code c0] (mk pin (x0, x1, ())) = F0 (J3 T3) Gspec_NamesValid Gspec_TermsValid x0 x1 := by kernel_rfl
theorem seg3 (Gspec_NamesValid : spec_NamesValid.PI → Option spec_NamesValid.PO) (Gspec_TermsValid : spec_TermsValid.PI → Option spec_TermsValid.PO) (Gspec_l1One : spec_l1One.PI → Option spec_l1One.PO) (Gspec_l1Sign : spec_l1Sign.PI → Option spec_l1Sign.PO) (Gspec_l40Dec : spec_l40Dec.PI → Option spec_l40Dec.PO) (J3 : List Item → P3 → Option PO) (J5 : List Item → P5 → Option PO) (J15 : List Item → P15 → Option PO) (J16 : List Item → P16 → Option PO) (t0 : List (List UInt8)) (t1 : List (Int × Int × Int × Int)) : arun1 (pg Gspec_NamesValid Gspec_TermsValid Gspec_l1One Gspec_l1Sign Gspec_l40Dec J3 J5 J15 J16) 5000 T3 (mk p3 (t0, t1, ())) = F3 (J5 T5) t0 t1 := by kernel_rfl
theorem seg5 (Gspec_NamesValid : spec_NamesValid.PI → Option spec_NamesValid.PO) (Gspec_TermsValid : spec_TermsValid.PI → Option spec_TermsValid.PO) (Gspec_l1One : spec_l1One.PI → Option spec_l1One.PO) (Gspec_l1Sign : spec_l1Sign.PI → Option spec_l1Sign.PO) (Gspec_l40Dec : spec_l40Dec.PI → Option spec_l40Dec.PO) (J3 : List Item → P3 → Option PO) (J5 : List Item → P5 → Option PO) (J15 : List Item → P15 → Option PO) (J16 : List Item → P16 → Option PO) (t0 : List (List UInt8)) (t1 : List (Int × Int × Int × Int)) (t6 : Int) (r0 : List (List UInt8)) : arun1 (pg Gspec_NamesValid Gspec_TermsValid Gspec_l1One Gspec_l1Sign Gspec_l40Dec J3 J5 J15 J16) 5000 T5 (mk p5 (t0, t1, t6, r0, ())) = F5 (J15 T15) (J16 T16) Gspec_l1One Gspec_l40Dec t0 t1 t6 r0 := by kernel_rfl
theorem seg15 (Gspec_NamesValid : spec_NamesValid.PI → Option spec_NamesValid.PO) (Gspec_TermsValid : spec_TermsValid.PI → Option spec_TermsValid.PO) (Gspec_l1One : spec_l1One.PI → Option spec_l1One.PO) (Gspec_l1Sign : spec_l1Sign.PI → Option spec_l1Sign.PO) (Gspec_l40Dec : spec_l40Dec.PI → Option spec_l40Dec.PO) (J3 : List Item → P3 → Option PO) (J5 : List Item → P5 → Option PO) (J15 : List Item → P15 → Option PO) (J16 : List Item → P16 → Option PO) (t0 : List (List UInt8)) (t1 : List (Int × Int × Int × Int)) (t6 : Int) (r0 : List (List UInt8)) (b1_0 : Int) (b1_1 : Int) (b1_2 : Int) (b1_3 : Int) : arunQ (pg Gspec_NamesValid Gspec_TermsValid Gspec_l1One Gspec_l1Sign Gspec_l40Dec J3 J5 J15 J16) q [] [] 5000 T15 (mk p15 (t0, t1, t6, r0, b1_0, b1_1, b1_2, b1_3, ())) = List.replicate (arunQ (pg Gspec_NamesValid Gspec_TermsValid Gspec_l1One Gspec_l1Sign Gspec_l40Dec J3 J5 J15 J16) q [] [] 5000 T15 (mk p15 (t0, t1, t6, r0, b1_0, b1_1, b1_2, b1_3, ()))).length (F15 (J16 T16) Gspec_l1Sign t0 t1 t6 r0 b1_0 b1_1 b1_2 b1_3) := by kernel_rfl
theorem seg16 (Gspec_NamesValid : spec_NamesValid.PI → Option spec_NamesValid.PO) (Gspec_TermsValid : spec_TermsValid.PI → Option spec_TermsValid.PO) (Gspec_l1One : spec_l1One.PI → Option spec_l1One.PO) (Gspec_l1Sign : spec_l1Sign.PI → Option spec_l1Sign.PO) (Gspec_l40Dec : spec_l40Dec.PI → Option spec_l40Dec.PO) (J3 : List Item → P3 → Option PO) (J5 : List Item → P5 → Option PO) (J15 : List Item → P15 → Option PO) (J16 : List Item → P16 → Option PO) (t0 : List (List UInt8)) (t1 : List (Int × Int × Int × Int)) (t6 : Int) (t8 : List UInt8) (r0 : List (List UInt8)) : arun1 (pg Gspec_NamesValid Gspec_TermsValid Gspec_l1One Gspec_l1Sign Gspec_l40Dec J3 J5 J15 J16) 5000 T16 (mk p16 (t0, t1, t6, t8, r0, ())) = F16 (J5 T5) t0 t1 t6 t8 r0 := by kernel_rfl
noncomputable def L16 (J5 : P5 → Option PO) : P16 → Option PO := fun x => F16 J5 x.1 x.2.1 x.2.2.1 x.2.2.2.1 x.2.2.2.2.1
noncomputable def L15 (J5 : P5 → Option PO) : P15 → Option PO := fun x => F15 (L16 J5) spec_l1Sign.impl x.1 x.2.1 x.2.2.1 x.2.2.2.1 x.2.2.2.2.1 x.2.2.2.2.2.1 x.2.2.2.2.2.2.1 x.2.2.2.2.2.2.2.1
noncomputable def L5 : P5 → Option PO := lfp fun J5 x => F5 (L15 J5) (L16 J5) spec_l1One.impl spec_l40Dec.impl x.1 x.2.1 x.2.2.1 x.2.2.2.1
noncomputable def L3 : P3 → Option PO := fun x => F3 L5 x.1 x.2.1
noncomputable def impl : PI → Option PO := fun x => F0 L3 spec_NamesValid.impl spec_TermsValid.impl x.1 x.2.1
theorem F16_le {J5 J5' : P5 → Option PO} (h5 : OLe J5 J5') (t0 : List (List UInt8)) (t1 : List (Int × Int × Int × Int)) (t6 : Int) (t8 : List UInt8) (r0 : List (List UInt8)) : OptLe (F16 J5 t0 t1 t6 t8 r0) (F16 J5' t0 t1 t6 t8 r0) := by unfold F16; exact .cond (.refl _) (.cond (.of h5 _) (.refl _))
theorem F15_le {J16 J16' : P16 → Option PO} (h16 : OLe J16 J16') {Gspec_l1Sign : spec_l1Sign.PI → Option spec_l1Sign.PO} (t0 : List (List UInt8)) (t1 : List (Int × Int × Int × Int)) (t6 : Int) (r0 : List (List UInt8)) (b1_0 : Int) (b1_1 : Int) (b1_2 : Int) (b1_3 : Int) : OptLe (F15 J16 Gspec_l1Sign t0 t1 t6 r0 b1_0 b1_1 b1_2 b1_3) (F15 J16' Gspec_l1Sign t0 t1 t6 r0 b1_0 b1_1 b1_2 b1_3) := by unfold F15; exact .cond (.cond (.cond (.cond (.bind (.refl _) fun _ => .cond (.cond (.cond (.cond (.of h16 _) (.refl _)) (.refl _)) (.refl _)) (.refl _)) (.refl _)) (.refl _)) (.refl _)) (.refl _)
theorem F5_le {J15 J15' : P15 → Option PO} (h15 : OLe J15 J15') {J16 J16' : P16 → Option PO} (h16 : OLe J16 J16') {Gspec_l1One : spec_l1One.PI → Option spec_l1One.PO} {Gspec_l40Dec : spec_l40Dec.PI → Option spec_l40Dec.PO} (t0 : List (List UInt8)) (t1 : List (Int × Int × Int × Int)) (t6 : Int) (r0 : List (List UInt8)) : OptLe (F5 J15 J16 Gspec_l1One Gspec_l40Dec t0 t1 t6 r0) (F5 J15' J16' Gspec_l1One Gspec_l40Dec t0 t1 t6 r0) := by unfold F5; exact .cond (.cond (.cond (.bind (.refl _) fun _ => .of h16 _) (.cond (.cond (.of h16 _) (.refl _)) (.bind (.refl _) fun _ => .cond (.cond (.cond (.of h16 _) (.refl _)) (.refl _)) (.of h15 _)))) (.refl _)) (.refl _)
theorem L16_eq (J5 : P5 → Option PO) (t0 : List (List UInt8)) (t1 : List (Int × Int × Int × Int)) (t6 : Int) (t8 : List UInt8) (r0 : List (List UInt8)) : L16 J5 (t0, t1, t6, t8, r0, ()) = F16 J5 t0 t1 t6 t8 r0 := rfl
theorem L16_le {J5 J5' : P5 → Option PO} (h5 : OLe J5 J5') : OLe (L16 J5) (L16 J5') := fun x => F16_le h5 x.1 x.2.1 x.2.2.1 x.2.2.2.1 x.2.2.2.2.1
theorem L15_eq (J5 : P5 → Option PO) (t0 : List (List UInt8)) (t1 : List (Int × Int × Int × Int)) (t6 : Int) (r0 : List (List UInt8)) (b1_0 : Int) (b1_1 : Int) (b1_2 : Int) (b1_3 : Int) : L15 J5 (t0, t1, t6, r0, b1_0, b1_1, b1_2, b1_3, ()) = F15 (L16 J5) spec_l1Sign.impl t0 t1 t6 r0 b1_0 b1_1 b1_2 b1_3 := rfl
theorem L15_le {J5 J5' : P5 → Option PO} (h5 : OLe J5 J5') : OLe (L15 J5) (L15 J5') := fun x => F15_le (L16_le h5) x.1 x.2.1 x.2.2.1 x.2.2.2.1 x.2.2.2.2.1 x.2.2.2.2.2.1 x.2.2.2.2.2.2.1 x.2.2.2.2.2.2.2.1
theorem L5_mono : OMono fun J5 (x : P5) => F5 (L15 J5) (L16 J5) spec_l1One.impl spec_l40Dec.impl x.1 x.2.1 x.2.2.1 x.2.2.2.1 := fun J J' h5 x => F5_le (L15_le h5) (L16_le h5) x.1 x.2.1 x.2.2.1 x.2.2.2.1
theorem L5_eq (t0 : List (List UInt8)) (t1 : List (Int × Int × Int × Int)) (t6 : Int) (r0 : List (List UInt8)) : L5 (t0, t1, t6, r0, ()) = F5 (L15 (L5)) (L16 (L5)) spec_l1One.impl spec_l40Dec.impl t0 t1 t6 r0 := congrFun (lfp_eq (L5_mono)) _
theorem L3_eq (t0 : List (List UInt8)) (t1 : List (Int × Int × Int × Int)) : L3 (t0, t1, ()) = F3 (L5) t0 t1 := rfl
theorem impl_eq (x0 : List (List UInt8)) (x1 : List (Int × Int × Int × Int)) : impl (x0, x1, ()) = F0 L3 spec_NamesValid.impl spec_TermsValid.impl x0 x1 := rfl
theorem con : Con Tryd.prog 32 2 rs.length 2 pin pout impl := by
  refine con_of_run' (nt := 85) (c := c0) tabGood Tryd.func32 (by kernel_rfl) (by kernel_rfl) (by kernel_rfl) (by kernel_rfl) (by kernel_rfl) (by kernel_rfl) (by kernel_rfl) ?_
  intro w0 O y hnp
  generalize hPost : (fun (a' : Act) (w' : World) => ∃ μ' S' st', Rel 85 w0 O μ' S' st' a' w' ∧ endOf (tabOf tab) rs 2 pout st' = some y) = Post
  have fin : ∀ (μ : Id → Option Value) (S : Nat → Prop) (st : St) (a : Act) (w : World), Rel 85 w0 O μ S st a w → endOf (tabOf tab) rs 2 pout st = some y → Post a w := fun μ S st a w h he => by rw [← hPost]; exact ⟨μ, S, st, h, he⟩
  have hp : ∀ (J3 : List Item → P3 → Option PO), ∀ (J5 : List Item → P5 → Option PO), ∀ (J15 : List Item → P15 → Option PO), ∀ (J16 : List Item → P16 → Option PO), Parts Tryd.prog 32 (pg spec_NamesValid.impl spec_TermsValid.impl spec_l1One.impl spec_l1Sign.impl spec_l40Dec.impl J3 J5 J15 J16) [(3, cut p3 J3), (5, cut p5 J5), (15, cut p15 J15), (16, cut p16 J16)] := fun J3 J5 J15 J16 => ⟨tab_ok tabGood rfl, (handAt_ok spec_l1Sign.con (handAt_ok spec_l1One.con (handAt_ok spec_TermsValid.con (handAt_ok spec_l40Dec.con (handAt_ok spec_NamesValid.con handNil_ok))))), rfl⟩
  have g16 : ∀ (J5 : P5 → Option PO), Good Tryd.prog 85 w0 O Post y T5 p5 J5 → Good Tryd.prog 85 w0 O Post y T16 p16 (L16 J5) := fun J5 h5 => good_part (hp (atT T3 (fun _ => none)) (atT T5 J5) (atT T15 (fun _ => none)) (atT T16 (fun _ => none))) (runOK_of (hp (atT T3 (fun _ => none)) (atT T5 J5) (atT T15 (fun _ => none)) (atT T16 (fun _ => none))) hnp ⟨cutOK_at (p := p3) (T := T3) (J := fun _ => none) good_none, cutOK_at h5, cutOK_at (p := p15) (T := T15) (J := fun _ => none) good_none, cutOK_at (p := p16) (T := T16) (J := fun _ => none) good_none, trivial⟩ fin) (fun x => (seg16 spec_NamesValid.impl spec_TermsValid.impl spec_l1One.impl spec_l1Sign.impl spec_l40Dec.impl (atT T3 (fun _ => none)) (atT T5 J5) (atT T15 (fun _ => none)) (atT T16 (fun _ => none)) x.1 x.2.1 x.2.2.1 x.2.2.2.1 x.2.2.2.2.1).trans (by simp only [atT_self] <;> rfl))
  have g15 : ∀ (J5 : P5 → Option PO), Good Tryd.prog 85 w0 O Post y T5 p5 J5 → Good Tryd.prog 85 w0 O Post y T15 p15 (L15 J5) := fun J5 h5 => good_quiet (hs := hd spec_NamesValid.impl spec_TermsValid.impl spec_l1One.impl spec_l1Sign.impl spec_l40Dec.impl) (cv' := hd spec_NamesValid.impl spec_TermsValid.impl spec_l1One.impl spec_l1Sign.impl spec_l40Dec.impl) (Checked.mixed Tryd.checked) (hp (atT T3 (fun _ => none)) (atT T5 (fun _ => none)) (atT T15 (fun _ => none)) (atT T16 (L16 J5))) (handAt_D spec_l1Sign.con (by rfl) rfl (handAt_D spec_l1One.con (by rfl) rfl (handAt_D spec_TermsValid.con (by rfl) rfl (handAt_D spec_l40Dec.con (by rfl) rfl (handAt_D spec_NamesValid.con (by rfl) rfl handNil_D))))) (handAt_nat (handAt_nat (handAt_nat (handAt_nat (handAt_nat handNil_nat))))) (handAt_nat (handAt_nat (handAt_nat (handAt_nat (handAt_nat handNil_nat))))) (runOK_of (hp (atT T3 (fun _ => none)) (atT T5 (fun _ => none)) (atT T15 (fun _ => none)) (atT T16 (L16 J5))) hnp ⟨cutOK_at (p := p3) (T := T3) (J := fun _ => none) good_none, cutOK_at (p := p5) (T := T5) (J := fun _ => none) good_none, cutOK_at (p := p15) (T := T15) (J := fun _ => none) good_none, cutOK_at (g16 J5 h5), trivial⟩ fin) (fun x => all_same ⟨_, (seg15 spec_NamesValid.impl spec_TermsValid.impl spec_l1One.impl spec_l1Sign.impl spec_l40Dec.impl (atT T3 (fun _ => none)) (atT T5 (fun _ => none)) (atT T15 (fun _ => none)) (atT T16 (L16 J5)) x.1 x.2.1 x.2.2.1 x.2.2.2.1 x.2.2.2.2.1 x.2.2.2.2.2.1 x.2.2.2.2.2.2.1 x.2.2.2.2.2.2.2.1).trans (by simp only [atT_self] <;> rfl)⟩)
  have g5 : Good Tryd.prog 85 w0 O Post y T5 p5 L5 := good_lfp fun J5 h5 => good_part (hp (atT T3 (fun _ => none)) (atT T5 (fun _ => none)) (atT T15 (L15 J5)) (atT T16 (L16 J5))) (runOK_of (hp (atT T3 (fun _ => none)) (atT T5 (fun _ => none)) (atT T15 (L15 J5)) (atT T16 (L16 J5))) hnp ⟨cutOK_at (p := p3) (T := T3) (J := fun _ => none) good_none, cutOK_at (p := p5) (T := T5) (J := fun _ => none) good_none, cutOK_at (g15 J5 h5), cutOK_at (g16 J5 h5), trivial⟩ fin) (fun x => (seg5 spec_NamesValid.impl spec_TermsValid.impl spec_l1One.impl spec_l1Sign.impl spec_l40Dec.impl (atT T3 (fun _ => none)) (atT T5 (fun _ => none)) (atT T15 (L15 J5)) (atT T16 (L16 J5)) x.1 x.2.1 x.2.2.1 x.2.2.2.1).trans (by simp only [atT_self] <;> rfl))
  have g3 : Good Tryd.prog 85 w0 O Post y T3 p3 L3 := good_part (hp (atT T3 (fun _ => none)) (atT T5 L5) (atT T15 (fun _ => none)) (atT T16 (fun _ => none))) (runOK_of (hp (atT T3 (fun _ => none)) (atT T5 L5) (atT T15 (fun _ => none)) (atT T16 (fun _ => none))) hnp ⟨cutOK_at (p := p3) (T := T3) (J := fun _ => none) good_none, cutOK_at g5, cutOK_at (p := p15) (T := T15) (J := fun _ => none) good_none, cutOK_at (p := p16) (T := T16) (J := fun _ => none) good_none, trivial⟩ fin) (fun x => (seg3 spec_NamesValid.impl spec_TermsValid.impl spec_l1One.impl spec_l1Sign.impl spec_l40Dec.impl (atT T3 (fun _ => none)) (atT T5 L5) (atT T15 (fun _ => none)) (atT T16 (fun _ => none)) x.1 x.2.1).trans (by simp only [atT_self] <;> rfl))
  exact good_first (hp (atT T3 L3) (atT T5 (fun _ => none)) (atT T15 (fun _ => none)) (atT T16 (fun _ => none))) (runOK_of (hp (atT T3 L3) (atT T5 (fun _ => none)) (atT T15 (fun _ => none)) (atT T16 (fun _ => none))) hnp ⟨cutOK_at g3, cutOK_at (p := p5) (T := T5) (J := fun _ => none) good_none, cutOK_at (p := p15) (T := T15) (J := fun _ => none) good_none, cutOK_at (p := p16) (T := T16) (J := fun _ => none) good_none, trivial⟩ fin) (fun x => (seg0 spec_NamesValid.impl spec_TermsValid.impl spec_l1One.impl spec_l1Sign.impl spec_l40Dec.impl (atT T3 L3) (atT T5 (fun _ => none)) (atT T15 (fun _ => none)) (atT T16 (fun _ => none)) x.1 x.2.1).trans (by simp only [atT_self] <;> rfl))
end spec_WriteExpr

/-! ### loop.example/wholecheck/impl.in -/
namespace impl_in
noncomputable abbrev c0 : Code := (Tryd.f61.body).getD .skip
noncomputable abbrev pin : Tpl := ⟨[⟨0, false, [.d (.int .i64)]⟩, ⟨1, false, [.d (.int .i64)]⟩, ⟨2, false, [.d (.int .i64)]⟩], []⟩
noncomputable abbrev pout : Tpl := ⟨[⟨0, false, [.d .bool]⟩], []⟩
noncomputable abbrev PI := Int × Int × Int × Unit
noncomputable abbrev PO := Bool × Unit
noncomputable abbrev rs : List ResultVar := [.tmp 6]
noncomputable def F0 (x0 : Int) (x1 : Int) (x2 : Int) : Option PO :=
  bif decide (x0 ≥ x1) then
    some (decide (x0 ≤ x2), ())
  else
    some (false, ())
noncomputable def hd {R : Type} : Hand R := handNil
noncomputable def pg : Prog PO := { nt := 15, np := 3, tb := tabOf tab, hd := hd, cuts := cutsOf [], fin := endOf (tabOf tab) rs 3 pout }
noncomputable def q : FuncId → Bool := fun f => hasId [] f
theorem seg0 (x0 : Int) (x1 : Int) (x2 : Int) : arun (pg) 5000 [.code c0] (mk pin (x0, x1, x2, ())) = F0 x0 x1 x2 := by kernel_rfl
noncomputable def impl : PI → Option PO := fun x => F0 x.1 x.2.1 x.2.2.1
theorem impl_eq (x0 : Int) (x1 : Int) (x2 : Int) : impl (x0, x1, x2, ()) = F0 x0 x1 x2 := rfl
theorem con : Con Tryd.prog 61 3 rs.length 3 pin pout impl := by
  refine con_of_run' (nt := 15) (c := c0) tabGood Tryd.func61 (by kernel_rfl) (by kernel_rfl) (by kernel_rfl) (by kernel_rfl) (by kernel_rfl) (by kernel_rfl) (by kernel_rfl) ?_
  intro w0 O y hnp
  generalize hPost : (fun (a' : Act) (w' : World) => ∃ μ' S' st', Rel 15 w0 O μ' S' st' a' w' ∧ endOf (tabOf tab) rs 3 pout st' = some y) = Post
  have fin : ∀ (μ : Id → Option Value) (S : Nat → Prop) (st : St) (a : Act) (w : World), Rel 15 w0 O μ S st a w → endOf (tabOf tab) rs 3 pout st = some y → Post a w := fun μ S st a w h he => by rw [← hPost]; exact ⟨μ, S, st, h, he⟩
  have hp : Parts Tryd.prog 61 (pg) [] := ⟨tab_ok tabGood rfl, handNil_ok, rfl⟩
  exact good_first (hp) (runOK_of (hp) hnp trivial fin) (fun x => (seg0 x.1 x.2.1 x.2.2.1))
end impl_in

/-! ### loop.example/wholecheck/impl.nameOk -/
namespace impl_nameOk
noncomputable abbrev c0 : Code := (Tryd.f51.body).getD .skip
noncomputable abbrev pin : Tpl := ⟨[⟨0, false, [.d .str]⟩], []⟩
noncomputable abbrev pout : Tpl := ⟨[⟨0, false, [.d .bool]⟩], []⟩
noncomputable abbrev PI := (List UInt8) × Unit
noncomputable abbrev PO := Bool × Unit
noncomputable abbrev rs : List ResultVar := [.tmp 2]
noncomputable def F0 (Gimpl_in : impl_in.PI → Option impl_in.PO) (Glib_Trim : lib_Trim.PI → Option lib_Trim.PO) (x0 : List UInt8) : Option PO :=
  Option.bind (Gimpl_in ((x0.length : Int), 1, 8, ())) fun y0 =>
  bif y0.1 then
    Option.bind (Glib_Trim (x0, ([97, 98, 99, 100, 101, 102, 103, 104, 105, 106, 107, 108, 109, 110, 111, 112, 113, 114, 115, 116, 117, 118, 119, 120, 121, 122] : List UInt8), ())) fun y1 =>
    some (y1.1 == [], ())
  else
    some (false, ())
noncomputable def hd {R : Type} (Gimpl_in : impl_in.PI → Option impl_in.PO) (Glib_Trim : lib_Trim.PI → Option lib_Trim.PO) : Hand R := (handAt 104 [8] true ⟨2, 1, 0, lib_Trim.pin, lib_Trim.pout, Glib_Trim⟩ (handAt 61 [5] true ⟨3, 1, 3, impl_in.pin, impl_in.pout, Gimpl_in⟩ handNil))
noncomputable def pg (Gimpl_in : impl_in.PI → Option impl_in.PO) (Glib_Trim : lib_Trim.PI → Option lib_Trim.PO) : Prog PO := { nt := 11, np := 1, tb := tabOf tab, hd := hd Gimpl_in Glib_Trim, cuts := cutsOf [], fin := endOf (tabOf tab) rs 1 pout }
noncomputable def q : FuncId → Bool := fun f => hasId [61, 104] f
theorem seg0 (Gimpl_in : impl_in.PI → Option impl_in.PO) (Glib_Trim : lib_Trim.PI → Option lib_Trim.PO) (x0 : List UInt8) : arun (pg Gimpl_in Glib_Trim) 5000 [.code c0] (mk pin (x0, ())) = F0 Gimpl_in Glib_Trim x0 := by kernel_rfl
noncomputable def impl : PI → Option PO := fun x => F0 impl_in.impl lib_Trim.impl x.1
theorem impl_eq (x0 : List UInt8) : impl (x0, ()) = F0 impl_in.impl lib_Trim.impl x0 := rfl
theorem con : Con Tryd.prog 51 1 rs.length 1 pin pout impl := by
  refine con_of_run' (nt := 11) (c := c0) tabGood Tryd.func51 (by kernel_rfl) (by kernel_rfl) (by kernel_rfl) (by kernel_rfl) (by kernel_rfl) (by kernel_rfl) (by kernel_rfl) ?_
  intro w0 O y hnp
  generalize hPost : (fun (a' : Act) (w' : World) => ∃ μ' S' st', Rel 11 w0 O μ' S' st' a' w' ∧ endOf (tabOf tab) rs 1 pout st' = some y) = Post
  have fin : ∀ (μ : Id → Option Value) (S : Nat → Prop) (st : St) (a : Act) (w : World), Rel 11 w0 O μ S st a w → endOf (tabOf tab) rs 1 pout st = some y → Post a w := fun μ S st a w h he => by rw [← hPost]; exact ⟨μ, S, st, h, he⟩
  have hp : Parts Tryd.prog 51 (pg impl_in.impl lib_Trim.impl) [] := ⟨tab_ok tabGood rfl, (handAt_ok lib_Trim.con (handAt_ok impl_in.con handNil_ok)), rfl⟩
  exact good_first (hp) (runOK_of (hp) hnp trivial fin) (fun x => (seg0 impl_in.impl lib_Trim.impl x.1))
end impl_nameOk

/-! ### slices.Index[[]string,string] -/
namespace slices_Index_of
noncomputable abbrev c0 : Code := (Tryd.f105.body).getD .skip
noncomputable abbrev pin : Tpl := ⟨[⟨0, false, [.d (.sl .str)]⟩, ⟨1, false, [.d .str]⟩], []⟩
noncomputable abbrev pout : Tpl := ⟨[⟨0, false, [.d (.int .i64)]⟩], []⟩
noncomputable abbrev p2 : Tpl := ⟨[⟨0, false, [.d (.sl .str)]⟩, ⟨1, false, [.d .str]⟩, ⟨7, false, [.d (.int .i64)]⟩, ⟨8, false, [.d (.int .i64)]⟩], []⟩
noncomputable def T2 : List Item := (find 2 c0 []).getD []
noncomputable abbrev PI := (List (List UInt8)) × (List UInt8) × Unit
noncomputable abbrev PO := Int × Unit
noncomputable abbrev P2 := (List (List UInt8)) × (List UInt8) × Int × Int × Unit
noncomputable abbrev rs : List ResultVar := [.tmp 4]
noncomputable def F0 (J2 : P2 → Option PO) (x0 : List (List UInt8)) (x1 : List UInt8) : Option PO :=
  J2 (x0, x1, (x0.length : Int), 0, ())
noncomputable def F2 (J2 : P2 → Option PO) (t0 : List (List UInt8)) (t1 : List UInt8) (t7 : Int) (t8 : Int) : Option PO :=
  bif decide (t8 < t7) then
    bif inb t8 t0.length then
      bif t1 == (t0.getD t8.toNat []) then
        some (t8, ())
      else
        J2 (t0, t1, t7, wI (t8 + 1), ())
    else
      none
  else
    some ((-1), ())
noncomputable def hd {R : Type} : Hand R := handNil
noncomputable def pg (J2 : List Item → P2 → Option PO) : Prog PO := { nt := 19, np := 2, tb := tabOf tab, hd := hd, cuts := cutsOf [(2, cut p2 J2)], fin := endOf (tabOf tab) rs 2 pout }
noncomputable def q : FuncId → Bool := fun f => hasId [] f
theorem seg0 (J2 : List Item → P2 → Option PO) (x0 : List (List UInt8)) (x1 : List UInt8) : arun (pg J2) 5000 [.code c0] (mk pin (x0, x1, ())) = F0 (J2 T2) x0 x1 := by kernel_rfl
theorem seg2 (J2 : List Item → P2 → Option PO) (t0 : List (List UInt8)) (t1 : List UInt8) (t7 : Int) (t8 : Int) : arun1 (pg J2) 5000 T2 (mk p2 (t0, t1, t7, t8, ())) = F2 (J2 T2) t0 t1 t7 t8 := by kernel_rfl
noncomputable def L2 : P2 → Option PO := lfp fun J2 x => F2 J2 x.1 x.2.1 x.2.2.1 x.2.2.2.1
noncomputable def impl : PI → Option PO := fun x => F0 L2 x.1 x.2.1
theorem F2_le {J2 J2' : P2 → Option PO} (h2 : OLe J2 J2') (t0 : List (List UInt8)) (t1 : List UInt8) (t7 : Int) (t8 : Int) : OptLe (F2 J2 t0 t1 t7 t8) (F2 J2' t0 t1 t7 t8) := by unfold F2; exact .cond (.cond (.cond (.refl _) (.of h2 _)) (.refl _)) (.refl _)
theorem L2_mono : OMono fun J2 (x : P2) => F2 J2 x.1 x.2.1 x.2.2.1 x.2.2.2.1 := fun J J' h2 x => F2_le h2 x.1 x.2.1 x.2.2.1 x.2.2.2.1
theorem L2_eq (t0 : List (List UInt8)) (t1 : List UInt8) (t7 : Int) (t8 : Int) : L2 (t0, t1, t7, t8, ()) = F2 (L2) t0 t1 t7 t8 := congrFun (lfp_eq (L2_mono)) _
theorem impl_eq (x0 : List (List UInt8)) (x1 : List UInt8) : impl (x0, x1, ()) = F0 L2 x0 x1 := rfl
theorem con : Con Tryd.prog 105 2 rs.length 2 pin pout impl := by
  refine con_of_run' (nt := 19) (c := c0) tabGood Tryd.func105 (by kernel_rfl) (by kernel_rfl) (by kernel_rfl) (by kernel_rfl) (by kernel_rfl) (by kernel_rfl) (by kernel_rfl) ?_
  intro w0 O y hnp
  generalize hPost : (fun (a' : Act) (w' : World) => ∃ μ' S' st', Rel 19 w0 O μ' S' st' a' w' ∧ endOf (tabOf tab) rs 2 pout st' = some y) = Post
  have fin : ∀ (μ : Id → Option Value) (S : Nat → Prop) (st : St) (a : Act) (w : World), Rel 19 w0 O μ S st a w → endOf (tabOf tab) rs 2 pout st = some y → Post a w := fun μ S st a w h he => by rw [← hPost]; exact ⟨μ, S, st, h, he⟩
  have hp : ∀ (J2 : List Item → P2 → Option PO), Parts Tryd.prog 105 (pg J2) [(2, cut p2 J2)] := fun J2 => ⟨tab_ok tabGood rfl, handNil_ok, rfl⟩
  have g2 : Good Tryd.prog 19 w0 O Post y T2 p2 L2 := good_lfp fun J2 h2 => good_part (hp (atT T2 J2)) (runOK_of (hp (atT T2 J2)) hnp ⟨cutOK_at h2, trivial⟩ fin) (fun x => (seg2 (atT T2 J2) x.1 x.2.1 x.2.2.1 x.2.2.2.1).trans (by simp only [atT_self] <;> rfl))
  exact good_first (hp (atT T2 L2)) (runOK_of (hp (atT T2 L2)) hnp ⟨cutOK_at g2, trivial⟩ fin) (fun x => (seg0 (atT T2 L2) x.1 x.2.1).trans (by simp only [atT_self] <;> rfl))
end slices_Index_of

/-! ### slices.Contains[[]string,string] -/
namespace slices_Contains_of
noncomputable abbrev c0 : Code := (Tryd.f52.body).getD .skip
noncomputable abbrev pin : Tpl := ⟨[⟨0, false, [.d (.sl .str)]⟩, ⟨1, false, [.d .str]⟩], []⟩
noncomputable abbrev pout : Tpl := ⟨[⟨0, false, [.d .bool]⟩], []⟩
noncomputable abbrev PI := (List (List UInt8)) × (List UInt8) × Unit
noncomputable abbrev PO := Bool × Unit
noncomputable abbrev rs : List ResultVar := [.tmp 4]
noncomputable def F0 (Gslices_Index_of : slices_Index_of.PI → Option slices_Index_of.PO) (x0 : List (List UInt8)) (x1 : List UInt8) : Option PO :=
  Option.bind (Gslices_Index_of (x0, x1, ())) fun y0 =>
  some (decide (y0.1 ≥ 0), ())
noncomputable def hd {R : Type} (Gslices_Index_of : slices_Index_of.PI → Option slices_Index_of.PO) : Hand R := (handAt 105 [7] true ⟨2, 1, 2, slices_Index_of.pin, slices_Index_of.pout, Gslices_Index_of⟩ handNil)
noncomputable def pg (Gslices_Index_of : slices_Index_of.PI → Option slices_Index_of.PO) : Prog PO := { nt := 9, np := 2, tb := tabOf tab, hd := hd Gslices_Index_of, cuts := cutsOf [], fin := endOf (tabOf tab) rs 2 pout }
noncomputable def q : FuncId → Bool := fun f => hasId [105] f
theorem seg0 (Gslices_Index_of : slices_Index_of.PI → Option slices_Index_of.PO) (x0 : List (List UInt8)) (x1 : List UInt8) : arun (pg Gslices_Index_of) 5000 [.code c0] (mk pin (x0, x1, ())) = F0 Gslices_Index_of x0 x1 := by kernel_rfl
noncomputable def impl : PI → Option PO := fun x => F0 slices_Index_of.impl x.1 x.2.1
theorem impl_eq (x0 : List (List UInt8)) (x1 : List UInt8) : impl (x0, x1, ()) = F0 slices_Index_of.impl x0 x1 := rfl
theorem con : Con Tryd.prog 52 2 rs.length 2 pin pout impl := by
  refine con_of_run' (nt := 9) (c := c0) tabGood Tryd.func52 (by kernel_rfl) (by kernel_rfl) (by kernel_rfl) (by kernel_rfl) (by kernel_rfl) (by kernel_rfl) (by kernel_rfl) ?_
  intro w0 O y hnp
  generalize hPost : (fun (a' : Act) (w' : World) => ∃ μ' S' st', Rel 9 w0 O μ' S' st' a' w' ∧ endOf (tabOf tab) rs 2 pout st' = some y) = Post
  have fin : ∀ (μ : Id → Option Value) (S : Nat → Prop) (st : St) (a : Act) (w : World), Rel 9 w0 O μ S st a w → endOf (tabOf tab) rs 2 pout st = some y → Post a w := fun μ S st a w h he => by rw [← hPost]; exact ⟨μ, S, st, h, he⟩
  have hp : Parts Tryd.prog 52 (pg slices_Index_of.impl) [] := ⟨tab_ok tabGood rfl, (handAt_ok slices_Index_of.con handNil_ok), rfl⟩
  exact good_first (hp) (runOK_of (hp) hnp trivial fin) (fun x => (seg0 slices_Index_of.impl x.1 x.2.1))
end slices_Contains_of

/-! ### loop.example/wholecheck/impl.NamesValid -/
namespace impl_NamesValid
noncomputable abbrev c0 : Code := (Tryd.f14.body).getD .skip
noncomputable abbrev pin : Tpl := ⟨[⟨0, false, [.d (.sl .str)]⟩], []⟩
noncomputable abbrev pout : Tpl := ⟨[⟨0, false, [.d .bool]⟩], []⟩
noncomputable abbrev p4 : Tpl := ⟨[⟨0, false, [.d (.sl .str)]⟩, ⟨8, false, [.d (.sl .str)]⟩, ⟨9, false, [.d (.int .i64)]⟩, ⟨10, false, [.d (.int .i64)]⟩], []⟩
noncomputable def T4 : List Item := (find 4 c0 []).getD []
noncomputable abbrev PI := (List (List UInt8)) × Unit
noncomputable abbrev PO := Bool × Unit
noncomputable abbrev P4 := (List (List UInt8)) × (List (List UInt8)) × Int × Int × Unit
noncomputable abbrev rs : List ResultVar := [.tmp 2]
noncomputable def F0 (J4 : P4 → Option PO) (x0 : List (List UInt8)) : Option PO :=
  bif decide ((x0.length : Int) > 5) then
    some (false, ())
  else
    J4 (x0, x0, (x0.length : Int), 0, ())
noncomputable def F4 (J4 : P4 → Option PO) (Gimpl_nameOk : impl_nameOk.PI → Option impl_nameOk.PO) (Gslices_Contains_of : slices_Contains_of.PI → Option slices_Contains_of.PO) (t0 : List (List UInt8)) (t8 : List (List UInt8)) (t9 : Int) (t10 : Int) : Option PO :=
  bif decide (t10 < t9) then
    bif inb t10 t8.length then
      Option.bind (Gimpl_nameOk (t8.getD t10.toNat [], ())) fun y0 =>
      bif !y0.1 then
        some (false, ())
      else
        bif decide (0 ≤ t10) && decide (t10 ≤ (t0.length : Int)) then
          Option.bind (Gslices_Contains_of ((t0.take t10.toNat).drop 0, t8.getD t10.toNat [], ())) fun y1 =>
          bif y1.1 then
            some (false, ())
          else
            J4 (t0, t8, t9, wI (t10 + 1), ())
        else
          none
    else
      none
  else
    some (true, ())
noncomputable def hd {R : Type} (Gimpl_nameOk : impl_nameOk.PI → Option impl_nameOk.PO) (Gslices_Contains_of : slices_Contains_of.PI → Option slices_Contains_of.PO) : Hand R := (handAt 52 [23] true ⟨2, 1, 2, slices_Contains_of.pin, slices_Contains_of.pout, Gslices_Contains_of⟩ (handAt 51 [16] true ⟨1, 1, 1, impl_nameOk.pin, impl_nameOk.pout, Gimpl_nameOk⟩ handNil))
noncomputable def pg (Gimpl_nameOk : impl_nameOk.PI → Option impl_nameOk.PO) (Gslices_Contains_of : slices_Contains_of.PI → Option slices_Contains_of.PO) (J4 : List Item → P4 → Option PO) : Prog PO := { nt := 26, np := 1, tb := tabOf tab, hd := hd Gimpl_nameOk Gslices_Contains_of, cuts := cutsOf [(4, cut p4 J4)], fin := endOf (tabOf tab) rs 1 pout }
noncomputable def q : FuncId → Bool := fun f => hasId [51, 52] f
theorem seg0 (Gimpl_nameOk : impl_nameOk.PI → Option impl_nameOk.PO) (Gslices_Contains_of : slices_Contains_of.PI → Option slices_Contains_of.PO) (J4 : List Item → P4 → Option PO) (x0 : List (List UInt8)) : arun (pg Gimpl_nameOk Gslices_Contains_of J4) 5000 [.code c0] (mk pin (x0, ())) = F0 (J4 T4) x0 := by kernel_rfl
theorem seg4 (Gimpl_nameOk : impl_nameOk.PI → Option impl_nameOk.PO) (Gslices_Contains_of : slices_Contains_of.PI → Option slices_Contains_of.PO) (J4 : List Item → P4 → Option PO) (t0 : List (List UInt8)) (t8 : List (List UInt8)) (t9 : Int) (t10 : Int) : arun1 (pg Gimpl_nameOk Gslices_Contains_of J4) 5000 T4 (mk p4 (t0, t8, t9, t10, ())) = F4 (J4 T4) Gimpl_nameOk Gslices_Contains_of t0 t8 t9 t10 := by kernel_rfl
noncomputable def L4 : P4 → Option PO := lfp fun J4 x => F4 J4 impl_nameOk.impl slices_Contains_of.impl x.1 x.2.1 x.2.2.1 x.2.2.2.1
noncomputable def impl : PI → Option PO := fun x => F0 L4 x.1
theorem F4_le {J4 J4' : P4 → Option PO} (h4 : OLe J4 J4') {Gimpl_nameOk : impl_nameOk.PI → Option impl_nameOk.PO} {Gslices_Contains_of : slices_Contains_of.PI → Option slices_Contains_of.PO} (t0 : List (List UInt8)) (t8 : List (List UInt8)) (t9 : Int) (t10 : Int) : OptLe (F4 J4 Gimpl_nameOk Gslices_Contains_of t0 t8 t9 t10) (F4 J4' Gimpl_nameOk Gslices_Contains_of t0 t8 t9 t10) := by unfold F4; exact .cond (.cond (.bind (.refl _) fun _ => .cond (.refl _) (.cond (.bind (.refl _) fun _ => .cond (.refl _) (.of h4 _)) (.refl _))) (.refl _)) (.refl _)
theorem L4_mono : OMono fun J4 (x : P4) => F4 J4 impl_nameOk.impl slices_Contains_of.impl x.1 x.2.1 x.2.2.1 x.2.2.2.1 := fun J J' h4 x => F4_le h4 x.1 x.2.1 x.2.2.1 x.2.2.2.1
theorem L4_eq (t0 : List (List UInt8)) (t8 : List (List UInt8)) (t9 : Int) (t10 : Int) : L4 (t0, t8, t9, t10, ()) = F4 (L4) impl_nameOk.impl slices_Contains_of.impl t0 t8 t9 t10 := congrFun (lfp_eq (L4_mono)) _
theorem impl_eq (x0 : List (List UInt8)) : impl (x0, ()) = F0 L4 x0 := rfl
theorem con : Con Tryd.prog 14 1 rs.length 1 pin pout impl := by
  refine con_of_run' (nt := 26) (c := c0) tabGood Tryd.func14 (by kernel_rfl) (by kernel_rfl) (by kernel_rfl) (by kernel_rfl) (by kernel_rfl) (by kernel_rfl) (by kernel_rfl) ?_
  intro w0 O y hnp
  generalize hPost : (fun (a' : Act) (w' : World) => ∃ μ' S' st', Rel 26 w0 O μ' S' st' a' w' ∧ endOf (tabOf tab) rs 1 pout st' = some y) = Post
  have fin : ∀ (μ : Id → Option Value) (S : Nat → Prop) (st : St) (a : Act) (w : World), Rel 26 w0 O μ S st a w → endOf (tabOf tab) rs 1 pout st = some y → Post a w := fun μ S st a w h he => by rw [← hPost]; exact ⟨μ, S, st, h, he⟩
  have hp : ∀ (J4 : List Item → P4 → Option PO), Parts Tryd.prog 14 (pg impl_nameOk.impl slices_Contains_of.impl J4) [(4, cut p4 J4)] := fun J4 => ⟨tab_ok tabGood rfl, (handAt_ok slices_Contains_of.con (handAt_ok impl_nameOk.con handNil_ok)), rfl⟩
  have g4 : Good Tryd.prog 26 w0 O Post y T4 p4 L4 := good_lfp fun J4 h4 => good_part (hp (atT T4 J4)) (runOK_of (hp (atT T4 J4)) hnp ⟨cutOK_at h4, trivial⟩ fin) (fun x => (seg4 impl_nameOk.impl slices_Contains_of.impl (atT T4 J4) x.1 x.2.1 x.2.2.1 x.2.2.2.1).trans (by simp only [atT_self] <;> rfl))
  exact good_first (hp (atT T4 L4)) (runOK_of (hp (atT T4 L4)) hnp ⟨cutOK_at g4, trivial⟩ fin) (fun x => (seg0 impl_nameOk.impl slices_Contains_of.impl (atT T4 L4) x.1).trans (by simp only [atT_self] <;> rfl))
end impl_NamesValid

/-! ### loop.example/wholecheck/impl.parts -/
namespace impl_parts
noncomputable abbrev c0 : Code := (Tryd.f160.body).getD .skip
noncomputable abbrev pin : Tpl := ⟨[⟨0, false, [.d (.int .i64)]⟩], []⟩
noncomputable abbrev pout : Tpl := ⟨[⟨0, false, [.d (.int .i64)]⟩, ⟨1, false, [.d (.int .i64)]⟩, ⟨2, false, [.d (.int .i64)]⟩], []⟩
noncomputable abbrev PI := Int × Unit
noncomputable abbrev PO := Int × Int × Int × Unit
noncomputable abbrev rs : List ResultVar := [.tmp 2, .tmp 3, .tmp 4]
noncomputable def F0 (x0 : Int) : Option PO :=
  bif x0 == 2 then
    some (2, 1, 1, ())
  else
    bif x0 == 3 then
      some (2, 1, 1, ())
    else
      bif x0 == 4 then
        some (2, 1, 1, ())
      else
        bif x0 == 5 then
          some (2, 1, 2, ())
        else
          bif x0 == 6 then
            some (2, 1, 2, ())
          else
            bif x0 == 7 then
              some (1, 2, 2, ())
            else
              bif x0 == 8 then
                some (2, 2, 2, ())
              else
                bif x0 == 9 then
                  some (2, 2, 2, ())
                else
                  some (0, 0, 1, ())
noncomputable def hd {R : Type} : Hand R := handNil
noncomputable def pg : Prog PO := { nt := 18, np := 1, tb := tabOf tab, hd := hd, cuts := cutsOf [], fin := endOf (tabOf tab) rs 1 pout }
noncomputable def q : FuncId → Bool := fun f => hasId [] f
theorem seg0 (x0 : Int) : arun (pg) 5000 [.code c0] (mk pin (x0, ())) = F0 x0 := by kernel_rfl
noncomputable def impl : PI → Option PO := fun x => F0 x.1
theorem impl_eq (x0 : Int) : impl (x0, ()) = F0 x0 := rfl
theorem con : Con Tryd.prog 160 1 rs.length 1 pin pout impl := by
  refine con_of_run' (nt := 18) (c := c0) tabGood Tryd.func160 (by kernel_rfl) (by kernel_rfl) (by kernel_rfl) (by kernel_rfl) (by kernel_rfl) (by kernel_rfl) (by kernel_rfl) ?_
  intro w0 O y hnp
  generalize hPost : (fun (a' : Act) (w' : World) => ∃ μ' S' st', Rel 18 w0 O μ' S' st' a' w' ∧ endOf (tabOf tab) rs 1 pout st' = some y) = Post
  have fin : ∀ (μ : Id → Option Value) (S : Nat → Prop) (st : St) (a : Act) (w : World), Rel 18 w0 O μ S st a w → endOf (tabOf tab) rs 1 pout st = some y → Post a w := fun μ S st a w h he => by rw [← hPost]; exact ⟨μ, S, st, h, he⟩
  have hp : Parts Tryd.prog 160 (pg) [] := ⟨tab_ok tabGood rfl, handNil_ok, rfl⟩
  exact good_first (hp) (runOK_of (hp) hnp trivial fin) (fun x => (seg0 x.1))
end impl_parts

/-! ### loop.example/wholecheck/impl.kindsOf -/
namespace impl_kindsOf
noncomputable abbrev c0 : Code := (Tryd.f123.body).getD .skip
noncomputable abbrev pin : Tpl := ⟨[⟨0, false, [.d (.sl (.prod (.int .i64) (.prod (.int .i64) (.prod (.int .i64) (.last (.int .i64))))))]⟩, ⟨1, false, [.d (.int .i64)]⟩], []⟩
noncomputable abbrev pout : Tpl := ⟨[⟨0, false, [.row 600001]⟩], [(600001, .row 3 true (.int .i64))]⟩
noncomputable abbrev p3 : Tpl := ⟨[⟨0, false, [.d (.sl (.prod (.int .i64) (.prod (.int .i64) (.prod (.int .i64) (.last (.int .i64))))))]⟩, ⟨1, false, [.d (.int .i64)]⟩], []⟩
noncomputable def T3 : List Item := (find 3 c0 []).getD []
noncomputable abbrev p5 : Tpl := ⟨[⟨1, false, [.d (.int .i64)]⟩, ⟨5, false, [.row 3000000]⟩, ⟨24, false, [.d (.sl (.prod (.int .i64) (.prod (.int .i64) (.prod (.int .i64) (.last (.int .i64))))))]⟩, ⟨25, false, [.d (.int .i64)]⟩, ⟨26, false, [.d (.int .i64)]⟩], [(3000000, .row 3 false (.int .i64))]⟩
noncomputable def T5 : List Item := (find 5 c0 []).getD []
noncomputable abbrev PI := (List (Int × Int × Int × Int)) × Int × Unit
noncomputable abbrev PO := (List Int) × Unit
noncomputable abbrev P3 := (List (Int × Int × Int × Int)) × Int × Unit
noncomputable abbrev P5 := Int × (List (Int × Int × Int × Int)) × Int × Int × (List Int) × Unit
noncomputable abbrev rs : List ResultVar := [.tmp 4]
noncomputable def F0 (J3 : P3 → Option PO) (Gimpl_in : impl_in.PI → Option impl_in.PO) (x0 : List (Int × Int × Int × Int)) (x1 : Int) : Option PO :=
  Option.bind (Gimpl_in (x1, 0, 5, ())) fun y0 =>
  bif !y0.1 then
    some ([], ())
  else
    Option.bind (Gimpl_in ((x0.length : Int), 1, 40, ())) fun y1 =>
    bif !y1.1 then
      some ([], ())
    else
      J3 (x0, x1, ())
noncomputable def F3 (J5 : P5 → Option PO) (t0 : List (Int × Int × Int × Int)) (t1 : Int) : Option PO :=
  bif decide (0 ≤ (t0.length : Int)) && decide ((t0.length : Int) * 8 ≤ 140737488355328) then
    J5 (t1, t0, (t0.length : Int), 0, (List.replicate 0 0 : List Int), ())
  else
    none
noncomputable def F5 (J5 : P5 → Option PO) (Gimpl_in : impl_in.PI → Option impl_in.PO) (Gimpl_parts : impl_parts.PI → Option impl_parts.PO) (t1 : Int) (t24 : List (Int × Int × Int × Int)) (t25 : Int) (t26 : Int) (r0 : List Int) : Option PO :=
  bif decide (t26 < t25) then
    bif inb t26 t24.length then
      Option.bind (Gimpl_parts ((t24.getD t26.toNat (0, 0, 0, 0)).1, ())) fun y2 =>
      Option.bind (Gimpl_in ((t24.getD t26.toNat (0, 0, 0, 0)).1, 0, 9, ())) fun y3 =>
      bif (t24.getD t26.toNat (0, 0, 0, 0)).1 == 0 then
        Option.bind (Gimpl_in ((t24.getD t26.toNat (0, 0, 0, 0)).2.1, (-9999), 9999, ())) fun y4 =>
        bif y4.1 then
          bif (t24.getD t26.toNat (0, 0, 0, 0)).2.2.1 == 0 then
            bif !((t24.getD t26.toNat (0, 0, 0, 0)).2.2.2 == 0) then
              some ([], ())
            else
              bif decide ((r0.length + ([y2.2.2.1] : List Int).length) * 8 ≤ 140737488355328) then
                J5 (t1, t24, t25, wI (t26 + 1), r0 ++ ([y2.2.2.1] : List Int), ())
              else
                none
          else
            some ([], ())
        else
          some ([], ())
      else
        bif (t24.getD t26.toNat (0, 0, 0, 0)).1 == 1 then
          Option.bind (Gimpl_in ((t24.getD t26.toNat (0, 0, 0, 0)).2.1, 0, wI (t1 - 1), ())) fun y5 =>
          bif y5.1 then
            bif (t24.getD t26.toNat (0, 0, 0, 0)).2.2.1 == 0 then
              bif !((t24.getD t26.toNat (0, 0, 0, 0)).2.2.2 == 0) then
                some ([], ())
              else
                bif decide ((r0.length + ([y2.2.2.1] : List Int).length) * 8 ≤ 140737488355328) then
                  J5 (t1, t24, t25, wI (t26 + 1), r0 ++ ([y2.2.2.1] : List Int), ())
                else
                  none
            else
              some ([], ())
          else
            some ([], ())
        else
          bif y3.1 then
            bif (t24.getD t26.toNat (0, 0, 0, 0)).2.1 == 0 then
              Option.bind (Gimpl_in ((t24.getD t26.toNat (0, 0, 0, 0)).2.2.1, 0, wI (t26 - 1), ())) fun y6 =>
              bif y6.1 then
                Option.bind (Gimpl_in ((t24.getD t26.toNat (0, 0, 0, 0)).2.2.2, 0, wI (t26 - 1), ())) fun y7 =>
                bif y7.1 then
                  bif inb (t24.getD t26.toNat (0, 0, 0, 0)).2.2.1 r0.length then
                    bif r0.getD (t24.getD t26.toNat (0, 0, 0, 0)).2.2.1.toNat 0 == y2.2.1 then
                      bif inb (t24.getD t26.toNat (0, 0, 0, 0)).2.2.2 r0.length then
                        bif r0.getD (t24.getD t26.toNat (0, 0, 0, 0)).2.2.2.toNat 0 == y2.2.1 then
                          bif y2.1 == 2 then
                            bif decide ((r0.length + ([y2.2.2.1] : List Int).length) * 8 ≤ 140737488355328) then
                              J5 (t1, t24, t25, wI (t26 + 1), r0 ++ ([y2.2.2.1] : List Int), ())
                            else
                              none
                          else
                            bif !((t24.getD t26.toNat (0, 0, 0, 0)).2.2.1 == (t24.getD t26.toNat (0, 0, 0, 0)).2.2.2) then
                              some ([], ())
                            else
                              bif decide ((r0.length + ([y2.2.2.1] : List Int).length) * 8 ≤ 140737488355328) then
                                J5 (t1, t24, t25, wI (t26 + 1), r0 ++ ([y2.2.2.1] : List Int), ())
                              else
                                none
                        else
                          some ([], ())
                      else
                        none
                    else
                      some ([], ())
                  else
                    none
                else
                  some ([], ())
              else
                some ([], ())
            else
              some ([], ())
          else
            bif !y3.1 then
              some ([], ())
            else
              bif decide ((r0.length + ([y2.2.2.1] : List Int).length) * 8 ≤ 140737488355328) then
                J5 (t1, t24, t25, wI (t26 + 1), r0 ++ ([y2.2.2.1] : List Int), ())
              else
                none
    else
      none
  else
    bif (!r0.isEmpty && true) then
      some (r0, ())
    else
      none
noncomputable def hd {R : Type} (Gimpl_in : impl_in.PI → Option impl_in.PO) (Gimpl_parts : impl_parts.PI → Option impl_parts.PO) : Hand R := (handAt 160 [34] true ⟨1, 3, 1, impl_parts.pin, impl_parts.pout, Gimpl_parts⟩ (handAt 61 [13, 18, 40, 47, 66, 87, 94] true ⟨3, 1, 3, impl_in.pin, impl_in.pout, Gimpl_in⟩ handNil))
noncomputable def pg (Gimpl_in : impl_in.PI → Option impl_in.PO) (Gimpl_parts : impl_parts.PI → Option impl_parts.PO) (J3 : List Item → P3 → Option PO) (J5 : List Item → P5 → Option PO) : Prog PO := { nt := 133, np := 2, tb := tabOf tab, hd := hd Gimpl_in Gimpl_parts, cuts := cutsOf [(3, cut p3 J3), (5, cut p5 J5)], fin := endOf (tabOf tab) rs 2 pout }
noncomputable def q : FuncId → Bool := fun f => hasId [61, 160] f
theorem seg0 (Gimpl_in : impl_in.PI → Option impl_in.PO) (Gimpl_parts : impl_parts.PI → Option impl_parts.PO) (J3 : List Item → P3 → Option PO) (J5 : List Item → P5 → Option PO) (x0 : List (Int × Int × Int × Int)) (x1 : Int) : arun (pg Gimpl_in Gimpl_parts J3 J5) 5000 [.code c0] (mk pin (x0, x1, ())) = F0 (J3 T3) Gimpl_in x0 x1 := by kernel_rfl
theorem seg3 (Gimpl_in : impl_in.PI → Option impl_in.PO) (Gimpl_parts : impl_parts.PI → Option impl_parts.PO) (J3 : List Item → P3 → Option PO) (J5 : List Item → P5 → Option PO) (t0 : List (Int × Int × Int × Int)) (t1 : Int) : arun1 (pg Gimpl_in Gimpl_parts J3 J5) 5000 T3 (mk p3 (t0, t1, ())) = F3 (J5 T5) t0 t1 := by kernel_rfl
theorem seg5 (Gimpl_in : impl_in.PI → Option impl_in.PO) (Gimpl_parts : impl_parts.PI → Option impl_parts.PO) (J3 : List Item → P3 → Option PO) (J5 : List Item → P5 → Option PO) (t1 : Int) (t24 : List (Int × Int × Int × Int)) (t25 : Int) (t26 : Int) (r0 : List Int) : arun1 (pg Gimpl_in Gimpl_parts J3 J5) 5000 T5 (mk p5 (t1, t24, t25, t26, r0, ())) = F5 (J5 T5) Gimpl_in Gimpl_parts t1 t24 t25 t26 r0 := by kernel_rfl
noncomputable def L5 : P5 → Option PO := lfp fun J5 x => F5 J5 impl_in.impl impl_parts.impl x.1 x.2.1 x.2.2.1 x.2.2.2.1 x.2.2.2.2.1
noncomputable def L3 : P3 → Option PO := fun x => F3 L5 x.1 x.2.1
noncomputable def impl : PI → Option PO := fun x => F0 L3 impl_in.impl x.1 x.2.1
theorem F5_le {J5 J5' : P5 → Option PO} (h5 : OLe J5 J5') {Gimpl_in : impl_in.PI → Option impl_in.PO} {Gimpl_parts : impl_parts.PI → Option impl_parts.PO} (t1 : Int) (t24 : List (Int × Int × Int × Int)) (t25 : Int) (t26 : Int) (r0 : List Int) : OptLe (F5 J5 Gimpl_in Gimpl_parts t1 t24 t25 t26 r0) (F5 J5' Gimpl_in Gimpl_parts t1 t24 t25 t26 r0) := by unfold F5; exact .cond (.cond (.bind (.refl _) fun _ => .bind (.refl _) fun _ => .cond (.bind (.refl _) fun _ => .cond (.cond (.cond (.refl _) (.cond (.of h5 _) (.refl _))) (.refl _)) (.refl _)) (.cond (.bind (.refl _) fun _ => .cond (.cond (.cond (.refl _) (.cond (.of h5 _) (.refl _))) (.refl _)) (.refl _)) (.cond (.cond (.bind (.refl _) fun _ => .cond (.bind (.refl _) fun _ => .cond (.cond (.cond (.cond (.cond (.cond (.cond (.of h5 _) (.refl _)) (.cond (.refl _) (.cond (.of h5 _) (.refl _)))) (.refl _)) (.refl _)) (.refl _)) (.refl _)) (.refl _)) (.refl _)) (.refl _)) (.cond (.refl _) (.cond (.of h5 _) (.refl _)))))) (.refl _)) (.refl _)
theorem L5_mono : OMono fun J5 (x : P5) => F5 J5 impl_in.impl impl_parts.impl x.1 x.2.1 x.2.2.1 x.2.2.2.1 x.2.2.2.2.1 := fun J J' h5 x => F5_le h5 x.1 x.2.1 x.2.2.1 x.2.2.2.1 x.2.2.2.2.1
theorem L5_eq (t1 : Int) (t24 : List (Int × Int × Int × Int)) (t25 : Int) (t26 : Int) (r0 : List Int) : L5 (t1, t24, t25, t26, r0, ()) = F5 (L5) impl_in.impl impl_parts.impl t1 t24 t25 t26 r0 := congrFun (lfp_eq (L5_mono)) _
theorem L3_eq (t0 : List (Int × Int × Int × Int)) (t1 : Int) : L3 (t0, t1, ()) = F3 (L5) t0 t1 := rfl
theorem impl_eq (x0 : List (Int × Int × Int × Int)) (x1 : Int) : impl (x0, x1, ()) = F0 L3 impl_in.impl x0 x1 := rfl
theorem con : Con Tryd.prog 123 2 rs.length 2 pin pout impl := by
  refine con_of_run' (nt := 133) (c := c0) tabGood Tryd.func123 (by kernel_rfl) (by kernel_rfl) (by kernel_rfl) (by kernel_rfl) (by kernel_rfl) (by kernel_rfl) (by kernel_rfl) ?_
  intro w0 O y hnp
  generalize hPost : (fun (a' : Act) (w' : World) => ∃ μ' S' st', Rel 133 w0 O μ' S' st' a' w' ∧ endOf (tabOf tab) rs 2 pout st' = some y) = Post
  have fin : ∀ (μ : Id → Option Value) (S : Nat → Prop) (st : St) (a : Act) (w : World), Rel 133 w0 O μ S st a w → endOf (tabOf tab) rs 2 pout st = some y → Post a w := fun μ S st a w h he => by rw [← hPost]; exact ⟨μ, S, st, h, he⟩
  have hp : ∀ (J3 : List Item → P3 → Option PO), ∀ (J5 : List Item → P5 → Option PO), Parts Tryd.prog 123 (pg impl_in.impl impl_parts.impl J3 J5) [(3, cut p3 J3), (5, cut p5 J5)] := fun J3 J5 => ⟨tab_ok tabGood rfl, (handAt_ok impl_parts.con (handAt_ok impl_in.con handNil_ok)), rfl⟩
  have g5 : Good Tryd.prog 133 w0 O Post y T5 p5 L5 := good_lfp fun J5 h5 => good_part (hp (atT T3 (fun _ => none)) (atT T5 J5)) (runOK_of (hp (atT T3 (fun _ => none)) (atT T5 J5)) hnp ⟨cutOK_at (p := p3) (T := T3) (J := fun _ => none) good_none, cutOK_at h5, trivial⟩ fin) (fun x => (seg5 impl_in.impl impl_parts.impl (atT T3 (fun _ => none)) (atT T5 J5) x.1 x.2.1 x.2.2.1 x.2.2.2.1 x.2.2.2.2.1).trans (by simp only [atT_self] <;> rfl))
  have g3 : Good Tryd.prog 133 w0 O Post y T3 p3 L3 := good_part (hp (atT T3 (fun _ => none)) (atT T5 L5)) (runOK_of (hp (atT T3 (fun _ => none)) (atT T5 L5)) hnp ⟨cutOK_at (p := p3) (T := T3) (J := fun _ => none) good_none, cutOK_at g5, trivial⟩ fin) (fun x => (seg3 impl_in.impl impl_parts.impl (atT T3 (fun _ => none)) (atT T5 L5) x.1 x.2.1).trans (by simp only [atT_self] <;> rfl))
  exact good_first (hp (atT T3 L3) (atT T5 (fun _ => none))) (runOK_of (hp (atT T3 L3) (atT T5 (fun _ => none))) hnp ⟨cutOK_at g3, cutOK_at (p := p5) (T := T5) (J := fun _ => none) good_none, trivial⟩ fin) (fun x => (seg0 impl_in.impl impl_parts.impl (atT T3 L3) (atT T5 (fun _ => none)) x.1 x.2.1).trans (by simp only [atT_self] <;> rfl))
end impl_kindsOf

/-! ### loop.example/wholecheck/impl.TermsValid -/
namespace impl_TermsValid
noncomputable abbrev c0 : Code := (Tryd.f80.body).getD .skip
noncomputable abbrev pin : Tpl := ⟨[⟨0, false, [.d (.sl (.prod (.int .i64) (.prod (.int .i64) (.prod (.int .i64) (.last (.int .i64))))))]⟩, ⟨1, false, [.d (.int .i64)]⟩], []⟩
noncomputable abbrev pout : Tpl := ⟨[⟨0, false, [.d .bool]⟩], []⟩
noncomputable abbrev PI := (List (Int × Int × Int × Int)) × Int × Unit
noncomputable abbrev PO := Bool × Unit
noncomputable abbrev rs : List ResultVar := [.tmp 4]
noncomputable def F0 (Gimpl_kindsOf : impl_kindsOf.PI → Option impl_kindsOf.PO) (x0 : List (Int × Int × Int × Int)) (x1 : Int) : Option PO :=
  Option.bind (Gimpl_kindsOf (x0, x1, ())) fun y0 =>
  some (!y0.1.isEmpty, ())
noncomputable def hd {R : Type} (Gimpl_kindsOf : impl_kindsOf.PI → Option impl_kindsOf.PO) : Hand R := (handAt 123 [7] true ⟨2, 1, 2, impl_kindsOf.pin, impl_kindsOf.pout, Gimpl_kindsOf⟩ handNil)
noncomputable def pg (Gimpl_kindsOf : impl_kindsOf.PI → Option impl_kindsOf.PO) : Prog PO := { nt := 9, np := 2, tb := tabOf tab, hd := hd Gimpl_kindsOf, cuts := cutsOf [], fin := endOf (tabOf tab) rs 2 pout }
noncomputable def q : FuncId → Bool := fun f => hasId [] f
theorem seg0 (Gimpl_kindsOf : impl_kindsOf.PI → Option impl_kindsOf.PO) (x0 : List (Int × Int × Int × Int)) (x1 : Int) : arun (pg Gimpl_kindsOf) 5000 [.code c0] (mk pin (x0, x1, ())) = F0 Gimpl_kindsOf x0 x1 := by kernel_rfl
noncomputable def impl : PI → Option PO := fun x => F0 impl_kindsOf.impl x.1 x.2.1
theorem impl_eq (x0 : List (Int × Int × Int × Int)) (x1 : Int) : impl (x0, x1, ()) = F0 impl_kindsOf.impl x0 x1 := rfl
theorem con : Con Tryd.prog 80 2 rs.length 2 pin pout impl := by
  refine con_of_run' (nt := 9) (c := c0) tabGood Tryd.func80 (by kernel_rfl) (by kernel_rfl) (by kernel_rfl) (by kernel_rfl) (by kernel_rfl) (by kernel_rfl) (by kernel_rfl) ?_
  intro w0 O y hnp
  generalize hPost : (fun (a' : Act) (w' : World) => ∃ μ' S' st', Rel 9 w0 O μ' S' st' a' w' ∧ endOf (tabOf tab) rs 2 pout st' = some y) = Post
  have fin : ∀ (μ : Id → Option Value) (S : Nat → Prop) (st : St) (a : Act) (w : World), Rel 9 w0 O μ S st a w → endOf (tabOf tab) rs 2 pout st = some y → Post a w := fun μ S st a w h he => by rw [← hPost]; exact ⟨μ, S, st, h, he⟩
  have hp : Parts Tryd.prog 80 (pg impl_kindsOf.impl) [] := ⟨tab_ok tabGood rfl, (handAt_ok impl_kindsOf.con handNil_ok), rfl⟩
  exact good_first (hp) (runOK_of (hp) hnp trivial fin) (fun x => (seg0 impl_kindsOf.impl x.1 x.2.1))
end impl_TermsValid

/-! ### loop.example/wholecheck/impl.WriteExpr -/
namespace impl_WriteExpr
noncomputable abbrev c0 : Code := (Tryd.f34.body).getD .skip
noncomputable abbrev pin : Tpl := ⟨[⟨0, false, [.d (.sl .str)]⟩, ⟨1, false, [.d (.sl (.prod (.int .i64) (.prod (.int .i64) (.prod (.int .i64) (.last (.int .i64))))))]⟩], []⟩
noncomputable abbrev pout : Tpl := ⟨[⟨0, false, [.d .str]⟩], []⟩
noncomputable abbrev p3 : Tpl := ⟨[⟨0, false, [.d (.sl .str)]⟩, ⟨1, false, [.d (.sl (.prod (.int .i64) (.prod (.int .i64) (.prod (.int .i64) (.last (.int .i64))))))]⟩], []⟩
noncomputable def T3 : List Item := (find 3 c0 []).getD []
noncomputable abbrev p5 : Tpl := ⟨[⟨0, false, [.d (.sl .str)]⟩, ⟨5, false, [.row 3000000]⟩, ⟨21, false, [.d (.sl (.prod (.int .i64) (.prod (.int .i64) (.prod (.int .i64) (.last (.int .i64))))))]⟩, ⟨22, false, [.d (.int .i64)]⟩, ⟨23, false, [.d (.int .i64)]⟩], [(3000000, .row 9 false .str)]⟩
noncomputable def T5 : List Item := (find 5 c0 []).getD []
noncomputable abbrev p8 : Tpl := ⟨[⟨0, false, [.d (.sl .str)]⟩, ⟨5, false, [.row 3000000]⟩, ⟨6, false, [.d (.int .i64)]⟩, ⟨7, false, [.ptr 3000001 0]⟩, ⟨21, false, [.d (.sl (.prod (.int .i64) (.prod (.int .i64) (.prod (.int .i64) (.last (.int .i64))))))]⟩, ⟨22, false, [.d (.int .i64)]⟩, ⟨23, false, [.d (.int .i64)]⟩], [(3000000, .row 9 false .str), (3000001, .box [.d (.int .i64), .d (.int .i64), .d (.int .i64), .d (.int .i64)])]⟩
noncomputable def T8 : List Item := (find 8 c0 []).getD []
noncomputable abbrev PI := (List (List UInt8)) × (List (Int × Int × Int × Int)) × Unit
noncomputable abbrev PO := (List UInt8) × Unit
noncomputable abbrev P3 := (List (List UInt8)) × (List (Int × Int × Int × Int)) × Unit
noncomputable abbrev P5 := (List (List UInt8)) × (List (Int × Int × Int × Int)) × Int × Int × (List (List UInt8)) × Unit
noncomputable abbrev P8 := (List (List UInt8)) × Int × (List (Int × Int × Int × Int)) × Int × Int × (List (List UInt8)) × Int × Int × Int × Int × Unit
noncomputable abbrev rs : List ResultVar := [.tmp 4]
noncomputable def F0 (J3 : P3 → Option PO) (Gimpl_NamesValid : impl_NamesValid.PI → Option impl_NamesValid.PO) (Gimpl_TermsValid : impl_TermsValid.PI → Option impl_TermsValid.PO) (x0 : List (List UInt8)) (x1 : List (Int × Int × Int × Int)) : Option PO :=
  Option.bind (Gimpl_NamesValid (x0, ())) fun y0 =>
  bif !y0.1 then
    some ([], ())
  else
    Option.bind (Gimpl_TermsValid (x1, (x0.length : Int), ())) fun y1 =>
    bif !y1.1 then
      some ([], ())
    else
      J3 (x0, x1, ())
noncomputable def F3 (J5 : P5 → Option PO) (t0 : List (List UInt8)) (t1 : List (Int × Int × Int × Int)) : Option PO :=
  bif decide (0 ≤ (t1.length : Int)) && decide ((t1.length : Int) ≤ (t1.length : Int)) && decide ((t1.length : Int) * 16 ≤ 140737488355328) then
    J5 (t0, t1, (t1.length : Int), 0, (List.replicate (t1.length : Int).toNat [] : List (List UInt8)), ())
  else
    none
noncomputable def F5 (J5 : P5 → Option PO) (J8 : P8 → Option PO) (Glib_Itoa : lib_Itoa.PI → Option lib_Itoa.PO) (t0 : List (List UInt8)) (t21 : List (Int × Int × Int × Int)) (t22 : Int) (t23 : Int) (r0 : List (List UInt8)) : Option PO :=
  bif decide (t23 < t22) then
    bif inb t23 t21.length then
      bif (t21.getD t23.toNat (0, 0, 0, 0)).1 == 0 then
        Option.bind (Glib_Itoa ((t21.getD t23.toNat (0, 0, 0, 0)).2.1, ())) fun y2 =>
        bif inb t23 r0.length then
          bif inb t23 (r0.set t23.toNat y2.1).length then
            bif decide ((((r0.set t23.toNat y2.1).getD t23.toNat []).length : Int) > 4000) then
              some ([], ())
            else
              J5 (t0, t21, t22, wI (t23 + 1), r0.set t23.toNat y2.1, ())
          else
            none
        else
          none
      else
        bif (t21.getD t23.toNat (0, 0, 0, 0)).1 == 1 then
          bif inb (t21.getD t23.toNat (0, 0, 0, 0)).2.1 t0.length then
            bif inb t23 r0.length then
              bif inb t23 (r0.set t23.toNat (t0.getD (t21.getD t23.toNat (0, 0, 0, 0)).2.1.toNat [])).length then
                bif decide ((((r0.set t23.toNat (t0.getD (t21.getD t23.toNat (0, 0, 0, 0)).2.1.toNat [])).getD t23.toNat []).length : Int) > 4000) then
                  some ([], ())
                else
                  J5 (t0, t21, t22, wI (t23 + 1), r0.set t23.toNat (t0.getD (t21.getD t23.toNat (0, 0, 0, 0)).2.1.toNat []), ())
              else
                none
            else
              none
          else
            none
        else
          bif (t21.getD t23.toNat (0, 0, 0, 0)).1 == 7 then
            bif inb (t21.getD t23.toNat (0, 0, 0, 0)).2.2.1 r0.length then
              bif decide (([33] : List UInt8).length + (r0.getD (t21.getD t23.toNat (0, 0, 0, 0)).2.2.1.toNat []).length ≤ 140737488355328) then
                bif inb t23 r0.length then
                  bif inb t23 (r0.set t23.toNat (([33] : List UInt8) ++ (r0.getD (t21.getD t23.toNat (0, 0, 0, 0)).2.2.1.toNat []))).length then
                    bif decide ((((r0.set t23.toNat (([33] : List UInt8) ++ (r0.getD (t21.getD t23.toNat (0, 0, 0, 0)).2.2.1.toNat []))).getD t23.toNat []).length : Int) > 4000) then
                      some ([], ())
                    else
                      J5 (t0, t21, t22, wI (t23 + 1), r0.set t23.toNat (([33] : List UInt8) ++ (r0.getD (t21.getD t23.toNat (0, 0, 0, 0)).2.2.1.toNat [])), ())
                  else
                    none
                else
                  none
              else
                none
            else
              none
          else
            J8 (t0, t23, t21, t22, t23, r0, (t21.getD t23.toNat (0, 0, 0, 0)).1, (t21.getD t23.toNat (0, 0, 0, 0)).2.1, (t21.getD t23.toNat (0, 0, 0, 0)).2.2.1, (t21.getD t23.toNat (0, 0, 0, 0)).2.2.2, ())
    else
      none
  else
    bif inb (wI ((r0.length : Int) - 1)) r0.length then
      some (r0.getD (wI ((r0.length : Int) - 1)).toNat [], ())
    else
      none
noncomputable def F8 (J5 : P5 → Option PO) (t0 : List (List UInt8)) (t6 : Int) (t21 : List (Int × Int × Int × Int)) (t22 : Int) (t23 : Int) (r0 : List (List UInt8)) (b1_0 : Int) (b1_1 : Int) (b1_2 : Int) (b1_3 : Int) : Option PO :=
  bif inb b1_2 r0.length then
    bif decide (0 ≤ b1_0) && decide (b1_0 ≤ wI (b1_0 + 1)) && decide (wI (b1_0 + 1) ≤ (([32, 32, 43, 45, 42, 60, 61, 33, 38, 124] : List UInt8).length : Int)) then
      bif inb b1_3 r0.length then
        bif decide (([40] : List UInt8).length + (r0.getD b1_2.toNat []).length ≤ 140737488355328) then
          bif decide ((([40] : List UInt8) ++ (r0.getD b1_2.toNat [])).length + ([32] : List UInt8).length ≤ 140737488355328) then
            bif decide (((([40] : List UInt8) ++ (r0.getD b1_2.toNat [])) ++ ([32] : List UInt8)).length + ((([32, 32, 43, 45, 42, 60, 61, 33, 38, 124] : List UInt8).take (wI (b1_0 + 1)).toNat).drop b1_0.toNat).length ≤ 140737488355328) then
              bif decide ((((([40] : List UInt8) ++ (r0.getD b1_2.toNat [])) ++ ([32] : List UInt8)) ++ ((([32, 32, 43, 45, 42, 60, 61, 33, 38, 124] : List UInt8).take (wI (b1_0 + 1)).toNat).drop b1_0.toNat)).length + ([32] : List UInt8).length ≤ 140737488355328) then
                bif decide (((((([40] : List UInt8) ++ (r0.getD b1_2.toNat [])) ++ ([32] : List UInt8)) ++ ((([32, 32, 43, 45, 42, 60, 61, 33, 38, 124] : List UInt8).take (wI (b1_0 + 1)).toNat).drop b1_0.toNat)) ++ ([32] : List UInt8)).length + (r0.getD b1_3.toNat []).length ≤ 140737488355328) then
                  bif decide ((((((([40] : List UInt8) ++ (r0.getD b1_2.toNat [])) ++ ([32] : List UInt8)) ++ ((([32, 32, 43, 45, 42, 60, 61, 33, 38, 124] : List UInt8).take (wI (b1_0 + 1)).toNat).drop b1_0.toNat)) ++ ([32] : List UInt8)) ++ (r0.getD b1_3.toNat [])).length + ([41] : List UInt8).length ≤ 140737488355328) then
                    bif inb t6 r0.length then
                      bif inb t6 (r0.set t6.toNat ((((((([40] : List UInt8) ++ (r0.getD b1_2.toNat [])) ++ ([32] : List UInt8)) ++ ((([32, 32, 43, 45, 42, 60, 61, 33, 38, 124] : List UInt8).take (wI (b1_0 + 1)).toNat).drop b1_0.toNat)) ++ ([32] : List UInt8)) ++ (r0.getD b1_3.toNat [])) ++ ([41] : List UInt8))).length then
                        bif decide ((((r0.set t6.toNat ((((((([40] : List UInt8) ++ (r0.getD b1_2.toNat [])) ++ ([32] : List UInt8)) ++ ((([32, 32, 43, 45, 42, 60, 61, 33, 38, 124] : List UInt8).take (wI (b1_0 + 1)).toNat).drop b1_0.toNat)) ++ ([32] : List UInt8)) ++ (r0.getD b1_3.toNat [])) ++ ([41] : List UInt8))).getD t6.toNat []).length : Int) > 4000) then
                          some ([], ())
                        else
                          J5 (t0, t21, t22, wI (t23 + 1), r0.set t6.toNat ((((((([40] : List UInt8) ++ (r0.getD b1_2.toNat [])) ++ ([32] : List UInt8)) ++ ((([32, 32, 43, 45, 42, 60, 61, 33, 38, 124] : List UInt8).take (wI (b1_0 + 1)).toNat).drop b1_0.toNat)) ++ ([32] : List UInt8)) ++ (r0.getD b1_3.toNat [])) ++ ([41] : List UInt8)), ())
                      else
                        none
                    else
                      none
                  else
                    none
                else
                  none
              else
                none
            else
              none
          else
            none
        else
          none
      else
        none
    else
      none
  else
    none
noncomputable def hd {R : Type} (Gimpl_NamesValid : impl_NamesValid.PI → Option impl_NamesValid.PO) (Gimpl_TermsValid : impl_TermsValid.PI → Option impl_TermsValid.PO) (Glib_Itoa : lib_Itoa.PI → Option lib_Itoa.PO) : Hand R := (handAt 80 [15] true ⟨2, 1, 2, impl_TermsValid.pin, impl_TermsValid.pout, Gimpl_TermsValid⟩ (handAt 63 [61] true ⟨1, 1, 0, lib_Itoa.pin, lib_Itoa.pout, Glib_Itoa⟩ (handAt 14 [9] true ⟨1, 1, 1, impl_NamesValid.pin, impl_NamesValid.pout, Gimpl_NamesValid⟩ handNil)))
noncomputable def pg (Gimpl_NamesValid : impl_NamesValid.PI → Option impl_NamesValid.PO) (Gimpl_TermsValid : impl_TermsValid.PI → Option impl_TermsValid.PO) (Glib_Itoa : lib_Itoa.PI → Option lib_Itoa.PO) (J3 : List Item → P3 → Option PO) (J5 : List Item → P5 → Option PO) (J8 : List Item → P8 → Option PO) : Prog PO := { nt := 97, np := 2, tb := tabOf tab, hd := hd Gimpl_NamesValid Gimpl_TermsValid Glib_Itoa, cuts := cutsOf [(3, cut p3 J3), (5, cut p5 J5), (8, cut p8 J8)], fin := endOf (tabOf tab) rs 2 pout }
noncomputable def q : FuncId → Bool := fun f => hasId [14, 63, 80] f
theorem seg0 (Gimpl_NamesValid : impl_NamesValid.PI → Option impl_NamesValid.PO) (Gimpl_TermsValid : impl_TermsValid.PI → Option impl_TermsValid.PO) (Glib_Itoa : lib_Itoa.PI → Option lib_Itoa.PO) (J3 : List Item → P3 → Option PO) (J5 : List Item → P5 → Option PO) (J8 : List Item → P8 → Option PO) (x0 : List (List UInt8)) (x1 : List (Int × Int × Int × Int)) : arun (pg Gimpl_NamesValid Gimpl_TermsValid Glib_Itoa J3 J5 J8) 5000 [.code c0] (mk pin (x0, x1, ())) = F0 (J3 T3) Gimpl_NamesValid Gimpl_TermsValid x0 x1 := by kernel_rfl
theorem seg3 (Gimpl_NamesValid : impl_NamesValid.PI → Option impl_NamesValid.PO) (Gimpl_TermsValid : impl_TermsValid.PI → Option impl_TermsValid.PO) (Glib_Itoa : lib_Itoa.PI → Option lib_Itoa.PO) (J3 : List Item → P3 → Option PO) (J5 : List Item → P5 → Option PO) (J8 : List Item → P8 → Option PO) (t0 : List (List UInt8)) (t1 : List (Int × Int × Int × Int)) : arun1 (pg Gimpl_NamesValid Gimpl_TermsValid Glib_Itoa J3 J5 J8) 5000 T3 (mk p3 (t0, t1, ())) = F3 (J5 T5) t0 t1 := by kernel_rfl
theorem seg5 (Gimpl_NamesValid : impl_NamesValid.PI → Option impl_NamesValid.PO) (Gimpl_TermsValid : impl_TermsValid.PI → Option impl_TermsValid.PO) (Glib_Itoa : lib_Itoa.PI → Option lib_Itoa.PO) (J3 : List Item → P3 → Option PO) (J5 : List Item → P5 → Option PO) (J8 : List Item → P8 → Option PO) (t0 : List (List UInt8)) (t21 : List (Int × Int × Int × Int)) (t22 : Int) (t23 : Int) (r0 : List (List UInt8)) : arun1 (pg Gimpl_NamesValid Gimpl_TermsValid Glib_Itoa J3 J5 J8) 5000 T5 (mk p5 (t0, t21, t22, t23, r0, ())) = F5 (J5 T5) (J8 T8) Glib_Itoa t0 t21 t22 t23 r0 := by kernel_rfl
theorem seg8 (Gimpl_NamesValid : impl_NamesValid.PI → Option impl_NamesValid.PO) (Gimpl_TermsValid : impl_TermsValid.PI → Option impl_TermsValid.PO) (Glib_Itoa : lib_Itoa.PI → Option lib_Itoa.PO) (J3 : List Item → P3 → Option PO) (J5 : List Item → P5 → Option PO) (J8 : List Item → P8 → Option PO) (t0 : List (List UInt8)) (t6 : Int) (t21 : List (Int × Int × Int × Int)) (t22 : Int) (t23 : Int) (r0 : List (List UInt8)) (b1_0 : Int) (b1_1 : Int) (b1_2 : Int) (b1_3 : Int) : arunQ (pg Gimpl_NamesValid Gimpl_TermsValid Glib_Itoa J3 J5 J8) q [3000000] [6, 21] 5000 T8 (mk p8 (t0, t6, t21, t22, t23, r0, b1_0, b1_1, b1_2, b1_3, ())) = List.replicate (arunQ (pg Gimpl_NamesValid Gimpl_TermsValid Glib_Itoa J3 J5 J8) q [3000000] [6, 21] 5000 T8 (mk p8 (t0, t6, t21, t22, t23, r0, b1_0, b1_1, b1_2, b1_3, ()))).length (F8 (J5 T5) t0 t6 t21 t22 t23 r0 b1_0 b1_1 b1_2 b1_3) := by kernel_rfl
noncomputable def L8 (J5 : P5 → Option PO) : P8 → Option PO := fun x => F8 J5 x.1 x.2.1 x.2.2.1 x.2.2.2.1 x.2.2.2.2.1 x.2.2.2.2.2.1 x.2.2.2.2.2.2.1 x.2.2.2.2.2.2.2.1 x.2.2.2.2.2.2.2.2.1 x.2.2.2.2.2.2.2.2.2.1
noncomputable def L5 : P5 → Option PO := lfp fun J5 x => F5 J5 (L8 J5) lib_Itoa.impl x.1 x.2.1 x.2.2.1 x.2.2.2.1 x.2.2.2.2.1
noncomputable def L3 : P3 → Option PO := fun x => F3 L5 x.1 x.2.1
noncomputable def impl : PI → Option PO := fun x => F0 L3 impl_NamesValid.impl impl_TermsValid.impl x.1 x.2.1
theorem F8_le {J5 J5' : P5 → Option PO} (h5 : OLe J5 J5') (t0 : List (List UInt8)) (t6 : Int) (t21 : List (Int × Int × Int × Int)) (t22 : Int) (t23 : Int) (r0 : List (List UInt8)) (b1_0 : Int) (b1_1 : Int) (b1_2 : Int) (b1_3 : Int) : OptLe (F8 J5 t0 t6 t21 t22 t23 r0 b1_0 b1_1 b1_2 b1_3) (F8 J5' t0 t6 t21 t22 t23 r0 b1_0 b1_1 b1_2 b1_3) := by unfold F8; exact .cond (.cond (.cond (.cond (.cond (.cond (.cond (.cond (.cond (.cond (.cond (.cond (.refl _) (.of h5 _)) (.refl _)) (.refl _)) (.refl _)) (.refl _)) (.refl _)) (.refl _)) (.refl _)) (.refl _)) (.refl _)) (.refl _)) (.refl _)
theorem F5_le {J5 J5' : P5 → Option PO} (h5 : OLe J5 J5') {J8 J8' : P8 → Option PO} (h8 : OLe J8 J8') {Glib_Itoa : lib_Itoa.PI → Option lib_Itoa.PO} (t0 : List (List UInt8)) (t21 : List (Int × Int × Int × Int)) (t22 : Int) (t23 : Int) (r0 : List (List UInt8)) : OptLe (F5 J5 J8 Glib_Itoa t0 t21 t22 t23 r0) (F5 J5' J8' Glib_Itoa t0 t21 t22 t23 r0) := by unfold F5; exact .cond (.cond (.cond (.bind (.refl _) fun _ => .cond (.cond (.cond (.refl _) (.of h5 _)) (.refl _)) (.refl _)) (.cond (.cond (.cond (.cond (.cond (.refl _) (.of h5 _)) (.refl _)) (.refl _)) (.refl _)) (.cond (.cond (.cond (.cond (.cond (.cond (.refl _) (.of h5 _)) (.refl _)) (.refl _)) (.refl _)) (.refl _)) (.of h8 _)))) (.refl _)) (.refl _)
theorem L8_eq (J5 : P5 → Option PO) (t0 : List (List UInt8)) (t6 : Int) (t21 : List (Int × Int × Int × Int)) (t22 : Int) (t23 : Int) (r0 : List (List UInt8)) (b1_0 : Int) (b1_1 : Int) (b1_2 : Int) (b1_3 : Int) : L8 J5 (t0, t6, t21, t22, t23, r0, b1_0, b1_1, b1_2, b1_3, ()) = F8 J5 t0 t6 t21 t22 t23 r0 b1_0 b1_1 b1_2 b1_3 := rfl
theorem L8_le {J5 J5' : P5 → Option PO} (h5 : OLe J5 J5') : OLe (L8 J5) (L8 J5') := fun x => F8_le h5 x.1 x.2.1 x.2.2.1 x.2.2.2.1 x.2.2.2.2.1 x.2.2.2.2.2.1 x.2.2.2.2.2.2.1 x.2.2.2.2.2.2.2.1 x.2.2.2.2.2.2.2.2.1 x.2.2.2.2.2.2.2.2.2.1
theorem L5_mono : OMono fun J5 (x : P5) => F5 J5 (L8 J5) lib_Itoa.impl x.1 x.2.1 x.2.2.1 x.2.2.2.1 x.2.2.2.2.1 := fun J J' h5 x => F5_le h5 (L8_le h5) x.1 x.2.1 x.2.2.1 x.2.2.2.1 x.2.2.2.2.1
theorem L5_eq (t0 : List (List UInt8)) (t21 : List (Int × Int × Int × Int)) (t22 : Int) (t23 : Int) (r0 : List (List UInt8)) : L5 (t0, t21, t22, t23, r0, ()) = F5 (L5) (L8 (L5)) lib_Itoa.impl t0 t21 t22 t23 r0 := congrFun (lfp_eq (L5_mono)) _
theorem L3_eq (t0 : List (List UInt8)) (t1 : List (Int × Int × Int × Int)) : L3 (t0, t1, ()) = F3 (L5) t0 t1 := rfl
theorem impl_eq (x0 : List (List UInt8)) (x1 : List (Int × Int × Int × Int)) : impl (x0, x1, ()) = F0 L3 impl_NamesValid.impl impl_TermsValid.impl x0 x1 := rfl
theorem con : Con Tryd.prog 34 2 rs.length 2 pin pout impl := by
  refine con_of_run' (nt := 97) (c := c0) tabGood Tryd.func34 (by kernel_rfl) (by kernel_rfl) (by kernel_rfl) (by kernel_rfl) (by kernel_rfl) (by kernel_rfl) (by kernel_rfl) ?_
  intro w0 O y hnp
  generalize hPost : (fun (a' : Act) (w' : World) => ∃ μ' S' st', Rel 97 w0 O μ' S' st' a' w' ∧ endOf (tabOf tab) rs 2 pout st' = some y) = Post
  have fin : ∀ (μ : Id → Option Value) (S : Nat → Prop) (st : St) (a : Act) (w : World), Rel 97 w0 O μ S st a w → endOf (tabOf tab) rs 2 pout st = some y → Post a w := fun μ S st a w h he => by rw [← hPost]; exact ⟨μ, S, st, h, he⟩
  have hp : ∀ (J3 : List Item → P3 → Option PO), ∀ (J5 : List Item → P5 → Option PO), ∀ (J8 : List Item → P8 → Option PO), Parts Tryd.prog 34 (pg impl_NamesValid.impl impl_TermsValid.impl lib_Itoa.impl J3 J5 J8) [(3, cut p3 J3), (5, cut p5 J5), (8, cut p8 J8)] := fun J3 J5 J8 => ⟨tab_ok tabGood rfl, (handAt_ok impl_TermsValid.con (handAt_ok lib_Itoa.con (handAt_ok impl_NamesValid.con handNil_ok))), rfl⟩
  have g8 : ∀ (J5 : P5 → Option PO), Good Tryd.prog 97 w0 O Post y T5 p5 J5 → Good Tryd.prog 97 w0 O Post y T8 p8 (L8 J5) := fun J5 h5 => good_quiet (hs := hd impl_NamesValid.impl impl_TermsValid.impl lib_Itoa.impl) (cv' := hd impl_NamesValid.impl impl_TermsValid.impl lib_Itoa.impl) (Checked.mixed Tryd.checked) (hp (atT T3 (fun _ => none)) (atT T5 J5) (atT T8 (fun _ => none))) (handAt_D impl_TermsValid.con (by rfl) rfl (handAt_D lib_Itoa.con (by rfl) rfl (handAt_D impl_NamesValid.con (by rfl) rfl handNil_D))) (handAt_nat (handAt_nat (handAt_nat handNil_nat))) (handAt_nat (handAt_nat (handAt_nat handNil_nat))) (runOK_of (hp (atT T3 (fun _ => none)) (atT T5 J5) (atT T8 (fun _ => none))) hnp ⟨cutOK_at (p := p3) (T := T3) (J := fun _ => none) good_none, cutOK_at h5, cutOK_at (p := p8) (T := T8) (J := fun _ => none) good_none, trivial⟩ fin) (fun x => all_same ⟨_, (seg8 impl_NamesValid.impl impl_TermsValid.impl lib_Itoa.impl (atT T3 (fun _ => none)) (atT T5 J5) (atT T8 (fun _ => none)) x.1 x.2.1 x.2.2.1 x.2.2.2.1 x.2.2.2.2.1 x.2.2.2.2.2.1 x.2.2.2.2.2.2.1 x.2.2.2.2.2.2.2.1 x.2.2.2.2.2.2.2.2.1 x.2.2.2.2.2.2.2.2.2.1).trans (by simp only [atT_self] <;> rfl)⟩)
  have g5 : Good Tryd.prog 97 w0 O Post y T5 p5 L5 := good_lfp fun J5 h5 => good_part (hp (atT T3 (fun _ => none)) (atT T5 J5) (atT T8 (L8 J5))) (runOK_of (hp (atT T3 (fun _ => none)) (atT T5 J5) (atT T8 (L8 J5))) hnp ⟨cutOK_at (p := p3) (T := T3) (J := fun _ => none) good_none, cutOK_at h5, cutOK_at (g8 J5 h5), trivial⟩ fin) (fun x => (seg5 impl_NamesValid.impl impl_TermsValid.impl lib_Itoa.impl (atT T3 (fun _ => none)) (atT T5 J5) (atT T8 (L8 J5)) x.1 x.2.1 x.2.2.1 x.2.2.2.1 x.2.2.2.2.1).trans (by simp only [atT_self] <;> rfl))
  have g3 : Good Tryd.prog 97 w0 O Post y T3 p3 L3 := good_part (hp (atT T3 (fun _ => none)) (atT T5 L5) (atT T8 (fun _ => none))) (runOK_of (hp (atT T3 (fun _ => none)) (atT T5 L5) (atT T8 (fun _ => none))) hnp ⟨cutOK_at (p := p3) (T := T3) (J := fun _ => none) good_none, cutOK_at g5, cutOK_at (p := p8) (T := T8) (J := fun _ => none) good_none, trivial⟩ fin) (fun x => (seg3 impl_NamesValid.impl impl_TermsValid.impl lib_Itoa.impl (atT T3 (fun _ => none)) (atT T5 L5) (atT T8 (fun _ => none)) x.1 x.2.1).trans (by simp only [atT_self] <;> rfl))
  exact good_first (hp (atT T3 L3) (atT T5 (fun _ => none)) (atT T8 (fun _ => none))) (runOK_of (hp (atT T3 L3) (atT T5 (fun _ => none)) (atT T8 (fun _ => none))) hnp ⟨cutOK_at g3, cutOK_at (p := p5) (T := T5) (J := fun _ => none) good_none, cutOK_at (p := p8) (T := T8) (J := fun _ => none) good_none, trivial⟩ fin) (fun x => (seg0 impl_NamesValid.impl impl_TermsValid.impl lib_Itoa.impl (atT T3 L3) (atT T5 (fun _ => none)) (atT T8 (fun _ => none)) x.1 x.2.1).trans (by simp only [atT_self] <;> rfl))
end impl_WriteExpr

/-! ### loop.example/wholecheck/laws.eqStringS -/
namespace laws_eqStringS
noncomputable abbrev c0 : Code := (Tryd.f15.body).getD .skip
noncomputable abbrev pin : Tpl := ⟨[⟨0, false, [.d (.sl .str)]⟩, ⟨1, false, [.d (.sl .str)]⟩], []⟩
noncomputable abbrev pout : Tpl := ⟨[⟨0, false, [.d .bool]⟩], []⟩
noncomputable abbrev p4 : Tpl := ⟨[⟨0, false, [.d (.sl .str)]⟩, ⟨1, false, [.d (.sl .str)]⟩, ⟨5, false, [.d (.int .i64)]⟩], []⟩
noncomputable def T4 : List Item := (find 4 c0 []).getD []
noncomputable abbrev p6 : Tpl := ⟨[⟨0, false, [.d (.sl .str)]⟩, ⟨1, false, [.d (.sl .str)]⟩, ⟨5, false, [.d (.int .i64)]⟩], []⟩
noncomputable def T6 : List Item := (find 6 c0 []).getD []
noncomputable abbrev PI := (List (List UInt8)) × (List (List UInt8)) × Unit
noncomputable abbrev PO := Bool × Unit
noncomputable abbrev P4 := (List (List UInt8)) × (List (List UInt8)) × Int × Unit
noncomputable abbrev P6 := (List (List UInt8)) × (List (List UInt8)) × Int × Unit
noncomputable abbrev rs : List ResultVar := [.tmp 4]
noncomputable def F0 (J4 : P4 → Option PO) (x0 : List (List UInt8)) (x1 : List (List UInt8)) : Option PO :=
  bif (x0.length : Int) != (x1.length : Int) then
    some (false, ())
  else
    J4 (x0, x1, 0, ())
noncomputable def F4 (J6 : P6 → Option PO) (t0 : List (List UInt8)) (t1 : List (List UInt8)) (t5 : Int) : Option PO :=
  bif decide (t5 < (t0.length : Int)) then
    J6 (t0, t1, t5, ())
  else
    some (true, ())
noncomputable def F6 (J4 : P4 → Option PO) (t0 : List (List UInt8)) (t1 : List (List UInt8)) (t5 : Int) : Option PO :=
  bif inb t5 t0.length then
    bif inb t5 t1.length then
      bif !((t0.getD t5.toNat []) == (t1.getD t5.toNat [])) then
        some (false, ())
      else
        J4 (t0, t1, wI (t5 + 1), ())
    else
      none
  else
    none
noncomputable def hd {R : Type} : Hand R := handNil
noncomputable def pg (J4 : List Item → P4 → Option PO) (J6 : List Item → P6 → Option PO) : Prog PO := { nt := 26, np := 2, tb := tabOf tab, hd := hd, cuts := cutsOf [(4, cut p4 J4), (6, cut p6 J6)], fin := endOf (tabOf tab) rs 2 pout }
noncomputable def q : FuncId → Bool := fun f => hasId [] f
theorem seg0 (J4 : List Item → P4 → Option PO) (J6 : List Item → P6 → Option PO) (x0 : List (List UInt8)) (x1 : List (List UInt8)) : arun (pg J4 J6) 5000 [.code c0] (mk pin (x0, x1, ())) = F0 (J4 T4) x0 x1 := by kernel_rfl
theorem seg4 (J4 : List Item → P4 → Option PO) (J6 : List Item → P6 → Option PO) (t0 : List (List UInt8)) (t1 : List (List UInt8)) (t5 : Int) : arun1 (pg J4 J6) 5000 T4 (mk p4 (t0, t1, t5, ())) = F4 (J6 T6) t0 t1 t5 := by kernel_rfl
theorem seg6 (J4 : List Item → P4 → Option PO) (J6 : List Item → P6 → Option PO) (t0 : List (List UInt8)) (t1 : List (List UInt8)) (t5 : Int) : arunQ (pg J4 J6) q [] [] 5000 T6 (mk p6 (t0, t1, t5, ())) = List.replicate (arunQ (pg J4 J6) q [] [] 5000 T6 (mk p6 (t0, t1, t5, ()))).length (F6 (J4 T4) t0 t1 t5) := by kernel_rfl
noncomputable def L6 (J4 : P4 → Option PO) : P6 → Option PO := fun x => F6 J4 x.1 x.2.1 x.2.2.1
noncomputable def L4 : P4 → Option PO := lfp fun J4 x => F4 (L6 J4) x.1 x.2.1 x.2.2.1
noncomputable def impl : PI → Option PO := fun x => F0 L4 x.1 x.2.1
theorem F6_le {J4 J4' : P4 → Option PO} (h4 : OLe J4 J4') (t0 : List (List UInt8)) (t1 : List (List UInt8)) (t5 : Int) : OptLe (F6 J4 t0 t1 t5) (F6 J4' t0 t1 t5) := by unfold F6; exact .cond (.cond (.cond (.refl _) (.of h4 _)) (.refl _)) (.refl _)
theorem F4_le {J6 J6' : P6 → Option PO} (h6 : OLe J6 J6') (t0 : List (List UInt8)) (t1 : List (List UInt8)) (t5 : Int) : OptLe (F4 J6 t0 t1 t5) (F4 J6' t0 t1 t5) := by unfold F4; exact .cond (.of h6 _) (.refl _)
theorem L6_eq (J4 : P4 → Option PO) (t0 : List (List UInt8)) (t1 : List (List UInt8)) (t5 : Int) : L6 J4 (t0, t1, t5, ()) = F6 J4 t0 t1 t5 := rfl
theorem L6_le {J4 J4' : P4 → Option PO} (h4 : OLe J4 J4') : OLe (L6 J4) (L6 J4') := fun x => F6_le h4 x.1 x.2.1 x.2.2.1
theorem L4_mono : OMono fun J4 (x : P4) => F4 (L6 J4) x.1 x.2.1 x.2.2.1 := fun J J' h4 x => F4_le (L6_le h4) x.1 x.2.1 x.2.2.1
theorem L4_eq (t0 : List (List UInt8)) (t1 : List (List UInt8)) (t5 : Int) : L4 (t0, t1, t5, ()) = F4 (L6 (L4)) t0 t1 t5 := congrFun (lfp_eq (L4_mono)) _
theorem impl_eq (x0 : List (List UInt8)) (x1 : List (List UInt8)) : impl (x0, x1, ()) = F0 L4 x0 x1 := rfl
theorem con : Con Tryd.prog 15 2 rs.length 2 pin pout impl := by
  refine con_of_run' (nt := 26) (c := c0) tabGood Tryd.func15 (by kernel_rfl) (by kernel_rfl) (by kernel_rfl) (by kernel_rfl) (by kernel_rfl) (by kernel_rfl) (by kernel_rfl) ?_
  intro w0 O y hnp
  generalize hPost : (fun (a' : Act) (w' : World) => ∃ μ' S' st', Rel 26 w0 O μ' S' st' a' w' ∧ endOf (tabOf tab) rs 2 pout st' = some y) = Post
  have fin : ∀ (μ : Id → Option Value) (S : Nat → Prop) (st : St) (a : Act) (w : World), Rel 26 w0 O μ S st a w → endOf (tabOf tab) rs 2 pout st = some y → Post a w := fun μ S st a w h he => by rw [← hPost]; exact ⟨μ, S, st, h, he⟩
  have hp : ∀ (J4 : List Item → P4 → Option PO), ∀ (J6 : List Item → P6 → Option PO), Parts Tryd.prog 15 (pg J4 J6) [(4, cut p4 J4), (6, cut p6 J6)] := fun J4 J6 => ⟨tab_ok tabGood rfl, handNil_ok, rfl⟩
  have g6 : ∀ (J4 : P4 → Option PO), Good Tryd.prog 26 w0 O Post y T4 p4 J4 → Good Tryd.prog 26 w0 O Post y T6 p6 (L6 J4) := fun J4 h4 => good_quiet (hs := hd) (cv' := hd) (Checked.mixed Tryd.checked) (hp (atT T4 J4) (atT T6 (fun _ => none))) handNil_D handNil_nat handNil_nat (runOK_of (hp (atT T4 J4) (atT T6 (fun _ => none))) hnp ⟨cutOK_at h4, cutOK_at (p := p6) (T := T6) (J := fun _ => none) good_none, trivial⟩ fin) (fun x => all_same ⟨_, (seg6 (atT T4 J4) (atT T6 (fun _ => none)) x.1 x.2.1 x.2.2.1).trans (by simp only [atT_self] <;> rfl)⟩)
  have g4 : Good Tryd.prog 26 w0 O Post y T4 p4 L4 := good_lfp fun J4 h4 => good_part (hp (atT T4 (fun _ => none)) (atT T6 (L6 J4))) (runOK_of (hp (atT T4 (fun _ => none)) (atT T6 (L6 J4))) hnp ⟨cutOK_at (p := p4) (T := T4) (J := fun _ => none) good_none, cutOK_at (g6 J4 h4), trivial⟩ fin) (fun x => (seg4 (atT T4 (fun _ => none)) (atT T6 (L6 J4)) x.1 x.2.1 x.2.2.1).trans (by simp only [atT_self] <;> rfl))
  exact good_first (hp (atT T4 L4) (atT T6 (fun _ => none))) (runOK_of (hp (atT T4 L4) (atT T6 (fun _ => none))) hnp ⟨cutOK_at g4, cutOK_at (p := p6) (T := T6) (J := fun _ => none) good_none, trivial⟩ fin) (fun x => (seg0 (atT T4 L4) (atT T6 (fun _ => none)) x.1 x.2.1).trans (by simp only [atT_self] <;> rfl))
end laws_eqStringS

/-! ### loop.example/wholecheck/laws.eqTerm -/
namespace laws_eqTerm
noncomputable abbrev c0 : Code := (Tryd.f81.body).getD .skip
noncomputable abbrev pin : Tpl := ⟨[⟨0, true, [.d (.prod (.int .i64) (.prod (.int .i64) (.prod (.int .i64) (.last (.int .i64)))))]⟩, ⟨1, true, [.d (.prod (.int .i64) (.prod (.int .i64) (.prod (.int .i64) (.last (.int .i64)))))]⟩], []⟩
noncomputable abbrev pout : Tpl := ⟨[⟨0, false, [.d .bool]⟩], []⟩
noncomputable abbrev PI := (Int × Int × Int × Int) × (Int × Int × Int × Int) × Unit
noncomputable abbrev PO := Bool × Unit
noncomputable abbrev rs : List ResultVar := [.tmp 4]
noncomputable def F0 (x0 : Int × Int × Int × Int) (x1 : Int × Int × Int × Int) : Option PO :=
  bif x0.1 != x1.1 then
    some (false, ())
  else
    bif x0.2.1 != x1.2.1 then
      some (false, ())
    else
      bif x0.2.2.1 != x1.2.2.1 then
        some (false, ())
      else
        bif x0.2.2.2 != x1.2.2.2 then
          some (false, ())
        else
          some (true, ())
noncomputable def hd {R : Type} : Hand R := handNil
noncomputable def pg : Prog PO := { nt := 25, np := 2, tb := tabOf tab, hd := hd, cuts := cutsOf [], fin := endOf (tabOf tab) rs 2 pout }
noncomputable def q : FuncId → Bool := fun f => hasId [] f
theorem seg0 (x0 : Int × Int × Int × Int) (x1 : Int × Int × Int × Int) : arun (pg) 5000 [.code c0] (mk pin (x0, x1, ())) = F0 x0 x1 := by kernel_rfl
noncomputable def impl : PI → Option PO := fun x => F0 x.1 x.2.1
theorem impl_eq (x0 : Int × Int × Int × Int) (x1 : Int × Int × Int × Int) : impl (x0, x1, ()) = F0 x0 x1 := rfl
theorem con : Con Tryd.prog 81 2 rs.length 2 pin pout impl := by
  refine con_of_run' (nt := 25) (c := c0) tabGood Tryd.func81 (by kernel_rfl) (by kernel_rfl) (by kernel_rfl) (by kernel_rfl) (by kernel_rfl) (by kernel_rfl) (by kernel_rfl) ?_
  intro w0 O y hnp
  generalize hPost : (fun (a' : Act) (w' : World) => ∃ μ' S' st', Rel 25 w0 O μ' S' st' a' w' ∧ endOf (tabOf tab) rs 2 pout st' = some y) = Post
  have fin : ∀ (μ : Id → Option Value) (S : Nat → Prop) (st : St) (a : Act) (w : World), Rel 25 w0 O μ S st a w → endOf (tabOf tab) rs 2 pout st = some y → Post a w := fun μ S st a w h he => by rw [← hPost]; exact ⟨μ, S, st, h, he⟩
  have hp : Parts Tryd.prog 81 (pg) [] := ⟨tab_ok tabGood rfl, handNil_ok, rfl⟩
  exact good_first (hp) (runOK_of (hp) hnp trivial fin) (fun x => (seg0 x.1 x.2.1))
end laws_eqTerm

/-! ### loop.example/wholecheck/laws.eqTermS -/
namespace laws_eqTermS
noncomputable abbrev c0 : Code := (Tryd.f35.body).getD .skip
noncomputable abbrev pin : Tpl := ⟨[⟨0, false, [.d (.sl (.prod (.int .i64) (.prod (.int .i64) (.prod (.int .i64) (.last (.int .i64))))))]⟩, ⟨1, false, [.d (.sl (.prod (.int .i64) (.prod (.int .i64) (.prod (.int .i64) (.last (.int .i64))))))]⟩], []⟩
noncomputable abbrev pout : Tpl := ⟨[⟨0, false, [.d .bool]⟩], []⟩
noncomputable abbrev p4 : Tpl := ⟨[⟨0, false, [.d (.sl (.prod (.int .i64) (.prod (.int .i64) (.prod (.int .i64) (.last (.int .i64))))))]⟩, ⟨1, false, [.d (.sl (.prod (.int .i64) (.prod (.int .i64) (.prod (.int .i64) (.last (.int .i64))))))]⟩, ⟨5, false, [.d (.int .i64)]⟩], []⟩
noncomputable def T4 : List Item := (find 4 c0 []).getD []
noncomputable abbrev p6 : Tpl := ⟨[⟨0, false, [.d (.sl (.prod (.int .i64) (.prod (.int .i64) (.prod (.int .i64) (.last (.int .i64))))))]⟩, ⟨1, false, [.d (.sl (.prod (.int .i64) (.prod (.int .i64) (.prod (.int .i64) (.last (.int .i64))))))]⟩, ⟨5, false, [.d (.int .i64)]⟩], []⟩
noncomputable def T6 : List Item := (find 6 c0 []).getD []
noncomputable abbrev PI := (List (Int × Int × Int × Int)) × (List (Int × Int × Int × Int)) × Unit
noncomputable abbrev PO := Bool × Unit
noncomputable abbrev P4 := (List (Int × Int × Int × Int)) × (List (Int × Int × Int × Int)) × Int × Unit
noncomputable abbrev P6 := (List (Int × Int × Int × Int)) × (List (Int × Int × Int × Int)) × Int × Unit
noncomputable abbrev rs : List ResultVar := [.tmp 4]
noncomputable def F0 (J4 : P4 → Option PO) (x0 : List (Int × Int × Int × Int)) (x1 : List (Int × Int × Int × Int)) : Option PO :=
  bif (x0.length : Int) != (x1.length : Int) then
    some (false, ())
  else
    J4 (x0, x1, 0, ())
noncomputable def F4 (J6 : P6 → Option PO) (t0 : List (Int × Int × Int × Int)) (t1 : List (Int × Int × Int × Int)) (t5 : Int) : Option PO :=
  bif decide (t5 < (t0.length : Int)) then
    J6 (t0, t1, t5, ())
  else
    some (true, ())
noncomputable def F6 (J4 : P4 → Option PO) (Glaws_eqTerm : laws_eqTerm.PI → Option laws_eqTerm.PO) (t0 : List (Int × Int × Int × Int)) (t1 : List (Int × Int × Int × Int)) (t5 : Int) : Option PO :=
  bif inb t5 t0.length then
    bif inb t5 t1.length then
      Option.bind (Glaws_eqTerm (t0.getD t5.toNat (0, 0, 0, 0), t1.getD t5.toNat (0, 0, 0, 0), ())) fun y0 =>
      bif !y0.1 then
        some (false, ())
      else
        J4 (t0, t1, wI (t5 + 1), ())
    else
      none
  else
    none
noncomputable def hd {R : Type} (Glaws_eqTerm : laws_eqTerm.PI → Option laws_eqTerm.PO) : Hand R := (handAt 81 [25] true ⟨2, 1, 2, laws_eqTerm.pin, laws_eqTerm.pout, Glaws_eqTerm⟩ handNil)
noncomputable def pg (Glaws_eqTerm : laws_eqTerm.PI → Option laws_eqTerm.PO) (J4 : List Item → P4 → Option PO) (J6 : List Item → P6 → Option PO) : Prog PO := { nt := 27, np := 2, tb := tabOf tab, hd := hd Glaws_eqTerm, cuts := cutsOf [(4, cut p4 J4), (6, cut p6 J6)], fin := endOf (tabOf tab) rs 2 pout }
noncomputable def q : FuncId → Bool := fun f => hasId [81] f
theorem seg0 (Glaws_eqTerm : laws_eqTerm.PI → Option laws_eqTerm.PO) (J4 : List Item → P4 → Option PO) (J6 : List Item → P6 → Option PO) (x0 : List (Int × Int × Int × Int)) (x1 : List (Int × Int × Int × Int)) : arun (pg Glaws_eqTerm J4 J6) 5000 [.code c0] (mk pin (x0, x1, ())) = F0 (J4 T4) x0 x1 := by kernel_rfl
theorem seg4 (Glaws_eqTerm : laws_eqTerm.PI → Option laws_eqTerm.PO) (J4 : List Item → P4 → Option PO) (J6 : List Item → P6 → Option PO) (t0 : List (Int × Int × Int × Int)) (t1 : List (Int × Int × Int × Int)) (t5 : Int) : arun1 (pg Glaws_eqTerm J4 J6) 5000 T4 (mk p4 (t0, t1, t5, ())) = F4 (J6 T6) t0 t1 t5 := by kernel_rfl
theorem seg6 (Glaws_eqTerm : laws_eqTerm.PI → Option laws_eqTerm.PO) (J4 : List Item → P4 → Option PO) (J6 : List Item → P6 → Option PO) (t0 : List (Int × Int × Int × Int)) (t1 : List (Int × Int × Int × Int)) (t5 : Int) : arunQ (pg Glaws_eqTerm J4 J6) q [] [] 5000 T6 (mk p6 (t0, t1, t5, ())) = List.replicate (arunQ (pg Glaws_eqTerm J4 J6) q [] [] 5000 T6 (mk p6 (t0, t1, t5, ()))).length (F6 (J4 T4) Glaws_eqTerm t0 t1 t5) := by kernel_rfl
noncomputable def L6 (J4 : P4 → Option PO) : P6 → Option PO := fun x => F6 J4 laws_eqTerm.impl x.1 x.2.1 x.2.2.1
noncomputable def L4 : P4 → Option PO := lfp fun J4 x => F4 (L6 J4) x.1 x.2.1 x.2.2.1
noncomputable def impl : PI → Option PO := fun x => F0 L4 x.1 x.2.1
theorem F6_le {J4 J4' : P4 → Option PO} (h4 : OLe J4 J4') {Glaws_eqTerm : laws_eqTerm.PI → Option laws_eqTerm.PO} (t0 : List (Int × Int × Int × Int)) (t1 : List (Int × Int × Int × Int)) (t5 : Int) : OptLe (F6 J4 Glaws_eqTerm t0 t1 t5) (F6 J4' Glaws_eqTerm t0 t1 t5) := by unfold F6; exact .cond (.cond (.bind (.refl _) fun _ => .cond (.refl _) (.of h4 _)) (.refl _)) (.refl _)
theorem F4_le {J6 J6' : P6 → Option PO} (h6 : OLe J6 J6') (t0 : List (Int × Int × Int × Int)) (t1 : List (Int × Int × Int × Int)) (t5 : Int) : OptLe (F4 J6 t0 t1 t5) (F4 J6' t0 t1 t5) := by unfold F4; exact .cond (.of h6 _) (.refl _)
theorem L6_eq (J4 : P4 → Option PO) (t0 : List (Int × Int × Int × Int)) (t1 : List (Int × Int × Int × Int)) (t5 : Int) : L6 J4 (t0, t1, t5, ()) = F6 J4 laws_eqTerm.impl t0 t1 t5 := rfl
theorem L6_le {J4 J4' : P4 → Option PO} (h4 : OLe J4 J4') : OLe (L6 J4) (L6 J4') := fun x => F6_le h4 x.1 x.2.1 x.2.2.1
theorem L4_mono : OMono fun J4 (x : P4) => F4 (L6 J4) x.1 x.2.1 x.2.2.1 := fun J J' h4 x => F4_le (L6_le h4) x.1 x.2.1 x.2.2.1
theorem L4_eq (t0 : List (Int × Int × Int × Int)) (t1 : List (Int × Int × Int × Int)) (t5 : Int) : L4 (t0, t1, t5, ()) = F4 (L6 (L4)) t0 t1 t5 := congrFun (lfp_eq (L4_mono)) _
theorem impl_eq (x0 : List (Int × Int × Int × Int)) (x1 : List (Int × Int × Int × Int)) : impl (x0, x1, ()) = F0 L4 x0 x1 := rfl
theorem con : Con Tryd.prog 35 2 rs.length 2 pin pout impl := by
  refine con_of_run' (nt := 27) (c := c0) tabGood Tryd.func35 (by kernel_rfl) (by kernel_rfl) (by kernel_rfl) (by kernel_rfl) (by kernel_rfl) (by kernel_rfl) (by kernel_rfl) ?_
  intro w0 O y hnp
  generalize hPost : (fun (a' : Act) (w' : World) => ∃ μ' S' st', Rel 27 w0 O μ' S' st' a' w' ∧ endOf (tabOf tab) rs 2 pout st' = some y) = Post
  have fin : ∀ (μ : Id → Option Value) (S : Nat → Prop) (st : St) (a : Act) (w : World), Rel 27 w0 O μ S st a w → endOf (tabOf tab) rs 2 pout st = some y → Post a w := fun μ S st a w h he => by rw [← hPost]; exact ⟨μ, S, st, h, he⟩
  have hp : ∀ (J4 : List Item → P4 → Option PO), ∀ (J6 : List Item → P6 → Option PO), Parts Tryd.prog 35 (pg laws_eqTerm.impl J4 J6) [(4, cut p4 J4), (6, cut p6 J6)] := fun J4 J6 => ⟨tab_ok tabGood rfl, (handAt_ok laws_eqTerm.con handNil_ok), rfl⟩
  have g6 : ∀ (J4 : P4 → Option PO), Good Tryd.prog 27 w0 O Post y T4 p4 J4 → Good Tryd.prog 27 w0 O Post y T6 p6 (L6 J4) := fun J4 h4 => good_quiet (hs := hd laws_eqTerm.impl) (cv' := hd laws_eqTerm.impl) (Checked.mixed Tryd.checked) (hp (atT T4 J4) (atT T6 (fun _ => none))) (handAt_D laws_eqTerm.con (by rfl) rfl handNil_D) (handAt_nat handNil_nat) (handAt_nat handNil_nat) (runOK_of (hp (atT T4 J4) (atT T6 (fun _ => none))) hnp ⟨cutOK_at h4, cutOK_at (p := p6) (T := T6) (J := fun _ => none) good_none, trivial⟩ fin) (fun x => all_same ⟨_, (seg6 laws_eqTerm.impl (atT T4 J4) (atT T6 (fun _ => none)) x.1 x.2.1 x.2.2.1).trans (by simp only [atT_self] <;> rfl)⟩)
  have g4 : Good Tryd.prog 27 w0 O Post y T4 p4 L4 := good_lfp fun J4 h4 => good_part (hp (atT T4 (fun _ => none)) (atT T6 (L6 J4))) (runOK_of (hp (atT T4 (fun _ => none)) (atT T6 (L6 J4))) hnp ⟨cutOK_at (p := p4) (T := T4) (J := fun _ => none) good_none, cutOK_at (g6 J4 h4), trivial⟩ fin) (fun x => (seg4 laws_eqTerm.impl (atT T4 (fun _ => none)) (atT T6 (L6 J4)) x.1 x.2.1 x.2.2.1).trans (by simp only [atT_self] <;> rfl))
  exact good_first (hp (atT T4 L4) (atT T6 (fun _ => none))) (runOK_of (hp (atT T4 L4) (atT T6 (fun _ => none))) hnp ⟨cutOK_at g4, cutOK_at (p := p6) (T := T6) (J := fun _ => none) good_none, trivial⟩ fin) (fun x => (seg0 laws_eqTerm.impl (atT T4 L4) (atT T6 (fun _ => none)) x.1 x.2.1).trans (by simp only [atT_self] <;> rfl))
end laws_eqTermS

/-! ### loop.example/wholecheck/laws.FnExactWriteExpr -/
namespace laws_FnExactWriteExpr
noncomputable abbrev c0 : Code := (Tryd.f7.body).getD .skip
noncomputable abbrev pin : Tpl := ⟨[⟨0, false, [.d (.sl .str)]⟩, ⟨1, false, [.d (.sl (.prod (.int .i64) (.prod (.int .i64) (.prod (.int .i64) (.last (.int .i64))))))]⟩], []⟩
noncomputable abbrev pout : Tpl := ⟨[⟨0, false, [.d .bool]⟩], []⟩
noncomputable abbrev PI := (List (List UInt8)) × (List (Int × Int × Int × Int)) × Unit
noncomputable abbrev PO := Bool × Unit
noncomputable abbrev rs : List ResultVar := [.tmp 4]
noncomputable def F0 (Gimpl_WriteExpr : impl_WriteExpr.PI → Option impl_WriteExpr.PO) (Glaws_eqStringS : laws_eqStringS.PI → Option laws_eqStringS.PO) (Glaws_eqTermS : laws_eqTermS.PI → Option laws_eqTermS.PO) (Glaws_szStringS : laws_szStringS.PI → Option laws_szStringS.PO) (Glaws_szTermS : laws_szTermS.PI → Option laws_szTermS.PO) (Glaws_toStringS : laws_toStringS.PI → Option laws_toStringS.PO) (Glaws_toTermS : laws_toTermS.PI → Option laws_toTermS.PO) (Gspec_WriteExpr : spec_WriteExpr.PI → Option spec_WriteExpr.PO) (x0 : List (List UInt8)) (x1 : List (Int × Int × Int × Int)) : Option PO :=
  Option.bind (Glaws_szStringS (x0, 1048576, ())) fun y0 =>
  bif decide (y0.1 < 0) then
    some (true, ())
  else
    Option.bind (Glaws_szTermS (x1, y0.1, ())) fun y1 =>
    bif decide (y1.1 < 0) then
      some (true, ())
    else
      Option.bind (Glaws_toStringS (x0, ())) fun y2 =>
      Option.bind (Glaws_toTermS (x1, ())) fun y3 =>
      Option.bind (Gspec_WriteExpr (y2.1, y3.1, ())) fun y4 =>
      Option.bind (Glaws_toStringS (x0, ())) fun y5 =>
      Option.bind (Glaws_toTermS (x1, ())) fun y6 =>
      Option.bind (Gimpl_WriteExpr (y5.1, y6.1, ())) fun y7 =>
      bif !(y7.1 == y4.1) then
        some (false, ())
      else
        Option.bind (Glaws_toStringS (x0, ())) fun y8 =>
        Option.bind (Glaws_eqStringS (y5.1, y8.1, ())) fun y9 =>
        bif !y9.1 then
          some (false, ())
        else
          Option.bind (Glaws_toTermS (x1, ())) fun y10 =>
          Option.bind (Glaws_eqTermS (y6.1, y10.1, ())) fun y11 =>
          bif !y11.1 then
            some (false, ())
          else
            some (true, ())
noncomputable def hd {R : Type} (Gimpl_WriteExpr : impl_WriteExpr.PI → Option impl_WriteExpr.PO) (Glaws_eqStringS : laws_eqStringS.PI → Option laws_eqStringS.PO) (Glaws_eqTermS : laws_eqTermS.PI → Option laws_eqTermS.PO) (Glaws_szStringS : laws_szStringS.PI → Option laws_szStringS.PO) (Glaws_szTermS : laws_szTermS.PI → Option laws_szTermS.PO) (Glaws_toStringS : laws_toStringS.PI → Option laws_toStringS.PO) (Glaws_toTermS : laws_toTermS.PI → Option laws_toTermS.PO) (Gspec_WriteExpr : spec_WriteExpr.PI → Option spec_WriteExpr.PO) : Hand R := (handAt 35 [43] true ⟨2, 1, 2, laws_eqTermS.pin, laws_eqTermS.pout, Glaws_eqTermS⟩ (handAt 34 [31] true ⟨2, 1, 2, impl_WriteExpr.pin, impl_WriteExpr.pout, Gimpl_WriteExpr⟩ (handAt 33 [23, 28, 42] true ⟨1, 1, 1, laws_toTermS.pin, laws_toTermS.pout, Glaws_toTermS⟩ (handAt 32 [24] true ⟨2, 1, 2, spec_WriteExpr.pin, spec_WriteExpr.pout, Gspec_WriteExpr⟩ (handAt 31 [17] true ⟨2, 1, 1, laws_szTermS.pin, laws_szTermS.pout, Glaws_szTermS⟩ (handAt 15 [38] true ⟨2, 1, 2, laws_eqStringS.pin, laws_eqStringS.pout, Glaws_eqStringS⟩ (handAt 13 [21, 26, 37] true ⟨1, 1, 1, laws_toStringS.pin, laws_toStringS.pout, Glaws_toStringS⟩ (handAt 11 [12] true ⟨2, 1, 1, laws_szStringS.pin, laws_szStringS.pout, Glaws_szStringS⟩ handNil))))))))
noncomputable def pg (Gimpl_WriteExpr : impl_WriteExpr.PI → Option impl_WriteExpr.PO) (Glaws_eqStringS : laws_eqStringS.PI → Option laws_eqStringS.PO) (Glaws_eqTermS : laws_eqTermS.PI → Option laws_eqTermS.PO) (Glaws_szStringS : laws_szStringS.PI → Option laws_szStringS.PO) (Glaws_szTermS : laws_szTermS.PI → Option laws_szTermS.PO) (Glaws_toStringS : laws_toStringS.PI → Option laws_toStringS.PO) (Glaws_toTermS : laws_toTermS.PI → Option laws_toTermS.PO) (Gspec_WriteExpr : spec_WriteExpr.PI → Option spec_WriteExpr.PO) : Prog PO := { nt := 45, np := 2, tb := tabOf tab, hd := hd Gimpl_WriteExpr Glaws_eqStringS Glaws_eqTermS Glaws_szStringS Glaws_szTermS Glaws_toStringS Glaws_toTermS Gspec_WriteExpr, cuts := cutsOf [], fin := endOf (tabOf tab) rs 2 pout }
noncomputable def q : FuncId → Bool := fun f => hasId [11, 15, 31, 32, 34, 35] f
theorem seg0 (Gimpl_WriteExpr : impl_WriteExpr.PI → Option impl_WriteExpr.PO) (Glaws_eqStringS : laws_eqStringS.PI → Option laws_eqStringS.PO) (Glaws_eqTermS : laws_eqTermS.PI → Option laws_eqTermS.PO) (Glaws_szStringS : laws_szStringS.PI → Option laws_szStringS.PO) (Glaws_szTermS : laws_szTermS.PI → Option laws_szTermS.PO) (Glaws_toStringS : laws_toStringS.PI → Option laws_toStringS.PO) (Glaws_toTermS : laws_toTermS.PI → Option laws_toTermS.PO) (Gspec_WriteExpr : spec_WriteExpr.PI → Option spec_WriteExpr.PO) (x0 : List (List UInt8)) (x1 : List (Int × Int × Int × Int)) : arun (pg Gimpl_WriteExpr Glaws_eqStringS Glaws_eqTermS Glaws_szStringS Glaws_szTermS Glaws_toStringS Glaws_toTermS Gspec_WriteExpr) 5000 [.code c0] (mk pin (x0, x1, ())) = F0 Gimpl_WriteExpr Glaws_eqStringS Glaws_eqTermS Glaws_szStringS Glaws_szTermS Glaws_toStringS Glaws_toTermS Gspec_WriteExpr x0 x1 := by kernel_rfl
noncomputable def impl : PI → Option PO := fun x => F0 impl_WriteExpr.impl laws_eqStringS.impl laws_eqTermS.impl laws_szStringS.impl laws_szTermS.impl laws_toStringS.impl laws_toTermS.impl spec_WriteExpr.impl x.1 x.2.1
theorem impl_eq (x0 : List (List UInt8)) (x1 : List (Int × Int × Int × Int)) : impl (x0, x1, ()) = F0 impl_WriteExpr.impl laws_eqStringS.impl laws_eqTermS.impl laws_szStringS.impl laws_szTermS.impl laws_toStringS.impl laws_toTermS.impl spec_WriteExpr.impl x0 x1 := rfl
theorem con : Con Tryd.prog 7 2 rs.length 2 pin pout impl := by
  refine con_of_run' (nt := 45) (c := c0) tabGood Tryd.func7 (by kernel_rfl) (by kernel_rfl) (by kernel_rfl) (by kernel_rfl) (by kernel_rfl) (by kernel_rfl) (by kernel_rfl) ?_
  intro w0 O y hnp
  generalize hPost : (fun (a' : Act) (w' : World) => ∃ μ' S' st', Rel 45 w0 O μ' S' st' a' w' ∧ endOf (tabOf tab) rs 2 pout st' = some y) = Post
  have fin : ∀ (μ : Id → Option Value) (S : Nat → Prop) (st : St) (a : Act) (w : World), Rel 45 w0 O μ S st a w → endOf (tabOf tab) rs 2 pout st = some y → Post a w := fun μ S st a w h he => by rw [← hPost]; exact ⟨μ, S, st, h, he⟩
  have hp : Parts Tryd.prog 7 (pg impl_WriteExpr.impl laws_eqStringS.impl laws_eqTermS.impl laws_szStringS.impl laws_szTermS.impl laws_toStringS.impl laws_toTermS.impl spec_WriteExpr.impl) [] := ⟨tab_ok tabGood rfl, (handAt_ok laws_eqTermS.con (handAt_ok impl_WriteExpr.con (handAt_ok laws_toTermS.con (handAt_ok spec_WriteExpr.con (handAt_ok laws_szTermS.con (handAt_ok laws_eqStringS.con (handAt_ok laws_toStringS.con (handAt_ok laws_szStringS.con handNil_ok)))))))), rfl⟩
  exact good_first (hp) (runOK_of (hp) hnp trivial fin) (fun x => (seg0 impl_WriteExpr.impl laws_eqStringS.impl laws_eqTermS.impl laws_szStringS.impl laws_szTermS.impl laws_toStringS.impl laws_toTermS.impl spec_WriteExpr.impl x.1 x.2.1))
end laws_FnExactWriteExpr
end Go.Proofs.YtambmmpilakgoaaDoorB
