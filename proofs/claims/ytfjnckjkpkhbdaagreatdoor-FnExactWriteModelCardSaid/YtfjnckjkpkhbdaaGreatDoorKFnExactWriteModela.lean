/- PRINTED BY A PROGRAM OF THIS CLAIM'S AUTHOR (wip/gen): functions of the given program, their parts, their contracts. -/
import Derived.Test.YtfjnckjkpkhbdaaGreatDoorB34
import Derived.Test.YtfjnckjkpkhbdaaGreatDoorB40
import Derived.Test.YtfjnckjkpkhbdaaGreatDoorChecked
import Derived.Test.YtfjnckjkpkhbdaaGreatDoorLFnExactWriteModel
set_option linter.unusedVariables false
set_option linter.unusedSimpArgs false
set_option maxRecDepth 100000
namespace Go.Proofs.YtfjnckjkpkhbdaaGreatDoorB
open Go
def tab : Tab := [(3, { kind := .scalar, zero := [.d (.int .i64) (0 : Int)], bytes := 8, data := some (.int .i64), eqf := none }),
  (5, { kind := .scalar, zero := [.d (.int .u8) (0 : Int)], bytes := 1, data := some (.int .u8), eqf := none }),
  (9, { kind := .scalar, zero := [.d .str ([] : List UInt8)], bytes := 16, data := some .str, eqf := none }),
  (22, { kind := .slice 9, zero := [.nilS], bytes := 24, data := some (.sl .str), eqf := none }),
  (23, { kind := .slice 168, zero := [.nilS], bytes := 24, data := some (.sl (.prod (.int .i64) (.prod (.int .i64) (.last (.int .i64))))), eqf := none }),
  (24, { kind := .slice 164, zero := [.nilS], bytes := 24, data := some (.sl (.prod (.sl (.prod (.int .i64) (.prod (.int .i64) (.prod (.int .i64) (.last (.int .i64)))))) (.prod (.sl (.int .i64)) (.last (.sl (.sl (.prod (.int .i64) (.prod (.int .i64) (.prod (.int .i64) (.last (.int .i64))))))))))), eqf := none }),
  (26, { kind := .struct [(0, 1), (1, 1)], zero := [.nilS, .nilS], bytes := 48, data := some (.prod (.sl (.prod (.int .i64) (.prod (.int .i64) (.last (.int .i64))))) (.last (.sl (.prod (.sl (.prod (.int .i64) (.prod (.int .i64) (.prod (.int .i64) (.last (.int .i64)))))) (.prod (.sl (.int .i64)) (.last (.sl (.sl (.prod (.int .i64) (.prod (.int .i64) (.prod (.int .i64) (.last (.int .i64))))))))))))), eqf := none }),
  (27, { kind := .slice 131, zero := [.nilS], bytes := 24, data := some (.sl (.sl (.prod (.int .i64) (.prod (.int .i64) (.prod (.int .i64) (.last (.int .i64))))))), eqf := none }),
  (29, { kind := .struct [(0, 1), (1, 2), (3, 1)], zero := [.nilS, .nilS, .nilS, .nilS], bytes := 96, data := some (.prod (.sl .str) (.prod (.prod (.sl (.prod (.int .i64) (.prod (.int .i64) (.last (.int .i64))))) (.last (.sl (.prod (.sl (.prod (.int .i64) (.prod (.int .i64) (.prod (.int .i64) (.last (.int .i64)))))) (.prod (.sl (.int .i64)) (.last (.sl (.sl (.prod (.int .i64) (.prod (.int .i64) (.prod (.int .i64) (.last (.int .i64))))))))))))) (.last (.sl (.sl (.prod (.int .i64) (.prod (.int .i64) (.prod (.int .i64) (.last (.int .i64)))))))))), eqf := none }),
  (32, { kind := .slice 75, zero := [.nilS], bytes := 24, data := some (.sl (.prod (.int .i64) (.prod (.int .i64) (.last (.int .i64))))), eqf := none }),
  (33, { kind := .slice 78, zero := [.nilS], bytes := 24, data := some (.sl (.prod (.sl (.prod (.int .i64) (.prod (.int .i64) (.prod (.int .i64) (.last (.int .i64)))))) (.prod (.sl (.int .i64)) (.last (.sl (.sl (.prod (.int .i64) (.prod (.int .i64) (.prod (.int .i64) (.last (.int .i64))))))))))), eqf := none }),
  (35, { kind := .struct [(0, 1), (1, 1)], zero := [.nilS, .nilS], bytes := 48, data := some (.prod (.sl (.prod (.int .i64) (.prod (.int .i64) (.last (.int .i64))))) (.last (.sl (.prod (.sl (.prod (.int .i64) (.prod (.int .i64) (.prod (.int .i64) (.last (.int .i64)))))) (.prod (.sl (.int .i64)) (.last (.sl (.sl (.prod (.int .i64) (.prod (.int .i64) (.prod (.int .i64) (.last (.int .i64))))))))))))), eqf := none }),
  (36, { kind := .slice 43, zero := [.nilS], bytes := 24, data := some (.sl (.sl (.prod (.int .i64) (.prod (.int .i64) (.prod (.int .i64) (.last (.int .i64))))))), eqf := none }),
  (38, { kind := .struct [(0, 1), (1, 2), (3, 1)], zero := [.nilS, .nilS, .nilS, .nilS], bytes := 96, data := some (.prod (.sl .str) (.prod (.prod (.sl (.prod (.int .i64) (.prod (.int .i64) (.last (.int .i64))))) (.last (.sl (.prod (.sl (.prod (.int .i64) (.prod (.int .i64) (.prod (.int .i64) (.last (.int .i64)))))) (.prod (.sl (.int .i64)) (.last (.sl (.sl (.prod (.int .i64) (.prod (.int .i64) (.prod (.int .i64) (.last (.int .i64))))))))))))) (.last (.sl (.sl (.prod (.int .i64) (.prod (.int .i64) (.prod (.int .i64) (.last (.int .i64)))))))))), eqf := none }),
  (42, { kind := .slice 5, zero := [.nilS], bytes := 24, data := some (.sl (.int .u8)), eqf := none }),
  (43, { kind := .slice 52, zero := [.nilS], bytes := 24, data := some (.sl (.prod (.int .i64) (.prod (.int .i64) (.prod (.int .i64) (.last (.int .i64)))))), eqf := none }),
  (52, { kind := .struct [(0, 1), (1, 1), (2, 1), (3, 1)], zero := [.d (.int .i64) (0 : Int), .d (.int .i64) (0 : Int), .d (.int .i64) (0 : Int), .d (.int .i64) (0 : Int)], bytes := 32, data := some (.prod (.int .i64) (.prod (.int .i64) (.prod (.int .i64) (.last (.int .i64))))), eqf := some [(.int .i64), (.int .i64), (.int .i64), (.int .i64)] }),
  (53, { kind := .slice 3, zero := [.nilS], bytes := 24, data := some (.sl (.int .i64)), eqf := none }),
  (75, { kind := .struct [(0, 1), (1, 1), (2, 1)], zero := [.d (.int .i64) (0 : Int), .d (.int .i64) (0 : Int), .d (.int .i64) (0 : Int)], bytes := 24, data := some (.prod (.int .i64) (.prod (.int .i64) (.last (.int .i64)))), eqf := some [(.int .i64), (.int .i64), (.int .i64)] }),
  (78, { kind := .struct [(0, 1), (1, 1), (2, 1)], zero := [.nilS, .nilS, .nilS], bytes := 72, data := some (.prod (.sl (.prod (.int .i64) (.prod (.int .i64) (.prod (.int .i64) (.last (.int .i64)))))) (.prod (.sl (.int .i64)) (.last (.sl (.sl (.prod (.int .i64) (.prod (.int .i64) (.prod (.int .i64) (.last (.int .i64)))))))))), eqf := none }),
  (84, { kind := .bld 5, zero := [.nilp, .nilS], bytes := 32, data := none, eqf := none }),
  (131, { kind := .slice 171, zero := [.nilS], bytes := 24, data := some (.sl (.prod (.int .i64) (.prod (.int .i64) (.prod (.int .i64) (.last (.int .i64)))))), eqf := none }),
  (164, { kind := .struct [(0, 1), (1, 1), (2, 1)], zero := [.nilS, .nilS, .nilS], bytes := 72, data := some (.prod (.sl (.prod (.int .i64) (.prod (.int .i64) (.prod (.int .i64) (.last (.int .i64)))))) (.prod (.sl (.int .i64)) (.last (.sl (.sl (.prod (.int .i64) (.prod (.int .i64) (.prod (.int .i64) (.last (.int .i64)))))))))), eqf := none }),
  (168, { kind := .struct [(0, 1), (1, 1), (2, 1)], zero := [.d (.int .i64) (0 : Int), .d (.int .i64) (0 : Int), .d (.int .i64) (0 : Int)], bytes := 24, data := some (.prod (.int .i64) (.prod (.int .i64) (.last (.int .i64)))), eqf := some [(.int .i64), (.int .i64), (.int .i64)] }),
  (171, { kind := .struct [(0, 1), (1, 1), (2, 1), (3, 1)], zero := [.d (.int .i64) (0 : Int), .d (.int .i64) (0 : Int), .d (.int .i64) (0 : Int), .d (.int .i64) (0 : Int)], bytes := 32, data := some (.prod (.int .i64) (.prod (.int .i64) (.prod (.int .i64) (.last (.int .i64))))), eqf := some [(.int .i64), (.int .i64), (.int .i64), (.int .i64)] })]
theorem tabGood : tabB Tryz.prog tab = true := by kernel_rfl

/-! ### loop.example/wholecheck/laws.szStringS -/
namespace laws_szStringS
noncomputable abbrev c0 : Code := (Tryz.f35.body).getD .skip
noncomputable abbrev pin : Tpl := ⟨[⟨0, false, [.d (.sl .str)]⟩, ⟨1, false, [.d (.int .i64)]⟩], []⟩
noncomputable abbrev pout : Tpl := ⟨[⟨0, false, [.d (.int .i64)]⟩], []⟩
noncomputable abbrev p5 : Tpl := ⟨[⟨0, false, [.d (.sl .str)]⟩, ⟨1, false, [.d (.int .i64)]⟩, ⟨5, false, [.d (.int .i64)]⟩], []⟩
noncomputable def T5 : List Item := (find 5 c0 []).getD []
noncomputable abbrev PI := (List (List UInt8)) × Int × Unit
noncomputable abbrev PO := Int × Unit
noncomputable abbrev P5 := (List (List UInt8)) × Int × Int × Unit
noncomputable abbrev rs : List ResultVar := [.tmp 4]
noncomputable def F0 (J5 : P5 → Option PO) (x0 : List (List UInt8)) (x1 : Int) : Option PO :=
  bif decide (wI (x1 - (x0.length : Int)) < 0) then
    some ((-1), ())
  else
    J5 (x0, wI (x1 - (x0.length : Int)), 0, ())
noncomputable def F5 (J5 : P5 → Option PO) (t0 : List (List UInt8)) (t1 : Int) (t5 : Int) : Option PO :=
  bif decide (t5 < (t0.length : Int)) then
    bif inb t5 t0.length then
      bif decide (wI (t1 - ((t0.getD t5.toNat []).length : Int)) < 0) then
        some ((-1), ())
      else
        J5 (t0, wI (t1 - ((t0.getD t5.toNat []).length : Int)), wI (t5 + 1), ())
    else
      none
  else
    some (t1, ())
noncomputable def hd {R : Type} : Hand R := handNil
noncomputable def pg (J5 : List Item → P5 → Option PO) : Prog PO := { nt := 28, np := 1, tb := tabOf tab, hd := hd, cuts := cutsOf [(5, cut p5 J5)], fin := endOf (tabOf tab) rs 1 pout }
noncomputable def q : FuncId → Bool := fun f => hasId [] f
theorem seg0 (J5 : List Item → P5 → Option PO) (x0 : List (List UInt8)) (x1 : Int) : arun (pg J5) 5000 [.code c0] (mk pin (x0, x1, ())) = F0 (J5 T5) x0 x1 := by kernel_rfl
theorem seg5 (J5 : List Item → P5 → Option PO) (t0 : List (List UInt8)) (t1 : Int) (t5 : Int) : arun1 (pg J5) 5000 T5 (mk p5 (t0, t1, t5, ())) = F5 (J5 T5) t0 t1 t5 := by kernel_rfl
noncomputable def L5 : P5 → Option PO := lfp fun J5 x => F5 J5 x.1 x.2.1 x.2.2.1
noncomputable def impl : PI → Option PO := fun x => F0 L5 x.1 x.2.1
theorem F5_le {J5 J5' : P5 → Option PO} (h5 : OLe J5 J5') (t0 : List (List UInt8)) (t1 : Int) (t5 : Int) : OptLe (F5 J5 t0 t1 t5) (F5 J5' t0 t1 t5) := by unfold F5; exact .cond (.cond (.cond (.refl _) (.of h5 _)) (.refl _)) (.refl _)
theorem L5_mono : OMono fun J5 (x : P5) => F5 J5 x.1 x.2.1 x.2.2.1 := fun J J' h5 x => F5_le h5 x.1 x.2.1 x.2.2.1
theorem L5_eq (t0 : List (List UInt8)) (t1 : Int) (t5 : Int) : L5 (t0, t1, t5, ()) = F5 (L5) t0 t1 t5 := congrFun (lfp_eq (L5_mono)) _
theorem impl_eq (x0 : List (List UInt8)) (x1 : Int) : impl (x0, x1, ()) = F0 L5 x0 x1 := rfl
theorem con : Con Tryz.prog 35 2 rs.length 1 pin pout impl := by
  refine con_of_run' (nt := 28) (c := c0) tabGood Tryz.func35 (by kernel_rfl) (by kernel_rfl) (by kernel_rfl) (by kernel_rfl) (by kernel_rfl) (by kernel_rfl) (by kernel_rfl) ?_
  intro w0 O y hnp
  generalize hPost : (fun (a' : Act) (w' : World) => ∃ μ' S' st', Rel 28 w0 O μ' S' st' a' w' ∧ endOf (tabOf tab) rs 1 pout st' = some y) = Post
  have fin : ∀ (μ : Id → Option Value) (S : Nat → Prop) (st : St) (a : Act) (w : World), Rel 28 w0 O μ S st a w → endOf (tabOf tab) rs 1 pout st = some y → Post a w := fun μ S st a w h he => by rw [← hPost]; exact ⟨μ, S, st, h, he⟩
  have hp : ∀ (J5 : List Item → P5 → Option PO), Parts Tryz.prog 35 (pg J5) [(5, cut p5 J5)] := fun J5 => ⟨tab_ok tabGood rfl, handNil_ok, rfl⟩
  have g5 : Good Tryz.prog 28 w0 O Post y T5 p5 L5 := good_lfp fun J5 h5 => good_part (hp (atT T5 J5)) (runOK_of (hp (atT T5 J5)) hnp ⟨cutOK_at h5, trivial⟩ fin) (fun x => (seg5 (atT T5 J5) x.1 x.2.1 x.2.2.1).trans (by simp only [atT_self] <;> rfl))
  exact good_first (hp (atT T5 L5)) (runOK_of (hp (atT T5 L5)) hnp ⟨cutOK_at g5, trivial⟩ fin) (fun x => (seg0 (atT T5 L5) x.1 x.2.1).trans (by simp only [atT_self] <;> rfl))
end laws_szStringS

/-! ### loop.example/wholecheck/laws.szVarS -/
namespace laws_szVarS
noncomputable abbrev c0 : Code := (Tryz.f86.body).getD .skip
noncomputable abbrev pin : Tpl := ⟨[⟨0, false, [.d (.sl (.prod (.int .i64) (.prod (.int .i64) (.last (.int .i64)))))]⟩, ⟨1, false, [.d (.int .i64)]⟩], []⟩
noncomputable abbrev pout : Tpl := ⟨[⟨0, false, [.d (.int .i64)]⟩], []⟩
noncomputable abbrev PI := (List (Int × Int × Int)) × Int × Unit
noncomputable abbrev PO := Int × Unit
noncomputable abbrev rs : List ResultVar := [.tmp 4]
noncomputable def F0 (x0 : List (Int × Int × Int)) (x1 : Int) : Option PO :=
  bif decide (wI (x1 - (x0.length : Int)) < 0) then
    some ((-1), ())
  else
    some (wI (x1 - (x0.length : Int)), ())
noncomputable def hd {R : Type} : Hand R := handNil
noncomputable def pg : Prog PO := { nt := 12, np := 1, tb := tabOf tab, hd := hd, cuts := cutsOf [], fin := endOf (tabOf tab) rs 1 pout }
noncomputable def q : FuncId → Bool := fun f => hasId [] f
theorem seg0 (x0 : List (Int × Int × Int)) (x1 : Int) : arun (pg) 5000 [.code c0] (mk pin (x0, x1, ())) = F0 x0 x1 := by kernel_rfl
noncomputable def impl : PI → Option PO := fun x => F0 x.1 x.2.1
theorem impl_eq (x0 : List (Int × Int × Int)) (x1 : Int) : impl (x0, x1, ()) = F0 x0 x1 := rfl
theorem con : Con Tryz.prog 86 2 rs.length 1 pin pout impl := by
  refine con_of_run' (nt := 12) (c := c0) tabGood Tryz.func86 (by kernel_rfl) (by kernel_rfl) (by kernel_rfl) (by kernel_rfl) (by kernel_rfl) (by kernel_rfl) (by kernel_rfl) ?_
  intro w0 O y hnp
  generalize hPost : (fun (a' : Act) (w' : World) => ∃ μ' S' st', Rel 12 w0 O μ' S' st' a' w' ∧ endOf (tabOf tab) rs 1 pout st' = some y) = Post
  have fin : ∀ (μ : Id → Option Value) (S : Nat → Prop) (st : St) (a : Act) (w : World), Rel 12 w0 O μ S st a w → endOf (tabOf tab) rs 1 pout st = some y → Post a w := fun μ S st a w h he => by rw [← hPost]; exact ⟨μ, S, st, h, he⟩
  have hp : Parts Tryz.prog 86 (pg) [] := ⟨tab_ok tabGood rfl, handNil_ok, rfl⟩
  exact good_first (hp) (runOK_of (hp) hnp trivial fin) (fun x => (seg0 x.1 x.2.1))
end laws_szVarS

/-! ### loop.example/wholecheck/laws.szTermS -/
namespace laws_szTermS
noncomputable abbrev c0 : Code := (Tryz.f88.body).getD .skip
noncomputable abbrev pin : Tpl := ⟨[⟨0, false, [.d (.sl (.prod (.int .i64) (.prod (.int .i64) (.prod (.int .i64) (.last (.int .i64))))))]⟩, ⟨1, false, [.d (.int .i64)]⟩], []⟩
noncomputable abbrev pout : Tpl := ⟨[⟨0, false, [.d (.int .i64)]⟩], []⟩
noncomputable abbrev PI := (List (Int × Int × Int × Int)) × Int × Unit
noncomputable abbrev PO := Int × Unit
noncomputable abbrev rs : List ResultVar := [.tmp 4]
noncomputable def F0 (x0 : List (Int × Int × Int × Int)) (x1 : Int) : Option PO :=
  bif decide (wI (x1 - (x0.length : Int)) < 0) then
    some ((-1), ())
  else
    some (wI (x1 - (x0.length : Int)), ())
noncomputable def hd {R : Type} : Hand R := handNil
noncomputable def pg : Prog PO := { nt := 12, np := 1, tb := tabOf tab, hd := hd, cuts := cutsOf [], fin := endOf (tabOf tab) rs 1 pout }
noncomputable def q : FuncId → Bool := fun f => hasId [] f
theorem seg0 (x0 : List (Int × Int × Int × Int)) (x1 : Int) : arun (pg) 5000 [.code c0] (mk pin (x0, x1, ())) = F0 x0 x1 := by kernel_rfl
noncomputable def impl : PI → Option PO := fun x => F0 x.1 x.2.1
theorem impl_eq (x0 : List (Int × Int × Int × Int)) (x1 : Int) : impl (x0, x1, ()) = F0 x0 x1 := rfl
theorem con : Con Tryz.prog 88 2 rs.length 1 pin pout impl := by
  refine con_of_run' (nt := 12) (c := c0) tabGood Tryz.func88 (by kernel_rfl) (by kernel_rfl) (by kernel_rfl) (by kernel_rfl) (by kernel_rfl) (by kernel_rfl) (by kernel_rfl) ?_
  intro w0 O y hnp
  generalize hPost : (fun (a' : Act) (w' : World) => ∃ μ' S' st', Rel 12 w0 O μ' S' st' a' w' ∧ endOf (tabOf tab) rs 1 pout st' = some y) = Post
  have fin : ∀ (μ : Id → Option Value) (S : Nat → Prop) (st : St) (a : Act) (w : World), Rel 12 w0 O μ S st a w → endOf (tabOf tab) rs 1 pout st = some y → Post a w := fun μ S st a w h he => by rw [← hPost]; exact ⟨μ, S, st, h, he⟩
  have hp : Parts Tryz.prog 88 (pg) [] := ⟨tab_ok tabGood rfl, handNil_ok, rfl⟩
  exact good_first (hp) (runOK_of (hp) hnp trivial fin) (fun x => (seg0 x.1 x.2.1))
end laws_szTermS

/-! ### loop.example/wholecheck/laws.szIntS -/
namespace laws_szIntS
noncomputable abbrev c0 : Code := (Tryz.f166.body).getD .skip
noncomputable abbrev pin : Tpl := ⟨[⟨0, false, [.d (.sl (.int .i64))]⟩, ⟨1, false, [.d (.int .i64)]⟩], []⟩
noncomputable abbrev pout : Tpl := ⟨[⟨0, false, [.d (.int .i64)]⟩], []⟩
noncomputable abbrev PI := (List Int) × Int × Unit
noncomputable abbrev PO := Int × Unit
noncomputable abbrev rs : List ResultVar := [.tmp 4]
noncomputable def F0 (x0 : List Int) (x1 : Int) : Option PO :=
  bif decide (wI (x1 - (x0.length : Int)) < 0) then
    some ((-1), ())
  else
    some (wI (x1 - (x0.length : Int)), ())
noncomputable def hd {R : Type} : Hand R := handNil
noncomputable def pg : Prog PO := { nt := 12, np := 1, tb := tabOf tab, hd := hd, cuts := cutsOf [], fin := endOf (tabOf tab) rs 1 pout }
noncomputable def q : FuncId → Bool := fun f => hasId [] f
theorem seg0 (x0 : List Int) (x1 : Int) : arun (pg) 5000 [.code c0] (mk pin (x0, x1, ())) = F0 x0 x1 := by kernel_rfl
noncomputable def impl : PI → Option PO := fun x => F0 x.1 x.2.1
theorem impl_eq (x0 : List Int) (x1 : Int) : impl (x0, x1, ()) = F0 x0 x1 := rfl
theorem con : Con Tryz.prog 166 2 rs.length 1 pin pout impl := by
  refine con_of_run' (nt := 12) (c := c0) tabGood Tryz.func166 (by kernel_rfl) (by kernel_rfl) (by kernel_rfl) (by kernel_rfl) (by kernel_rfl) (by kernel_rfl) (by kernel_rfl) ?_
  intro w0 O y hnp
  generalize hPost : (fun (a' : Act) (w' : World) => ∃ μ' S' st', Rel 12 w0 O μ' S' st' a' w' ∧ endOf (tabOf tab) rs 1 pout st' = some y) = Post
  have fin : ∀ (μ : Id → Option Value) (S : Nat → Prop) (st : St) (a : Act) (w : World), Rel 12 w0 O μ S st a w → endOf (tabOf tab) rs 1 pout st = some y → Post a w := fun μ S st a w h he => by rw [← hPost]; exact ⟨μ, S, st, h, he⟩
  have hp : Parts Tryz.prog 166 (pg) [] := ⟨tab_ok tabGood rfl, handNil_ok, rfl⟩
  exact good_first (hp) (runOK_of (hp) hnp trivial fin) (fun x => (seg0 x.1 x.2.1))
end laws_szIntS

/-! ### loop.example/wholecheck/laws.szTermSS -/
namespace laws_szTermSS
noncomputable abbrev c0 : Code := (Tryz.f37.body).getD .skip
noncomputable abbrev pin : Tpl := ⟨[⟨0, false, [.d (.sl (.sl (.prod (.int .i64) (.prod (.int .i64) (.prod (.int .i64) (.last (.int .i64)))))))]⟩, ⟨1, false, [.d (.int .i64)]⟩], []⟩
noncomputable abbrev pout : Tpl := ⟨[⟨0, false, [.d (.int .i64)]⟩], []⟩
noncomputable abbrev p5 : Tpl := ⟨[⟨0, false, [.d (.sl (.sl (.prod (.int .i64) (.prod (.int .i64) (.prod (.int .i64) (.last (.int .i64)))))))]⟩, ⟨1, false, [.d (.int .i64)]⟩, ⟨5, false, [.d (.int .i64)]⟩], []⟩
noncomputable def T5 : List Item := (find 5 c0 []).getD []
noncomputable abbrev PI := (List (List (Int × Int × Int × Int))) × Int × Unit
noncomputable abbrev PO := Int × Unit
noncomputable abbrev P5 := (List (List (Int × Int × Int × Int))) × Int × Int × Unit
noncomputable abbrev rs : List ResultVar := [.tmp 4]
noncomputable def F0 (J5 : P5 → Option PO) (x0 : List (List (Int × Int × Int × Int))) (x1 : Int) : Option PO :=
  bif decide (wI (x1 - (x0.length : Int)) < 0) then
    some ((-1), ())
  else
    J5 (x0, wI (x1 - (x0.length : Int)), 0, ())
noncomputable def F5 (J5 : P5 → Option PO) (Glaws_szTermS : laws_szTermS.PI → Option laws_szTermS.PO) (t0 : List (List (Int × Int × Int × Int))) (t1 : Int) (t5 : Int) : Option PO :=
  bif decide (t5 < (t0.length : Int)) then
    bif inb t5 t0.length then
      Option.bind (Glaws_szTermS (t0.getD t5.toNat [], t1, ())) fun y0 =>
      bif decide (y0.1 < 0) then
        some ((-1), ())
      else
        J5 (t0, y0.1, wI (t5 + 1), ())
    else
      none
  else
    some (t1, ())
noncomputable def hd {R : Type} (Glaws_szTermS : laws_szTermS.PI → Option laws_szTermS.PO) : Hand R := (handAt 88 [23] true ⟨2, 1, 1, laws_szTermS.pin, laws_szTermS.pout, Glaws_szTermS⟩ handNil)
noncomputable def pg (Glaws_szTermS : laws_szTermS.PI → Option laws_szTermS.PO) (J5 : List Item → P5 → Option PO) : Prog PO := { nt := 27, np := 1, tb := tabOf tab, hd := hd Glaws_szTermS, cuts := cutsOf [(5, cut p5 J5)], fin := endOf (tabOf tab) rs 1 pout }
noncomputable def q : FuncId → Bool := fun f => hasId [88] f
theorem seg0 (Glaws_szTermS : laws_szTermS.PI → Option laws_szTermS.PO) (J5 : List Item → P5 → Option PO) (x0 : List (List (Int × Int × Int × Int))) (x1 : Int) : arun (pg Glaws_szTermS J5) 5000 [.code c0] (mk pin (x0, x1, ())) = F0 (J5 T5) x0 x1 := by kernel_rfl
theorem seg5 (Glaws_szTermS : laws_szTermS.PI → Option laws_szTermS.PO) (J5 : List Item → P5 → Option PO) (t0 : List (List (Int × Int × Int × Int))) (t1 : Int) (t5 : Int) : arun1 (pg Glaws_szTermS J5) 5000 T5 (mk p5 (t0, t1, t5, ())) = F5 (J5 T5) Glaws_szTermS t0 t1 t5 := by kernel_rfl
noncomputable def L5 : P5 → Option PO := lfp fun J5 x => F5 J5 laws_szTermS.impl x.1 x.2.1 x.2.2.1
noncomputable def impl : PI → Option PO := fun x => F0 L5 x.1 x.2.1
theorem F5_le {J5 J5' : P5 → Option PO} (h5 : OLe J5 J5') {Glaws_szTermS : laws_szTermS.PI → Option laws_szTermS.PO} (t0 : List (List (Int × Int × Int × Int))) (t1 : Int) (t5 : Int) : OptLe (F5 J5 Glaws_szTermS t0 t1 t5) (F5 J5' Glaws_szTermS t0 t1 t5) := by unfold F5; exact .cond (.cond (.bind (.refl _) fun _ => .cond (.refl _) (.of h5 _)) (.refl _)) (.refl _)
theorem L5_mono : OMono fun J5 (x : P5) => F5 J5 laws_szTermS.impl x.1 x.2.1 x.2.2.1 := fun J J' h5 x => F5_le h5 x.1 x.2.1 x.2.2.1
theorem L5_eq (t0 : List (List (Int × Int × Int × Int))) (t1 : Int) (t5 : Int) : L5 (t0, t1, t5, ()) = F5 (L5) laws_szTermS.impl t0 t1 t5 := congrFun (lfp_eq (L5_mono)) _
theorem impl_eq (x0 : List (List (Int × Int × Int × Int))) (x1 : Int) : impl (x0, x1, ()) = F0 L5 x0 x1 := rfl
theorem con : Con Tryz.prog 37 2 rs.length 1 pin pout impl := by
  refine con_of_run' (nt := 27) (c := c0) tabGood Tryz.func37 (by kernel_rfl) (by kernel_rfl) (by kernel_rfl) (by kernel_rfl) (by kernel_rfl) (by kernel_rfl) (by kernel_rfl) ?_
  intro w0 O y hnp
  generalize hPost : (fun (a' : Act) (w' : World) => ∃ μ' S' st', Rel 27 w0 O μ' S' st' a' w' ∧ endOf (tabOf tab) rs 1 pout st' = some y) = Post
  have fin : ∀ (μ : Id → Option Value) (S : Nat → Prop) (st : St) (a : Act) (w : World), Rel 27 w0 O μ S st a w → endOf (tabOf tab) rs 1 pout st = some y → Post a w := fun μ S st a w h he => by rw [← hPost]; exact ⟨μ, S, st, h, he⟩
  have hp : ∀ (J5 : List Item → P5 → Option PO), Parts Tryz.prog 37 (pg laws_szTermS.impl J5) [(5, cut p5 J5)] := fun J5 => ⟨tab_ok tabGood rfl, (handAt_ok laws_szTermS.con handNil_ok), rfl⟩
  have g5 : Good Tryz.prog 27 w0 O Post y T5 p5 L5 := good_lfp fun J5 h5 => good_part (hp (atT T5 J5)) (runOK_of (hp (atT T5 J5)) hnp ⟨cutOK_at h5, trivial⟩ fin) (fun x => (seg5 laws_szTermS.impl (atT T5 J5) x.1 x.2.1 x.2.2.1).trans (by simp only [atT_self] <;> rfl))
  exact good_first (hp (atT T5 L5)) (runOK_of (hp (atT T5 L5)) hnp ⟨cutOK_at g5, trivial⟩ fin) (fun x => (seg0 laws_szTermS.impl (atT T5 L5) x.1 x.2.1).trans (by simp only [atT_self] <;> rfl))
end laws_szTermSS

/-! ### loop.example/wholecheck/laws.szRule -/
namespace laws_szRule
noncomputable abbrev c0 : Code := (Tryz.f126.body).getD .skip
noncomputable abbrev pin : Tpl := ⟨[⟨0, true, [.d (.prod (.sl (.prod (.int .i64) (.prod (.int .i64) (.prod (.int .i64) (.last (.int .i64)))))) (.prod (.sl (.int .i64)) (.last (.sl (.sl (.prod (.int .i64) (.prod (.int .i64) (.prod (.int .i64) (.last (.int .i64))))))))))]⟩, ⟨1, false, [.d (.int .i64)]⟩], []⟩
noncomputable abbrev pout : Tpl := ⟨[⟨0, false, [.d (.int .i64)]⟩], []⟩
noncomputable abbrev PI := ((List (Int × Int × Int × Int)) × (List Int) × List (List (Int × Int × Int × Int))) × Int × Unit
noncomputable abbrev PO := Int × Unit
noncomputable abbrev rs : List ResultVar := [.tmp 4]
noncomputable def F0 (Glaws_szIntS : laws_szIntS.PI → Option laws_szIntS.PO) (Glaws_szTermS : laws_szTermS.PI → Option laws_szTermS.PO) (Glaws_szTermSS : laws_szTermSS.PI → Option laws_szTermSS.PO) (x0 : (List (Int × Int × Int × Int)) × (List Int) × List (List (Int × Int × Int × Int))) (x1 : Int) : Option PO :=
  Option.bind (Glaws_szTermS (x0.1, x1, ())) fun y0 =>
  bif decide (y0.1 < 0) then
    some ((-1), ())
  else
    Option.bind (Glaws_szIntS (x0.2.1, y0.1, ())) fun y1 =>
    bif decide (y1.1 < 0) then
      some ((-1), ())
    else
      Option.bind (Glaws_szTermSS (x0.2.2, y1.1, ())) fun y2 =>
      bif decide (y2.1 < 0) then
        some ((-1), ())
      else
        some (y2.1, ())
noncomputable def hd {R : Type} (Glaws_szIntS : laws_szIntS.PI → Option laws_szIntS.PO) (Glaws_szTermS : laws_szTermS.PI → Option laws_szTermS.PO) (Glaws_szTermSS : laws_szTermSS.PI → Option laws_szTermSS.PO) : Hand R := (handAt 166 [14] true ⟨2, 1, 1, laws_szIntS.pin, laws_szIntS.pout, Glaws_szIntS⟩ (handAt 88 [8] true ⟨2, 1, 1, laws_szTermS.pin, laws_szTermS.pout, Glaws_szTermS⟩ (handAt 37 [20] true ⟨2, 1, 1, laws_szTermSS.pin, laws_szTermSS.pout, Glaws_szTermSS⟩ handNil)))
noncomputable def pg (Glaws_szIntS : laws_szIntS.PI → Option laws_szIntS.PO) (Glaws_szTermS : laws_szTermS.PI → Option laws_szTermS.PO) (Glaws_szTermSS : laws_szTermSS.PI → Option laws_szTermSS.PO) : Prog PO := { nt := 24, np := 1, tb := tabOf tab, hd := hd Glaws_szIntS Glaws_szTermS Glaws_szTermSS, cuts := cutsOf [], fin := endOf (tabOf tab) rs 1 pout }
noncomputable def q : FuncId → Bool := fun f => hasId [37, 88, 166] f
theorem seg0 (Glaws_szIntS : laws_szIntS.PI → Option laws_szIntS.PO) (Glaws_szTermS : laws_szTermS.PI → Option laws_szTermS.PO) (Glaws_szTermSS : laws_szTermSS.PI → Option laws_szTermSS.PO) (x0 : (List (Int × Int × Int × Int)) × (List Int) × List (List (Int × Int × Int × Int))) (x1 : Int) : arun (pg Glaws_szIntS Glaws_szTermS Glaws_szTermSS) 5000 [.code c0] (mk pin (x0, x1, ())) = F0 Glaws_szIntS Glaws_szTermS Glaws_szTermSS x0 x1 := by kernel_rfl
noncomputable def impl : PI → Option PO := fun x => F0 laws_szIntS.impl laws_szTermS.impl laws_szTermSS.impl x.1 x.2.1
theorem impl_eq (x0 : (List (Int × Int × Int × Int)) × (List Int) × List (List (Int × Int × Int × Int))) (x1 : Int) : impl (x0, x1, ()) = F0 laws_szIntS.impl laws_szTermS.impl laws_szTermSS.impl x0 x1 := rfl
theorem con : Con Tryz.prog 126 2 rs.length 1 pin pout impl := by
  refine con_of_run' (nt := 24) (c := c0) tabGood Tryz.func126 (by kernel_rfl) (by kernel_rfl) (by kernel_rfl) (by kernel_rfl) (by kernel_rfl) (by kernel_rfl) (by kernel_rfl) ?_
  intro w0 O y hnp
  generalize hPost : (fun (a' : Act) (w' : World) => ∃ μ' S' st', Rel 24 w0 O μ' S' st' a' w' ∧ endOf (tabOf tab) rs 1 pout st' = some y) = Post
  have fin : ∀ (μ : Id → Option Value) (S : Nat → Prop) (st : St) (a : Act) (w : World), Rel 24 w0 O μ S st a w → endOf (tabOf tab) rs 1 pout st = some y → Post a w := fun μ S st a w h he => by rw [← hPost]; exact ⟨μ, S, st, h, he⟩
  have hp : Parts Tryz.prog 126 (pg laws_szIntS.impl laws_szTermS.impl laws_szTermSS.impl) [] := ⟨tab_ok tabGood rfl, (handAt_ok laws_szIntS.con (handAt_ok laws_szTermS.con (handAt_ok laws_szTermSS.con handNil_ok))), rfl⟩
  exact good_first (hp) (runOK_of (hp) hnp trivial fin) (fun x => (seg0 laws_szIntS.impl laws_szTermS.impl laws_szTermSS.impl x.1 x.2.1))
end laws_szRule

/-! ### loop.example/wholecheck/laws.szRuleS -/
namespace laws_szRuleS
noncomputable abbrev c0 : Code := (Tryz.f87.body).getD .skip
noncomputable abbrev pin : Tpl := ⟨[⟨0, false, [.d (.sl (.prod (.sl (.prod (.int .i64) (.prod (.int .i64) (.prod (.int .i64) (.last (.int .i64)))))) (.prod (.sl (.int .i64)) (.last (.sl (.sl (.prod (.int .i64) (.prod (.int .i64) (.prod (.int .i64) (.last (.int .i64)))))))))))]⟩, ⟨1, false, [.d (.int .i64)]⟩], []⟩
noncomputable abbrev pout : Tpl := ⟨[⟨0, false, [.d (.int .i64)]⟩], []⟩
noncomputable abbrev p5 : Tpl := ⟨[⟨0, false, [.d (.sl (.prod (.sl (.prod (.int .i64) (.prod (.int .i64) (.prod (.int .i64) (.last (.int .i64)))))) (.prod (.sl (.int .i64)) (.last (.sl (.sl (.prod (.int .i64) (.prod (.int .i64) (.prod (.int .i64) (.last (.int .i64)))))))))))]⟩, ⟨1, false, [.d (.int .i64)]⟩, ⟨5, false, [.d (.int .i64)]⟩], []⟩
noncomputable def T5 : List Item := (find 5 c0 []).getD []
noncomputable abbrev PI := (List ((List (Int × Int × Int × Int)) × (List Int) × List (List (Int × Int × Int × Int)))) × Int × Unit
noncomputable abbrev PO := Int × Unit
noncomputable abbrev P5 := (List ((List (Int × Int × Int × Int)) × (List Int) × List (List (Int × Int × Int × Int)))) × Int × Int × Unit
noncomputable abbrev rs : List ResultVar := [.tmp 4]
noncomputable def F0 (J5 : P5 → Option PO) (x0 : List ((List (Int × Int × Int × Int)) × (List Int) × List (List (Int × Int × Int × Int)))) (x1 : Int) : Option PO :=
  bif decide (wI (x1 - (x0.length : Int)) < 0) then
    some ((-1), ())
  else
    J5 (x0, wI (x1 - (x0.length : Int)), 0, ())
noncomputable def F5 (J5 : P5 → Option PO) (Glaws_szRule : laws_szRule.PI → Option laws_szRule.PO) (t0 : List ((List (Int × Int × Int × Int)) × (List Int) × List (List (Int × Int × Int × Int)))) (t1 : Int) (t5 : Int) : Option PO :=
  bif decide (t5 < (t0.length : Int)) then
    bif inb t5 t0.length then
      Option.bind (Glaws_szRule (t0.getD t5.toNat ([], [], []), t1, ())) fun y0 =>
      bif decide (y0.1 < 0) then
        some ((-1), ())
      else
        J5 (t0, y0.1, wI (t5 + 1), ())
    else
      none
  else
    some (t1, ())
noncomputable def hd {R : Type} (Glaws_szRule : laws_szRule.PI → Option laws_szRule.PO) : Hand R := (handAt 126 [23] true ⟨2, 1, 1, laws_szRule.pin, laws_szRule.pout, Glaws_szRule⟩ handNil)
noncomputable def pg (Glaws_szRule : laws_szRule.PI → Option laws_szRule.PO) (J5 : List Item → P5 → Option PO) : Prog PO := { nt := 27, np := 1, tb := tabOf tab, hd := hd Glaws_szRule, cuts := cutsOf [(5, cut p5 J5)], fin := endOf (tabOf tab) rs 1 pout }
noncomputable def q : FuncId → Bool := fun f => hasId [126] f
theorem seg0 (Glaws_szRule : laws_szRule.PI → Option laws_szRule.PO) (J5 : List Item → P5 → Option PO) (x0 : List ((List (Int × Int × Int × Int)) × (List Int) × List (List (Int × Int × Int × Int)))) (x1 : Int) : arun (pg Glaws_szRule J5) 5000 [.code c0] (mk pin (x0, x1, ())) = F0 (J5 T5) x0 x1 := by kernel_rfl
theorem seg5 (Glaws_szRule : laws_szRule.PI → Option laws_szRule.PO) (J5 : List Item → P5 → Option PO) (t0 : List ((List (Int × Int × Int × Int)) × (List Int) × List (List (Int × Int × Int × Int)))) (t1 : Int) (t5 : Int) : arun1 (pg Glaws_szRule J5) 5000 T5 (mk p5 (t0, t1, t5, ())) = F5 (J5 T5) Glaws_szRule t0 t1 t5 := by kernel_rfl
noncomputable def L5 : P5 → Option PO := lfp fun J5 x => F5 J5 laws_szRule.impl x.1 x.2.1 x.2.2.1
noncomputable def impl : PI → Option PO := fun x => F0 L5 x.1 x.2.1
theorem F5_le {J5 J5' : P5 → Option PO} (h5 : OLe J5 J5') {Glaws_szRule : laws_szRule.PI → Option laws_szRule.PO} (t0 : List ((List (Int × Int × Int × Int)) × (List Int) × List (List (Int × Int × Int × Int)))) (t1 : Int) (t5 : Int) : OptLe (F5 J5 Glaws_szRule t0 t1 t5) (F5 J5' Glaws_szRule t0 t1 t5) := by unfold F5; exact .cond (.cond (.bind (.refl _) fun _ => .cond (.refl _) (.of h5 _)) (.refl _)) (.refl _)
theorem L5_mono : OMono fun J5 (x : P5) => F5 J5 laws_szRule.impl x.1 x.2.1 x.2.2.1 := fun J J' h5 x => F5_le h5 x.1 x.2.1 x.2.2.1
theorem L5_eq (t0 : List ((List (Int × Int × Int × Int)) × (List Int) × List (List (Int × Int × Int × Int)))) (t1 : Int) (t5 : Int) : L5 (t0, t1, t5, ()) = F5 (L5) laws_szRule.impl t0 t1 t5 := congrFun (lfp_eq (L5_mono)) _
theorem impl_eq (x0 : List ((List (Int × Int × Int × Int)) × (List Int) × List (List (Int × Int × Int × Int)))) (x1 : Int) : impl (x0, x1, ()) = F0 L5 x0 x1 := rfl
theorem con : Con Tryz.prog 87 2 rs.length 1 pin pout impl := by
  refine con_of_run' (nt := 27) (c := c0) tabGood Tryz.func87 (by kernel_rfl) (by kernel_rfl) (by kernel_rfl) (by kernel_rfl) (by kernel_rfl) (by kernel_rfl) (by kernel_rfl) ?_
  intro w0 O y hnp
  generalize hPost : (fun (a' : Act) (w' : World) => ∃ μ' S' st', Rel 27 w0 O μ' S' st' a' w' ∧ endOf (tabOf tab) rs 1 pout st' = some y) = Post
  have fin : ∀ (μ : Id → Option Value) (S : Nat → Prop) (st : St) (a : Act) (w : World), Rel 27 w0 O μ S st a w → endOf (tabOf tab) rs 1 pout st = some y → Post a w := fun μ S st a w h he => by rw [← hPost]; exact ⟨μ, S, st, h, he⟩
  have hp : ∀ (J5 : List Item → P5 → Option PO), Parts Tryz.prog 87 (pg laws_szRule.impl J5) [(5, cut p5 J5)] := fun J5 => ⟨tab_ok tabGood rfl, (handAt_ok laws_szRule.con handNil_ok), rfl⟩
  have g5 : Good Tryz.prog 27 w0 O Post y T5 p5 L5 := good_lfp fun J5 h5 => good_part (hp (atT T5 J5)) (runOK_of (hp (atT T5 J5)) hnp ⟨cutOK_at h5, trivial⟩ fin) (fun x => (seg5 laws_szRule.impl (atT T5 J5) x.1 x.2.1 x.2.2.1).trans (by simp only [atT_self] <;> rfl))
  exact good_first (hp (atT T5 L5)) (runOK_of (hp (atT T5 L5)) hnp ⟨cutOK_at g5, trivial⟩ fin) (fun x => (seg0 laws_szRule.impl (atT T5 L5) x.1 x.2.1).trans (by simp only [atT_self] <;> rfl))
end laws_szRuleS

/-! ### loop.example/wholecheck/laws.szSystem -/
namespace laws_szSystem
noncomputable abbrev c0 : Code := (Tryz.f36.body).getD .skip
noncomputable abbrev pin : Tpl := ⟨[⟨0, true, [.d (.prod (.sl (.prod (.int .i64) (.prod (.int .i64) (.last (.int .i64))))) (.last (.sl (.prod (.sl (.prod (.int .i64) (.prod (.int .i64) (.prod (.int .i64) (.last (.int .i64)))))) (.prod (.sl (.int .i64)) (.last (.sl (.sl (.prod (.int .i64) (.prod (.int .i64) (.prod (.int .i64) (.last (.int .i64)))))))))))))]⟩, ⟨1, false, [.d (.int .i64)]⟩], []⟩
noncomputable abbrev pout : Tpl := ⟨[⟨0, false, [.d (.int .i64)]⟩], []⟩
noncomputable abbrev PI := ((List (Int × Int × Int)) × List ((List (Int × Int × Int × Int)) × (List Int) × List (List (Int × Int × Int × Int)))) × Int × Unit
noncomputable abbrev PO := Int × Unit
noncomputable abbrev rs : List ResultVar := [.tmp 4]
noncomputable def F0 (Glaws_szRuleS : laws_szRuleS.PI → Option laws_szRuleS.PO) (Glaws_szVarS : laws_szVarS.PI → Option laws_szVarS.PO) (x0 : (List (Int × Int × Int)) × List ((List (Int × Int × Int × Int)) × (List Int) × List (List (Int × Int × Int × Int)))) (x1 : Int) : Option PO :=
  Option.bind (Glaws_szVarS (x0.1, x1, ())) fun y0 =>
  bif decide (y0.1 < 0) then
    some ((-1), ())
  else
    Option.bind (Glaws_szRuleS (x0.2, y0.1, ())) fun y1 =>
    bif decide (y1.1 < 0) then
      some ((-1), ())
    else
      some (y1.1, ())
noncomputable def hd {R : Type} (Glaws_szRuleS : laws_szRuleS.PI → Option laws_szRuleS.PO) (Glaws_szVarS : laws_szVarS.PI → Option laws_szVarS.PO) : Hand R := (handAt 87 [14] true ⟨2, 1, 1, laws_szRuleS.pin, laws_szRuleS.pout, Glaws_szRuleS⟩ (handAt 86 [8] true ⟨2, 1, 1, laws_szVarS.pin, laws_szVarS.pout, Glaws_szVarS⟩ handNil))
noncomputable def pg (Glaws_szRuleS : laws_szRuleS.PI → Option laws_szRuleS.PO) (Glaws_szVarS : laws_szVarS.PI → Option laws_szVarS.PO) : Prog PO := { nt := 18, np := 1, tb := tabOf tab, hd := hd Glaws_szRuleS Glaws_szVarS, cuts := cutsOf [], fin := endOf (tabOf tab) rs 1 pout }
noncomputable def q : FuncId → Bool := fun f => hasId [86, 87] f
theorem seg0 (Glaws_szRuleS : laws_szRuleS.PI → Option laws_szRuleS.PO) (Glaws_szVarS : laws_szVarS.PI → Option laws_szVarS.PO) (x0 : (List (Int × Int × Int)) × List ((List (Int × Int × Int × Int)) × (List Int) × List (List (Int × Int × Int × Int)))) (x1 : Int) : arun (pg Glaws_szRuleS Glaws_szVarS) 5000 [.code c0] (mk pin (x0, x1, ())) = F0 Glaws_szRuleS Glaws_szVarS x0 x1 := by kernel_rfl
noncomputable def impl : PI → Option PO := fun x => F0 laws_szRuleS.impl laws_szVarS.impl x.1 x.2.1
theorem impl_eq (x0 : (List (Int × Int × Int)) × List ((List (Int × Int × Int × Int)) × (List Int) × List (List (Int × Int × Int × Int)))) (x1 : Int) : impl (x0, x1, ()) = F0 laws_szRuleS.impl laws_szVarS.impl x0 x1 := rfl
theorem con : Con Tryz.prog 36 2 rs.length 1 pin pout impl := by
  refine con_of_run' (nt := 18) (c := c0) tabGood Tryz.func36 (by kernel_rfl) (by kernel_rfl) (by kernel_rfl) (by kernel_rfl) (by kernel_rfl) (by kernel_rfl) (by kernel_rfl) ?_
  intro w0 O y hnp
  generalize hPost : (fun (a' : Act) (w' : World) => ∃ μ' S' st', Rel 18 w0 O μ' S' st' a' w' ∧ endOf (tabOf tab) rs 1 pout st' = some y) = Post
  have fin : ∀ (μ : Id → Option Value) (S : Nat → Prop) (st : St) (a : Act) (w : World), Rel 18 w0 O μ S st a w → endOf (tabOf tab) rs 1 pout st = some y → Post a w := fun μ S st a w h he => by rw [← hPost]; exact ⟨μ, S, st, h, he⟩
  have hp : Parts Tryz.prog 36 (pg laws_szRuleS.impl laws_szVarS.impl) [] := ⟨tab_ok tabGood rfl, (handAt_ok laws_szRuleS.con (handAt_ok laws_szVarS.con handNil_ok)), rfl⟩
  exact good_first (hp) (runOK_of (hp) hnp trivial fin) (fun x => (seg0 laws_szRuleS.impl laws_szVarS.impl x.1 x.2.1))
end laws_szSystem

/-! ### loop.example/wholecheck/laws.szModel -/
namespace laws_szModel
noncomputable abbrev c0 : Code := (Tryz.f8.body).getD .skip
noncomputable abbrev pin : Tpl := ⟨[⟨0, true, [.d (.prod (.sl .str) (.prod (.prod (.sl (.prod (.int .i64) (.prod (.int .i64) (.last (.int .i64))))) (.last (.sl (.prod (.sl (.prod (.int .i64) (.prod (.int .i64) (.prod (.int .i64) (.last (.int .i64)))))) (.prod (.sl (.int .i64)) (.last (.sl (.sl (.prod (.int .i64) (.prod (.int .i64) (.prod (.int .i64) (.last (.int .i64))))))))))))) (.last (.sl (.sl (.prod (.int .i64) (.prod (.int .i64) (.prod (.int .i64) (.last (.int .i64))))))))))]⟩, ⟨1, false, [.d (.int .i64)]⟩], []⟩
noncomputable abbrev pout : Tpl := ⟨[⟨0, false, [.d (.int .i64)]⟩], []⟩
noncomputable abbrev PI := ((List (List UInt8)) × ((List (Int × Int × Int)) × List ((List (Int × Int × Int × Int)) × (List Int) × List (List (Int × Int × Int × Int)))) × List (List (Int × Int × Int × Int))) × Int × Unit
noncomputable abbrev PO := Int × Unit
noncomputable abbrev rs : List ResultVar := [.tmp 4]
noncomputable def F0 (Glaws_szStringS : laws_szStringS.PI → Option laws_szStringS.PO) (Glaws_szSystem : laws_szSystem.PI → Option laws_szSystem.PO) (Glaws_szTermSS : laws_szTermSS.PI → Option laws_szTermSS.PO) (x0 : (List (List UInt8)) × ((List (Int × Int × Int)) × List ((List (Int × Int × Int × Int)) × (List Int) × List (List (Int × Int × Int × Int)))) × List (List (Int × Int × Int × Int))) (x1 : Int) : Option PO :=
  Option.bind (Glaws_szStringS (x0.1, x1, ())) fun y0 =>
  bif decide (y0.1 < 0) then
    some ((-1), ())
  else
    Option.bind (Glaws_szSystem (x0.2.1, y0.1, ())) fun y1 =>
    bif decide (y1.1 < 0) then
      some ((-1), ())
    else
      Option.bind (Glaws_szTermSS (x0.2.2, y1.1, ())) fun y2 =>
      bif decide (y2.1 < 0) then
        some ((-1), ())
      else
        some (y2.1, ())
noncomputable def hd {R : Type} (Glaws_szStringS : laws_szStringS.PI → Option laws_szStringS.PO) (Glaws_szSystem : laws_szSystem.PI → Option laws_szSystem.PO) (Glaws_szTermSS : laws_szTermSS.PI → Option laws_szTermSS.PO) : Hand R := (handAt 37 [20] true ⟨2, 1, 1, laws_szTermSS.pin, laws_szTermSS.pout, Glaws_szTermSS⟩ (handAt 36 [14] true ⟨2, 1, 1, laws_szSystem.pin, laws_szSystem.pout, Glaws_szSystem⟩ (handAt 35 [8] true ⟨2, 1, 1, laws_szStringS.pin, laws_szStringS.pout, Glaws_szStringS⟩ handNil)))
noncomputable def pg (Glaws_szStringS : laws_szStringS.PI → Option laws_szStringS.PO) (Glaws_szSystem : laws_szSystem.PI → Option laws_szSystem.PO) (Glaws_szTermSS : laws_szTermSS.PI → Option laws_szTermSS.PO) : Prog PO := { nt := 24, np := 1, tb := tabOf tab, hd := hd Glaws_szStringS Glaws_szSystem Glaws_szTermSS, cuts := cutsOf [], fin := endOf (tabOf tab) rs 1 pout }
noncomputable def q : FuncId → Bool := fun f => hasId [35, 36, 37] f
theorem seg0 (Glaws_szStringS : laws_szStringS.PI → Option laws_szStringS.PO) (Glaws_szSystem : laws_szSystem.PI → Option laws_szSystem.PO) (Glaws_szTermSS : laws_szTermSS.PI → Option laws_szTermSS.PO) (x0 : (List (List UInt8)) × ((List (Int × Int × Int)) × List ((List (Int × Int × Int × Int)) × (List Int) × List (List (Int × Int × Int × Int)))) × List (List (Int × Int × Int × Int))) (x1 : Int) : arun (pg Glaws_szStringS Glaws_szSystem Glaws_szTermSS) 5000 [.code c0] (mk pin (x0, x1, ())) = F0 Glaws_szStringS Glaws_szSystem Glaws_szTermSS x0 x1 := by kernel_rfl
noncomputable def impl : PI → Option PO := fun x => F0 laws_szStringS.impl laws_szSystem.impl laws_szTermSS.impl x.1 x.2.1
theorem impl_eq (x0 : (List (List UInt8)) × ((List (Int × Int × Int)) × List ((List (Int × Int × Int × Int)) × (List Int) × List (List (Int × Int × Int × Int)))) × List (List (Int × Int × Int × Int))) (x1 : Int) : impl (x0, x1, ()) = F0 laws_szStringS.impl laws_szSystem.impl laws_szTermSS.impl x0 x1 := rfl
theorem con : Con Tryz.prog 8 2 rs.length 1 pin pout impl := by
  refine con_of_run' (nt := 24) (c := c0) tabGood Tryz.func8 (by kernel_rfl) (by kernel_rfl) (by kernel_rfl) (by kernel_rfl) (by kernel_rfl) (by kernel_rfl) (by kernel_rfl) ?_
  intro w0 O y hnp
  generalize hPost : (fun (a' : Act) (w' : World) => ∃ μ' S' st', Rel 24 w0 O μ' S' st' a' w' ∧ endOf (tabOf tab) rs 1 pout st' = some y) = Post
  have fin : ∀ (μ : Id → Option Value) (S : Nat → Prop) (st : St) (a : Act) (w : World), Rel 24 w0 O μ S st a w → endOf (tabOf tab) rs 1 pout st = some y → Post a w := fun μ S st a w h he => by rw [← hPost]; exact ⟨μ, S, st, h, he⟩
  have hp : Parts Tryz.prog 8 (pg laws_szStringS.impl laws_szSystem.impl laws_szTermSS.impl) [] := ⟨tab_ok tabGood rfl, (handAt_ok laws_szTermSS.con (handAt_ok laws_szSystem.con (handAt_ok laws_szStringS.con handNil_ok))), rfl⟩
  exact good_first (hp) (runOK_of (hp) hnp trivial fin) (fun x => (seg0 laws_szStringS.impl laws_szSystem.impl laws_szTermSS.impl x.1 x.2.1))
end laws_szModel

/-! ### loop.example/wholecheck/laws.toStringS -/
namespace laws_toStringS
noncomputable abbrev c0 : Code := (Tryz.f40.body).getD .skip
noncomputable abbrev pin : Tpl := ⟨[⟨0, false, [.d (.sl .str)]⟩], []⟩
noncomputable abbrev pout : Tpl := ⟨[⟨0, false, [.row 600001]⟩], [(600001, .row 9 false .str)]⟩
noncomputable abbrev p3 : Tpl := ⟨[⟨0, false, [.d (.sl .str)]⟩, ⟨3, false, [.row 3000000]⟩, ⟨4, false, [.d (.int .i64)]⟩], [(3000000, .row 9 false .str)]⟩
noncomputable def T3 : List Item := (find 3 c0 []).getD []
noncomputable abbrev PI := (List (List UInt8)) × Unit
noncomputable abbrev PO := (List (List UInt8)) × Unit
noncomputable abbrev P3 := (List (List UInt8)) × Int × (List (List UInt8)) × Unit
noncomputable abbrev rs : List ResultVar := [.tmp 2]
noncomputable def F0 (J3 : P3 → Option PO) (x0 : List (List UInt8)) : Option PO :=
  bif decide (0 ≤ (x0.length : Int)) && decide ((x0.length : Int) ≤ (x0.length : Int)) && decide ((x0.length : Int) * 16 ≤ 140737488355328) then
    J3 (x0, 0, (List.replicate (x0.length : Int).toNat [] : List (List UInt8)), ())
  else
    none
noncomputable def F3 (J3 : P3 → Option PO) (t0 : List (List UInt8)) (t4 : Int) (r0 : List (List UInt8)) : Option PO :=
  bif decide (t4 < (t0.length : Int)) then
    bif inb t4 t0.length then
      bif inb t4 r0.length then
        J3 (t0, wI (t4 + 1), r0.set t4.toNat (t0.getD t4.toNat []), ())
      else
        none
    else
      none
  else
    some (r0, ())
noncomputable def hd {R : Type} : Hand R := handNil
noncomputable def pg (J3 : List Item → P3 → Option PO) : Prog PO := { nt := 22, np := 1, tb := tabOf tab, hd := hd, cuts := cutsOf [(3, cut p3 J3)], fin := endOf (tabOf tab) rs 1 pout }
noncomputable def q : FuncId → Bool := fun f => hasId [] f
theorem seg0 (J3 : List Item → P3 → Option PO) (x0 : List (List UInt8)) : arun (pg J3) 5000 [.code c0] (mk pin (x0, ())) = F0 (J3 T3) x0 := by kernel_rfl
theorem seg3 (J3 : List Item → P3 → Option PO) (t0 : List (List UInt8)) (t4 : Int) (r0 : List (List UInt8)) : arun1 (pg J3) 5000 T3 (mk p3 (t0, t4, r0, ())) = F3 (J3 T3) t0 t4 r0 := by kernel_rfl
noncomputable def L3 : P3 → Option PO := lfp fun J3 x => F3 J3 x.1 x.2.1 x.2.2.1
noncomputable def impl : PI → Option PO := fun x => F0 L3 x.1
theorem F3_le {J3 J3' : P3 → Option PO} (h3 : OLe J3 J3') (t0 : List (List UInt8)) (t4 : Int) (r0 : List (List UInt8)) : OptLe (F3 J3 t0 t4 r0) (F3 J3' t0 t4 r0) := by unfold F3; exact .cond (.cond (.cond (.of h3 _) (.refl _)) (.refl _)) (.refl _)
theorem L3_mono : OMono fun J3 (x : P3) => F3 J3 x.1 x.2.1 x.2.2.1 := fun J J' h3 x => F3_le h3 x.1 x.2.1 x.2.2.1
theorem L3_eq (t0 : List (List UInt8)) (t4 : Int) (r0 : List (List UInt8)) : L3 (t0, t4, r0, ()) = F3 (L3) t0 t4 r0 := congrFun (lfp_eq (L3_mono)) _
theorem impl_eq (x0 : List (List UInt8)) : impl (x0, ()) = F0 L3 x0 := rfl
theorem con : Con Tryz.prog 40 1 rs.length 1 pin pout impl := by
  refine con_of_run' (nt := 22) (c := c0) tabGood Tryz.func40 (by kernel_rfl) (by kernel_rfl) (by kernel_rfl) (by kernel_rfl) (by kernel_rfl) (by kernel_rfl) (by kernel_rfl) ?_
  intro w0 O y hnp
  generalize hPost : (fun (a' : Act) (w' : World) => ∃ μ' S' st', Rel 22 w0 O μ' S' st' a' w' ∧ endOf (tabOf tab) rs 1 pout st' = some y) = Post
  have fin : ∀ (μ : Id → Option Value) (S : Nat → Prop) (st : St) (a : Act) (w : World), Rel 22 w0 O μ S st a w → endOf (tabOf tab) rs 1 pout st = some y → Post a w := fun μ S st a w h he => by rw [← hPost]; exact ⟨μ, S, st, h, he⟩
  have hp : ∀ (J3 : List Item → P3 → Option PO), Parts Tryz.prog 40 (pg J3) [(3, cut p3 J3)] := fun J3 => ⟨tab_ok tabGood rfl, handNil_ok, rfl⟩
  have g3 : Good Tryz.prog 22 w0 O Post y T3 p3 L3 := good_lfp fun J3 h3 => good_part (hp (atT T3 J3)) (runOK_of (hp (atT T3 J3)) hnp ⟨cutOK_at h3, trivial⟩ fin) (fun x => (seg3 (atT T3 J3) x.1 x.2.1 x.2.2.1).trans (by simp only [atT_self] <;> rfl))
  exact good_first (hp (atT T3 L3)) (runOK_of (hp (atT T3 L3)) hnp ⟨cutOK_at g3, trivial⟩ fin) (fun x => (seg0 (atT T3 L3) x.1).trans (by simp only [atT_self] <;> rfl))
end laws_toStringS

/-! ### loop.example/wholecheck/laws.toVar -/
namespace laws_toVar
noncomputable abbrev c0 : Code := (Tryz.f129.body).getD .skip
noncomputable abbrev pin : Tpl := ⟨[⟨0, true, [.d (.prod (.int .i64) (.prod (.int .i64) (.last (.int .i64))))]⟩], []⟩
noncomputable abbrev pout : Tpl := ⟨[⟨0, true, [.d (.prod (.int .i64) (.prod (.int .i64) (.last (.int .i64))))]⟩], []⟩
noncomputable abbrev PI := (Int × Int × Int) × Unit
noncomputable abbrev PO := (Int × Int × Int) × Unit
noncomputable abbrev rs : List ResultVar := [.cell 2 75]
noncomputable def F0 (x0 : Int × Int × Int) : Option PO :=
  some (x0, ())
noncomputable def hd {R : Type} : Hand R := handNil
noncomputable def pg : Prog PO := { nt := 14, np := 1, tb := tabOf tab, hd := hd, cuts := cutsOf [], fin := endOf (tabOf tab) rs 1 pout }
noncomputable def q : FuncId → Bool := fun f => hasId [] f
theorem seg0 (x0 : Int × Int × Int) : arun (pg) 5000 [.code c0] (mk pin (x0, ())) = F0 x0 := by kernel_rfl
noncomputable def impl : PI → Option PO := fun x => F0 x.1
theorem impl_eq (x0 : Int × Int × Int) : impl (x0, ()) = F0 x0 := rfl
theorem con : Con Tryz.prog 129 1 rs.length 1 pin pout impl := by
  refine con_of_run' (nt := 14) (c := c0) tabGood Tryz.func129 (by kernel_rfl) (by kernel_rfl) (by kernel_rfl) (by kernel_rfl) (by kernel_rfl) (by kernel_rfl) (by kernel_rfl) ?_
  intro w0 O y hnp
  generalize hPost : (fun (a' : Act) (w' : World) => ∃ μ' S' st', Rel 14 w0 O μ' S' st' a' w' ∧ endOf (tabOf tab) rs 1 pout st' = some y) = Post
  have fin : ∀ (μ : Id → Option Value) (S : Nat → Prop) (st : St) (a : Act) (w : World), Rel 14 w0 O μ S st a w → endOf (tabOf tab) rs 1 pout st = some y → Post a w := fun μ S st a w h he => by rw [← hPost]; exact ⟨μ, S, st, h, he⟩
  have hp : Parts Tryz.prog 129 (pg) [] := ⟨tab_ok tabGood rfl, handNil_ok, rfl⟩
  exact good_first (hp) (runOK_of (hp) hnp trivial fin) (fun x => (seg0 x.1))
end laws_toVar

/-! ### loop.example/wholecheck/laws.toVarS -/
namespace laws_toVarS
noncomputable abbrev c0 : Code := (Tryz.f91.body).getD .skip
noncomputable abbrev pin : Tpl := ⟨[⟨0, false, [.d (.sl (.prod (.int .i64) (.prod (.int .i64) (.last (.int .i64)))))]⟩], []⟩
noncomputable abbrev pout : Tpl := ⟨[⟨0, false, [.row 600001]⟩], [(600001, .row 75 false (.prod (.int .i64) (.prod (.int .i64) (.last (.int .i64)))))]⟩
noncomputable abbrev p3 : Tpl := ⟨[⟨0, false, [.d (.sl (.prod (.int .i64) (.prod (.int .i64) (.last (.int .i64)))))]⟩, ⟨3, false, [.row 3000000]⟩, ⟨4, false, [.d (.int .i64)]⟩], [(3000000, .row 75 false (.prod (.int .i64) (.prod (.int .i64) (.last (.int .i64)))))]⟩
noncomputable def T3 : List Item := (find 3 c0 []).getD []
noncomputable abbrev PI := (List (Int × Int × Int)) × Unit
noncomputable abbrev PO := (List (Int × Int × Int)) × Unit
noncomputable abbrev P3 := (List (Int × Int × Int)) × Int × (List (Int × Int × Int)) × Unit
noncomputable abbrev rs : List ResultVar := [.tmp 2]
noncomputable def F0 (J3 : P3 → Option PO) (x0 : List (Int × Int × Int)) : Option PO :=
  bif decide (0 ≤ (x0.length : Int)) && decide ((x0.length : Int) ≤ (x0.length : Int)) && decide ((x0.length : Int) * 24 ≤ 140737488355328) then
    J3 (x0, 0, (List.replicate (x0.length : Int).toNat (0, 0, 0) : List (Int × Int × Int)), ())
  else
    none
noncomputable def F3 (J3 : P3 → Option PO) (Glaws_toVar : laws_toVar.PI → Option laws_toVar.PO) (t0 : List (Int × Int × Int)) (t4 : Int) (r0 : List (Int × Int × Int)) : Option PO :=
  bif decide (t4 < (t0.length : Int)) then
    bif inb t4 t0.length then
      Option.bind (Glaws_toVar (t0.getD t4.toNat (0, 0, 0), ())) fun y0 =>
      bif inb t4 r0.length then
        J3 (t0, wI (t4 + 1), r0.set t4.toNat y0.1, ())
      else
        none
    else
      none
  else
    some (r0, ())
noncomputable def hd {R : Type} (Glaws_toVar : laws_toVar.PI → Option laws_toVar.PO) : Hand R := (handAt 129 [20] true ⟨1, 1, 1, laws_toVar.pin, laws_toVar.pout, Glaws_toVar⟩ handNil)
noncomputable def pg (Glaws_toVar : laws_toVar.PI → Option laws_toVar.PO) (J3 : List Item → P3 → Option PO) : Prog PO := { nt := 23, np := 1, tb := tabOf tab, hd := hd Glaws_toVar, cuts := cutsOf [(3, cut p3 J3)], fin := endOf (tabOf tab) rs 1 pout }
noncomputable def q : FuncId → Bool := fun f => hasId [129] f
theorem seg0 (Glaws_toVar : laws_toVar.PI → Option laws_toVar.PO) (J3 : List Item → P3 → Option PO) (x0 : List (Int × Int × Int)) : arun (pg Glaws_toVar J3) 5000 [.code c0] (mk pin (x0, ())) = F0 (J3 T3) x0 := by kernel_rfl
theorem seg3 (Glaws_toVar : laws_toVar.PI → Option laws_toVar.PO) (J3 : List Item → P3 → Option PO) (t0 : List (Int × Int × Int)) (t4 : Int) (r0 : List (Int × Int × Int)) : arun1 (pg Glaws_toVar J3) 5000 T3 (mk p3 (t0, t4, r0, ())) = F3 (J3 T3) Glaws_toVar t0 t4 r0 := by kernel_rfl
noncomputable def L3 : P3 → Option PO := lfp fun J3 x => F3 J3 laws_toVar.impl x.1 x.2.1 x.2.2.1
noncomputable def impl : PI → Option PO := fun x => F0 L3 x.1
theorem F3_le {J3 J3' : P3 → Option PO} (h3 : OLe J3 J3') {Glaws_toVar : laws_toVar.PI → Option laws_toVar.PO} (t0 : List (Int × Int × Int)) (t4 : Int) (r0 : List (Int × Int × Int)) : OptLe (F3 J3 Glaws_toVar t0 t4 r0) (F3 J3' Glaws_toVar t0 t4 r0) := by unfold F3; exact .cond (.cond (.bind (.refl _) fun _ => .cond (.of h3 _) (.refl _)) (.refl _)) (.refl _)
theorem L3_mono : OMono fun J3 (x : P3) => F3 J3 laws_toVar.impl x.1 x.2.1 x.2.2.1 := fun J J' h3 x => F3_le h3 x.1 x.2.1 x.2.2.1
theorem L3_eq (t0 : List (Int × Int × Int)) (t4 : Int) (r0 : List (Int × Int × Int)) : L3 (t0, t4, r0, ()) = F3 (L3) laws_toVar.impl t0 t4 r0 := congrFun (lfp_eq (L3_mono)) _
theorem impl_eq (x0 : List (Int × Int × Int)) : impl (x0, ()) = F0 L3 x0 := rfl
theorem con : Con Tryz.prog 91 1 rs.length 1 pin pout impl := by
  refine con_of_run' (nt := 23) (c := c0) tabGood Tryz.func91 (by kernel_rfl) (by kernel_rfl) (by kernel_rfl) (by kernel_rfl) (by kernel_rfl) (by kernel_rfl) (by kernel_rfl) ?_
  intro w0 O y hnp
  generalize hPost : (fun (a' : Act) (w' : World) => ∃ μ' S' st', Rel 23 w0 O μ' S' st' a' w' ∧ endOf (tabOf tab) rs 1 pout st' = some y) = Post
  have fin : ∀ (μ : Id → Option Value) (S : Nat → Prop) (st : St) (a : Act) (w : World), Rel 23 w0 O μ S st a w → endOf (tabOf tab) rs 1 pout st = some y → Post a w := fun μ S st a w h he => by rw [← hPost]; exact ⟨μ, S, st, h, he⟩
  have hp : ∀ (J3 : List Item → P3 → Option PO), Parts Tryz.prog 91 (pg laws_toVar.impl J3) [(3, cut p3 J3)] := fun J3 => ⟨tab_ok tabGood rfl, (handAt_ok laws_toVar.con handNil_ok), rfl⟩
  have g3 : Good Tryz.prog 23 w0 O Post y T3 p3 L3 := good_lfp fun J3 h3 => good_part (hp (atT T3 J3)) (runOK_of (hp (atT T3 J3)) hnp ⟨cutOK_at h3, trivial⟩ fin) (fun x => (seg3 laws_toVar.impl (atT T3 J3) x.1 x.2.1 x.2.2.1).trans (by simp only [atT_self] <;> rfl))
  exact good_first (hp (atT T3 L3)) (runOK_of (hp (atT T3 L3)) hnp ⟨cutOK_at g3, trivial⟩ fin) (fun x => (seg0 laws_toVar.impl (atT T3 L3) x.1).trans (by simp only [atT_self] <;> rfl))
end laws_toVarS

/-! ### loop.example/wholecheck/laws.toTerm -/
namespace laws_toTerm
noncomputable abbrev c0 : Code := (Tryz.f131.body).getD .skip
noncomputable abbrev pin : Tpl := ⟨[⟨0, true, [.d (.prod (.int .i64) (.prod (.int .i64) (.prod (.int .i64) (.last (.int .i64)))))]⟩], []⟩
noncomputable abbrev pout : Tpl := ⟨[⟨0, true, [.d (.prod (.int .i64) (.prod (.int .i64) (.prod (.int .i64) (.last (.int .i64)))))]⟩], []⟩
noncomputable abbrev PI := (Int × Int × Int × Int) × Unit
noncomputable abbrev PO := (Int × Int × Int × Int) × Unit
noncomputable abbrev rs : List ResultVar := [.cell 2 52]
noncomputable def F0 (x0 : Int × Int × Int × Int) : Option PO :=
  some (x0, ())
noncomputable def hd {R : Type} : Hand R := handNil
noncomputable def pg : Prog PO := { nt := 17, np := 1, tb := tabOf tab, hd := hd, cuts := cutsOf [], fin := endOf (tabOf tab) rs 1 pout }
noncomputable def q : FuncId → Bool := fun f => hasId [] f
theorem seg0 (x0 : Int × Int × Int × Int) : arun (pg) 5000 [.code c0] (mk pin (x0, ())) = F0 x0 := by kernel_rfl
noncomputable def impl : PI → Option PO := fun x => F0 x.1
theorem impl_eq (x0 : Int × Int × Int × Int) : impl (x0, ()) = F0 x0 := rfl
theorem con : Con Tryz.prog 131 1 rs.length 1 pin pout impl := by
  refine con_of_run' (nt := 17) (c := c0) tabGood Tryz.func131 (by kernel_rfl) (by kernel_rfl) (by kernel_rfl) (by kernel_rfl) (by kernel_rfl) (by kernel_rfl) (by kernel_rfl) ?_
  intro w0 O y hnp
  generalize hPost : (fun (a' : Act) (w' : World) => ∃ μ' S' st', Rel 17 w0 O μ' S' st' a' w' ∧ endOf (tabOf tab) rs 1 pout st' = some y) = Post
  have fin : ∀ (μ : Id → Option Value) (S : Nat → Prop) (st : St) (a : Act) (w : World), Rel 17 w0 O μ S st a w → endOf (tabOf tab) rs 1 pout st = some y → Post a w := fun μ S st a w h he => by rw [← hPost]; exact ⟨μ, S, st, h, he⟩
  have hp : Parts Tryz.prog 131 (pg) [] := ⟨tab_ok tabGood rfl, handNil_ok, rfl⟩
  exact good_first (hp) (runOK_of (hp) hnp trivial fin) (fun x => (seg0 x.1))
end laws_toTerm

/-! ### loop.example/wholecheck/laws.toTermS -/
namespace laws_toTermS
noncomputable abbrev c0 : Code := (Tryz.f93.body).getD .skip
noncomputable abbrev pin : Tpl := ⟨[⟨0, false, [.d (.sl (.prod (.int .i64) (.prod (.int .i64) (.prod (.int .i64) (.last (.int .i64))))))]⟩], []⟩
noncomputable abbrev pout : Tpl := ⟨[⟨0, false, [.row 600001]⟩], [(600001, .row 52 false (.prod (.int .i64) (.prod (.int .i64) (.prod (.int .i64) (.last (.int .i64))))))]⟩
noncomputable abbrev p3 : Tpl := ⟨[⟨0, false, [.d (.sl (.prod (.int .i64) (.prod (.int .i64) (.prod (.int .i64) (.last (.int .i64))))))]⟩, ⟨3, false, [.row 3000000]⟩, ⟨4, false, [.d (.int .i64)]⟩], [(3000000, .row 52 false (.prod (.int .i64) (.prod (.int .i64) (.prod (.int .i64) (.last (.int .i64))))))]⟩
noncomputable def T3 : List Item := (find 3 c0 []).getD []
noncomputable abbrev PI := (List (Int × Int × Int × Int)) × Unit
noncomputable abbrev PO := (List (Int × Int × Int × Int)) × Unit
noncomputable abbrev P3 := (List (Int × Int × Int × Int)) × Int × (List (Int × Int × Int × Int)) × Unit
noncomputable abbrev rs : List ResultVar := [.tmp 2]
noncomputable def F0 (J3 : P3 → Option PO) (x0 : List (Int × Int × Int × Int)) : Option PO :=
  bif decide (0 ≤ (x0.length : Int)) && decide ((x0.length : Int) ≤ (x0.length : Int)) && decide ((x0.length : Int) * 32 ≤ 140737488355328) then
    J3 (x0, 0, (List.replicate (x0.length : Int).toNat (0, 0, 0, 0) : List (Int × Int × Int × Int)), ())
  else
    none
noncomputable def F3 (J3 : P3 → Option PO) (Glaws_toTerm : laws_toTerm.PI → Option laws_toTerm.PO) (t0 : List (Int × Int × Int × Int)) (t4 : Int) (r0 : List (Int × Int × Int × Int)) : Option PO :=
  bif decide (t4 < (t0.length : Int)) then
    bif inb t4 t0.length then
      Option.bind (Glaws_toTerm (t0.getD t4.toNat (0, 0, 0, 0), ())) fun y0 =>
      bif inb t4 r0.length then
        J3 (t0, wI (t4 + 1), r0.set t4.toNat y0.1, ())
      else
        none
    else
      none
  else
    some (r0, ())
noncomputable def hd {R : Type} (Glaws_toTerm : laws_toTerm.PI → Option laws_toTerm.PO) : Hand R := (handAt 131 [20] true ⟨1, 1, 1, laws_toTerm.pin, laws_toTerm.pout, Glaws_toTerm⟩ handNil)
noncomputable def pg (Glaws_toTerm : laws_toTerm.PI → Option laws_toTerm.PO) (J3 : List Item → P3 → Option PO) : Prog PO := { nt := 23, np := 1, tb := tabOf tab, hd := hd Glaws_toTerm, cuts := cutsOf [(3, cut p3 J3)], fin := endOf (tabOf tab) rs 1 pout }
noncomputable def q : FuncId → Bool := fun f => hasId [131] f
theorem seg0 (Glaws_toTerm : laws_toTerm.PI → Option laws_toTerm.PO) (J3 : List Item → P3 → Option PO) (x0 : List (Int × Int × Int × Int)) : arun (pg Glaws_toTerm J3) 5000 [.code c0] (mk pin (x0, ())) = F0 (J3 T3) x0 := by kernel_rfl
theorem seg3 (Glaws_toTerm : laws_toTerm.PI → Option laws_toTerm.PO) (J3 : List Item → P3 → Option PO) (t0 : List (Int × Int × Int × Int)) (t4 : Int) (r0 : List (Int × Int × Int × Int)) : arun1 (pg Glaws_toTerm J3) 5000 T3 (mk p3 (t0, t4, r0, ())) = F3 (J3 T3) Glaws_toTerm t0 t4 r0 := by kernel_rfl
noncomputable def L3 : P3 → Option PO := lfp fun J3 x => F3 J3 laws_toTerm.impl x.1 x.2.1 x.2.2.1
noncomputable def impl : PI → Option PO := fun x => F0 L3 x.1
theorem F3_le {J3 J3' : P3 → Option PO} (h3 : OLe J3 J3') {Glaws_toTerm : laws_toTerm.PI → Option laws_toTerm.PO} (t0 : List (Int × Int × Int × Int)) (t4 : Int) (r0 : List (Int × Int × Int × Int)) : OptLe (F3 J3 Glaws_toTerm t0 t4 r0) (F3 J3' Glaws_toTerm t0 t4 r0) := by unfold F3; exact .cond (.cond (.bind (.refl _) fun _ => .cond (.of h3 _) (.refl _)) (.refl _)) (.refl _)
theorem L3_mono : OMono fun J3 (x : P3) => F3 J3 laws_toTerm.impl x.1 x.2.1 x.2.2.1 := fun J J' h3 x => F3_le h3 x.1 x.2.1 x.2.2.1
theorem L3_eq (t0 : List (Int × Int × Int × Int)) (t4 : Int) (r0 : List (Int × Int × Int × Int)) : L3 (t0, t4, r0, ()) = F3 (L3) laws_toTerm.impl t0 t4 r0 := congrFun (lfp_eq (L3_mono)) _
theorem impl_eq (x0 : List (Int × Int × Int × Int)) : impl (x0, ()) = F0 L3 x0 := rfl
theorem con : Con Tryz.prog 93 1 rs.length 1 pin pout impl := by
  refine con_of_run' (nt := 23) (c := c0) tabGood Tryz.func93 (by kernel_rfl) (by kernel_rfl) (by kernel_rfl) (by kernel_rfl) (by kernel_rfl) (by kernel_rfl) (by kernel_rfl) ?_
  intro w0 O y hnp
  generalize hPost : (fun (a' : Act) (w' : World) => ∃ μ' S' st', Rel 23 w0 O μ' S' st' a' w' ∧ endOf (tabOf tab) rs 1 pout st' = some y) = Post
  have fin : ∀ (μ : Id → Option Value) (S : Nat → Prop) (st : St) (a : Act) (w : World), Rel 23 w0 O μ S st a w → endOf (tabOf tab) rs 1 pout st = some y → Post a w := fun μ S st a w h he => by rw [← hPost]; exact ⟨μ, S, st, h, he⟩
  have hp : ∀ (J3 : List Item → P3 → Option PO), Parts Tryz.prog 93 (pg laws_toTerm.impl J3) [(3, cut p3 J3)] := fun J3 => ⟨tab_ok tabGood rfl, (handAt_ok laws_toTerm.con handNil_ok), rfl⟩
  have g3 : Good Tryz.prog 23 w0 O Post y T3 p3 L3 := good_lfp fun J3 h3 => good_part (hp (atT T3 J3)) (runOK_of (hp (atT T3 J3)) hnp ⟨cutOK_at h3, trivial⟩ fin) (fun x => (seg3 laws_toTerm.impl (atT T3 J3) x.1 x.2.1 x.2.2.1).trans (by simp only [atT_self] <;> rfl))
  exact good_first (hp (atT T3 L3)) (runOK_of (hp (atT T3 L3)) hnp ⟨cutOK_at g3, trivial⟩ fin) (fun x => (seg0 laws_toTerm.impl (atT T3 L3) x.1).trans (by simp only [atT_self] <;> rfl))
end laws_toTermS

/-! ### loop.example/wholecheck/laws.toIntS -/
namespace laws_toIntS
noncomputable abbrev c0 : Code := (Tryz.f167.body).getD .skip
noncomputable abbrev pin : Tpl := ⟨[⟨0, false, [.d (.sl (.int .i64))]⟩], []⟩
noncomputable abbrev pout : Tpl := ⟨[⟨0, false, [.row 600001]⟩], [(600001, .row 3 false (.int .i64))]⟩
noncomputable abbrev p3 : Tpl := ⟨[⟨0, false, [.d (.sl (.int .i64))]⟩, ⟨3, false, [.row 3000000]⟩, ⟨4, false, [.d (.int .i64)]⟩], [(3000000, .row 3 false (.int .i64))]⟩
noncomputable def T3 : List Item := (find 3 c0 []).getD []
noncomputable abbrev PI := (List Int) × Unit
noncomputable abbrev PO := (List Int) × Unit
noncomputable abbrev P3 := (List Int) × Int × (List Int) × Unit
noncomputable abbrev rs : List ResultVar := [.tmp 2]
noncomputable def F0 (J3 : P3 → Option PO) (x0 : List Int) : Option PO :=
  bif decide (0 ≤ (x0.length : Int)) && decide ((x0.length : Int) ≤ (x0.length : Int)) && decide ((x0.length : Int) * 8 ≤ 140737488355328) then
    J3 (x0, 0, (List.replicate (x0.length : Int).toNat 0 : List Int), ())
  else
    none
noncomputable def F3 (J3 : P3 → Option PO) (t0 : List Int) (t4 : Int) (r0 : List Int) : Option PO :=
  bif decide (t4 < (t0.length : Int)) then
    bif inb t4 t0.length then
      bif inb t4 r0.length then
        J3 (t0, wI (t4 + 1), r0.set t4.toNat (t0.getD t4.toNat 0), ())
      else
        none
    else
      none
  else
    some (r0, ())
noncomputable def hd {R : Type} : Hand R := handNil
noncomputable def pg (J3 : List Item → P3 → Option PO) : Prog PO := { nt := 22, np := 1, tb := tabOf tab, hd := hd, cuts := cutsOf [(3, cut p3 J3)], fin := endOf (tabOf tab) rs 1 pout }
noncomputable def q : FuncId → Bool := fun f => hasId [] f
theorem seg0 (J3 : List Item → P3 → Option PO) (x0 : List Int) : arun (pg J3) 5000 [.code c0] (mk pin (x0, ())) = F0 (J3 T3) x0 := by kernel_rfl
theorem seg3 (J3 : List Item → P3 → Option PO) (t0 : List Int) (t4 : Int) (r0 : List Int) : arun1 (pg J3) 5000 T3 (mk p3 (t0, t4, r0, ())) = F3 (J3 T3) t0 t4 r0 := by kernel_rfl
noncomputable def L3 : P3 → Option PO := lfp fun J3 x => F3 J3 x.1 x.2.1 x.2.2.1
noncomputable def impl : PI → Option PO := fun x => F0 L3 x.1
theorem F3_le {J3 J3' : P3 → Option PO} (h3 : OLe J3 J3') (t0 : List Int) (t4 : Int) (r0 : List Int) : OptLe (F3 J3 t0 t4 r0) (F3 J3' t0 t4 r0) := by unfold F3; exact .cond (.cond (.cond (.of h3 _) (.refl _)) (.refl _)) (.refl _)
theorem L3_mono : OMono fun J3 (x : P3) => F3 J3 x.1 x.2.1 x.2.2.1 := fun J J' h3 x => F3_le h3 x.1 x.2.1 x.2.2.1
theorem L3_eq (t0 : List Int) (t4 : Int) (r0 : List Int) : L3 (t0, t4, r0, ()) = F3 (L3) t0 t4 r0 := congrFun (lfp_eq (L3_mono)) _
theorem impl_eq (x0 : List Int) : impl (x0, ()) = F0 L3 x0 := rfl
theorem con : Con Tryz.prog 167 1 rs.length 1 pin pout impl := by
  refine con_of_run' (nt := 22) (c := c0) tabGood Tryz.func167 (by kernel_rfl) (by kernel_rfl) (by kernel_rfl) (by kernel_rfl) (by kernel_rfl) (by kernel_rfl) (by kernel_rfl) ?_
  intro w0 O y hnp
  generalize hPost : (fun (a' : Act) (w' : World) => ∃ μ' S' st', Rel 22 w0 O μ' S' st' a' w' ∧ endOf (tabOf tab) rs 1 pout st' = some y) = Post
  have fin : ∀ (μ : Id → Option Value) (S : Nat → Prop) (st : St) (a : Act) (w : World), Rel 22 w0 O μ S st a w → endOf (tabOf tab) rs 1 pout st = some y → Post a w := fun μ S st a w h he => by rw [← hPost]; exact ⟨μ, S, st, h, he⟩
  have hp : ∀ (J3 : List Item → P3 → Option PO), Parts Tryz.prog 167 (pg J3) [(3, cut p3 J3)] := fun J3 => ⟨tab_ok tabGood rfl, handNil_ok, rfl⟩
  have g3 : Good Tryz.prog 22 w0 O Post y T3 p3 L3 := good_lfp fun J3 h3 => good_part (hp (atT T3 J3)) (runOK_of (hp (atT T3 J3)) hnp ⟨cutOK_at h3, trivial⟩ fin) (fun x => (seg3 (atT T3 J3) x.1 x.2.1 x.2.2.1).trans (by simp only [atT_self] <;> rfl))
  exact good_first (hp (atT T3 L3)) (runOK_of (hp (atT T3 L3)) hnp ⟨cutOK_at g3, trivial⟩ fin) (fun x => (seg0 (atT T3 L3) x.1).trans (by simp only [atT_self] <;> rfl))
end laws_toIntS

/-! ### loop.example/wholecheck/laws.toTermSS -/
namespace laws_toTermSS
noncomputable abbrev c0 : Code := (Tryz.f42.body).getD .skip
noncomputable abbrev pin : Tpl := ⟨[⟨0, false, [.d (.sl (.sl (.prod (.int .i64) (.prod (.int .i64) (.prod (.int .i64) (.last (.int .i64)))))))]⟩], []⟩
noncomputable abbrev pout : Tpl := ⟨[⟨0, false, [.row 600001]⟩], [(600001, .row 43 false (.sl (.prod (.int .i64) (.prod (.int .i64) (.prod (.int .i64) (.last (.int .i64)))))))]⟩
noncomputable abbrev p3 : Tpl := ⟨[⟨0, false, [.d (.sl (.sl (.prod (.int .i64) (.prod (.int .i64) (.prod (.int .i64) (.last (.int .i64)))))))]⟩, ⟨3, false, [.row 3000000]⟩, ⟨4, false, [.d (.int .i64)]⟩], [(3000000, .row 43 false (.sl (.prod (.int .i64) (.prod (.int .i64) (.prod (.int .i64) (.last (.int .i64)))))))]⟩
noncomputable def T3 : List Item := (find 3 c0 []).getD []
noncomputable abbrev PI := (List (List (Int × Int × Int × Int))) × Unit
noncomputable abbrev PO := (List (List (Int × Int × Int × Int))) × Unit
noncomputable abbrev P3 := (List (List (Int × Int × Int × Int))) × Int × (List (List (Int × Int × Int × Int))) × Unit
noncomputable abbrev rs : List ResultVar := [.tmp 2]
noncomputable def F0 (J3 : P3 → Option PO) (x0 : List (List (Int × Int × Int × Int))) : Option PO :=
  bif decide (0 ≤ (x0.length : Int)) && decide ((x0.length : Int) ≤ (x0.length : Int)) && decide ((x0.length : Int) * 24 ≤ 140737488355328) then
    J3 (x0, 0, (List.replicate (x0.length : Int).toNat [] : List (List (Int × Int × Int × Int))), ())
  else
    none
noncomputable def F3 (J3 : P3 → Option PO) (Glaws_toTermS : laws_toTermS.PI → Option laws_toTermS.PO) (t0 : List (List (Int × Int × Int × Int))) (t4 : Int) (r0 : List (List (Int × Int × Int × Int))) : Option PO :=
  bif decide (t4 < (t0.length : Int)) then
    bif inb t4 t0.length then
      Option.bind (Glaws_toTermS (t0.getD t4.toNat [], ())) fun y0 =>
      bif inb t4 r0.length then
        J3 (t0, wI (t4 + 1), r0.set t4.toNat y0.1, ())
      else
        none
    else
      none
  else
    some (r0, ())
noncomputable def hd {R : Type} (Glaws_toTermS : laws_toTermS.PI → Option laws_toTermS.PO) : Hand R := (handAt 93 [20] true ⟨1, 1, 1, laws_toTermS.pin, laws_toTermS.pout, Glaws_toTermS⟩ handNil)
noncomputable def pg (Glaws_toTermS : laws_toTermS.PI → Option laws_toTermS.PO) (J3 : List Item → P3 → Option PO) : Prog PO := { nt := 23, np := 1, tb := tabOf tab, hd := hd Glaws_toTermS, cuts := cutsOf [(3, cut p3 J3)], fin := endOf (tabOf tab) rs 1 pout }
noncomputable def q : FuncId → Bool := fun f => hasId [] f
theorem seg0 (Glaws_toTermS : laws_toTermS.PI → Option laws_toTermS.PO) (J3 : List Item → P3 → Option PO) (x0 : List (List (Int × Int × Int × Int))) : arun (pg Glaws_toTermS J3) 5000 [.code c0] (mk pin (x0, ())) = F0 (J3 T3) x0 := by kernel_rfl
theorem seg3 (Glaws_toTermS : laws_toTermS.PI → Option laws_toTermS.PO) (J3 : List Item → P3 → Option PO) (t0 : List (List (Int × Int × Int × Int))) (t4 : Int) (r0 : List (List (Int × Int × Int × Int))) : arun1 (pg Glaws_toTermS J3) 5000 T3 (mk p3 (t0, t4, r0, ())) = F3 (J3 T3) Glaws_toTermS t0 t4 r0 := by kernel_rfl
noncomputable def L3 : P3 → Option PO := lfp fun J3 x => F3 J3 laws_toTermS.impl x.1 x.2.1 x.2.2.1
noncomputable def impl : PI → Option PO := fun x => F0 L3 x.1
theorem F3_le {J3 J3' : P3 → Option PO} (h3 : OLe J3 J3') {Glaws_toTermS : laws_toTermS.PI → Option laws_toTermS.PO} (t0 : List (List (Int × Int × Int × Int))) (t4 : Int) (r0 : List (List (Int × Int × Int × Int))) : OptLe (F3 J3 Glaws_toTermS t0 t4 r0) (F3 J3' Glaws_toTermS t0 t4 r0) := by unfold F3; exact .cond (.cond (.bind (.refl _) fun _ => .cond (.of h3 _) (.refl _)) (.refl _)) (.refl _)
theorem L3_mono : OMono fun J3 (x : P3) => F3 J3 laws_toTermS.impl x.1 x.2.1 x.2.2.1 := fun J J' h3 x => F3_le h3 x.1 x.2.1 x.2.2.1
theorem L3_eq (t0 : List (List (Int × Int × Int × Int))) (t4 : Int) (r0 : List (List (Int × Int × Int × Int))) : L3 (t0, t4, r0, ()) = F3 (L3) laws_toTermS.impl t0 t4 r0 := congrFun (lfp_eq (L3_mono)) _
theorem impl_eq (x0 : List (List (Int × Int × Int × Int))) : impl (x0, ()) = F0 L3 x0 := rfl
theorem con : Con Tryz.prog 42 1 rs.length 1 pin pout impl := by
  refine con_of_run' (nt := 23) (c := c0) tabGood Tryz.func42 (by kernel_rfl) (by kernel_rfl) (by kernel_rfl) (by kernel_rfl) (by kernel_rfl) (by kernel_rfl) (by kernel_rfl) ?_
  intro w0 O y hnp
  generalize hPost : (fun (a' : Act) (w' : World) => ∃ μ' S' st', Rel 23 w0 O μ' S' st' a' w' ∧ endOf (tabOf tab) rs 1 pout st' = some y) = Post
  have fin : ∀ (μ : Id → Option Value) (S : Nat → Prop) (st : St) (a : Act) (w : World), Rel 23 w0 O μ S st a w → endOf (tabOf tab) rs 1 pout st = some y → Post a w := fun μ S st a w h he => by rw [← hPost]; exact ⟨μ, S, st, h, he⟩
  have hp : ∀ (J3 : List Item → P3 → Option PO), Parts Tryz.prog 42 (pg laws_toTermS.impl J3) [(3, cut p3 J3)] := fun J3 => ⟨tab_ok tabGood rfl, (handAt_ok laws_toTermS.con handNil_ok), rfl⟩
  have g3 : Good Tryz.prog 23 w0 O Post y T3 p3 L3 := good_lfp fun J3 h3 => good_part (hp (atT T3 J3)) (runOK_of (hp (atT T3 J3)) hnp ⟨cutOK_at h3, trivial⟩ fin) (fun x => (seg3 laws_toTermS.impl (atT T3 J3) x.1 x.2.1 x.2.2.1).trans (by simp only [atT_self] <;> rfl))
  exact good_first (hp (atT T3 L3)) (runOK_of (hp (atT T3 L3)) hnp ⟨cutOK_at g3, trivial⟩ fin) (fun x => (seg0 laws_toTermS.impl (atT T3 L3) x.1).trans (by simp only [atT_self] <;> rfl))
end laws_toTermSS

/-! ### loop.example/wholecheck/laws.toRule -/
namespace laws_toRule
noncomputable abbrev c0 : Code := (Tryz.f130.body).getD .skip
noncomputable abbrev pin : Tpl := ⟨[⟨0, true, [.d (.prod (.sl (.prod (.int .i64) (.prod (.int .i64) (.prod (.int .i64) (.last (.int .i64)))))) (.prod (.sl (.int .i64)) (.last (.sl (.sl (.prod (.int .i64) (.prod (.int .i64) (.prod (.int .i64) (.last (.int .i64))))))))))]⟩], []⟩
noncomputable abbrev pout : Tpl := ⟨[⟨0, true, [.row 600001, .row 600002, .row 600003]⟩], [(600001, .row 52 false (.prod (.int .i64) (.prod (.int .i64) (.prod (.int .i64) (.last (.int .i64)))))), (600002, .row 3 false (.int .i64)), (600003, .row 43 false (.sl (.prod (.int .i64) (.prod (.int .i64) (.prod (.int .i64) (.last (.int .i64)))))))]⟩
noncomputable abbrev PI := ((List (Int × Int × Int × Int)) × (List Int) × List (List (Int × Int × Int × Int))) × Unit
noncomputable abbrev PO := (List (Int × Int × Int × Int)) × (List Int) × (List (List (Int × Int × Int × Int))) × Unit
noncomputable abbrev rs : List ResultVar := [.cell 2 78]
noncomputable def F0 (Glaws_toIntS : laws_toIntS.PI → Option laws_toIntS.PO) (Glaws_toTermS : laws_toTermS.PI → Option laws_toTermS.PO) (Glaws_toTermSS : laws_toTermSS.PI → Option laws_toTermSS.PO) (x0 : (List (Int × Int × Int × Int)) × (List Int) × List (List (Int × Int × Int × Int))) : Option PO :=
  Option.bind (Glaws_toTermS (x0.1, ())) fun y0 =>
  Option.bind (Glaws_toIntS (x0.2.1, ())) fun y1 =>
  Option.bind (Glaws_toTermSS (x0.2.2, ())) fun y2 =>
  some (y0.1, y1.1, y2.1, ())
noncomputable def hd {R : Type} (Glaws_toIntS : laws_toIntS.PI → Option laws_toIntS.PO) (Glaws_toTermS : laws_toTermS.PI → Option laws_toTermS.PO) (Glaws_toTermSS : laws_toTermSS.PI → Option laws_toTermSS.PO) : Hand R := (handAt 167 [10] true ⟨1, 1, 1, laws_toIntS.pin, laws_toIntS.pout, Glaws_toIntS⟩ (handAt 93 [6] true ⟨1, 1, 1, laws_toTermS.pin, laws_toTermS.pout, Glaws_toTermS⟩ (handAt 42 [14] false ⟨1, 1, 1, laws_toTermSS.pin, laws_toTermSS.pout, Glaws_toTermSS⟩ handNil)))
noncomputable def pg (Glaws_toIntS : laws_toIntS.PI → Option laws_toIntS.PO) (Glaws_toTermS : laws_toTermS.PI → Option laws_toTermS.PO) (Glaws_toTermSS : laws_toTermSS.PI → Option laws_toTermSS.PO) : Prog PO := { nt := 17, np := 1, tb := tabOf tab, hd := hd Glaws_toIntS Glaws_toTermS Glaws_toTermSS, cuts := cutsOf [], fin := endOf (tabOf tab) rs 1 pout }
noncomputable def q : FuncId → Bool := fun f => hasId [] f
theorem seg0 (Glaws_toIntS : laws_toIntS.PI → Option laws_toIntS.PO) (Glaws_toTermS : laws_toTermS.PI → Option laws_toTermS.PO) (Glaws_toTermSS : laws_toTermSS.PI → Option laws_toTermSS.PO) (x0 : (List (Int × Int × Int × Int)) × (List Int) × List (List (Int × Int × Int × Int))) : arun (pg Glaws_toIntS Glaws_toTermS Glaws_toTermSS) 5000 [.code c0] (mk pin (x0, ())) = F0 Glaws_toIntS Glaws_toTermS Glaws_toTermSS x0 := by kernel_rfl
noncomputable def impl : PI → Option PO := fun x => F0 laws_toIntS.impl laws_toTermS.impl laws_toTermSS.impl x.1
theorem impl_eq (x0 : (List (Int × Int × Int × Int)) × (List Int) × List (List (Int × Int × Int × Int))) : impl (x0, ()) = F0 laws_toIntS.impl laws_toTermS.impl laws_toTermSS.impl x0 := rfl
theorem con : Con Tryz.prog 130 1 rs.length 1 pin pout impl := by
  refine con_of_run' (nt := 17) (c := c0) tabGood Tryz.func130 (by kernel_rfl) (by kernel_rfl) (by kernel_rfl) (by kernel_rfl) (by kernel_rfl) (by kernel_rfl) (by kernel_rfl) ?_
  intro w0 O y hnp
  generalize hPost : (fun (a' : Act) (w' : World) => ∃ μ' S' st', Rel 17 w0 O μ' S' st' a' w' ∧ endOf (tabOf tab) rs 1 pout st' = some y) = Post
  have fin : ∀ (μ : Id → Option Value) (S : Nat → Prop) (st : St) (a : Act) (w : World), Rel 17 w0 O μ S st a w → endOf (tabOf tab) rs 1 pout st = some y → Post a w := fun μ S st a w h he => by rw [← hPost]; exact ⟨μ, S, st, h, he⟩
  have hp : Parts Tryz.prog 130 (pg laws_toIntS.impl laws_toTermS.impl laws_toTermSS.impl) [] := ⟨tab_ok tabGood rfl, (handAt_ok laws_toIntS.con (handAt_ok laws_toTermS.con (handAt_ok laws_toTermSS.con handNil_ok))), rfl⟩
  exact good_first (hp) (runOK_of (hp) hnp trivial fin) (fun x => (seg0 laws_toIntS.impl laws_toTermS.impl laws_toTermSS.impl x.1))
end laws_toRule

/-! ### loop.example/wholecheck/laws.toRuleS -/
namespace laws_toRuleS
noncomputable abbrev c0 : Code := (Tryz.f92.body).getD .skip
noncomputable abbrev pin : Tpl := ⟨[⟨0, false, [.d (.sl (.prod (.sl (.prod (.int .i64) (.prod (.int .i64) (.prod (.int .i64) (.last (.int .i64)))))) (.prod (.sl (.int .i64)) (.last (.sl (.sl (.prod (.int .i64) (.prod (.int .i64) (.prod (.int .i64) (.last (.int .i64)))))))))))]⟩], []⟩
noncomputable abbrev pout : Tpl := ⟨[⟨0, false, [.row 600001]⟩], [(600001, .row 78 false (.prod (.sl (.prod (.int .i64) (.prod (.int .i64) (.prod (.int .i64) (.last (.int .i64)))))) (.prod (.sl (.int .i64)) (.last (.sl (.sl (.prod (.int .i64) (.prod (.int .i64) (.prod (.int .i64) (.last (.int .i64)))))))))))]⟩
noncomputable abbrev p3 : Tpl := ⟨[⟨0, false, [.d (.sl (.prod (.sl (.prod (.int .i64) (.prod (.int .i64) (.prod (.int .i64) (.last (.int .i64)))))) (.prod (.sl (.int .i64)) (.last (.sl (.sl (.prod (.int .i64) (.prod (.int .i64) (.prod (.int .i64) (.last (.int .i64)))))))))))]⟩, ⟨3, false, [.row 3000000]⟩, ⟨4, false, [.d (.int .i64)]⟩], [(3000000, .row 78 false (.prod (.sl (.prod (.int .i64) (.prod (.int .i64) (.prod (.int .i64) (.last (.int .i64)))))) (.prod (.sl (.int .i64)) (.last (.sl (.sl (.prod (.int .i64) (.prod (.int .i64) (.prod (.int .i64) (.last (.int .i64)))))))))))]⟩
noncomputable def T3 : List Item := (find 3 c0 []).getD []
noncomputable abbrev PI := (List ((List (Int × Int × Int × Int)) × (List Int) × List (List (Int × Int × Int × Int)))) × Unit
noncomputable abbrev PO := (List ((List (Int × Int × Int × Int)) × (List Int) × List (List (Int × Int × Int × Int)))) × Unit
noncomputable abbrev P3 := (List ((List (Int × Int × Int × Int)) × (List Int) × List (List (Int × Int × Int × Int)))) × Int × (List ((List (Int × Int × Int × Int)) × (List Int) × List (List (Int × Int × Int × Int)))) × Unit
noncomputable abbrev rs : List ResultVar := [.tmp 2]
noncomputable def F0 (J3 : P3 → Option PO) (x0 : List ((List (Int × Int × Int × Int)) × (List Int) × List (List (Int × Int × Int × Int)))) : Option PO :=
  bif decide (0 ≤ (x0.length : Int)) && decide ((x0.length : Int) ≤ (x0.length : Int)) && decide ((x0.length : Int) * 72 ≤ 140737488355328) then
    J3 (x0, 0, (List.replicate (x0.length : Int).toNat ([], [], []) : List ((List (Int × Int × Int × Int)) × (List Int) × List (List (Int × Int × Int × Int)))), ())
  else
    none
noncomputable def F3 (J3 : P3 → Option PO) (Glaws_toRule : laws_toRule.PI → Option laws_toRule.PO) (t0 : List ((List (Int × Int × Int × Int)) × (List Int) × List (List (Int × Int × Int × Int)))) (t4 : Int) (r0 : List ((List (Int × Int × Int × Int)) × (List Int) × List (List (Int × Int × Int × Int)))) : Option PO :=
  bif decide (t4 < (t0.length : Int)) then
    bif inb t4 t0.length then
      Option.bind (Glaws_toRule (t0.getD t4.toNat ([], [], []), ())) fun y0 =>
      bif inb t4 r0.length then
        J3 (t0, wI (t4 + 1), r0.set t4.toNat (y0.1, y0.2.1, y0.2.2.1), ())
      else
        none
    else
      none
  else
    some (r0, ())
noncomputable def hd {R : Type} (Glaws_toRule : laws_toRule.PI → Option laws_toRule.PO) : Hand R := (handAt 130 [20] false ⟨1, 1, 1, laws_toRule.pin, laws_toRule.pout, Glaws_toRule⟩ handNil)
noncomputable def pg (Glaws_toRule : laws_toRule.PI → Option laws_toRule.PO) (J3 : List Item → P3 → Option PO) : Prog PO := { nt := 23, np := 1, tb := tabOf tab, hd := hd Glaws_toRule, cuts := cutsOf [(3, cut p3 J3)], fin := endOf (tabOf tab) rs 1 pout }
noncomputable def q : FuncId → Bool := fun f => hasId [] f
theorem seg0 (Glaws_toRule : laws_toRule.PI → Option laws_toRule.PO) (J3 : List Item → P3 → Option PO) (x0 : List ((List (Int × Int × Int × Int)) × (List Int) × List (List (Int × Int × Int × Int)))) : arun (pg Glaws_toRule J3) 5000 [.code c0] (mk pin (x0, ())) = F0 (J3 T3) x0 := by kernel_rfl
theorem seg3 (Glaws_toRule : laws_toRule.PI → Option laws_toRule.PO) (J3 : List Item → P3 → Option PO) (t0 : List ((List (Int × Int × Int × Int)) × (List Int) × List (List (Int × Int × Int × Int)))) (t4 : Int) (r0 : List ((List (Int × Int × Int × Int)) × (List Int) × List (List (Int × Int × Int × Int)))) : arun1 (pg Glaws_toRule J3) 5000 T3 (mk p3 (t0, t4, r0, ())) = F3 (J3 T3) Glaws_toRule t0 t4 r0 := by kernel_rfl
noncomputable def L3 : P3 → Option PO := lfp fun J3 x => F3 J3 laws_toRule.impl x.1 x.2.1 x.2.2.1
noncomputable def impl : PI → Option PO := fun x => F0 L3 x.1
theorem F3_le {J3 J3' : P3 → Option PO} (h3 : OLe J3 J3') {Glaws_toRule : laws_toRule.PI → Option laws_toRule.PO} (t0 : List ((List (Int × Int × Int × Int)) × (List Int) × List (List (Int × Int × Int × Int)))) (t4 : Int) (r0 : List ((List (Int × Int × Int × Int)) × (List Int) × List (List (Int × Int × Int × Int)))) : OptLe (F3 J3 Glaws_toRule t0 t4 r0) (F3 J3' Glaws_toRule t0 t4 r0) := by unfold F3; exact .cond (.cond (.bind (.refl _) fun _ => .cond (.of h3 _) (.refl _)) (.refl _)) (.refl _)
theorem L3_mono : OMono fun J3 (x : P3) => F3 J3 laws_toRule.impl x.1 x.2.1 x.2.2.1 := fun J J' h3 x => F3_le h3 x.1 x.2.1 x.2.2.1
theorem L3_eq (t0 : List ((List (Int × Int × Int × Int)) × (List Int) × List (List (Int × Int × Int × Int)))) (t4 : Int) (r0 : List ((List (Int × Int × Int × Int)) × (List Int) × List (List (Int × Int × Int × Int)))) : L3 (t0, t4, r0, ()) = F3 (L3) laws_toRule.impl t0 t4 r0 := congrFun (lfp_eq (L3_mono)) _
theorem impl_eq (x0 : List ((List (Int × Int × Int × Int)) × (List Int) × List (List (Int × Int × Int × Int)))) : impl (x0, ()) = F0 L3 x0 := rfl
theorem con : Con Tryz.prog 92 1 rs.length 1 pin pout impl := by
  refine con_of_run' (nt := 23) (c := c0) tabGood Tryz.func92 (by kernel_rfl) (by kernel_rfl) (by kernel_rfl) (by kernel_rfl) (by kernel_rfl) (by kernel_rfl) (by kernel_rfl) ?_
  intro w0 O y hnp
  generalize hPost : (fun (a' : Act) (w' : World) => ∃ μ' S' st', Rel 23 w0 O μ' S' st' a' w' ∧ endOf (tabOf tab) rs 1 pout st' = some y) = Post
  have fin : ∀ (μ : Id → Option Value) (S : Nat → Prop) (st : St) (a : Act) (w : World), Rel 23 w0 O μ S st a w → endOf (tabOf tab) rs 1 pout st = some y → Post a w := fun μ S st a w h he => by rw [← hPost]; exact ⟨μ, S, st, h, he⟩
  have hp : ∀ (J3 : List Item → P3 → Option PO), Parts Tryz.prog 92 (pg laws_toRule.impl J3) [(3, cut p3 J3)] := fun J3 => ⟨tab_ok tabGood rfl, (handAt_ok laws_toRule.con handNil_ok), rfl⟩
  have g3 : Good Tryz.prog 23 w0 O Post y T3 p3 L3 := good_lfp fun J3 h3 => good_part (hp (atT T3 J3)) (runOK_of (hp (atT T3 J3)) hnp ⟨cutOK_at h3, trivial⟩ fin) (fun x => (seg3 laws_toRule.impl (atT T3 J3) x.1 x.2.1 x.2.2.1).trans (by simp only [atT_self] <;> rfl))
  exact good_first (hp (atT T3 L3)) (runOK_of (hp (atT T3 L3)) hnp ⟨cutOK_at g3, trivial⟩ fin) (fun x => (seg0 laws_toRule.impl (atT T3 L3) x.1).trans (by simp only [atT_self] <;> rfl))
end laws_toRuleS

/-! ### loop.example/wholecheck/laws.toSystem -/
namespace laws_toSystem
noncomputable abbrev c0 : Code := (Tryz.f41.body).getD .skip
noncomputable abbrev pin : Tpl := ⟨[⟨0, true, [.d (.prod (.sl (.prod (.int .i64) (.prod (.int .i64) (.last (.int .i64))))) (.last (.sl (.prod (.sl (.prod (.int .i64) (.prod (.int .i64) (.prod (.int .i64) (.last (.int .i64)))))) (.prod (.sl (.int .i64)) (.last (.sl (.sl (.prod (.int .i64) (.prod (.int .i64) (.prod (.int .i64) (.last (.int .i64)))))))))))))]⟩], []⟩
noncomputable abbrev pout : Tpl := ⟨[⟨0, true, [.row 600001, .row 600002]⟩], [(600001, .row 75 false (.prod (.int .i64) (.prod (.int .i64) (.last (.int .i64))))), (600002, .row 78 false (.prod (.sl (.prod (.int .i64) (.prod (.int .i64) (.prod (.int .i64) (.last (.int .i64)))))) (.prod (.sl (.int .i64)) (.last (.sl (.sl (.prod (.int .i64) (.prod (.int .i64) (.prod (.int .i64) (.last (.int .i64)))))))))))]⟩
noncomputable abbrev PI := ((List (Int × Int × Int)) × List ((List (Int × Int × Int × Int)) × (List Int) × List (List (Int × Int × Int × Int)))) × Unit
noncomputable abbrev PO := (List (Int × Int × Int)) × (List ((List (Int × Int × Int × Int)) × (List Int) × List (List (Int × Int × Int × Int)))) × Unit
noncomputable abbrev rs : List ResultVar := [.cell 2 35]
noncomputable def F0 (Glaws_toRuleS : laws_toRuleS.PI → Option laws_toRuleS.PO) (Glaws_toVarS : laws_toVarS.PI → Option laws_toVarS.PO) (x0 : (List (Int × Int × Int)) × List ((List (Int × Int × Int × Int)) × (List Int) × List (List (Int × Int × Int × Int)))) : Option PO :=
  Option.bind (Glaws_toVarS (x0.1, ())) fun y0 =>
  Option.bind (Glaws_toRuleS (x0.2, ())) fun y1 =>
  some (y0.1, y1.1, ())
noncomputable def hd {R : Type} (Glaws_toRuleS : laws_toRuleS.PI → Option laws_toRuleS.PO) (Glaws_toVarS : laws_toVarS.PI → Option laws_toVarS.PO) : Hand R := (handAt 92 [10] false ⟨1, 1, 1, laws_toRuleS.pin, laws_toRuleS.pout, Glaws_toRuleS⟩ (handAt 91 [6] true ⟨1, 1, 1, laws_toVarS.pin, laws_toVarS.pout, Glaws_toVarS⟩ handNil))
noncomputable def pg (Glaws_toRuleS : laws_toRuleS.PI → Option laws_toRuleS.PO) (Glaws_toVarS : laws_toVarS.PI → Option laws_toVarS.PO) : Prog PO := { nt := 13, np := 1, tb := tabOf tab, hd := hd Glaws_toRuleS Glaws_toVarS, cuts := cutsOf [], fin := endOf (tabOf tab) rs 1 pout }
noncomputable def q : FuncId → Bool := fun f => hasId [] f
theorem seg0 (Glaws_toRuleS : laws_toRuleS.PI → Option laws_toRuleS.PO) (Glaws_toVarS : laws_toVarS.PI → Option laws_toVarS.PO) (x0 : (List (Int × Int × Int)) × List ((List (Int × Int × Int × Int)) × (List Int) × List (List (Int × Int × Int × Int)))) : arun (pg Glaws_toRuleS Glaws_toVarS) 5000 [.code c0] (mk pin (x0, ())) = F0 Glaws_toRuleS Glaws_toVarS x0 := by kernel_rfl
noncomputable def impl : PI → Option PO := fun x => F0 laws_toRuleS.impl laws_toVarS.impl x.1
theorem impl_eq (x0 : (List (Int × Int × Int)) × List ((List (Int × Int × Int × Int)) × (List Int) × List (List (Int × Int × Int × Int)))) : impl (x0, ()) = F0 laws_toRuleS.impl laws_toVarS.impl x0 := rfl
theorem con : Con Tryz.prog 41 1 rs.length 1 pin pout impl := by
  refine con_of_run' (nt := 13) (c := c0) tabGood Tryz.func41 (by kernel_rfl) (by kernel_rfl) (by kernel_rfl) (by kernel_rfl) (by kernel_rfl) (by kernel_rfl) (by kernel_rfl) ?_
  intro w0 O y hnp
  generalize hPost : (fun (a' : Act) (w' : World) => ∃ μ' S' st', Rel 13 w0 O μ' S' st' a' w' ∧ endOf (tabOf tab) rs 1 pout st' = some y) = Post
  have fin : ∀ (μ : Id → Option Value) (S : Nat → Prop) (st : St) (a : Act) (w : World), Rel 13 w0 O μ S st a w → endOf (tabOf tab) rs 1 pout st = some y → Post a w := fun μ S st a w h he => by rw [← hPost]; exact ⟨μ, S, st, h, he⟩
  have hp : Parts Tryz.prog 41 (pg laws_toRuleS.impl laws_toVarS.impl) [] := ⟨tab_ok tabGood rfl, (handAt_ok laws_toRuleS.con (handAt_ok laws_toVarS.con handNil_ok)), rfl⟩
  exact good_first (hp) (runOK_of (hp) hnp trivial fin) (fun x => (seg0 laws_toRuleS.impl laws_toVarS.impl x.1))
end laws_toSystem

/-! ### loop.example/wholecheck/laws.toModel -/
namespace laws_toModel
noncomputable abbrev c0 : Code := (Tryz.f10.body).getD .skip
noncomputable abbrev pin : Tpl := ⟨[⟨0, true, [.d (.prod (.sl .str) (.prod (.prod (.sl (.prod (.int .i64) (.prod (.int .i64) (.last (.int .i64))))) (.last (.sl (.prod (.sl (.prod (.int .i64) (.prod (.int .i64) (.prod (.int .i64) (.last (.int .i64)))))) (.prod (.sl (.int .i64)) (.last (.sl (.sl (.prod (.int .i64) (.prod (.int .i64) (.prod (.int .i64) (.last (.int .i64))))))))))))) (.last (.sl (.sl (.prod (.int .i64) (.prod (.int .i64) (.prod (.int .i64) (.last (.int .i64))))))))))]⟩], []⟩
noncomputable abbrev pout : Tpl := ⟨[⟨0, true, [.row 600001, .row 600002, .row 600003, .row 600004]⟩], [(600001, .row 9 false .str), (600002, .row 75 false (.prod (.int .i64) (.prod (.int .i64) (.last (.int .i64))))), (600003, .row 78 false (.prod (.sl (.prod (.int .i64) (.prod (.int .i64) (.prod (.int .i64) (.last (.int .i64)))))) (.prod (.sl (.int .i64)) (.last (.sl (.sl (.prod (.int .i64) (.prod (.int .i64) (.prod (.int .i64) (.last (.int .i64))))))))))), (600004, .row 43 false (.sl (.prod (.int .i64) (.prod (.int .i64) (.prod (.int .i64) (.last (.int .i64)))))))]⟩
noncomputable abbrev PI := ((List (List UInt8)) × ((List (Int × Int × Int)) × List ((List (Int × Int × Int × Int)) × (List Int) × List (List (Int × Int × Int × Int)))) × List (List (Int × Int × Int × Int))) × Unit
noncomputable abbrev PO := (List (List UInt8)) × (List (Int × Int × Int)) × (List ((List (Int × Int × Int × Int)) × (List Int) × List (List (Int × Int × Int × Int)))) × (List (List (Int × Int × Int × Int))) × Unit
noncomputable abbrev rs : List ResultVar := [.cell 2 38]
noncomputable def F0 (Glaws_toStringS : laws_toStringS.PI → Option laws_toStringS.PO) (Glaws_toSystem : laws_toSystem.PI → Option laws_toSystem.PO) (Glaws_toTermSS : laws_toTermSS.PI → Option laws_toTermSS.PO) (x0 : (List (List UInt8)) × ((List (Int × Int × Int)) × List ((List (Int × Int × Int × Int)) × (List Int) × List (List (Int × Int × Int × Int)))) × List (List (Int × Int × Int × Int))) : Option PO :=
  Option.bind (Glaws_toStringS (x0.1, ())) fun y0 =>
  Option.bind (Glaws_toSystem (x0.2.1, ())) fun y1 =>
  Option.bind (Glaws_toTermSS (x0.2.2, ())) fun y2 =>
  some (y0.1, y1.1, y1.2.1, y2.1, ())
noncomputable def hd {R : Type} (Glaws_toStringS : laws_toStringS.PI → Option laws_toStringS.PO) (Glaws_toSystem : laws_toSystem.PI → Option laws_toSystem.PO) (Glaws_toTermSS : laws_toTermSS.PI → Option laws_toTermSS.PO) : Hand R := (handAt 42 [14] false ⟨1, 1, 1, laws_toTermSS.pin, laws_toTermSS.pout, Glaws_toTermSS⟩ (handAt 41 [10] false ⟨1, 1, 1, laws_toSystem.pin, laws_toSystem.pout, Glaws_toSystem⟩ (handAt 40 [6] true ⟨1, 1, 1, laws_toStringS.pin, laws_toStringS.pout, Glaws_toStringS⟩ handNil)))
noncomputable def pg (Glaws_toStringS : laws_toStringS.PI → Option laws_toStringS.PO) (Glaws_toSystem : laws_toSystem.PI → Option laws_toSystem.PO) (Glaws_toTermSS : laws_toTermSS.PI → Option laws_toTermSS.PO) : Prog PO := { nt := 17, np := 1, tb := tabOf tab, hd := hd Glaws_toStringS Glaws_toSystem Glaws_toTermSS, cuts := cutsOf [], fin := endOf (tabOf tab) rs 1 pout }
noncomputable def q : FuncId → Bool := fun f => hasId [] f
theorem seg0 (Glaws_toStringS : laws_toStringS.PI → Option laws_toStringS.PO) (Glaws_toSystem : laws_toSystem.PI → Option laws_toSystem.PO) (Glaws_toTermSS : laws_toTermSS.PI → Option laws_toTermSS.PO) (x0 : (List (List UInt8)) × ((List (Int × Int × Int)) × List ((List (Int × Int × Int × Int)) × (List Int) × List (List (Int × Int × Int × Int)))) × List (List (Int × Int × Int × Int))) : arun (pg Glaws_toStringS Glaws_toSystem Glaws_toTermSS) 5000 [.code c0] (mk pin (x0, ())) = F0 Glaws_toStringS Glaws_toSystem Glaws_toTermSS x0 := by kernel_rfl
noncomputable def impl : PI → Option PO := fun x => F0 laws_toStringS.impl laws_toSystem.impl laws_toTermSS.impl x.1
theorem impl_eq (x0 : (List (List UInt8)) × ((List (Int × Int × Int)) × List ((List (Int × Int × Int × Int)) × (List Int) × List (List (Int × Int × Int × Int)))) × List (List (Int × Int × Int × Int))) : impl (x0, ()) = F0 laws_toStringS.impl laws_toSystem.impl laws_toTermSS.impl x0 := rfl
theorem con : Con Tryz.prog 10 1 rs.length 1 pin pout impl := by
  refine con_of_run' (nt := 17) (c := c0) tabGood Tryz.func10 (by kernel_rfl) (by kernel_rfl) (by kernel_rfl) (by kernel_rfl) (by kernel_rfl) (by kernel_rfl) (by kernel_rfl) ?_
  intro w0 O y hnp
  generalize hPost : (fun (a' : Act) (w' : World) => ∃ μ' S' st', Rel 17 w0 O μ' S' st' a' w' ∧ endOf (tabOf tab) rs 1 pout st' = some y) = Post
  have fin : ∀ (μ : Id → Option Value) (S : Nat → Prop) (st : St) (a : Act) (w : World), Rel 17 w0 O μ S st a w → endOf (tabOf tab) rs 1 pout st = some y → Post a w := fun μ S st a w h he => by rw [← hPost]; exact ⟨μ, S, st, h, he⟩
  have hp : Parts Tryz.prog 10 (pg laws_toStringS.impl laws_toSystem.impl laws_toTermSS.impl) [] := ⟨tab_ok tabGood rfl, (handAt_ok laws_toTermSS.con (handAt_ok laws_toSystem.con (handAt_ok laws_toStringS.con handNil_ok))), rfl⟩
  exact good_first (hp) (runOK_of (hp) hnp trivial fin) (fun x => (seg0 laws_toStringS.impl laws_toSystem.impl laws_toTermSS.impl x.1))
end laws_toModel

/-! ### loop.example/wholecheck/spec.l1In -/
namespace spec_l1In
noncomputable abbrev c0 : Code := (Tryz.f107.body).getD .skip
noncomputable abbrev pin : Tpl := ⟨[⟨0, false, [.d (.int .i64)]⟩, ⟨1, false, [.d (.int .i64)]⟩, ⟨2, false, [.d (.int .i64)]⟩], []⟩
noncomputable abbrev pout : Tpl := ⟨[⟨0, false, [.d .bool]⟩], []⟩
noncomputable abbrev PI := Int × Int × Int × Unit
noncomputable abbrev PO := Bool × Unit
noncomputable abbrev rs : List ResultVar := [.tmp 6]
noncomputable def F0 (x0 : Int) (x1 : Int) (x2 : Int) : Option PO :=
  bif decide (x0 ≥ x1) then
    some (decide (x0 ≤ x2), ())
  else
    some (false, ())
noncomputable def hd {R : Type} : Hand R := handNil
noncomputable def pg : Prog PO := { nt := 15, np := 3, tb := tabOf tab, hd := hd, cuts := cutsOf [], fin := endOf (tabOf tab) rs 3 pout }
noncomputable def q : FuncId → Bool := fun f => hasId [] f
theorem seg0 (x0 : Int) (x1 : Int) (x2 : Int) : arun (pg) 5000 [.code c0] (mk pin (x0, x1, x2, ())) = F0 x0 x1 x2 := by kernel_rfl
noncomputable def impl : PI → Option PO := fun x => F0 x.1 x.2.1 x.2.2.1
theorem impl_eq (x0 : Int) (x1 : Int) (x2 : Int) : impl (x0, x1, x2, ()) = F0 x0 x1 x2 := rfl
theorem con : Con Tryz.prog 107 3 rs.length 3 pin pout impl := by
  refine con_of_run' (nt := 15) (c := c0) tabGood Tryz.func107 (by kernel_rfl) (by kernel_rfl) (by kernel_rfl) (by kernel_rfl) (by kernel_rfl) (by kernel_rfl) (by kernel_rfl) ?_
  intro w0 O y hnp
  generalize hPost : (fun (a' : Act) (w' : World) => ∃ μ' S' st', Rel 15 w0 O μ' S' st' a' w' ∧ endOf (tabOf tab) rs 3 pout st' = some y) = Post
  have fin : ∀ (μ : Id → Option Value) (S : Nat → Prop) (st : St) (a : Act) (w : World), Rel 15 w0 O μ S st a w → endOf (tabOf tab) rs 3 pout st = some y → Post a w := fun μ S st a w h he => by rw [← hPost]; exact ⟨μ, S, st, h, he⟩
  have hp : Parts Tryz.prog 107 (pg) [] := ⟨tab_ok tabGood rfl, handNil_ok, rfl⟩
  exact good_first (hp) (runOK_of (hp) hnp trivial fin) (fun x => (seg0 x.1 x.2.1 x.2.2.1))
end spec_l1In

/-! ### loop.example/wholecheck/spec.l30Name -/
namespace spec_l30Name
noncomputable abbrev c0 : Code := (Tryz.f60.body).getD .skip
noncomputable abbrev pin : Tpl := ⟨[⟨0, false, [.d .str]⟩], []⟩
noncomputable abbrev pout : Tpl := ⟨[⟨0, false, [.d .bool]⟩], []⟩
noncomputable abbrev p2 : Tpl := ⟨[⟨0, false, [.d .str]⟩, ⟨3, false, [.d (.int .i64)]⟩], []⟩
noncomputable def T2 : List Item := (find 2 c0 []).getD []
noncomputable abbrev PI := (List UInt8) × Unit
noncomputable abbrev PO := Bool × Unit
noncomputable abbrev P2 := (List UInt8) × Int × Unit
noncomputable abbrev rs : List ResultVar := [.tmp 2]
noncomputable def F0 (J2 : P2 → Option PO) (x0 : List UInt8) : Option PO :=
  J2 (x0, 0, ())
noncomputable def F2 (J2 : P2 → Option PO) (Gspec_l1In : spec_l1In.PI → Option spec_l1In.PO) (t0 : List UInt8) (t3 : Int) : Option PO :=
  bif decide (t3 < (t0.length : Int)) then
    bif inb t3 t0.length then
      bif decide (((t0.getD t3.toNat 0).toNat : Int) < 97) then
        some (false, ())
      else
        bif inb t3 t0.length then
          bif decide (((t0.getD t3.toNat 0).toNat : Int) > 122) then
            some (false, ())
          else
            J2 (t0, wI (t3 + 1), ())
        else
          none
    else
      none
  else
    Option.bind (Gspec_l1In ((t0.length : Int), 1, 8, ())) fun y0 =>
    some (y0.1, ())
noncomputable def hd {R : Type} (Gspec_l1In : spec_l1In.PI → Option spec_l1In.PO) : Hand R := (handAt 107 [22] true ⟨3, 1, 3, spec_l1In.pin, spec_l1In.pout, Gspec_l1In⟩ handNil)
noncomputable def pg (Gspec_l1In : spec_l1In.PI → Option spec_l1In.PO) (J2 : List Item → P2 → Option PO) : Prog PO := { nt := 23, np := 1, tb := tabOf tab, hd := hd Gspec_l1In, cuts := cutsOf [(2, cut p2 J2)], fin := endOf (tabOf tab) rs 1 pout }
noncomputable def q : FuncId → Bool := fun f => hasId [107] f
theorem seg0 (Gspec_l1In : spec_l1In.PI → Option spec_l1In.PO) (J2 : List Item → P2 → Option PO) (x0 : List UInt8) : arun (pg Gspec_l1In J2) 5000 [.code c0] (mk pin (x0, ())) = F0 (J2 T2) x0 := by kernel_rfl
theorem seg2 (Gspec_l1In : spec_l1In.PI → Option spec_l1In.PO) (J2 : List Item → P2 → Option PO) (t0 : List UInt8) (t3 : Int) : arun1 (pg Gspec_l1In J2) 5000 T2 (mk p2 (t0, t3, ())) = F2 (J2 T2) Gspec_l1In t0 t3 := by kernel_rfl
noncomputable def L2 : P2 → Option PO := lfp fun J2 x => F2 J2 spec_l1In.impl x.1 x.2.1
noncomputable def impl : PI → Option PO := fun x => F0 L2 x.1
theorem F2_le {J2 J2' : P2 → Option PO} (h2 : OLe J2 J2') {Gspec_l1In : spec_l1In.PI → Option spec_l1In.PO} (t0 : List UInt8) (t3 : Int) : OptLe (F2 J2 Gspec_l1In t0 t3) (F2 J2' Gspec_l1In t0 t3) := by unfold F2; exact .cond (.cond (.cond (.refl _) (.cond (.cond (.refl _) (.of h2 _)) (.refl _))) (.refl _)) (.refl _)
theorem L2_mono : OMono fun J2 (x : P2) => F2 J2 spec_l1In.impl x.1 x.2.1 := fun J J' h2 x => F2_le h2 x.1 x.2.1
theorem L2_eq (t0 : List UInt8) (t3 : Int) : L2 (t0, t3, ()) = F2 (L2) spec_l1In.impl t0 t3 := congrFun (lfp_eq (L2_mono)) _
theorem impl_eq (x0 : List UInt8) : impl (x0, ()) = F0 L2 x0 := rfl
theorem con : Con Tryz.prog 60 1 rs.length 1 pin pout impl := by
  refine con_of_run' (nt := 23) (c := c0) tabGood Tryz.func60 (by kernel_rfl) (by kernel_rfl) (by kernel_rfl) (by kernel_rfl) (by kernel_rfl) (by kernel_rfl) (by kernel_rfl) ?_
  intro w0 O y hnp
  generalize hPost : (fun (a' : Act) (w' : World) => ∃ μ' S' st', Rel 23 w0 O μ' S' st' a' w' ∧ endOf (tabOf tab) rs 1 pout st' = some y) = Post
  have fin : ∀ (μ : Id → Option Value) (S : Nat → Prop) (st : St) (a : Act) (w : World), Rel 23 w0 O μ S st a w → endOf (tabOf tab) rs 1 pout st = some y → Post a w := fun μ S st a w h he => by rw [← hPost]; exact ⟨μ, S, st, h, he⟩
  have hp : ∀ (J2 : List Item → P2 → Option PO), Parts Tryz.prog 60 (pg spec_l1In.impl J2) [(2, cut p2 J2)] := fun J2 => ⟨tab_ok tabGood rfl, (handAt_ok spec_l1In.con handNil_ok), rfl⟩
  have g2 : Good Tryz.prog 23 w0 O Post y T2 p2 L2 := good_lfp fun J2 h2 => good_part (hp (atT T2 J2)) (runOK_of (hp (atT T2 J2)) hnp ⟨cutOK_at h2, trivial⟩ fin) (fun x => (seg2 spec_l1In.impl (atT T2 J2) x.1 x.2.1).trans (by simp only [atT_self] <;> rfl))
  exact good_first (hp (atT T2 L2)) (runOK_of (hp (atT T2 L2)) hnp ⟨cutOK_at g2, trivial⟩ fin) (fun x => (seg0 spec_l1In.impl (atT T2 L2) x.1).trans (by simp only [atT_self] <;> rfl))
end spec_l30Name

/-! ### loop.example/wholecheck/spec.l30At -/
namespace spec_l30At
noncomputable abbrev c0 : Code := (Tryz.f61.body).getD .skip
noncomputable abbrev pin : Tpl := ⟨[⟨0, false, [.d (.sl .str)]⟩, ⟨1, false, [.d .str]⟩], []⟩
noncomputable abbrev pout : Tpl := ⟨[⟨0, false, [.d (.int .i64)]⟩], []⟩
noncomputable abbrev p2 : Tpl := ⟨[⟨0, false, [.d (.sl .str)]⟩, ⟨1, false, [.d .str]⟩, ⟨5, false, [.d (.int .i64)]⟩], []⟩
noncomputable def T2 : List Item := (find 2 c0 []).getD []
noncomputable abbrev PI := (List (List UInt8)) × (List UInt8) × Unit
noncomputable abbrev PO := Int × Unit
noncomputable abbrev P2 := (List (List UInt8)) × (List UInt8) × Int × Unit
noncomputable abbrev rs : List ResultVar := [.tmp 4]
noncomputable def F0 (J2 : P2 → Option PO) (x0 : List (List UInt8)) (x1 : List UInt8) : Option PO :=
  J2 (x0, x1, 0, ())
noncomputable def F2 (J2 : P2 → Option PO) (t0 : List (List UInt8)) (t1 : List UInt8) (t5 : Int) : Option PO :=
  bif decide (t5 < (t0.length : Int)) then
    bif inb t5 t0.length then
      bif (t0.getD t5.toNat []) == t1 then
        some (t5, ())
      else
        J2 (t0, t1, wI (t5 + 1), ())
    else
      none
  else
    some ((-1), ())
noncomputable def hd {R : Type} : Hand R := handNil
noncomputable def pg (J2 : List Item → P2 → Option PO) : Prog PO := { nt := 19, np := 2, tb := tabOf tab, hd := hd, cuts := cutsOf [(2, cut p2 J2)], fin := endOf (tabOf tab) rs 2 pout }
noncomputable def q : FuncId → Bool := fun f => hasId [] f
theorem seg0 (J2 : List Item → P2 → Option PO) (x0 : List (List UInt8)) (x1 : List UInt8) : arun (pg J2) 5000 [.code c0] (mk pin (x0, x1, ())) = F0 (J2 T2) x0 x1 := by kernel_rfl
theorem seg2 (J2 : List Item → P2 → Option PO) (t0 : List (List UInt8)) (t1 : List UInt8) (t5 : Int) : arun1 (pg J2) 5000 T2 (mk p2 (t0, t1, t5, ())) = F2 (J2 T2) t0 t1 t5 := by kernel_rfl
noncomputable def L2 : P2 → Option PO := lfp fun J2 x => F2 J2 x.1 x.2.1 x.2.2.1
noncomputable def impl : PI → Option PO := fun x => F0 L2 x.1 x.2.1
theorem F2_le {J2 J2' : P2 → Option PO} (h2 : OLe J2 J2') (t0 : List (List UInt8)) (t1 : List UInt8) (t5 : Int) : OptLe (F2 J2 t0 t1 t5) (F2 J2' t0 t1 t5) := by unfold F2; exact .cond (.cond (.cond (.refl _) (.of h2 _)) (.refl _)) (.refl _)
theorem L2_mono : OMono fun J2 (x : P2) => F2 J2 x.1 x.2.1 x.2.2.1 := fun J J' h2 x => F2_le h2 x.1 x.2.1 x.2.2.1
theorem L2_eq (t0 : List (List UInt8)) (t1 : List UInt8) (t5 : Int) : L2 (t0, t1, t5, ()) = F2 (L2) t0 t1 t5 := congrFun (lfp_eq (L2_mono)) _
theorem impl_eq (x0 : List (List UInt8)) (x1 : List UInt8) : impl (x0, x1, ()) = F0 L2 x0 x1 := rfl
theorem con : Con Tryz.prog 61 2 rs.length 2 pin pout impl := by
  refine con_of_run' (nt := 19) (c := c0) tabGood Tryz.func61 (by kernel_rfl) (by kernel_rfl) (by kernel_rfl) (by kernel_rfl) (by kernel_rfl) (by kernel_rfl) (by kernel_rfl) ?_
  intro w0 O y hnp
  generalize hPost : (fun (a' : Act) (w' : World) => ∃ μ' S' st', Rel 19 w0 O μ' S' st' a' w' ∧ endOf (tabOf tab) rs 2 pout st' = some y) = Post
  have fin : ∀ (μ : Id → Option Value) (S : Nat → Prop) (st : St) (a : Act) (w : World), Rel 19 w0 O μ S st a w → endOf (tabOf tab) rs 2 pout st = some y → Post a w := fun μ S st a w h he => by rw [← hPost]; exact ⟨μ, S, st, h, he⟩
  have hp : ∀ (J2 : List Item → P2 → Option PO), Parts Tryz.prog 61 (pg J2) [(2, cut p2 J2)] := fun J2 => ⟨tab_ok tabGood rfl, handNil_ok, rfl⟩
  have g2 : Good Tryz.prog 19 w0 O Post y T2 p2 L2 := good_lfp fun J2 h2 => good_part (hp (atT T2 J2)) (runOK_of (hp (atT T2 J2)) hnp ⟨cutOK_at h2, trivial⟩ fin) (fun x => (seg2 (atT T2 J2) x.1 x.2.1 x.2.2.1).trans (by simp only [atT_self] <;> rfl))
  exact good_first (hp (atT T2 L2)) (runOK_of (hp (atT T2 L2)) hnp ⟨cutOK_at g2, trivial⟩ fin) (fun x => (seg0 (atT T2 L2) x.1 x.2.1).trans (by simp only [atT_self] <;> rfl))
end spec_l30At

/-! ### loop.example/wholecheck/spec.NamesValid -/
namespace spec_NamesValid
noncomputable abbrev c0 : Code := (Tryz.f17.body).getD .skip
noncomputable abbrev pin : Tpl := ⟨[⟨0, false, [.d (.sl .str)]⟩], []⟩
noncomputable abbrev pout : Tpl := ⟨[⟨0, false, [.d .bool]⟩], []⟩
noncomputable abbrev p2 : Tpl := ⟨[⟨0, false, [.d (.sl .str)]⟩, ⟨3, false, [.d (.int .i64)]⟩], []⟩
noncomputable def T2 : List Item := (find 2 c0 []).getD []
noncomputable abbrev p4 : Tpl := ⟨[⟨0, false, [.d (.sl .str)]⟩, ⟨3, false, [.d (.int .i64)]⟩], []⟩
noncomputable def T4 : List Item := (find 4 c0 []).getD []
noncomputable abbrev PI := (List (List UInt8)) × Unit
noncomputable abbrev PO := Bool × Unit
noncomputable abbrev P2 := (List (List UInt8)) × Int × Unit
noncomputable abbrev P4 := (List (List UInt8)) × Int × Unit
noncomputable abbrev rs : List ResultVar := [.tmp 2]
noncomputable def F0 (J2 : P2 → Option PO) (x0 : List (List UInt8)) : Option PO :=
  J2 (x0, 0, ())
noncomputable def F2 (J4 : P4 → Option PO) (t0 : List (List UInt8)) (t3 : Int) : Option PO :=
  bif decide (t3 < (t0.length : Int)) then
    J4 (t0, t3, ())
  else
    some (decide ((t0.length : Int) ≤ 5), ())
noncomputable def F4 (J2 : P2 → Option PO) (Gspec_l30At : spec_l30At.PI → Option spec_l30At.PO) (Gspec_l30Name : spec_l30Name.PI → Option spec_l30Name.PO) (t0 : List (List UInt8)) (t3 : Int) : Option PO :=
  bif inb t3 t0.length then
    Option.bind (Gspec_l30Name (t0.getD t3.toNat [], ())) fun y0 =>
    bif !y0.1 then
      some (false, ())
    else
      bif decide (0 ≤ t3) && decide (t3 ≤ (t0.length : Int)) then
        bif inb t3 t0.length then
          Option.bind (Gspec_l30At ((t0.take t3.toNat).drop 0, t0.getD t3.toNat [], ())) fun y1 =>
          bif decide (y1.1 ≥ 0) then
            some (false, ())
          else
            J2 (t0, wI (t3 + 1), ())
        else
          none
      else
        none
  else
    none
noncomputable def hd {R : Type} (Gspec_l30At : spec_l30At.PI → Option spec_l30At.PO) (Gspec_l30Name : spec_l30Name.PI → Option spec_l30Name.PO) : Hand R := (handAt 61 [24] true ⟨2, 1, 2, spec_l30At.pin, spec_l30At.pout, Gspec_l30At⟩ (handAt 60 [14] true ⟨1, 1, 1, spec_l30Name.pin, spec_l30Name.pout, Gspec_l30Name⟩ handNil))
noncomputable def pg (Gspec_l30At : spec_l30At.PI → Option spec_l30At.PO) (Gspec_l30Name : spec_l30Name.PI → Option spec_l30Name.PO) (J2 : List Item → P2 → Option PO) (J4 : List Item → P4 → Option PO) : Prog PO := { nt := 30, np := 1, tb := tabOf tab, hd := hd Gspec_l30At Gspec_l30Name, cuts := cutsOf [(2, cut p2 J2), (4, cut p4 J4)], fin := endOf (tabOf tab) rs 1 pout }
noncomputable def q : FuncId → Bool := fun f => hasId [60, 61] f
theorem seg0 (Gspec_l30At : spec_l30At.PI → Option spec_l30At.PO) (Gspec_l30Name : spec_l30Name.PI → Option spec_l30Name.PO) (J2 : List Item → P2 → Option PO) (J4 : List Item → P4 → Option PO) (x0 : List (List UInt8)) : arun (pg Gspec_l30At Gspec_l30Name J2 J4) 5000 [.code c0] (mk pin (x0, ())) = F0 (J2 T2) x0 := by kernel_rfl
theorem seg2 (Gspec_l30At : spec_l30At.PI → Option spec_l30At.PO) (Gspec_l30Name : spec_l30Name.PI → Option spec_l30Name.PO) (J2 : List Item → P2 → Option PO) (J4 : List Item → P4 → Option PO) (t0 : List (List UInt8)) (t3 : Int) : arun1 (pg Gspec_l30At Gspec_l30Name J2 J4) 5000 T2 (mk p2 (t0, t3, ())) = F2 (J4 T4) t0 t3 := by kernel_rfl
theorem seg4 (Gspec_l30At : spec_l30At.PI → Option spec_l30At.PO) (Gspec_l30Name : spec_l30Name.PI → Option spec_l30Name.PO) (J2 : List Item → P2 → Option PO) (J4 : List Item → P4 → Option PO) (t0 : List (List UInt8)) (t3 : Int) : arunQ (pg Gspec_l30At Gspec_l30Name J2 J4) q [] [] 5000 T4 (mk p4 (t0, t3, ())) = List.replicate (arunQ (pg Gspec_l30At Gspec_l30Name J2 J4) q [] [] 5000 T4 (mk p4 (t0, t3, ()))).length (F4 (J2 T2) Gspec_l30At Gspec_l30Name t0 t3) := by kernel_rfl
noncomputable def L4 (J2 : P2 → Option PO) : P4 → Option PO := fun x => F4 J2 spec_l30At.impl spec_l30Name.impl x.1 x.2.1
noncomputable def L2 : P2 → Option PO := lfp fun J2 x => F2 (L4 J2) x.1 x.2.1
noncomputable def impl : PI → Option PO := fun x => F0 L2 x.1
theorem F4_le {J2 J2' : P2 → Option PO} (h2 : OLe J2 J2') {Gspec_l30At : spec_l30At.PI → Option spec_l30At.PO} {Gspec_l30Name : spec_l30Name.PI → Option spec_l30Name.PO} (t0 : List (List UInt8)) (t3 : Int) : OptLe (F4 J2 Gspec_l30At Gspec_l30Name t0 t3) (F4 J2' Gspec_l30At Gspec_l30Name t0 t3) := by unfold F4; exact .cond (.bind (.refl _) fun _ => .cond (.refl _) (.cond (.cond (.bind (.refl _) fun _ => .cond (.refl _) (.of h2 _)) (.refl _)) (.refl _))) (.refl _)
theorem F2_le {J4 J4' : P4 → Option PO} (h4 : OLe J4 J4') (t0 : List (List UInt8)) (t3 : Int) : OptLe (F2 J4 t0 t3) (F2 J4' t0 t3) := by unfold F2; exact .cond (.of h4 _) (.refl _)
theorem L4_eq (J2 : P2 → Option PO) (t0 : List (List UInt8)) (t3 : Int) : L4 J2 (t0, t3, ()) = F4 J2 spec_l30At.impl spec_l30Name.impl t0 t3 := rfl
theorem L4_le {J2 J2' : P2 → Option PO} (h2 : OLe J2 J2') : OLe (L4 J2) (L4 J2') := fun x => F4_le h2 x.1 x.2.1
theorem L2_mono : OMono fun J2 (x : P2) => F2 (L4 J2) x.1 x.2.1 := fun J J' h2 x => F2_le (L4_le h2) x.1 x.2.1
theorem L2_eq (t0 : List (List UInt8)) (t3 : Int) : L2 (t0, t3, ()) = F2 (L4 (L2)) t0 t3 := congrFun (lfp_eq (L2_mono)) _
theorem impl_eq (x0 : List (List UInt8)) : impl (x0, ()) = F0 L2 x0 := rfl
theorem con : Con Tryz.prog 17 1 rs.length 1 pin pout impl := by
  refine con_of_run' (nt := 30) (c := c0) tabGood Tryz.func17 (by kernel_rfl) (by kernel_rfl) (by kernel_rfl) (by kernel_rfl) (by kernel_rfl) (by kernel_rfl) (by kernel_rfl) ?_
  intro w0 O y hnp
  generalize hPost : (fun (a' : Act) (w' : World) => ∃ μ' S' st', Rel 30 w0 O μ' S' st' a' w' ∧ endOf (tabOf tab) rs 1 pout st' = some y) = Post
  have fin : ∀ (μ : Id → Option Value) (S : Nat → Prop) (st : St) (a : Act) (w : World), Rel 30 w0 O μ S st a w → endOf (tabOf tab) rs 1 pout st = some y → Post a w := fun μ S st a w h he => by rw [← hPost]; exact ⟨μ, S, st, h, he⟩
  have hp : ∀ (J2 : List Item → P2 → Option PO), ∀ (J4 : List Item → P4 → Option PO), Parts Tryz.prog 17 (pg spec_l30At.impl spec_l30Name.impl J2 J4) [(2, cut p2 J2), (4, cut p4 J4)] := fun J2 J4 => ⟨tab_ok tabGood rfl, (handAt_ok spec_l30At.con (handAt_ok spec_l30Name.con handNil_ok)), rfl⟩
  have g4 : ∀ (J2 : P2 → Option PO), Good Tryz.prog 30 w0 O Post y T2 p2 J2 → Good Tryz.prog 30 w0 O Post y T4 p4 (L4 J2) := fun J2 h2 => good_quiet (hs := hd spec_l30At.impl spec_l30Name.impl) (cv' := hd spec_l30At.impl spec_l30Name.impl) (Checked.mixed Tryz.checked) (hp (atT T2 J2) (atT T4 (fun _ => none))) (handAt_D spec_l30At.con (by rfl) rfl (handAt_D spec_l30Name.con (by rfl) rfl handNil_D)) (handAt_nat (handAt_nat handNil_nat)) (handAt_nat (handAt_nat handNil_nat)) (runOK_of (hp (atT T2 J2) (atT T4 (fun _ => none))) hnp ⟨cutOK_at h2, cutOK_at (p := p4) (T := T4) (J := fun _ => none) good_none, trivial⟩ fin) (fun x => all_same ⟨_, (seg4 spec_l30At.impl spec_l30Name.impl (atT T2 J2) (atT T4 (fun _ => none)) x.1 x.2.1).trans (by simp only [atT_self] <;> rfl)⟩)
  have g2 : Good Tryz.prog 30 w0 O Post y T2 p2 L2 := good_lfp fun J2 h2 => good_part (hp (atT T2 (fun _ => none)) (atT T4 (L4 J2))) (runOK_of (hp (atT T2 (fun _ => none)) (atT T4 (L4 J2))) hnp ⟨cutOK_at (p := p2) (T := T2) (J := fun _ => none) good_none, cutOK_at (g4 J2 h2), trivial⟩ fin) (fun x => (seg2 spec_l30At.impl spec_l30Name.impl (atT T2 (fun _ => none)) (atT T4 (L4 J2)) x.1 x.2.1).trans (by simp only [atT_self] <;> rfl))
  exact good_first (hp (atT T2 L2) (atT T4 (fun _ => none))) (runOK_of (hp (atT T2 L2) (atT T4 (fun _ => none))) hnp ⟨cutOK_at g2, cutOK_at (p := p4) (T := T4) (J := fun _ => none) good_none, trivial⟩ fin) (fun x => (seg0 spec_l30At.impl spec_l30Name.impl (atT T2 L2) (atT T4 (fun _ => none)) x.1).trans (by simp only [atT_self] <;> rfl))
end spec_NamesValid

/-! ### loop.example/wholecheck/spec.l2Var -/
namespace spec_l2Var
noncomputable abbrev c0 : Code := (Tryz.f127.body).getD .skip
noncomputable abbrev pin : Tpl := ⟨[⟨0, true, [.d (.prod (.int .i64) (.prod (.int .i64) (.last (.int .i64))))]⟩], []⟩
noncomputable abbrev pout : Tpl := ⟨[⟨0, false, [.d .bool]⟩], []⟩
noncomputable abbrev PI := (Int × Int × Int) × Unit
noncomputable abbrev PO := Bool × Unit
noncomputable abbrev rs : List ResultVar := [.tmp 2]
noncomputable def F0 (Gspec_l1In : spec_l1In.PI → Option spec_l1In.PO) (x0 : Int × Int × Int) : Option PO :=
  Option.bind (Gspec_l1In (x0.1, (-9999), 9999, ())) fun y0 =>
  bif y0.1 then
    Option.bind (Gspec_l1In (x0.2.1, x0.1, 9999, ())) fun y1 =>
    bif y1.1 then
      bif decide (wI (x0.2.1 - x0.1) < 20) then
        Option.bind (Gspec_l1In (x0.2.2, x0.1, x0.2.1, ())) fun y2 =>
        some (y2.1, ())
      else
        some (false, ())
    else
      some (false, ())
  else
    some (false, ())
noncomputable def hd {R : Type} (Gspec_l1In : spec_l1In.PI → Option spec_l1In.PO) : Hand R := (handAt 107 [5, 11, 28] true ⟨3, 1, 3, spec_l1In.pin, spec_l1In.pout, Gspec_l1In⟩ handNil)
noncomputable def pg (Gspec_l1In : spec_l1In.PI → Option spec_l1In.PO) : Prog PO := { nt := 30, np := 1, tb := tabOf tab, hd := hd Gspec_l1In, cuts := cutsOf [], fin := endOf (tabOf tab) rs 1 pout }
noncomputable def q : FuncId → Bool := fun f => hasId [107] f
theorem seg0 (Gspec_l1In : spec_l1In.PI → Option spec_l1In.PO) (x0 : Int × Int × Int) : arun (pg Gspec_l1In) 5000 [.code c0] (mk pin (x0, ())) = F0 Gspec_l1In x0 := by kernel_rfl
noncomputable def impl : PI → Option PO := fun x => F0 spec_l1In.impl x.1
theorem impl_eq (x0 : Int × Int × Int) : impl (x0, ()) = F0 spec_l1In.impl x0 := rfl
theorem con : Con Tryz.prog 127 1 rs.length 1 pin pout impl := by
  refine con_of_run' (nt := 30) (c := c0) tabGood Tryz.func127 (by kernel_rfl) (by kernel_rfl) (by kernel_rfl) (by kernel_rfl) (by kernel_rfl) (by kernel_rfl) (by kernel_rfl) ?_
  intro w0 O y hnp
  generalize hPost : (fun (a' : Act) (w' : World) => ∃ μ' S' st', Rel 30 w0 O μ' S' st' a' w' ∧ endOf (tabOf tab) rs 1 pout st' = some y) = Post
  have fin : ∀ (μ : Id → Option Value) (S : Nat → Prop) (st : St) (a : Act) (w : World), Rel 30 w0 O μ S st a w → endOf (tabOf tab) rs 1 pout st = some y → Post a w := fun μ S st a w h he => by rw [← hPost]; exact ⟨μ, S, st, h, he⟩
  have hp : Parts Tryz.prog 127 (pg spec_l1In.impl) [] := ⟨tab_ok tabGood rfl, (handAt_ok spec_l1In.con handNil_ok), rfl⟩
  exact good_first (hp) (runOK_of (hp) hnp trivial fin) (fun x => (seg0 spec_l1In.impl x.1))
end spec_l2Var

/-! ### loop.example/wholecheck/spec.l1One -/
namespace spec_l1One
noncomputable abbrev c0 : Code := (Tryz.f56.body).getD .skip
noncomputable abbrev pin : Tpl := ⟨[⟨0, false, [.d (.int .i64)]⟩], []⟩
noncomputable abbrev pout : Tpl := ⟨[⟨0, false, [.d .bool]⟩], []⟩
noncomputable abbrev PI := Int × Unit
noncomputable abbrev PO := Bool × Unit
noncomputable abbrev rs : List ResultVar := [.tmp 2]
noncomputable def F0 (x0 : Int) : Option PO :=
  some (x0 == 7, ())
noncomputable def hd {R : Type} : Hand R := handNil
noncomputable def pg : Prog PO := { nt := 5, np := 1, tb := tabOf tab, hd := hd, cuts := cutsOf [], fin := endOf (tabOf tab) rs 1 pout }
noncomputable def q : FuncId → Bool := fun f => hasId [] f
theorem seg0 (x0 : Int) : arun (pg) 5000 [.code c0] (mk pin (x0, ())) = F0 x0 := by kernel_rfl
noncomputable def impl : PI → Option PO := fun x => F0 x.1
theorem impl_eq (x0 : Int) : impl (x0, ()) = F0 x0 := rfl
theorem con : Con Tryz.prog 56 1 rs.length 1 pin pout impl := by
  refine con_of_run' (nt := 5) (c := c0) tabGood Tryz.func56 (by kernel_rfl) (by kernel_rfl) (by kernel_rfl) (by kernel_rfl) (by kernel_rfl) (by kernel_rfl) (by kernel_rfl) ?_
  intro w0 O y hnp
  generalize hPost : (fun (a' : Act) (w' : World) => ∃ μ' S' st', Rel 5 w0 O μ' S' st' a' w' ∧ endOf (tabOf tab) rs 1 pout st' = some y) = Post
  have fin : ∀ (μ : Id → Option Value) (S : Nat → Prop) (st : St) (a : Act) (w : World), Rel 5 w0 O μ S st a w → endOf (tabOf tab) rs 1 pout st = some y → Post a w := fun μ S st a w h he => by rw [← hPost]; exact ⟨μ, S, st, h, he⟩
  have hp : Parts Tryz.prog 56 (pg) [] := ⟨tab_ok tabGood rfl, handNil_ok, rfl⟩
  exact good_first (hp) (runOK_of (hp) hnp trivial fin) (fun x => (seg0 x.1))
end spec_l1One

/-! ### loop.example/wholecheck/spec.l1Kind -/
namespace spec_l1Kind
noncomputable abbrev c0 : Code := (Tryz.f115.body).getD .skip
noncomputable abbrev pin : Tpl := ⟨[⟨0, true, [.d (.prod (.int .i64) (.prod (.int .i64) (.prod (.int .i64) (.last (.int .i64)))))]⟩, ⟨1, false, [.d (.sl (.int .i64))]⟩, ⟨2, false, [.d (.int .i64)]⟩], []⟩
noncomputable abbrev pout : Tpl := ⟨[⟨0, false, [.d (.int .i64)]⟩], []⟩
noncomputable abbrev p3 : Tpl := ⟨[⟨1, false, [.d (.sl (.int .i64))]⟩, ⟨2, false, [.d (.int .i64)]⟩, ⟨3, false, [.ptr 3000000 0]⟩], [(3000000, .box [.d (.int .i64), .d (.int .i64), .d (.int .i64), .d (.int .i64)])]⟩
noncomputable def T3 : List Item := (find 3 c0 []).getD []
noncomputable abbrev p5 : Tpl := ⟨[⟨1, false, [.d (.sl (.int .i64))]⟩, ⟨3, false, [.ptr 3000000 0]⟩], [(3000000, .box [.d (.int .i64), .d (.int .i64), .d (.int .i64), .d (.int .i64)])]⟩
noncomputable def T5 : List Item := (find 5 c0 []).getD []
noncomputable abbrev p7 : Tpl := ⟨[⟨1, false, [.d (.sl (.int .i64))]⟩, ⟨3, false, [.ptr 3000000 0]⟩], [(3000000, .box [.d (.int .i64), .d (.int .i64), .d (.int .i64), .d (.int .i64)])]⟩
noncomputable def T7 : List Item := (find 7 c0 []).getD []
noncomputable abbrev p10 : Tpl := ⟨[⟨1, false, [.d (.sl (.int .i64))]⟩, ⟨3, false, [.ptr 3000000 0]⟩, ⟨7, false, [.d (.int .i64)]⟩], [(3000000, .box [.d (.int .i64), .d (.int .i64), .d (.int .i64), .d (.int .i64)])]⟩
noncomputable def T10 : List Item := (find 10 c0 []).getD []
noncomputable abbrev PI := (Int × Int × Int × Int) × (List Int) × Int × Unit
noncomputable abbrev PO := Int × Unit
noncomputable abbrev P3 := (List Int) × Int × Int × Int × Int × Int × Unit
noncomputable abbrev P5 := (List Int) × Int × Int × Int × Int × Unit
noncomputable abbrev P7 := (List Int) × Int × Int × Int × Int × Unit
noncomputable abbrev P10 := (List Int) × Int × Int × Int × Int × Int × Unit
noncomputable abbrev rs : List ResultVar := [.tmp 6]
noncomputable def F0 (J3 : P3 → Option PO) (Gspec_l1In : spec_l1In.PI → Option spec_l1In.PO) (x0 : Int × Int × Int × Int) (x1 : List Int) (x2 : Int) : Option PO :=
  bif x0.1 == 0 then
    Option.bind (Gspec_l1In (x0.2.1, (-9999), 9999, ())) fun y0 =>
    bif y0.1 then
      bif x0.2.2.1 == 0 then
        bif x0.2.2.2 == 0 then
          some (1, ())
        else
          J3 (x1, x2, x0.1, x0.2.1, x0.2.2.1, x0.2.2.2, ())
      else
        J3 (x1, x2, x0.1, x0.2.1, x0.2.2.1, x0.2.2.2, ())
    else
      J3 (x1, x2, x0.1, x0.2.1, x0.2.2.1, x0.2.2.2, ())
  else
    J3 (x1, x2, x0.1, x0.2.1, x0.2.2.1, x0.2.2.2, ())
noncomputable def F3 (J5 : P5 → Option PO) (Gspec_l1In : spec_l1In.PI → Option spec_l1In.PO) (t1 : List Int) (t2 : Int) (b0_0 : Int) (b0_1 : Int) (b0_2 : Int) (b0_3 : Int) : Option PO :=
  bif b0_0 == 1 then
    Option.bind (Gspec_l1In (b0_1, 0, wI (t2 - 1), ())) fun y1 =>
    bif y1.1 then
      bif b0_2 == 0 then
        bif b0_3 == 0 then
          some (1, ())
        else
          J5 (t1, b0_0, b0_1, b0_2, b0_3, ())
      else
        J5 (t1, b0_0, b0_1, b0_2, b0_3, ())
    else
      J5 (t1, b0_0, b0_1, b0_2, b0_3, ())
  else
    J5 (t1, b0_0, b0_1, b0_2, b0_3, ())
noncomputable def F5 (J7 : P7 → Option PO) (Gspec_l1In : spec_l1In.PI → Option spec_l1In.PO) (t1 : List Int) (b0_0 : Int) (b0_1 : Int) (b0_2 : Int) (b0_3 : Int) : Option PO :=
  Option.bind (Gspec_l1In (b0_0, 2, 9, ())) fun y2 =>
  bif !y2.1 then
    some (0, ())
  else
    bif b0_1 != 0 then
      some (0, ())
    else
      Option.bind (Gspec_l1In (b0_2, 0, wI ((t1.length : Int) - 1), ())) fun y3 =>
      bif !y3.1 then
        some (0, ())
      else
        Option.bind (Gspec_l1In (b0_3, 0, wI ((t1.length : Int) - 1), ())) fun y4 =>
        bif !y4.1 then
          some (0, ())
        else
          J7 (t1, b0_0, b0_1, b0_2, b0_3, ())
noncomputable def F7 (J10 : P10 → Option PO) (t1 : List Int) (b0_0 : Int) (b0_1 : Int) (b0_2 : Int) (b0_3 : Int) : Option PO :=
  bif decide (b0_0 ≥ 7) then
    J10 (t1, 2, b0_0, b0_1, b0_2, b0_3, ())
  else
    J10 (t1, 1, b0_0, b0_1, b0_2, b0_3, ())
noncomputable def F10 (Gspec_l1One : spec_l1One.PI → Option spec_l1One.PO) (t1 : List Int) (t7 : Int) (b0_0 : Int) (b0_1 : Int) (b0_2 : Int) (b0_3 : Int) : Option PO :=
  bif inb b0_2 t1.length then
    bif t1.getD b0_2.toNat 0 != t7 then
      some (0, ())
    else
      bif inb b0_3 t1.length then
        bif t1.getD b0_3.toNat 0 != t7 then
          some (0, ())
        else
          Option.bind (Gspec_l1One (b0_0, ())) fun y5 =>
          bif y5.1 then
            bif b0_3 != b0_2 then
              some (0, ())
            else
              bif decide (b0_0 ≥ 5) then
                some (2, ())
              else
                some (1, ())
          else
            bif decide (b0_0 ≥ 5) then
              some (2, ())
            else
              some (1, ())
      else
        none
  else
    none
noncomputable def hd {R : Type} (Gspec_l1In : spec_l1In.PI → Option spec_l1In.PO) (Gspec_l1One : spec_l1One.PI → Option spec_l1One.PO) : Hand R := (handAt 107 [14, 34, 48, 61, 70] true ⟨3, 1, 3, spec_l1In.pin, spec_l1In.pout, Gspec_l1In⟩ (handAt 56 [95] true ⟨1, 1, 1, spec_l1One.pin, spec_l1One.pout, Gspec_l1One⟩ handNil))
noncomputable def pg (Gspec_l1In : spec_l1In.PI → Option spec_l1In.PO) (Gspec_l1One : spec_l1One.PI → Option spec_l1One.PO) (J3 : List Item → P3 → Option PO) (J5 : List Item → P5 → Option PO) (J7 : List Item → P7 → Option PO) (J10 : List Item → P10 → Option PO) : Prog PO := { nt := 107, np := 3, tb := tabOf tab, hd := hd Gspec_l1In Gspec_l1One, cuts := cutsOf [(3, cut p3 J3), (5, cut p5 J5), (7, cut p7 J7), (10, cut p10 J10)], fin := endOf (tabOf tab) rs 3 pout }
noncomputable def q : FuncId → Bool := fun f => hasId [56, 107] f
theorem seg0 (Gspec_l1In : spec_l1In.PI → Option spec_l1In.PO) (Gspec_l1One : spec_l1One.PI → Option spec_l1One.PO) (J3 : List Item → P3 → Option PO) (J5 : List Item → P5 → Option PO) (J7 : List Item → P7 → Option PO) (J10 : List Item → P10 → Option PO) (x0 : Int × Int × Int × Int) (x1 : List Int) (x2 : Int) : arun (pg Gspec_l1In Gspec_l1One J3 J5 J7 J10) 5000 [.code c0] (mk pin (x0, x1, x2, ())) = F0 (J3 T3) Gspec_l1In x0 x1 x2 := by kernel_rfl
theorem seg3 (Gspec_l1In : spec_l1In.PI → Option spec_l1In.PO) (Gspec_l1One : spec_l1One.PI → Option spec_l1One.PO) (J3 : List Item → P3 → Option PO) (J5 : List Item → P5 → Option PO) (J7 : List Item → P7 → Option PO) (J10 : List Item → P10 → Option PO) (t1 : List Int) (t2 : Int) (b0_0 : Int) (b0_1 : Int) (b0_2 : Int) (b0_3 : Int) : arun1 (pg Gspec_l1In Gspec_l1One J3 J5 J7 J10) 5000 T3 (mk p3 (t1, t2, b0_0, b0_1, b0_2, b0_3, ())) = F3 (J5 T5) Gspec_l1In t1 t2 b0_0 b0_1 b0_2 b0_3 := by kernel_rfl
theorem seg5 (Gspec_l1In : spec_l1In.PI → Option spec_l1In.PO) (Gspec_l1One : spec_l1One.PI → Option spec_l1One.PO) (J3 : List Item → P3 → Option PO) (J5 : List Item → P5 → Option PO) (J7 : List Item → P7 → Option PO) (J10 : List Item → P10 → Option PO) (t1 : List Int) (b0_0 : Int) (b0_1 : Int) (b0_2 : Int) (b0_3 : Int) : arun1 (pg Gspec_l1In Gspec_l1One J3 J5 J7 J10) 5000 T5 (mk p5 (t1, b0_0, b0_1, b0_2, b0_3, ())) = F5 (J7 T7) Gspec_l1In t1 b0_0 b0_1 b0_2 b0_3 := by kernel_rfl
theorem seg7 (Gspec_l1In : spec_l1In.PI → Option spec_l1In.PO) (Gspec_l1One : spec_l1One.PI → Option spec_l1One.PO) (J3 : List Item → P3 → Option PO) (J5 : List Item → P5 → Option PO) (J7 : List Item → P7 → Option PO) (J10 : List Item → P10 → Option PO) (t1 : List Int) (b0_0 : Int) (b0_1 : Int) (b0_2 : Int) (b0_3 : Int) : arun1 (pg Gspec_l1In Gspec_l1One J3 J5 J7 J10) 5000 T7 (mk p7 (t1, b0_0, b0_1, b0_2, b0_3, ())) = F7 (J10 T10) t1 b0_0 b0_1 b0_2 b0_3 := by kernel_rfl
theorem seg10 (Gspec_l1In : spec_l1In.PI → Option spec_l1In.PO) (Gspec_l1One : spec_l1One.PI → Option spec_l1One.PO) (J3 : List Item → P3 → Option PO) (J5 : List Item → P5 → Option PO) (J7 : List Item → P7 → Option PO) (J10 : List Item → P10 → Option PO) (t1 : List Int) (t7 : Int) (b0_0 : Int) (b0_1 : Int) (b0_2 : Int) (b0_3 : Int) : arun1 (pg Gspec_l1In Gspec_l1One J3 J5 J7 J10) 5000 T10 (mk p10 (t1, t7, b0_0, b0_1, b0_2, b0_3, ())) = F10 Gspec_l1One t1 t7 b0_0 b0_1 b0_2 b0_3 := by kernel_rfl
noncomputable def L10 : P10 → Option PO := fun x => F10 spec_l1One.impl x.1 x.2.1 x.2.2.1 x.2.2.2.1 x.2.2.2.2.1 x.2.2.2.2.2.1
noncomputable def L7 : P7 → Option PO := fun x => F7 L10 x.1 x.2.1 x.2.2.1 x.2.2.2.1 x.2.2.2.2.1
noncomputable def L5 : P5 → Option PO := fun x => F5 L7 spec_l1In.impl x.1 x.2.1 x.2.2.1 x.2.2.2.1 x.2.2.2.2.1
noncomputable def L3 : P3 → Option PO := fun x => F3 L5 spec_l1In.impl x.1 x.2.1 x.2.2.1 x.2.2.2.1 x.2.2.2.2.1 x.2.2.2.2.2.1
noncomputable def impl : PI → Option PO := fun x => F0 L3 spec_l1In.impl x.1 x.2.1 x.2.2.1
theorem L10_eq (t1 : List Int) (t7 : Int) (b0_0 : Int) (b0_1 : Int) (b0_2 : Int) (b0_3 : Int) : L10 (t1, t7, b0_0, b0_1, b0_2, b0_3, ()) = F10 spec_l1One.impl t1 t7 b0_0 b0_1 b0_2 b0_3 := rfl
theorem L7_eq (t1 : List Int) (b0_0 : Int) (b0_1 : Int) (b0_2 : Int) (b0_3 : Int) : L7 (t1, b0_0, b0_1, b0_2, b0_3, ()) = F7 (L10) t1 b0_0 b0_1 b0_2 b0_3 := rfl
theorem L5_eq (t1 : List Int) (b0_0 : Int) (b0_1 : Int) (b0_2 : Int) (b0_3 : Int) : L5 (t1, b0_0, b0_1, b0_2, b0_3, ()) = F5 (L7) spec_l1In.impl t1 b0_0 b0_1 b0_2 b0_3 := rfl
theorem L3_eq (t1 : List Int) (t2 : Int) (b0_0 : Int) (b0_1 : Int) (b0_2 : Int) (b0_3 : Int) : L3 (t1, t2, b0_0, b0_1, b0_2, b0_3, ()) = F3 (L5) spec_l1In.impl t1 t2 b0_0 b0_1 b0_2 b0_3 := rfl
theorem impl_eq (x0 : Int × Int × Int × Int) (x1 : List Int) (x2 : Int) : impl (x0, x1, x2, ()) = F0 L3 spec_l1In.impl x0 x1 x2 := rfl
theorem con : Con Tryz.prog 115 3 rs.length 3 pin pout impl := by
  refine con_of_run' (nt := 107) (c := c0) tabGood Tryz.func115 (by kernel_rfl) (by kernel_rfl) (by kernel_rfl) (by kernel_rfl) (by kernel_rfl) (by kernel_rfl) (by kernel_rfl) ?_
  intro w0 O y hnp
  generalize hPost : (fun (a' : Act) (w' : World) => ∃ μ' S' st', Rel 107 w0 O μ' S' st' a' w' ∧ endOf (tabOf tab) rs 3 pout st' = some y) = Post
  have fin : ∀ (μ : Id → Option Value) (S : Nat → Prop) (st : St) (a : Act) (w : World), Rel 107 w0 O μ S st a w → endOf (tabOf tab) rs 3 pout st = some y → Post a w := fun μ S st a w h he => by rw [← hPost]; exact ⟨μ, S, st, h, he⟩
  have hp : ∀ (J3 : List Item → P3 → Option PO), ∀ (J5 : List Item → P5 → Option PO), ∀ (J7 : List Item → P7 → Option PO), ∀ (J10 : List Item → P10 → Option PO), Parts Tryz.prog 115 (pg spec_l1In.impl spec_l1One.impl J3 J5 J7 J10) [(3, cut p3 J3), (5, cut p5 J5), (7, cut p7 J7), (10, cut p10 J10)] := fun J3 J5 J7 J10 => ⟨tab_ok tabGood rfl, (handAt_ok spec_l1In.con (handAt_ok spec_l1One.con handNil_ok)), rfl⟩
  have g10 : Good Tryz.prog 107 w0 O Post y T10 p10 L10 := good_part (hp (atT T3 (fun _ => none)) (atT T5 (fun _ => none)) (atT T7 (fun _ => none)) (atT T10 (fun _ => none))) (runOK_of (hp (atT T3 (fun _ => none)) (atT T5 (fun _ => none)) (atT T7 (fun _ => none)) (atT T10 (fun _ => none))) hnp ⟨cutOK_at (p := p3) (T := T3) (J := fun _ => none) good_none, cutOK_at (p := p5) (T := T5) (J := fun _ => none) good_none, cutOK_at (p := p7) (T := T7) (J := fun _ => none) good_none, cutOK_at (p := p10) (T := T10) (J := fun _ => none) good_none, trivial⟩ fin) (fun x => (seg10 spec_l1In.impl spec_l1One.impl (atT T3 (fun _ => none)) (atT T5 (fun _ => none)) (atT T7 (fun _ => none)) (atT T10 (fun _ => none)) x.1 x.2.1 x.2.2.1 x.2.2.2.1 x.2.2.2.2.1 x.2.2.2.2.2.1))
  have g7 : Good Tryz.prog 107 w0 O Post y T7 p7 L7 := good_part (hp (atT T3 (fun _ => none)) (atT T5 (fun _ => none)) (atT T7 (fun _ => none)) (atT T10 L10)) (runOK_of (hp (atT T3 (fun _ => none)) (atT T5 (fun _ => none)) (atT T7 (fun _ => none)) (atT T10 L10)) hnp ⟨cutOK_at (p := p3) (T := T3) (J := fun _ => none) good_none, cutOK_at (p := p5) (T := T5) (J := fun _ => none) good_none, cutOK_at (p := p7) (T := T7) (J := fun _ => none) good_none, cutOK_at g10, trivial⟩ fin) (fun x => (seg7 spec_l1In.impl spec_l1One.impl (atT T3 (fun _ => none)) (atT T5 (fun _ => none)) (atT T7 (fun _ => none)) (atT T10 L10) x.1 x.2.1 x.2.2.1 x.2.2.2.1 x.2.2.2.2.1).trans (by simp only [atT_self] <;> rfl))
  have g5 : Good Tryz.prog 107 w0 O Post y T5 p5 L5 := good_part (hp (atT T3 (fun _ => none)) (atT T5 (fun _ => none)) (atT T7 L7) (atT T10 (fun _ => none))) (runOK_of (hp (atT T3 (fun _ => none)) (atT T5 (fun _ => none)) (atT T7 L7) (atT T10 (fun _ => none))) hnp ⟨cutOK_at (p := p3) (T := T3) (J := fun _ => none) good_none, cutOK_at (p := p5) (T := T5) (J := fun _ => none) good_none, cutOK_at g7, cutOK_at (p := p10) (T := T10) (J := fun _ => none) good_none, trivial⟩ fin) (fun x => (seg5 spec_l1In.impl spec_l1One.impl (atT T3 (fun _ => none)) (atT T5 (fun _ => none)) (atT T7 L7) (atT T10 (fun _ => none)) x.1 x.2.1 x.2.2.1 x.2.2.2.1 x.2.2.2.2.1).trans (by simp only [atT_self] <;> rfl))
  have g3 : Good Tryz.prog 107 w0 O Post y T3 p3 L3 := good_part (hp (atT T3 (fun _ => none)) (atT T5 L5) (atT T7 (fun _ => none)) (atT T10 (fun _ => none))) (runOK_of (hp (atT T3 (fun _ => none)) (atT T5 L5) (atT T7 (fun _ => none)) (atT T10 (fun _ => none))) hnp ⟨cutOK_at (p := p3) (T := T3) (J := fun _ => none) good_none, cutOK_at g5, cutOK_at (p := p7) (T := T7) (J := fun _ => none) good_none, cutOK_at (p := p10) (T := T10) (J := fun _ => none) good_none, trivial⟩ fin) (fun x => (seg3 spec_l1In.impl spec_l1One.impl (atT T3 (fun _ => none)) (atT T5 L5) (atT T7 (fun _ => none)) (atT T10 (fun _ => none)) x.1 x.2.1 x.2.2.1 x.2.2.2.1 x.2.2.2.2.1 x.2.2.2.2.2.1).trans (by simp only [atT_self] <;> rfl))
  exact good_first (hp (atT T3 L3) (atT T5 (fun _ => none)) (atT T7 (fun _ => none)) (atT T10 (fun _ => none))) (runOK_of (hp (atT T3 L3) (atT T5 (fun _ => none)) (atT T7 (fun _ => none)) (atT T10 (fun _ => none))) hnp ⟨cutOK_at g3, cutOK_at (p := p5) (T := T5) (J := fun _ => none) good_none, cutOK_at (p := p7) (T := T7) (J := fun _ => none) good_none, cutOK_at (p := p10) (T := T10) (J := fun _ => none) good_none, trivial⟩ fin) (fun x => (seg0 spec_l1In.impl spec_l1One.impl (atT T3 L3) (atT T5 (fun _ => none)) (atT T7 (fun _ => none)) (atT T10 (fun _ => none)) x.1 x.2.1 x.2.2.1).trans (by simp only [atT_self] <;> rfl))
end spec_l1Kind

/-! ### loop.example/wholecheck/spec.KindsOf -/
namespace spec_KindsOf
noncomputable abbrev c0 : Code := (Tryz.f104.body).getD .skip
noncomputable abbrev pin : Tpl := ⟨[⟨0, false, [.d (.sl (.prod (.int .i64) (.prod (.int .i64) (.prod (.int .i64) (.last (.int .i64))))))]⟩, ⟨1, false, [.d (.int .i64)]⟩], []⟩
noncomputable abbrev pout : Tpl := ⟨[⟨0, false, [.row 600001]⟩], [(600001, .row 3 false (.int .i64))]⟩
noncomputable abbrev p3 : Tpl := ⟨[⟨0, false, [.d (.sl (.prod (.int .i64) (.prod (.int .i64) (.prod (.int .i64) (.last (.int .i64))))))]⟩, ⟨1, false, [.d (.int .i64)]⟩], []⟩
noncomputable def T3 : List Item := (find 3 c0 []).getD []
noncomputable abbrev p5 : Tpl := ⟨[⟨0, false, [.d (.sl (.prod (.int .i64) (.prod (.int .i64) (.prod (.int .i64) (.last (.int .i64))))))]⟩, ⟨1, false, [.d (.int .i64)]⟩, ⟨5, false, [.row 3000000]⟩, ⟨6, false, [.d (.int .i64)]⟩], [(3000000, .row 3 false (.int .i64))]⟩
noncomputable def T5 : List Item := (find 5 c0 []).getD []
noncomputable abbrev PI := (List (Int × Int × Int × Int)) × Int × Unit
noncomputable abbrev PO := (List Int) × Unit
noncomputable abbrev P3 := (List (Int × Int × Int × Int)) × Int × Unit
noncomputable abbrev P5 := (List (Int × Int × Int × Int)) × Int × Int × (List Int) × Unit
noncomputable abbrev rs : List ResultVar := [.tmp 4]
noncomputable def F0 (J3 : P3 → Option PO) (Gspec_l1In : spec_l1In.PI → Option spec_l1In.PO) (x0 : List (Int × Int × Int × Int)) (x1 : Int) : Option PO :=
  Option.bind (Gspec_l1In (x1, 0, 5, ())) fun y0 =>
  bif !y0.1 then
    some ([], ())
  else
    Option.bind (Gspec_l1In ((x0.length : Int), 1, 40, ())) fun y1 =>
    bif !y1.1 then
      some ([], ())
    else
      J3 (x0, x1, ())
noncomputable def F3 (J5 : P5 → Option PO) (t0 : List (Int × Int × Int × Int)) (t1 : Int) : Option PO :=
  J5 (t0, t1, 0, ([] : List Int), ())
noncomputable def F5 (J5 : P5 → Option PO) (Gspec_l1Kind : spec_l1Kind.PI → Option spec_l1Kind.PO) (t0 : List (Int × Int × Int × Int)) (t1 : Int) (t6 : Int) (r0 : List Int) : Option PO :=
  bif decide (t6 < (t0.length : Int)) then
    bif inb t6 t0.length then
      Option.bind (Gspec_l1Kind (t0.getD t6.toNat (0, 0, 0, 0), r0, t1, ())) fun y2 =>
      bif y2.1 == 0 then
        some ([], ())
      else
        bif decide ((r0.length + ([y2.1] : List Int).length) * 8 ≤ 140737488355328) then
          J5 (t0, t1, wI (t6 + 1), r0 ++ ([y2.1] : List Int), ())
        else
          none
    else
      none
  else
    some (r0, ())
noncomputable def hd {R : Type} (Gspec_l1In : spec_l1In.PI → Option spec_l1In.PO) (Gspec_l1Kind : spec_l1Kind.PI → Option spec_l1Kind.PO) : Hand R := (handAt 115 [30] true ⟨3, 1, 3, spec_l1Kind.pin, spec_l1Kind.pout, Gspec_l1Kind⟩ (handAt 107 [9, 14] true ⟨3, 1, 3, spec_l1In.pin, spec_l1In.pout, Gspec_l1In⟩ handNil))
noncomputable def pg (Gspec_l1In : spec_l1In.PI → Option spec_l1In.PO) (Gspec_l1Kind : spec_l1Kind.PI → Option spec_l1Kind.PO) (J3 : List Item → P3 → Option PO) (J5 : List Item → P5 → Option PO) : Prog PO := { nt := 38, np := 2, tb := tabOf tab, hd := hd Gspec_l1In Gspec_l1Kind, cuts := cutsOf [(3, cut p3 J3), (5, cut p5 J5)], fin := endOf (tabOf tab) rs 2 pout }
noncomputable def q : FuncId → Bool := fun f => hasId [107, 115] f
theorem seg0 (Gspec_l1In : spec_l1In.PI → Option spec_l1In.PO) (Gspec_l1Kind : spec_l1Kind.PI → Option spec_l1Kind.PO) (J3 : List Item → P3 → Option PO) (J5 : List Item → P5 → Option PO) (x0 : List (Int × Int × Int × Int)) (x1 : Int) : arun (pg Gspec_l1In Gspec_l1Kind J3 J5) 5000 [.code c0] (mk pin (x0, x1, ())) = F0 (J3 T3) Gspec_l1In x0 x1 := by kernel_rfl
theorem seg3 (Gspec_l1In : spec_l1In.PI → Option spec_l1In.PO) (Gspec_l1Kind : spec_l1Kind.PI → Option spec_l1Kind.PO) (J3 : List Item → P3 → Option PO) (J5 : List Item → P5 → Option PO) (t0 : List (Int × Int × Int × Int)) (t1 : Int) : arun1 (pg Gspec_l1In Gspec_l1Kind J3 J5) 5000 T3 (mk p3 (t0, t1, ())) = F3 (J5 T5) t0 t1 := by kernel_rfl
theorem seg5 (Gspec_l1In : spec_l1In.PI → Option spec_l1In.PO) (Gspec_l1Kind : spec_l1Kind.PI → Option spec_l1Kind.PO) (J3 : List Item → P3 → Option PO) (J5 : List Item → P5 → Option PO) (t0 : List (Int × Int × Int × Int)) (t1 : Int) (t6 : Int) (r0 : List Int) : arun1 (pg Gspec_l1In Gspec_l1Kind J3 J5) 5000 T5 (mk p5 (t0, t1, t6, r0, ())) = F5 (J5 T5) Gspec_l1Kind t0 t1 t6 r0 := by kernel_rfl
noncomputable def L5 : P5 → Option PO := lfp fun J5 x => F5 J5 spec_l1Kind.impl x.1 x.2.1 x.2.2.1 x.2.2.2.1
noncomputable def L3 : P3 → Option PO := fun x => F3 L5 x.1 x.2.1
noncomputable def impl : PI → Option PO := fun x => F0 L3 spec_l1In.impl x.1 x.2.1
theorem F5_le {J5 J5' : P5 → Option PO} (h5 : OLe J5 J5') {Gspec_l1Kind : spec_l1Kind.PI → Option spec_l1Kind.PO} (t0 : List (Int × Int × Int × Int)) (t1 : Int) (t6 : Int) (r0 : List Int) : OptLe (F5 J5 Gspec_l1Kind t0 t1 t6 r0) (F5 J5' Gspec_l1Kind t0 t1 t6 r0) := by unfold F5; exact .cond (.cond (.bind (.refl _) fun _ => .cond (.refl _) (.cond (.of h5 _) (.refl _))) (.refl _)) (.refl _)
theorem L5_mono : OMono fun J5 (x : P5) => F5 J5 spec_l1Kind.impl x.1 x.2.1 x.2.2.1 x.2.2.2.1 := fun J J' h5 x => F5_le h5 x.1 x.2.1 x.2.2.1 x.2.2.2.1
theorem L5_eq (t0 : List (Int × Int × Int × Int)) (t1 : Int) (t6 : Int) (r0 : List Int) : L5 (t0, t1, t6, r0, ()) = F5 (L5) spec_l1Kind.impl t0 t1 t6 r0 := congrFun (lfp_eq (L5_mono)) _
theorem L3_eq (t0 : List (Int × Int × Int × Int)) (t1 : Int) : L3 (t0, t1, ()) = F3 (L5) t0 t1 := rfl
theorem impl_eq (x0 : List (Int × Int × Int × Int)) (x1 : Int) : impl (x0, x1, ()) = F0 L3 spec_l1In.impl x0 x1 := rfl
theorem con : Con Tryz.prog 104 2 rs.length 2 pin pout impl := by
  refine con_of_run' (nt := 38) (c := c0) tabGood Tryz.func104 (by kernel_rfl) (by kernel_rfl) (by kernel_rfl) (by kernel_rfl) (by kernel_rfl) (by kernel_rfl) (by kernel_rfl) ?_
  intro w0 O y hnp
  generalize hPost : (fun (a' : Act) (w' : World) => ∃ μ' S' st', Rel 38 w0 O μ' S' st' a' w' ∧ endOf (tabOf tab) rs 2 pout st' = some y) = Post
  have fin : ∀ (μ : Id → Option Value) (S : Nat → Prop) (st : St) (a : Act) (w : World), Rel 38 w0 O μ S st a w → endOf (tabOf tab) rs 2 pout st = some y → Post a w := fun μ S st a w h he => by rw [← hPost]; exact ⟨μ, S, st, h, he⟩
  have hp : ∀ (J3 : List Item → P3 → Option PO), ∀ (J5 : List Item → P5 → Option PO), Parts Tryz.prog 104 (pg spec_l1In.impl spec_l1Kind.impl J3 J5) [(3, cut p3 J3), (5, cut p5 J5)] := fun J3 J5 => ⟨tab_ok tabGood rfl, (handAt_ok spec_l1Kind.con (handAt_ok spec_l1In.con handNil_ok)), rfl⟩
  have g5 : Good Tryz.prog 38 w0 O Post y T5 p5 L5 := good_lfp fun J5 h5 => good_part (hp (atT T3 (fun _ => none)) (atT T5 J5)) (runOK_of (hp (atT T3 (fun _ => none)) (atT T5 J5)) hnp ⟨cutOK_at (p := p3) (T := T3) (J := fun _ => none) good_none, cutOK_at h5, trivial⟩ fin) (fun x => (seg5 spec_l1In.impl spec_l1Kind.impl (atT T3 (fun _ => none)) (atT T5 J5) x.1 x.2.1 x.2.2.1 x.2.2.2.1).trans (by simp only [atT_self] <;> rfl))
  have g3 : Good Tryz.prog 38 w0 O Post y T3 p3 L3 := good_part (hp (atT T3 (fun _ => none)) (atT T5 L5)) (runOK_of (hp (atT T3 (fun _ => none)) (atT T5 L5)) hnp ⟨cutOK_at (p := p3) (T := T3) (J := fun _ => none) good_none, cutOK_at g5, trivial⟩ fin) (fun x => (seg3 spec_l1In.impl spec_l1Kind.impl (atT T3 (fun _ => none)) (atT T5 L5) x.1 x.2.1).trans (by simp only [atT_self] <;> rfl))
  exact good_first (hp (atT T3 L3) (atT T5 (fun _ => none))) (runOK_of (hp (atT T3 L3) (atT T5 (fun _ => none))) hnp ⟨cutOK_at g3, cutOK_at (p := p5) (T := T5) (J := fun _ => none) good_none, trivial⟩ fin) (fun x => (seg0 spec_l1In.impl spec_l1Kind.impl (atT T3 L3) (atT T5 (fun _ => none)) x.1 x.2.1).trans (by simp only [atT_self] <;> rfl))
end spec_KindsOf

/-! ### loop.example/wholecheck/spec.l2Is -/
namespace spec_l2Is
noncomputable abbrev c0 : Code := (Tryz.f89.body).getD .skip
noncomputable abbrev pin : Tpl := ⟨[⟨0, false, [.d (.sl (.prod (.int .i64) (.prod (.int .i64) (.prod (.int .i64) (.last (.int .i64))))))]⟩, ⟨1, false, [.d (.int .i64)]⟩, ⟨2, false, [.d (.int .i64)]⟩], []⟩
noncomputable abbrev pout : Tpl := ⟨[⟨0, false, [.d .bool]⟩], []⟩
noncomputable abbrev PI := (List (Int × Int × Int × Int)) × Int × Int × Unit
noncomputable abbrev PO := Bool × Unit
noncomputable abbrev rs : List ResultVar := [.tmp 6]
noncomputable def F0 (Gspec_KindsOf : spec_KindsOf.PI → Option spec_KindsOf.PO) (x0 : List (Int × Int × Int × Int)) (x1 : Int) (x2 : Int) : Option PO :=
  Option.bind (Gspec_KindsOf (x0, x1, ())) fun y0 =>
  bif decide ((y0.1.length : Int) > 0) then
    bif inb (wI ((y0.1.length : Int) - 1)) y0.1.length then
      some (y0.1.getD (wI ((y0.1.length : Int) - 1)).toNat 0 == x2, ())
    else
      none
  else
    some (false, ())
noncomputable def hd {R : Type} (Gspec_KindsOf : spec_KindsOf.PI → Option spec_KindsOf.PO) : Hand R := (handAt 104 [10] true ⟨2, 1, 2, spec_KindsOf.pin, spec_KindsOf.pout, Gspec_KindsOf⟩ handNil)
noncomputable def pg (Gspec_KindsOf : spec_KindsOf.PI → Option spec_KindsOf.PO) : Prog PO := { nt := 24, np := 3, tb := tabOf tab, hd := hd Gspec_KindsOf, cuts := cutsOf [], fin := endOf (tabOf tab) rs 3 pout }
noncomputable def q : FuncId → Bool := fun f => hasId [] f
theorem seg0 (Gspec_KindsOf : spec_KindsOf.PI → Option spec_KindsOf.PO) (x0 : List (Int × Int × Int × Int)) (x1 : Int) (x2 : Int) : arun (pg Gspec_KindsOf) 5000 [.code c0] (mk pin (x0, x1, x2, ())) = F0 Gspec_KindsOf x0 x1 x2 := by kernel_rfl
noncomputable def impl : PI → Option PO := fun x => F0 spec_KindsOf.impl x.1 x.2.1 x.2.2.1
theorem impl_eq (x0 : List (Int × Int × Int × Int)) (x1 : Int) (x2 : Int) : impl (x0, x1, x2, ()) = F0 spec_KindsOf.impl x0 x1 x2 := rfl
theorem con : Con Tryz.prog 89 3 rs.length 3 pin pout impl := by
  refine con_of_run' (nt := 24) (c := c0) tabGood Tryz.func89 (by kernel_rfl) (by kernel_rfl) (by kernel_rfl) (by kernel_rfl) (by kernel_rfl) (by kernel_rfl) (by kernel_rfl) ?_
  intro w0 O y hnp
  generalize hPost : (fun (a' : Act) (w' : World) => ∃ μ' S' st', Rel 24 w0 O μ' S' st' a' w' ∧ endOf (tabOf tab) rs 3 pout st' = some y) = Post
  have fin : ∀ (μ : Id → Option Value) (S : Nat → Prop) (st : St) (a : Act) (w : World), Rel 24 w0 O μ S st a w → endOf (tabOf tab) rs 3 pout st = some y → Post a w := fun μ S st a w h he => by rw [← hPost]; exact ⟨μ, S, st, h, he⟩
  have hp : Parts Tryz.prog 89 (pg spec_KindsOf.impl) [] := ⟨tab_ok tabGood rfl, (handAt_ok spec_KindsOf.con handNil_ok), rfl⟩
  exact good_first (hp) (runOK_of (hp) hnp trivial fin) (fun x => (seg0 spec_KindsOf.impl x.1 x.2.1 x.2.2.1))
end spec_l2Is

/-! ### loop.example/wholecheck/spec.l2Rule -/
namespace spec_l2Rule
noncomputable abbrev c0 : Code := (Tryz.f128.body).getD .skip
noncomputable abbrev pin : Tpl := ⟨[⟨0, true, [.d (.prod (.sl (.prod (.int .i64) (.prod (.int .i64) (.prod (.int .i64) (.last (.int .i64)))))) (.prod (.sl (.int .i64)) (.last (.sl (.sl (.prod (.int .i64) (.prod (.int .i64) (.prod (.int .i64) (.last (.int .i64))))))))))]⟩, ⟨1, false, [.d (.int .i64)]⟩], []⟩
noncomputable abbrev pout : Tpl := ⟨[⟨0, false, [.d .bool]⟩], []⟩
noncomputable abbrev p3 : Tpl := ⟨[⟨1, false, [.d (.int .i64)]⟩, ⟨2, false, [.ptr 3000000 0]⟩], [(3000000, .box [.d (.sl (.prod (.int .i64) (.prod (.int .i64) (.prod (.int .i64) (.last (.int .i64)))))), .d (.sl (.int .i64)), .d (.sl (.sl (.prod (.int .i64) (.prod (.int .i64) (.prod (.int .i64) (.last (.int .i64)))))))])]⟩
noncomputable def T3 : List Item := (find 3 c0 []).getD []
noncomputable abbrev p4 : Tpl := ⟨[⟨1, false, [.d (.int .i64)]⟩, ⟨2, false, [.ptr 3000000 0]⟩, ⟨5, false, [.d (.int .i64)]⟩], [(3000000, .box [.d (.sl (.prod (.int .i64) (.prod (.int .i64) (.prod (.int .i64) (.last (.int .i64)))))), .d (.sl (.int .i64)), .d (.sl (.sl (.prod (.int .i64) (.prod (.int .i64) (.prod (.int .i64) (.last (.int .i64)))))))])]⟩
noncomputable def T4 : List Item := (find 4 c0 []).getD []
noncomputable abbrev p6 : Tpl := ⟨[⟨1, false, [.d (.int .i64)]⟩, ⟨2, false, [.ptr 3000000 0]⟩, ⟨5, false, [.d (.int .i64)]⟩], [(3000000, .box [.d (.sl (.prod (.int .i64) (.prod (.int .i64) (.prod (.int .i64) (.last (.int .i64)))))), .d (.sl (.int .i64)), .d (.sl (.sl (.prod (.int .i64) (.prod (.int .i64) (.prod (.int .i64) (.last (.int .i64)))))))])]⟩
noncomputable def T6 : List Item := (find 6 c0 []).getD []
noncomputable abbrev PI := ((List (Int × Int × Int × Int)) × (List Int) × List (List (Int × Int × Int × Int))) × Int × Unit
noncomputable abbrev PO := Bool × Unit
noncomputable abbrev P3 := Int × (List (Int × Int × Int × Int)) × (List Int) × (List (List (Int × Int × Int × Int))) × Unit
noncomputable abbrev P4 := Int × Int × (List (Int × Int × Int × Int)) × (List Int) × (List (List (Int × Int × Int × Int))) × Unit
noncomputable abbrev P6 := Int × Int × (List (Int × Int × Int × Int)) × (List Int) × (List (List (Int × Int × Int × Int))) × Unit
noncomputable abbrev rs : List ResultVar := [.tmp 4]
noncomputable def F0 (J3 : P3 → Option PO) (Gspec_l2Is : spec_l2Is.PI → Option spec_l2Is.PO) (x0 : (List (Int × Int × Int × Int)) × (List Int) × List (List (Int × Int × Int × Int))) (x1 : Int) : Option PO :=
  Option.bind (Gspec_l2Is (x0.1, x1, 2, ())) fun y0 =>
  bif !y0.1 then
    some (false, ())
  else
    bif (x0.2.1.length : Int) != (x0.2.2.length : Int) then
      some (false, ())
    else
      bif decide ((x0.2.1.length : Int) > x1) then
        some (false, ())
      else
        J3 (x1, x0.1, x0.2.1, x0.2.2, ())
noncomputable def F3 (J4 : P4 → Option PO) (t1 : Int) (b0_0 : List (Int × Int × Int × Int)) (b0_1 : List Int) (b0_2 : List (List (Int × Int × Int × Int))) : Option PO :=
  J4 (t1, 0, b0_0, b0_1, b0_2, ())
noncomputable def F4 (J6 : P6 → Option PO) (t1 : Int) (t5 : Int) (b0_0 : List (Int × Int × Int × Int)) (b0_1 : List Int) (b0_2 : List (List (Int × Int × Int × Int))) : Option PO :=
  bif decide (t5 < (b0_1.length : Int)) then
    J6 (t1, t5, b0_0, b0_1, b0_2, ())
  else
    some (true, ())
noncomputable def F6 (J4 : P4 → Option PO) (Gspec_l1In : spec_l1In.PI → Option spec_l1In.PO) (Gspec_l2Is : spec_l2Is.PI → Option spec_l2Is.PO) (t1 : Int) (t5 : Int) (b0_0 : List (Int × Int × Int × Int)) (b0_1 : List Int) (b0_2 : List (List (Int × Int × Int × Int))) : Option PO :=
  bif inb t5 b0_1.length then
    Option.bind (Gspec_l1In (b0_1.getD t5.toNat 0, 0, wI (t1 - 1), ())) fun y1 =>
    bif !y1.1 then
      some (false, ())
    else
      bif decide (t5 > 0) then
        bif inb t5 b0_1.length then
          bif inb (wI (t5 - 1)) b0_1.length then
            bif decide (b0_1.getD t5.toNat 0 ≤ b0_1.getD (wI (t5 - 1)).toNat 0) then
              some (false, ())
            else
              bif inb t5 b0_2.length then
                Option.bind (Gspec_l2Is (b0_2.getD t5.toNat [], t1, 1, ())) fun y2 =>
                bif !y2.1 then
                  some (false, ())
                else
                  J4 (t1, wI (t5 + 1), b0_0, b0_1, b0_2, ())
              else
                none
          else
            none
        else
          none
      else
        bif inb t5 b0_2.length then
          Option.bind (Gspec_l2Is (b0_2.getD t5.toNat [], t1, 1, ())) fun y3 =>
          bif !y3.1 then
            some (false, ())
          else
            J4 (t1, wI (t5 + 1), b0_0, b0_1, b0_2, ())
        else
          none
  else
    none
noncomputable def F6o1 (J4 : P4 → Option PO) (Gspec_l1In : spec_l1In.PI → Option spec_l1In.PO) (Gspec_l2Is : spec_l2Is.PI → Option spec_l2Is.PO) (t1 : Int) (t5 : Int) (b0_0 : List (Int × Int × Int × Int)) (b0_1 : List Int) (b0_2 : List (List (Int × Int × Int × Int))) : Option PO :=
  bif inb t5 b0_1.length then
    Option.bind (Gspec_l1In (b0_1.getD t5.toNat 0, 0, wI (t1 - 1), ())) fun y1 =>
    bif !y1.1 then
      some (false, ())
    else
      bif decide (t5 > 0) then
        bif inb (wI (t5 - 1)) b0_1.length then
          bif inb t5 b0_1.length then
            bif decide (b0_1.getD t5.toNat 0 ≤ b0_1.getD (wI (t5 - 1)).toNat 0) then
              some (false, ())
            else
              bif inb t5 b0_2.length then
                Option.bind (Gspec_l2Is (b0_2.getD t5.toNat [], t1, 1, ())) fun y2 =>
                bif !y2.1 then
                  some (false, ())
                else
                  J4 (t1, wI (t5 + 1), b0_0, b0_1, b0_2, ())
              else
                none
          else
            none
        else
          none
      else
        bif inb t5 b0_2.length then
          Option.bind (Gspec_l2Is (b0_2.getD t5.toNat [], t1, 1, ())) fun y3 =>
          bif !y3.1 then
            some (false, ())
          else
            J4 (t1, wI (t5 + 1), b0_0, b0_1, b0_2, ())
        else
          none
  else
    none
theorem F6o1_le (J4 : P4 → Option PO) (Gspec_l1In : spec_l1In.PI → Option spec_l1In.PO) (Gspec_l2Is : spec_l2Is.PI → Option spec_l2Is.PO) (t1 : Int) (t5 : Int) (b0_0 : List (Int × Int × Int × Int)) (b0_1 : List Int) (b0_2 : List (List (Int × Int × Int × Int))) : OptLe (F6 J4 Gspec_l1In Gspec_l2Is t1 t5 b0_0 b0_1 b0_2) (F6o1 J4 Gspec_l1In Gspec_l2Is t1 t5 b0_0 b0_1 b0_2) := by
  intro y h; unfold F6 at h; unfold F6o1
  have e0 := (cond_some h).1; replace h := (cond_some h).2
  obtain ⟨y1, e1, h⟩ := Option.bind_eq_some_iff.1 h
  rcases cond_someI.1 h with ⟨e2, h⟩ | ⟨e2, h⟩
  · simp only [e0, e1, e2, cond_true, cond_false, Option.bind_some]; exact h
  · rcases cond_someI.1 h with ⟨e3, h⟩ | ⟨e3, h⟩
    · have e4 := (cond_some h).1; replace h := (cond_some h).2
      have e5 := (cond_some h).1; replace h := (cond_some h).2
      rcases cond_someI.1 h with ⟨e6, h⟩ | ⟨e6, h⟩
      · simp only [e0, e1, e2, e3, e4, e5, e6, cond_true, cond_false, Option.bind_some]; exact h
      · have e7 := (cond_some h).1; replace h := (cond_some h).2
        obtain ⟨y2, e8, h⟩ := Option.bind_eq_some_iff.1 h
        rcases cond_someI.1 h with ⟨e9, h⟩ | ⟨e9, h⟩
        · simp only [e0, e1, e2, e3, e4, e5, e6, e7, e8, e9, cond_true, cond_false, Option.bind_some]; exact h
        · simp only [e0, e1, e2, e3, e4, e5, e6, e7, e8, e9, cond_true, cond_false, Option.bind_some]; exact h
    · have e4 := (cond_some h).1; replace h := (cond_some h).2
      obtain ⟨y3, e5, h⟩ := Option.bind_eq_some_iff.1 h
      rcases cond_someI.1 h with ⟨e6, h⟩ | ⟨e6, h⟩
      · simp only [e0, e1, e2, e3, e4, e5, e6, cond_true, cond_false, Option.bind_some]; exact h
      · simp only [e0, e1, e2, e3, e4, e5, e6, cond_true, cond_false, Option.bind_some]; exact h
noncomputable def hd {R : Type} (Gspec_l1In : spec_l1In.PI → Option spec_l1In.PO) (Gspec_l2Is : spec_l2Is.PI → Option spec_l2Is.PO) : Hand R := (handAt 107 [41] true ⟨3, 1, 3, spec_l1In.pin, spec_l1In.pout, Gspec_l1In⟩ (handAt 89 [9, 68] true ⟨3, 1, 3, spec_l2Is.pin, spec_l2Is.pout, Gspec_l2Is⟩ handNil))
noncomputable def pg (Gspec_l1In : spec_l1In.PI → Option spec_l1In.PO) (Gspec_l2Is : spec_l2Is.PI → Option spec_l2Is.PO) (J3 : List Item → P3 → Option PO) (J4 : List Item → P4 → Option PO) (J6 : List Item → P6 → Option PO) : Prog PO := { nt := 71, np := 2, tb := tabOf tab, hd := hd Gspec_l1In Gspec_l2Is, cuts := cutsOf [(3, cut p3 J3), (4, cut p4 J4), (6, cut p6 J6)], fin := endOf (tabOf tab) rs 2 pout }
noncomputable def q : FuncId → Bool := fun f => hasId [89, 107] f
theorem seg0 (Gspec_l1In : spec_l1In.PI → Option spec_l1In.PO) (Gspec_l2Is : spec_l2Is.PI → Option spec_l2Is.PO) (J3 : List Item → P3 → Option PO) (J4 : List Item → P4 → Option PO) (J6 : List Item → P6 → Option PO) (x0 : (List (Int × Int × Int × Int)) × (List Int) × List (List (Int × Int × Int × Int))) (x1 : Int) : arun (pg Gspec_l1In Gspec_l2Is J3 J4 J6) 5000 [.code c0] (mk pin (x0, x1, ())) = F0 (J3 T3) Gspec_l2Is x0 x1 := by kernel_rfl
theorem seg3 (Gspec_l1In : spec_l1In.PI → Option spec_l1In.PO) (Gspec_l2Is : spec_l2Is.PI → Option spec_l2Is.PO) (J3 : List Item → P3 → Option PO) (J4 : List Item → P4 → Option PO) (J6 : List Item → P6 → Option PO) (t1 : Int) (b0_0 : List (Int × Int × Int × Int)) (b0_1 : List Int) (b0_2 : List (List (Int × Int × Int × Int))) : arun1 (pg Gspec_l1In Gspec_l2Is J3 J4 J6) 5000 T3 (mk p3 (t1, b0_0, b0_1, b0_2, ())) = F3 (J4 T4) t1 b0_0 b0_1 b0_2 := by kernel_rfl
theorem seg4 (Gspec_l1In : spec_l1In.PI → Option spec_l1In.PO) (Gspec_l2Is : spec_l2Is.PI → Option spec_l2Is.PO) (J3 : List Item → P3 → Option PO) (J4 : List Item → P4 → Option PO) (J6 : List Item → P6 → Option PO) (t1 : Int) (t5 : Int) (b0_0 : List (Int × Int × Int × Int)) (b0_1 : List Int) (b0_2 : List (List (Int × Int × Int × Int))) : arun1 (pg Gspec_l1In Gspec_l2Is J3 J4 J6) 5000 T4 (mk p4 (t1, t5, b0_0, b0_1, b0_2, ())) = F4 (J6 T6) t1 t5 b0_0 b0_1 b0_2 := by kernel_rfl
theorem seg6 (Gspec_l1In : spec_l1In.PI → Option spec_l1In.PO) (Gspec_l2Is : spec_l2Is.PI → Option spec_l2Is.PO) (J3 : List Item → P3 → Option PO) (J4 : List Item → P4 → Option PO) (J6 : List Item → P6 → Option PO) (t1 : Int) (t5 : Int) (b0_0 : List (Int × Int × Int × Int)) (b0_1 : List Int) (b0_2 : List (List (Int × Int × Int × Int))) : arunQ (pg Gspec_l1In Gspec_l2Is J3 J4 J6) q [] [] 5000 T6 (mk p6 (t1, t5, b0_0, b0_1, b0_2, ())) = [F6 (J4 T4) Gspec_l1In Gspec_l2Is t1 t5 b0_0 b0_1 b0_2, F6 (J4 T4) Gspec_l1In Gspec_l2Is t1 t5 b0_0 b0_1 b0_2, F6 (J4 T4) Gspec_l1In Gspec_l2Is t1 t5 b0_0 b0_1 b0_2, F6o1 (J4 T4) Gspec_l1In Gspec_l2Is t1 t5 b0_0 b0_1 b0_2, F6o1 (J4 T4) Gspec_l1In Gspec_l2Is t1 t5 b0_0 b0_1 b0_2, F6o1 (J4 T4) Gspec_l1In Gspec_l2Is t1 t5 b0_0 b0_1 b0_2] := by kernel_rfl
noncomputable def L6 (J4 : P4 → Option PO) : P6 → Option PO := fun x => F6 J4 spec_l1In.impl spec_l2Is.impl x.1 x.2.1 x.2.2.1 x.2.2.2.1 x.2.2.2.2.1
noncomputable def L4 : P4 → Option PO := lfp fun J4 x => F4 (L6 J4) x.1 x.2.1 x.2.2.1 x.2.2.2.1 x.2.2.2.2.1
noncomputable def L3 : P3 → Option PO := fun x => F3 L4 x.1 x.2.1 x.2.2.1 x.2.2.2.1
noncomputable def impl : PI → Option PO := fun x => F0 L3 spec_l2Is.impl x.1 x.2.1
theorem F6_le {J4 J4' : P4 → Option PO} (h4 : OLe J4 J4') {Gspec_l1In : spec_l1In.PI → Option spec_l1In.PO} {Gspec_l2Is : spec_l2Is.PI → Option spec_l2Is.PO} (t1 : Int) (t5 : Int) (b0_0 : List (Int × Int × Int × Int)) (b0_1 : List Int) (b0_2 : List (List (Int × Int × Int × Int))) : OptLe (F6 J4 Gspec_l1In Gspec_l2Is t1 t5 b0_0 b0_1 b0_2) (F6 J4' Gspec_l1In Gspec_l2Is t1 t5 b0_0 b0_1 b0_2) := by unfold F6; exact .cond (.bind (.refl _) fun _ => .cond (.refl _) (.cond (.cond (.cond (.cond (.refl _) (.cond (.bind (.refl _) fun _ => .cond (.refl _) (.of h4 _)) (.refl _))) (.refl _)) (.refl _)) (.cond (.bind (.refl _) fun _ => .cond (.refl _) (.of h4 _)) (.refl _)))) (.refl _)
theorem F4_le {J6 J6' : P6 → Option PO} (h6 : OLe J6 J6') (t1 : Int) (t5 : Int) (b0_0 : List (Int × Int × Int × Int)) (b0_1 : List Int) (b0_2 : List (List (Int × Int × Int × Int))) : OptLe (F4 J6 t1 t5 b0_0 b0_1 b0_2) (F4 J6' t1 t5 b0_0 b0_1 b0_2) := by unfold F4; exact .cond (.of h6 _) (.refl _)
theorem L6_eq (J4 : P4 → Option PO) (t1 : Int) (t5 : Int) (b0_0 : List (Int × Int × Int × Int)) (b0_1 : List Int) (b0_2 : List (List (Int × Int × Int × Int))) : L6 J4 (t1, t5, b0_0, b0_1, b0_2, ()) = F6 J4 spec_l1In.impl spec_l2Is.impl t1 t5 b0_0 b0_1 b0_2 := rfl
theorem L6_le {J4 J4' : P4 → Option PO} (h4 : OLe J4 J4') : OLe (L6 J4) (L6 J4') := fun x => F6_le h4 x.1 x.2.1 x.2.2.1 x.2.2.2.1 x.2.2.2.2.1
theorem L4_mono : OMono fun J4 (x : P4) => F4 (L6 J4) x.1 x.2.1 x.2.2.1 x.2.2.2.1 x.2.2.2.2.1 := fun J J' h4 x => F4_le (L6_le h4) x.1 x.2.1 x.2.2.1 x.2.2.2.1 x.2.2.2.2.1
theorem L4_eq (t1 : Int) (t5 : Int) (b0_0 : List (Int × Int × Int × Int)) (b0_1 : List Int) (b0_2 : List (List (Int × Int × Int × Int))) : L4 (t1, t5, b0_0, b0_1, b0_2, ()) = F4 (L6 (L4)) t1 t5 b0_0 b0_1 b0_2 := congrFun (lfp_eq (L4_mono)) _
theorem L3_eq (t1 : Int) (b0_0 : List (Int × Int × Int × Int)) (b0_1 : List Int) (b0_2 : List (List (Int × Int × Int × Int))) : L3 (t1, b0_0, b0_1, b0_2, ()) = F3 (L4) t1 b0_0 b0_1 b0_2 := rfl
theorem impl_eq (x0 : (List (Int × Int × Int × Int)) × (List Int) × List (List (Int × Int × Int × Int))) (x1 : Int) : impl (x0, x1, ()) = F0 L3 spec_l2Is.impl x0 x1 := rfl
theorem con : Con Tryz.prog 128 2 rs.length 2 pin pout impl := by
  refine con_of_run' (nt := 71) (c := c0) tabGood Tryz.func128 (by kernel_rfl) (by kernel_rfl) (by kernel_rfl) (by kernel_rfl) (by kernel_rfl) (by kernel_rfl) (by kernel_rfl) ?_
  intro w0 O y hnp
  generalize hPost : (fun (a' : Act) (w' : World) => ∃ μ' S' st', Rel 71 w0 O μ' S' st' a' w' ∧ endOf (tabOf tab) rs 2 pout st' = some y) = Post
  have fin : ∀ (μ : Id → Option Value) (S : Nat → Prop) (st : St) (a : Act) (w : World), Rel 71 w0 O μ S st a w → endOf (tabOf tab) rs 2 pout st = some y → Post a w := fun μ S st a w h he => by rw [← hPost]; exact ⟨μ, S, st, h, he⟩
  have hp : ∀ (J3 : List Item → P3 → Option PO), ∀ (J4 : List Item → P4 → Option PO), ∀ (J6 : List Item → P6 → Option PO), Parts Tryz.prog 128 (pg spec_l1In.impl spec_l2Is.impl J3 J4 J6) [(3, cut p3 J3), (4, cut p4 J4), (6, cut p6 J6)] := fun J3 J4 J6 => ⟨tab_ok tabGood rfl, (handAt_ok spec_l1In.con (handAt_ok spec_l2Is.con handNil_ok)), rfl⟩
  have g6 : ∀ (J4 : P4 → Option PO), Good Tryz.prog 71 w0 O Post y T4 p4 J4 → Good Tryz.prog 71 w0 O Post y T6 p6 (L6 J4) := fun J4 h4 => good_quiet (hs := hd spec_l1In.impl spec_l2Is.impl) (cv' := hd spec_l1In.impl spec_l2Is.impl) (Checked.mixed Tryz.checked) (hp (atT T3 (fun _ => none)) (atT T4 J4) (atT T6 (fun _ => none))) (handAt_D spec_l1In.con (by rfl) rfl (handAt_D spec_l2Is.con (by rfl) rfl handNil_D)) (handAt_nat (handAt_nat handNil_nat)) (handAt_nat (handAt_nat handNil_nat)) (runOK_of (hp (atT T3 (fun _ => none)) (atT T4 J4) (atT T6 (fun _ => none))) hnp ⟨cutOK_at (p := p3) (T := T3) (J := fun _ => none) good_none, cutOK_at h4, cutOK_at (p := p6) (T := T6) (J := fun _ => none) good_none, trivial⟩ fin) (fun x => all_of (L := [F6 J4 spec_l1In.impl spec_l2Is.impl x.1 x.2.1 x.2.2.1 x.2.2.2.1 x.2.2.2.2.1, F6 J4 spec_l1In.impl spec_l2Is.impl x.1 x.2.1 x.2.2.1 x.2.2.2.1 x.2.2.2.2.1, F6 J4 spec_l1In.impl spec_l2Is.impl x.1 x.2.1 x.2.2.1 x.2.2.2.1 x.2.2.2.2.1, F6o1 J4 spec_l1In.impl spec_l2Is.impl x.1 x.2.1 x.2.2.1 x.2.2.2.1 x.2.2.2.2.1, F6o1 J4 spec_l1In.impl spec_l2Is.impl x.1 x.2.1 x.2.2.1 x.2.2.2.1 x.2.2.2.2.1, F6o1 J4 spec_l1In.impl spec_l2Is.impl x.1 x.2.1 x.2.2.1 x.2.2.2.1 x.2.2.2.2.1]) ((seg6 spec_l1In.impl spec_l2Is.impl (atT T3 (fun _ => none)) (atT T4 J4) (atT T6 (fun _ => none)) x.1 x.2.1 x.2.2.1 x.2.2.2.1 x.2.2.2.2.1).trans (by simp only [atT_self] <;> rfl)) (all_cons (fun _ h => h) (all_cons (fun _ h => h) (all_cons (fun _ h => h) (all_cons (F6o1_le J4 spec_l1In.impl spec_l2Is.impl x.1 x.2.1 x.2.2.1 x.2.2.2.1 x.2.2.2.2.1) (all_cons (F6o1_le J4 spec_l1In.impl spec_l2Is.impl x.1 x.2.1 x.2.2.1 x.2.2.2.1 x.2.2.2.2.1) (all_cons (F6o1_le J4 spec_l1In.impl spec_l2Is.impl x.1 x.2.1 x.2.2.1 x.2.2.2.1 x.2.2.2.2.1) all_nil)))))))
  have g4 : Good Tryz.prog 71 w0 O Post y T4 p4 L4 := good_lfp fun J4 h4 => good_part (hp (atT T3 (fun _ => none)) (atT T4 (fun _ => none)) (atT T6 (L6 J4))) (runOK_of (hp (atT T3 (fun _ => none)) (atT T4 (fun _ => none)) (atT T6 (L6 J4))) hnp ⟨cutOK_at (p := p3) (T := T3) (J := fun _ => none) good_none, cutOK_at (p := p4) (T := T4) (J := fun _ => none) good_none, cutOK_at (g6 J4 h4), trivial⟩ fin) (fun x => (seg4 spec_l1In.impl spec_l2Is.impl (atT T3 (fun _ => none)) (atT T4 (fun _ => none)) (atT T6 (L6 J4)) x.1 x.2.1 x.2.2.1 x.2.2.2.1 x.2.2.2.2.1).trans (by simp only [atT_self] <;> rfl))
  have g3 : Good Tryz.prog 71 w0 O Post y T3 p3 L3 := good_part (hp (atT T3 (fun _ => none)) (atT T4 L4) (atT T6 (fun _ => none))) (runOK_of (hp (atT T3 (fun _ => none)) (atT T4 L4) (atT T6 (fun _ => none))) hnp ⟨cutOK_at (p := p3) (T := T3) (J := fun _ => none) good_none, cutOK_at g4, cutOK_at (p := p6) (T := T6) (J := fun _ => none) good_none, trivial⟩ fin) (fun x => (seg3 spec_l1In.impl spec_l2Is.impl (atT T3 (fun _ => none)) (atT T4 L4) (atT T6 (fun _ => none)) x.1 x.2.1 x.2.2.1 x.2.2.2.1).trans (by simp only [atT_self] <;> rfl))
  exact good_first (hp (atT T3 L3) (atT T4 (fun _ => none)) (atT T6 (fun _ => none))) (runOK_of (hp (atT T3 L3) (atT T4 (fun _ => none)) (atT T6 (fun _ => none))) hnp ⟨cutOK_at g3, cutOK_at (p := p4) (T := T4) (J := fun _ => none) good_none, cutOK_at (p := p6) (T := T6) (J := fun _ => none) good_none, trivial⟩ fin) (fun x => (seg0 spec_l1In.impl spec_l2Is.impl (atT T3 L3) (atT T4 (fun _ => none)) (atT T6 (fun _ => none)) x.1 x.2.1).trans (by simp only [atT_self] <;> rfl))
end spec_l2Rule

/-! ### loop.example/wholecheck/spec.SystemValid -/
namespace spec_SystemValid
noncomputable abbrev c0 : Code := (Tryz.f90.body).getD .skip
noncomputable abbrev pin : Tpl := ⟨[⟨0, true, [.d (.prod (.sl (.prod (.int .i64) (.prod (.int .i64) (.last (.int .i64))))) (.last (.sl (.prod (.sl (.prod (.int .i64) (.prod (.int .i64) (.prod (.int .i64) (.last (.int .i64)))))) (.prod (.sl (.int .i64)) (.last (.sl (.sl (.prod (.int .i64) (.prod (.int .i64) (.prod (.int .i64) (.last (.int .i64)))))))))))))]⟩], []⟩
noncomputable abbrev pout : Tpl := ⟨[⟨0, false, [.d .bool]⟩], []⟩
noncomputable abbrev p3 : Tpl := ⟨[⟨1, false, [.ptr 3000000 0]⟩], [(3000000, .box [.d (.sl (.prod (.int .i64) (.prod (.int .i64) (.last (.int .i64))))), .d (.sl (.prod (.sl (.prod (.int .i64) (.prod (.int .i64) (.prod (.int .i64) (.last (.int .i64)))))) (.prod (.sl (.int .i64)) (.last (.sl (.sl (.prod (.int .i64) (.prod (.int .i64) (.prod (.int .i64) (.last (.int .i64)))))))))))])]⟩
noncomputable def T3 : List Item := (find 3 c0 []).getD []
noncomputable abbrev p5 : Tpl := ⟨[⟨1, false, [.ptr 3000000 0]⟩, ⟨3, false, [.d (.int .i64)]⟩, ⟨4, false, [.d (.int .i64)]⟩], [(3000000, .box [.d (.sl (.prod (.int .i64) (.prod (.int .i64) (.last (.int .i64))))), .d (.sl (.prod (.sl (.prod (.int .i64) (.prod (.int .i64) (.prod (.int .i64) (.last (.int .i64)))))) (.prod (.sl (.int .i64)) (.last (.sl (.sl (.prod (.int .i64) (.prod (.int .i64) (.prod (.int .i64) (.last (.int .i64)))))))))))])]⟩
noncomputable def T5 : List Item := (find 5 c0 []).getD []
noncomputable abbrev p9 : Tpl := ⟨[⟨1, false, [.ptr 3000000 0]⟩, ⟨3, false, [.d (.int .i64)]⟩, ⟨4, false, [.d (.int .i64)]⟩], [(3000000, .box [.d (.sl (.prod (.int .i64) (.prod (.int .i64) (.last (.int .i64))))), .d (.sl (.prod (.sl (.prod (.int .i64) (.prod (.int .i64) (.prod (.int .i64) (.last (.int .i64)))))) (.prod (.sl (.int .i64)) (.last (.sl (.sl (.prod (.int .i64) (.prod (.int .i64) (.prod (.int .i64) (.last (.int .i64)))))))))))])]⟩
noncomputable def T9 : List Item := (find 9 c0 []).getD []
noncomputable abbrev p11 : Tpl := ⟨[⟨1, false, [.ptr 3000000 0]⟩, ⟨3, false, [.d (.int .i64)]⟩, ⟨5, false, [.d (.int .i64)]⟩], [(3000000, .box [.d (.sl (.prod (.int .i64) (.prod (.int .i64) (.last (.int .i64))))), .d (.sl (.prod (.sl (.prod (.int .i64) (.prod (.int .i64) (.prod (.int .i64) (.last (.int .i64)))))) (.prod (.sl (.int .i64)) (.last (.sl (.sl (.prod (.int .i64) (.prod (.int .i64) (.prod (.int .i64) (.last (.int .i64)))))))))))])]⟩
noncomputable def T11 : List Item := (find 11 c0 []).getD []
noncomputable abbrev p13 : Tpl := ⟨[⟨1, false, [.ptr 3000000 0]⟩, ⟨3, false, [.d (.int .i64)]⟩, ⟨5, false, [.d (.int .i64)]⟩], [(3000000, .box [.d (.sl (.prod (.int .i64) (.prod (.int .i64) (.last (.int .i64))))), .d (.sl (.prod (.sl (.prod (.int .i64) (.prod (.int .i64) (.prod (.int .i64) (.last (.int .i64)))))) (.prod (.sl (.int .i64)) (.last (.sl (.sl (.prod (.int .i64) (.prod (.int .i64) (.prod (.int .i64) (.last (.int .i64)))))))))))])]⟩
noncomputable def T13 : List Item := (find 13 c0 []).getD []
noncomputable abbrev PI := ((List (Int × Int × Int)) × List ((List (Int × Int × Int × Int)) × (List Int) × List (List (Int × Int × Int × Int)))) × Unit
noncomputable abbrev PO := Bool × Unit
noncomputable abbrev P3 := (List (Int × Int × Int)) × (List ((List (Int × Int × Int × Int)) × (List Int) × List (List (Int × Int × Int × Int)))) × Unit
noncomputable abbrev P5 := Int × Int × (List (Int × Int × Int)) × (List ((List (Int × Int × Int × Int)) × (List Int) × List (List (Int × Int × Int × Int)))) × Unit
noncomputable abbrev P9 := Int × Int × (List (Int × Int × Int)) × (List ((List (Int × Int × Int × Int)) × (List Int) × List (List (Int × Int × Int × Int)))) × Unit
noncomputable abbrev P11 := Int × Int × (List (Int × Int × Int)) × (List ((List (Int × Int × Int × Int)) × (List Int) × List (List (Int × Int × Int × Int)))) × Unit
noncomputable abbrev P13 := Int × Int × (List (Int × Int × Int)) × (List ((List (Int × Int × Int × Int)) × (List Int) × List (List (Int × Int × Int × Int)))) × Unit
noncomputable abbrev rs : List ResultVar := [.tmp 2]
noncomputable def F0 (J3 : P3 → Option PO) (Gspec_l1In : spec_l1In.PI → Option spec_l1In.PO) (x0 : (List (Int × Int × Int)) × List ((List (Int × Int × Int × Int)) × (List Int) × List (List (Int × Int × Int × Int)))) : Option PO :=
  Option.bind (Gspec_l1In ((x0.1.length : Int), 1, 5, ())) fun y0 =>
  bif !y0.1 then
    some (false, ())
  else
    bif decide ((x0.2.length : Int) > 8) then
      some (false, ())
    else
      J3 (x0.1, x0.2, ())
noncomputable def F3 (J5 : P5 → Option PO) (b0_0 : List (Int × Int × Int)) (b0_1 : List ((List (Int × Int × Int × Int)) × (List Int) × List (List (Int × Int × Int × Int)))) : Option PO :=
  J5 (1, 0, b0_0, b0_1, ())
noncomputable def F5 (J9 : P9 → Option PO) (J11 : P11 → Option PO) (Gspec_l2Var : spec_l2Var.PI → Option spec_l2Var.PO) (t3 : Int) (t4 : Int) (b0_0 : List (Int × Int × Int)) (b0_1 : List ((List (Int × Int × Int × Int)) × (List Int) × List (List (Int × Int × Int × Int)))) : Option PO :=
  bif decide (t4 < (b0_0.length : Int)) then
    bif inb t4 b0_0.length then
      Option.bind (Gspec_l2Var (b0_0.getD t4.toNat (0, 0, 0), ())) fun y1 =>
      bif !y1.1 then
        some (false, ())
      else
        J9 (t3, t4, b0_0, b0_1, ())
    else
      none
  else
    J11 (t3, 0, b0_0, b0_1, ())
noncomputable def F9 (J5 : P5 → Option PO) (t3 : Int) (t4 : Int) (b0_0 : List (Int × Int × Int)) (b0_1 : List ((List (Int × Int × Int × Int)) × (List Int) × List (List (Int × Int × Int × Int)))) : Option PO :=
  bif inb t4 b0_0.length then
    bif inb t4 b0_0.length then
      J5 (wI (t3 * (wI ((wI ((b0_0.getD t4.toNat (0, 0, 0)).2.1 - (b0_0.getD t4.toNat (0, 0, 0)).1)) + 1))), wI (t4 + 1), b0_0, b0_1, ())
    else
      none
  else
    none
noncomputable def F11 (J13 : P13 → Option PO) (t3 : Int) (t5 : Int) (b0_0 : List (Int × Int × Int)) (b0_1 : List ((List (Int × Int × Int × Int)) × (List Int) × List (List (Int × Int × Int × Int)))) : Option PO :=
  bif decide (t5 < (b0_1.length : Int)) then
    J13 (t3, t5, b0_0, b0_1, ())
  else
    some (decide (t3 ≤ 400), ())
noncomputable def F13 (J11 : P11 → Option PO) (Gspec_l2Rule : spec_l2Rule.PI → Option spec_l2Rule.PO) (t3 : Int) (t5 : Int) (b0_0 : List (Int × Int × Int)) (b0_1 : List ((List (Int × Int × Int × Int)) × (List Int) × List (List (Int × Int × Int × Int)))) : Option PO :=
  bif inb t5 b0_1.length then
    Option.bind (Gspec_l2Rule (b0_1.getD t5.toNat ([], [], []), (b0_0.length : Int), ())) fun y2 =>
    bif !y2.1 then
      some (false, ())
    else
      J11 (t3, wI (t5 + 1), b0_0, b0_1, ())
  else
    none
noncomputable def hd {R : Type} (Gspec_l1In : spec_l1In.PI → Option spec_l1In.PO) (Gspec_l2Rule : spec_l2Rule.PI → Option spec_l2Rule.PO) (Gspec_l2Var : spec_l2Var.PI → Option spec_l2Var.PO) : Hand R := (handAt 128 [62] true ⟨2, 1, 2, spec_l2Rule.pin, spec_l2Rule.pout, Gspec_l2Rule⟩ (handAt 127 [29] true ⟨1, 1, 1, spec_l2Var.pin, spec_l2Var.pout, Gspec_l2Var⟩ (handAt 107 [9] true ⟨3, 1, 3, spec_l1In.pin, spec_l1In.pout, Gspec_l1In⟩ handNil)))
noncomputable def pg (Gspec_l1In : spec_l1In.PI → Option spec_l1In.PO) (Gspec_l2Rule : spec_l2Rule.PI → Option spec_l2Rule.PO) (Gspec_l2Var : spec_l2Var.PI → Option spec_l2Var.PO) (J3 : List Item → P3 → Option PO) (J5 : List Item → P5 → Option PO) (J9 : List Item → P9 → Option PO) (J11 : List Item → P11 → Option PO) (J13 : List Item → P13 → Option PO) : Prog PO := { nt := 66, np := 1, tb := tabOf tab, hd := hd Gspec_l1In Gspec_l2Rule Gspec_l2Var, cuts := cutsOf [(3, cut p3 J3), (5, cut p5 J5), (9, cut p9 J9), (11, cut p11 J11), (13, cut p13 J13)], fin := endOf (tabOf tab) rs 1 pout }
noncomputable def q : FuncId → Bool := fun f => hasId [107, 127, 128] f
theorem seg0 (Gspec_l1In : spec_l1In.PI → Option spec_l1In.PO) (Gspec_l2Rule : spec_l2Rule.PI → Option spec_l2Rule.PO) (Gspec_l2Var : spec_l2Var.PI → Option spec_l2Var.PO) (J3 : List Item → P3 → Option PO) (J5 : List Item → P5 → Option PO) (J9 : List Item → P9 → Option PO) (J11 : List Item → P11 → Option PO) (J13 : List Item → P13 → Option PO) (x0 : (List (Int × Int × Int)) × List ((List (Int × Int × Int × Int)) × (List Int) × List (List (Int × Int × Int × Int)))) : arun (pg Gspec_l1In Gspec_l2Rule Gspec_l2Var J3 J5 J9 J11 J13) 5000 [.code c0] (mk pin (x0, ())) = F0 (J3 T3) Gspec_l1In x0 := by kernel_rfl
theorem seg3 (Gspec_l1In : spec_l1In.PI → Option spec_l1In.PO) (Gspec_l2Rule : spec_l2Rule.PI → Option spec_l2Rule.PO) (Gspec_l2Var : spec_l2Var.PI → Option spec_l2Var.PO) (J3 : List Item → P3 → Option PO) (J5 : List Item → P5 → Option PO) (J9 : List Item → P9 → Option PO) (J11 : List Item → P11 → Option PO) (J13 : List Item → P13 → Option PO) (b0_0 : List (Int × Int × Int)) (b0_1 : List ((List (Int × Int × Int × Int)) × (List Int) × List (List (Int × Int × Int × Int)))) : arun1 (pg Gspec_l1In Gspec_l2Rule Gspec_l2Var J3 J5 J9 J11 J13) 5000 T3 (mk p3 (b0_0, b0_1, ())) = F3 (J5 T5) b0_0 b0_1 := by kernel_rfl
theorem seg5 (Gspec_l1In : spec_l1In.PI → Option spec_l1In.PO) (Gspec_l2Rule : spec_l2Rule.PI → Option spec_l2Rule.PO) (Gspec_l2Var : spec_l2Var.PI → Option spec_l2Var.PO) (J3 : List Item → P3 → Option PO) (J5 : List Item → P5 → Option PO) (J9 : List Item → P9 → Option PO) (J11 : List Item → P11 → Option PO) (J13 : List Item → P13 → Option PO) (t3 : Int) (t4 : Int) (b0_0 : List (Int × Int × Int)) (b0_1 : List ((List (Int × Int × Int × Int)) × (List Int) × List (List (Int × Int × Int × Int)))) : arun1 (pg Gspec_l1In Gspec_l2Rule Gspec_l2Var J3 J5 J9 J11 J13) 5000 T5 (mk p5 (t3, t4, b0_0, b0_1, ())) = F5 (J9 T9) (J11 T11) Gspec_l2Var t3 t4 b0_0 b0_1 := by kernel_rfl
theorem seg9 (Gspec_l1In : spec_l1In.PI → Option spec_l1In.PO) (Gspec_l2Rule : spec_l2Rule.PI → Option spec_l2Rule.PO) (Gspec_l2Var : spec_l2Var.PI → Option spec_l2Var.PO) (J3 : List Item → P3 → Option PO) (J5 : List Item → P5 → Option PO) (J9 : List Item → P9 → Option PO) (J11 : List Item → P11 → Option PO) (J13 : List Item → P13 → Option PO) (t3 : Int) (t4 : Int) (b0_0 : List (Int × Int × Int)) (b0_1 : List ((List (Int × Int × Int × Int)) × (List Int) × List (List (Int × Int × Int × Int)))) : arunQ (pg Gspec_l1In Gspec_l2Rule Gspec_l2Var J3 J5 J9 J11 J13) q [] [] 5000 T9 (mk p9 (t3, t4, b0_0, b0_1, ())) = List.replicate (arunQ (pg Gspec_l1In Gspec_l2Rule Gspec_l2Var J3 J5 J9 J11 J13) q [] [] 5000 T9 (mk p9 (t3, t4, b0_0, b0_1, ()))).length (F9 (J5 T5) t3 t4 b0_0 b0_1) := by kernel_rfl
theorem seg11 (Gspec_l1In : spec_l1In.PI → Option spec_l1In.PO) (Gspec_l2Rule : spec_l2Rule.PI → Option spec_l2Rule.PO) (Gspec_l2Var : spec_l2Var.PI → Option spec_l2Var.PO) (J3 : List Item → P3 → Option PO) (J5 : List Item → P5 → Option PO) (J9 : List Item → P9 → Option PO) (J11 : List Item → P11 → Option PO) (J13 : List Item → P13 → Option PO) (t3 : Int) (t5 : Int) (b0_0 : List (Int × Int × Int)) (b0_1 : List ((List (Int × Int × Int × Int)) × (List Int) × List (List (Int × Int × Int × Int)))) : arun1 (pg Gspec_l1In Gspec_l2Rule Gspec_l2Var J3 J5 J9 J11 J13) 5000 T11 (mk p11 (t3, t5, b0_0, b0_1, ())) = F11 (J13 T13) t3 t5 b0_0 b0_1 := by kernel_rfl
theorem seg13 (Gspec_l1In : spec_l1In.PI → Option spec_l1In.PO) (Gspec_l2Rule : spec_l2Rule.PI → Option spec_l2Rule.PO) (Gspec_l2Var : spec_l2Var.PI → Option spec_l2Var.PO) (J3 : List Item → P3 → Option PO) (J5 : List Item → P5 → Option PO) (J9 : List Item → P9 → Option PO) (J11 : List Item → P11 → Option PO) (J13 : List Item → P13 → Option PO) (t3 : Int) (t5 : Int) (b0_0 : List (Int × Int × Int)) (b0_1 : List ((List (Int × Int × Int × Int)) × (List Int) × List (List (Int × Int × Int × Int)))) : arunQ (pg Gspec_l1In Gspec_l2Rule Gspec_l2Var J3 J5 J9 J11 J13) q [] [] 5000 T13 (mk p13 (t3, t5, b0_0, b0_1, ())) = List.replicate (arunQ (pg Gspec_l1In Gspec_l2Rule Gspec_l2Var J3 J5 J9 J11 J13) q [] [] 5000 T13 (mk p13 (t3, t5, b0_0, b0_1, ()))).length (F13 (J11 T11) Gspec_l2Rule t3 t5 b0_0 b0_1) := by kernel_rfl
noncomputable def L13 (J11 : P11 → Option PO) : P13 → Option PO := fun x => F13 J11 spec_l2Rule.impl x.1 x.2.1 x.2.2.1 x.2.2.2.1
noncomputable def L11 : P11 → Option PO := lfp fun J11 x => F11 (L13 J11) x.1 x.2.1 x.2.2.1 x.2.2.2.1
noncomputable def L9 (J5 : P5 → Option PO) : P9 → Option PO := fun x => F9 J5 x.1 x.2.1 x.2.2.1 x.2.2.2.1
noncomputable def L5 : P5 → Option PO := lfp fun J5 x => F5 (L9 J5) L11 spec_l2Var.impl x.1 x.2.1 x.2.2.1 x.2.2.2.1
noncomputable def L3 : P3 → Option PO := fun x => F3 L5 x.1 x.2.1
noncomputable def impl : PI → Option PO := fun x => F0 L3 spec_l1In.impl x.1
theorem F13_le {J11 J11' : P11 → Option PO} (h11 : OLe J11 J11') {Gspec_l2Rule : spec_l2Rule.PI → Option spec_l2Rule.PO} (t3 : Int) (t5 : Int) (b0_0 : List (Int × Int × Int)) (b0_1 : List ((List (Int × Int × Int × Int)) × (List Int) × List (List (Int × Int × Int × Int)))) : OptLe (F13 J11 Gspec_l2Rule t3 t5 b0_0 b0_1) (F13 J11' Gspec_l2Rule t3 t5 b0_0 b0_1) := by unfold F13; exact .cond (.bind (.refl _) fun _ => .cond (.refl _) (.of h11 _)) (.refl _)
theorem F11_le {J13 J13' : P13 → Option PO} (h13 : OLe J13 J13') (t3 : Int) (t5 : Int) (b0_0 : List (Int × Int × Int)) (b0_1 : List ((List (Int × Int × Int × Int)) × (List Int) × List (List (Int × Int × Int × Int)))) : OptLe (F11 J13 t3 t5 b0_0 b0_1) (F11 J13' t3 t5 b0_0 b0_1) := by unfold F11; exact .cond (.of h13 _) (.refl _)
theorem F9_le {J5 J5' : P5 → Option PO} (h5 : OLe J5 J5') (t3 : Int) (t4 : Int) (b0_0 : List (Int × Int × Int)) (b0_1 : List ((List (Int × Int × Int × Int)) × (List Int) × List (List (Int × Int × Int × Int)))) : OptLe (F9 J5 t3 t4 b0_0 b0_1) (F9 J5' t3 t4 b0_0 b0_1) := by unfold F9; exact .cond (.cond (.of h5 _) (.refl _)) (.refl _)
theorem F5_le {J9 J9' : P9 → Option PO} (h9 : OLe J9 J9') {J11 J11' : P11 → Option PO} (h11 : OLe J11 J11') {Gspec_l2Var : spec_l2Var.PI → Option spec_l2Var.PO} (t3 : Int) (t4 : Int) (b0_0 : List (Int × Int × Int)) (b0_1 : List ((List (Int × Int × Int × Int)) × (List Int) × List (List (Int × Int × Int × Int)))) : OptLe (F5 J9 J11 Gspec_l2Var t3 t4 b0_0 b0_1) (F5 J9' J11' Gspec_l2Var t3 t4 b0_0 b0_1) := by unfold F5; exact .cond (.cond (.bind (.refl _) fun _ => .cond (.refl _) (.of h9 _)) (.refl _)) (.of h11 _)
theorem L13_eq (J11 : P11 → Option PO) (t3 : Int) (t5 : Int) (b0_0 : List (Int × Int × Int)) (b0_1 : List ((List (Int × Int × Int × Int)) × (List Int) × List (List (Int × Int × Int × Int)))) : L13 J11 (t3, t5, b0_0, b0_1, ()) = F13 J11 spec_l2Rule.impl t3 t5 b0_0 b0_1 := rfl
theorem L13_le {J11 J11' : P11 → Option PO} (h11 : OLe J11 J11') : OLe (L13 J11) (L13 J11') := fun x => F13_le h11 x.1 x.2.1 x.2.2.1 x.2.2.2.1
theorem L11_mono : OMono fun J11 (x : P11) => F11 (L13 J11) x.1 x.2.1 x.2.2.1 x.2.2.2.1 := fun J J' h11 x => F11_le (L13_le h11) x.1 x.2.1 x.2.2.1 x.2.2.2.1
theorem L11_eq (t3 : Int) (t5 : Int) (b0_0 : List (Int × Int × Int)) (b0_1 : List ((List (Int × Int × Int × Int)) × (List Int) × List (List (Int × Int × Int × Int)))) : L11 (t3, t5, b0_0, b0_1, ()) = F11 (L13 (L11)) t3 t5 b0_0 b0_1 := congrFun (lfp_eq (L11_mono)) _
theorem L9_eq (J5 : P5 → Option PO) (t3 : Int) (t4 : Int) (b0_0 : List (Int × Int × Int)) (b0_1 : List ((List (Int × Int × Int × Int)) × (List Int) × List (List (Int × Int × Int × Int)))) : L9 J5 (t3, t4, b0_0, b0_1, ()) = F9 J5 t3 t4 b0_0 b0_1 := rfl
theorem L9_le {J5 J5' : P5 → Option PO} (h5 : OLe J5 J5') : OLe (L9 J5) (L9 J5') := fun x => F9_le h5 x.1 x.2.1 x.2.2.1 x.2.2.2.1
theorem L5_mono : OMono fun J5 (x : P5) => F5 (L9 J5) L11 spec_l2Var.impl x.1 x.2.1 x.2.2.1 x.2.2.2.1 := fun J J' h5 x => F5_le (L9_le h5) (fun _ _ h => h) x.1 x.2.1 x.2.2.1 x.2.2.2.1
theorem L5_eq (t3 : Int) (t4 : Int) (b0_0 : List (Int × Int × Int)) (b0_1 : List ((List (Int × Int × Int × Int)) × (List Int) × List (List (Int × Int × Int × Int)))) : L5 (t3, t4, b0_0, b0_1, ()) = F5 (L9 (L5)) (L11) spec_l2Var.impl t3 t4 b0_0 b0_1 := congrFun (lfp_eq (L5_mono)) _
theorem L3_eq (b0_0 : List (Int × Int × Int)) (b0_1 : List ((List (Int × Int × Int × Int)) × (List Int) × List (List (Int × Int × Int × Int)))) : L3 (b0_0, b0_1, ()) = F3 (L5) b0_0 b0_1 := rfl
theorem impl_eq (x0 : (List (Int × Int × Int)) × List ((List (Int × Int × Int × Int)) × (List Int) × List (List (Int × Int × Int × Int)))) : impl (x0, ()) = F0 L3 spec_l1In.impl x0 := rfl
theorem con : Con Tryz.prog 90 1 rs.length 1 pin pout impl := by
  refine con_of_run' (nt := 66) (c := c0) tabGood Tryz.func90 (by kernel_rfl) (by kernel_rfl) (by kernel_rfl) (by kernel_rfl) (by kernel_rfl) (by kernel_rfl) (by kernel_rfl) ?_
  intro w0 O y hnp
  generalize hPost : (fun (a' : Act) (w' : World) => ∃ μ' S' st', Rel 66 w0 O μ' S' st' a' w' ∧ endOf (tabOf tab) rs 1 pout st' = some y) = Post
  have fin : ∀ (μ : Id → Option Value) (S : Nat → Prop) (st : St) (a : Act) (w : World), Rel 66 w0 O μ S st a w → endOf (tabOf tab) rs 1 pout st = some y → Post a w := fun μ S st a w h he => by rw [← hPost]; exact ⟨μ, S, st, h, he⟩
  have hp : ∀ (J3 : List Item → P3 → Option PO), ∀ (J5 : List Item → P5 → Option PO), ∀ (J9 : List Item → P9 → Option PO), ∀ (J11 : List Item → P11 → Option PO), ∀ (J13 : List Item → P13 → Option PO), Parts Tryz.prog 90 (pg spec_l1In.impl spec_l2Rule.impl spec_l2Var.impl J3 J5 J9 J11 J13) [(3, cut p3 J3), (5, cut p5 J5), (9, cut p9 J9), (11, cut p11 J11), (13, cut p13 J13)] := fun J3 J5 J9 J11 J13 => ⟨tab_ok tabGood rfl, (handAt_ok spec_l2Rule.con (handAt_ok spec_l2Var.con (handAt_ok spec_l1In.con handNil_ok))), rfl⟩
  have g13 : ∀ (J11 : P11 → Option PO), Good Tryz.prog 66 w0 O Post y T11 p11 J11 → Good Tryz.prog 66 w0 O Post y T13 p13 (L13 J11) := fun J11 h11 => good_quiet (hs := hd spec_l1In.impl spec_l2Rule.impl spec_l2Var.impl) (cv' := hd spec_l1In.impl spec_l2Rule.impl spec_l2Var.impl) (Checked.mixed Tryz.checked) (hp (atT T3 (fun _ => none)) (atT T5 (fun _ => none)) (atT T9 (fun _ => none)) (atT T11 J11) (atT T13 (fun _ => none))) (handAt_D spec_l2Rule.con (by rfl) rfl (handAt_D spec_l2Var.con (by rfl) rfl (handAt_D spec_l1In.con (by rfl) rfl handNil_D))) (handAt_nat (handAt_nat (handAt_nat handNil_nat))) (handAt_nat (handAt_nat (handAt_nat handNil_nat))) (runOK_of (hp (atT T3 (fun _ => none)) (atT T5 (fun _ => none)) (atT T9 (fun _ => none)) (atT T11 J11) (atT T13 (fun _ => none))) hnp ⟨cutOK_at (p := p3) (T := T3) (J := fun _ => none) good_none, cutOK_at (p := p5) (T := T5) (J := fun _ => none) good_none, cutOK_at (p := p9) (T := T9) (J := fun _ => none) good_none, cutOK_at h11, cutOK_at (p := p13) (T := T13) (J := fun _ => none) good_none, trivial⟩ fin) (fun x => all_same ⟨_, (seg13 spec_l1In.impl spec_l2Rule.impl spec_l2Var.impl (atT T3 (fun _ => none)) (atT T5 (fun _ => none)) (atT T9 (fun _ => none)) (atT T11 J11) (atT T13 (fun _ => none)) x.1 x.2.1 x.2.2.1 x.2.2.2.1).trans (by simp only [atT_self] <;> rfl)⟩)
  have g11 : Good Tryz.prog 66 w0 O Post y T11 p11 L11 := good_lfp fun J11 h11 => good_part (hp (atT T3 (fun _ => none)) (atT T5 (fun _ => none)) (atT T9 (fun _ => none)) (atT T11 (fun _ => none)) (atT T13 (L13 J11))) (runOK_of (hp (atT T3 (fun _ => none)) (atT T5 (fun _ => none)) (atT T9 (fun _ => none)) (atT T11 (fun _ => none)) (atT T13 (L13 J11))) hnp ⟨cutOK_at (p := p3) (T := T3) (J := fun _ => none) good_none, cutOK_at (p := p5) (T := T5) (J := fun _ => none) good_none, cutOK_at (p := p9) (T := T9) (J := fun _ => none) good_none, cutOK_at (p := p11) (T := T11) (J := fun _ => none) good_none, cutOK_at (g13 J11 h11), trivial⟩ fin) (fun x => (seg11 spec_l1In.impl spec_l2Rule.impl spec_l2Var.impl (atT T3 (fun _ => none)) (atT T5 (fun _ => none)) (atT T9 (fun _ => none)) (atT T11 (fun _ => none)) (atT T13 (L13 J11)) x.1 x.2.1 x.2.2.1 x.2.2.2.1).trans (by simp only [atT_self] <;> rfl))
  have g9 : ∀ (J5 : P5 → Option PO), Good Tryz.prog 66 w0 O Post y T5 p5 J5 → Good Tryz.prog 66 w0 O Post y T9 p9 (L9 J5) := fun J5 h5 => good_quiet (hs := hd spec_l1In.impl spec_l2Rule.impl spec_l2Var.impl) (cv' := hd spec_l1In.impl spec_l2Rule.impl spec_l2Var.impl) (Checked.mixed Tryz.checked) (hp (atT T3 (fun _ => none)) (atT T5 J5) (atT T9 (fun _ => none)) (atT T11 (fun _ => none)) (atT T13 (fun _ => none))) (handAt_D spec_l2Rule.con (by rfl) rfl (handAt_D spec_l2Var.con (by rfl) rfl (handAt_D spec_l1In.con (by rfl) rfl handNil_D))) (handAt_nat (handAt_nat (handAt_nat handNil_nat))) (handAt_nat (handAt_nat (handAt_nat handNil_nat))) (runOK_of (hp (atT T3 (fun _ => none)) (atT T5 J5) (atT T9 (fun _ => none)) (atT T11 (fun _ => none)) (atT T13 (fun _ => none))) hnp ⟨cutOK_at (p := p3) (T := T3) (J := fun _ => none) good_none, cutOK_at h5, cutOK_at (p := p9) (T := T9) (J := fun _ => none) good_none, cutOK_at (p := p11) (T := T11) (J := fun _ => none) good_none, cutOK_at (p := p13) (T := T13) (J := fun _ => none) good_none, trivial⟩ fin) (fun x => all_same ⟨_, (seg9 spec_l1In.impl spec_l2Rule.impl spec_l2Var.impl (atT T3 (fun _ => none)) (atT T5 J5) (atT T9 (fun _ => none)) (atT T11 (fun _ => none)) (atT T13 (fun _ => none)) x.1 x.2.1 x.2.2.1 x.2.2.2.1).trans (by simp only [atT_self] <;> rfl)⟩)
  have g5 : Good Tryz.prog 66 w0 O Post y T5 p5 L5 := good_lfp fun J5 h5 => good_part (hp (atT T3 (fun _ => none)) (atT T5 (fun _ => none)) (atT T9 (L9 J5)) (atT T11 L11) (atT T13 (fun _ => none))) (runOK_of (hp (atT T3 (fun _ => none)) (atT T5 (fun _ => none)) (atT T9 (L9 J5)) (atT T11 L11) (atT T13 (fun _ => none))) hnp ⟨cutOK_at (p := p3) (T := T3) (J := fun _ => none) good_none, cutOK_at (p := p5) (T := T5) (J := fun _ => none) good_none, cutOK_at (g9 J5 h5), cutOK_at g11, cutOK_at (p := p13) (T := T13) (J := fun _ => none) good_none, trivial⟩ fin) (fun x => (seg5 spec_l1In.impl spec_l2Rule.impl spec_l2Var.impl (atT T3 (fun _ => none)) (atT T5 (fun _ => none)) (atT T9 (L9 J5)) (atT T11 L11) (atT T13 (fun _ => none)) x.1 x.2.1 x.2.2.1 x.2.2.2.1).trans (by simp only [atT_self] <;> rfl))
  have g3 : Good Tryz.prog 66 w0 O Post y T3 p3 L3 := good_part (hp (atT T3 (fun _ => none)) (atT T5 L5) (atT T9 (fun _ => none)) (atT T11 (fun _ => none)) (atT T13 (fun _ => none))) (runOK_of (hp (atT T3 (fun _ => none)) (atT T5 L5) (atT T9 (fun _ => none)) (atT T11 (fun _ => none)) (atT T13 (fun _ => none))) hnp ⟨cutOK_at (p := p3) (T := T3) (J := fun _ => none) good_none, cutOK_at g5, cutOK_at (p := p9) (T := T9) (J := fun _ => none) good_none, cutOK_at (p := p11) (T := T11) (J := fun _ => none) good_none, cutOK_at (p := p13) (T := T13) (J := fun _ => none) good_none, trivial⟩ fin) (fun x => (seg3 spec_l1In.impl spec_l2Rule.impl spec_l2Var.impl (atT T3 (fun _ => none)) (atT T5 L5) (atT T9 (fun _ => none)) (atT T11 (fun _ => none)) (atT T13 (fun _ => none)) x.1 x.2.1).trans (by simp only [atT_self] <;> rfl))
  exact good_first (hp (atT T3 L3) (atT T5 (fun _ => none)) (atT T9 (fun _ => none)) (atT T11 (fun _ => none)) (atT T13 (fun _ => none))) (runOK_of (hp (atT T3 L3) (atT T5 (fun _ => none)) (atT T9 (fun _ => none)) (atT T11 (fun _ => none)) (atT T13 (fun _ => none))) hnp ⟨cutOK_at g3, cutOK_at (p := p5) (T := T5) (J := fun _ => none) good_none, cutOK_at (p := p9) (T := T9) (J := fun _ => none) good_none, cutOK_at (p := p11) (T := T11) (J := fun _ => none) good_none, cutOK_at (p := p13) (T := T13) (J := fun _ => none) good_none, trivial⟩ fin) (fun x => (seg0 spec_l1In.impl spec_l2Rule.impl spec_l2Var.impl (atT T3 L3) (atT T5 (fun _ => none)) (atT T9 (fun _ => none)) (atT T11 (fun _ => none)) (atT T13 (fun _ => none)) x.1).trans (by simp only [atT_self] <;> rfl))
end spec_SystemValid

/-! ### loop.example/wholecheck/spec.ModelValid -/
namespace spec_ModelValid
noncomputable abbrev c0 : Code := (Tryz.f38.body).getD .skip
noncomputable abbrev pin : Tpl := ⟨[⟨0, true, [.d (.prod (.sl .str) (.prod (.prod (.sl (.prod (.int .i64) (.prod (.int .i64) (.last (.int .i64))))) (.last (.sl (.prod (.sl (.prod (.int .i64) (.prod (.int .i64) (.prod (.int .i64) (.last (.int .i64)))))) (.prod (.sl (.int .i64)) (.last (.sl (.sl (.prod (.int .i64) (.prod (.int .i64) (.prod (.int .i64) (.last (.int .i64))))))))))))) (.last (.sl (.sl (.prod (.int .i64) (.prod (.int .i64) (.prod (.int .i64) (.last (.int .i64))))))))))]⟩], []⟩
noncomputable abbrev pout : Tpl := ⟨[⟨0, false, [.d .bool]⟩], []⟩
noncomputable abbrev p2 : Tpl := ⟨[⟨1, false, [.ptr 3000000 0]⟩, ⟨3, false, [.d (.int .i64)]⟩], [(3000000, .box [.d (.sl .str), .d (.sl (.prod (.int .i64) (.prod (.int .i64) (.last (.int .i64))))), .d (.sl (.prod (.sl (.prod (.int .i64) (.prod (.int .i64) (.prod (.int .i64) (.last (.int .i64)))))) (.prod (.sl (.int .i64)) (.last (.sl (.sl (.prod (.int .i64) (.prod (.int .i64) (.prod (.int .i64) (.last (.int .i64))))))))))), .d (.sl (.sl (.prod (.int .i64) (.prod (.int .i64) (.prod (.int .i64) (.last (.int .i64)))))))])]⟩
noncomputable def T2 : List Item := (find 2 c0 []).getD []
noncomputable abbrev p4 : Tpl := ⟨[⟨1, false, [.ptr 3000000 0]⟩, ⟨3, false, [.d (.int .i64)]⟩], [(3000000, .box [.d (.sl .str), .d (.sl (.prod (.int .i64) (.prod (.int .i64) (.last (.int .i64))))), .d (.sl (.prod (.sl (.prod (.int .i64) (.prod (.int .i64) (.prod (.int .i64) (.last (.int .i64)))))) (.prod (.sl (.int .i64)) (.last (.sl (.sl (.prod (.int .i64) (.prod (.int .i64) (.prod (.int .i64) (.last (.int .i64))))))))))), .d (.sl (.sl (.prod (.int .i64) (.prod (.int .i64) (.prod (.int .i64) (.last (.int .i64)))))))])]⟩
noncomputable def T4 : List Item := (find 4 c0 []).getD []
noncomputable abbrev PI := ((List (List UInt8)) × ((List (Int × Int × Int)) × List ((List (Int × Int × Int × Int)) × (List Int) × List (List (Int × Int × Int × Int)))) × List (List (Int × Int × Int × Int))) × Unit
noncomputable abbrev PO := Bool × Unit
noncomputable abbrev P2 := Int × (List (List UInt8)) × (List (Int × Int × Int)) × (List ((List (Int × Int × Int × Int)) × (List Int) × List (List (Int × Int × Int × Int)))) × (List (List (Int × Int × Int × Int))) × Unit
noncomputable abbrev P4 := Int × (List (List UInt8)) × (List (Int × Int × Int)) × (List ((List (Int × Int × Int × Int)) × (List Int) × List (List (Int × Int × Int × Int)))) × (List (List (Int × Int × Int × Int))) × Unit
noncomputable abbrev rs : List ResultVar := [.tmp 2]
noncomputable def F0 (J2 : P2 → Option PO) (x0 : (List (List UInt8)) × ((List (Int × Int × Int)) × List ((List (Int × Int × Int × Int)) × (List Int) × List (List (Int × Int × Int × Int)))) × List (List (Int × Int × Int × Int))) : Option PO :=
  J2 (0, x0.1, x0.2.1.1, x0.2.1.2, x0.2.2, ())
noncomputable def F2 (J4 : P4 → Option PO) (Gspec_NamesValid : spec_NamesValid.PI → Option spec_NamesValid.PO) (Gspec_SystemValid : spec_SystemValid.PI → Option spec_SystemValid.PO) (t3 : Int) (b0_0 : List (List UInt8)) (b0_1 : List (Int × Int × Int)) (b0_2 : List ((List (Int × Int × Int × Int)) × (List Int) × List (List (Int × Int × Int × Int)))) (b0_3 : List (List (Int × Int × Int × Int))) : Option PO :=
  bif decide (t3 < (b0_3.length : Int)) then
    J4 (t3, b0_0, b0_1, b0_2, b0_3, ())
  else
    Option.bind (Gspec_NamesValid (b0_0, ())) fun y0 =>
    bif y0.1 then
      Option.bind (Gspec_SystemValid ((b0_1, b0_2), ())) fun y1 =>
      bif y1.1 then
        bif (b0_0.length : Int) == (b0_1.length : Int) then
          some (decide ((b0_3.length : Int) ≤ 4), ())
        else
          some (false, ())
      else
        some (false, ())
    else
      some (false, ())
noncomputable def F4 (J2 : P2 → Option PO) (Gspec_l2Is : spec_l2Is.PI → Option spec_l2Is.PO) (t3 : Int) (b0_0 : List (List UInt8)) (b0_1 : List (Int × Int × Int)) (b0_2 : List ((List (Int × Int × Int × Int)) × (List Int) × List (List (Int × Int × Int × Int)))) (b0_3 : List (List (Int × Int × Int × Int))) : Option PO :=
  bif inb t3 b0_3.length then
    Option.bind (Gspec_l2Is (b0_3.getD t3.toNat [], (b0_0.length : Int), 2, ())) fun y2 =>
    bif !y2.1 then
      some (false, ())
    else
      J2 (wI (t3 + 1), b0_0, b0_1, b0_2, b0_3, ())
  else
    none
noncomputable def hd {R : Type} (Gspec_NamesValid : spec_NamesValid.PI → Option spec_NamesValid.PO) (Gspec_SystemValid : spec_SystemValid.PI → Option spec_SystemValid.PO) (Gspec_l2Is : spec_l2Is.PI → Option spec_l2Is.PO) : Hand R := (handAt 90 [27] true ⟨1, 1, 1, spec_SystemValid.pin, spec_SystemValid.pout, Gspec_SystemValid⟩ (handAt 89 [19] true ⟨3, 1, 3, spec_l2Is.pin, spec_l2Is.pout, Gspec_l2Is⟩ (handAt 17 [23] true ⟨1, 1, 1, spec_NamesValid.pin, spec_NamesValid.pout, Gspec_NamesValid⟩ handNil)))
noncomputable def pg (Gspec_NamesValid : spec_NamesValid.PI → Option spec_NamesValid.PO) (Gspec_SystemValid : spec_SystemValid.PI → Option spec_SystemValid.PO) (Gspec_l2Is : spec_l2Is.PI → Option spec_l2Is.PO) (J2 : List Item → P2 → Option PO) (J4 : List Item → P4 → Option PO) : Prog PO := { nt := 45, np := 1, tb := tabOf tab, hd := hd Gspec_NamesValid Gspec_SystemValid Gspec_l2Is, cuts := cutsOf [(2, cut p2 J2), (4, cut p4 J4)], fin := endOf (tabOf tab) rs 1 pout }
noncomputable def q : FuncId → Bool := fun f => hasId [17, 89, 90] f
theorem seg0 (Gspec_NamesValid : spec_NamesValid.PI → Option spec_NamesValid.PO) (Gspec_SystemValid : spec_SystemValid.PI → Option spec_SystemValid.PO) (Gspec_l2Is : spec_l2Is.PI → Option spec_l2Is.PO) (J2 : List Item → P2 → Option PO) (J4 : List Item → P4 → Option PO) (x0 : (List (List UInt8)) × ((List (Int × Int × Int)) × List ((List (Int × Int × Int × Int)) × (List Int) × List (List (Int × Int × Int × Int)))) × List (List (Int × Int × Int × Int))) : arun (pg Gspec_NamesValid Gspec_SystemValid Gspec_l2Is J2 J4) 5000 [.code c0] (mk pin (x0, ())) = F0 (J2 T2) x0 := by kernel_rfl
theorem seg2 (Gspec_NamesValid : spec_NamesValid.PI → Option spec_NamesValid.PO) (Gspec_SystemValid : spec_SystemValid.PI → Option spec_SystemValid.PO) (Gspec_l2Is : spec_l2Is.PI → Option spec_l2Is.PO) (J2 : List Item → P2 → Option PO) (J4 : List Item → P4 → Option PO) (t3 : Int) (b0_0 : List (List UInt8)) (b0_1 : List (Int × Int × Int)) (b0_2 : List ((List (Int × Int × Int × Int)) × (List Int) × List (List (Int × Int × Int × Int)))) (b0_3 : List (List (Int × Int × Int × Int))) : arun1 (pg Gspec_NamesValid Gspec_SystemValid Gspec_l2Is J2 J4) 5000 T2 (mk p2 (t3, b0_0, b0_1, b0_2, b0_3, ())) = F2 (J4 T4) Gspec_NamesValid Gspec_SystemValid t3 b0_0 b0_1 b0_2 b0_3 := by kernel_rfl
theorem seg4 (Gspec_NamesValid : spec_NamesValid.PI → Option spec_NamesValid.PO) (Gspec_SystemValid : spec_SystemValid.PI → Option spec_SystemValid.PO) (Gspec_l2Is : spec_l2Is.PI → Option spec_l2Is.PO) (J2 : List Item → P2 → Option PO) (J4 : List Item → P4 → Option PO) (t3 : Int) (b0_0 : List (List UInt8)) (b0_1 : List (Int × Int × Int)) (b0_2 : List ((List (Int × Int × Int × Int)) × (List Int) × List (List (Int × Int × Int × Int)))) (b0_3 : List (List (Int × Int × Int × Int))) : arunQ (pg Gspec_NamesValid Gspec_SystemValid Gspec_l2Is J2 J4) q [] [] 5000 T4 (mk p4 (t3, b0_0, b0_1, b0_2, b0_3, ())) = List.replicate (arunQ (pg Gspec_NamesValid Gspec_SystemValid Gspec_l2Is J2 J4) q [] [] 5000 T4 (mk p4 (t3, b0_0, b0_1, b0_2, b0_3, ()))).length (F4 (J2 T2) Gspec_l2Is t3 b0_0 b0_1 b0_2 b0_3) := by kernel_rfl
noncomputable def L4 (J2 : P2 → Option PO) : P4 → Option PO := fun x => F4 J2 spec_l2Is.impl x.1 x.2.1 x.2.2.1 x.2.2.2.1 x.2.2.2.2.1
noncomputable def L2 : P2 → Option PO := lfp fun J2 x => F2 (L4 J2) spec_NamesValid.impl spec_SystemValid.impl x.1 x.2.1 x.2.2.1 x.2.2.2.1 x.2.2.2.2.1
noncomputable def impl : PI → Option PO := fun x => F0 L2 x.1
theorem F4_le {J2 J2' : P2 → Option PO} (h2 : OLe J2 J2') {Gspec_l2Is : spec_l2Is.PI → Option spec_l2Is.PO} (t3 : Int) (b0_0 : List (List UInt8)) (b0_1 : List (Int × Int × Int)) (b0_2 : List ((List (Int × Int × Int × Int)) × (List Int) × List (List (Int × Int × Int × Int)))) (b0_3 : List (List (Int × Int × Int × Int))) : OptLe (F4 J2 Gspec_l2Is t3 b0_0 b0_1 b0_2 b0_3) (F4 J2' Gspec_l2Is t3 b0_0 b0_1 b0_2 b0_3) := by unfold F4; exact .cond (.bind (.refl _) fun _ => .cond (.refl _) (.of h2 _)) (.refl _)
theorem F2_le {J4 J4' : P4 → Option PO} (h4 : OLe J4 J4') {Gspec_NamesValid : spec_NamesValid.PI → Option spec_NamesValid.PO} {Gspec_SystemValid : spec_SystemValid.PI → Option spec_SystemValid.PO} (t3 : Int) (b0_0 : List (List UInt8)) (b0_1 : List (Int × Int × Int)) (b0_2 : List ((List (Int × Int × Int × Int)) × (List Int) × List (List (Int × Int × Int × Int)))) (b0_3 : List (List (Int × Int × Int × Int))) : OptLe (F2 J4 Gspec_NamesValid Gspec_SystemValid t3 b0_0 b0_1 b0_2 b0_3) (F2 J4' Gspec_NamesValid Gspec_SystemValid t3 b0_0 b0_1 b0_2 b0_3) := by unfold F2; exact .cond (.of h4 _) (.refl _)
theorem L4_eq (J2 : P2 → Option PO) (t3 : Int) (b0_0 : List (List UInt8)) (b0_1 : List (Int × Int × Int)) (b0_2 : List ((List (Int × Int × Int × Int)) × (List Int) × List (List (Int × Int × Int × Int)))) (b0_3 : List (List (Int × Int × Int × Int))) : L4 J2 (t3, b0_0, b0_1, b0_2, b0_3, ()) = F4 J2 spec_l2Is.impl t3 b0_0 b0_1 b0_2 b0_3 := rfl
theorem L4_le {J2 J2' : P2 → Option PO} (h2 : OLe J2 J2') : OLe (L4 J2) (L4 J2') := fun x => F4_le h2 x.1 x.2.1 x.2.2.1 x.2.2.2.1 x.2.2.2.2.1
theorem L2_mono : OMono fun J2 (x : P2) => F2 (L4 J2) spec_NamesValid.impl spec_SystemValid.impl x.1 x.2.1 x.2.2.1 x.2.2.2.1 x.2.2.2.2.1 := fun J J' h2 x => F2_le (L4_le h2) x.1 x.2.1 x.2.2.1 x.2.2.2.1 x.2.2.2.2.1
theorem L2_eq (t3 : Int) (b0_0 : List (List UInt8)) (b0_1 : List (Int × Int × Int)) (b0_2 : List ((List (Int × Int × Int × Int)) × (List Int) × List (List (Int × Int × Int × Int)))) (b0_3 : List (List (Int × Int × Int × Int))) : L2 (t3, b0_0, b0_1, b0_2, b0_3, ()) = F2 (L4 (L2)) spec_NamesValid.impl spec_SystemValid.impl t3 b0_0 b0_1 b0_2 b0_3 := congrFun (lfp_eq (L2_mono)) _
theorem impl_eq (x0 : (List (List UInt8)) × ((List (Int × Int × Int)) × List ((List (Int × Int × Int × Int)) × (List Int) × List (List (Int × Int × Int × Int)))) × List (List (Int × Int × Int × Int))) : impl (x0, ()) = F0 L2 x0 := rfl
theorem con : Con Tryz.prog 38 1 rs.length 1 pin pout impl := by
  refine con_of_run' (nt := 45) (c := c0) tabGood Tryz.func38 (by kernel_rfl) (by kernel_rfl) (by kernel_rfl) (by kernel_rfl) (by kernel_rfl) (by kernel_rfl) (by kernel_rfl) ?_
  intro w0 O y hnp
  generalize hPost : (fun (a' : Act) (w' : World) => ∃ μ' S' st', Rel 45 w0 O μ' S' st' a' w' ∧ endOf (tabOf tab) rs 1 pout st' = some y) = Post
  have fin : ∀ (μ : Id → Option Value) (S : Nat → Prop) (st : St) (a : Act) (w : World), Rel 45 w0 O μ S st a w → endOf (tabOf tab) rs 1 pout st = some y → Post a w := fun μ S st a w h he => by rw [← hPost]; exact ⟨μ, S, st, h, he⟩
  have hp : ∀ (J2 : List Item → P2 → Option PO), ∀ (J4 : List Item → P4 → Option PO), Parts Tryz.prog 38 (pg spec_NamesValid.impl spec_SystemValid.impl spec_l2Is.impl J2 J4) [(2, cut p2 J2), (4, cut p4 J4)] := fun J2 J4 => ⟨tab_ok tabGood rfl, (handAt_ok spec_SystemValid.con (handAt_ok spec_l2Is.con (handAt_ok spec_NamesValid.con handNil_ok))), rfl⟩
  have g4 : ∀ (J2 : P2 → Option PO), Good Tryz.prog 45 w0 O Post y T2 p2 J2 → Good Tryz.prog 45 w0 O Post y T4 p4 (L4 J2) := fun J2 h2 => good_quiet (hs := hd spec_NamesValid.impl spec_SystemValid.impl spec_l2Is.impl) (cv' := hd spec_NamesValid.impl spec_SystemValid.impl spec_l2Is.impl) (Checked.mixed Tryz.checked) (hp (atT T2 J2) (atT T4 (fun _ => none))) (handAt_D spec_SystemValid.con (by rfl) rfl (handAt_D spec_l2Is.con (by rfl) rfl (handAt_D spec_NamesValid.con (by rfl) rfl handNil_D))) (handAt_nat (handAt_nat (handAt_nat handNil_nat))) (handAt_nat (handAt_nat (handAt_nat handNil_nat))) (runOK_of (hp (atT T2 J2) (atT T4 (fun _ => none))) hnp ⟨cutOK_at h2, cutOK_at (p := p4) (T := T4) (J := fun _ => none) good_none, trivial⟩ fin) (fun x => all_same ⟨_, (seg4 spec_NamesValid.impl spec_SystemValid.impl spec_l2Is.impl (atT T2 J2) (atT T4 (fun _ => none)) x.1 x.2.1 x.2.2.1 x.2.2.2.1 x.2.2.2.2.1).trans (by simp only [atT_self] <;> rfl)⟩)
  have g2 : Good Tryz.prog 45 w0 O Post y T2 p2 L2 := good_lfp fun J2 h2 => good_part (hp (atT T2 (fun _ => none)) (atT T4 (L4 J2))) (runOK_of (hp (atT T2 (fun _ => none)) (atT T4 (L4 J2))) hnp ⟨cutOK_at (p := p2) (T := T2) (J := fun _ => none) good_none, cutOK_at (g4 J2 h2), trivial⟩ fin) (fun x => (seg2 spec_NamesValid.impl spec_SystemValid.impl spec_l2Is.impl (atT T2 (fun _ => none)) (atT T4 (L4 J2)) x.1 x.2.1 x.2.2.1 x.2.2.2.1 x.2.2.2.2.1).trans (by simp only [atT_self] <;> rfl))
  exact good_first (hp (atT T2 L2) (atT T4 (fun _ => none))) (runOK_of (hp (atT T2 L2) (atT T4 (fun _ => none))) hnp ⟨cutOK_at g2, cutOK_at (p := p4) (T := T4) (J := fun _ => none) good_none, trivial⟩ fin) (fun x => (seg0 spec_NamesValid.impl spec_SystemValid.impl spec_l2Is.impl (atT T2 L2) (atT T4 (fun _ => none)) x.1).trans (by simp only [atT_self] <;> rfl))
end spec_ModelValid

/-! ### loop.example/wholecheck/spec.l40Dec -/
namespace spec_l40Dec
noncomputable abbrev c0 : Code := (Tryz.f39.body).getD .skip
noncomputable abbrev pin : Tpl := ⟨[⟨0, false, [.d (.int .i64)]⟩], []⟩
noncomputable abbrev pout : Tpl := ⟨[⟨0, false, [.d .str]⟩], []⟩
noncomputable abbrev p6 : Tpl := ⟨[⟨0, false, [.d (.int .i64)]⟩, ⟨3, false, [.d .str]⟩], []⟩
noncomputable def T6 : List Item := (find 6 c0 []).getD []
noncomputable abbrev PI := Int × Unit
noncomputable abbrev PO := (List UInt8) × Unit
noncomputable abbrev P6 := Int × (List UInt8) × Unit
noncomputable abbrev rs : List ResultVar := [.tmp 2]
noncomputable def F0 (J6 : P6 → Option PO) (Gspec_l40Dec : PI → Option PO) (x0 : Int) : Option PO :=
  bif decide (x0 < (-9223372036854775807)) then
    some (([45, 57, 50, 50, 51, 51, 55, 50, 48, 51, 54, 56, 53, 52, 55, 55, 53, 56, 48, 56] : List UInt8), ())
  else
    bif decide (x0 < 0) then
      Option.bind (Gspec_l40Dec (wI (0 - x0), ())) fun y0 =>
      bif decide (([45] : List UInt8).length + y0.1.length ≤ 140737488355328) then
        some (([45] : List UInt8) ++ y0.1, ())
      else
        none
    else
      J6 (x0, [], ())
noncomputable def F6 (J6 : P6 → Option PO) (t0 : Int) (t3 : List UInt8) : Option PO :=
  bif decide (t0 > 9) then
    bif decide ((strOf ([IntKind.u8.wrap (wI (48 + (Int.tmod t0 10)))] : List Int)).length + t3.length ≤ 140737488355328) then
      J6 (wI (Int.tdiv t0 10), (strOf ([IntKind.u8.wrap (wI (48 + (Int.tmod t0 10)))] : List Int)) ++ t3, ())
    else
      none
  else
    bif decide ((strOf ([IntKind.u8.wrap (wI (48 + t0))] : List Int)).length + t3.length ≤ 140737488355328) then
      some ((strOf ([IntKind.u8.wrap (wI (48 + t0))] : List Int)) ++ t3, ())
    else
      none
noncomputable def hd {R : Type} (Gspec_l40Dec : PI → Option PO) : Hand R := (handAt 39 [10] true ⟨1, 1, 0, pin, pout, Gspec_l40Dec⟩ handNil)
noncomputable def pg (Gspec_l40Dec : PI → Option PO) (J6 : List Item → P6 → Option PO) : Prog PO := { nt := 31, np := 0, tb := tabOf tab, hd := hd Gspec_l40Dec, cuts := cutsOf [(6, cut p6 J6)], fin := endOf (tabOf tab) rs 0 pout }
noncomputable def q : FuncId → Bool := fun f => hasId [39] f
theorem seg0 (Gspec_l40Dec : PI → Option PO) (J6 : List Item → P6 → Option PO) (x0 : Int) : arun (pg Gspec_l40Dec J6) 5000 [.code c0] (mk pin (x0, ())) = F0 (J6 T6) Gspec_l40Dec x0 := by kernel_rfl
theorem seg6 (Gspec_l40Dec : PI → Option PO) (J6 : List Item → P6 → Option PO) (t0 : Int) (t3 : List UInt8) : arun1 (pg Gspec_l40Dec J6) 5000 T6 (mk p6 (t0, t3, ())) = F6 (J6 T6) t0 t3 := by kernel_rfl
noncomputable def L6 (Gself : PI → Option PO) : P6 → Option PO := lfp fun J6 x => F6 J6 x.1 x.2.1
noncomputable def step (Gself : PI → Option PO) : PI → Option PO := fun x => F0 (L6 Gself) Gself x.1
noncomputable def impl : PI → Option PO := lfp step
theorem F6_le {J6 J6' : P6 → Option PO} (h6 : OLe J6 J6') (t0 : Int) (t3 : List UInt8) : OptLe (F6 J6 t0 t3) (F6 J6' t0 t3) := by unfold F6; exact .cond (.cond (.of h6 _) (.refl _)) (.refl _)
theorem F0_le {J6 J6' : P6 → Option PO} (h6 : OLe J6 J6') {Gself Gself' : PI → Option PO} (hG : OLe Gself Gself') (x0 : Int) : OptLe (F0 J6 Gself x0) (F0 J6' Gself' x0) := by unfold F0; exact .cond (.refl _) (.cond (.bind (.of hG _) fun _ => .refl _) (.of h6 _))
theorem L6_mono (Gself : PI → Option PO) : OMono fun J6 (x : P6) => F6 J6 x.1 x.2.1 := fun J J' h6 x => F6_le h6 x.1 x.2.1
theorem L6_eq (Gself : PI → Option PO) (t0 : Int) (t3 : List UInt8) : L6 Gself (t0, t3, ()) = F6 (L6 Gself) t0 t3 := congrFun (lfp_eq (L6_mono Gself)) _
theorem L6_le {Gself Gself' : PI → Option PO} (hG : OLe Gself Gself') : OLe (L6 Gself) (L6 Gself') := lfp_le (L6_mono Gself') fun J x => F6_le (fun _ _ h => h) x.1 x.2.1
theorem step_mono : OMono step := fun G G' hG x => F0_le (L6_le hG) hG x.1
theorem impl_eq (x0 : Int) : impl (x0, ()) = F0 (L6 impl) impl x0 := congrFun (lfp_eq step_mono) _
theorem con_step (Gself : PI → Option PO) (hself : Con Tryz.prog 39 1 rs.length 0 pin pout Gself) : Con Tryz.prog 39 1 rs.length 0 pin pout (step Gself) := by
  refine con_of_run' (nt := 31) (c := c0) tabGood Tryz.func39 (by kernel_rfl) (by kernel_rfl) (by kernel_rfl) (by kernel_rfl) (by kernel_rfl) (by kernel_rfl) (by kernel_rfl) ?_
  intro w0 O y hnp
  generalize hPost : (fun (a' : Act) (w' : World) => ∃ μ' S' st', Rel 31 w0 O μ' S' st' a' w' ∧ endOf (tabOf tab) rs 0 pout st' = some y) = Post
  have fin : ∀ (μ : Id → Option Value) (S : Nat → Prop) (st : St) (a : Act) (w : World), Rel 31 w0 O μ S st a w → endOf (tabOf tab) rs 0 pout st = some y → Post a w := fun μ S st a w h he => by rw [← hPost]; exact ⟨μ, S, st, h, he⟩
  have hp : ∀ (J6 : List Item → P6 → Option PO), Parts Tryz.prog 39 (pg Gself J6) [(6, cut p6 J6)] := fun J6 => ⟨tab_ok tabGood rfl, (handAt_ok hself handNil_ok), rfl⟩
  have g6 : Good Tryz.prog 31 w0 O Post y T6 p6 (L6 Gself) := good_lfp fun J6 h6 => good_part (hp (atT T6 J6)) (runOK_of (hp (atT T6 J6)) hnp ⟨cutOK_at h6, trivial⟩ fin) (fun x => (seg6 Gself (atT T6 J6) x.1 x.2.1).trans (by simp only [atT_self] <;> rfl))
  exact good_first (hp (atT T6 (L6 Gself))) (runOK_of (hp (atT T6 (L6 Gself))) hnp ⟨cutOK_at g6, trivial⟩ fin) (fun x => (seg0 Gself (atT T6 (L6 Gself)) x.1).trans (by simp only [atT_self] <;> rfl))
theorem con : Con Tryz.prog 39 1 rs.length 0 pin pout impl := con_lfp (c := c0) Tryz.func39 (by kernel_rfl) (by kernel_rfl) (by kernel_rfl) con_step
end spec_l40Dec

/-! ### loop.example/wholecheck/spec.TermsValid -/
namespace spec_TermsValid
noncomputable abbrev c0 : Code := (Tryz.f55.body).getD .skip
noncomputable abbrev pin : Tpl := ⟨[⟨0, false, [.d (.sl (.prod (.int .i64) (.prod (.int .i64) (.prod (.int .i64) (.last (.int .i64))))))]⟩, ⟨1, false, [.d (.int .i64)]⟩], []⟩
noncomputable abbrev pout : Tpl := ⟨[⟨0, false, [.d .bool]⟩], []⟩
noncomputable abbrev PI := (List (Int × Int × Int × Int)) × Int × Unit
noncomputable abbrev PO := Bool × Unit
noncomputable abbrev rs : List ResultVar := [.tmp 4]
noncomputable def F0 (Gspec_KindsOf : spec_KindsOf.PI → Option spec_KindsOf.PO) (x0 : List (Int × Int × Int × Int)) (x1 : Int) : Option PO :=
  Option.bind (Gspec_KindsOf (x0, x1, ())) fun y0 =>
  some (decide ((y0.1.length : Int) > 0), ())
noncomputable def hd {R : Type} (Gspec_KindsOf : spec_KindsOf.PI → Option spec_KindsOf.PO) : Hand R := (handAt 104 [7] true ⟨2, 1, 2, spec_KindsOf.pin, spec_KindsOf.pout, Gspec_KindsOf⟩ handNil)
noncomputable def pg (Gspec_KindsOf : spec_KindsOf.PI → Option spec_KindsOf.PO) : Prog PO := { nt := 10, np := 2, tb := tabOf tab, hd := hd Gspec_KindsOf, cuts := cutsOf [], fin := endOf (tabOf tab) rs 2 pout }
noncomputable def q : FuncId → Bool := fun f => hasId [] f
theorem seg0 (Gspec_KindsOf : spec_KindsOf.PI → Option spec_KindsOf.PO) (x0 : List (Int × Int × Int × Int)) (x1 : Int) : arun (pg Gspec_KindsOf) 5000 [.code c0] (mk pin (x0, x1, ())) = F0 Gspec_KindsOf x0 x1 := by kernel_rfl
noncomputable def impl : PI → Option PO := fun x => F0 spec_KindsOf.impl x.1 x.2.1
theorem impl_eq (x0 : List (Int × Int × Int × Int)) (x1 : Int) : impl (x0, x1, ()) = F0 spec_KindsOf.impl x0 x1 := rfl
theorem con : Con Tryz.prog 55 2 rs.length 2 pin pout impl := by
  refine con_of_run' (nt := 10) (c := c0) tabGood Tryz.func55 (by kernel_rfl) (by kernel_rfl) (by kernel_rfl) (by kernel_rfl) (by kernel_rfl) (by kernel_rfl) (by kernel_rfl) ?_
  intro w0 O y hnp
  generalize hPost : (fun (a' : Act) (w' : World) => ∃ μ' S' st', Rel 10 w0 O μ' S' st' a' w' ∧ endOf (tabOf tab) rs 2 pout st' = some y) = Post
  have fin : ∀ (μ : Id → Option Value) (S : Nat → Prop) (st : St) (a : Act) (w : World), Rel 10 w0 O μ S st a w → endOf (tabOf tab) rs 2 pout st = some y → Post a w := fun μ S st a w h he => by rw [← hPost]; exact ⟨μ, S, st, h, he⟩
  have hp : Parts Tryz.prog 55 (pg spec_KindsOf.impl) [] := ⟨tab_ok tabGood rfl, (handAt_ok spec_KindsOf.con handNil_ok), rfl⟩
  exact good_first (hp) (runOK_of (hp) hnp trivial fin) (fun x => (seg0 spec_KindsOf.impl x.1 x.2.1))
end spec_TermsValid

/-! ### loop.example/wholecheck/spec.l1Sign -/
namespace spec_l1Sign
noncomputable abbrev c0 : Code := (Tryz.f57.body).getD .skip
noncomputable abbrev pin : Tpl := ⟨[⟨0, false, [.d (.int .i64)]⟩], []⟩
noncomputable abbrev pout : Tpl := ⟨[⟨0, false, [.d .str]⟩], []⟩
noncomputable abbrev PI := Int × Unit
noncomputable abbrev PO := (List UInt8) × Unit
noncomputable abbrev rs : List ResultVar := [.tmp 2]
noncomputable def F0 (x0 : Int) : Option PO :=
  bif inb x0 ([[], [], ([43] : List UInt8), ([45] : List UInt8), ([42] : List UInt8), ([60] : List UInt8), ([61] : List UInt8), ([33] : List UInt8), ([38] : List UInt8), ([124] : List UInt8)] : List (List UInt8)).length then
    some (([[], [], ([43] : List UInt8), ([45] : List UInt8), ([42] : List UInt8), ([60] : List UInt8), ([61] : List UInt8), ([33] : List UInt8), ([38] : List UInt8), ([124] : List UInt8)] : List (List UInt8)).getD x0.toNat [], ())
  else
    none
noncomputable def hd {R : Type} : Hand R := handNil
noncomputable def pg : Prog PO := { nt := 7, np := 1, tb := tabOf tab, hd := hd, cuts := cutsOf [], fin := endOf (tabOf tab) rs 1 pout }
noncomputable def q : FuncId → Bool := fun f => hasId [] f
theorem seg0 (x0 : Int) : arun (pg) 5000 [.code c0] (mk pin (x0, ())) = F0 x0 := by kernel_rfl
noncomputable def impl : PI → Option PO := fun x => F0 x.1
theorem impl_eq (x0 : Int) : impl (x0, ()) = F0 x0 := rfl
theorem con : Con Tryz.prog 57 1 rs.length 1 pin pout impl := by
  refine con_of_run' (nt := 7) (c := c0) tabGood Tryz.func57 (by kernel_rfl) (by kernel_rfl) (by kernel_rfl) (by kernel_rfl) (by kernel_rfl) (by kernel_rfl) (by kernel_rfl) ?_
  intro w0 O y hnp
  generalize hPost : (fun (a' : Act) (w' : World) => ∃ μ' S' st', Rel 7 w0 O μ' S' st' a' w' ∧ endOf (tabOf tab) rs 1 pout st' = some y) = Post
  have fin : ∀ (μ : Id → Option Value) (S : Nat → Prop) (st : St) (a : Act) (w : World), Rel 7 w0 O μ S st a w → endOf (tabOf tab) rs 1 pout st = some y → Post a w := fun μ S st a w h he => by rw [← hPost]; exact ⟨μ, S, st, h, he⟩
  have hp : Parts Tryz.prog 57 (pg) [] := ⟨tab_ok tabGood rfl, handNil_ok, rfl⟩
  exact good_first (hp) (runOK_of (hp) hnp trivial fin) (fun x => (seg0 x.1))
end spec_l1Sign

/-! ### loop.example/wholecheck/spec.WriteExpr -/
namespace spec_WriteExpr
noncomputable abbrev c0 : Code := (Tryz.f15.body).getD .skip
noncomputable abbrev pin : Tpl := ⟨[⟨0, false, [.d (.sl .str)]⟩, ⟨1, false, [.d (.sl (.prod (.int .i64) (.prod (.int .i64) (.prod (.int .i64) (.last (.int .i64))))))]⟩], []⟩
noncomputable abbrev pout : Tpl := ⟨[⟨0, false, [.d .str]⟩], []⟩
noncomputable abbrev p3 : Tpl := ⟨[⟨0, false, [.d (.sl .str)]⟩, ⟨1, false, [.d (.sl (.prod (.int .i64) (.prod (.int .i64) (.prod (.int .i64) (.last (.int .i64))))))]⟩], []⟩
noncomputable def T3 : List Item := (find 3 c0 []).getD []
noncomputable abbrev p5 : Tpl := ⟨[⟨0, false, [.d (.sl .str)]⟩, ⟨1, false, [.d (.sl (.prod (.int .i64) (.prod (.int .i64) (.prod (.int .i64) (.last (.int .i64))))))]⟩, ⟨5, false, [.row 3000000]⟩, ⟨6, false, [.d (.int .i64)]⟩], [(3000000, .row 9 false .str)]⟩
noncomputable def T5 : List Item := (find 5 c0 []).getD []
noncomputable abbrev p15 : Tpl := ⟨[⟨0, false, [.d (.sl .str)]⟩, ⟨1, false, [.d (.sl (.prod (.int .i64) (.prod (.int .i64) (.prod (.int .i64) (.last (.int .i64))))))]⟩, ⟨5, false, [.row 3000000]⟩, ⟨6, false, [.d (.int .i64)]⟩, ⟨7, false, [.ptr 3000001 0]⟩], [(3000000, .row 9 false .str), (3000001, .box [.d (.int .i64), .d (.int .i64), .d (.int .i64), .d (.int .i64)])]⟩
noncomputable def T15 : List Item := (find 15 c0 []).getD []
noncomputable abbrev p16 : Tpl := ⟨[⟨0, false, [.d (.sl .str)]⟩, ⟨1, false, [.d (.sl (.prod (.int .i64) (.prod (.int .i64) (.prod (.int .i64) (.last (.int .i64))))))]⟩, ⟨5, false, [.row 3000000]⟩, ⟨6, false, [.d (.int .i64)]⟩, ⟨8, false, [.d .str]⟩], [(3000000, .row 9 false .str)]⟩
noncomputable def T16 : List Item := (find 16 c0 []).getD []
noncomputable abbrev PI := (List (List UInt8)) × (List (Int × Int × Int × Int)) × Unit
noncomputable abbrev PO := (List UInt8) × Unit
noncomputable abbrev P3 := (List (List UInt8)) × (List (Int × Int × Int × Int)) × Unit
noncomputable abbrev P5 := (List (List UInt8)) × (List (Int × Int × Int × Int)) × Int × (List (List UInt8)) × Unit
noncomputable abbrev P15 := (List (List UInt8)) × (List (Int × Int × Int × Int)) × Int × (List (List UInt8)) × Int × Int × Int × Int × Unit
noncomputable abbrev P16 := (List (List UInt8)) × (List (Int × Int × Int × Int)) × Int × (List UInt8) × (List (List UInt8)) × Unit
noncomputable abbrev rs : List ResultVar := [.tmp 4]
noncomputable def F0 (J3 : P3 → Option PO) (Gspec_NamesValid : spec_NamesValid.PI → Option spec_NamesValid.PO) (Gspec_TermsValid : spec_TermsValid.PI → Option spec_TermsValid.PO) (x0 : List (List UInt8)) (x1 : List (Int × Int × Int × Int)) : Option PO :=
  Option.bind (Gspec_NamesValid (x0, ())) fun y0 =>
  bif !y0.1 then
    some ([], ())
  else
    Option.bind (Gspec_TermsValid (x1, (x0.length : Int), ())) fun y1 =>
    bif !y1.1 then
      some ([], ())
    else
      J3 (x0, x1, ())
noncomputable def F3 (J5 : P5 → Option PO) (t0 : List (List UInt8)) (t1 : List (Int × Int × Int × Int)) : Option PO :=
  J5 (t0, t1, 0, ([] : List (List UInt8)), ())
noncomputable def F5 (J15 : P15 → Option PO) (J16 : P16 → Option PO) (Gspec_l1One : spec_l1One.PI → Option spec_l1One.PO) (Gspec_l40Dec : spec_l40Dec.PI → Option spec_l40Dec.PO) (t0 : List (List UInt8)) (t1 : List (Int × Int × Int × Int)) (t6 : Int) (r0 : List (List UInt8)) : Option PO :=
  bif decide (t6 < (t1.length : Int)) then
    bif inb t6 t1.length then
      bif (t1.getD t6.toNat (0, 0, 0, 0)).1 == 0 then
        Option.bind (Gspec_l40Dec ((t1.getD t6.toNat (0, 0, 0, 0)).2.1, ())) fun y2 =>
        J16 (t0, t1, t6, y2.1, r0, ())
      else
        bif (t1.getD t6.toNat (0, 0, 0, 0)).1 == 1 then
          bif inb (t1.getD t6.toNat (0, 0, 0, 0)).2.1 t0.length then
            J16 (t0, t1, t6, t0.getD (t1.getD t6.toNat (0, 0, 0, 0)).2.1.toNat [], r0, ())
          else
            none
        else
          Option.bind (Gspec_l1One ((t1.getD t6.toNat (0, 0, 0, 0)).1, ())) fun y3 =>
          bif y3.1 then
            bif inb (t1.getD t6.toNat (0, 0, 0, 0)).2.2.1 r0.length then
              bif decide (([33] : List UInt8).length + (r0.getD (t1.getD t6.toNat (0, 0, 0, 0)).2.2.1.toNat []).length ≤ 140737488355328) then
                J16 (t0, t1, t6, ([33] : List UInt8) ++ (r0.getD (t1.getD t6.toNat (0, 0, 0, 0)).2.2.1.toNat []), r0, ())
              else
                none
            else
              none
          else
            J15 (t0, t1, t6, r0, (t1.getD t6.toNat (0, 0, 0, 0)).1, (t1.getD t6.toNat (0, 0, 0, 0)).2.1, (t1.getD t6.toNat (0, 0, 0, 0)).2.2.1, (t1.getD t6.toNat (0, 0, 0, 0)).2.2.2, ())
    else
      none
  else
    bif inb (wI ((r0.length : Int) - 1)) r0.length then
      some (r0.getD (wI ((r0.length : Int) - 1)).toNat [], ())
    else
      none
noncomputable def F15 (J16 : P16 → Option PO) (Gspec_l1Sign : spec_l1Sign.PI → Option spec_l1Sign.PO) (t0 : List (List UInt8)) (t1 : List (Int × Int × Int × Int)) (t6 : Int) (r0 : List (List UInt8)) (b1_0 : Int) (b1_1 : Int) (b1_2 : Int) (b1_3 : Int) : Option PO :=
  bif inb b1_2 r0.length then
    bif decide (([40] : List UInt8).length + (r0.getD b1_2.toNat []).length ≤ 140737488355328) then
      bif decide ((([40] : List UInt8) ++ (r0.getD b1_2.toNat [])).length + ([32] : List UInt8).length ≤ 140737488355328) then
        bif inb b1_3 r0.length then
          Option.bind (Gspec_l1Sign (b1_0, ())) fun y4 =>
          bif decide (((([40] : List UInt8) ++ (r0.getD b1_2.toNat [])) ++ ([32] : List UInt8)).length + y4.1.length ≤ 140737488355328) then
            bif decide ((((([40] : List UInt8) ++ (r0.getD b1_2.toNat [])) ++ ([32] : List UInt8)) ++ y4.1).length + ([32] : List UInt8).length ≤ 140737488355328) then
              bif decide (((((([40] : List UInt8) ++ (r0.getD b1_2.toNat [])) ++ ([32] : List UInt8)) ++ y4.1) ++ ([32] : List UInt8)).length + (r0.getD b1_3.toNat []).length ≤ 140737488355328) then
                bif decide ((((((([40] : List UInt8) ++ (r0.getD b1_2.toNat [])) ++ ([32] : List UInt8)) ++ y4.1) ++ ([32] : List UInt8)) ++ (r0.getD b1_3.toNat [])).length + ([41] : List UInt8).length ≤ 140737488355328) then
                  J16 (t0, t1, t6, (((((([40] : List UInt8) ++ (r0.getD b1_2.toNat [])) ++ ([32] : List UInt8)) ++ y4.1) ++ ([32] : List UInt8)) ++ (r0.getD b1_3.toNat [])) ++ ([41] : List UInt8), r0, ())
                else
                  none
              else
                none
            else
              none
          else
            none
        else
          none
      else
        none
    else
      none
  else
    none
noncomputable def F16 (J5 : P5 → Option PO) (t0 : List (List UInt8)) (t1 : List (Int × Int × Int × Int)) (t6 : Int) (t8 : List UInt8) (r0 : List (List UInt8)) : Option PO :=
  bif decide ((t8.length : Int) > 4000) then
    some ([], ())
  else
    bif decide ((r0.length + ([t8] : List (List UInt8)).length) * 16 ≤ 140737488355328) then
      J5 (t0, t1, wI (t6 + 1), r0 ++ ([t8] : List (List UInt8)), ())
    else
      none
noncomputable def hd {R : Type} (Gspec_NamesValid : spec_NamesValid.PI → Option spec_NamesValid.PO) (Gspec_TermsValid : spec_TermsValid.PI → Option spec_TermsValid.PO) (Gspec_l1One : spec_l1One.PI → Option spec_l1One.PO) (Gspec_l1Sign : spec_l1Sign.PI → Option spec_l1Sign.PO) (Gspec_l40Dec : spec_l40Dec.PI → Option spec_l40Dec.PO) : Hand R := (handAt 57 [62] true ⟨1, 1, 1, spec_l1Sign.pin, spec_l1Sign.pout, Gspec_l1Sign⟩ (handAt 56 [46] true ⟨1, 1, 1, spec_l1One.pin, spec_l1One.pout, Gspec_l1One⟩ (handAt 55 [16] true ⟨2, 1, 2, spec_TermsValid.pin, spec_TermsValid.pout, Gspec_TermsValid⟩ (handAt 39 [35] true ⟨1, 1, 0, spec_l40Dec.pin, spec_l40Dec.pout, Gspec_l40Dec⟩ (handAt 17 [10] true ⟨1, 1, 1, spec_NamesValid.pin, spec_NamesValid.pout, Gspec_NamesValid⟩ handNil)))))
noncomputable def pg (Gspec_NamesValid : spec_NamesValid.PI → Option spec_NamesValid.PO) (Gspec_TermsValid : spec_TermsValid.PI → Option spec_TermsValid.PO) (Gspec_l1One : spec_l1One.PI → Option spec_l1One.PO) (Gspec_l1Sign : spec_l1Sign.PI → Option spec_l1Sign.PO) (Gspec_l40Dec : spec_l40Dec.PI → Option spec_l40Dec.PO) (J3 : List Item → P3 → Option PO) (J5 : List Item → P5 → Option PO) (J15 : List Item → P15 → Option PO) (J16 : List Item → P16 → Option PO) : Prog PO := { nt := 85, np := 2, tb := tabOf tab, hd := hd Gspec_NamesValid Gspec_TermsValid Gspec_l1One Gspec_l1Sign Gspec_l40Dec, cuts := cutsOf [(3, cut p3 J3), (5, cut p5 J5), (15, cut p15 J15), (16, cut p16 J16)], fin := endOf (tabOf tab) rs 2 pout }
noncomputable def q : FuncId → Bool := fun f => hasId [17, 39, 55, 56, 57] f
theorem seg0 (Gspec_NamesValid : spec_NamesValid.PI → Option spec_NamesValid.PO) (Gspec_TermsValid : spec_TermsValid.PI → Option spec_TermsValid.PO) (Gspec_l1One : spec_l1One.PI → Option spec_l1One.PO) (Gspec_l1Sign : spec_l1Sign.PI → Option spec_l1Sign.PO) (Gspec_l40Dec : spec_l40Dec.PI → Option spec_l40Dec.PO) (J3 : List Item → P3 → Option PO) (J5 : List Item → P5 → Option PO) (J15 : List Item → P15 → Option PO) (J16 : List Item → P16 → Option PO) (x0 : List (List UInt8)) (x1 : List (Int × Int × Int × Int)) : arun (pg Gspec_NamesValid Gspec_TermsValid Gspec_l1One Gspec_l1Sign Gspec_l40Dec J3 J5 J15 J16) 5000 [.code c0] (mk pin (x0, x1, ())) = F0 (J3 T3) Gspec_NamesValid Gspec_TermsValid x0 x1 := by kernel_rfl
theorem seg3 (Gspec_NamesValid : spec_NamesValid.PI → Option spec_NamesValid.PO) (Gspec_TermsValid : spec_TermsValid.PI → Option spec_TermsValid.PO) (Gspec_l1One : spec_l1One.PI → Option spec_l1One.PO) (Gspec_l1Sign : spec_l1Sign.PI → Option spec_l1Sign.PO) (Gspec_l40Dec : spec_l40Dec.PI → Option spec_l40Dec.PO) (J3 : List Item → P3 → Option PO) (J5 : List Item → P5 → Option PO) (J15 : List Item → P15 → Option PO) (J16 : List Item → P16 → Option PO) (t0 : List (List UInt8)) (t1 : List (Int × Int × Int × Int)) : arun1 (pg Gspec_NamesValid Gspec_TermsValid Gspec_l1One Gspec_l1Sign Gspec_l40Dec J3 J5 J15 J16) 5000 T3 (mk p3 (t0, t1, ())) = F3 (J5 T5) t0 t1 := by kernel_rfl
theorem seg5 (Gspec_NamesValid : spec_NamesValid.PI → Option spec_NamesValid.PO) (Gspec_TermsValid : spec_TermsValid.PI → Option spec_TermsValid.PO) (Gspec_l1One : spec_l1One.PI → Option spec_l1One.PO) (Gspec_l1Sign : spec_l1Sign.PI → Option spec_l1Sign.PO) (Gspec_l40Dec : spec_l40Dec.PI → Option spec_l40Dec.PO) (J3 : List Item → P3 → Option PO) (J5 : List Item → P5 → Option PO) (J15 : List Item → P15 → Option PO) (J16 : List Item → P16 → Option PO) (t0 : List (List UInt8)) (t1 : List (Int × Int × Int × Int)) (t6 : Int) (r0 : List (List UInt8)) : arun1 (pg Gspec_NamesValid Gspec_TermsValid Gspec_l1One Gspec_l1Sign Gspec_l40Dec J3 J5 J15 J16) 5000 T5 (mk p5 (t0, t1, t6, r0, ())) = F5 (J15 T15) (J16 T16) Gspec_l1One Gspec_l40Dec t0 t1 t6 r0 := by kernel_rfl
theorem seg15 (Gspec_NamesValid : spec_NamesValid.PI → Option spec_NamesValid.PO) (Gspec_TermsValid : spec_TermsValid.PI → Option spec_TermsValid.PO) (Gspec_l1One : spec_l1One.PI → Option spec_l1One.PO) (Gspec_l1Sign : spec_l1Sign.PI → Option spec_l1Sign.PO) (Gspec_l40Dec : spec_l40Dec.PI → Option spec_l40Dec.PO) (J3 : List Item → P3 → Option PO) (J5 : List Item → P5 → Option PO) (J15 : List Item → P15 → Option PO) (J16 : List Item → P16 → Option PO) (t0 : List (List UInt8)) (t1 : List (Int × Int × Int × Int)) (t6 : Int) (r0 : List (List UInt8)) (b1_0 : Int) (b1_1 : Int) (b1_2 : Int) (b1_3 : Int) : arunQ (pg Gspec_NamesValid Gspec_TermsValid Gspec_l1One Gspec_l1Sign Gspec_l40Dec J3 J5 J15 J16) q [] [] 5000 T15 (mk p15 (t0, t1, t6, r0, b1_0, b1_1, b1_2, b1_3, ())) = List.replicate (arunQ (pg Gspec_NamesValid Gspec_TermsValid Gspec_l1One Gspec_l1Sign Gspec_l40Dec J3 J5 J15 J16) q [] [] 5000 T15 (mk p15 (t0, t1, t6, r0, b1_0, b1_1, b1_2, b1_3, ()))).length (F15 (J16 T16) Gspec_l1Sign t0 t1 t6 r0 b1_0 b1_1 b1_2 b1_3) := by kernel_rfl
theorem seg16 (Gspec_NamesValid : spec_NamesValid.PI → Option spec_NamesValid.PO) (Gspec_TermsValid : spec_TermsValid.PI → Option spec_TermsValid.PO) (Gspec_l1One : spec_l1One.PI → Option spec_l1One.PO) (Gspec_l1Sign : spec_l1Sign.PI → Option spec_l1Sign.PO) (Gspec_l40Dec : spec_l40Dec.PI → Option spec_l40Dec.PO) (J3 : List Item → P3 → Option PO) (J5 : List Item → P5 → Option PO) (J15 : List Item → P15 → Option PO) (J16 : List Item → P16 → Option PO) (t0 : List (List UInt8)) (t1 : List (Int × Int × Int × Int)) (t6 : Int) (t8 : List UInt8) (r0 : List (List UInt8)) : arun1 (pg Gspec_NamesValid Gspec_TermsValid Gspec_l1One Gspec_l1Sign Gspec_l40Dec J3 J5 J15 J16) 5000 T16 (mk p16 (t0, t1, t6, t8, r0, ())) = F16 (J5 T5) t0 t1 t6 t8 r0 := by kernel_rfl
noncomputable def L16 (J5 : P5 → Option PO) : P16 → Option PO := fun x => F16 J5 x.1 x.2.1 x.2.2.1 x.2.2.2.1 x.2.2.2.2.1
noncomputable def L15 (J5 : P5 → Option PO) : P15 → Option PO := fun x => F15 (L16 J5) spec_l1Sign.impl x.1 x.2.1 x.2.2.1 x.2.2.2.1 x.2.2.2.2.1 x.2.2.2.2.2.1 x.2.2.2.2.2.2.1 x.2.2.2.2.2.2.2.1
noncomputable def L5 : P5 → Option PO := lfp fun J5 x => F5 (L15 J5) (L16 J5) spec_l1One.impl spec_l40Dec.impl x.1 x.2.1 x.2.2.1 x.2.2.2.1
noncomputable def L3 : P3 → Option PO := fun x => F3 L5 x.1 x.2.1
noncomputable def impl : PI → Option PO := fun x => F0 L3 spec_NamesValid.impl spec_TermsValid.impl x.1 x.2.1
theorem F16_le {J5 J5' : P5 → Option PO} (h5 : OLe J5 J5') (t0 : List (List UInt8)) (t1 : List (Int × Int × Int × Int)) (t6 : Int) (t8 : List UInt8) (r0 : List (List UInt8)) : OptLe (F16 J5 t0 t1 t6 t8 r0) (F16 J5' t0 t1 t6 t8 r0) := by unfold F16; exact .cond (.refl _) (.cond (.of h5 _) (.refl _))
theorem F15_le {J16 J16' : P16 → Option PO} (h16 : OLe J16 J16') {Gspec_l1Sign : spec_l1Sign.PI → Option spec_l1Sign.PO} (t0 : List (List UInt8)) (t1 : List (Int × Int × Int × Int)) (t6 : Int) (r0 : List (List UInt8)) (b1_0 : Int) (b1_1 : Int) (b1_2 : Int) (b1_3 : Int) : OptLe (F15 J16 Gspec_l1Sign t0 t1 t6 r0 b1_0 b1_1 b1_2 b1_3) (F15 J16' Gspec_l1Sign t0 t1 t6 r0 b1_0 b1_1 b1_2 b1_3) := by unfold F15; exact .cond (.cond (.cond (.cond (.bind (.refl _) fun _ => .cond (.cond (.cond (.cond (.of h16 _) (.refl _)) (.refl _)) (.refl _)) (.refl _)) (.refl _)) (.refl _)) (.refl _)) (.refl _)
theorem F5_le {J15 J15' : P15 → Option PO} (h15 : OLe J15 J15') {J16 J16' : P16 → Option PO} (h16 : OLe J16 J16') {Gspec_l1One : spec_l1One.PI → Option spec_l1One.PO} {Gspec_l40Dec : spec_l40Dec.PI → Option spec_l40Dec.PO} (t0 : List (List UInt8)) (t1 : List (Int × Int × Int × Int)) (t6 : Int) (r0 : List (List UInt8)) : OptLe (F5 J15 J16 Gspec_l1One Gspec_l40Dec t0 t1 t6 r0) (F5 J15' J16' Gspec_l1One Gspec_l40Dec t0 t1 t6 r0) := by unfold F5; exact .cond (.cond (.cond (.bind (.refl _) fun _ => .of h16 _) (.cond (.cond (.of h16 _) (.refl _)) (.bind (.refl _) fun _ => .cond (.cond (.cond (.of h16 _) (.refl _)) (.refl _)) (.of h15 _)))) (.refl _)) (.refl _)
theorem L16_eq (J5 : P5 → Option PO) (t0 : List (List UInt8)) (t1 : List (Int × Int × Int × Int)) (t6 : Int) (t8 : List UInt8) (r0 : List (List UInt8)) : L16 J5 (t0, t1, t6, t8, r0, ()) = F16 J5 t0 t1 t6 t8 r0 := rfl
theorem L16_le {J5 J5' : P5 → Option PO} (h5 : OLe J5 J5') : OLe (L16 J5) (L16 J5') := fun x => F16_le h5 x.1 x.2.1 x.2.2.1 x.2.2.2.1 x.2.2.2.2.1
theorem L15_eq (J5 : P5 → Option PO) (t0 : List (List UInt8)) (t1 : List (Int × Int × Int × Int)) (t6 : Int) (r0 : List (List UInt8)) (b1_0 : Int) (b1_1 : Int) (b1_2 : Int) (b1_3 : Int) : L15 J5 (t0, t1, t6, r0, b1_0, b1_1, b1_2, b1_3, ()) = F15 (L16 J5) spec_l1Sign.impl t0 t1 t6 r0 b1_0 b1_1 b1_2 b1_3 := rfl
theorem L15_le {J5 J5' : P5 → Option PO} (h5 : OLe J5 J5') : OLe (L15 J5) (L15 J5') := fun x => F15_le (L16_le h5) x.1 x.2.1 x.2.2.1 x.2.2.2.1 x.2.2.2.2.1 x.2.2.2.2.2.1 x.2.2.2.2.2.2.1 x.2.2.2.2.2.2.2.1
theorem L5_mono : OMono fun J5 (x : P5) => F5 (L15 J5) (L16 J5) spec_l1One.impl spec_l40Dec.impl x.1 x.2.1 x.2.2.1 x.2.2.2.1 := fun J J' h5 x => F5_le (L15_le h5) (L16_le h5) x.1 x.2.1 x.2.2.1 x.2.2.2.1
theorem L5_eq (t0 : List (List UInt8)) (t1 : List (Int × Int × Int × Int)) (t6 : Int) (r0 : List (List UInt8)) : L5 (t0, t1, t6, r0, ()) = F5 (L15 (L5)) (L16 (L5)) spec_l1One.impl spec_l40Dec.impl t0 t1 t6 r0 := congrFun (lfp_eq (L5_mono)) _
theorem L3_eq (t0 : List (List UInt8)) (t1 : List (Int × Int × Int × Int)) : L3 (t0, t1, ()) = F3 (L5) t0 t1 := rfl
theorem impl_eq (x0 : List (List UInt8)) (x1 : List (Int × Int × Int × Int)) : impl (x0, x1, ()) = F0 L3 spec_NamesValid.impl spec_TermsValid.impl x0 x1 := rfl
theorem con : Con Tryz.prog 15 2 rs.length 2 pin pout impl := by
  refine con_of_run' (nt := 85) (c := c0) tabGood Tryz.func15 (by kernel_rfl) (by kernel_rfl) (by kernel_rfl) (by kernel_rfl) (by kernel_rfl) (by kernel_rfl) (by kernel_rfl) ?_
  intro w0 O y hnp
  generalize hPost : (fun (a' : Act) (w' : World) => ∃ μ' S' st', Rel 85 w0 O μ' S' st' a' w' ∧ endOf (tabOf tab) rs 2 pout st' = some y) = Post
  have fin : ∀ (μ : Id → Option Value) (S : Nat → Prop) (st : St) (a : Act) (w : World), Rel 85 w0 O μ S st a w → endOf (tabOf tab) rs 2 pout st = some y → Post a w := fun μ S st a w h he => by rw [← hPost]; exact ⟨μ, S, st, h, he⟩
  have hp : ∀ (J3 : List Item → P3 → Option PO), ∀ (J5 : List Item → P5 → Option PO), ∀ (J15 : List Item → P15 → Option PO), ∀ (J16 : List Item → P16 → Option PO), Parts Tryz.prog 15 (pg spec_NamesValid.impl spec_TermsValid.impl spec_l1One.impl spec_l1Sign.impl spec_l40Dec.impl J3 J5 J15 J16) [(3, cut p3 J3), (5, cut p5 J5), (15, cut p15 J15), (16, cut p16 J16)] := fun J3 J5 J15 J16 => ⟨tab_ok tabGood rfl, (handAt_ok spec_l1Sign.con (handAt_ok spec_l1One.con (handAt_ok spec_TermsValid.con (handAt_ok spec_l40Dec.con (handAt_ok spec_NamesValid.con handNil_ok))))), rfl⟩
  have g16 : ∀ (J5 : P5 → Option PO), Good Tryz.prog 85 w0 O Post y T5 p5 J5 → Good Tryz.prog 85 w0 O Post y T16 p16 (L16 J5) := fun J5 h5 => good_part (hp (atT T3 (fun _ => none)) (atT T5 J5) (atT T15 (fun _ => none)) (atT T16 (fun _ => none))) (runOK_of (hp (atT T3 (fun _ => none)) (atT T5 J5) (atT T15 (fun _ => none)) (atT T16 (fun _ => none))) hnp ⟨cutOK_at (p := p3) (T := T3) (J := fun _ => none) good_none, cutOK_at h5, cutOK_at (p := p15) (T := T15) (J := fun _ => none) good_none, cutOK_at (p := p16) (T := T16) (J := fun _ => none) good_none, trivial⟩ fin) (fun x => (seg16 spec_NamesValid.impl spec_TermsValid.impl spec_l1One.impl spec_l1Sign.impl spec_l40Dec.impl (atT T3 (fun _ => none)) (atT T5 J5) (atT T15 (fun _ => none)) (atT T16 (fun _ => none)) x.1 x.2.1 x.2.2.1 x.2.2.2.1 x.2.2.2.2.1).trans (by simp only [atT_self] <;> rfl))
  have g15 : ∀ (J5 : P5 → Option PO), Good Tryz.prog 85 w0 O Post y T5 p5 J5 → Good Tryz.prog 85 w0 O Post y T15 p15 (L15 J5) := fun J5 h5 => good_quiet (hs := hd spec_NamesValid.impl spec_TermsValid.impl spec_l1One.impl spec_l1Sign.impl spec_l40Dec.impl) (cv' := hd spec_NamesValid.impl spec_TermsValid.impl spec_l1One.impl spec_l1Sign.impl spec_l40Dec.impl) (Checked.mixed Tryz.checked) (hp (atT T3 (fun _ => none)) (atT T5 (fun _ => none)) (atT T15 (fun _ => none)) (atT T16 (L16 J5))) (handAt_D spec_l1Sign.con (by rfl) rfl (handAt_D spec_l1One.con (by rfl) rfl (handAt_D spec_TermsValid.con (by rfl) rfl (handAt_D spec_l40Dec.con (by rfl) rfl (handAt_D spec_NamesValid.con (by rfl) rfl handNil_D))))) (handAt_nat (handAt_nat (handAt_nat (handAt_nat (handAt_nat handNil_nat))))) (handAt_nat (handAt_nat (handAt_nat (handAt_nat (handAt_nat handNil_nat))))) (runOK_of (hp (atT T3 (fun _ => none)) (atT T5 (fun _ => none)) (atT T15 (fun _ => none)) (atT T16 (L16 J5))) hnp ⟨cutOK_at (p := p3) (T := T3) (J := fun _ => none) good_none, cutOK_at (p := p5) (T := T5) (J := fun _ => none) good_none, cutOK_at (p := p15) (T := T15) (J := fun _ => none) good_none, cutOK_at (g16 J5 h5), trivial⟩ fin) (fun x => all_same ⟨_, (seg15 spec_NamesValid.impl spec_TermsValid.impl spec_l1One.impl spec_l1Sign.impl spec_l40Dec.impl (atT T3 (fun _ => none)) (atT T5 (fun _ => none)) (atT T15 (fun _ => none)) (atT T16 (L16 J5)) x.1 x.2.1 x.2.2.1 x.2.2.2.1 x.2.2.2.2.1 x.2.2.2.2.2.1 x.2.2.2.2.2.2.1 x.2.2.2.2.2.2.2.1).trans (by simp only [atT_self] <;> rfl)⟩)
  have g5 : Good Tryz.prog 85 w0 O Post y T5 p5 L5 := good_lfp fun J5 h5 => good_part (hp (atT T3 (fun _ => none)) (atT T5 (fun _ => none)) (atT T15 (L15 J5)) (atT T16 (L16 J5))) (runOK_of (hp (atT T3 (fun _ => none)) (atT T5 (fun _ => none)) (atT T15 (L15 J5)) (atT T16 (L16 J5))) hnp ⟨cutOK_at (p := p3) (T := T3) (J := fun _ => none) good_none, cutOK_at (p := p5) (T := T5) (J := fun _ => none) good_none, cutOK_at (g15 J5 h5), cutOK_at (g16 J5 h5), trivial⟩ fin) (fun x => (seg5 spec_NamesValid.impl spec_TermsValid.impl spec_l1One.impl spec_l1Sign.impl spec_l40Dec.impl (atT T3 (fun _ => none)) (atT T5 (fun _ => none)) (atT T15 (L15 J5)) (atT T16 (L16 J5)) x.1 x.2.1 x.2.2.1 x.2.2.2.1).trans (by simp only [atT_self] <;> rfl))
  have g3 : Good Tryz.prog 85 w0 O Post y T3 p3 L3 := good_part (hp (atT T3 (fun _ => none)) (atT T5 L5) (atT T15 (fun _ => none)) (atT T16 (fun _ => none))) (runOK_of (hp (atT T3 (fun _ => none)) (atT T5 L5) (atT T15 (fun _ => none)) (atT T16 (fun _ => none))) hnp ⟨cutOK_at (p := p3) (T := T3) (J := fun _ => none) good_none, cutOK_at g5, cutOK_at (p := p15) (T := T15) (J := fun _ => none) good_none, cutOK_at (p := p16) (T := T16) (J := fun _ => none) good_none, trivial⟩ fin) (fun x => (seg3 spec_NamesValid.impl spec_TermsValid.impl spec_l1One.impl spec_l1Sign.impl spec_l40Dec.impl (atT T3 (fun _ => none)) (atT T5 L5) (atT T15 (fun _ => none)) (atT T16 (fun _ => none)) x.1 x.2.1).trans (by simp only [atT_self] <;> rfl))
  exact good_first (hp (atT T3 L3) (atT T5 (fun _ => none)) (atT T15 (fun _ => none)) (atT T16 (fun _ => none))) (runOK_of (hp (atT T3 L3) (atT T5 (fun _ => none)) (atT T15 (fun _ => none)) (atT T16 (fun _ => none))) hnp ⟨cutOK_at g3, cutOK_at (p := p5) (T := T5) (J := fun _ => none) good_none, cutOK_at (p := p15) (T := T15) (J := fun _ => none) good_none, cutOK_at (p := p16) (T := T16) (J := fun _ => none) good_none, trivial⟩ fin) (fun x => (seg0 spec_NamesValid.impl spec_TermsValid.impl spec_l1One.impl spec_l1Sign.impl spec_l40Dec.impl (atT T3 L3) (atT T5 (fun _ => none)) (atT T15 (fun _ => none)) (atT T16 (fun _ => none)) x.1 x.2.1).trans (by simp only [atT_self] <;> rfl))
end spec_WriteExpr
end Go.Proofs.YtfjnckjkpkhbdaaGreatDoorB
