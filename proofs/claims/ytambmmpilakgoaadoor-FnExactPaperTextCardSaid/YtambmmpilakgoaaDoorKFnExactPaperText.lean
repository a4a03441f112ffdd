/- PRINTED BY A PROGRAM OF THIS CLAIM'S AUTHOR (wip/gen): functions of the given program, their parts, their contracts. -/
import Derived.Test.YtambmmpilakgoaaDoorB34
import Derived.Test.YtambmmpilakgoaaDoorB39
import Derived.Test.YtambmmpilakgoaaDoorChecked
import Derived.Test.YtambmmpilakgoaaDoorLFnExactPaperText
set_option linter.unusedVariables false
set_option maxRecDepth 100000
namespace Go.Proofs.YtambmmpilakgoaaDoorB
open Go
def tab : Tab := [(3, { kind := .scalar, zero := [.d (.int .i64) (0 : Int)], bytes := 8, data := some (.int .i64), eqf := none }),
  (4, { kind := .scalar, zero := [.d .bool false], bytes := 1, data := some .bool, eqf := none }),
  (5, { kind := .scalar, zero := [.d (.int .u8) (0 : Int)], bytes := 1, data := some (.int .u8), eqf := none }),
  (9, { kind := .scalar, zero := [.d .str ([] : List UInt8)], bytes := 16, data := some .str, eqf := none }),
  (27, { kind := .slice 3, zero := [.nilS], bytes := 24, data := some (.sl (.int .i64)), eqf := none }),
  (28, { kind := .slice 27, zero := [.nilS], bytes := 24, data := some (.sl (.sl (.int .i64))), eqf := none }),
  (30, { kind := .struct [(0, 1), (1, 1)], zero := [.nilS, .nilS], bytes := 48, data := some (.prod (.sl (.sl (.int .i64))) (.last (.sl (.int .i64)))), eqf := none }),
  (32, { kind := .struct [(0, 1), (1, 1), (2, 1), (3, 2)], zero := [.d (.int .i64) (0 : Int), .nilS, .d (.int .i64) (0 : Int), .nilS, .nilS], bytes := 88, data := some (.prod (.int .i64) (.prod (.sl (.int .i64)) (.prod (.int .i64) (.last (.prod (.sl (.sl (.int .i64))) (.last (.sl (.int .i64)))))))), eqf := none }),
  (35, { kind := .struct [(0, 1), (1, 1)], zero := [.nilS, .nilS], bytes := 48, data := some (.prod (.sl (.sl (.int .i64))) (.last (.sl (.int .i64)))), eqf := none }),
  (37, { kind := .struct [(0, 1), (1, 1), (2, 1), (3, 2)], zero := [.d (.int .i64) (0 : Int), .nilS, .d (.int .i64) (0 : Int), .nilS, .nilS], bytes := 88, data := some (.prod (.int .i64) (.prod (.sl (.int .i64)) (.prod (.int .i64) (.last (.prod (.sl (.sl (.int .i64))) (.last (.sl (.int .i64)))))))), eqf := none }),
  (41, { kind := .slice 5, zero := [.nilS], bytes := 24, data := some (.sl (.int .u8)), eqf := none }),
  (97, { kind := .bld 5, zero := [.nilp, .nilS], bytes := 32, data := none, eqf := none })]
theorem tabGood : tabB Tryd.prog tab = true := by kernel_rfl

/-! ### loop.example/wholecheck/laws.szIntS -/
namespace laws_szIntS
noncomputable abbrev c0 : Code := (Tryd.f53.body).getD .skip
noncomputable abbrev pin : Tpl := ⟨[⟨0, false, [.d (.sl (.int .i64))]⟩, ⟨1, false, [.d (.int .i64)]⟩], []⟩
noncomputable abbrev pout : Tpl := ⟨[⟨0, false, [.d (.int .i64)]⟩], []⟩
noncomputable abbrev PI := (List Int) × Int × Unit
noncomputable abbrev PO := Int × Unit
noncomputable abbrev rs : List ResultVar := [.tmp 4]
noncomputable def F0 (x0 : List Int) (x1 : Int) : Option PO :=
  bif decide (wI (x1 - (x0.length : Int)) < 0) then
    some ((-1), ())
  else
    some (wI (x1 - (x0.length : Int)), ())
noncomputable def hd {R : Type} : Hand R := handNil
noncomputable def pg : Prog PO := { nt := 12, np := 1, tb := tabOf tab, hd := hd, cuts := cutsOf [], fin := endOf (tabOf tab) rs 1 pout }
noncomputable def q : FuncId → Bool := fun f => hasId [] f
theorem seg0 (x0 : List Int) (x1 : Int) : arun (pg) 5000 [.code c0] (mk pin (x0, x1, ())) = F0 x0 x1 := by kernel_rfl
noncomputable def impl : PI → Option PO := fun x => F0 x.1 x.2.1
theorem impl_eq (x0 : List Int) (x1 : Int) : impl (x0, x1, ()) = F0 x0 x1 := rfl
theorem con : Con Tryd.prog 53 2 rs.length 1 pin pout impl := by
  refine con_of_run' (nt := 12) (c := c0) tabGood Tryd.func53 (by kernel_rfl) (by kernel_rfl) (by kernel_rfl) (by kernel_rfl) (by kernel_rfl) (by kernel_rfl) (by kernel_rfl) ?_
  intro w0 O y hnp
  generalize hPost : (fun (a' : Act) (w' : World) => ∃ μ' S' st', Rel 12 w0 O μ' S' st' a' w' ∧ endOf (tabOf tab) rs 1 pout st' = some y) = Post
  have fin : ∀ (μ : Id → Option Value) (S : Nat → Prop) (st : St) (a : Act) (w : World), Rel 12 w0 O μ S st a w → endOf (tabOf tab) rs 1 pout st = some y → Post a w := fun μ S st a w h he => by rw [← hPost]; exact ⟨μ, S, st, h, he⟩
  have hp : Parts Tryd.prog 53 (pg) [] := ⟨tab_ok tabGood rfl, handNil_ok, rfl⟩
  exact good_first (hp) (runOK_of (hp) hnp trivial fin) (fun x => (seg0 x.1 x.2.1))
end laws_szIntS

/-! ### loop.example/wholecheck/laws.szIntSS -/
namespace laws_szIntSS
noncomputable abbrev c0 : Code := (Tryd.f106.body).getD .skip
noncomputable abbrev pin : Tpl := ⟨[⟨0, false, [.d (.sl (.sl (.int .i64)))]⟩, ⟨1, false, [.d (.int .i64)]⟩], []⟩
noncomputable abbrev pout : Tpl := ⟨[⟨0, false, [.d (.int .i64)]⟩], []⟩
noncomputable abbrev p5 : Tpl := ⟨[⟨0, false, [.d (.sl (.sl (.int .i64)))]⟩, ⟨1, false, [.d (.int .i64)]⟩, ⟨5, false, [.d (.int .i64)]⟩], []⟩
noncomputable def T5 : List Item := (find 5 c0 []).getD []
noncomputable abbrev PI := (List (List Int)) × Int × Unit
noncomputable abbrev PO := Int × Unit
noncomputable abbrev P5 := (List (List Int)) × Int × Int × Unit
noncomputable abbrev rs : List ResultVar := [.tmp 4]
noncomputable def F0 (J5 : P5 → Option PO) (x0 : List (List Int)) (x1 : Int) : Option PO :=
  bif decide (wI (x1 - (x0.length : Int)) < 0) then
    some ((-1), ())
  else
    J5 (x0, wI (x1 - (x0.length : Int)), 0, ())
noncomputable def F5 (J5 : P5 → Option PO) (Glaws_szIntS : laws_szIntS.PI → Option laws_szIntS.PO) (t0 : List (List Int)) (t1 : Int) (t5 : Int) : Option PO :=
  bif decide (t5 < (t0.length : Int)) then
    bif inb t5 t0.length then
      Option.bind (Glaws_szIntS (t0.getD t5.toNat [], t1, ())) fun y0 =>
      bif decide (y0.1 < 0) then
        some ((-1), ())
      else
        J5 (t0, y0.1, wI (t5 + 1), ())
    else
      none
  else
    some (t1, ())
noncomputable def hd {R : Type} (Glaws_szIntS : laws_szIntS.PI → Option laws_szIntS.PO) : Hand R := (handAt 53 [23] true ⟨2, 1, 1, laws_szIntS.pin, laws_szIntS.pout, Glaws_szIntS⟩ handNil)
noncomputable def pg (Glaws_szIntS : laws_szIntS.PI → Option laws_szIntS.PO) (J5 : List Item → P5 → Option PO) : Prog PO := { nt := 27, np := 1, tb := tabOf tab, hd := hd Glaws_szIntS, cuts := cutsOf [(5, cut p5 J5)], fin := endOf (tabOf tab) rs 1 pout }
noncomputable def q : FuncId → Bool := fun f => hasId [53] f
theorem seg0 (Glaws_szIntS : laws_szIntS.PI → Option laws_szIntS.PO) (J5 : List Item → P5 → Option PO) (x0 : List (List Int)) (x1 : Int) : arun (pg Glaws_szIntS J5) 5000 [.code c0] (mk pin (x0, x1, ())) = F0 (J5 T5) x0 x1 := by kernel_rfl
theorem seg5 (Glaws_szIntS : laws_szIntS.PI → Option laws_szIntS.PO) (J5 : List Item → P5 → Option PO) (t0 : List (List Int)) (t1 : Int) (t5 : Int) : arun1 (pg Glaws_szIntS J5) 5000 T5 (mk p5 (t0, t1, t5, ())) = F5 (J5 T5) Glaws_szIntS t0 t1 t5 := by kernel_rfl
noncomputable def L5 : P5 → Option PO := lfp fun J5 x => F5 J5 laws_szIntS.impl x.1 x.2.1 x.2.2.1
noncomputable def impl : PI → Option PO := fun x => F0 L5 x.1 x.2.1
theorem F5_le {J5 J5' : P5 → Option PO} (h5 : OLe J5 J5') {Glaws_szIntS : laws_szIntS.PI → Option laws_szIntS.PO} (t0 : List (List Int)) (t1 : Int) (t5 : Int) : OptLe (F5 J5 Glaws_szIntS t0 t1 t5) (F5 J5' Glaws_szIntS t0 t1 t5) := by unfold F5; exact .cond (.cond (.bind (.refl _) fun _ => .cond (.refl _) (.of h5 _)) (.refl _)) (.refl _)
theorem L5_mono : OMono fun J5 (x : P5) => F5 J5 laws_szIntS.impl x.1 x.2.1 x.2.2.1 := fun J J' h5 x => F5_le h5 x.1 x.2.1 x.2.2.1
theorem L5_eq (t0 : List (List Int)) (t1 : Int) (t5 : Int) : L5 (t0, t1, t5, ()) = F5 (L5) laws_szIntS.impl t0 t1 t5 := congrFun (lfp_eq (L5_mono)) _
theorem impl_eq (x0 : List (List Int)) (x1 : Int) : impl (x0, x1, ()) = F0 L5 x0 x1 := rfl
theorem con : Con Tryd.prog 106 2 rs.length 1 pin pout impl := by
  refine con_of_run' (nt := 27) (c := c0) tabGood Tryd.func106 (by kernel_rfl) (by kernel_rfl) (by kernel_rfl) (by kernel_rfl) (by kernel_rfl) (by kernel_rfl) (by kernel_rfl) ?_
  intro w0 O y hnp
  generalize hPost : (fun (a' : Act) (w' : World) => ∃ μ' S' st', Rel 27 w0 O μ' S' st' a' w' ∧ endOf (tabOf tab) rs 1 pout st' = some y) = Post
  have fin : ∀ (μ : Id → Option Value) (S : Nat → Prop) (st : St) (a : Act) (w : World), Rel 27 w0 O μ S st a w → endOf (tabOf tab) rs 1 pout st = some y → Post a w := fun μ S st a w h he => by rw [← hPost]; exact ⟨μ, S, st, h, he⟩
  have hp : ∀ (J5 : List Item → P5 → Option PO), Parts Tryd.prog 106 (pg laws_szIntS.impl J5) [(5, cut p5 J5)] := fun J5 => ⟨tab_ok tabGood rfl, (handAt_ok laws_szIntS.con handNil_ok), rfl⟩
  have g5 : Good Tryd.prog 27 w0 O Post y T5 p5 L5 := good_lfp fun J5 h5 => good_part (hp (atT T5 J5)) (runOK_of (hp (atT T5 J5)) hnp ⟨cutOK_at h5, trivial⟩ fin) (fun x => (seg5 laws_szIntS.impl (atT T5 J5) x.1 x.2.1 x.2.2.1).trans (by simp only [atT_self] <;> rfl))
  exact good_first (hp (atT T5 L5)) (runOK_of (hp (atT T5 L5)) hnp ⟨cutOK_at g5, trivial⟩ fin) (fun x => (seg0 laws_szIntS.impl (atT T5 L5) x.1 x.2.1).trans (by simp only [atT_self] <;> rfl))
end laws_szIntSS

/-! ### loop.example/wholecheck/laws.szTrace -/
namespace laws_szTrace
noncomputable abbrev c0 : Code := (Tryd.f54.body).getD .skip
noncomputable abbrev pin : Tpl := ⟨[⟨0, true, [.d (.prod (.sl (.sl (.int .i64))) (.last (.sl (.int .i64))))]⟩, ⟨1, false, [.d (.int .i64)]⟩], []⟩
noncomputable abbrev pout : Tpl := ⟨[⟨0, false, [.d (.int .i64)]⟩], []⟩
noncomputable abbrev PI := ((List (List Int)) × List Int) × Int × Unit
noncomputable abbrev PO := Int × Unit
noncomputable abbrev rs : List ResultVar := [.tmp 4]
noncomputable def F0 (Glaws_szIntS : laws_szIntS.PI → Option laws_szIntS.PO) (Glaws_szIntSS : laws_szIntSS.PI → Option laws_szIntSS.PO) (x0 : (List (List Int)) × List Int) (x1 : Int) : Option PO :=
  Option.bind (Glaws_szIntSS (x0.1, x1, ())) fun y0 =>
  bif decide (y0.1 < 0) then
    some ((-1), ())
  else
    Option.bind (Glaws_szIntS (x0.2, y0.1, ())) fun y1 =>
    bif decide (y1.1 < 0) then
      some ((-1), ())
    else
      some (y1.1, ())
noncomputable def hd {R : Type} (Glaws_szIntS : laws_szIntS.PI → Option laws_szIntS.PO) (Glaws_szIntSS : laws_szIntSS.PI → Option laws_szIntSS.PO) : Hand R := (handAt 106 [8] true ⟨2, 1, 1, laws_szIntSS.pin, laws_szIntSS.pout, Glaws_szIntSS⟩ (handAt 53 [14] true ⟨2, 1, 1, laws_szIntS.pin, laws_szIntS.pout, Glaws_szIntS⟩ handNil))
noncomputable def pg (Glaws_szIntS : laws_szIntS.PI → Option laws_szIntS.PO) (Glaws_szIntSS : laws_szIntSS.PI → Option laws_szIntSS.PO) : Prog PO := { nt := 18, np := 1, tb := tabOf tab, hd := hd Glaws_szIntS Glaws_szIntSS, cuts := cutsOf [], fin := endOf (tabOf tab) rs 1 pout }
noncomputable def q : FuncId → Bool := fun f => hasId [53, 106] f
theorem seg0 (Glaws_szIntS : laws_szIntS.PI → Option laws_szIntS.PO) (Glaws_szIntSS : laws_szIntSS.PI → Option laws_szIntSS.PO) (x0 : (List (List Int)) × List Int) (x1 : Int) : arun (pg Glaws_szIntS Glaws_szIntSS) 5000 [.code c0] (mk pin (x0, x1, ())) = F0 Glaws_szIntS Glaws_szIntSS x0 x1 := by kernel_rfl
noncomputable def impl : PI → Option PO := fun x => F0 laws_szIntS.impl laws_szIntSS.impl x.1 x.2.1
theorem impl_eq (x0 : (List (List Int)) × List Int) (x1 : Int) : impl (x0, x1, ()) = F0 laws_szIntS.impl laws_szIntSS.impl x0 x1 := rfl
theorem con : Con Tryd.prog 54 2 rs.length 1 pin pout impl := by
  refine con_of_run' (nt := 18) (c := c0) tabGood Tryd.func54 (by kernel_rfl) (by kernel_rfl) (by kernel_rfl) (by kernel_rfl) (by kernel_rfl) (by kernel_rfl) (by kernel_rfl) ?_
  intro w0 O y hnp
  generalize hPost : (fun (a' : Act) (w' : World) => ∃ μ' S' st', Rel 18 w0 O μ' S' st' a' w' ∧ endOf (tabOf tab) rs 1 pout st' = some y) = Post
  have fin : ∀ (μ : Id → Option Value) (S : Nat → Prop) (st : St) (a : Act) (w : World), Rel 18 w0 O μ S st a w → endOf (tabOf tab) rs 1 pout st = some y → Post a w := fun μ S st a w h he => by rw [← hPost]; exact ⟨μ, S, st, h, he⟩
  have hp : Parts Tryd.prog 54 (pg laws_szIntS.impl laws_szIntSS.impl) [] := ⟨tab_ok tabGood rfl, (handAt_ok laws_szIntSS.con (handAt_ok laws_szIntS.con handNil_ok)), rfl⟩
  exact good_first (hp) (runOK_of (hp) hnp trivial fin) (fun x => (seg0 laws_szIntS.impl laws_szIntSS.impl x.1 x.2.1))
end laws_szTrace

/-! ### loop.example/wholecheck/laws.szPaper -/
namespace laws_szPaper
noncomputable abbrev c0 : Code := (Tryd.f16.body).getD .skip
noncomputable abbrev pin : Tpl := ⟨[⟨0, true, [.d (.prod (.int .i64) (.prod (.sl (.int .i64)) (.prod (.int .i64) (.last (.prod (.sl (.sl (.int .i64))) (.last (.sl (.int .i64))))))))]⟩, ⟨1, false, [.d (.int .i64)]⟩], []⟩
noncomputable abbrev pout : Tpl := ⟨[⟨0, false, [.d (.int .i64)]⟩], []⟩
noncomputable abbrev PI := (Int × (List Int) × Int × (List (List Int)) × List Int) × Int × Unit
noncomputable abbrev PO := Int × Unit
noncomputable abbrev rs : List ResultVar := [.tmp 4]
noncomputable def F0 (Glaws_szIntS : laws_szIntS.PI → Option laws_szIntS.PO) (Glaws_szTrace : laws_szTrace.PI → Option laws_szTrace.PO) (x0 : Int × (List Int) × Int × (List (List Int)) × List Int) (x1 : Int) : Option PO :=
  Option.bind (Glaws_szIntS (x0.2.1, x1, ())) fun y0 =>
  bif decide (y0.1 < 0) then
    some ((-1), ())
  else
    Option.bind (Glaws_szTrace (x0.2.2.2, y0.1, ())) fun y1 =>
    bif decide (y1.1 < 0) then
      some ((-1), ())
    else
      some (y1.1, ())
noncomputable def hd {R : Type} (Glaws_szIntS : laws_szIntS.PI → Option laws_szIntS.PO) (Glaws_szTrace : laws_szTrace.PI → Option laws_szTrace.PO) : Hand R := (handAt 54 [14] true ⟨2, 1, 1, laws_szTrace.pin, laws_szTrace.pout, Glaws_szTrace⟩ (handAt 53 [8] true ⟨2, 1, 1, laws_szIntS.pin, laws_szIntS.pout, Glaws_szIntS⟩ handNil))
noncomputable def pg (Glaws_szIntS : laws_szIntS.PI → Option laws_szIntS.PO) (Glaws_szTrace : laws_szTrace.PI → Option laws_szTrace.PO) : Prog PO := { nt := 18, np := 1, tb := tabOf tab, hd := hd Glaws_szIntS Glaws_szTrace, cuts := cutsOf [], fin := endOf (tabOf tab) rs 1 pout }
noncomputable def q : FuncId → Bool := fun f => hasId [53, 54] f
theorem seg0 (Glaws_szIntS : laws_szIntS.PI → Option laws_szIntS.PO) (Glaws_szTrace : laws_szTrace.PI → Option laws_szTrace.PO) (x0 : Int × (List Int) × Int × (List (List Int)) × List Int) (x1 : Int) : arun (pg Glaws_szIntS Glaws_szTrace) 5000 [.code c0] (mk pin (x0, x1, ())) = F0 Glaws_szIntS Glaws_szTrace x0 x1 := by kernel_rfl
noncomputable def impl : PI → Option PO := fun x => F0 laws_szIntS.impl laws_szTrace.impl x.1 x.2.1
theorem impl_eq (x0 : Int × (List Int) × Int × (List (List Int)) × List Int) (x1 : Int) : impl (x0, x1, ()) = F0 laws_szIntS.impl laws_szTrace.impl x0 x1 := rfl
theorem con : Con Tryd.prog 16 2 rs.length 1 pin pout impl := by
  refine con_of_run' (nt := 18) (c := c0) tabGood Tryd.func16 (by kernel_rfl) (by kernel_rfl) (by kernel_rfl) (by kernel_rfl) (by kernel_rfl) (by kernel_rfl) (by kernel_rfl) ?_
  intro w0 O y hnp
  generalize hPost : (fun (a' : Act) (w' : World) => ∃ μ' S' st', Rel 18 w0 O μ' S' st' a' w' ∧ endOf (tabOf tab) rs 1 pout st' = some y) = Post
  have fin : ∀ (μ : Id → Option Value) (S : Nat → Prop) (st : St) (a : Act) (w : World), Rel 18 w0 O μ S st a w → endOf (tabOf tab) rs 1 pout st = some y → Post a w := fun μ S st a w h he => by rw [← hPost]; exact ⟨μ, S, st, h, he⟩
  have hp : Parts Tryd.prog 16 (pg laws_szIntS.impl laws_szTrace.impl) [] := ⟨tab_ok tabGood rfl, (handAt_ok laws_szTrace.con (handAt_ok laws_szIntS.con handNil_ok)), rfl⟩
  exact good_first (hp) (runOK_of (hp) hnp trivial fin) (fun x => (seg0 laws_szIntS.impl laws_szTrace.impl x.1 x.2.1))
end laws_szPaper

/-! ### loop.example/wholecheck/laws.toIntS -/
namespace laws_toIntS
noncomputable abbrev c0 : Code := (Tryd.f28.body).getD .skip
noncomputable abbrev pin : Tpl := ⟨[⟨0, false, [.d (.sl (.int .i64))]⟩], []⟩
noncomputable abbrev pout : Tpl := ⟨[⟨0, false, [.row 600001]⟩], [(600001, .row 3 false (.int .i64))]⟩
noncomputable abbrev p3 : Tpl := ⟨[⟨0, false, [.d (.sl (.int .i64))]⟩, ⟨3, false, [.row 3000000]⟩, ⟨4, false, [.d (.int .i64)]⟩], [(3000000, .row 3 false (.int .i64))]⟩
noncomputable def T3 : List Item := (find 3 c0 []).getD []
noncomputable abbrev PI := (List Int) × Unit
noncomputable abbrev PO := (List Int) × Unit
noncomputable abbrev P3 := (List Int) × Int × (List Int) × Unit
noncomputable abbrev rs : List ResultVar := [.tmp 2]
noncomputable def F0 (J3 : P3 → Option PO) (x0 : List Int) : Option PO :=
  bif decide (0 ≤ (x0.length : Int)) && decide ((x0.length : Int) ≤ (x0.length : Int)) && decide ((x0.length : Int) * 8 ≤ 140737488355328) then
    J3 (x0, 0, (List.replicate (x0.length : Int).toNat 0 : List Int), ())
  else
    none
noncomputable def F3 (J3 : P3 → Option PO) (t0 : List Int) (t4 : Int) (r0 : List Int) : Option PO :=
  bif decide (t4 < (t0.length : Int)) then
    bif inb t4 t0.length then
      bif inb t4 r0.length then
        J3 (t0, wI (t4 + 1), r0.set t4.toNat (t0.getD t4.toNat 0), ())
      else
        none
    else
      none
  else
    some (r0, ())
noncomputable def hd {R : Type} : Hand R := handNil
noncomputable def pg (J3 : List Item → P3 → Option PO) : Prog PO := { nt := 22, np := 1, tb := tabOf tab, hd := hd, cuts := cutsOf [(3, cut p3 J3)], fin := endOf (tabOf tab) rs 1 pout }
noncomputable def q : FuncId → Bool := fun f => hasId [] f
theorem seg0 (J3 : List Item → P3 → Option PO) (x0 : List Int) : arun (pg J3) 5000 [.code c0] (mk pin (x0, ())) = F0 (J3 T3) x0 := by kernel_rfl
theorem seg3 (J3 : List Item → P3 → Option PO) (t0 : List Int) (t4 : Int) (r0 : List Int) : arun1 (pg J3) 5000 T3 (mk p3 (t0, t4, r0, ())) = F3 (J3 T3) t0 t4 r0 := by kernel_rfl
noncomputable def L3 : P3 → Option PO := lfp fun J3 x => F3 J3 x.1 x.2.1 x.2.2.1
noncomputable def impl : PI → Option PO := fun x => F0 L3 x.1
theorem F3_le {J3 J3' : P3 → Option PO} (h3 : OLe J3 J3') (t0 : List Int) (t4 : Int) (r0 : List Int) : OptLe (F3 J3 t0 t4 r0) (F3 J3' t0 t4 r0) := by unfold F3; exact .cond (.cond (.cond (.of h3 _) (.refl _)) (.refl _)) (.refl _)
theorem L3_mono : OMono fun J3 (x : P3) => F3 J3 x.1 x.2.1 x.2.2.1 := fun J J' h3 x => F3_le h3 x.1 x.2.1 x.2.2.1
theorem L3_eq (t0 : List Int) (t4 : Int) (r0 : List Int) : L3 (t0, t4, r0, ()) = F3 (L3) t0 t4 r0 := congrFun (lfp_eq (L3_mono)) _
theorem impl_eq (x0 : List Int) : impl (x0, ()) = F0 L3 x0 := rfl
theorem con : Con Tryd.prog 28 1 rs.length 1 pin pout impl := by
  refine con_of_run' (nt := 22) (c := c0) tabGood Tryd.func28 (by kernel_rfl) (by kernel_rfl) (by kernel_rfl) (by kernel_rfl) (by kernel_rfl) (by kernel_rfl) (by kernel_rfl) ?_
  intro w0 O y hnp
  generalize hPost : (fun (a' : Act) (w' : World) => ∃ μ' S' st', Rel 22 w0 O μ' S' st' a' w' ∧ endOf (tabOf tab) rs 1 pout st' = some y) = Post
  have fin : ∀ (μ : Id → Option Value) (S : Nat → Prop) (st : St) (a : Act) (w : World), Rel 22 w0 O μ S st a w → endOf (tabOf tab) rs 1 pout st = some y → Post a w := fun μ S st a w h he => by rw [← hPost]; exact ⟨μ, S, st, h, he⟩
  have hp : ∀ (J3 : List Item → P3 → Option PO), Parts Tryd.prog 28 (pg J3) [(3, cut p3 J3)] := fun J3 => ⟨tab_ok tabGood rfl, handNil_ok, rfl⟩
  have g3 : Good Tryd.prog 22 w0 O Post y T3 p3 L3 := good_lfp fun J3 h3 => good_part (hp (atT T3 J3)) (runOK_of (hp (atT T3 J3)) hnp ⟨cutOK_at h3, trivial⟩ fin) (fun x => (seg3 (atT T3 J3) x.1 x.2.1 x.2.2.1).trans (by simp only [atT_self] <;> rfl))
  exact good_first (hp (atT T3 L3)) (runOK_of (hp (atT T3 L3)) hnp ⟨cutOK_at g3, trivial⟩ fin) (fun x => (seg0 (atT T3 L3) x.1).trans (by simp only [atT_self] <;> rfl))
end laws_toIntS

/-! ### loop.example/wholecheck/laws.toIntSS -/
namespace laws_toIntSS
noncomputable abbrev c0 : Code := (Tryd.f108.body).getD .skip
noncomputable abbrev pin : Tpl := ⟨[⟨0, false, [.d (.sl (.sl (.int .i64)))]⟩], []⟩
noncomputable abbrev pout : Tpl := ⟨[⟨0, false, [.row 600001]⟩], [(600001, .row 27 false (.sl (.int .i64)))]⟩
noncomputable abbrev p3 : Tpl := ⟨[⟨0, false, [.d (.sl (.sl (.int .i64)))]⟩, ⟨3, false, [.row 3000000]⟩, ⟨4, false, [.d (.int .i64)]⟩], [(3000000, .row 27 false (.sl (.int .i64)))]⟩
noncomputable def T3 : List Item := (find 3 c0 []).getD []
noncomputable abbrev PI := (List (List Int)) × Unit
noncomputable abbrev PO := (List (List Int)) × Unit
noncomputable abbrev P3 := (List (List Int)) × Int × (List (List Int)) × Unit
noncomputable abbrev rs : List ResultVar := [.tmp 2]
noncomputable def F0 (J3 : P3 → Option PO) (x0 : List (List Int)) : Option PO :=
  bif decide (0 ≤ (x0.length : Int)) && decide ((x0.length : Int) ≤ (x0.length : Int)) && decide ((x0.length : Int) * 24 ≤ 140737488355328) then
    J3 (x0, 0, (List.replicate (x0.length : Int).toNat [] : List (List Int)), ())
  else
    none
noncomputable def F3 (J3 : P3 → Option PO) (Glaws_toIntS : laws_toIntS.PI → Option laws_toIntS.PO) (t0 : List (List Int)) (t4 : Int) (r0 : List (List Int)) : Option PO :=
  bif decide (t4 < (t0.length : Int)) then
    bif inb t4 t0.length then
      Option.bind (Glaws_toIntS (t0.getD t4.toNat [], ())) fun y0 =>
      bif inb t4 r0.length then
        J3 (t0, wI (t4 + 1), r0.set t4.toNat y0.1, ())
      else
        none
    else
      none
  else
    some (r0, ())
noncomputable def hd {R : Type} (Glaws_toIntS : laws_toIntS.PI → Option laws_toIntS.PO) : Hand R := (handAt 28 [20] true ⟨1, 1, 1, laws_toIntS.pin, laws_toIntS.pout, Glaws_toIntS⟩ handNil)
noncomputable def pg (Glaws_toIntS : laws_toIntS.PI → Option laws_toIntS.PO) (J3 : List Item → P3 → Option PO) : Prog PO := { nt := 23, np := 1, tb := tabOf tab, hd := hd Glaws_toIntS, cuts := cutsOf [(3, cut p3 J3)], fin := endOf (tabOf tab) rs 1 pout }
noncomputable def q : FuncId → Bool := fun f => hasId [] f
theorem seg0 (Glaws_toIntS : laws_toIntS.PI → Option laws_toIntS.PO) (J3 : List Item → P3 → Option PO) (x0 : List (List Int)) : arun (pg Glaws_toIntS J3) 5000 [.code c0] (mk pin (x0, ())) = F0 (J3 T3) x0 := by kernel_rfl
theorem seg3 (Glaws_toIntS : laws_toIntS.PI → Option laws_toIntS.PO) (J3 : List Item → P3 → Option PO) (t0 : List (List Int)) (t4 : Int) (r0 : List (List Int)) : arun1 (pg Glaws_toIntS J3) 5000 T3 (mk p3 (t0, t4, r0, ())) = F3 (J3 T3) Glaws_toIntS t0 t4 r0 := by kernel_rfl
noncomputable def L3 : P3 → Option PO := lfp fun J3 x => F3 J3 laws_toIntS.impl x.1 x.2.1 x.2.2.1
noncomputable def impl : PI → Option PO := fun x => F0 L3 x.1
theorem F3_le {J3 J3' : P3 → Option PO} (h3 : OLe J3 J3') {Glaws_toIntS : laws_toIntS.PI → Option laws_toIntS.PO} (t0 : List (List Int)) (t4 : Int) (r0 : List (List Int)) : OptLe (F3 J3 Glaws_toIntS t0 t4 r0) (F3 J3' Glaws_toIntS t0 t4 r0) := by unfold F3; exact .cond (.cond (.bind (.refl _) fun _ => .cond (.of h3 _) (.refl _)) (.refl _)) (.refl _)
theorem L3_mono : OMono fun J3 (x : P3) => F3 J3 laws_toIntS.impl x.1 x.2.1 x.2.2.1 := fun J J' h3 x => F3_le h3 x.1 x.2.1 x.2.2.1
theorem L3_eq (t0 : List (List Int)) (t4 : Int) (r0 : List (List Int)) : L3 (t0, t4, r0, ()) = F3 (L3) laws_toIntS.impl t0 t4 r0 := congrFun (lfp_eq (L3_mono)) _
theorem impl_eq (x0 : List (List Int)) : impl (x0, ()) = F0 L3 x0 := rfl
theorem con : Con Tryd.prog 108 1 rs.length 1 pin pout impl := by
  refine con_of_run' (nt := 23) (c := c0) tabGood Tryd.func108 (by kernel_rfl) (by kernel_rfl) (by kernel_rfl) (by kernel_rfl) (by kernel_rfl) (by kernel_rfl) (by kernel_rfl) ?_
  intro w0 O y hnp
  generalize hPost : (fun (a' : Act) (w' : World) => ∃ μ' S' st', Rel 23 w0 O μ' S' st' a' w' ∧ endOf (tabOf tab) rs 1 pout st' = some y) = Post
  have fin : ∀ (μ : Id → Option Value) (S : Nat → Prop) (st : St) (a : Act) (w : World), Rel 23 w0 O μ S st a w → endOf (tabOf tab) rs 1 pout st = some y → Post a w := fun μ S st a w h he => by rw [← hPost]; exact ⟨μ, S, st, h, he⟩
  have hp : ∀ (J3 : List Item → P3 → Option PO), Parts Tryd.prog 108 (pg laws_toIntS.impl J3) [(3, cut p3 J3)] := fun J3 => ⟨tab_ok tabGood rfl, (handAt_ok laws_toIntS.con handNil_ok), rfl⟩
  have g3 : Good Tryd.prog 23 w0 O Post y T3 p3 L3 := good_lfp fun J3 h3 => good_part (hp (atT T3 J3)) (runOK_of (hp (atT T3 J3)) hnp ⟨cutOK_at h3, trivial⟩ fin) (fun x => (seg3 laws_toIntS.impl (atT T3 J3) x.1 x.2.1 x.2.2.1).trans (by simp only [atT_self] <;> rfl))
  exact good_first (hp (atT T3 L3)) (runOK_of (hp (atT T3 L3)) hnp ⟨cutOK_at g3, trivial⟩ fin) (fun x => (seg0 laws_toIntS.impl (atT T3 L3) x.1).trans (by simp only [atT_self] <;> rfl))
end laws_toIntSS

/-! ### loop.example/wholecheck/laws.toTrace -/
namespace laws_toTrace
noncomputable abbrev c0 : Code := (Tryd.f58.body).getD .skip
noncomputable abbrev pin : Tpl := ⟨[⟨0, true, [.d (.prod (.sl (.sl (.int .i64))) (.last (.sl (.int .i64))))]⟩], []⟩
noncomputable abbrev pout : Tpl := ⟨[⟨0, true, [.row 600001, .row 600002]⟩], [(600001, .row 27 false (.sl (.int .i64))), (600002, .row 3 false (.int .i64))]⟩
noncomputable abbrev PI := ((List (List Int)) × List Int) × Unit
noncomputable abbrev PO := (List (List Int)) × (List Int) × Unit
noncomputable abbrev rs : List ResultVar := [.cell 2 35]
noncomputable def F0 (Glaws_toIntS : laws_toIntS.PI → Option laws_toIntS.PO) (Glaws_toIntSS : laws_toIntSS.PI → Option laws_toIntSS.PO) (x0 : (List (List Int)) × List Int) : Option PO :=
  Option.bind (Glaws_toIntSS (x0.1, ())) fun y0 =>
  Option.bind (Glaws_toIntS (x0.2, ())) fun y1 =>
  some (y0.1, y1.1, ())
noncomputable def hd {R : Type} (Glaws_toIntS : laws_toIntS.PI → Option laws_toIntS.PO) (Glaws_toIntSS : laws_toIntSS.PI → Option laws_toIntSS.PO) : Hand R := (handAt 108 [6] false ⟨1, 1, 1, laws_toIntSS.pin, laws_toIntSS.pout, Glaws_toIntSS⟩ (handAt 28 [10] true ⟨1, 1, 1, laws_toIntS.pin, laws_toIntS.pout, Glaws_toIntS⟩ handNil))
noncomputable def pg (Glaws_toIntS : laws_toIntS.PI → Option laws_toIntS.PO) (Glaws_toIntSS : laws_toIntSS.PI → Option laws_toIntSS.PO) : Prog PO := { nt := 13, np := 1, tb := tabOf tab, hd := hd Glaws_toIntS Glaws_toIntSS, cuts := cutsOf [], fin := endOf (tabOf tab) rs 1 pout }
noncomputable def q : FuncId → Bool := fun f => hasId [] f
theorem seg0 (Glaws_toIntS : laws_toIntS.PI → Option laws_toIntS.PO) (Glaws_toIntSS : laws_toIntSS.PI → Option laws_toIntSS.PO) (x0 : (List (List Int)) × List Int) : arun (pg Glaws_toIntS Glaws_toIntSS) 5000 [.code c0] (mk pin (x0, ())) = F0 Glaws_toIntS Glaws_toIntSS x0 := by kernel_rfl
noncomputable def impl : PI → Option PO := fun x => F0 laws_toIntS.impl laws_toIntSS.impl x.1
theorem impl_eq (x0 : (List (List Int)) × List Int) : impl (x0, ()) = F0 laws_toIntS.impl laws_toIntSS.impl x0 := rfl
theorem con : Con Tryd.prog 58 1 rs.length 1 pin pout impl := by
  refine con_of_run' (nt := 13) (c := c0) tabGood Tryd.func58 (by kernel_rfl) (by kernel_rfl) (by kernel_rfl) (by kernel_rfl) (by kernel_rfl) (by kernel_rfl) (by kernel_rfl) ?_
  intro w0 O y hnp
  generalize hPost : (fun (a' : Act) (w' : World) => ∃ μ' S' st', Rel 13 w0 O μ' S' st' a' w' ∧ endOf (tabOf tab) rs 1 pout st' = some y) = Post
  have fin : ∀ (μ : Id → Option Value) (S : Nat → Prop) (st : St) (a : Act) (w : World), Rel 13 w0 O μ S st a w → endOf (tabOf tab) rs 1 pout st = some y → Post a w := fun μ S st a w h he => by rw [← hPost]; exact ⟨μ, S, st, h, he⟩
  have hp : Parts Tryd.prog 58 (pg laws_toIntS.impl laws_toIntSS.impl) [] := ⟨tab_ok tabGood rfl, (handAt_ok laws_toIntSS.con (handAt_ok laws_toIntS.con handNil_ok)), rfl⟩
  exact good_first (hp) (runOK_of (hp) hnp trivial fin) (fun x => (seg0 laws_toIntS.impl laws_toIntSS.impl x.1))
end laws_toTrace

/-! ### loop.example/wholecheck/laws.toPaper -/
namespace laws_toPaper
noncomputable abbrev c0 : Code := (Tryd.f18.body).getD .skip
noncomputable abbrev pin : Tpl := ⟨[⟨0, true, [.d (.prod (.int .i64) (.prod (.sl (.int .i64)) (.prod (.int .i64) (.last (.prod (.sl (.sl (.int .i64))) (.last (.sl (.int .i64))))))))]⟩], []⟩
noncomputable abbrev pout : Tpl := ⟨[⟨0, true, [.d (.int .i64), .row 600001, .d (.int .i64), .row 600002, .row 600003]⟩], [(600001, .row 3 false (.int .i64)), (600002, .row 27 false (.sl (.int .i64))), (600003, .row 3 false (.int .i64))]⟩
noncomputable abbrev PI := (Int × (List Int) × Int × (List (List Int)) × List Int) × Unit
noncomputable abbrev PO := Int × Int × (List Int) × (List (List Int)) × (List Int) × Unit
noncomputable abbrev rs : List ResultVar := [.cell 2 37]
noncomputable def F0 (Glaws_toIntS : laws_toIntS.PI → Option laws_toIntS.PO) (Glaws_toTrace : laws_toTrace.PI → Option laws_toTrace.PO) (x0 : Int × (List Int) × Int × (List (List Int)) × List Int) : Option PO :=
  Option.bind (Glaws_toIntS (x0.2.1, ())) fun y0 =>
  Option.bind (Glaws_toTrace (x0.2.2.2, ())) fun y1 =>
  some (x0.1, x0.2.2.1, y0.1, y1.1, y1.2.1, ())
noncomputable def hd {R : Type} (Glaws_toIntS : laws_toIntS.PI → Option laws_toIntS.PO) (Glaws_toTrace : laws_toTrace.PI → Option laws_toTrace.PO) : Hand R := (handAt 58 [16] false ⟨1, 1, 1, laws_toTrace.pin, laws_toTrace.pout, Glaws_toTrace⟩ (handAt 28 [9] true ⟨1, 1, 1, laws_toIntS.pin, laws_toIntS.pout, Glaws_toIntS⟩ handNil))
noncomputable def pg (Glaws_toIntS : laws_toIntS.PI → Option laws_toIntS.PO) (Glaws_toTrace : laws_toTrace.PI → Option laws_toTrace.PO) : Prog PO := { nt := 19, np := 1, tb := tabOf tab, hd := hd Glaws_toIntS Glaws_toTrace, cuts := cutsOf [], fin := endOf (tabOf tab) rs 1 pout }
noncomputable def q : FuncId → Bool := fun f => hasId [] f
theorem seg0 (Glaws_toIntS : laws_toIntS.PI → Option laws_toIntS.PO) (Glaws_toTrace : laws_toTrace.PI → Option laws_toTrace.PO) (x0 : Int × (List Int) × Int × (List (List Int)) × List Int) : arun (pg Glaws_toIntS Glaws_toTrace) 5000 [.code c0] (mk pin (x0, ())) = F0 Glaws_toIntS Glaws_toTrace x0 := by kernel_rfl
noncomputable def impl : PI → Option PO := fun x => F0 laws_toIntS.impl laws_toTrace.impl x.1
theorem impl_eq (x0 : Int × (List Int) × Int × (List (List Int)) × List Int) : impl (x0, ()) = F0 laws_toIntS.impl laws_toTrace.impl x0 := rfl
theorem con : Con Tryd.prog 18 1 rs.length 1 pin pout impl := by
  refine con_of_run' (nt := 19) (c := c0) tabGood Tryd.func18 (by kernel_rfl) (by kernel_rfl) (by kernel_rfl) (by kernel_rfl) (by kernel_rfl) (by kernel_rfl) (by kernel_rfl) ?_
  intro w0 O y hnp
  generalize hPost : (fun (a' : Act) (w' : World) => ∃ μ' S' st', Rel 19 w0 O μ' S' st' a' w' ∧ endOf (tabOf tab) rs 1 pout st' = some y) = Post
  have fin : ∀ (μ : Id → Option Value) (S : Nat → Prop) (st : St) (a : Act) (w : World), Rel 19 w0 O μ S st a w → endOf (tabOf tab) rs 1 pout st = some y → Post a w := fun μ S st a w h he => by rw [← hPost]; exact ⟨μ, S, st, h, he⟩
  have hp : Parts Tryd.prog 18 (pg laws_toIntS.impl laws_toTrace.impl) [] := ⟨tab_ok tabGood rfl, (handAt_ok laws_toTrace.con (handAt_ok laws_toIntS.con handNil_ok)), rfl⟩
  exact good_first (hp) (runOK_of (hp) hnp trivial fin) (fun x => (seg0 laws_toIntS.impl laws_toTrace.impl x.1))
end laws_toPaper

/-! ### loop.example/wholecheck/spec.l1In -/
namespace spec_l1In
noncomputable abbrev c0 : Code := (Tryd.f103.body).getD .skip
noncomputable abbrev pin : Tpl := ⟨[⟨0, false, [.d (.int .i64)]⟩, ⟨1, false, [.d (.int .i64)]⟩, ⟨2, false, [.d (.int .i64)]⟩], []⟩
noncomputable abbrev pout : Tpl := ⟨[⟨0, false, [.d .bool]⟩], []⟩
noncomputable abbrev PI := Int × Int × Int × Unit
noncomputable abbrev PO := Bool × Unit
noncomputable abbrev rs : List ResultVar := [.tmp 6]
noncomputable def F0 (x0 : Int) (x1 : Int) (x2 : Int) : Option PO :=
  bif decide (x0 ≥ x1) then
    some (decide (x0 ≤ x2), ())
  else
    some (false, ())
noncomputable def hd {R : Type} : Hand R := handNil
noncomputable def pg : Prog PO := { nt := 15, np := 3, tb := tabOf tab, hd := hd, cuts := cutsOf [], fin := endOf (tabOf tab) rs 3 pout }
noncomputable def q : FuncId → Bool := fun f => hasId [] f
theorem seg0 (x0 : Int) (x1 : Int) (x2 : Int) : arun (pg) 5000 [.code c0] (mk pin (x0, x1, x2, ())) = F0 x0 x1 x2 := by kernel_rfl
noncomputable def impl : PI → Option PO := fun x => F0 x.1 x.2.1 x.2.2.1
theorem impl_eq (x0 : Int) (x1 : Int) (x2 : Int) : impl (x0, x1, x2, ()) = F0 x0 x1 x2 := rfl
theorem con : Con Tryd.prog 103 3 rs.length 3 pin pout impl := by
  refine con_of_run' (nt := 15) (c := c0) tabGood Tryd.func103 (by kernel_rfl) (by kernel_rfl) (by kernel_rfl) (by kernel_rfl) (by kernel_rfl) (by kernel_rfl) (by kernel_rfl) ?_
  intro w0 O y hnp
  generalize hPost : (fun (a' : Act) (w' : World) => ∃ μ' S' st', Rel 15 w0 O μ' S' st' a' w' ∧ endOf (tabOf tab) rs 3 pout st' = some y) = Post
  have fin : ∀ (μ : Id → Option Value) (S : Nat → Prop) (st : St) (a : Act) (w : World), Rel 15 w0 O μ S st a w → endOf (tabOf tab) rs 3 pout st = some y → Post a w := fun μ S st a w h he => by rw [← hPost]; exact ⟨μ, S, st, h, he⟩
  have hp : Parts Tryd.prog 103 (pg) [] := ⟨tab_ok tabGood rfl, handNil_ok, rfl⟩
  exact good_first (hp) (runOK_of (hp) hnp trivial fin) (fun x => (seg0 x.1 x.2.1 x.2.2.1))
end spec_l1In

/-! ### loop.example/wholecheck/spec.l31Bare -/
namespace spec_l31Bare
noncomputable abbrev c0 : Code := (Tryd.f107.body).getD .skip
noncomputable abbrev pin : Tpl := ⟨[⟨0, true, [.d (.prod (.int .i64) (.prod (.sl (.int .i64)) (.prod (.int .i64) (.last (.prod (.sl (.sl (.int .i64))) (.last (.sl (.int .i64))))))))]⟩], []⟩
noncomputable abbrev pout : Tpl := ⟨[⟨0, false, [.d .bool]⟩], []⟩
noncomputable abbrev p3 : Tpl := ⟨[⟨1, false, [.ptr 3000000 0]⟩], [(3000000, .box [.d (.int .i64), .d (.sl (.int .i64)), .d (.int .i64), .d (.sl (.sl (.int .i64))), .d (.sl (.int .i64))])]⟩
noncomputable def T3 : List Item := (find 3 c0 []).getD []
noncomputable abbrev PI := (Int × (List Int) × Int × (List (List Int)) × List Int) × Unit
noncomputable abbrev PO := Bool × Unit
noncomputable abbrev P3 := Int × (List Int) × Int × (List (List Int)) × (List Int) × Unit
noncomputable abbrev rs : List ResultVar := [.tmp 2]
noncomputable def F0 (J3 : P3 → Option PO) (x0 : Int × (List Int) × Int × (List (List Int)) × List Int) : Option PO :=
  bif x0.1 != 1 then
    bif decide ((x0.2.1.length : Int) > 0) then
      some (false, ())
    else
      bif x0.1 != 2 then
        bif x0.2.2.1 != 0 then
          some (false, ())
        else
          J3 (x0.1, x0.2.1, x0.2.2.1, x0.2.2.2.1, x0.2.2.2.2, ())
      else
        J3 (x0.1, x0.2.1, x0.2.2.1, x0.2.2.2.1, x0.2.2.2.2, ())
  else
    bif x0.1 != 2 then
      bif x0.2.2.1 != 0 then
        some (false, ())
      else
        J3 (x0.1, x0.2.1, x0.2.2.1, x0.2.2.2.1, x0.2.2.2.2, ())
    else
      J3 (x0.1, x0.2.1, x0.2.2.1, x0.2.2.2.1, x0.2.2.2.2, ())
noncomputable def F3 (b0_0 : Int) (b0_1 : List Int) (b0_2 : Int) (b0_3 : List (List Int)) (b0_4 : List Int) : Option PO :=
  bif b0_0 == 3 then
    some (true, ())
  else
    bif (b0_3.length : Int) == 0 then
      some ((b0_4.length : Int) == 0, ())
    else
      some (false, ())
noncomputable def hd {R : Type} : Hand R := handNil
noncomputable def pg (J3 : List Item → P3 → Option PO) : Prog PO := { nt := 39, np := 1, tb := tabOf tab, hd := hd, cuts := cutsOf [(3, cut p3 J3)], fin := endOf (tabOf tab) rs 1 pout }
noncomputable def q : FuncId → Bool := fun f => hasId [] f
theorem seg0 (J3 : List Item → P3 → Option PO) (x0 : Int × (List Int) × Int × (List (List Int)) × List Int) : arun (pg J3) 5000 [.code c0] (mk pin (x0, ())) = F0 (J3 T3) x0 := by kernel_rfl
theorem seg3 (J3 : List Item → P3 → Option PO) (b0_0 : Int) (b0_1 : List Int) (b0_2 : Int) (b0_3 : List (List Int)) (b0_4 : List Int) : arun1 (pg J3) 5000 T3 (mk p3 (b0_0, b0_1, b0_2, b0_3, b0_4, ())) = F3 b0_0 b0_1 b0_2 b0_3 b0_4 := by kernel_rfl
noncomputable def L3 : P3 → Option PO := fun x => F3 x.1 x.2.1 x.2.2.1 x.2.2.2.1 x.2.2.2.2.1
noncomputable def impl : PI → Option PO := fun x => F0 L3 x.1
theorem L3_eq (b0_0 : Int) (b0_1 : List Int) (b0_2 : Int) (b0_3 : List (List Int)) (b0_4 : List Int) : L3 (b0_0, b0_1, b0_2, b0_3, b0_4, ()) = F3 b0_0 b0_1 b0_2 b0_3 b0_4 := rfl
theorem impl_eq (x0 : Int × (List Int) × Int × (List (List Int)) × List Int) : impl (x0, ()) = F0 L3 x0 := rfl
theorem con : Con Tryd.prog 107 1 rs.length 1 pin pout impl := by
  refine con_of_run' (nt := 39) (c := c0) tabGood Tryd.func107 (by kernel_rfl) (by kernel_rfl) (by kernel_rfl) (by kernel_rfl) (by kernel_rfl) (by kernel_rfl) (by kernel_rfl) ?_
  intro w0 O y hnp
  generalize hPost : (fun (a' : Act) (w' : World) => ∃ μ' S' st', Rel 39 w0 O μ' S' st' a' w' ∧ endOf (tabOf tab) rs 1 pout st' = some y) = Post
  have fin : ∀ (μ : Id → Option Value) (S : Nat → Prop) (st : St) (a : Act) (w : World), Rel 39 w0 O μ S st a w → endOf (tabOf tab) rs 1 pout st = some y → Post a w := fun μ S st a w h he => by rw [← hPost]; exact ⟨μ, S, st, h, he⟩
  have hp : ∀ (J3 : List Item → P3 → Option PO), Parts Tryd.prog 107 (pg J3) [(3, cut p3 J3)] := fun J3 => ⟨tab_ok tabGood rfl, handNil_ok, rfl⟩
  have g3 : Good Tryd.prog 39 w0 O Post y T3 p3 L3 := good_part (hp (atT T3 (fun _ => none))) (runOK_of (hp (atT T3 (fun _ => none))) hnp ⟨cutOK_at (p := p3) (T := T3) (J := fun _ => none) good_none, trivial⟩ fin) (fun x => (seg3 (atT T3 (fun _ => none)) x.1 x.2.1 x.2.2.1 x.2.2.2.1 x.2.2.2.2.1))
  exact good_first (hp (atT T3 L3)) (runOK_of (hp (atT T3 L3)) hnp ⟨cutOK_at g3, trivial⟩ fin) (fun x => (seg0 (atT T3 L3) x.1).trans (by simp only [atT_self] <;> rfl))
end spec_l31Bare

/-! ### loop.example/wholecheck/spec.l31Numbers -/
namespace spec_l31Numbers
noncomputable abbrev c0 : Code := (Tryd.f74.body).getD .skip
noncomputable abbrev pin : Tpl := ⟨[⟨0, false, [.d (.sl (.int .i64))]⟩], []⟩
noncomputable abbrev pout : Tpl := ⟨[⟨0, false, [.d .bool]⟩], []⟩
noncomputable abbrev p2 : Tpl := ⟨[⟨0, false, [.d (.sl (.int .i64))]⟩, ⟨3, false, [.d (.int .i64)]⟩], []⟩
noncomputable def T2 : List Item := (find 2 c0 []).getD []
noncomputable abbrev PI := (List Int) × Unit
noncomputable abbrev PO := Bool × Unit
noncomputable abbrev P2 := (List Int) × Int × Unit
noncomputable abbrev rs : List ResultVar := [.tmp 2]
noncomputable def F0 (J2 : P2 → Option PO) (x0 : List Int) : Option PO :=
  J2 (x0, 0, ())
noncomputable def F2 (J2 : P2 → Option PO) (Gspec_l1In : spec_l1In.PI → Option spec_l1In.PO) (t0 : List Int) (t3 : Int) : Option PO :=
  bif decide (t3 < (t0.length : Int)) then
    bif inb t3 t0.length then
      Option.bind (Gspec_l1In (t0.getD t3.toNat 0, (-9999), 9999, ())) fun y0 =>
      bif !y0.1 then
        some (false, ())
      else
        J2 (t0, wI (t3 + 1), ())
    else
      none
  else
    some (true, ())
noncomputable def hd {R : Type} (Gspec_l1In : spec_l1In.PI → Option spec_l1In.PO) : Hand R := (handAt 103 [14] true ⟨3, 1, 3, spec_l1In.pin, spec_l1In.pout, Gspec_l1In⟩ handNil)
noncomputable def pg (Gspec_l1In : spec_l1In.PI → Option spec_l1In.PO) (J2 : List Item → P2 → Option PO) : Prog PO := { nt := 16, np := 1, tb := tabOf tab, hd := hd Gspec_l1In, cuts := cutsOf [(2, cut p2 J2)], fin := endOf (tabOf tab) rs 1 pout }
noncomputable def q : FuncId → Bool := fun f => hasId [103] f
theorem seg0 (Gspec_l1In : spec_l1In.PI → Option spec_l1In.PO) (J2 : List Item → P2 → Option PO) (x0 : List Int) : arun (pg Gspec_l1In J2) 5000 [.code c0] (mk pin (x0, ())) = F0 (J2 T2) x0 := by kernel_rfl
theorem seg2 (Gspec_l1In : spec_l1In.PI → Option spec_l1In.PO) (J2 : List Item → P2 → Option PO) (t0 : List Int) (t3 : Int) : arun1 (pg Gspec_l1In J2) 5000 T2 (mk p2 (t0, t3, ())) = F2 (J2 T2) Gspec_l1In t0 t3 := by kernel_rfl
noncomputable def L2 : P2 → Option PO := lfp fun J2 x => F2 J2 spec_l1In.impl x.1 x.2.1
noncomputable def impl : PI → Option PO := fun x => F0 L2 x.1
theorem F2_le {J2 J2' : P2 → Option PO} (h2 : OLe J2 J2') {Gspec_l1In : spec_l1In.PI → Option spec_l1In.PO} (t0 : List Int) (t3 : Int) : OptLe (F2 J2 Gspec_l1In t0 t3) (F2 J2' Gspec_l1In t0 t3) := by unfold F2; exact .cond (.cond (.bind (.refl _) fun _ => .cond (.refl _) (.of h2 _)) (.refl _)) (.refl _)
theorem L2_mono : OMono fun J2 (x : P2) => F2 J2 spec_l1In.impl x.1 x.2.1 := fun J J' h2 x => F2_le h2 x.1 x.2.1
theorem L2_eq (t0 : List Int) (t3 : Int) : L2 (t0, t3, ()) = F2 (L2) spec_l1In.impl t0 t3 := congrFun (lfp_eq (L2_mono)) _
theorem impl_eq (x0 : List Int) : impl (x0, ()) = F0 L2 x0 := rfl
theorem con : Con Tryd.prog 74 1 rs.length 1 pin pout impl := by
  refine con_of_run' (nt := 16) (c := c0) tabGood Tryd.func74 (by kernel_rfl) (by kernel_rfl) (by kernel_rfl) (by kernel_rfl) (by kernel_rfl) (by kernel_rfl) (by kernel_rfl) ?_
  intro w0 O y hnp
  generalize hPost : (fun (a' : Act) (w' : World) => ∃ μ' S' st', Rel 16 w0 O μ' S' st' a' w' ∧ endOf (tabOf tab) rs 1 pout st' = some y) = Post
  have fin : ∀ (μ : Id → Option Value) (S : Nat → Prop) (st : St) (a : Act) (w : World), Rel 16 w0 O μ S st a w → endOf (tabOf tab) rs 1 pout st = some y → Post a w := fun μ S st a w h he => by rw [← hPost]; exact ⟨μ, S, st, h, he⟩
  have hp : ∀ (J2 : List Item → P2 → Option PO), Parts Tryd.prog 74 (pg spec_l1In.impl J2) [(2, cut p2 J2)] := fun J2 => ⟨tab_ok tabGood rfl, (handAt_ok spec_l1In.con handNil_ok), rfl⟩
  have g2 : Good Tryd.prog 16 w0 O Post y T2 p2 L2 := good_lfp fun J2 h2 => good_part (hp (atT T2 J2)) (runOK_of (hp (atT T2 J2)) hnp ⟨cutOK_at h2, trivial⟩ fin) (fun x => (seg2 spec_l1In.impl (atT T2 J2) x.1 x.2.1).trans (by simp only [atT_self] <;> rfl))
  exact good_first (hp (atT T2 L2)) (runOK_of (hp (atT T2 L2)) hnp ⟨cutOK_at g2, trivial⟩ fin) (fun x => (seg0 spec_l1In.impl (atT T2 L2) x.1).trans (by simp only [atT_self] <;> rfl))
end spec_l31Numbers

/-! ### loop.example/wholecheck/spec.l31Form -/
namespace spec_l31Form
noncomputable abbrev c0 : Code := (Tryd.f55.body).getD .skip
noncomputable abbrev pin : Tpl := ⟨[⟨0, true, [.d (.prod (.int .i64) (.prod (.sl (.int .i64)) (.prod (.int .i64) (.last (.prod (.sl (.sl (.int .i64))) (.last (.sl (.int .i64))))))))]⟩], []⟩
noncomputable abbrev pout : Tpl := ⟨[⟨0, false, [.d .bool]⟩], []⟩
noncomputable abbrev p3 : Tpl := ⟨[⟨1, false, [.ptr 3000000 0]⟩], [(3000000, .box [.d (.int .i64), .d (.sl (.int .i64)), .d (.int .i64), .d (.sl (.sl (.int .i64))), .d (.sl (.int .i64))])]⟩
noncomputable def T3 : List Item := (find 3 c0 []).getD []
noncomputable abbrev p6 : Tpl := ⟨[⟨1, false, [.ptr 3000000 0]⟩, ⟨3, false, [.d (.int .i64)]⟩], [(3000000, .box [.d (.int .i64), .d (.sl (.int .i64)), .d (.int .i64), .d (.sl (.sl (.int .i64))), .d (.sl (.int .i64))])]⟩
noncomputable def T6 : List Item := (find 6 c0 []).getD []
noncomputable abbrev PI := (Int × (List Int) × Int × (List (List Int)) × List Int) × Unit
noncomputable abbrev PO := Bool × Unit
noncomputable abbrev P3 := Int × (List Int) × Int × (List (List Int)) × (List Int) × Unit
noncomputable abbrev P6 := Int × Int × (List Int) × Int × (List (List Int)) × (List Int) × Unit
noncomputable abbrev rs : List ResultVar := [.tmp 2]
noncomputable def F0 (J3 : P3 → Option PO) (Gspec_l1In : spec_l1In.PI → Option spec_l1In.PO) (Gspec_l31Bare : spec_l31Bare.PI → Option spec_l31Bare.PO) (Gspec_l31Numbers : spec_l31Numbers.PI → Option spec_l31Numbers.PO) (x0 : Int × (List Int) × Int × (List (List Int)) × List Int) : Option PO :=
  Option.bind (Gspec_l1In (x0.1, 1, 3, ())) fun y0 =>
  bif !y0.1 then
    some (false, ())
  else
    Option.bind (Gspec_l31Bare (x0, ())) fun y1 =>
    bif !y1.1 then
      some (false, ())
    else
      Option.bind (Gspec_l31Numbers (x0.2.1, ())) fun y2 =>
      bif !y2.1 then
        some (false, ())
      else
        Option.bind (Gspec_l31Numbers (([x0.2.2.1] : List Int), ())) fun y3 =>
        bif !y3.1 then
          some (false, ())
        else
          Option.bind (Gspec_l31Numbers (x0.2.2.2.2, ())) fun y4 =>
          bif !y4.1 then
            some (false, ())
          else
            J3 (x0.1, x0.2.1, x0.2.2.1, x0.2.2.2.1, x0.2.2.2.2, ())
noncomputable def F3 (J6 : P6 → Option PO) (b0_0 : Int) (b0_1 : List Int) (b0_2 : Int) (b0_3 : List (List Int)) (b0_4 : List Int) : Option PO :=
  bif b0_0 != 3 then
    some (true, ())
  else
    J6 (0, b0_0, b0_1, b0_2, b0_3, b0_4, ())
noncomputable def F6 (J6 : P6 → Option PO) (Gspec_l31Numbers : spec_l31Numbers.PI → Option spec_l31Numbers.PO) (t3 : Int) (b0_0 : Int) (b0_1 : List Int) (b0_2 : Int) (b0_3 : List (List Int)) (b0_4 : List Int) : Option PO :=
  bif decide (t3 < (b0_3.length : Int)) then
    bif inb t3 b0_3.length then
      bif ((b0_3.getD t3.toNat []).length : Int) == 0 then
        some (false, ())
      else
        bif inb t3 b0_3.length then
          Option.bind (Gspec_l31Numbers (b0_3.getD t3.toNat [], ())) fun y5 =>
          bif !y5.1 then
            some (false, ())
          else
            J6 (wI (t3 + 1), b0_0, b0_1, b0_2, b0_3, b0_4, ())
        else
          none
    else
      none
  else
    some ((b0_3.length : Int) == wI ((b0_4.length : Int) + 1), ())
noncomputable def hd {R : Type} (Gspec_l1In : spec_l1In.PI → Option spec_l1In.PO) (Gspec_l31Bare : spec_l31Bare.PI → Option spec_l31Bare.PO) (Gspec_l31Numbers : spec_l31Numbers.PI → Option spec_l31Numbers.PO) : Hand R := (handAt 107 [10] true ⟨1, 1, 1, spec_l31Bare.pin, spec_l31Bare.pout, Gspec_l31Bare⟩ (handAt 103 [6] true ⟨3, 1, 3, spec_l1In.pin, spec_l1In.pout, Gspec_l1In⟩ (handAt 74 [16, 23, 30, 59] true ⟨1, 1, 1, spec_l31Numbers.pin, spec_l31Numbers.pout, Gspec_l31Numbers⟩ handNil)))
noncomputable def pg (Gspec_l1In : spec_l1In.PI → Option spec_l1In.PO) (Gspec_l31Bare : spec_l31Bare.PI → Option spec_l31Bare.PO) (Gspec_l31Numbers : spec_l31Numbers.PI → Option spec_l31Numbers.PO) (J3 : List Item → P3 → Option PO) (J6 : List Item → P6 → Option PO) : Prog PO := { nt := 72, np := 1, tb := tabOf tab, hd := hd Gspec_l1In Gspec_l31Bare Gspec_l31Numbers, cuts := cutsOf [(3, cut p3 J3), (6, cut p6 J6)], fin := endOf (tabOf tab) rs 1 pout }
noncomputable def q : FuncId → Bool := fun f => hasId [74, 103, 107] f
theorem seg0 (Gspec_l1In : spec_l1In.PI → Option spec_l1In.PO) (Gspec_l31Bare : spec_l31Bare.PI → Option spec_l31Bare.PO) (Gspec_l31Numbers : spec_l31Numbers.PI → Option spec_l31Numbers.PO) (J3 : List Item → P3 → Option PO) (J6 : List Item → P6 → Option PO) (x0 : Int × (List Int) × Int × (List (List Int)) × List Int) : arun (pg Gspec_l1In Gspec_l31Bare Gspec_l31Numbers J3 J6) 5000 [.code c0] (mk pin (x0, ())) = F0 (J3 T3) Gspec_l1In Gspec_l31Bare Gspec_l31Numbers x0 := by kernel_rfl
theorem seg3 (Gspec_l1In : spec_l1In.PI → Option spec_l1In.PO) (Gspec_l31Bare : spec_l31Bare.PI → Option spec_l31Bare.PO) (Gspec_l31Numbers : spec_l31Numbers.PI → Option spec_l31Numbers.PO) (J3 : List Item → P3 → Option PO) (J6 : List Item → P6 → Option PO) (b0_0 : Int) (b0_1 : List Int) (b0_2 : Int) (b0_3 : List (List Int)) (b0_4 : List Int) : arun1 (pg Gspec_l1In Gspec_l31Bare Gspec_l31Numbers J3 J6) 5000 T3 (mk p3 (b0_0, b0_1, b0_2, b0_3, b0_4, ())) = F3 (J6 T6) b0_0 b0_1 b0_2 b0_3 b0_4 := by kernel_rfl
theorem seg6 (Gspec_l1In : spec_l1In.PI → Option spec_l1In.PO) (Gspec_l31Bare : spec_l31Bare.PI → Option spec_l31Bare.PO) (Gspec_l31Numbers : spec_l31Numbers.PI → Option spec_l31Numbers.PO) (J3 : List Item → P3 → Option PO) (J6 : List Item → P6 → Option PO) (t3 : Int) (b0_0 : Int) (b0_1 : List Int) (b0_2 : Int) (b0_3 : List (List Int)) (b0_4 : List Int) : arun1 (pg Gspec_l1In Gspec_l31Bare Gspec_l31Numbers J3 J6) 5000 T6 (mk p6 (t3, b0_0, b0_1, b0_2, b0_3, b0_4, ())) = F6 (J6 T6) Gspec_l31Numbers t3 b0_0 b0_1 b0_2 b0_3 b0_4 := by kernel_rfl
noncomputable def L6 : P6 → Option PO := lfp fun J6 x => F6 J6 spec_l31Numbers.impl x.1 x.2.1 x.2.2.1 x.2.2.2.1 x.2.2.2.2.1 x.2.2.2.2.2.1
noncomputable def L3 : P3 → Option PO := fun x => F3 L6 x.1 x.2.1 x.2.2.1 x.2.2.2.1 x.2.2.2.2.1
noncomputable def impl : PI → Option PO := fun x => F0 L3 spec_l1In.impl spec_l31Bare.impl spec_l31Numbers.impl x.1
theorem F6_le {J6 J6' : P6 → Option PO} (h6 : OLe J6 J6') {Gspec_l31Numbers : spec_l31Numbers.PI → Option spec_l31Numbers.PO} (t3 : Int) (b0_0 : Int) (b0_1 : List Int) (b0_2 : Int) (b0_3 : List (List Int)) (b0_4 : List Int) : OptLe (F6 J6 Gspec_l31Numbers t3 b0_0 b0_1 b0_2 b0_3 b0_4) (F6 J6' Gspec_l31Numbers t3 b0_0 b0_1 b0_2 b0_3 b0_4) := by unfold F6; exact .cond (.cond (.cond (.refl _) (.cond (.bind (.refl _) fun _ => .cond (.refl _) (.of h6 _)) (.refl _))) (.refl _)) (.refl _)
theorem L6_mono : OMono fun J6 (x : P6) => F6 J6 spec_l31Numbers.impl x.1 x.2.1 x.2.2.1 x.2.2.2.1 x.2.2.2.2.1 x.2.2.2.2.2.1 := fun J J' h6 x => F6_le h6 x.1 x.2.1 x.2.2.1 x.2.2.2.1 x.2.2.2.2.1 x.2.2.2.2.2.1
theorem L6_eq (t3 : Int) (b0_0 : Int) (b0_1 : List Int) (b0_2 : Int) (b0_3 : List (List Int)) (b0_4 : List Int) : L6 (t3, b0_0, b0_1, b0_2, b0_3, b0_4, ()) = F6 (L6) spec_l31Numbers.impl t3 b0_0 b0_1 b0_2 b0_3 b0_4 := congrFun (lfp_eq (L6_mono)) _
theorem L3_eq (b0_0 : Int) (b0_1 : List Int) (b0_2 : Int) (b0_3 : List (List Int)) (b0_4 : List Int) : L3 (b0_0, b0_1, b0_2, b0_3, b0_4, ()) = F3 (L6) b0_0 b0_1 b0_2 b0_3 b0_4 := rfl
theorem impl_eq (x0 : Int × (List Int) × Int × (List (List Int)) × List Int) : impl (x0, ()) = F0 L3 spec_l1In.impl spec_l31Bare.impl spec_l31Numbers.impl x0 := rfl
theorem con : Con Tryd.prog 55 1 rs.length 1 pin pout impl := by
  refine con_of_run' (nt := 72) (c := c0) tabGood Tryd.func55 (by kernel_rfl) (by kernel_rfl) (by kernel_rfl) (by kernel_rfl) (by kernel_rfl) (by kernel_rfl) (by kernel_rfl) ?_
  intro w0 O y hnp
  generalize hPost : (fun (a' : Act) (w' : World) => ∃ μ' S' st', Rel 72 w0 O μ' S' st' a' w' ∧ endOf (tabOf tab) rs 1 pout st' = some y) = Post
  have fin : ∀ (μ : Id → Option Value) (S : Nat → Prop) (st : St) (a : Act) (w : World), Rel 72 w0 O μ S st a w → endOf (tabOf tab) rs 1 pout st = some y → Post a w := fun μ S st a w h he => by rw [← hPost]; exact ⟨μ, S, st, h, he⟩
  have hp : ∀ (J3 : List Item → P3 → Option PO), ∀ (J6 : List Item → P6 → Option PO), Parts Tryd.prog 55 (pg spec_l1In.impl spec_l31Bare.impl spec_l31Numbers.impl J3 J6) [(3, cut p3 J3), (6, cut p6 J6)] := fun J3 J6 => ⟨tab_ok tabGood rfl, (handAt_ok spec_l31Bare.con (handAt_ok spec_l1In.con (handAt_ok spec_l31Numbers.con handNil_ok))), rfl⟩
  have g6 : Good Tryd.prog 72 w0 O Post y T6 p6 L6 := good_lfp fun J6 h6 => good_part (hp (atT T3 (fun _ => none)) (atT T6 J6)) (runOK_of (hp (atT T3 (fun _ => none)) (atT T6 J6)) hnp ⟨cutOK_at (p := p3) (T := T3) (J := fun _ => none) good_none, cutOK_at h6, trivial⟩ fin) (fun x => (seg6 spec_l1In.impl spec_l31Bare.impl spec_l31Numbers.impl (atT T3 (fun _ => none)) (atT T6 J6) x.1 x.2.1 x.2.2.1 x.2.2.2.1 x.2.2.2.2.1 x.2.2.2.2.2.1).trans (by simp only [atT_self] <;> rfl))
  have g3 : Good Tryd.prog 72 w0 O Post y T3 p3 L3 := good_part (hp (atT T3 (fun _ => none)) (atT T6 L6)) (runOK_of (hp (atT T3 (fun _ => none)) (atT T6 L6)) hnp ⟨cutOK_at (p := p3) (T := T3) (J := fun _ => none) good_none, cutOK_at g6, trivial⟩ fin) (fun x => (seg3 spec_l1In.impl spec_l31Bare.impl spec_l31Numbers.impl (atT T3 (fun _ => none)) (atT T6 L6) x.1 x.2.1 x.2.2.1 x.2.2.2.1 x.2.2.2.2.1).trans (by simp only [atT_self] <;> rfl))
  exact good_first (hp (atT T3 L3) (atT T6 (fun _ => none))) (runOK_of (hp (atT T3 L3) (atT T6 (fun _ => none))) hnp ⟨cutOK_at g3, cutOK_at (p := p6) (T := T6) (J := fun _ => none) good_none, trivial⟩ fin) (fun x => (seg0 spec_l1In.impl spec_l31Bare.impl spec_l31Numbers.impl (atT T3 L3) (atT T6 (fun _ => none)) x.1).trans (by simp only [atT_self] <;> rfl))
end spec_l31Form

/-! ### loop.example/wholecheck/spec.l40Dec -/
namespace spec_l40Dec
noncomputable abbrev c0 : Code := (Tryd.f57.body).getD .skip
noncomputable abbrev pin : Tpl := ⟨[⟨0, false, [.d (.int .i64)]⟩], []⟩
noncomputable abbrev pout : Tpl := ⟨[⟨0, false, [.d .str]⟩], []⟩
noncomputable abbrev p6 : Tpl := ⟨[⟨0, false, [.d (.int .i64)]⟩, ⟨3, false, [.d .str]⟩], []⟩
noncomputable def T6 : List Item := (find 6 c0 []).getD []
noncomputable abbrev PI := Int × Unit
noncomputable abbrev PO := (List UInt8) × Unit
noncomputable abbrev P6 := Int × (List UInt8) × Unit
noncomputable abbrev rs : List ResultVar := [.tmp 2]
noncomputable def F0 (J6 : P6 → Option PO) (Gspec_l40Dec : PI → Option PO) (x0 : Int) : Option PO :=
  bif decide (x0 < (-9223372036854775807)) then
    some (([45, 57, 50, 50, 51, 51, 55, 50, 48, 51, 54, 56, 53, 52, 55, 55, 53, 56, 48, 56] : List UInt8), ())
  else
    bif decide (x0 < 0) then
      Option.bind (Gspec_l40Dec (wI (0 - x0), ())) fun y0 =>
      bif decide (([45] : List UInt8).length + y0.1.length ≤ 140737488355328) then
        some (([45] : List UInt8) ++ y0.1, ())
      else
        none
    else
      J6 (x0, [], ())
noncomputable def F6 (J6 : P6 → Option PO) (t0 : Int) (t3 : List UInt8) : Option PO :=
  bif decide (t0 > 9) then
    bif decide ((strOf ([IntKind.u8.wrap (wI (48 + (Int.tmod t0 10)))] : List Int)).length + t3.length ≤ 140737488355328) then
      J6 (wI (Int.tdiv t0 10), (strOf ([IntKind.u8.wrap (wI (48 + (Int.tmod t0 10)))] : List Int)) ++ t3, ())
    else
      none
  else
    bif decide ((strOf ([IntKind.u8.wrap (wI (48 + t0))] : List Int)).length + t3.length ≤ 140737488355328) then
      some ((strOf ([IntKind.u8.wrap (wI (48 + t0))] : List Int)) ++ t3, ())
    else
      none
noncomputable def hd {R : Type} (Gspec_l40Dec : PI → Option PO) : Hand R := (handAt 57 [10] true ⟨1, 1, 0, pin, pout, Gspec_l40Dec⟩ handNil)
noncomputable def pg (Gspec_l40Dec : PI → Option PO) (J6 : List Item → P6 → Option PO) : Prog PO := { nt := 31, np := 0, tb := tabOf tab, hd := hd Gspec_l40Dec, cuts := cutsOf [(6, cut p6 J6)], fin := endOf (tabOf tab) rs 0 pout }
noncomputable def q : FuncId → Bool := fun f => hasId [57] f
theorem seg0 (Gspec_l40Dec : PI → Option PO) (J6 : List Item → P6 → Option PO) (x0 : Int) : arun (pg Gspec_l40Dec J6) 5000 [.code c0] (mk pin (x0, ())) = F0 (J6 T6) Gspec_l40Dec x0 := by kernel_rfl
theorem seg6 (Gspec_l40Dec : PI → Option PO) (J6 : List Item → P6 → Option PO) (t0 : Int) (t3 : List UInt8) : arun1 (pg Gspec_l40Dec J6) 5000 T6 (mk p6 (t0, t3, ())) = F6 (J6 T6) t0 t3 := by kernel_rfl
noncomputable def L6 (Gself : PI → Option PO) : P6 → Option PO := lfp fun J6 x => F6 J6 x.1 x.2.1
noncomputable def step (Gself : PI → Option PO) : PI → Option PO := fun x => F0 (L6 Gself) Gself x.1
noncomputable def impl : PI → Option PO := lfp step
theorem F6_le {J6 J6' : P6 → Option PO} (h6 : OLe J6 J6') (t0 : Int) (t3 : List UInt8) : OptLe (F6 J6 t0 t3) (F6 J6' t0 t3) := by unfold F6; exact .cond (.cond (.of h6 _) (.refl _)) (.refl _)
theorem F0_le {J6 J6' : P6 → Option PO} (h6 : OLe J6 J6') {Gself Gself' : PI → Option PO} (hG : OLe Gself Gself') (x0 : Int) : OptLe (F0 J6 Gself x0) (F0 J6' Gself' x0) := by unfold F0; exact .cond (.refl _) (.cond (.bind (.of hG _) fun _ => .refl _) (.of h6 _))
theorem L6_mono (Gself : PI → Option PO) : OMono fun J6 (x : P6) => F6 J6 x.1 x.2.1 := fun J J' h6 x => F6_le h6 x.1 x.2.1
theorem L6_eq (Gself : PI → Option PO) (t0 : Int) (t3 : List UInt8) : L6 Gself (t0, t3, ()) = F6 (L6 Gself) t0 t3 := congrFun (lfp_eq (L6_mono Gself)) _
theorem L6_le {Gself Gself' : PI → Option PO} (hG : OLe Gself Gself') : OLe (L6 Gself) (L6 Gself') := lfp_le (L6_mono Gself') fun J x => F6_le (fun _ _ h => h) x.1 x.2.1
theorem step_mono : OMono step := fun G G' hG x => F0_le (L6_le hG) hG x.1
theorem impl_eq (x0 : Int) : impl (x0, ()) = F0 (L6 impl) impl x0 := congrFun (lfp_eq step_mono) _
theorem con_step (Gself : PI → Option PO) (hself : Con Tryd.prog 57 1 rs.length 0 pin pout Gself) : Con Tryd.prog 57 1 rs.length 0 pin pout (step Gself) := by
  refine con_of_run' (nt := 31) (c := c0) tabGood Tryd.func57 (by kernel_rfl) (by kernel_rfl) (by kernel_rfl) (by kernel_rfl) (by kernel_rfl) (by kernel_rfl) (by kernel_rfl) ?_
  intro w0 O y hnp
  generalize hPost : (fun (a' : Act) (w' : World) => ∃ μ' S' st', Rel 31 w0 O μ' S' st' a' w' ∧ endOf (tabOf tab) rs 0 pout st' = some y) = Post
  have fin : ∀ (μ : Id → Option Value) (S : Nat → Prop) (st : St) (a : Act) (w : World), Rel 31 w0 O μ S st a w → endOf (tabOf tab) rs 0 pout st = some y → Post a w := fun μ S st a w h he => by rw [← hPost]; exact ⟨μ, S, st, h, he⟩
  have hp : ∀ (J6 : List Item → P6 → Option PO), Parts Tryd.prog 57 (pg Gself J6) [(6, cut p6 J6)] := fun J6 => ⟨tab_ok tabGood rfl, (handAt_ok hself handNil_ok), rfl⟩
  have g6 : Good Tryd.prog 31 w0 O Post y T6 p6 (L6 Gself) := good_lfp fun J6 h6 => good_part (hp (atT T6 J6)) (runOK_of (hp (atT T6 J6)) hnp ⟨cutOK_at h6, trivial⟩ fin) (fun x => (seg6 Gself (atT T6 J6) x.1 x.2.1).trans (by simp only [atT_self] <;> rfl))
  exact good_first (hp (atT T6 (L6 Gself))) (runOK_of (hp (atT T6 (L6 Gself))) hnp ⟨cutOK_at g6, trivial⟩ fin) (fun x => (seg0 Gself (atT T6 (L6 Gself)) x.1).trans (by simp only [atT_self] <;> rfl))
theorem con : Con Tryd.prog 57 1 rs.length 0 pin pout impl := con_lfp (c := c0) Tryd.func57 (by kernel_rfl) (by kernel_rfl) (by kernel_rfl) con_step
end spec_l40Dec

/-! ### loop.example/wholecheck/spec.l31Row -/
namespace spec_l31Row
noncomputable abbrev c0 : Code := (Tryd.f56.body).getD .skip
noncomputable abbrev pin : Tpl := ⟨[⟨0, false, [.d (.sl (.int .i64))]⟩], []⟩
noncomputable abbrev pout : Tpl := ⟨[⟨0, false, [.d .str]⟩], []⟩
noncomputable abbrev p3 : Tpl := ⟨[⟨0, false, [.d (.sl (.int .i64))]⟩, ⟨3, false, [.d .str]⟩, ⟨4, false, [.d (.int .i64)]⟩], []⟩
noncomputable def T3 : List Item := (find 3 c0 []).getD []
noncomputable abbrev PI := (List Int) × Unit
noncomputable abbrev PO := (List UInt8) × Unit
noncomputable abbrev P3 := (List Int) × (List UInt8) × Int × Unit
noncomputable abbrev rs : List ResultVar := [.tmp 2]
noncomputable def F0 (J3 : P3 → Option PO) (x0 : List Int) : Option PO :=
  J3 (x0, [], 0, ())
noncomputable def F3 (J3 : P3 → Option PO) (Gspec_l40Dec : spec_l40Dec.PI → Option spec_l40Dec.PO) (t0 : List Int) (t3 : List UInt8) (t4 : Int) : Option PO :=
  bif decide (t4 < (t0.length : Int)) then
    bif decide (t3.length + ([32] : List UInt8).length ≤ 140737488355328) then
      bif inb t4 t0.length then
        Option.bind (Gspec_l40Dec (t0.getD t4.toNat 0, ())) fun y0 =>
        bif decide ((t3 ++ ([32] : List UInt8)).length + y0.1.length ≤ 140737488355328) then
          J3 (t0, (t3 ++ ([32] : List UInt8)) ++ y0.1, wI (t4 + 1), ())
        else
          none
      else
        none
    else
      none
  else
    some (t3, ())
noncomputable def hd {R : Type} (Gspec_l40Dec : spec_l40Dec.PI → Option spec_l40Dec.PO) : Hand R := (handAt 57 [17] true ⟨1, 1, 0, spec_l40Dec.pin, spec_l40Dec.pout, Gspec_l40Dec⟩ handNil)
noncomputable def pg (Gspec_l40Dec : spec_l40Dec.PI → Option spec_l40Dec.PO) (J3 : List Item → P3 → Option PO) : Prog PO := { nt := 20, np := 1, tb := tabOf tab, hd := hd Gspec_l40Dec, cuts := cutsOf [(3, cut p3 J3)], fin := endOf (tabOf tab) rs 1 pout }
noncomputable def q : FuncId → Bool := fun f => hasId [57] f
theorem seg0 (Gspec_l40Dec : spec_l40Dec.PI → Option spec_l40Dec.PO) (J3 : List Item → P3 → Option PO) (x0 : List Int) : arun (pg Gspec_l40Dec J3) 5000 [.code c0] (mk pin (x0, ())) = F0 (J3 T3) x0 := by kernel_rfl
theorem seg3 (Gspec_l40Dec : spec_l40Dec.PI → Option spec_l40Dec.PO) (J3 : List Item → P3 → Option PO) (t0 : List Int) (t3 : List UInt8) (t4 : Int) : arun1 (pg Gspec_l40Dec J3) 5000 T3 (mk p3 (t0, t3, t4, ())) = F3 (J3 T3) Gspec_l40Dec t0 t3 t4 := by kernel_rfl
noncomputable def L3 : P3 → Option PO := lfp fun J3 x => F3 J3 spec_l40Dec.impl x.1 x.2.1 x.2.2.1
noncomputable def impl : PI → Option PO := fun x => F0 L3 x.1
theorem F3_le {J3 J3' : P3 → Option PO} (h3 : OLe J3 J3') {Gspec_l40Dec : spec_l40Dec.PI → Option spec_l40Dec.PO} (t0 : List Int) (t3 : List UInt8) (t4 : Int) : OptLe (F3 J3 Gspec_l40Dec t0 t3 t4) (F3 J3' Gspec_l40Dec t0 t3 t4) := by unfold F3; exact .cond (.cond (.cond (.bind (.refl _) fun _ => .cond (.of h3 _) (.refl _)) (.refl _)) (.refl _)) (.refl _)
theorem L3_mono : OMono fun J3 (x : P3) => F3 J3 spec_l40Dec.impl x.1 x.2.1 x.2.2.1 := fun J J' h3 x => F3_le h3 x.1 x.2.1 x.2.2.1
theorem L3_eq (t0 : List Int) (t3 : List UInt8) (t4 : Int) : L3 (t0, t3, t4, ()) = F3 (L3) spec_l40Dec.impl t0 t3 t4 := congrFun (lfp_eq (L3_mono)) _
theorem impl_eq (x0 : List Int) : impl (x0, ()) = F0 L3 x0 := rfl
theorem con : Con Tryd.prog 56 1 rs.length 1 pin pout impl := by
  refine con_of_run' (nt := 20) (c := c0) tabGood Tryd.func56 (by kernel_rfl) (by kernel_rfl) (by kernel_rfl) (by kernel_rfl) (by kernel_rfl) (by kernel_rfl) (by kernel_rfl) ?_
  intro w0 O y hnp
  generalize hPost : (fun (a' : Act) (w' : World) => ∃ μ' S' st', Rel 20 w0 O μ' S' st' a' w' ∧ endOf (tabOf tab) rs 1 pout st' = some y) = Post
  have fin : ∀ (μ : Id → Option Value) (S : Nat → Prop) (st : St) (a : Act) (w : World), Rel 20 w0 O μ S st a w → endOf (tabOf tab) rs 1 pout st = some y → Post a w := fun μ S st a w h he => by rw [← hPost]; exact ⟨μ, S, st, h, he⟩
  have hp : ∀ (J3 : List Item → P3 → Option PO), Parts Tryd.prog 56 (pg spec_l40Dec.impl J3) [(3, cut p3 J3)] := fun J3 => ⟨tab_ok tabGood rfl, (handAt_ok spec_l40Dec.con handNil_ok), rfl⟩
  have g3 : Good Tryd.prog 20 w0 O Post y T3 p3 L3 := good_lfp fun J3 h3 => good_part (hp (atT T3 J3)) (runOK_of (hp (atT T3 J3)) hnp ⟨cutOK_at h3, trivial⟩ fin) (fun x => (seg3 spec_l40Dec.impl (atT T3 J3) x.1 x.2.1 x.2.2.1).trans (by simp only [atT_self] <;> rfl))
  exact good_first (hp (atT T3 L3)) (runOK_of (hp (atT T3 L3)) hnp ⟨cutOK_at g3, trivial⟩ fin) (fun x => (seg0 spec_l40Dec.impl (atT T3 L3) x.1).trans (by simp only [atT_self] <;> rfl))
end spec_l31Row

/-! ### loop.example/wholecheck/spec.PaperText -/
namespace spec_PaperText
noncomputable abbrev c0 : Code := (Tryd.f17.body).getD .skip
noncomputable abbrev pin : Tpl := ⟨[⟨0, true, [.d (.prod (.int .i64) (.prod (.sl (.int .i64)) (.prod (.int .i64) (.last (.prod (.sl (.sl (.int .i64))) (.last (.sl (.int .i64))))))))]⟩], []⟩
noncomputable abbrev pout : Tpl := ⟨[⟨0, false, [.d .str]⟩], []⟩
noncomputable abbrev p10 : Tpl := ⟨[⟨1, false, [.ptr 3000000 0]⟩, ⟨3, false, [.d .str]⟩, ⟨4, false, [.d (.int .i64)]⟩], [(3000000, .box [.d (.int .i64), .d (.sl (.int .i64)), .d (.int .i64), .d (.sl (.sl (.int .i64))), .d (.sl (.int .i64))])]⟩
noncomputable def T10 : List Item := (find 10 c0 []).getD []
noncomputable abbrev p12 : Tpl := ⟨[⟨1, false, [.ptr 3000000 0]⟩, ⟨3, false, [.d .str]⟩, ⟨4, false, [.d (.int .i64)]⟩], [(3000000, .box [.d (.int .i64), .d (.sl (.int .i64)), .d (.int .i64), .d (.sl (.sl (.int .i64))), .d (.sl (.int .i64))])]⟩
noncomputable def T12 : List Item := (find 12 c0 []).getD []
noncomputable abbrev PI := (Int × (List Int) × Int × (List (List Int)) × List Int) × Unit
noncomputable abbrev PO := (List UInt8) × Unit
noncomputable abbrev P10 := (List UInt8) × Int × Int × (List Int) × Int × (List (List Int)) × (List Int) × Unit
noncomputable abbrev P12 := (List UInt8) × Int × Int × (List Int) × Int × (List (List Int)) × (List Int) × Unit
noncomputable abbrev rs : List ResultVar := [.tmp 2]
noncomputable def F0 (J10 : P10 → Option PO) (Gspec_l31Form : spec_l31Form.PI → Option spec_l31Form.PO) (Gspec_l31Row : spec_l31Row.PI → Option spec_l31Row.PO) (Gspec_l40Dec : spec_l40Dec.PI → Option spec_l40Dec.PO) (x0 : Int × (List Int) × Int × (List (List Int)) × List Int) : Option PO :=
  Option.bind (Gspec_l31Form (x0, ())) fun y0 =>
  bif !y0.1 then
    some ([], ())
  else
    bif x0.1 == 1 then
      Option.bind (Gspec_l31Row (x0.2.1, ())) fun y1 =>
      bif decide (([115, 101, 116] : List UInt8).length + y1.1.length ≤ 140737488355328) then
        bif decide (((([115, 101, 116] : List UInt8) ++ y1.1).length : Int) > 4000) then
          some ([], ())
        else
          some (([115, 101, 116] : List UInt8) ++ y1.1, ())
      else
        none
    else
      bif x0.1 == 2 then
        Option.bind (Gspec_l40Dec (x0.2.2.1, ())) fun y2 =>
        bif decide (([115, 116, 101, 112, 115, 32] : List UInt8).length + y2.1.length ≤ 140737488355328) then
          bif decide (((([115, 116, 101, 112, 115, 32] : List UInt8) ++ y2.1).length : Int) > 4000) then
            some ([], ())
          else
            some (([115, 116, 101, 112, 115, 32] : List UInt8) ++ y2.1, ())
        else
          none
      else
        bif inb 0 x0.2.2.2.1.length then
          Option.bind (Gspec_l31Row (x0.2.2.2.1.getD 0 [], ())) fun y3 =>
          bif decide (([114, 117, 110] : List UInt8).length + y3.1.length ≤ 140737488355328) then
            J10 (([114, 117, 110] : List UInt8) ++ y3.1, 0, x0.1, x0.2.1, x0.2.2.1, x0.2.2.2.1, x0.2.2.2.2, ())
          else
            none
        else
          none
noncomputable def F10 (J12 : P12 → Option PO) (t3 : List UInt8) (t4 : Int) (b0_0 : Int) (b0_1 : List Int) (b0_2 : Int) (b0_3 : List (List Int)) (b0_4 : List Int) : Option PO :=
  bif decide (t4 < (b0_4.length : Int)) then
    J12 (t3, t4, b0_0, b0_1, b0_2, b0_3, b0_4, ())
  else
    bif decide ((t3.length : Int) > 4000) then
      some ([], ())
    else
      some (t3, ())
noncomputable def F12 (J10 : P10 → Option PO) (Gspec_l31Row : spec_l31Row.PI → Option spec_l31Row.PO) (Gspec_l40Dec : spec_l40Dec.PI → Option spec_l40Dec.PO) (t3 : List UInt8) (t4 : Int) (b0_0 : Int) (b0_1 : List Int) (b0_2 : Int) (b0_3 : List (List Int)) (b0_4 : List Int) : Option PO :=
  bif decide (t3.length + ([32, 62, 32] : List UInt8).length ≤ 140737488355328) then
    bif inb t4 b0_4.length then
      bif inb (wI (t4 + 1)) b0_3.length then
        Option.bind (Gspec_l40Dec (b0_4.getD t4.toNat 0, ())) fun y4 =>
        bif decide ((t3 ++ ([32, 62, 32] : List UInt8)).length + y4.1.length ≤ 140737488355328) then
          bif decide (((t3 ++ ([32, 62, 32] : List UInt8)) ++ y4.1).length + ([32, 58] : List UInt8).length ≤ 140737488355328) then
            Option.bind (Gspec_l31Row (b0_3.getD (wI (t4 + 1)).toNat [], ())) fun y5 =>
            bif decide ((((t3 ++ ([32, 62, 32] : List UInt8)) ++ y4.1) ++ ([32, 58] : List UInt8)).length + y5.1.length ≤ 140737488355328) then
              J10 ((((t3 ++ ([32, 62, 32] : List UInt8)) ++ y4.1) ++ ([32, 58] : List UInt8)) ++ y5.1, wI (t4 + 1), b0_0, b0_1, b0_2, b0_3, b0_4, ())
            else
              none
          else
            none
        else
          none
      else
        none
    else
      none
  else
    none
noncomputable def hd {R : Type} (Gspec_l31Form : spec_l31Form.PI → Option spec_l31Form.PO) (Gspec_l31Row : spec_l31Row.PI → Option spec_l31Row.PO) (Gspec_l40Dec : spec_l40Dec.PI → Option spec_l40Dec.PO) : Hand R := (handAt 57 [20, 45] true ⟨1, 1, 0, spec_l40Dec.pin, spec_l40Dec.pout, Gspec_l40Dec⟩ (handAt 56 [13, 27, 55] true ⟨1, 1, 1, spec_l31Row.pin, spec_l31Row.pout, Gspec_l31Row⟩ (handAt 55 [6] true ⟨1, 1, 1, spec_l31Form.pin, spec_l31Form.pout, Gspec_l31Form⟩ handNil)))
noncomputable def pg (Gspec_l31Form : spec_l31Form.PI → Option spec_l31Form.PO) (Gspec_l31Row : spec_l31Row.PI → Option spec_l31Row.PO) (Gspec_l40Dec : spec_l40Dec.PI → Option spec_l40Dec.PO) (J10 : List Item → P10 → Option PO) (J12 : List Item → P12 → Option PO) : Prog PO := { nt := 61, np := 1, tb := tabOf tab, hd := hd Gspec_l31Form Gspec_l31Row Gspec_l40Dec, cuts := cutsOf [(10, cut p10 J10), (12, cut p12 J12)], fin := endOf (tabOf tab) rs 1 pout }
noncomputable def q : FuncId → Bool := fun f => hasId [55, 56, 57] f
theorem seg0 (Gspec_l31Form : spec_l31Form.PI → Option spec_l31Form.PO) (Gspec_l31Row : spec_l31Row.PI → Option spec_l31Row.PO) (Gspec_l40Dec : spec_l40Dec.PI → Option spec_l40Dec.PO) (J10 : List Item → P10 → Option PO) (J12 : List Item → P12 → Option PO) (x0 : Int × (List Int) × Int × (List (List Int)) × List Int) : arun (pg Gspec_l31Form Gspec_l31Row Gspec_l40Dec J10 J12) 5000 [.code c0] (mk pin (x0, ())) = F0 (J10 T10) Gspec_l31Form Gspec_l31Row Gspec_l40Dec x0 := by kernel_rfl
theorem seg10 (Gspec_l31Form : spec_l31Form.PI → Option spec_l31Form.PO) (Gspec_l31Row : spec_l31Row.PI → Option spec_l31Row.PO) (Gspec_l40Dec : spec_l40Dec.PI → Option spec_l40Dec.PO) (J10 : List Item → P10 → Option PO) (J12 : List Item → P12 → Option PO) (t3 : List UInt8) (t4 : Int) (b0_0 : Int) (b0_1 : List Int) (b0_2 : Int) (b0_3 : List (List Int)) (b0_4 : List Int) : arun1 (pg Gspec_l31Form Gspec_l31Row Gspec_l40Dec J10 J12) 5000 T10 (mk p10 (t3, t4, b0_0, b0_1, b0_2, b0_3, b0_4, ())) = F10 (J12 T12) t3 t4 b0_0 b0_1 b0_2 b0_3 b0_4 := by kernel_rfl
theorem seg12 (Gspec_l31Form : spec_l31Form.PI → Option spec_l31Form.PO) (Gspec_l31Row : spec_l31Row.PI → Option spec_l31Row.PO) (Gspec_l40Dec : spec_l40Dec.PI → Option spec_l40Dec.PO) (J10 : List Item → P10 → Option PO) (J12 : List Item → P12 → Option PO) (t3 : List UInt8) (t4 : Int) (b0_0 : Int) (b0_1 : List Int) (b0_2 : Int) (b0_3 : List (List Int)) (b0_4 : List Int) : arunQ (pg Gspec_l31Form Gspec_l31Row Gspec_l40Dec J10 J12) q [] [] 5000 T12 (mk p12 (t3, t4, b0_0, b0_1, b0_2, b0_3, b0_4, ())) = List.replicate (arunQ (pg Gspec_l31Form Gspec_l31Row Gspec_l40Dec J10 J12) q [] [] 5000 T12 (mk p12 (t3, t4, b0_0, b0_1, b0_2, b0_3, b0_4, ()))).length (F12 (J10 T10) Gspec_l31Row Gspec_l40Dec t3 t4 b0_0 b0_1 b0_2 b0_3 b0_4) := by kernel_rfl
noncomputable def L12 (J10 : P10 → Option PO) : P12 → Option PO := fun x => F12 J10 spec_l31Row.impl spec_l40Dec.impl x.1 x.2.1 x.2.2.1 x.2.2.2.1 x.2.2.2.2.1 x.2.2.2.2.2.1 x.2.2.2.2.2.2.1
noncomputable def L10 : P10 → Option PO := lfp fun J10 x => F10 (L12 J10) x.1 x.2.1 x.2.2.1 x.2.2.2.1 x.2.2.2.2.1 x.2.2.2.2.2.1 x.2.2.2.2.2.2.1
noncomputable def impl : PI → Option PO := fun x => F0 L10 spec_l31Form.impl spec_l31Row.impl spec_l40Dec.impl x.1
theorem F12_le {J10 J10' : P10 → Option PO} (h10 : OLe J10 J10') {Gspec_l31Row : spec_l31Row.PI → Option spec_l31Row.PO} {Gspec_l40Dec : spec_l40Dec.PI → Option spec_l40Dec.PO} (t3 : List UInt8) (t4 : Int) (b0_0 : Int) (b0_1 : List Int) (b0_2 : Int) (b0_3 : List (List Int)) (b0_4 : List Int) : OptLe (F12 J10 Gspec_l31Row Gspec_l40Dec t3 t4 b0_0 b0_1 b0_2 b0_3 b0_4) (F12 J10' Gspec_l31Row Gspec_l40Dec t3 t4 b0_0 b0_1 b0_2 b0_3 b0_4) := by unfold F12; exact .cond (.cond (.cond (.bind (.refl _) fun _ => .cond (.cond (.bind (.refl _) fun _ => .cond (.of h10 _) (.refl _)) (.refl _)) (.refl _)) (.refl _)) (.refl _)) (.refl _)
theorem F10_le {J12 J12' : P12 → Option PO} (h12 : OLe J12 J12') (t3 : List UInt8) (t4 : Int) (b0_0 : Int) (b0_1 : List Int) (b0_2 : Int) (b0_3 : List (List Int)) (b0_4 : List Int) : OptLe (F10 J12 t3 t4 b0_0 b0_1 b0_2 b0_3 b0_4) (F10 J12' t3 t4 b0_0 b0_1 b0_2 b0_3 b0_4) := by unfold F10; exact .cond (.of h12 _) (.refl _)
theorem L12_eq (J10 : P10 → Option PO) (t3 : List UInt8) (t4 : Int) (b0_0 : Int) (b0_1 : List Int) (b0_2 : Int) (b0_3 : List (List Int)) (b0_4 : List Int) : L12 J10 (t3, t4, b0_0, b0_1, b0_2, b0_3, b0_4, ()) = F12 J10 spec_l31Row.impl spec_l40Dec.impl t3 t4 b0_0 b0_1 b0_2 b0_3 b0_4 := rfl
theorem L12_le {J10 J10' : P10 → Option PO} (h10 : OLe J10 J10') : OLe (L12 J10) (L12 J10') := fun x => F12_le h10 x.1 x.2.1 x.2.2.1 x.2.2.2.1 x.2.2.2.2.1 x.2.2.2.2.2.1 x.2.2.2.2.2.2.1
theorem L10_mono : OMono fun J10 (x : P10) => F10 (L12 J10) x.1 x.2.1 x.2.2.1 x.2.2.2.1 x.2.2.2.2.1 x.2.2.2.2.2.1 x.2.2.2.2.2.2.1 := fun J J' h10 x => F10_le (L12_le h10) x.1 x.2.1 x.2.2.1 x.2.2.2.1 x.2.2.2.2.1 x.2.2.2.2.2.1 x.2.2.2.2.2.2.1
theorem L10_eq (t3 : List UInt8) (t4 : Int) (b0_0 : Int) (b0_1 : List Int) (b0_2 : Int) (b0_3 : List (List Int)) (b0_4 : List Int) : L10 (t3, t4, b0_0, b0_1, b0_2, b0_3, b0_4, ()) = F10 (L12 (L10)) t3 t4 b0_0 b0_1 b0_2 b0_3 b0_4 := congrFun (lfp_eq (L10_mono)) _
theorem impl_eq (x0 : Int × (List Int) × Int × (List (List Int)) × List Int) : impl (x0, ()) = F0 L10 spec_l31Form.impl spec_l31Row.impl spec_l40Dec.impl x0 := rfl
theorem con : Con Tryd.prog 17 1 rs.length 1 pin pout impl := by
  refine con_of_run' (nt := 61) (c := c0) tabGood Tryd.func17 (by kernel_rfl) (by kernel_rfl) (by kernel_rfl) (by kernel_rfl) (by kernel_rfl) (by kernel_rfl) (by kernel_rfl) ?_
  intro w0 O y hnp
  generalize hPost : (fun (a' : Act) (w' : World) => ∃ μ' S' st', Rel 61 w0 O μ' S' st' a' w' ∧ endOf (tabOf tab) rs 1 pout st' = some y) = Post
  have fin : ∀ (μ : Id → Option Value) (S : Nat → Prop) (st : St) (a : Act) (w : World), Rel 61 w0 O μ S st a w → endOf (tabOf tab) rs 1 pout st = some y → Post a w := fun μ S st a w h he => by rw [← hPost]; exact ⟨μ, S, st, h, he⟩
  have hp : ∀ (J10 : List Item → P10 → Option PO), ∀ (J12 : List Item → P12 → Option PO), Parts Tryd.prog 17 (pg spec_l31Form.impl spec_l31Row.impl spec_l40Dec.impl J10 J12) [(10, cut p10 J10), (12, cut p12 J12)] := fun J10 J12 => ⟨tab_ok tabGood rfl, (handAt_ok spec_l40Dec.con (handAt_ok spec_l31Row.con (handAt_ok spec_l31Form.con handNil_ok))), rfl⟩
  have g12 : ∀ (J10 : P10 → Option PO), Good Tryd.prog 61 w0 O Post y T10 p10 J10 → Good Tryd.prog 61 w0 O Post y T12 p12 (L12 J10) := fun J10 h10 => good_quiet (hs := hd spec_l31Form.impl spec_l31Row.impl spec_l40Dec.impl) (cv' := hd spec_l31Form.impl spec_l31Row.impl spec_l40Dec.impl) (Checked.mixed Tryd.checked) (hp (atT T10 J10) (atT T12 (fun _ => none))) (handAt_D spec_l40Dec.con (by rfl) rfl (handAt_D spec_l31Row.con (by rfl) rfl (handAt_D spec_l31Form.con (by rfl) rfl handNil_D))) (handAt_nat (handAt_nat (handAt_nat handNil_nat))) (handAt_nat (handAt_nat (handAt_nat handNil_nat))) (runOK_of (hp (atT T10 J10) (atT T12 (fun _ => none))) hnp ⟨cutOK_at h10, cutOK_at (p := p12) (T := T12) (J := fun _ => none) good_none, trivial⟩ fin) (fun x => all_same ⟨_, (seg12 spec_l31Form.impl spec_l31Row.impl spec_l40Dec.impl (atT T10 J10) (atT T12 (fun _ => none)) x.1 x.2.1 x.2.2.1 x.2.2.2.1 x.2.2.2.2.1 x.2.2.2.2.2.1 x.2.2.2.2.2.2.1).trans (by simp only [atT_self] <;> rfl)⟩)
  have g10 : Good Tryd.prog 61 w0 O Post y T10 p10 L10 := good_lfp fun J10 h10 => good_part (hp (atT T10 (fun _ => none)) (atT T12 (L12 J10))) (runOK_of (hp (atT T10 (fun _ => none)) (atT T12 (L12 J10))) hnp ⟨cutOK_at (p := p10) (T := T10) (J := fun _ => none) good_none, cutOK_at (g12 J10 h10), trivial⟩ fin) (fun x => (seg10 spec_l31Form.impl spec_l31Row.impl spec_l40Dec.impl (atT T10 (fun _ => none)) (atT T12 (L12 J10)) x.1 x.2.1 x.2.2.1 x.2.2.2.1 x.2.2.2.2.1 x.2.2.2.2.2.1 x.2.2.2.2.2.2.1).trans (by simp only [atT_self] <;> rfl))
  exact good_first (hp (atT T10 L10) (atT T12 (fun _ => none))) (runOK_of (hp (atT T10 L10) (atT T12 (fun _ => none))) hnp ⟨cutOK_at g10, cutOK_at (p := p12) (T := T12) (J := fun _ => none) good_none, trivial⟩ fin) (fun x => (seg0 spec_l31Form.impl spec_l31Row.impl spec_l40Dec.impl (atT T10 L10) (atT T12 (fun _ => none)) x.1).trans (by simp only [atT_self] <;> rfl))
end spec_PaperText

/-! ### loop.example/wholecheck/impl.noWay -/
namespace impl_noWay
noncomputable abbrev c0 : Code := (Tryd.f109.body).getD .skip
noncomputable abbrev pin : Tpl := ⟨[⟨0, true, [.d (.prod (.sl (.sl (.int .i64))) (.last (.sl (.int .i64))))]⟩], []⟩
noncomputable abbrev pout : Tpl := ⟨[⟨0, false, [.d .bool]⟩], []⟩
noncomputable abbrev PI := ((List (List Int)) × List Int) × Unit
noncomputable abbrev PO := Bool × Unit
noncomputable abbrev rs : List ResultVar := [.tmp 2]
noncomputable def F0 (x0 : (List (List Int)) × List Int) : Option PO :=
  bif (x0.1.length : Int) == 0 then
    some ((x0.2.length : Int) == 0, ())
  else
    some (false, ())
noncomputable def hd {R : Type} : Hand R := handNil
noncomputable def pg : Prog PO := { nt := 13, np := 1, tb := tabOf tab, hd := hd, cuts := cutsOf [], fin := endOf (tabOf tab) rs 1 pout }
noncomputable def q : FuncId → Bool := fun f => hasId [] f
theorem seg0 (x0 : (List (List Int)) × List Int) : arun (pg) 5000 [.code c0] (mk pin (x0, ())) = F0 x0 := by kernel_rfl
noncomputable def impl : PI → Option PO := fun x => F0 x.1
theorem impl_eq (x0 : (List (List Int)) × List Int) : impl (x0, ()) = F0 x0 := rfl
theorem con : Con Tryd.prog 109 1 rs.length 1 pin pout impl := by
  refine con_of_run' (nt := 13) (c := c0) tabGood Tryd.func109 (by kernel_rfl) (by kernel_rfl) (by kernel_rfl) (by kernel_rfl) (by kernel_rfl) (by kernel_rfl) (by kernel_rfl) ?_
  intro w0 O y hnp
  generalize hPost : (fun (a' : Act) (w' : World) => ∃ μ' S' st', Rel 13 w0 O μ' S' st' a' w' ∧ endOf (tabOf tab) rs 1 pout st' = some y) = Post
  have fin : ∀ (μ : Id → Option Value) (S : Nat → Prop) (st : St) (a : Act) (w : World), Rel 13 w0 O μ S st a w → endOf (tabOf tab) rs 1 pout st = some y → Post a w := fun μ S st a w h he => by rw [← hPost]; exact ⟨μ, S, st, h, he⟩
  have hp : Parts Tryd.prog 109 (pg) [] := ⟨tab_ok tabGood rfl, handNil_ok, rfl⟩
  exact good_first (hp) (runOK_of (hp) hnp trivial fin) (fun x => (seg0 x.1))
end impl_noWay

/-! ### loop.example/wholecheck/impl.paperOk -/
namespace impl_paperOk
noncomputable abbrev c0 : Code := (Tryd.f59.body).getD .skip
noncomputable abbrev pin : Tpl := ⟨[⟨0, true, [.d (.prod (.int .i64) (.prod (.sl (.int .i64)) (.prod (.int .i64) (.last (.prod (.sl (.sl (.int .i64))) (.last (.sl (.int .i64))))))))]⟩], []⟩
noncomputable abbrev pout : Tpl := ⟨[⟨0, false, [.d .bool]⟩], []⟩
noncomputable abbrev PI := (Int × (List Int) × Int × (List (List Int)) × List Int) × Unit
noncomputable abbrev PO := Bool × Unit
noncomputable abbrev rs : List ResultVar := [.tmp 2]
noncomputable def F0 (Gimpl_noWay : impl_noWay.PI → Option impl_noWay.PO) (x0 : Int × (List Int) × Int × (List (List Int)) × List Int) : Option PO :=
  bif x0.1 == 1 then
    bif x0.2.2.1 == 0 then
      Option.bind (Gimpl_noWay (x0.2.2.2, ())) fun y0 =>
      some (y0.1, ())
    else
      some (false, ())
  else
    bif x0.1 == 2 then
      bif (x0.2.1.length : Int) == 0 then
        Option.bind (Gimpl_noWay (x0.2.2.2, ())) fun y1 =>
        some (y1.1, ())
      else
        some (false, ())
    else
      bif x0.1 == 3 then
        bif x0.2.2.1 == 0 then
          some ((x0.2.1.length : Int) == 0, ())
        else
          some (false, ())
      else
        some (false, ())
noncomputable def hd {R : Type} (Gimpl_noWay : impl_noWay.PI → Option impl_noWay.PO) : Hand R := (handAt 109 [13, 24] true ⟨1, 1, 1, impl_noWay.pin, impl_noWay.pout, Gimpl_noWay⟩ handNil)
noncomputable def pg (Gimpl_noWay : impl_noWay.PI → Option impl_noWay.PO) : Prog PO := { nt := 37, np := 1, tb := tabOf tab, hd := hd Gimpl_noWay, cuts := cutsOf [], fin := endOf (tabOf tab) rs 1 pout }
noncomputable def q : FuncId → Bool := fun f => hasId [109] f
theorem seg0 (Gimpl_noWay : impl_noWay.PI → Option impl_noWay.PO) (x0 : Int × (List Int) × Int × (List (List Int)) × List Int) : arun (pg Gimpl_noWay) 5000 [.code c0] (mk pin (x0, ())) = F0 Gimpl_noWay x0 := by kernel_rfl
noncomputable def impl : PI → Option PO := fun x => F0 impl_noWay.impl x.1
theorem impl_eq (x0 : Int × (List Int) × Int × (List (List Int)) × List Int) : impl (x0, ()) = F0 impl_noWay.impl x0 := rfl
theorem con : Con Tryd.prog 59 1 rs.length 1 pin pout impl := by
  refine con_of_run' (nt := 37) (c := c0) tabGood Tryd.func59 (by kernel_rfl) (by kernel_rfl) (by kernel_rfl) (by kernel_rfl) (by kernel_rfl) (by kernel_rfl) (by kernel_rfl) ?_
  intro w0 O y hnp
  generalize hPost : (fun (a' : Act) (w' : World) => ∃ μ' S' st', Rel 37 w0 O μ' S' st' a' w' ∧ endOf (tabOf tab) rs 1 pout st' = some y) = Post
  have fin : ∀ (μ : Id → Option Value) (S : Nat → Prop) (st : St) (a : Act) (w : World), Rel 37 w0 O μ S st a w → endOf (tabOf tab) rs 1 pout st = some y → Post a w := fun μ S st a w h he => by rw [← hPost]; exact ⟨μ, S, st, h, he⟩
  have hp : Parts Tryd.prog 59 (pg impl_noWay.impl) [] := ⟨tab_ok tabGood rfl, (handAt_ok impl_noWay.con handNil_ok), rfl⟩
  exact good_first (hp) (runOK_of (hp) hnp trivial fin) (fun x => (seg0 impl_noWay.impl x.1))
end impl_paperOk

/-! ### loop.example/wholecheck/impl.in -/
namespace impl_in
noncomputable abbrev c0 : Code := (Tryd.f61.body).getD .skip
noncomputable abbrev pin : Tpl := ⟨[⟨0, false, [.d (.int .i64)]⟩, ⟨1, false, [.d (.int .i64)]⟩, ⟨2, false, [.d (.int .i64)]⟩], []⟩
noncomputable abbrev pout : Tpl := ⟨[⟨0, false, [.d .bool]⟩], []⟩
noncomputable abbrev PI := Int × Int × Int × Unit
noncomputable abbrev PO := Bool × Unit
noncomputable abbrev rs : List ResultVar := [.tmp 6]
noncomputable def F0 (x0 : Int) (x1 : Int) (x2 : Int) : Option PO :=
  bif decide (x0 ≥ x1) then
    some (decide (x0 ≤ x2), ())
  else
    some (false, ())
noncomputable def hd {R : Type} : Hand R := handNil
noncomputable def pg : Prog PO := { nt := 15, np := 3, tb := tabOf tab, hd := hd, cuts := cutsOf [], fin := endOf (tabOf tab) rs 3 pout }
noncomputable def q : FuncId → Bool := fun f => hasId [] f
theorem seg0 (x0 : Int) (x1 : Int) (x2 : Int) : arun (pg) 5000 [.code c0] (mk pin (x0, x1, x2, ())) = F0 x0 x1 x2 := by kernel_rfl
noncomputable def impl : PI → Option PO := fun x => F0 x.1 x.2.1 x.2.2.1
theorem impl_eq (x0 : Int) (x1 : Int) (x2 : Int) : impl (x0, x1, x2, ()) = F0 x0 x1 x2 := rfl
theorem con : Con Tryd.prog 61 3 rs.length 3 pin pout impl := by
  refine con_of_run' (nt := 15) (c := c0) tabGood Tryd.func61 (by kernel_rfl) (by kernel_rfl) (by kernel_rfl) (by kernel_rfl) (by kernel_rfl) (by kernel_rfl) (by kernel_rfl) ?_
  intro w0 O y hnp
  generalize hPost : (fun (a' : Act) (w' : World) => ∃ μ' S' st', Rel 15 w0 O μ' S' st' a' w' ∧ endOf (tabOf tab) rs 3 pout st' = some y) = Post
  have fin : ∀ (μ : Id → Option Value) (S : Nat → Prop) (st : St) (a : Act) (w : World), Rel 15 w0 O μ S st a w → endOf (tabOf tab) rs 3 pout st = some y → Post a w := fun μ S st a w h he => by rw [← hPost]; exact ⟨μ, S, st, h, he⟩
  have hp : Parts Tryd.prog 61 (pg) [] := ⟨tab_ok tabGood rfl, handNil_ok, rfl⟩
  exact good_first (hp) (runOK_of (hp) hnp trivial fin) (fun x => (seg0 x.1 x.2.1 x.2.2.1))
end impl_in

/-! ### loop.example/wholecheck/impl.PaperText$1 -/
namespace impl_PaperText_1
noncomputable abbrev c0 : Code := (Tryd.f60.body).getD .skip
noncomputable abbrev pin : Tpl := ⟨[⟨0, false, [.d (.sl (.int .i64))]⟩, ⟨1, false, [.ptr 500001 0]⟩, ⟨2, false, [.ptr 500002 0]⟩], [(500001, .box [.d .bool]), (500002, .bld 97 500003), (500003, .buf 5)]⟩
noncomputable abbrev pout : Tpl := ⟨[⟨1, false, [.ptr 500001 0]⟩, ⟨2, false, [.ptr 500002 0]⟩], [(500001, .box [.d .bool]), (500002, .bld 97 500003), (500003, .buf 5)]⟩
noncomputable abbrev p1 : Tpl := ⟨[⟨1, false, [.ptr 500001 0]⟩, ⟨2, false, [.ptr 500002 0]⟩, ⟨6, false, [.d (.sl (.int .i64))]⟩, ⟨7, false, [.d (.int .i64)]⟩, ⟨8, false, [.d (.int .i64)]⟩], [(500001, .box [.d .bool]), (500002, .bld 97 500003), (500003, .buf 5)]⟩
noncomputable def T1 : List Item := (find 1 c0 []).getD []
noncomputable abbrev PI := (List Int) × Bool × (List UInt8) × Unit
noncomputable abbrev PO := Bool × (List UInt8) × Unit
noncomputable abbrev P1 := (List Int) × Int × Int × Bool × (List UInt8) × Unit
noncomputable abbrev rs : List ResultVar := []
noncomputable def F0 (J1 : P1 → Option PO) (x0 : List Int) (c1_0 : Bool) (s3 : List UInt8) : Option PO :=
  J1 (x0, (x0.length : Int), 0, c1_0, s3, ())
noncomputable def F1 (J1 : P1 → Option PO) (Gimpl_in : impl_in.PI → Option impl_in.PO) (Glib_Itoa : lib_Itoa.PI → Option lib_Itoa.PO) (t6 : List Int) (t7 : Int) (t8 : Int) (c1_0 : Bool) (s3 : List UInt8) : Option PO :=
  bif decide (t8 < t7) then
    bif inb t8 t6.length then
      bif c1_0 then
        Option.bind (Gimpl_in (t6.getD t8.toNat 0, (-9999), 9999, ())) fun y0 =>
        Option.bind (Glib_Itoa (t6.getD t8.toNat 0, ())) fun y1 =>
        bif decide (([32] : List UInt8).length + y1.1.length ≤ 140737488355328) then
          bif decide (s3.length + (([32] : List UInt8) ++ y1.1).length ≤ 140737488355328) then
            J1 (t6, t7, wI (t8 + 1), y0.1, s3 ++ (([32] : List UInt8) ++ y1.1), ())
          else
            none
        else
          none
      else
        Option.bind (Glib_Itoa (t6.getD t8.toNat 0, ())) fun y2 =>
        bif decide (([32] : List UInt8).length + y2.1.length ≤ 140737488355328) then
          bif decide (s3.length + (([32] : List UInt8) ++ y2.1).length ≤ 140737488355328) then
            J1 (t6, t7, wI (t8 + 1), false, s3 ++ (([32] : List UInt8) ++ y2.1), ())
          else
            none
        else
          none
    else
      none
  else
    some (c1_0, s3, ())
noncomputable def hd {R : Type} (Gimpl_in : impl_in.PI → Option impl_in.PO) (Glib_Itoa : lib_Itoa.PI → Option lib_Itoa.PO) : Hand R := (bldHd bldW bldL bldS bldT bldE (handAt 63 [18] true ⟨1, 1, 0, lib_Itoa.pin, lib_Itoa.pout, Glib_Itoa⟩ (handAt 61 [15] true ⟨3, 1, 3, impl_in.pin, impl_in.pout, Gimpl_in⟩ handNil)))
noncomputable def pg (Gimpl_in : impl_in.PI → Option impl_in.PO) (Glib_Itoa : lib_Itoa.PI → Option lib_Itoa.PO) (J1 : List Item → P1 → Option PO) : Prog PO := { nt := 22, np := 3, tb := tabOf tab, hd := hd Gimpl_in Glib_Itoa, cuts := cutsOf [(1, cut p1 J1)], fin := endOf (tabOf tab) rs 3 pout }
noncomputable def q : FuncId → Bool := fun f => hasId [61, 63] f
theorem seg0 (Gimpl_in : impl_in.PI → Option impl_in.PO) (Glib_Itoa : lib_Itoa.PI → Option lib_Itoa.PO) (J1 : List Item → P1 → Option PO) (x0 : List Int) (c1_0 : Bool) (s3 : List UInt8) : arun (pg Gimpl_in Glib_Itoa J1) 5000 [.code c0] (mk pin (x0, c1_0, s3, ())) = F0 (J1 T1) x0 c1_0 s3 := by kernel_rfl
theorem seg1 (Gimpl_in : impl_in.PI → Option impl_in.PO) (Glib_Itoa : lib_Itoa.PI → Option lib_Itoa.PO) (J1 : List Item → P1 → Option PO) (t6 : List Int) (t7 : Int) (t8 : Int) (c1_0 : Bool) (s3 : List UInt8) : arun1 (pg Gimpl_in Glib_Itoa J1) 5000 T1 (mk p1 (t6, t7, t8, c1_0, s3, ())) = F1 (J1 T1) Gimpl_in Glib_Itoa t6 t7 t8 c1_0 s3 := by kernel_rfl
noncomputable def L1 : P1 → Option PO := lfp fun J1 x => F1 J1 impl_in.impl lib_Itoa.impl x.1 x.2.1 x.2.2.1 x.2.2.2.1 x.2.2.2.2.1
noncomputable def impl : PI → Option PO := fun x => F0 L1 x.1 x.2.1 x.2.2.1
theorem F1_le {J1 J1' : P1 → Option PO} (h1 : OLe J1 J1') {Gimpl_in : impl_in.PI → Option impl_in.PO} {Glib_Itoa : lib_Itoa.PI → Option lib_Itoa.PO} (t6 : List Int) (t7 : Int) (t8 : Int) (c1_0 : Bool) (s3 : List UInt8) : OptLe (F1 J1 Gimpl_in Glib_Itoa t6 t7 t8 c1_0 s3) (F1 J1' Gimpl_in Glib_Itoa t6 t7 t8 c1_0 s3) := by unfold F1; exact .cond (.cond (.cond (.bind (.refl _) fun _ => .bind (.refl _) fun _ => .cond (.cond (.of h1 _) (.refl _)) (.refl _)) (.bind (.refl _) fun _ => .cond (.cond (.of h1 _) (.refl _)) (.refl _))) (.refl _)) (.refl _)
theorem L1_mono : OMono fun J1 (x : P1) => F1 J1 impl_in.impl lib_Itoa.impl x.1 x.2.1 x.2.2.1 x.2.2.2.1 x.2.2.2.2.1 := fun J J' h1 x => F1_le h1 x.1 x.2.1 x.2.2.1 x.2.2.2.1 x.2.2.2.2.1
theorem L1_eq (t6 : List Int) (t7 : Int) (t8 : Int) (c1_0 : Bool) (s3 : List UInt8) : L1 (t6, t7, t8, c1_0, s3, ()) = F1 (L1) impl_in.impl lib_Itoa.impl t6 t7 t8 c1_0 s3 := congrFun (lfp_eq (L1_mono)) _
theorem impl_eq (x0 : List Int) (c1_0 : Bool) (s3 : List UInt8) : impl (x0, c1_0, s3, ()) = F0 L1 x0 c1_0 s3 := rfl
theorem con : Con Tryd.prog 60 3 rs.length 3 pin pout impl := by
  refine con_of_run' (nt := 22) (c := c0) tabGood Tryd.func60 (by kernel_rfl) (by kernel_rfl) (by kernel_rfl) (by kernel_rfl) (by kernel_rfl) (by kernel_rfl) (by kernel_rfl) ?_
  intro w0 O y hnp
  generalize hPost : (fun (a' : Act) (w' : World) => ∃ μ' S' st', Rel 22 w0 O μ' S' st' a' w' ∧ endOf (tabOf tab) rs 3 pout st' = some y) = Post
  have fin : ∀ (μ : Id → Option Value) (S : Nat → Prop) (st : St) (a : Act) (w : World), Rel 22 w0 O μ S st a w → endOf (tabOf tab) rs 3 pout st = some y → Post a w := fun μ S st a w h he => by rw [← hPost]; exact ⟨μ, S, st, h, he⟩
  have hp : ∀ (J1 : List Item → P1 → Option PO), Parts Tryd.prog 60 (pg impl_in.impl lib_Itoa.impl J1) [(1, cut p1 J1)] := fun J1 => ⟨tab_ok tabGood rfl, (bld_ok (handAt_ok lib_Itoa.con (handAt_ok impl_in.con handNil_ok))), rfl⟩
  have g1 : Good Tryd.prog 22 w0 O Post y T1 p1 L1 := good_lfp fun J1 h1 => good_part (hp (atT T1 J1)) (runOK_of (hp (atT T1 J1)) hnp ⟨cutOK_at h1, trivial⟩ fin) (fun x => (seg1 impl_in.impl lib_Itoa.impl (atT T1 J1) x.1 x.2.1 x.2.2.1 x.2.2.2.1 x.2.2.2.2.1).trans (by simp only [atT_self] <;> rfl))
  exact good_first (hp (atT T1 L1)) (runOK_of (hp (atT T1 L1)) hnp ⟨cutOK_at g1, trivial⟩ fin) (fun x => (seg0 impl_in.impl lib_Itoa.impl (atT T1 L1) x.1 x.2.1 x.2.2.1).trans (by simp only [atT_self] <;> rfl))
end impl_PaperText_1

/-! ### loop.example/wholecheck/impl.PaperText -/
namespace impl_PaperText
noncomputable abbrev c0 : Code := (Tryd.f19.body).getD .skip
noncomputable abbrev pin : Tpl := ⟨[⟨0, true, [.d (.prod (.int .i64) (.prod (.sl (.int .i64)) (.prod (.int .i64) (.last (.prod (.sl (.sl (.int .i64))) (.last (.sl (.int .i64))))))))]⟩], []⟩
noncomputable abbrev pout : Tpl := ⟨[⟨0, false, [.d .str]⟩], []⟩
noncomputable abbrev p11 : Tpl := ⟨[⟨1, false, [.ptr 3000000 0]⟩, ⟨3, false, [.ptr 3000001 0]⟩, ⟨4, false, [.ptr 3000002 0]⟩, ⟨5, false, [.fn 60 [(3000002, 0), (3000001, 0)]]⟩, ⟨27, false, [.d (.sl (.sl (.int .i64)))]⟩, ⟨28, false, [.d (.int .i64)]⟩, ⟨29, false, [.d (.int .i64)]⟩], [(3000000, .box [.d (.int .i64), .d (.sl (.int .i64)), .d (.int .i64), .d (.sl (.sl (.int .i64))), .d (.sl (.int .i64))]), (3000001, .bld 97 3000003), (3000002, .box [.d .bool]), (3000003, .buf 5)]⟩
noncomputable def T11 : List Item := (find 11 c0 []).getD []
noncomputable abbrev p17 : Tpl := ⟨[⟨1, false, [.ptr 3000000 0]⟩, ⟨3, false, [.ptr 3000001 0]⟩, ⟨4, false, [.ptr 3000002 0]⟩, ⟨5, false, [.fn 60 [(3000002, 0), (3000001, 0)]]⟩, ⟨7, false, [.d (.sl (.int .i64))]⟩, ⟨27, false, [.d (.sl (.sl (.int .i64)))]⟩, ⟨28, false, [.d (.int .i64)]⟩, ⟨29, false, [.d (.int .i64)]⟩], [(3000000, .box [.d (.int .i64), .d (.sl (.int .i64)), .d (.int .i64), .d (.sl (.sl (.int .i64))), .d (.sl (.int .i64))]), (3000001, .bld 97 3000003), (3000002, .box [.d .bool]), (3000003, .buf 5)]⟩
noncomputable def T17 : List Item := (find 17 c0 []).getD []
noncomputable abbrev p26 : Tpl := ⟨[⟨3, false, [.ptr 3000000 0]⟩, ⟨4, false, [.ptr 3000001 0]⟩], [(3000000, .bld 97 3000002), (3000001, .box [.d .bool]), (3000002, .buf 5)]⟩
noncomputable def T26 : List Item := (find 26 c0 []).getD []
noncomputable abbrev PI := (Int × (List Int) × Int × (List (List Int)) × List Int) × Unit
noncomputable abbrev PO := (List UInt8) × Unit
noncomputable abbrev P11 := (List (List Int)) × Int × Int × Int × (List Int) × Int × (List (List Int)) × (List Int) × Bool × (List UInt8) × Unit
noncomputable abbrev P17 := (List Int) × (List (List Int)) × Int × Int × Int × (List Int) × Int × (List (List Int)) × (List Int) × Bool × (List UInt8) × Unit
noncomputable abbrev P26 := Bool × (List UInt8) × Unit
noncomputable abbrev rs : List ResultVar := [.tmp 2]
noncomputable def F0 (J11 : P11 → Option PO) (J26 : P26 → Option PO) (Gimpl_PaperText_1 : impl_PaperText_1.PI → Option impl_PaperText_1.PO) (Gimpl_paperOk : impl_paperOk.PI → Option impl_paperOk.PO) (x0 : Int × (List Int) × Int × (List (List Int)) × List Int) : Option PO :=
  Option.bind (Gimpl_paperOk (x0, ())) fun y0 =>
  bif !y0.1 then
    some ([], ())
  else
    bif x0.1 == 1 then
      bif decide (([] : List UInt8).length + ([115, 101, 116] : List UInt8).length ≤ 140737488355328) then
        Option.bind (Gimpl_PaperText_1 (x0.2.1, true, ([] : List UInt8) ++ ([115, 101, 116] : List UInt8), ())) fun y1 =>
        J26 (y1.1, y1.2.1, ())
      else
        none
    else
      bif x0.1 == 2 then
        bif decide (([] : List UInt8).length + ([115, 116, 101, 112, 115] : List UInt8).length ≤ 140737488355328) then
          Option.bind (Gimpl_PaperText_1 (([x0.2.2.1] : List Int), true, ([] : List UInt8) ++ ([115, 116, 101, 112, 115] : List UInt8), ())) fun y2 =>
          J26 (y2.1, y2.2.1, ())
        else
          none
      else
        bif (x0.2.2.2.1.length : Int) != wI ((x0.2.2.2.2.length : Int) + 1) then
          some ([], ())
        else
          bif decide (([] : List UInt8).length + ([114, 117, 110] : List UInt8).length ≤ 140737488355328) then
            J11 (x0.2.2.2.1, (x0.2.2.2.1.length : Int), 0, x0.1, x0.2.1, x0.2.2.1, x0.2.2.2.1, x0.2.2.2.2, true, ([] : List UInt8) ++ ([114, 117, 110] : List UInt8), ())
          else
            none
noncomputable def F11 (J17 : P17 → Option PO) (J26 : P26 → Option PO) (Gimpl_PaperText_1 : impl_PaperText_1.PI → Option impl_PaperText_1.PO) (t27 : List (List Int)) (t28 : Int) (t29 : Int) (b0_0 : Int) (b0_1 : List Int) (b0_2 : Int) (b0_3 : List (List Int)) (b0_4 : List Int) (b2_0 : Bool) (r3 : List UInt8) : Option PO :=
  bif decide (t29 < t28) then
    bif inb t29 t27.length then
      bif decide (t29 > 0) then
        bif decide (r3.length + ([32, 62] : List UInt8).length ≤ 140737488355328) then
          bif decide (0 ≤ wI (t29 - 1)) && decide (wI (t29 - 1) ≤ t29) && decide (t29 ≤ (b0_4.length : Int)) then
            Option.bind (Gimpl_PaperText_1 ((b0_4.take t29.toNat).drop (wI (t29 - 1)).toNat, b2_0, r3 ++ ([32, 62] : List UInt8), ())) fun y3 =>
            bif decide (y3.2.1.length + ([32, 58] : List UInt8).length ≤ 140737488355328) then
              J17 (t27.getD t29.toNat [], t27, t28, t29, b0_0, b0_1, b0_2, b0_3, b0_4, y3.1, y3.2.1 ++ ([32, 58] : List UInt8), ())
            else
              none
          else
            none
        else
          none
      else
        J17 (t27.getD t29.toNat [], t27, t28, t29, b0_0, b0_1, b0_2, b0_3, b0_4, b2_0, r3, ())
    else
      none
  else
    J26 (b2_0, r3, ())
noncomputable def F17 (J11 : P11 → Option PO) (Gimpl_PaperText_1 : impl_PaperText_1.PI → Option impl_PaperText_1.PO) (t7 : List Int) (t27 : List (List Int)) (t28 : Int) (t29 : Int) (b0_0 : Int) (b0_1 : List Int) (b0_2 : Int) (b0_3 : List (List Int)) (b0_4 : List Int) (b2_0 : Bool) (r3 : List UInt8) : Option PO :=
  bif b2_0 then
    Option.bind (Gimpl_PaperText_1 (t7, decide ((t7.length : Int) > 0), r3, ())) fun y4 =>
    J11 (t27, t28, wI (t29 + 1), b0_0, b0_1, b0_2, b0_3, b0_4, y4.1, y4.2.1, ())
  else
    Option.bind (Gimpl_PaperText_1 (t7, false, r3, ())) fun y5 =>
    J11 (t27, t28, wI (t29 + 1), b0_0, b0_1, b0_2, b0_3, b0_4, y5.1, y5.2.1, ())
noncomputable def F26 (b1_0 : Bool) (r2 : List UInt8) : Option PO :=
  bif !b1_0 then
    some ([], ())
  else
    bif decide ((r2.length : Int) > 4000) then
      some ([], ())
    else
      some (r2, ())
noncomputable def hd {R : Type} (Gimpl_PaperText_1 : impl_PaperText_1.PI → Option impl_PaperText_1.PO) (Gimpl_paperOk : impl_paperOk.PI → Option impl_paperOk.PO) : Hand R := (bldHd bldW bldL bldS bldT bldE (handAt 60 [45, 55, 63, 71] true ⟨3, 0, 3, impl_PaperText_1.pin, impl_PaperText_1.pout, Gimpl_PaperText_1⟩ (handAt 59 [9] true ⟨1, 1, 1, impl_paperOk.pin, impl_paperOk.pout, Gimpl_paperOk⟩ handNil)))
noncomputable def pg (Gimpl_PaperText_1 : impl_PaperText_1.PI → Option impl_PaperText_1.PO) (Gimpl_paperOk : impl_paperOk.PI → Option impl_paperOk.PO) (J11 : List Item → P11 → Option PO) (J17 : List Item → P17 → Option PO) (J26 : List Item → P26 → Option PO) : Prog PO := { nt := 79, np := 1, tb := tabOf tab, hd := hd Gimpl_PaperText_1 Gimpl_paperOk, cuts := cutsOf [(11, cut p11 J11), (17, cut p17 J17), (26, cut p26 J26)], fin := endOf (tabOf tab) rs 1 pout }
noncomputable def q : FuncId → Bool := fun f => hasId [59] f
theorem seg0 (Gimpl_PaperText_1 : impl_PaperText_1.PI → Option impl_PaperText_1.PO) (Gimpl_paperOk : impl_paperOk.PI → Option impl_paperOk.PO) (J11 : List Item → P11 → Option PO) (J17 : List Item → P17 → Option PO) (J26 : List Item → P26 → Option PO) (x0 : Int × (List Int) × Int × (List (List Int)) × List Int) : arun (pg Gimpl_PaperText_1 Gimpl_paperOk J11 J17 J26) 5000 [.code c0] (mk pin (x0, ())) = F0 (J11 T11) (J26 T26) Gimpl_PaperText_1 Gimpl_paperOk x0 := by kernel_rfl
theorem seg11 (Gimpl_PaperText_1 : impl_PaperText_1.PI → Option impl_PaperText_1.PO) (Gimpl_paperOk : impl_paperOk.PI → Option impl_paperOk.PO) (J11 : List Item → P11 → Option PO) (J17 : List Item → P17 → Option PO) (J26 : List Item → P26 → Option PO) (t27 : List (List Int)) (t28 : Int) (t29 : Int) (b0_0 : Int) (b0_1 : List Int) (b0_2 : Int) (b0_3 : List (List Int)) (b0_4 : List Int) (b2_0 : Bool) (r3 : List UInt8) : arun1 (pg Gimpl_PaperText_1 Gimpl_paperOk J11 J17 J26) 5000 T11 (mk p11 (t27, t28, t29, b0_0, b0_1, b0_2, b0_3, b0_4, b2_0, r3, ())) = F11 (J17 T17) (J26 T26) Gimpl_PaperText_1 t27 t28 t29 b0_0 b0_1 b0_2 b0_3 b0_4 b2_0 r3 := by kernel_rfl
theorem seg17 (Gimpl_PaperText_1 : impl_PaperText_1.PI → Option impl_PaperText_1.PO) (Gimpl_paperOk : impl_paperOk.PI → Option impl_paperOk.PO) (J11 : List Item → P11 → Option PO) (J17 : List Item → P17 → Option PO) (J26 : List Item → P26 → Option PO) (t7 : List Int) (t27 : List (List Int)) (t28 : Int) (t29 : Int) (b0_0 : Int) (b0_1 : List Int) (b0_2 : Int) (b0_3 : List (List Int)) (b0_4 : List Int) (b2_0 : Bool) (r3 : List UInt8) : arun1 (pg Gimpl_PaperText_1 Gimpl_paperOk J11 J17 J26) 5000 T17 (mk p17 (t7, t27, t28, t29, b0_0, b0_1, b0_2, b0_3, b0_4, b2_0, r3, ())) = F17 (J11 T11) Gimpl_PaperText_1 t7 t27 t28 t29 b0_0 b0_1 b0_2 b0_3 b0_4 b2_0 r3 := by kernel_rfl
theorem seg26 (Gimpl_PaperText_1 : impl_PaperText_1.PI → Option impl_PaperText_1.PO) (Gimpl_paperOk : impl_paperOk.PI → Option impl_paperOk.PO) (J11 : List Item → P11 → Option PO) (J17 : List Item → P17 → Option PO) (J26 : List Item → P26 → Option PO) (b1_0 : Bool) (r2 : List UInt8) : arun1 (pg Gimpl_PaperText_1 Gimpl_paperOk J11 J17 J26) 5000 T26 (mk p26 (b1_0, r2, ())) = F26 b1_0 r2 := by kernel_rfl
noncomputable def L26 : P26 → Option PO := fun x => F26 x.1 x.2.1
noncomputable def L17 (J11 : P11 → Option PO) : P17 → Option PO := fun x => F17 J11 impl_PaperText_1.impl x.1 x.2.1 x.2.2.1 x.2.2.2.1 x.2.2.2.2.1 x.2.2.2.2.2.1 x.2.2.2.2.2.2.1 x.2.2.2.2.2.2.2.1 x.2.2.2.2.2.2.2.2.1 x.2.2.2.2.2.2.2.2.2.1 x.2.2.2.2.2.2.2.2.2.2.1
noncomputable def L11 : P11 → Option PO := lfp fun J11 x => F11 (L17 J11) L26 impl_PaperText_1.impl x.1 x.2.1 x.2.2.1 x.2.2.2.1 x.2.2.2.2.1 x.2.2.2.2.2.1 x.2.2.2.2.2.2.1 x.2.2.2.2.2.2.2.1 x.2.2.2.2.2.2.2.2.1 x.2.2.2.2.2.2.2.2.2.1
noncomputable def impl : PI → Option PO := fun x => F0 L11 L26 impl_PaperText_1.impl impl_paperOk.impl x.1
theorem F17_le {J11 J11' : P11 → Option PO} (h11 : OLe J11 J11') {Gimpl_PaperText_1 : impl_PaperText_1.PI → Option impl_PaperText_1.PO} (t7 : List Int) (t27 : List (List Int)) (t28 : Int) (t29 : Int) (b0_0 : Int) (b0_1 : List Int) (b0_2 : Int) (b0_3 : List (List Int)) (b0_4 : List Int) (b2_0 : Bool) (r3 : List UInt8) : OptLe (F17 J11 Gimpl_PaperText_1 t7 t27 t28 t29 b0_0 b0_1 b0_2 b0_3 b0_4 b2_0 r3) (F17 J11' Gimpl_PaperText_1 t7 t27 t28 t29 b0_0 b0_1 b0_2 b0_3 b0_4 b2_0 r3) := by unfold F17; exact .cond (.bind (.refl _) fun _ => .of h11 _) (.bind (.refl _) fun _ => .of h11 _)
theorem F11_le {J17 J17' : P17 → Option PO} (h17 : OLe J17 J17') {J26 J26' : P26 → Option PO} (h26 : OLe J26 J26') {Gimpl_PaperText_1 : impl_PaperText_1.PI → Option impl_PaperText_1.PO} (t27 : List (List Int)) (t28 : Int) (t29 : Int) (b0_0 : Int) (b0_1 : List Int) (b0_2 : Int) (b0_3 : List (List Int)) (b0_4 : List Int) (b2_0 : Bool) (r3 : List UInt8) : OptLe (F11 J17 J26 Gimpl_PaperText_1 t27 t28 t29 b0_0 b0_1 b0_2 b0_3 b0_4 b2_0 r3) (F11 J17' J26' Gimpl_PaperText_1 t27 t28 t29 b0_0 b0_1 b0_2 b0_3 b0_4 b2_0 r3) := by unfold F11; exact .cond (.cond (.cond (.cond (.cond (.bind (.refl _) fun _ => .cond (.of h17 _) (.refl _)) (.refl _)) (.refl _)) (.of h17 _)) (.refl _)) (.of h26 _)
theorem L26_eq (b1_0 : Bool) (r2 : List UInt8) : L26 (b1_0, r2, ()) = F26 b1_0 r2 := rfl
theorem L17_eq (J11 : P11 → Option PO) (t7 : List Int) (t27 : List (List Int)) (t28 : Int) (t29 : Int) (b0_0 : Int) (b0_1 : List Int) (b0_2 : Int) (b0_3 : List (List Int)) (b0_4 : List Int) (b2_0 : Bool) (r3 : List UInt8) : L17 J11 (t7, t27, t28, t29, b0_0, b0_1, b0_2, b0_3, b0_4, b2_0, r3, ()) = F17 J11 impl_PaperText_1.impl t7 t27 t28 t29 b0_0 b0_1 b0_2 b0_3 b0_4 b2_0 r3 := rfl
theorem L17_le {J11 J11' : P11 → Option PO} (h11 : OLe J11 J11') : OLe (L17 J11) (L17 J11') := fun x => F17_le h11 x.1 x.2.1 x.2.2.1 x.2.2.2.1 x.2.2.2.2.1 x.2.2.2.2.2.1 x.2.2.2.2.2.2.1 x.2.2.2.2.2.2.2.1 x.2.2.2.2.2.2.2.2.1 x.2.2.2.2.2.2.2.2.2.1 x.2.2.2.2.2.2.2.2.2.2.1
theorem L11_mono : OMono fun J11 (x : P11) => F11 (L17 J11) L26 impl_PaperText_1.impl x.1 x.2.1 x.2.2.1 x.2.2.2.1 x.2.2.2.2.1 x.2.2.2.2.2.1 x.2.2.2.2.2.2.1 x.2.2.2.2.2.2.2.1 x.2.2.2.2.2.2.2.2.1 x.2.2.2.2.2.2.2.2.2.1 := fun J J' h11 x => F11_le (L17_le h11) (fun _ _ h => h) x.1 x.2.1 x.2.2.1 x.2.2.2.1 x.2.2.2.2.1 x.2.2.2.2.2.1 x.2.2.2.2.2.2.1 x.2.2.2.2.2.2.2.1 x.2.2.2.2.2.2.2.2.1 x.2.2.2.2.2.2.2.2.2.1
theorem L11_eq (t27 : List (List Int)) (t28 : Int) (t29 : Int) (b0_0 : Int) (b0_1 : List Int) (b0_2 : Int) (b0_3 : List (List Int)) (b0_4 : List Int) (b2_0 : Bool) (r3 : List UInt8) : L11 (t27, t28, t29, b0_0, b0_1, b0_2, b0_3, b0_4, b2_0, r3, ()) = F11 (L17 (L11)) (L26) impl_PaperText_1.impl t27 t28 t29 b0_0 b0_1 b0_2 b0_3 b0_4 b2_0 r3 := congrFun (lfp_eq (L11_mono)) _
theorem impl_eq (x0 : Int × (List Int) × Int × (List (List Int)) × List Int) : impl (x0, ()) = F0 L11 L26 impl_PaperText_1.impl impl_paperOk.impl x0 := rfl
theorem con : Con Tryd.prog 19 1 rs.length 1 pin pout impl := by
  refine con_of_run' (nt := 79) (c := c0) tabGood Tryd.func19 (by kernel_rfl) (by kernel_rfl) (by kernel_rfl) (by kernel_rfl) (by kernel_rfl) (by kernel_rfl) (by kernel_rfl) ?_
  intro w0 O y hnp
  generalize hPost : (fun (a' : Act) (w' : World) => ∃ μ' S' st', Rel 79 w0 O μ' S' st' a' w' ∧ endOf (tabOf tab) rs 1 pout st' = some y) = Post
  have fin : ∀ (μ : Id → Option Value) (S : Nat → Prop) (st : St) (a : Act) (w : World), Rel 79 w0 O μ S st a w → endOf (tabOf tab) rs 1 pout st = some y → Post a w := fun μ S st a w h he => by rw [← hPost]; exact ⟨μ, S, st, h, he⟩
  have hp : ∀ (J11 : List Item → P11 → Option PO), ∀ (J17 : List Item → P17 → Option PO), ∀ (J26 : List Item → P26 → Option PO), Parts Tryd.prog 19 (pg impl_PaperText_1.impl impl_paperOk.impl J11 J17 J26) [(11, cut p11 J11), (17, cut p17 J17), (26, cut p26 J26)] := fun J11 J17 J26 => ⟨tab_ok tabGood rfl, (bld_ok (handAt_ok impl_PaperText_1.con (handAt_ok impl_paperOk.con handNil_ok))), rfl⟩
  have g26 : Good Tryd.prog 79 w0 O Post y T26 p26 L26 := good_part (hp (atT T11 (fun _ => none)) (atT T17 (fun _ => none)) (atT T26 (fun _ => none))) (runOK_of (hp (atT T11 (fun _ => none)) (atT T17 (fun _ => none)) (atT T26 (fun _ => none))) hnp ⟨cutOK_at (p := p11) (T := T11) (J := fun _ => none) good_none, cutOK_at (p := p17) (T := T17) (J := fun _ => none) good_none, cutOK_at (p := p26) (T := T26) (J := fun _ => none) good_none, trivial⟩ fin) (fun x => (seg26 impl_PaperText_1.impl impl_paperOk.impl (atT T11 (fun _ => none)) (atT T17 (fun _ => none)) (atT T26 (fun _ => none)) x.1 x.2.1))
  have g17 : ∀ (J11 : P11 → Option PO), Good Tryd.prog 79 w0 O Post y T11 p11 J11 → Good Tryd.prog 79 w0 O Post y T17 p17 (L17 J11) := fun J11 h11 => good_part (hp (atT T11 J11) (atT T17 (fun _ => none)) (atT T26 (fun _ => none))) (runOK_of (hp (atT T11 J11) (atT T17 (fun _ => none)) (atT T26 (fun _ => none))) hnp ⟨cutOK_at h11, cutOK_at (p := p17) (T := T17) (J := fun _ => none) good_none, cutOK_at (p := p26) (T := T26) (J := fun _ => none) good_none, trivial⟩ fin) (fun x => (seg17 impl_PaperText_1.impl impl_paperOk.impl (atT T11 J11) (atT T17 (fun _ => none)) (atT T26 (fun _ => none)) x.1 x.2.1 x.2.2.1 x.2.2.2.1 x.2.2.2.2.1 x.2.2.2.2.2.1 x.2.2.2.2.2.2.1 x.2.2.2.2.2.2.2.1 x.2.2.2.2.2.2.2.2.1 x.2.2.2.2.2.2.2.2.2.1 x.2.2.2.2.2.2.2.2.2.2.1).trans (by simp only [atT_self] <;> rfl))
  have g11 : Good Tryd.prog 79 w0 O Post y T11 p11 L11 := good_lfp fun J11 h11 => good_part (hp (atT T11 (fun _ => none)) (atT T17 (L17 J11)) (atT T26 L26)) (runOK_of (hp (atT T11 (fun _ => none)) (atT T17 (L17 J11)) (atT T26 L26)) hnp ⟨cutOK_at (p := p11) (T := T11) (J := fun _ => none) good_none, cutOK_at (g17 J11 h11), cutOK_at g26, trivial⟩ fin) (fun x => (seg11 impl_PaperText_1.impl impl_paperOk.impl (atT T11 (fun _ => none)) (atT T17 (L17 J11)) (atT T26 L26) x.1 x.2.1 x.2.2.1 x.2.2.2.1 x.2.2.2.2.1 x.2.2.2.2.2.1 x.2.2.2.2.2.2.1 x.2.2.2.2.2.2.2.1 x.2.2.2.2.2.2.2.2.1 x.2.2.2.2.2.2.2.2.2.1).trans (by simp only [atT_self] <;> rfl))
  exact good_first (hp (atT T11 L11) (atT T17 (fun _ => none)) (atT T26 L26)) (runOK_of (hp (atT T11 L11) (atT T17 (fun _ => none)) (atT T26 L26)) hnp ⟨cutOK_at g11, cutOK_at (p := p17) (T := T17) (J := fun _ => none) good_none, cutOK_at g26, trivial⟩ fin) (fun x => (seg0 impl_PaperText_1.impl impl_paperOk.impl (atT T11 L11) (atT T17 (fun _ => none)) (atT T26 L26) x.1).trans (by simp only [atT_self] <;> rfl))
end impl_PaperText

/-! ### loop.example/wholecheck/laws.eqIntS -/
namespace laws_eqIntS
noncomputable abbrev c0 : Code := (Tryd.f30.body).getD .skip
noncomputable abbrev pin : Tpl := ⟨[⟨0, false, [.d (.sl (.int .i64))]⟩, ⟨1, false, [.d (.sl (.int .i64))]⟩], []⟩
noncomputable abbrev pout : Tpl := ⟨[⟨0, false, [.d .bool]⟩], []⟩
noncomputable abbrev p4 : Tpl := ⟨[⟨0, false, [.d (.sl (.int .i64))]⟩, ⟨1, false, [.d (.sl (.int .i64))]⟩, ⟨5, false, [.d (.int .i64)]⟩], []⟩
noncomputable def T4 : List Item := (find 4 c0 []).getD []
noncomputable abbrev p6 : Tpl := ⟨[⟨0, false, [.d (.sl (.int .i64))]⟩, ⟨1, false, [.d (.sl (.int .i64))]⟩, ⟨5, false, [.d (.int .i64)]⟩], []⟩
noncomputable def T6 : List Item := (find 6 c0 []).getD []
noncomputable abbrev PI := (List Int) × (List Int) × Unit
noncomputable abbrev PO := Bool × Unit
noncomputable abbrev P4 := (List Int) × (List Int) × Int × Unit
noncomputable abbrev P6 := (List Int) × (List Int) × Int × Unit
noncomputable abbrev rs : List ResultVar := [.tmp 4]
noncomputable def F0 (J4 : P4 → Option PO) (x0 : List Int) (x1 : List Int) : Option PO :=
  bif (x0.length : Int) != (x1.length : Int) then
    some (false, ())
  else
    J4 (x0, x1, 0, ())
noncomputable def F4 (J6 : P6 → Option PO) (t0 : List Int) (t1 : List Int) (t5 : Int) : Option PO :=
  bif decide (t5 < (t0.length : Int)) then
    J6 (t0, t1, t5, ())
  else
    some (true, ())
noncomputable def F6 (J4 : P4 → Option PO) (t0 : List Int) (t1 : List Int) (t5 : Int) : Option PO :=
  bif inb t5 t0.length then
    bif inb t5 t1.length then
      bif t0.getD t5.toNat 0 != t1.getD t5.toNat 0 then
        some (false, ())
      else
        J4 (t0, t1, wI (t5 + 1), ())
    else
      none
  else
    none
noncomputable def hd {R : Type} : Hand R := handNil
noncomputable def pg (J4 : List Item → P4 → Option PO) (J6 : List Item → P6 → Option PO) : Prog PO := { nt := 26, np := 2, tb := tabOf tab, hd := hd, cuts := cutsOf [(4, cut p4 J4), (6, cut p6 J6)], fin := endOf (tabOf tab) rs 2 pout }
noncomputable def q : FuncId → Bool := fun f => hasId [] f
theorem seg0 (J4 : List Item → P4 → Option PO) (J6 : List Item → P6 → Option PO) (x0 : List Int) (x1 : List Int) : arun (pg J4 J6) 5000 [.code c0] (mk pin (x0, x1, ())) = F0 (J4 T4) x0 x1 := by kernel_rfl
theorem seg4 (J4 : List Item → P4 → Option PO) (J6 : List Item → P6 → Option PO) (t0 : List Int) (t1 : List Int) (t5 : Int) : arun1 (pg J4 J6) 5000 T4 (mk p4 (t0, t1, t5, ())) = F4 (J6 T6) t0 t1 t5 := by kernel_rfl
theorem seg6 (J4 : List Item → P4 → Option PO) (J6 : List Item → P6 → Option PO) (t0 : List Int) (t1 : List Int) (t5 : Int) : arunQ (pg J4 J6) q [] [] 5000 T6 (mk p6 (t0, t1, t5, ())) = List.replicate (arunQ (pg J4 J6) q [] [] 5000 T6 (mk p6 (t0, t1, t5, ()))).length (F6 (J4 T4) t0 t1 t5) := by kernel_rfl
noncomputable def L6 (J4 : P4 → Option PO) : P6 → Option PO := fun x => F6 J4 x.1 x.2.1 x.2.2.1
noncomputable def L4 : P4 → Option PO := lfp fun J4 x => F4 (L6 J4) x.1 x.2.1 x.2.2.1
noncomputable def impl : PI → Option PO := fun x => F0 L4 x.1 x.2.1
theorem F6_le {J4 J4' : P4 → Option PO} (h4 : OLe J4 J4') (t0 : List Int) (t1 : List Int) (t5 : Int) : OptLe (F6 J4 t0 t1 t5) (F6 J4' t0 t1 t5) := by unfold F6; exact .cond (.cond (.cond (.refl _) (.of h4 _)) (.refl _)) (.refl _)
theorem F4_le {J6 J6' : P6 → Option PO} (h6 : OLe J6 J6') (t0 : List Int) (t1 : List Int) (t5 : Int) : OptLe (F4 J6 t0 t1 t5) (F4 J6' t0 t1 t5) := by unfold F4; exact .cond (.of h6 _) (.refl _)
theorem L6_eq (J4 : P4 → Option PO) (t0 : List Int) (t1 : List Int) (t5 : Int) : L6 J4 (t0, t1, t5, ()) = F6 J4 t0 t1 t5 := rfl
theorem L6_le {J4 J4' : P4 → Option PO} (h4 : OLe J4 J4') : OLe (L6 J4) (L6 J4') := fun x => F6_le h4 x.1 x.2.1 x.2.2.1
theorem L4_mono : OMono fun J4 (x : P4) => F4 (L6 J4) x.1 x.2.1 x.2.2.1 := fun J J' h4 x => F4_le (L6_le h4) x.1 x.2.1 x.2.2.1
theorem L4_eq (t0 : List Int) (t1 : List Int) (t5 : Int) : L4 (t0, t1, t5, ()) = F4 (L6 (L4)) t0 t1 t5 := congrFun (lfp_eq (L4_mono)) _
theorem impl_eq (x0 : List Int) (x1 : List Int) : impl (x0, x1, ()) = F0 L4 x0 x1 := rfl
theorem con : Con Tryd.prog 30 2 rs.length 2 pin pout impl := by
  refine con_of_run' (nt := 26) (c := c0) tabGood Tryd.func30 (by kernel_rfl) (by kernel_rfl) (by kernel_rfl) (by kernel_rfl) (by kernel_rfl) (by kernel_rfl) (by kernel_rfl) ?_
  intro w0 O y hnp
  generalize hPost : (fun (a' : Act) (w' : World) => ∃ μ' S' st', Rel 26 w0 O μ' S' st' a' w' ∧ endOf (tabOf tab) rs 2 pout st' = some y) = Post
  have fin : ∀ (μ : Id → Option Value) (S : Nat → Prop) (st : St) (a : Act) (w : World), Rel 26 w0 O μ S st a w → endOf (tabOf tab) rs 2 pout st = some y → Post a w := fun μ S st a w h he => by rw [← hPost]; exact ⟨μ, S, st, h, he⟩
  have hp : ∀ (J4 : List Item → P4 → Option PO), ∀ (J6 : List Item → P6 → Option PO), Parts Tryd.prog 30 (pg J4 J6) [(4, cut p4 J4), (6, cut p6 J6)] := fun J4 J6 => ⟨tab_ok tabGood rfl, handNil_ok, rfl⟩
  have g6 : ∀ (J4 : P4 → Option PO), Good Tryd.prog 26 w0 O Post y T4 p4 J4 → Good Tryd.prog 26 w0 O Post y T6 p6 (L6 J4) := fun J4 h4 => good_quiet (hs := hd) (cv' := hd) (Checked.mixed Tryd.checked) (hp (atT T4 J4) (atT T6 (fun _ => none))) handNil_D handNil_nat handNil_nat (runOK_of (hp (atT T4 J4) (atT T6 (fun _ => none))) hnp ⟨cutOK_at h4, cutOK_at (p := p6) (T := T6) (J := fun _ => none) good_none, trivial⟩ fin) (fun x => all_same ⟨_, (seg6 (atT T4 J4) (atT T6 (fun _ => none)) x.1 x.2.1 x.2.2.1).trans (by simp only [atT_self] <;> rfl)⟩)
  have g4 : Good Tryd.prog 26 w0 O Post y T4 p4 L4 := good_lfp fun J4 h4 => good_part (hp (atT T4 (fun _ => none)) (atT T6 (L6 J4))) (runOK_of (hp (atT T4 (fun _ => none)) (atT T6 (L6 J4))) hnp ⟨cutOK_at (p := p4) (T := T4) (J := fun _ => none) good_none, cutOK_at (g6 J4 h4), trivial⟩ fin) (fun x => (seg4 (atT T4 (fun _ => none)) (atT T6 (L6 J4)) x.1 x.2.1 x.2.2.1).trans (by simp only [atT_self] <;> rfl))
  exact good_first (hp (atT T4 L4) (atT T6 (fun _ => none))) (runOK_of (hp (atT T4 L4) (atT T6 (fun _ => none))) hnp ⟨cutOK_at g4, cutOK_at (p := p6) (T := T6) (J := fun _ => none) good_none, trivial⟩ fin) (fun x => (seg0 (atT T4 L4) (atT T6 (fun _ => none)) x.1 x.2.1).trans (by simp only [atT_self] <;> rfl))
end laws_eqIntS

/-! ### loop.example/wholecheck/laws.eqIntSS -/
namespace laws_eqIntSS
noncomputable abbrev c0 : Code := (Tryd.f112.body).getD .skip
noncomputable abbrev pin : Tpl := ⟨[⟨0, false, [.d (.sl (.sl (.int .i64)))]⟩, ⟨1, false, [.d (.sl (.sl (.int .i64)))]⟩], []⟩
noncomputable abbrev pout : Tpl := ⟨[⟨0, false, [.d .bool]⟩], []⟩
noncomputable abbrev p4 : Tpl := ⟨[⟨0, false, [.d (.sl (.sl (.int .i64)))]⟩, ⟨1, false, [.d (.sl (.sl (.int .i64)))]⟩, ⟨5, false, [.d (.int .i64)]⟩], []⟩
noncomputable def T4 : List Item := (find 4 c0 []).getD []
noncomputable abbrev p6 : Tpl := ⟨[⟨0, false, [.d (.sl (.sl (.int .i64)))]⟩, ⟨1, false, [.d (.sl (.sl (.int .i64)))]⟩, ⟨5, false, [.d (.int .i64)]⟩], []⟩
noncomputable def T6 : List Item := (find 6 c0 []).getD []
noncomputable abbrev PI := (List (List Int)) × (List (List Int)) × Unit
noncomputable abbrev PO := Bool × Unit
noncomputable abbrev P4 := (List (List Int)) × (List (List Int)) × Int × Unit
noncomputable abbrev P6 := (List (List Int)) × (List (List Int)) × Int × Unit
noncomputable abbrev rs : List ResultVar := [.tmp 4]
noncomputable def F0 (J4 : P4 → Option PO) (x0 : List (List Int)) (x1 : List (List Int)) : Option PO :=
  bif (x0.length : Int) != (x1.length : Int) then
    some (false, ())
  else
    J4 (x0, x1, 0, ())
noncomputable def F4 (J6 : P6 → Option PO) (t0 : List (List Int)) (t1 : List (List Int)) (t5 : Int) : Option PO :=
  bif decide (t5 < (t0.length : Int)) then
    J6 (t0, t1, t5, ())
  else
    some (true, ())
noncomputable def F6 (J4 : P4 → Option PO) (Glaws_eqIntS : laws_eqIntS.PI → Option laws_eqIntS.PO) (t0 : List (List Int)) (t1 : List (List Int)) (t5 : Int) : Option PO :=
  bif inb t5 t0.length then
    bif inb t5 t1.length then
      Option.bind (Glaws_eqIntS (t0.getD t5.toNat [], t1.getD t5.toNat [], ())) fun y0 =>
      bif !y0.1 then
        some (false, ())
      else
        J4 (t0, t1, wI (t5 + 1), ())
    else
      none
  else
    none
noncomputable def hd {R : Type} (Glaws_eqIntS : laws_eqIntS.PI → Option laws_eqIntS.PO) : Hand R := (handAt 30 [25] true ⟨2, 1, 2, laws_eqIntS.pin, laws_eqIntS.pout, Glaws_eqIntS⟩ handNil)
noncomputable def pg (Glaws_eqIntS : laws_eqIntS.PI → Option laws_eqIntS.PO) (J4 : List Item → P4 → Option PO) (J6 : List Item → P6 → Option PO) : Prog PO := { nt := 27, np := 2, tb := tabOf tab, hd := hd Glaws_eqIntS, cuts := cutsOf [(4, cut p4 J4), (6, cut p6 J6)], fin := endOf (tabOf tab) rs 2 pout }
noncomputable def q : FuncId → Bool := fun f => hasId [30] f
theorem seg0 (Glaws_eqIntS : laws_eqIntS.PI → Option laws_eqIntS.PO) (J4 : List Item → P4 → Option PO) (J6 : List Item → P6 → Option PO) (x0 : List (List Int)) (x1 : List (List Int)) : arun (pg Glaws_eqIntS J4 J6) 5000 [.code c0] (mk pin (x0, x1, ())) = F0 (J4 T4) x0 x1 := by kernel_rfl
theorem seg4 (Glaws_eqIntS : laws_eqIntS.PI → Option laws_eqIntS.PO) (J4 : List Item → P4 → Option PO) (J6 : List Item → P6 → Option PO) (t0 : List (List Int)) (t1 : List (List Int)) (t5 : Int) : arun1 (pg Glaws_eqIntS J4 J6) 5000 T4 (mk p4 (t0, t1, t5, ())) = F4 (J6 T6) t0 t1 t5 := by kernel_rfl
theorem seg6 (Glaws_eqIntS : laws_eqIntS.PI → Option laws_eqIntS.PO) (J4 : List Item → P4 → Option PO) (J6 : List Item → P6 → Option PO) (t0 : List (List Int)) (t1 : List (List Int)) (t5 : Int) : arunQ (pg Glaws_eqIntS J4 J6) q [] [] 5000 T6 (mk p6 (t0, t1, t5, ())) = List.replicate (arunQ (pg Glaws_eqIntS J4 J6) q [] [] 5000 T6 (mk p6 (t0, t1, t5, ()))).length (F6 (J4 T4) Glaws_eqIntS t0 t1 t5) := by kernel_rfl
noncomputable def L6 (J4 : P4 → Option PO) : P6 → Option PO := fun x => F6 J4 laws_eqIntS.impl x.1 x.2.1 x.2.2.1
noncomputable def L4 : P4 → Option PO := lfp fun J4 x => F4 (L6 J4) x.1 x.2.1 x.2.2.1
noncomputable def impl : PI → Option PO := fun x => F0 L4 x.1 x.2.1
theorem F6_le {J4 J4' : P4 → Option PO} (h4 : OLe J4 J4') {Glaws_eqIntS : laws_eqIntS.PI → Option laws_eqIntS.PO} (t0 : List (List Int)) (t1 : List (List Int)) (t5 : Int) : OptLe (F6 J4 Glaws_eqIntS t0 t1 t5) (F6 J4' Glaws_eqIntS t0 t1 t5) := by unfold F6; exact .cond (.cond (.bind (.refl _) fun _ => .cond (.refl _) (.of h4 _)) (.refl _)) (.refl _)
theorem F4_le {J6 J6' : P6 → Option PO} (h6 : OLe J6 J6') (t0 : List (List Int)) (t1 : List (List Int)) (t5 : Int) : OptLe (F4 J6 t0 t1 t5) (F4 J6' t0 t1 t5) := by unfold F4; exact .cond (.of h6 _) (.refl _)
theorem L6_eq (J4 : P4 → Option PO) (t0 : List (List Int)) (t1 : List (List Int)) (t5 : Int) : L6 J4 (t0, t1, t5, ()) = F6 J4 laws_eqIntS.impl t0 t1 t5 := rfl
theorem L6_le {J4 J4' : P4 → Option PO} (h4 : OLe J4 J4') : OLe (L6 J4) (L6 J4') := fun x => F6_le h4 x.1 x.2.1 x.2.2.1
theorem L4_mono : OMono fun J4 (x : P4) => F4 (L6 J4) x.1 x.2.1 x.2.2.1 := fun J J' h4 x => F4_le (L6_le h4) x.1 x.2.1 x.2.2.1
theorem L4_eq (t0 : List (List Int)) (t1 : List (List Int)) (t5 : Int) : L4 (t0, t1, t5, ()) = F4 (L6 (L4)) t0 t1 t5 := congrFun (lfp_eq (L4_mono)) _
theorem impl_eq (x0 : List (List Int)) (x1 : List (List Int)) : impl (x0, x1, ()) = F0 L4 x0 x1 := rfl
theorem con : Con Tryd.prog 112 2 rs.length 2 pin pout impl := by
  refine con_of_run' (nt := 27) (c := c0) tabGood Tryd.func112 (by kernel_rfl) (by kernel_rfl) (by kernel_rfl) (by kernel_rfl) (by kernel_rfl) (by kernel_rfl) (by kernel_rfl) ?_
  intro w0 O y hnp
  generalize hPost : (fun (a' : Act) (w' : World) => ∃ μ' S' st', Rel 27 w0 O μ' S' st' a' w' ∧ endOf (tabOf tab) rs 2 pout st' = some y) = Post
  have fin : ∀ (μ : Id → Option Value) (S : Nat → Prop) (st : St) (a : Act) (w : World), Rel 27 w0 O μ S st a w → endOf (tabOf tab) rs 2 pout st = some y → Post a w := fun μ S st a w h he => by rw [← hPost]; exact ⟨μ, S, st, h, he⟩
  have hp : ∀ (J4 : List Item → P4 → Option PO), ∀ (J6 : List Item → P6 → Option PO), Parts Tryd.prog 112 (pg laws_eqIntS.impl J4 J6) [(4, cut p4 J4), (6, cut p6 J6)] := fun J4 J6 => ⟨tab_ok tabGood rfl, (handAt_ok laws_eqIntS.con handNil_ok), rfl⟩
  have g6 : ∀ (J4 : P4 → Option PO), Good Tryd.prog 27 w0 O Post y T4 p4 J4 → Good Tryd.prog 27 w0 O Post y T6 p6 (L6 J4) := fun J4 h4 => good_quiet (hs := hd laws_eqIntS.impl) (cv' := hd laws_eqIntS.impl) (Checked.mixed Tryd.checked) (hp (atT T4 J4) (atT T6 (fun _ => none))) (handAt_D laws_eqIntS.con (by rfl) rfl handNil_D) (handAt_nat handNil_nat) (handAt_nat handNil_nat) (runOK_of (hp (atT T4 J4) (atT T6 (fun _ => none))) hnp ⟨cutOK_at h4, cutOK_at (p := p6) (T := T6) (J := fun _ => none) good_none, trivial⟩ fin) (fun x => all_same ⟨_, (seg6 laws_eqIntS.impl (atT T4 J4) (atT T6 (fun _ => none)) x.1 x.2.1 x.2.2.1).trans (by simp only [atT_self] <;> rfl)⟩)
  have g4 : Good Tryd.prog 27 w0 O Post y T4 p4 L4 := good_lfp fun J4 h4 => good_part (hp (atT T4 (fun _ => none)) (atT T6 (L6 J4))) (runOK_of (hp (atT T4 (fun _ => none)) (atT T6 (L6 J4))) hnp ⟨cutOK_at (p := p4) (T := T4) (J := fun _ => none) good_none, cutOK_at (g6 J4 h4), trivial⟩ fin) (fun x => (seg4 laws_eqIntS.impl (atT T4 (fun _ => none)) (atT T6 (L6 J4)) x.1 x.2.1 x.2.2.1).trans (by simp only [atT_self] <;> rfl))
  exact good_first (hp (atT T4 L4) (atT T6 (fun _ => none))) (runOK_of (hp (atT T4 L4) (atT T6 (fun _ => none))) hnp ⟨cutOK_at g4, cutOK_at (p := p6) (T := T6) (J := fun _ => none) good_none, trivial⟩ fin) (fun x => (seg0 laws_eqIntS.impl (atT T4 L4) (atT T6 (fun _ => none)) x.1 x.2.1).trans (by simp only [atT_self] <;> rfl))
end laws_eqIntSS

/-! ### loop.example/wholecheck/laws.eqTrace -/
namespace laws_eqTrace
noncomputable abbrev c0 : Code := (Tryd.f66.body).getD .skip
noncomputable abbrev pin : Tpl := ⟨[⟨0, true, [.d (.prod (.sl (.sl (.int .i64))) (.last (.sl (.int .i64))))]⟩, ⟨1, true, [.d (.prod (.sl (.sl (.int .i64))) (.last (.sl (.int .i64))))]⟩], []⟩
noncomputable abbrev pout : Tpl := ⟨[⟨0, false, [.d .bool]⟩], []⟩
noncomputable abbrev PI := ((List (List Int)) × List Int) × ((List (List Int)) × List Int) × Unit
noncomputable abbrev PO := Bool × Unit
noncomputable abbrev rs : List ResultVar := [.tmp 4]
noncomputable def F0 (Glaws_eqIntS : laws_eqIntS.PI → Option laws_eqIntS.PO) (Glaws_eqIntSS : laws_eqIntSS.PI → Option laws_eqIntSS.PO) (x0 : (List (List Int)) × List Int) (x1 : (List (List Int)) × List Int) : Option PO :=
  Option.bind (Glaws_eqIntSS (x0.1, x1.1, ())) fun y0 =>
  bif !y0.1 then
    some (false, ())
  else
    Option.bind (Glaws_eqIntS (x0.2, x1.2, ())) fun y1 =>
    bif !y1.1 then
      some (false, ())
    else
      some (true, ())
noncomputable def hd {R : Type} (Glaws_eqIntS : laws_eqIntS.PI → Option laws_eqIntS.PO) (Glaws_eqIntSS : laws_eqIntSS.PI → Option laws_eqIntSS.PO) : Hand R := (handAt 112 [9] true ⟨2, 1, 2, laws_eqIntSS.pin, laws_eqIntSS.pout, Glaws_eqIntSS⟩ (handAt 30 [15] true ⟨2, 1, 2, laws_eqIntS.pin, laws_eqIntS.pout, Glaws_eqIntS⟩ handNil))
noncomputable def pg (Glaws_eqIntS : laws_eqIntS.PI → Option laws_eqIntS.PO) (Glaws_eqIntSS : laws_eqIntSS.PI → Option laws_eqIntSS.PO) : Prog PO := { nt := 17, np := 2, tb := tabOf tab, hd := hd Glaws_eqIntS Glaws_eqIntSS, cuts := cutsOf [], fin := endOf (tabOf tab) rs 2 pout }
noncomputable def q : FuncId → Bool := fun f => hasId [30, 112] f
theorem seg0 (Glaws_eqIntS : laws_eqIntS.PI → Option laws_eqIntS.PO) (Glaws_eqIntSS : laws_eqIntSS.PI → Option laws_eqIntSS.PO) (x0 : (List (List Int)) × List Int) (x1 : (List (List Int)) × List Int) : arun (pg Glaws_eqIntS Glaws_eqIntSS) 5000 [.code c0] (mk pin (x0, x1, ())) = F0 Glaws_eqIntS Glaws_eqIntSS x0 x1 := by kernel_rfl
noncomputable def impl : PI → Option PO := fun x => F0 laws_eqIntS.impl laws_eqIntSS.impl x.1 x.2.1
theorem impl_eq (x0 : (List (List Int)) × List Int) (x1 : (List (List Int)) × List Int) : impl (x0, x1, ()) = F0 laws_eqIntS.impl laws_eqIntSS.impl x0 x1 := rfl
theorem con : Con Tryd.prog 66 2 rs.length 2 pin pout impl := by
  refine con_of_run' (nt := 17) (c := c0) tabGood Tryd.func66 (by kernel_rfl) (by kernel_rfl) (by kernel_rfl) (by kernel_rfl) (by kernel_rfl) (by kernel_rfl) (by kernel_rfl) ?_
  intro w0 O y hnp
  generalize hPost : (fun (a' : Act) (w' : World) => ∃ μ' S' st', Rel 17 w0 O μ' S' st' a' w' ∧ endOf (tabOf tab) rs 2 pout st' = some y) = Post
  have fin : ∀ (μ : Id → Option Value) (S : Nat → Prop) (st : St) (a : Act) (w : World), Rel 17 w0 O μ S st a w → endOf (tabOf tab) rs 2 pout st = some y → Post a w := fun μ S st a w h he => by rw [← hPost]; exact ⟨μ, S, st, h, he⟩
  have hp : Parts Tryd.prog 66 (pg laws_eqIntS.impl laws_eqIntSS.impl) [] := ⟨tab_ok tabGood rfl, (handAt_ok laws_eqIntSS.con (handAt_ok laws_eqIntS.con handNil_ok)), rfl⟩
  exact good_first (hp) (runOK_of (hp) hnp trivial fin) (fun x => (seg0 laws_eqIntS.impl laws_eqIntSS.impl x.1 x.2.1))
end laws_eqTrace

/-! ### loop.example/wholecheck/laws.eqPaper -/
namespace laws_eqPaper
noncomputable abbrev c0 : Code := (Tryd.f20.body).getD .skip
noncomputable abbrev pin : Tpl := ⟨[⟨0, true, [.d (.prod (.int .i64) (.prod (.sl (.int .i64)) (.prod (.int .i64) (.last (.prod (.sl (.sl (.int .i64))) (.last (.sl (.int .i64))))))))]⟩, ⟨1, true, [.d (.prod (.int .i64) (.prod (.sl (.int .i64)) (.prod (.int .i64) (.last (.prod (.sl (.sl (.int .i64))) (.last (.sl (.int .i64))))))))]⟩], []⟩
noncomputable abbrev pout : Tpl := ⟨[⟨0, false, [.d .bool]⟩], []⟩
noncomputable abbrev PI := (Int × (List Int) × Int × (List (List Int)) × List Int) × (Int × (List Int) × Int × (List (List Int)) × List Int) × Unit
noncomputable abbrev PO := Bool × Unit
noncomputable abbrev rs : List ResultVar := [.tmp 4]
noncomputable def F0 (Glaws_eqIntS : laws_eqIntS.PI → Option laws_eqIntS.PO) (Glaws_eqTrace : laws_eqTrace.PI → Option laws_eqTrace.PO) (x0 : Int × (List Int) × Int × (List (List Int)) × List Int) (x1 : Int × (List Int) × Int × (List (List Int)) × List Int) : Option PO :=
  bif x0.1 != x1.1 then
    some (false, ())
  else
    Option.bind (Glaws_eqIntS (x0.2.1, x1.2.1, ())) fun y0 =>
    bif !y0.1 then
      some (false, ())
    else
      bif x0.2.2.1 != x1.2.2.1 then
        some (false, ())
      else
        Option.bind (Glaws_eqTrace (x0.2.2.2, x1.2.2.2, ())) fun y1 =>
        bif !y1.1 then
          some (false, ())
        else
          some (true, ())
noncomputable def hd {R : Type} (Glaws_eqIntS : laws_eqIntS.PI → Option laws_eqIntS.PO) (Glaws_eqTrace : laws_eqTrace.PI → Option laws_eqTrace.PO) : Hand R := (handAt 66 [25] true ⟨2, 1, 2, laws_eqTrace.pin, laws_eqTrace.pout, Glaws_eqTrace⟩ (handAt 30 [14] true ⟨2, 1, 2, laws_eqIntS.pin, laws_eqIntS.pout, Glaws_eqIntS⟩ handNil))
noncomputable def pg (Glaws_eqIntS : laws_eqIntS.PI → Option laws_eqIntS.PO) (Glaws_eqTrace : laws_eqTrace.PI → Option laws_eqTrace.PO) : Prog PO := { nt := 27, np := 2, tb := tabOf tab, hd := hd Glaws_eqIntS Glaws_eqTrace, cuts := cutsOf [], fin := endOf (tabOf tab) rs 2 pout }
noncomputable def q : FuncId → Bool := fun f => hasId [30, 66] f
theorem seg0 (Glaws_eqIntS : laws_eqIntS.PI → Option laws_eqIntS.PO) (Glaws_eqTrace : laws_eqTrace.PI → Option laws_eqTrace.PO) (x0 : Int × (List Int) × Int × (List (List Int)) × List Int) (x1 : Int × (List Int) × Int × (List (List Int)) × List Int) : arun (pg Glaws_eqIntS Glaws_eqTrace) 5000 [.code c0] (mk pin (x0, x1, ())) = F0 Glaws_eqIntS Glaws_eqTrace x0 x1 := by kernel_rfl
noncomputable def impl : PI → Option PO := fun x => F0 laws_eqIntS.impl laws_eqTrace.impl x.1 x.2.1
theorem impl_eq (x0 : Int × (List Int) × Int × (List (List Int)) × List Int) (x1 : Int × (List Int) × Int × (List (List Int)) × List Int) : impl (x0, x1, ()) = F0 laws_eqIntS.impl laws_eqTrace.impl x0 x1 := rfl
theorem con : Con Tryd.prog 20 2 rs.length 2 pin pout impl := by
  refine con_of_run' (nt := 27) (c := c0) tabGood Tryd.func20 (by kernel_rfl) (by kernel_rfl) (by kernel_rfl) (by kernel_rfl) (by kernel_rfl) (by kernel_rfl) (by kernel_rfl) ?_
  intro w0 O y hnp
  generalize hPost : (fun (a' : Act) (w' : World) => ∃ μ' S' st', Rel 27 w0 O μ' S' st' a' w' ∧ endOf (tabOf tab) rs 2 pout st' = some y) = Post
  have fin : ∀ (μ : Id → Option Value) (S : Nat → Prop) (st : St) (a : Act) (w : World), Rel 27 w0 O μ S st a w → endOf (tabOf tab) rs 2 pout st = some y → Post a w := fun μ S st a w h he => by rw [← hPost]; exact ⟨μ, S, st, h, he⟩
  have hp : Parts Tryd.prog 20 (pg laws_eqIntS.impl laws_eqTrace.impl) [] := ⟨tab_ok tabGood rfl, (handAt_ok laws_eqTrace.con (handAt_ok laws_eqIntS.con handNil_ok)), rfl⟩
  exact good_first (hp) (runOK_of (hp) hnp trivial fin) (fun x => (seg0 laws_eqIntS.impl laws_eqTrace.impl x.1 x.2.1))
end laws_eqPaper

/-! ### loop.example/wholecheck/laws.FnExactPaperText -/
namespace laws_FnExactPaperText
noncomputable abbrev c0 : Code := (Tryd.f4.body).getD .skip
noncomputable abbrev pin : Tpl := ⟨[⟨0, true, [.d (.prod (.int .i64) (.prod (.sl (.int .i64)) (.prod (.int .i64) (.last (.prod (.sl (.sl (.int .i64))) (.last (.sl (.int .i64))))))))]⟩], []⟩
noncomputable abbrev pout : Tpl := ⟨[⟨0, false, [.d .bool]⟩], []⟩
noncomputable abbrev p10 : Tpl := ⟨[⟨1, false, [.ptr 3000000 0]⟩, ⟨5, false, [.ptr 3000001 0]⟩], [(3000000, .box [.d (.int .i64), .d (.sl (.int .i64)), .d (.int .i64), .d (.sl (.sl (.int .i64))), .d (.sl (.int .i64))]), (3000001, .box [.d (.int .i64), .row 3000002, .d (.int .i64), .row 3000003, .row 3000004]), (3000002, .row 3 false (.int .i64)), (3000003, .row 27 false (.sl (.int .i64))), (3000004, .row 3 false (.int .i64))]⟩
noncomputable def T10 : List Item := (find 10 c0 []).getD []
noncomputable abbrev PI := (Int × (List Int) × Int × (List (List Int)) × List Int) × Unit
noncomputable abbrev PO := Bool × Unit
noncomputable abbrev P10 := Int × (List Int) × Int × (List (List Int)) × (List Int) × Int × Int × (List Int) × (List (List Int)) × (List Int) × Unit
noncomputable abbrev rs : List ResultVar := [.tmp 2]
noncomputable def F0 (J10 : P10 → Option PO) (Gimpl_PaperText : impl_PaperText.PI → Option impl_PaperText.PO) (Glaws_szPaper : laws_szPaper.PI → Option laws_szPaper.PO) (Glaws_toPaper : laws_toPaper.PI → Option laws_toPaper.PO) (Gspec_PaperText : spec_PaperText.PI → Option spec_PaperText.PO) (x0 : Int × (List Int) × Int × (List (List Int)) × List Int) : Option PO :=
  Option.bind (Glaws_szPaper (x0, 1048576, ())) fun y0 =>
  bif decide (y0.1 < 0) then
    some (true, ())
  else
    Option.bind (Glaws_toPaper (x0, ())) fun y1 =>
    Option.bind (Gspec_PaperText ((y1.1, y1.2.2.1, y1.2.1, y1.2.2.2.1, y1.2.2.2.2.1), ())) fun y2 =>
    Option.bind (Glaws_toPaper (x0, ())) fun y3 =>
    Option.bind (Gimpl_PaperText ((y3.1, y3.2.2.1, y3.2.1, y3.2.2.2.1, y3.2.2.2.2.1), ())) fun y4 =>
    bif !(y4.1 == y2.1) then
      some (false, ())
    else
      J10 (x0.1, x0.2.1, x0.2.2.1, x0.2.2.2.1, x0.2.2.2.2, y3.1, y3.2.1, y3.2.2.1, y3.2.2.2.1, y3.2.2.2.2.1, ())
noncomputable def F10 (Glaws_eqPaper : laws_eqPaper.PI → Option laws_eqPaper.PO) (Glaws_toPaper : laws_toPaper.PI → Option laws_toPaper.PO) (b0_0 : Int) (b0_1 : List Int) (b0_2 : Int) (b0_3 : List (List Int)) (b0_4 : List Int) (b1_0 : Int) (b1_1 : Int) (r2 : List Int) (r3 : List (List Int)) (r4 : List Int) : Option PO :=
  Option.bind (Glaws_toPaper ((b0_0, b0_1, b0_2, b0_3, b0_4), ())) fun y5 =>
  Option.bind (Glaws_eqPaper ((b1_0, r2, b1_1, r3, r4), (y5.1, y5.2.2.1, y5.2.1, y5.2.2.2.1, y5.2.2.2.2.1), ())) fun y6 =>
  bif !y6.1 then
    some (false, ())
  else
    some (true, ())
noncomputable def hd {R : Type} (Gimpl_PaperText : impl_PaperText.PI → Option impl_PaperText.PO) (Glaws_eqPaper : laws_eqPaper.PI → Option laws_eqPaper.PO) (Glaws_szPaper : laws_szPaper.PI → Option laws_szPaper.PO) (Glaws_toPaper : laws_toPaper.PI → Option laws_toPaper.PO) (Gspec_PaperText : spec_PaperText.PI → Option spec_PaperText.PO) : Hand R := (handAt 20 [25] true ⟨2, 1, 2, laws_eqPaper.pin, laws_eqPaper.pout, Glaws_eqPaper⟩ (handAt 19 [18] true ⟨1, 1, 1, impl_PaperText.pin, impl_PaperText.pout, Gimpl_PaperText⟩ (handAt 18 [13, 16, 24] false ⟨1, 1, 1, laws_toPaper.pin, laws_toPaper.pout, Glaws_toPaper⟩ (handAt 17 [14] true ⟨1, 1, 1, spec_PaperText.pin, spec_PaperText.pout, Gspec_PaperText⟩ (handAt 16 [9] true ⟨2, 1, 1, laws_szPaper.pin, laws_szPaper.pout, Glaws_szPaper⟩ handNil)))))
noncomputable def pg (Gimpl_PaperText : impl_PaperText.PI → Option impl_PaperText.PO) (Glaws_eqPaper : laws_eqPaper.PI → Option laws_eqPaper.PO) (Glaws_szPaper : laws_szPaper.PI → Option laws_szPaper.PO) (Glaws_toPaper : laws_toPaper.PI → Option laws_toPaper.PO) (Gspec_PaperText : spec_PaperText.PI → Option spec_PaperText.PO) (J10 : List Item → P10 → Option PO) : Prog PO := { nt := 27, np := 1, tb := tabOf tab, hd := hd Gimpl_PaperText Glaws_eqPaper Glaws_szPaper Glaws_toPaper Gspec_PaperText, cuts := cutsOf [(10, cut p10 J10)], fin := endOf (tabOf tab) rs 1 pout }
noncomputable def q : FuncId → Bool := fun f => hasId [16, 17, 19, 20] f
theorem seg0 (Gimpl_PaperText : impl_PaperText.PI → Option impl_PaperText.PO) (Glaws_eqPaper : laws_eqPaper.PI → Option laws_eqPaper.PO) (Glaws_szPaper : laws_szPaper.PI → Option laws_szPaper.PO) (Glaws_toPaper : laws_toPaper.PI → Option laws_toPaper.PO) (Gspec_PaperText : spec_PaperText.PI → Option spec_PaperText.PO) (J10 : List Item → P10 → Option PO) (x0 : Int × (List Int) × Int × (List (List Int)) × List Int) : arun (pg Gimpl_PaperText Glaws_eqPaper Glaws_szPaper Glaws_toPaper Gspec_PaperText J10) 5000 [.code c0] (mk pin (x0, ())) = F0 (J10 T10) Gimpl_PaperText Glaws_szPaper Glaws_toPaper Gspec_PaperText x0 := by kernel_rfl
theorem seg10 (Gimpl_PaperText : impl_PaperText.PI → Option impl_PaperText.PO) (Glaws_eqPaper : laws_eqPaper.PI → Option laws_eqPaper.PO) (Glaws_szPaper : laws_szPaper.PI → Option laws_szPaper.PO) (Glaws_toPaper : laws_toPaper.PI → Option laws_toPaper.PO) (Gspec_PaperText : spec_PaperText.PI → Option spec_PaperText.PO) (J10 : List Item → P10 → Option PO) (b0_0 : Int) (b0_1 : List Int) (b0_2 : Int) (b0_3 : List (List Int)) (b0_4 : List Int) (b1_0 : Int) (b1_1 : Int) (r2 : List Int) (r3 : List (List Int)) (r4 : List Int) : arunE (pg Gimpl_PaperText Glaws_eqPaper Glaws_szPaper Glaws_toPaper Gspec_PaperText J10) 5000 T10 (mk p10 (b0_0, b0_1, b0_2, b0_3, b0_4, b1_0, b1_1, r2, r3, r4, ())) = List.replicate (arunE (pg Gimpl_PaperText Glaws_eqPaper Glaws_szPaper Glaws_toPaper Gspec_PaperText J10) 5000 T10 (mk p10 (b0_0, b0_1, b0_2, b0_3, b0_4, b1_0, b1_1, r2, r3, r4, ()))).length (F10 Glaws_eqPaper Glaws_toPaper b0_0 b0_1 b0_2 b0_3 b0_4 b1_0 b1_1 r2 r3 r4) := by kernel_rfl
noncomputable def L10 : P10 → Option PO := fun x => F10 laws_eqPaper.impl laws_toPaper.impl x.1 x.2.1 x.2.2.1 x.2.2.2.1 x.2.2.2.2.1 x.2.2.2.2.2.1 x.2.2.2.2.2.2.1 x.2.2.2.2.2.2.2.1 x.2.2.2.2.2.2.2.2.1 x.2.2.2.2.2.2.2.2.2.1
noncomputable def impl : PI → Option PO := fun x => F0 L10 impl_PaperText.impl laws_szPaper.impl laws_toPaper.impl spec_PaperText.impl x.1
theorem L10_eq (b0_0 : Int) (b0_1 : List Int) (b0_2 : Int) (b0_3 : List (List Int)) (b0_4 : List Int) (b1_0 : Int) (b1_1 : Int) (r2 : List Int) (r3 : List (List Int)) (r4 : List Int) : L10 (b0_0, b0_1, b0_2, b0_3, b0_4, b1_0, b1_1, r2, r3, r4, ()) = F10 laws_eqPaper.impl laws_toPaper.impl b0_0 b0_1 b0_2 b0_3 b0_4 b1_0 b1_1 r2 r3 r4 := rfl
theorem impl_eq (x0 : Int × (List Int) × Int × (List (List Int)) × List Int) : impl (x0, ()) = F0 L10 impl_PaperText.impl laws_szPaper.impl laws_toPaper.impl spec_PaperText.impl x0 := rfl
theorem con : Con Tryd.prog 4 1 rs.length 1 pin pout impl := by
  refine con_of_run' (nt := 27) (c := c0) tabGood Tryd.func4 (by kernel_rfl) (by kernel_rfl) (by kernel_rfl) (by kernel_rfl) (by kernel_rfl) (by kernel_rfl) (by kernel_rfl) ?_
  intro w0 O y hnp
  generalize hPost : (fun (a' : Act) (w' : World) => ∃ μ' S' st', Rel 27 w0 O μ' S' st' a' w' ∧ endOf (tabOf tab) rs 1 pout st' = some y) = Post
  have fin : ∀ (μ : Id → Option Value) (S : Nat → Prop) (st : St) (a : Act) (w : World), Rel 27 w0 O μ S st a w → endOf (tabOf tab) rs 1 pout st = some y → Post a w := fun μ S st a w h he => by rw [← hPost]; exact ⟨μ, S, st, h, he⟩
  have hp : ∀ (J10 : List Item → P10 → Option PO), Parts Tryd.prog 4 (pg impl_PaperText.impl laws_eqPaper.impl laws_szPaper.impl laws_toPaper.impl spec_PaperText.impl J10) [(10, cut p10 J10)] := fun J10 => ⟨tab_ok tabGood rfl, (handAt_ok laws_eqPaper.con (handAt_ok impl_PaperText.con (handAt_ok laws_toPaper.con (handAt_ok spec_PaperText.con (handAt_ok laws_szPaper.con handNil_ok))))), rfl⟩
  have g10 : Good Tryd.prog 27 w0 O Post y T10 p10 L10 := good_orders (hs := hd impl_PaperText.impl laws_eqPaper.impl laws_szPaper.impl laws_toPaper.impl spec_PaperText.impl) (cv' := hd impl_PaperText.impl laws_eqPaper.impl laws_szPaper.impl laws_toPaper.impl spec_PaperText.impl) (Checked.mixed Tryd.checked) (hp (atT T10 (fun _ => none))) (handAt_ok laws_eqPaper.con (handAt_ok impl_PaperText.con (handAt_ok laws_toPaper.con (handAt_ok spec_PaperText.con (handAt_ok laws_szPaper.con handNil_ok))))) (handAt_nat (handAt_nat (handAt_nat (handAt_nat (handAt_nat handNil_nat))))) (handAt_nat (handAt_nat (handAt_nat (handAt_nat (handAt_nat handNil_nat))))) (runOK_of (hp (atT T10 (fun _ => none))) hnp ⟨cutOK_at (p := p10) (T := T10) (J := fun _ => none) good_none, trivial⟩ fin) (fun x => all_same ⟨_, (seg10 impl_PaperText.impl laws_eqPaper.impl laws_szPaper.impl laws_toPaper.impl spec_PaperText.impl (atT T10 (fun _ => none)) x.1 x.2.1 x.2.2.1 x.2.2.2.1 x.2.2.2.2.1 x.2.2.2.2.2.1 x.2.2.2.2.2.2.1 x.2.2.2.2.2.2.2.1 x.2.2.2.2.2.2.2.2.1 x.2.2.2.2.2.2.2.2.2.1)⟩)
  exact good_first (hp (atT T10 L10)) (runOK_of (hp (atT T10 L10)) hnp ⟨cutOK_at g10, trivial⟩ fin) (fun x => (seg0 impl_PaperText.impl laws_eqPaper.impl laws_szPaper.impl laws_toPaper.impl spec_PaperText.impl (atT T10 L10) x.1).trans (by simp only [atT_self] <;> rfl))
end laws_FnExactPaperText
end Go.Proofs.YtambmmpilakgoaaDoorB
