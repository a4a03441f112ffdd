/- PRINTED BY A PROGRAM OF THIS CLAIM'S AUTHOR (wip/gen): functions of the given program, their parts, their contracts. -/
import Derived.Test.YtgagmcbeobkfoaaB29
import Derived.Test.YtgagmcbeobkfoaaChecked
set_option linter.unusedVariables false
set_option maxRecDepth 100000
namespace Go.Proofs.YtgagmcbeobkfoaaB
open Go
def tab : Tab := [(3, { kind := .scalar, zero := [.d (.int .i64) (0 : Int)], bytes := 8, data := some (.int .i64), eqf := none }),
  (4, { kind := .scalar, zero := [.d .bool false], bytes := 1, data := some .bool, eqf := none }),
  (24, { kind := .slice 3, zero := [.nilS], bytes := 24, data := some (.sl (.int .i64)), eqf := none }),
  (54, { kind := .slice 104, zero := [.nilS], bytes := 24, data := some (.sl (.prod (.int .i64) (.prod (.int .i64) (.prod (.int .i64) (.last (.int .i64)))))), eqf := none }),
  (56, { kind := .slice 102, zero := [.nilS], bytes := 24, data := some (.sl (.prod (.int .i64) (.prod (.int .i64) (.prod (.int .i64) (.last (.int .i64)))))), eqf := none }),
  (93, { kind := .scalar, zero := [.nilfn], bytes := 8, data := none, eqf := none }),
  (99, { kind := .struct [(0, 1), (1, 1), (2, 1), (3, 1), (4, 1)], zero := [.d .str ([] : List UInt8), .d (.int .i64) (0 : Int), .nilS, .nilS, .d .bool false], bytes := 80, data := some (.prod .str (.prod (.int .i64) (.prod (.sl .str) (.prod (.sl (.prod (.int .i64) (.prod (.int .i64) (.prod (.int .i64) (.last (.int .i64)))))) (.last .bool))))), eqf := none }),
  (102, { kind := .struct [(0, 1), (1, 1), (2, 1), (3, 1)], zero := [.d (.int .i64) (0 : Int), .d (.int .i64) (0 : Int), .d (.int .i64) (0 : Int), .d (.int .i64) (0 : Int)], bytes := 32, data := some (.prod (.int .i64) (.prod (.int .i64) (.prod (.int .i64) (.last (.int .i64))))), eqf := some [(.int .i64), (.int .i64), (.int .i64), (.int .i64)] }),
  (104, { kind := .struct [(0, 1), (1, 1), (2, 1), (3, 1)], zero := [.d (.int .i64) (0 : Int), .d (.int .i64) (0 : Int), .d (.int .i64) (0 : Int), .d (.int .i64) (0 : Int)], bytes := 32, data := some (.prod (.int .i64) (.prod (.int .i64) (.prod (.int .i64) (.last (.int .i64))))), eqf := some [(.int .i64), (.int .i64), (.int .i64), (.int .i64)] }),
  (105, { kind := .scalar, zero := [.nilp], bytes := 8, data := none, eqf := none }),
  (107, { kind := .struct [(0, 1), (1, 1), (2, 1), (3, 1)], zero := [.nilS, .d .str ([] : List UInt8), .d (.int .i64) (0 : Int), .nilS], bytes := 72, data := some (.prod (.sl .str) (.prod .str (.prod (.int .i64) (.last (.sl (.prod (.int .i64) (.prod (.int .i64) (.prod (.int .i64) (.last (.int .i64)))))))))), eqf := none })]
theorem tabGood : tabB Try.prog tab = true := by kernel_rfl

/-! ### loop.example/wholecheck/laws.szTermS -/
namespace laws_szTermS
noncomputable abbrev c0 : Code := (Try.f29.body).getD .skip
noncomputable abbrev pin : Tpl := ⟨[⟨0, false, [.d (.sl (.prod (.int .i64) (.prod (.int .i64) (.prod (.int .i64) (.last (.int .i64))))))]⟩, ⟨1, false, [.d (.int .i64)]⟩], []⟩
noncomputable abbrev pout : Tpl := ⟨[⟨0, false, [.d (.int .i64)]⟩], []⟩
noncomputable abbrev PI := (List (Int × Int × Int × Int)) × Int × Unit
noncomputable abbrev PO := Int × Unit
noncomputable abbrev rs : List ResultVar := [.tmp 4]
noncomputable def F0 (x0 : List (Int × Int × Int × Int)) (x1 : Int) : Option PO :=
  bif decide (wI (x1 - (x0.length : Int)) < 0) then
    some ((-1), ())
  else
    some (wI (x1 - (x0.length : Int)), ())
noncomputable def hd {R : Type} : Hand R := handNil
noncomputable def pg : Prog PO := { nt := 12, np := 1, tb := tabOf tab, hd := hd, cuts := cutsOf [], fin := endOf (tabOf tab) rs 1 pout }
theorem seg0 (x0 : List (Int × Int × Int × Int)) (x1 : Int) : arun (pg) 5000 [.code c0] (mk pin (x0, x1, ())) = F0 x0 x1 := by kernel_rfl
noncomputable def impl : PI → Option PO := fun x => F0 x.1 x.2.1
theorem impl_eq (x0 : List (Int × Int × Int × Int)) (x1 : Int) : impl (x0, x1, ()) = F0 x0 x1 := rfl
theorem con : Con Try.prog 29 2 rs.length 1 pin pout impl := by
  refine con_of_run' (nt := 12) (c := c0) tabGood Try.func29 (by kernel_rfl) (by kernel_rfl) (by kernel_rfl) (by kernel_rfl) (by kernel_rfl) (by kernel_rfl) (by kernel_rfl) ?_
  intro w0 O y hnp
  generalize hPost : (fun (a' : Act) (w' : World) => ∃ μ' S' st', Rel 12 w0 O μ' S' st' a' w' ∧ endOf (tabOf tab) rs 1 pout st' = some y) = Post
  have fin : ∀ (μ : Id → Option Value) (S : Nat → Prop) (st : St) (a : Act) (w : World), Rel 12 w0 O μ S st a w → endOf (tabOf tab) rs 1 pout st = some y → Post a w := fun μ S st a w h he => by rw [← hPost]; exact ⟨μ, S, st, h, he⟩
  have hp : Parts Try.prog 29 (pg) [] := ⟨tab_ok tabGood rfl, handNil_ok, rfl⟩
  exact good_first (hp) (runOK_of (hp) hnp trivial fin) (fun x => (seg0 x.1 x.2.1))
end laws_szTermS

/-! ### loop.example/wholecheck/laws.toTerm -/
namespace laws_toTerm
noncomputable abbrev c0 : Code := (Try.f62.body).getD .skip
noncomputable abbrev pin : Tpl := ⟨[⟨0, true, [.d (.prod (.int .i64) (.prod (.int .i64) (.prod (.int .i64) (.last (.int .i64)))))]⟩], []⟩
noncomputable abbrev pout : Tpl := ⟨[⟨0, true, [.d (.prod (.int .i64) (.prod (.int .i64) (.prod (.int .i64) (.last (.int .i64)))))]⟩], []⟩
noncomputable abbrev PI := (Int × Int × Int × Int) × Unit
noncomputable abbrev PO := (Int × Int × Int × Int) × Unit
noncomputable abbrev rs : List ResultVar := [.cell 2 102]
noncomputable def F0 (x0 : Int × Int × Int × Int) : Option PO :=
  some (x0, ())
noncomputable def hd {R : Type} : Hand R := handNil
noncomputable def pg : Prog PO := { nt := 17, np := 1, tb := tabOf tab, hd := hd, cuts := cutsOf [], fin := endOf (tabOf tab) rs 1 pout }
theorem seg0 (x0 : Int × Int × Int × Int) : arun (pg) 5000 [.code c0] (mk pin (x0, ())) = F0 x0 := by kernel_rfl
noncomputable def impl : PI → Option PO := fun x => F0 x.1
theorem impl_eq (x0 : Int × Int × Int × Int) : impl (x0, ()) = F0 x0 := rfl
theorem con : Con Try.prog 62 1 rs.length 1 pin pout impl := by
  refine con_of_run' (nt := 17) (c := c0) tabGood Try.func62 (by kernel_rfl) (by kernel_rfl) (by kernel_rfl) (by kernel_rfl) (by kernel_rfl) (by kernel_rfl) (by kernel_rfl) ?_
  intro w0 O y hnp
  generalize hPost : (fun (a' : Act) (w' : World) => ∃ μ' S' st', Rel 17 w0 O μ' S' st' a' w' ∧ endOf (tabOf tab) rs 1 pout st' = some y) = Post
  have fin : ∀ (μ : Id → Option Value) (S : Nat → Prop) (st : St) (a : Act) (w : World), Rel 17 w0 O μ S st a w → endOf (tabOf tab) rs 1 pout st = some y → Post a w := fun μ S st a w h he => by rw [← hPost]; exact ⟨μ, S, st, h, he⟩
  have hp : Parts Try.prog 62 (pg) [] := ⟨tab_ok tabGood rfl, handNil_ok, rfl⟩
  exact good_first (hp) (runOK_of (hp) hnp trivial fin) (fun x => (seg0 x.1))
end laws_toTerm

/-! ### loop.example/wholecheck/laws.toTermS -/
namespace laws_toTermS
noncomputable abbrev c0 : Code := (Try.f31.body).getD .skip
noncomputable abbrev pin : Tpl := ⟨[⟨0, false, [.d (.sl (.prod (.int .i64) (.prod (.int .i64) (.prod (.int .i64) (.last (.int .i64))))))]⟩], []⟩
noncomputable abbrev pout : Tpl := ⟨[⟨0, false, [.row 600001]⟩], [(600001, .row 102 false (.prod (.int .i64) (.prod (.int .i64) (.prod (.int .i64) (.last (.int .i64))))))]⟩
noncomputable abbrev p3 : Tpl := ⟨[⟨0, false, [.d (.sl (.prod (.int .i64) (.prod (.int .i64) (.prod (.int .i64) (.last (.int .i64))))))]⟩, ⟨3, false, [.row 3000000]⟩, ⟨4, false, [.d (.int .i64)]⟩], [(3000000, .row 102 false (.prod (.int .i64) (.prod (.int .i64) (.prod (.int .i64) (.last (.int .i64))))))]⟩
noncomputable def T3 : List Item := (find 3 c0 []).getD []
noncomputable abbrev PI := (List (Int × Int × Int × Int)) × Unit
noncomputable abbrev PO := (List (Int × Int × Int × Int)) × Unit
noncomputable abbrev P3 := (List (Int × Int × Int × Int)) × Int × (List (Int × Int × Int × Int)) × Unit
noncomputable abbrev rs : List ResultVar := [.tmp 2]
noncomputable def F0 (J3 : P3 → Option PO) (x0 : List (Int × Int × Int × Int)) : Option PO :=
  bif decide (0 ≤ (x0.length : Int)) && decide ((x0.length : Int) ≤ (x0.length : Int)) && decide ((x0.length : Int) * 32 ≤ 140737488355328) then
    J3 (x0, 0, (List.replicate (x0.length : Int).toNat (0, 0, 0, 0) : List (Int × Int × Int × Int)), ())
  else
    none
noncomputable def F3 (J3 : P3 → Option PO) (Glaws_toTerm : laws_toTerm.PI → Option laws_toTerm.PO) (t0 : List (Int × Int × Int × Int)) (t4 : Int) (r0 : List (Int × Int × Int × Int)) : Option PO :=
  bif decide (t4 < (t0.length : Int)) then
    bif inb t4 t0.length then
      Option.bind (Glaws_toTerm (t0.getD t4.toNat (0, 0, 0, 0), ())) fun y0 =>
      bif inb t4 r0.length then
        J3 (t0, wI (t4 + 1), r0.set t4.toNat y0.1, ())
      else
        none
    else
      none
  else
    some (r0, ())
noncomputable def hd {R : Type} (Glaws_toTerm : laws_toTerm.PI → Option laws_toTerm.PO) : Hand R := (handAt 62 [20] true ⟨1, 1, 1, laws_toTerm.pin, laws_toTerm.pout, Glaws_toTerm⟩ handNil)
noncomputable def pg (Glaws_toTerm : laws_toTerm.PI → Option laws_toTerm.PO) (J3 : List Item → P3 → Option PO) : Prog PO := { nt := 23, np := 1, tb := tabOf tab, hd := hd Glaws_toTerm, cuts := cutsOf [(3, cut p3 J3)], fin := endOf (tabOf tab) rs 1 pout }
theorem seg0 (Glaws_toTerm : laws_toTerm.PI → Option laws_toTerm.PO) (J3 : List Item → P3 → Option PO) (x0 : List (Int × Int × Int × Int)) : arun (pg Glaws_toTerm J3) 5000 [.code c0] (mk pin (x0, ())) = F0 (J3 T3) x0 := by kernel_rfl
theorem seg3 (Glaws_toTerm : laws_toTerm.PI → Option laws_toTerm.PO) (J3 : List Item → P3 → Option PO) (t0 : List (Int × Int × Int × Int)) (t4 : Int) (r0 : List (Int × Int × Int × Int)) : arun1 (pg Glaws_toTerm J3) 5000 T3 (mk p3 (t0, t4, r0, ())) = F3 (J3 T3) Glaws_toTerm t0 t4 r0 := by kernel_rfl
noncomputable def L3 : P3 → Option PO := lfp fun J3 x => F3 J3 laws_toTerm.impl x.1 x.2.1 x.2.2.1
noncomputable def impl : PI → Option PO := fun x => F0 L3 x.1
theorem F3_le {J3 J3' : P3 → Option PO} (h3 : OLe J3 J3') {Glaws_toTerm : laws_toTerm.PI → Option laws_toTerm.PO} (t0 : List (Int × Int × Int × Int)) (t4 : Int) (r0 : List (Int × Int × Int × Int)) : OptLe (F3 J3 Glaws_toTerm t0 t4 r0) (F3 J3' Glaws_toTerm t0 t4 r0) := by unfold F3; exact .cond (.cond (.bind (.refl _) fun _ => .cond (.of h3 _) (.refl _)) (.refl _)) (.refl _)
theorem L3_mono : OMono fun J3 (x : P3) => F3 J3 laws_toTerm.impl x.1 x.2.1 x.2.2.1 := fun J J' h3 x => F3_le h3 x.1 x.2.1 x.2.2.1
theorem L3_eq (t0 : List (Int × Int × Int × Int)) (t4 : Int) (r0 : List (Int × Int × Int × Int)) : L3 (t0, t4, r0, ()) = F3 (L3) laws_toTerm.impl t0 t4 r0 := congrFun (lfp_eq (L3_mono)) _
theorem impl_eq (x0 : List (Int × Int × Int × Int)) : impl (x0, ()) = F0 L3 x0 := rfl
theorem con : Con Try.prog 31 1 rs.length 1 pin pout impl := by
  refine con_of_run' (nt := 23) (c := c0) tabGood Try.func31 (by kernel_rfl) (by kernel_rfl) (by kernel_rfl) (by kernel_rfl) (by kernel_rfl) (by kernel_rfl) (by kernel_rfl) ?_
  intro w0 O y hnp
  generalize hPost : (fun (a' : Act) (w' : World) => ∃ μ' S' st', Rel 23 w0 O μ' S' st' a' w' ∧ endOf (tabOf tab) rs 1 pout st' = some y) = Post
  have fin : ∀ (μ : Id → Option Value) (S : Nat → Prop) (st : St) (a : Act) (w : World), Rel 23 w0 O μ S st a w → endOf (tabOf tab) rs 1 pout st = some y → Post a w := fun μ S st a w h he => by rw [← hPost]; exact ⟨μ, S, st, h, he⟩
  have hp : ∀ (J3 : List Item → P3 → Option PO), Parts Try.prog 31 (pg laws_toTerm.impl J3) [(3, cut p3 J3)] := fun J3 => ⟨tab_ok tabGood rfl, (handAt_ok laws_toTerm.con handNil_ok), rfl⟩
  have g3 : Good Try.prog 23 w0 O Post y T3 p3 L3 := good_lfp fun J3 h3 => good_part (hp (atT T3 J3)) (runOK_of (hp (atT T3 J3)) hnp ⟨cutOK_at h3, trivial⟩ fin) (fun x => (seg3 laws_toTerm.impl (atT T3 J3) x.1 x.2.1 x.2.2.1).trans (by simp only [atT_self] <;> rfl))
  exact good_first (hp (atT T3 L3)) (runOK_of (hp (atT T3 L3)) hnp ⟨cutOK_at g3, trivial⟩ fin) (fun x => (seg0 laws_toTerm.impl (atT T3 L3) x.1).trans (by simp only [atT_self] <;> rfl))
end laws_toTermS

/-! ### loop.example/wholecheck/spec.l1In -/
namespace spec_l1In
noncomputable abbrev c0 : Code := (Try.f36.body).getD .skip
noncomputable abbrev pin : Tpl := ⟨[⟨0, false, [.d (.int .i64)]⟩, ⟨1, false, [.d (.int .i64)]⟩, ⟨2, false, [.d (.int .i64)]⟩], []⟩
noncomputable abbrev pout : Tpl := ⟨[⟨0, false, [.d .bool]⟩], []⟩
noncomputable abbrev PI := Int × Int × Int × Unit
noncomputable abbrev PO := Bool × Unit
noncomputable abbrev rs : List ResultVar := [.tmp 6]
noncomputable def F0 (x0 : Int) (x1 : Int) (x2 : Int) : Option PO :=
  bif decide (x0 ≥ x1) then
    some (decide (x0 ≤ x2), ())
  else
    some (false, ())
noncomputable def hd {R : Type} : Hand R := handNil
noncomputable def pg : Prog PO := { nt := 15, np := 3, tb := tabOf tab, hd := hd, cuts := cutsOf [], fin := endOf (tabOf tab) rs 3 pout }
theorem seg0 (x0 : Int) (x1 : Int) (x2 : Int) : arun (pg) 5000 [.code c0] (mk pin (x0, x1, x2, ())) = F0 x0 x1 x2 := by kernel_rfl
noncomputable def impl : PI → Option PO := fun x => F0 x.1 x.2.1 x.2.2.1
theorem impl_eq (x0 : Int) (x1 : Int) (x2 : Int) : impl (x0, x1, x2, ()) = F0 x0 x1 x2 := rfl
theorem con : Con Try.prog 36 3 rs.length 3 pin pout impl := by
  refine con_of_run' (nt := 15) (c := c0) tabGood Try.func36 (by kernel_rfl) (by kernel_rfl) (by kernel_rfl) (by kernel_rfl) (by kernel_rfl) (by kernel_rfl) (by kernel_rfl) ?_
  intro w0 O y hnp
  generalize hPost : (fun (a' : Act) (w' : World) => ∃ μ' S' st', Rel 15 w0 O μ' S' st' a' w' ∧ endOf (tabOf tab) rs 3 pout st' = some y) = Post
  have fin : ∀ (μ : Id → Option Value) (S : Nat → Prop) (st : St) (a : Act) (w : World), Rel 15 w0 O μ S st a w → endOf (tabOf tab) rs 3 pout st = some y → Post a w := fun μ S st a w h he => by rw [← hPost]; exact ⟨μ, S, st, h, he⟩
  have hp : Parts Try.prog 36 (pg) [] := ⟨tab_ok tabGood rfl, handNil_ok, rfl⟩
  exact good_first (hp) (runOK_of (hp) hnp trivial fin) (fun x => (seg0 x.1 x.2.1 x.2.2.1))
end spec_l1In

/-! ### loop.example/wholecheck/spec.l1One -/
namespace spec_l1One
noncomputable abbrev c0 : Code := (Try.f83.body).getD .skip
noncomputable abbrev pin : Tpl := ⟨[⟨0, false, [.d (.int .i64)]⟩], []⟩
noncomputable abbrev pout : Tpl := ⟨[⟨0, false, [.d .bool]⟩], []⟩
noncomputable abbrev PI := Int × Unit
noncomputable abbrev PO := Bool × Unit
noncomputable abbrev rs : List ResultVar := [.tmp 2]
noncomputable def F0 (x0 : Int) : Option PO :=
  some (x0 == 7, ())
noncomputable def hd {R : Type} : Hand R := handNil
noncomputable def pg : Prog PO := { nt := 5, np := 1, tb := tabOf tab, hd := hd, cuts := cutsOf [], fin := endOf (tabOf tab) rs 1 pout }
theorem seg0 (x0 : Int) : arun (pg) 5000 [.code c0] (mk pin (x0, ())) = F0 x0 := by kernel_rfl
noncomputable def impl : PI → Option PO := fun x => F0 x.1
theorem impl_eq (x0 : Int) : impl (x0, ()) = F0 x0 := rfl
theorem con : Con Try.prog 83 1 rs.length 1 pin pout impl := by
  refine con_of_run' (nt := 5) (c := c0) tabGood Try.func83 (by kernel_rfl) (by kernel_rfl) (by kernel_rfl) (by kernel_rfl) (by kernel_rfl) (by kernel_rfl) (by kernel_rfl) ?_
  intro w0 O y hnp
  generalize hPost : (fun (a' : Act) (w' : World) => ∃ μ' S' st', Rel 5 w0 O μ' S' st' a' w' ∧ endOf (tabOf tab) rs 1 pout st' = some y) = Post
  have fin : ∀ (μ : Id → Option Value) (S : Nat → Prop) (st : St) (a : Act) (w : World), Rel 5 w0 O μ S st a w → endOf (tabOf tab) rs 1 pout st = some y → Post a w := fun μ S st a w h he => by rw [← hPost]; exact ⟨μ, S, st, h, he⟩
  have hp : Parts Try.prog 83 (pg) [] := ⟨tab_ok tabGood rfl, handNil_ok, rfl⟩
  exact good_first (hp) (runOK_of (hp) hnp trivial fin) (fun x => (seg0 x.1))
end spec_l1One

/-! ### loop.example/wholecheck/spec.l1Kind -/
namespace spec_l1Kind
noncomputable abbrev c0 : Code := (Try.f89.body).getD .skip
noncomputable abbrev pin : Tpl := ⟨[⟨0, true, [.d (.prod (.int .i64) (.prod (.int .i64) (.prod (.int .i64) (.last (.int .i64)))))]⟩, ⟨1, false, [.d (.sl (.int .i64))]⟩, ⟨2, false, [.d (.int .i64)]⟩], []⟩
noncomputable abbrev pout : Tpl := ⟨[⟨0, false, [.d (.int .i64)]⟩], []⟩
noncomputable abbrev p3 : Tpl := ⟨[⟨1, false, [.d (.sl (.int .i64))]⟩, ⟨2, false, [.d (.int .i64)]⟩, ⟨3, false, [.ptr 3000000 0]⟩], [(3000000, .box [.d (.int .i64), .d (.int .i64), .d (.int .i64), .d (.int .i64)])]⟩
noncomputable def T3 : List Item := (find 3 c0 []).getD []
noncomputable abbrev p5 : Tpl := ⟨[⟨1, false, [.d (.sl (.int .i64))]⟩, ⟨3, false, [.ptr 3000000 0]⟩], [(3000000, .box [.d (.int .i64), .d (.int .i64), .d (.int .i64), .d (.int .i64)])]⟩
noncomputable def T5 : List Item := (find 5 c0 []).getD []
noncomputable abbrev p7 : Tpl := ⟨[⟨1, false, [.d (.sl (.int .i64))]⟩, ⟨3, false, [.ptr 3000000 0]⟩], [(3000000, .box [.d (.int .i64), .d (.int .i64), .d (.int .i64), .d (.int .i64)])]⟩
noncomputable def T7 : List Item := (find 7 c0 []).getD []
noncomputable abbrev p10 : Tpl := ⟨[⟨1, false, [.d (.sl (.int .i64))]⟩, ⟨3, false, [.ptr 3000000 0]⟩, ⟨7, false, [.d (.int .i64)]⟩], [(3000000, .box [.d (.int .i64), .d (.int .i64), .d (.int .i64), .d (.int .i64)])]⟩
noncomputable def T10 : List Item := (find 10 c0 []).getD []
noncomputable abbrev PI := (Int × Int × Int × Int) × (List Int) × Int × Unit
noncomputable abbrev PO := Int × Unit
noncomputable abbrev P3 := (List Int) × Int × Int × Int × Int × Int × Unit
noncomputable abbrev P5 := (List Int) × Int × Int × Int × Int × Unit
noncomputable abbrev P7 := (List Int) × Int × Int × Int × Int × Unit
noncomputable abbrev P10 := (List Int) × Int × Int × Int × Int × Int × Unit
noncomputable abbrev rs : List ResultVar := [.tmp 6]
noncomputable def F0 (J3 : P3 → Option PO) (Gspec_l1In : spec_l1In.PI → Option spec_l1In.PO) (x0 : Int × Int × Int × Int) (x1 : List Int) (x2 : Int) : Option PO :=
  bif x0.1 == 0 then
    Option.bind (Gspec_l1In (x0.2.1, (-9999), 9999, ())) fun y0 =>
    bif y0.1 then
      bif x0.2.2.1 == 0 then
        bif x0.2.2.2 == 0 then
          some (1, ())
        else
          J3 (x1, x2, x0.1, x0.2.1, x0.2.2.1, x0.2.2.2, ())
      else
        J3 (x1, x2, x0.1, x0.2.1, x0.2.2.1, x0.2.2.2, ())
    else
      J3 (x1, x2, x0.1, x0.2.1, x0.2.2.1, x0.2.2.2, ())
  else
    J3 (x1, x2, x0.1, x0.2.1, x0.2.2.1, x0.2.2.2, ())
noncomputable def F3 (J5 : P5 → Option PO) (Gspec_l1In : spec_l1In.PI → Option spec_l1In.PO) (t1 : List Int) (t2 : Int) (b0_0 : Int) (b0_1 : Int) (b0_2 : Int) (b0_3 : Int) : Option PO :=
  bif b0_0 == 1 then
    Option.bind (Gspec_l1In (b0_1, 0, wI (t2 - 1), ())) fun y1 =>
    bif y1.1 then
      bif b0_2 == 0 then
        bif b0_3 == 0 then
          some (1, ())
        else
          J5 (t1, b0_0, b0_1, b0_2, b0_3, ())
      else
        J5 (t1, b0_0, b0_1, b0_2, b0_3, ())
    else
      J5 (t1, b0_0, b0_1, b0_2, b0_3, ())
  else
    J5 (t1, b0_0, b0_1, b0_2, b0_3, ())
noncomputable def F5 (J7 : P7 → Option PO) (Gspec_l1In : spec_l1In.PI → Option spec_l1In.PO) (t1 : List Int) (b0_0 : Int) (b0_1 : Int) (b0_2 : Int) (b0_3 : Int) : Option PO :=
  Option.bind (Gspec_l1In (b0_0, 2, 9, ())) fun y2 =>
  bif !y2.1 then
    some (0, ())
  else
    bif b0_1 != 0 then
      some (0, ())
    else
      Option.bind (Gspec_l1In (b0_2, 0, wI ((t1.length : Int) - 1), ())) fun y3 =>
      bif !y3.1 then
        some (0, ())
      else
        Option.bind (Gspec_l1In (b0_3, 0, wI ((t1.length : Int) - 1), ())) fun y4 =>
        bif !y4.1 then
          some (0, ())
        else
          J7 (t1, b0_0, b0_1, b0_2, b0_3, ())
noncomputable def F7 (J10 : P10 → Option PO) (t1 : List Int) (b0_0 : Int) (b0_1 : Int) (b0_2 : Int) (b0_3 : Int) : Option PO :=
  bif decide (b0_0 ≥ 7) then
    J10 (t1, 2, b0_0, b0_1, b0_2, b0_3, ())
  else
    J10 (t1, 1, b0_0, b0_1, b0_2, b0_3, ())
noncomputable def F10 (Gspec_l1One : spec_l1One.PI → Option spec_l1One.PO) (t1 : List Int) (t7 : Int) (b0_0 : Int) (b0_1 : Int) (b0_2 : Int) (b0_3 : Int) : Option PO :=
  bif inb b0_2 t1.length then
    bif t1.getD b0_2.toNat 0 != t7 then
      some (0, ())
    else
      bif inb b0_3 t1.length then
        bif t1.getD b0_3.toNat 0 != t7 then
          some (0, ())
        else
          Option.bind (Gspec_l1One (b0_0, ())) fun y5 =>
          bif y5.1 then
            bif b0_3 != b0_2 then
              some (0, ())
            else
              bif decide (b0_0 ≥ 5) then
                some (2, ())
              else
                some (1, ())
          else
            bif decide (b0_0 ≥ 5) then
              some (2, ())
            else
              some (1, ())
      else
        none
  else
    none
noncomputable def hd {R : Type} (Gspec_l1In : spec_l1In.PI → Option spec_l1In.PO) (Gspec_l1One : spec_l1One.PI → Option spec_l1One.PO) : Hand R := (handAt 83 [95] true ⟨1, 1, 1, spec_l1One.pin, spec_l1One.pout, Gspec_l1One⟩ (handAt 36 [14, 34, 48, 61, 70] true ⟨3, 1, 3, spec_l1In.pin, spec_l1In.pout, Gspec_l1In⟩ handNil))
noncomputable def pg (Gspec_l1In : spec_l1In.PI → Option spec_l1In.PO) (Gspec_l1One : spec_l1One.PI → Option spec_l1One.PO) (J3 : List Item → P3 → Option PO) (J5 : List Item → P5 → Option PO) (J7 : List Item → P7 → Option PO) (J10 : List Item → P10 → Option PO) : Prog PO := { nt := 107, np := 3, tb := tabOf tab, hd := hd Gspec_l1In Gspec_l1One, cuts := cutsOf [(3, cut p3 J3), (5, cut p5 J5), (7, cut p7 J7), (10, cut p10 J10)], fin := endOf (tabOf tab) rs 3 pout }
theorem seg0 (Gspec_l1In : spec_l1In.PI → Option spec_l1In.PO) (Gspec_l1One : spec_l1One.PI → Option spec_l1One.PO) (J3 : List Item → P3 → Option PO) (J5 : List Item → P5 → Option PO) (J7 : List Item → P7 → Option PO) (J10 : List Item → P10 → Option PO) (x0 : Int × Int × Int × Int) (x1 : List Int) (x2 : Int) : arun (pg Gspec_l1In Gspec_l1One J3 J5 J7 J10) 5000 [.code c0] (mk pin (x0, x1, x2, ())) = F0 (J3 T3) Gspec_l1In x0 x1 x2 := by kernel_rfl
theorem seg3 (Gspec_l1In : spec_l1In.PI → Option spec_l1In.PO) (Gspec_l1One : spec_l1One.PI → Option spec_l1One.PO) (J3 : List Item → P3 → Option PO) (J5 : List Item → P5 → Option PO) (J7 : List Item → P7 → Option PO) (J10 : List Item → P10 → Option PO) (t1 : List Int) (t2 : Int) (b0_0 : Int) (b0_1 : Int) (b0_2 : Int) (b0_3 : Int) : arun1 (pg Gspec_l1In Gspec_l1One J3 J5 J7 J10) 5000 T3 (mk p3 (t1, t2, b0_0, b0_1, b0_2, b0_3, ())) = F3 (J5 T5) Gspec_l1In t1 t2 b0_0 b0_1 b0_2 b0_3 := by kernel_rfl
theorem seg5 (Gspec_l1In : spec_l1In.PI → Option spec_l1In.PO) (Gspec_l1One : spec_l1One.PI → Option spec_l1One.PO) (J3 : List Item → P3 → Option PO) (J5 : List Item → P5 → Option PO) (J7 : List Item → P7 → Option PO) (J10 : List Item → P10 → Option PO) (t1 : List Int) (b0_0 : Int) (b0_1 : Int) (b0_2 : Int) (b0_3 : Int) : arun1 (pg Gspec_l1In Gspec_l1One J3 J5 J7 J10) 5000 T5 (mk p5 (t1, b0_0, b0_1, b0_2, b0_3, ())) = F5 (J7 T7) Gspec_l1In t1 b0_0 b0_1 b0_2 b0_3 := by kernel_rfl
theorem seg7 (Gspec_l1In : spec_l1In.PI → Option spec_l1In.PO) (Gspec_l1One : spec_l1One.PI → Option spec_l1One.PO) (J3 : List Item → P3 → Option PO) (J5 : List Item → P5 → Option PO) (J7 : List Item → P7 → Option PO) (J10 : List Item → P10 → Option PO) (t1 : List Int) (b0_0 : Int) (b0_1 : Int) (b0_2 : Int) (b0_3 : Int) : arun1 (pg Gspec_l1In Gspec_l1One J3 J5 J7 J10) 5000 T7 (mk p7 (t1, b0_0, b0_1, b0_2, b0_3, ())) = F7 (J10 T10) t1 b0_0 b0_1 b0_2 b0_3 := by kernel_rfl
theorem seg10 (Gspec_l1In : spec_l1In.PI → Option spec_l1In.PO) (Gspec_l1One : spec_l1One.PI → Option spec_l1One.PO) (J3 : List Item → P3 → Option PO) (J5 : List Item → P5 → Option PO) (J7 : List Item → P7 → Option PO) (J10 : List Item → P10 → Option PO) (t1 : List Int) (t7 : Int) (b0_0 : Int) (b0_1 : Int) (b0_2 : Int) (b0_3 : Int) : arun1 (pg Gspec_l1In Gspec_l1One J3 J5 J7 J10) 5000 T10 (mk p10 (t1, t7, b0_0, b0_1, b0_2, b0_3, ())) = F10 Gspec_l1One t1 t7 b0_0 b0_1 b0_2 b0_3 := by kernel_rfl
noncomputable def L10 : P10 → Option PO := fun x => F10 spec_l1One.impl x.1 x.2.1 x.2.2.1 x.2.2.2.1 x.2.2.2.2.1 x.2.2.2.2.2.1
noncomputable def L7 : P7 → Option PO := fun x => F7 L10 x.1 x.2.1 x.2.2.1 x.2.2.2.1 x.2.2.2.2.1
noncomputable def L5 : P5 → Option PO := fun x => F5 L7 spec_l1In.impl x.1 x.2.1 x.2.2.1 x.2.2.2.1 x.2.2.2.2.1
noncomputable def L3 : P3 → Option PO := fun x => F3 L5 spec_l1In.impl x.1 x.2.1 x.2.2.1 x.2.2.2.1 x.2.2.2.2.1 x.2.2.2.2.2.1
noncomputable def impl : PI → Option PO := fun x => F0 L3 spec_l1In.impl x.1 x.2.1 x.2.2.1
theorem L10_eq (t1 : List Int) (t7 : Int) (b0_0 : Int) (b0_1 : Int) (b0_2 : Int) (b0_3 : Int) : L10 (t1, t7, b0_0, b0_1, b0_2, b0_3, ()) = F10 spec_l1One.impl t1 t7 b0_0 b0_1 b0_2 b0_3 := rfl
theorem L7_eq (t1 : List Int) (b0_0 : Int) (b0_1 : Int) (b0_2 : Int) (b0_3 : Int) : L7 (t1, b0_0, b0_1, b0_2, b0_3, ()) = F7 (L10) t1 b0_0 b0_1 b0_2 b0_3 := rfl
theorem L5_eq (t1 : List Int) (b0_0 : Int) (b0_1 : Int) (b0_2 : Int) (b0_3 : Int) : L5 (t1, b0_0, b0_1, b0_2, b0_3, ()) = F5 (L7) spec_l1In.impl t1 b0_0 b0_1 b0_2 b0_3 := rfl
theorem L3_eq (t1 : List Int) (t2 : Int) (b0_0 : Int) (b0_1 : Int) (b0_2 : Int) (b0_3 : Int) : L3 (t1, t2, b0_0, b0_1, b0_2, b0_3, ()) = F3 (L5) spec_l1In.impl t1 t2 b0_0 b0_1 b0_2 b0_3 := rfl
theorem impl_eq (x0 : Int × Int × Int × Int) (x1 : List Int) (x2 : Int) : impl (x0, x1, x2, ()) = F0 L3 spec_l1In.impl x0 x1 x2 := rfl
theorem con : Con Try.prog 89 3 rs.length 3 pin pout impl := by
  refine con_of_run' (nt := 107) (c := c0) tabGood Try.func89 (by kernel_rfl) (by kernel_rfl) (by kernel_rfl) (by kernel_rfl) (by kernel_rfl) (by kernel_rfl) (by kernel_rfl) ?_
  intro w0 O y hnp
  generalize hPost : (fun (a' : Act) (w' : World) => ∃ μ' S' st', Rel 107 w0 O μ' S' st' a' w' ∧ endOf (tabOf tab) rs 3 pout st' = some y) = Post
  have fin : ∀ (μ : Id → Option Value) (S : Nat → Prop) (st : St) (a : Act) (w : World), Rel 107 w0 O μ S st a w → endOf (tabOf tab) rs 3 pout st = some y → Post a w := fun μ S st a w h he => by rw [← hPost]; exact ⟨μ, S, st, h, he⟩
  have hp : ∀ (J3 : List Item → P3 → Option PO), ∀ (J5 : List Item → P5 → Option PO), ∀ (J7 : List Item → P7 → Option PO), ∀ (J10 : List Item → P10 → Option PO), Parts Try.prog 89 (pg spec_l1In.impl spec_l1One.impl J3 J5 J7 J10) [(3, cut p3 J3), (5, cut p5 J5), (7, cut p7 J7), (10, cut p10 J10)] := fun J3 J5 J7 J10 => ⟨tab_ok tabGood rfl, (handAt_ok spec_l1One.con (handAt_ok spec_l1In.con handNil_ok)), rfl⟩
  have g10 : Good Try.prog 107 w0 O Post y T10 p10 L10 := good_part (hp (atT T3 (fun _ => none)) (atT T5 (fun _ => none)) (atT T7 (fun _ => none)) (atT T10 (fun _ => none))) (runOK_of (hp (atT T3 (fun _ => none)) (atT T5 (fun _ => none)) (atT T7 (fun _ => none)) (atT T10 (fun _ => none))) hnp ⟨cutOK_at (p := p3) (T := T3) (J := fun _ => none) good_none, cutOK_at (p := p5) (T := T5) (J := fun _ => none) good_none, cutOK_at (p := p7) (T := T7) (J := fun _ => none) good_none, cutOK_at (p := p10) (T := T10) (J := fun _ => none) good_none, trivial⟩ fin) (fun x => (seg10 spec_l1In.impl spec_l1One.impl (atT T3 (fun _ => none)) (atT T5 (fun _ => none)) (atT T7 (fun _ => none)) (atT T10 (fun _ => none)) x.1 x.2.1 x.2.2.1 x.2.2.2.1 x.2.2.2.2.1 x.2.2.2.2.2.1))
  have g7 : Good Try.prog 107 w0 O Post y T7 p7 L7 := good_part (hp (atT T3 (fun _ => none)) (atT T5 (fun _ => none)) (atT T7 (fun _ => none)) (atT T10 L10)) (runOK_of (hp (atT T3 (fun _ => none)) (atT T5 (fun _ => none)) (atT T7 (fun _ => none)) (atT T10 L10)) hnp ⟨cutOK_at (p := p3) (T := T3) (J := fun _ => none) good_none, cutOK_at (p := p5) (T := T5) (J := fun _ => none) good_none, cutOK_at (p := p7) (T := T7) (J := fun _ => none) good_none, cutOK_at g10, trivial⟩ fin) (fun x => (seg7 spec_l1In.impl spec_l1One.impl (atT T3 (fun _ => none)) (atT T5 (fun _ => none)) (atT T7 (fun _ => none)) (atT T10 L10) x.1 x.2.1 x.2.2.1 x.2.2.2.1 x.2.2.2.2.1).trans (by simp only [atT_self] <;> rfl))
  have g5 : Good Try.prog 107 w0 O Post y T5 p5 L5 := good_part (hp (atT T3 (fun _ => none)) (atT T5 (fun _ => none)) (atT T7 L7) (atT T10 (fun _ => none))) (runOK_of (hp (atT T3 (fun _ => none)) (atT T5 (fun _ => none)) (atT T7 L7) (atT T10 (fun _ => none))) hnp ⟨cutOK_at (p := p3) (T := T3) (J := fun _ => none) good_none, cutOK_at (p := p5) (T := T5) (J := fun _ => none) good_none, cutOK_at g7, cutOK_at (p := p10) (T := T10) (J := fun _ => none) good_none, trivial⟩ fin) (fun x => (seg5 spec_l1In.impl spec_l1One.impl (atT T3 (fun _ => none)) (atT T5 (fun _ => none)) (atT T7 L7) (atT T10 (fun _ => none)) x.1 x.2.1 x.2.2.1 x.2.2.2.1 x.2.2.2.2.1).trans (by simp only [atT_self] <;> rfl))
  have g3 : Good Try.prog 107 w0 O Post y T3 p3 L3 := good_part (hp (atT T3 (fun _ => none)) (atT T5 L5) (atT T7 (fun _ => none)) (atT T10 (fun _ => none))) (runOK_of (hp (atT T3 (fun _ => none)) (atT T5 L5) (atT T7 (fun _ => none)) (atT T10 (fun _ => none))) hnp ⟨cutOK_at (p := p3) (T := T3) (J := fun _ => none) good_none, cutOK_at g5, cutOK_at (p := p7) (T := T7) (J := fun _ => none) good_none, cutOK_at (p := p10) (T := T10) (J := fun _ => none) good_none, trivial⟩ fin) (fun x => (seg3 spec_l1In.impl spec_l1One.impl (atT T3 (fun _ => none)) (atT T5 L5) (atT T7 (fun _ => none)) (atT T10 (fun _ => none)) x.1 x.2.1 x.2.2.1 x.2.2.2.1 x.2.2.2.2.1 x.2.2.2.2.2.1).trans (by simp only [atT_self] <;> rfl))
  exact good_first (hp (atT T3 L3) (atT T5 (fun _ => none)) (atT T7 (fun _ => none)) (atT T10 (fun _ => none))) (runOK_of (hp (atT T3 L3) (atT T5 (fun _ => none)) (atT T7 (fun _ => none)) (atT T10 (fun _ => none))) hnp ⟨cutOK_at g3, cutOK_at (p := p5) (T := T5) (J := fun _ => none) good_none, cutOK_at (p := p7) (T := T7) (J := fun _ => none) good_none, cutOK_at (p := p10) (T := T10) (J := fun _ => none) good_none, trivial⟩ fin) (fun x => (seg0 spec_l1In.impl spec_l1One.impl (atT T3 L3) (atT T5 (fun _ => none)) (atT T7 (fun _ => none)) (atT T10 (fun _ => none)) x.1 x.2.1 x.2.2.1).trans (by simp only [atT_self] <;> rfl))
end spec_l1Kind

/-! ### loop.example/wholecheck/spec.KindsOf -/
namespace spec_KindsOf
noncomputable abbrev c0 : Code := (Try.f82.body).getD .skip
noncomputable abbrev pin : Tpl := ⟨[⟨0, false, [.d (.sl (.prod (.int .i64) (.prod (.int .i64) (.prod (.int .i64) (.last (.int .i64))))))]⟩, ⟨1, false, [.d (.int .i64)]⟩], []⟩
noncomputable abbrev pout : Tpl := ⟨[⟨0, false, [.row 600001]⟩], [(600001, .row 3 false (.int .i64))]⟩
noncomputable abbrev p3 : Tpl := ⟨[⟨0, false, [.d (.sl (.prod (.int .i64) (.prod (.int .i64) (.prod (.int .i64) (.last (.int .i64))))))]⟩, ⟨1, false, [.d (.int .i64)]⟩], []⟩
noncomputable def T3 : List Item := (find 3 c0 []).getD []
noncomputable abbrev p5 : Tpl := ⟨[⟨0, false, [.d (.sl (.prod (.int .i64) (.prod (.int .i64) (.prod (.int .i64) (.last (.int .i64))))))]⟩, ⟨1, false, [.d (.int .i64)]⟩, ⟨5, false, [.row 3000000]⟩, ⟨6, false, [.d (.int .i64)]⟩], [(3000000, .row 3 false (.int .i64))]⟩
noncomputable def T5 : List Item := (find 5 c0 []).getD []
noncomputable abbrev PI := (List (Int × Int × Int × Int)) × Int × Unit
noncomputable abbrev PO := (List Int) × Unit
noncomputable abbrev P3 := (List (Int × Int × Int × Int)) × Int × Unit
noncomputable abbrev P5 := (List (Int × Int × Int × Int)) × Int × Int × (List Int) × Unit
noncomputable abbrev rs : List ResultVar := [.tmp 4]
noncomputable def F0 (J3 : P3 → Option PO) (Gspec_l1In : spec_l1In.PI → Option spec_l1In.PO) (x0 : List (Int × Int × Int × Int)) (x1 : Int) : Option PO :=
  Option.bind (Gspec_l1In (x1, 0, 5, ())) fun y0 =>
  bif !y0.1 then
    some ([], ())
  else
    Option.bind (Gspec_l1In ((x0.length : Int), 1, 40, ())) fun y1 =>
    bif !y1.1 then
      some ([], ())
    else
      J3 (x0, x1, ())
noncomputable def F3 (J5 : P5 → Option PO) (t0 : List (Int × Int × Int × Int)) (t1 : Int) : Option PO :=
  J5 (t0, t1, 0, ([] : List Int), ())
noncomputable def F5 (J5 : P5 → Option PO) (Gspec_l1Kind : spec_l1Kind.PI → Option spec_l1Kind.PO) (t0 : List (Int × Int × Int × Int)) (t1 : Int) (t6 : Int) (r0 : List Int) : Option PO :=
  bif decide (t6 < (t0.length : Int)) then
    bif inb t6 t0.length then
      Option.bind (Gspec_l1Kind (t0.getD t6.toNat (0, 0, 0, 0), r0, t1, ())) fun y2 =>
      bif y2.1 == 0 then
        some ([], ())
      else
        bif decide ((r0.length + ([y2.1] : List Int).length) * 8 ≤ 140737488355328) then
          J5 (t0, t1, wI (t6 + 1), r0 ++ ([y2.1] : List Int), ())
        else
          none
    else
      none
  else
    some (r0, ())
noncomputable def hd {R : Type} (Gspec_l1In : spec_l1In.PI → Option spec_l1In.PO) (Gspec_l1Kind : spec_l1Kind.PI → Option spec_l1Kind.PO) : Hand R := (handAt 89 [30] true ⟨3, 1, 3, spec_l1Kind.pin, spec_l1Kind.pout, Gspec_l1Kind⟩ (handAt 36 [9, 14] true ⟨3, 1, 3, spec_l1In.pin, spec_l1In.pout, Gspec_l1In⟩ handNil))
noncomputable def pg (Gspec_l1In : spec_l1In.PI → Option spec_l1In.PO) (Gspec_l1Kind : spec_l1Kind.PI → Option spec_l1Kind.PO) (J3 : List Item → P3 → Option PO) (J5 : List Item → P5 → Option PO) : Prog PO := { nt := 38, np := 2, tb := tabOf tab, hd := hd Gspec_l1In Gspec_l1Kind, cuts := cutsOf [(3, cut p3 J3), (5, cut p5 J5)], fin := endOf (tabOf tab) rs 2 pout }
theorem seg0 (Gspec_l1In : spec_l1In.PI → Option spec_l1In.PO) (Gspec_l1Kind : spec_l1Kind.PI → Option spec_l1Kind.PO) (J3 : List Item → P3 → Option PO) (J5 : List Item → P5 → Option PO) (x0 : List (Int × Int × Int × Int)) (x1 : Int) : arun (pg Gspec_l1In Gspec_l1Kind J3 J5) 5000 [.code c0] (mk pin (x0, x1, ())) = F0 (J3 T3) Gspec_l1In x0 x1 := by kernel_rfl
theorem seg3 (Gspec_l1In : spec_l1In.PI → Option spec_l1In.PO) (Gspec_l1Kind : spec_l1Kind.PI → Option spec_l1Kind.PO) (J3 : List Item → P3 → Option PO) (J5 : List Item → P5 → Option PO) (t0 : List (Int × Int × Int × Int)) (t1 : Int) : arun1 (pg Gspec_l1In Gspec_l1Kind J3 J5) 5000 T3 (mk p3 (t0, t1, ())) = F3 (J5 T5) t0 t1 := by kernel_rfl
theorem seg5 (Gspec_l1In : spec_l1In.PI → Option spec_l1In.PO) (Gspec_l1Kind : spec_l1Kind.PI → Option spec_l1Kind.PO) (J3 : List Item → P3 → Option PO) (J5 : List Item → P5 → Option PO) (t0 : List (Int × Int × Int × Int)) (t1 : Int) (t6 : Int) (r0 : List Int) : arun1 (pg Gspec_l1In Gspec_l1Kind J3 J5) 5000 T5 (mk p5 (t0, t1, t6, r0, ())) = F5 (J5 T5) Gspec_l1Kind t0 t1 t6 r0 := by kernel_rfl
noncomputable def L5 : P5 → Option PO := lfp fun J5 x => F5 J5 spec_l1Kind.impl x.1 x.2.1 x.2.2.1 x.2.2.2.1
noncomputable def L3 : P3 → Option PO := fun x => F3 L5 x.1 x.2.1
noncomputable def impl : PI → Option PO := fun x => F0 L3 spec_l1In.impl x.1 x.2.1
theorem F5_le {J5 J5' : P5 → Option PO} (h5 : OLe J5 J5') {Gspec_l1Kind : spec_l1Kind.PI → Option spec_l1Kind.PO} (t0 : List (Int × Int × Int × Int)) (t1 : Int) (t6 : Int) (r0 : List Int) : OptLe (F5 J5 Gspec_l1Kind t0 t1 t6 r0) (F5 J5' Gspec_l1Kind t0 t1 t6 r0) := by unfold F5; exact .cond (.cond (.bind (.refl _) fun _ => .cond (.refl _) (.cond (.of h5 _) (.refl _))) (.refl _)) (.refl _)
theorem L5_mono : OMono fun J5 (x : P5) => F5 J5 spec_l1Kind.impl x.1 x.2.1 x.2.2.1 x.2.2.2.1 := fun J J' h5 x => F5_le h5 x.1 x.2.1 x.2.2.1 x.2.2.2.1
theorem L5_eq (t0 : List (Int × Int × Int × Int)) (t1 : Int) (t6 : Int) (r0 : List Int) : L5 (t0, t1, t6, r0, ()) = F5 (L5) spec_l1Kind.impl t0 t1 t6 r0 := congrFun (lfp_eq (L5_mono)) _
theorem L3_eq (t0 : List (Int × Int × Int × Int)) (t1 : Int) : L3 (t0, t1, ()) = F3 (L5) t0 t1 := rfl
theorem impl_eq (x0 : List (Int × Int × Int × Int)) (x1 : Int) : impl (x0, x1, ()) = F0 L3 spec_l1In.impl x0 x1 := rfl
theorem con : Con Try.prog 82 2 rs.length 2 pin pout impl := by
  refine con_of_run' (nt := 38) (c := c0) tabGood Try.func82 (by kernel_rfl) (by kernel_rfl) (by kernel_rfl) (by kernel_rfl) (by kernel_rfl) (by kernel_rfl) (by kernel_rfl) ?_
  intro w0 O y hnp
  generalize hPost : (fun (a' : Act) (w' : World) => ∃ μ' S' st', Rel 38 w0 O μ' S' st' a' w' ∧ endOf (tabOf tab) rs 2 pout st' = some y) = Post
  have fin : ∀ (μ : Id → Option Value) (S : Nat → Prop) (st : St) (a : Act) (w : World), Rel 38 w0 O μ S st a w → endOf (tabOf tab) rs 2 pout st = some y → Post a w := fun μ S st a w h he => by rw [← hPost]; exact ⟨μ, S, st, h, he⟩
  have hp : ∀ (J3 : List Item → P3 → Option PO), ∀ (J5 : List Item → P5 → Option PO), Parts Try.prog 82 (pg spec_l1In.impl spec_l1Kind.impl J3 J5) [(3, cut p3 J3), (5, cut p5 J5)] := fun J3 J5 => ⟨tab_ok tabGood rfl, (handAt_ok spec_l1Kind.con (handAt_ok spec_l1In.con handNil_ok)), rfl⟩
  have g5 : Good Try.prog 38 w0 O Post y T5 p5 L5 := good_lfp fun J5 h5 => good_part (hp (atT T3 (fun _ => none)) (atT T5 J5)) (runOK_of (hp (atT T3 (fun _ => none)) (atT T5 J5)) hnp ⟨cutOK_at (p := p3) (T := T3) (J := fun _ => none) good_none, cutOK_at h5, trivial⟩ fin) (fun x => (seg5 spec_l1In.impl spec_l1Kind.impl (atT T3 (fun _ => none)) (atT T5 J5) x.1 x.2.1 x.2.2.1 x.2.2.2.1).trans (by simp only [atT_self] <;> rfl))
  have g3 : Good Try.prog 38 w0 O Post y T3 p3 L3 := good_part (hp (atT T3 (fun _ => none)) (atT T5 L5)) (runOK_of (hp (atT T3 (fun _ => none)) (atT T5 L5)) hnp ⟨cutOK_at (p := p3) (T := T3) (J := fun _ => none) good_none, cutOK_at g5, trivial⟩ fin) (fun x => (seg3 spec_l1In.impl spec_l1Kind.impl (atT T3 (fun _ => none)) (atT T5 L5) x.1 x.2.1).trans (by simp only [atT_self] <;> rfl))
  exact good_first (hp (atT T3 L3) (atT T5 (fun _ => none))) (runOK_of (hp (atT T3 L3) (atT T5 (fun _ => none))) hnp ⟨cutOK_at g3, cutOK_at (p := p5) (T := T5) (J := fun _ => none) good_none, trivial⟩ fin) (fun x => (seg0 spec_l1In.impl spec_l1Kind.impl (atT T3 L3) (atT T5 (fun _ => none)) x.1 x.2.1).trans (by simp only [atT_self] <;> rfl))
end spec_KindsOf

/-! ### loop.example/wholecheck/spec.TermsValid -/
namespace spec_TermsValid
noncomputable abbrev c0 : Code := (Try.f59.body).getD .skip
noncomputable abbrev pin : Tpl := ⟨[⟨0, false, [.d (.sl (.prod (.int .i64) (.prod (.int .i64) (.prod (.int .i64) (.last (.int .i64))))))]⟩, ⟨1, false, [.d (.int .i64)]⟩], []⟩
noncomputable abbrev pout : Tpl := ⟨[⟨0, false, [.d .bool]⟩], []⟩
noncomputable abbrev PI := (List (Int × Int × Int × Int)) × Int × Unit
noncomputable abbrev PO := Bool × Unit
noncomputable abbrev rs : List ResultVar := [.tmp 4]
noncomputable def F0 (Gspec_KindsOf : spec_KindsOf.PI → Option spec_KindsOf.PO) (x0 : List (Int × Int × Int × Int)) (x1 : Int) : Option PO :=
  Option.bind (Gspec_KindsOf (x0, x1, ())) fun y0 =>
  some (decide ((y0.1.length : Int) > 0), ())
noncomputable def hd {R : Type} (Gspec_KindsOf : spec_KindsOf.PI → Option spec_KindsOf.PO) : Hand R := (handAt 82 [7] true ⟨2, 1, 2, spec_KindsOf.pin, spec_KindsOf.pout, Gspec_KindsOf⟩ handNil)
noncomputable def pg (Gspec_KindsOf : spec_KindsOf.PI → Option spec_KindsOf.PO) : Prog PO := { nt := 10, np := 2, tb := tabOf tab, hd := hd Gspec_KindsOf, cuts := cutsOf [], fin := endOf (tabOf tab) rs 2 pout }
theorem seg0 (Gspec_KindsOf : spec_KindsOf.PI → Option spec_KindsOf.PO) (x0 : List (Int × Int × Int × Int)) (x1 : Int) : arun (pg Gspec_KindsOf) 5000 [.code c0] (mk pin (x0, x1, ())) = F0 Gspec_KindsOf x0 x1 := by kernel_rfl
noncomputable def impl : PI → Option PO := fun x => F0 spec_KindsOf.impl x.1 x.2.1
theorem impl_eq (x0 : List (Int × Int × Int × Int)) (x1 : Int) : impl (x0, x1, ()) = F0 spec_KindsOf.impl x0 x1 := rfl
theorem con : Con Try.prog 59 2 rs.length 2 pin pout impl := by
  refine con_of_run' (nt := 10) (c := c0) tabGood Try.func59 (by kernel_rfl) (by kernel_rfl) (by kernel_rfl) (by kernel_rfl) (by kernel_rfl) (by kernel_rfl) (by kernel_rfl) ?_
  intro w0 O y hnp
  generalize hPost : (fun (a' : Act) (w' : World) => ∃ μ' S' st', Rel 10 w0 O μ' S' st' a' w' ∧ endOf (tabOf tab) rs 2 pout st' = some y) = Post
  have fin : ∀ (μ : Id → Option Value) (S : Nat → Prop) (st : St) (a : Act) (w : World), Rel 10 w0 O μ S st a w → endOf (tabOf tab) rs 2 pout st = some y → Post a w := fun μ S st a w h he => by rw [← hPost]; exact ⟨μ, S, st, h, he⟩
  have hp : Parts Try.prog 59 (pg spec_KindsOf.impl) [] := ⟨tab_ok tabGood rfl, (handAt_ok spec_KindsOf.con handNil_ok), rfl⟩
  exact good_first (hp) (runOK_of (hp) hnp trivial fin) (fun x => (seg0 spec_KindsOf.impl x.1 x.2.1))
end spec_TermsValid

/-! ### loop.example/wholecheck/spec.l30Short -/
namespace spec_l30Short
noncomputable abbrev c0 : Code := (Try.f60.body).getD .skip
noncomputable abbrev pin : Tpl := ⟨[⟨0, false, [.d (.sl (.prod (.int .i64) (.prod (.int .i64) (.prod (.int .i64) (.last (.int .i64))))))]⟩], []⟩
noncomputable abbrev pout : Tpl := ⟨[⟨0, false, [.d .bool]⟩], []⟩
noncomputable abbrev p3 : Tpl := ⟨[⟨0, false, [.d (.sl (.prod (.int .i64) (.prod (.int .i64) (.prod (.int .i64) (.last (.int .i64))))))]⟩, ⟨3, false, [.row 3000000]⟩, ⟨4, false, [.d (.int .i64)]⟩], [(3000000, .row 3 false (.int .i64))]⟩
noncomputable def T3 : List Item := (find 3 c0 []).getD []
noncomputable abbrev PI := (List (Int × Int × Int × Int)) × Unit
noncomputable abbrev PO := Bool × Unit
noncomputable abbrev P3 := (List (Int × Int × Int × Int)) × Int × (List Int) × Unit
noncomputable abbrev rs : List ResultVar := [.tmp 2]
noncomputable def F0 (J3 : P3 → Option PO) (x0 : List (Int × Int × Int × Int)) : Option PO :=
  J3 (x0, 0, ([] : List Int), ())
noncomputable def F3 (J3 : P3 → Option PO) (Gspec_l1One : spec_l1One.PI → Option spec_l1One.PO) (t0 : List (Int × Int × Int × Int)) (t4 : Int) (r0 : List Int) : Option PO :=
  bif decide (t4 < (t0.length : Int)) then
    bif inb t4 t0.length then
      bif decide ((t0.getD t4.toNat (0, 0, 0, 0)).1 ≥ 2) then
        bif inb t4 t0.length then
          bif inb (t0.getD t4.toNat (0, 0, 0, 0)).2.2.1 r0.length then
            bif inb t4 t0.length then
              Option.bind (Gspec_l1One ((t0.getD t4.toNat (0, 0, 0, 0)).1, ())) fun y0 =>
              bif !y0.1 then
                bif inb t4 t0.length then
                  bif inb (t0.getD t4.toNat (0, 0, 0, 0)).2.2.2 r0.length then
                    bif decide (wI ((wI (1 + (r0.getD (t0.getD t4.toNat (0, 0, 0, 0)).2.2.1.toNat 0))) + (r0.getD (t0.getD t4.toNat (0, 0, 0, 0)).2.2.2.toNat 0)) > 4000) then
                      bif decide ((r0.length + ([4000] : List Int).length) * 8 ≤ 140737488355328) then
                        J3 (t0, wI (t4 + 1), r0 ++ ([4000] : List Int), ())
                      else
                        none
                    else
                      bif decide ((r0.length + ([wI ((wI (1 + (r0.getD (t0.getD t4.toNat (0, 0, 0, 0)).2.2.1.toNat 0))) + (r0.getD (t0.getD t4.toNat (0, 0, 0, 0)).2.2.2.toNat 0))] : List Int).length) * 8 ≤ 140737488355328) then
                        J3 (t0, wI (t4 + 1), r0 ++ ([wI ((wI (1 + (r0.getD (t0.getD t4.toNat (0, 0, 0, 0)).2.2.1.toNat 0))) + (r0.getD (t0.getD t4.toNat (0, 0, 0, 0)).2.2.2.toNat 0))] : List Int), ())
                      else
                        none
                  else
                    none
                else
                  none
              else
                bif decide (wI (1 + (r0.getD (t0.getD t4.toNat (0, 0, 0, 0)).2.2.1.toNat 0)) > 4000) then
                  bif decide ((r0.length + ([4000] : List Int).length) * 8 ≤ 140737488355328) then
                    J3 (t0, wI (t4 + 1), r0 ++ ([4000] : List Int), ())
                  else
                    none
                else
                  bif decide ((r0.length + ([wI (1 + (r0.getD (t0.getD t4.toNat (0, 0, 0, 0)).2.2.1.toNat 0))] : List Int).length) * 8 ≤ 140737488355328) then
                    J3 (t0, wI (t4 + 1), r0 ++ ([wI (1 + (r0.getD (t0.getD t4.toNat (0, 0, 0, 0)).2.2.1.toNat 0))] : List Int), ())
                  else
                    none
            else
              none
          else
            none
        else
          none
      else
        bif decide ((r0.length + ([1] : List Int).length) * 8 ≤ 140737488355328) then
          J3 (t0, wI (t4 + 1), r0 ++ ([1] : List Int), ())
        else
          none
    else
      none
  else
    bif inb (wI ((r0.length : Int) - 1)) r0.length then
      some (decide (r0.getD (wI ((r0.length : Int) - 1)).toNat 0 < 4000), ())
    else
      none
noncomputable def hd {R : Type} (Gspec_l1One : spec_l1One.PI → Option spec_l1One.PO) : Hand R := (handAt 83 [33] true ⟨1, 1, 1, spec_l1One.pin, spec_l1One.pout, Gspec_l1One⟩ handNil)
noncomputable def pg (Gspec_l1One : spec_l1One.PI → Option spec_l1One.PO) (J3 : List Item → P3 → Option PO) : Prog PO := { nt := 58, np := 1, tb := tabOf tab, hd := hd Gspec_l1One, cuts := cutsOf [(3, cut p3 J3)], fin := endOf (tabOf tab) rs 1 pout }
theorem seg0 (Gspec_l1One : spec_l1One.PI → Option spec_l1One.PO) (J3 : List Item → P3 → Option PO) (x0 : List (Int × Int × Int × Int)) : arun (pg Gspec_l1One J3) 5000 [.code c0] (mk pin (x0, ())) = F0 (J3 T3) x0 := by kernel_rfl
theorem seg3 (Gspec_l1One : spec_l1One.PI → Option spec_l1One.PO) (J3 : List Item → P3 → Option PO) (t0 : List (Int × Int × Int × Int)) (t4 : Int) (r0 : List Int) : arun1 (pg Gspec_l1One J3) 5000 T3 (mk p3 (t0, t4, r0, ())) = F3 (J3 T3) Gspec_l1One t0 t4 r0 := by kernel_rfl
noncomputable def L3 : P3 → Option PO := lfp fun J3 x => F3 J3 spec_l1One.impl x.1 x.2.1 x.2.2.1
noncomputable def impl : PI → Option PO := fun x => F0 L3 x.1
theorem F3_le {J3 J3' : P3 → Option PO} (h3 : OLe J3 J3') {Gspec_l1One : spec_l1One.PI → Option spec_l1One.PO} (t0 : List (Int × Int × Int × Int)) (t4 : Int) (r0 : List Int) : OptLe (F3 J3 Gspec_l1One t0 t4 r0) (F3 J3' Gspec_l1One t0 t4 r0) := by unfold F3; exact .cond (.cond (.cond (.cond (.cond (.cond (.bind (.refl _) fun _ => .cond (.cond (.cond (.cond (.cond (.of h3 _) (.refl _)) (.cond (.of h3 _) (.refl _))) (.refl _)) (.refl _)) (.cond (.cond (.of h3 _) (.refl _)) (.cond (.of h3 _) (.refl _)))) (.refl _)) (.refl _)) (.refl _)) (.cond (.of h3 _) (.refl _))) (.refl _)) (.refl _)
theorem L3_mono : OMono fun J3 (x : P3) => F3 J3 spec_l1One.impl x.1 x.2.1 x.2.2.1 := fun J J' h3 x => F3_le h3 x.1 x.2.1 x.2.2.1
theorem L3_eq (t0 : List (Int × Int × Int × Int)) (t4 : Int) (r0 : List Int) : L3 (t0, t4, r0, ()) = F3 (L3) spec_l1One.impl t0 t4 r0 := congrFun (lfp_eq (L3_mono)) _
theorem impl_eq (x0 : List (Int × Int × Int × Int)) : impl (x0, ()) = F0 L3 x0 := rfl
theorem con : Con Try.prog 60 1 rs.length 1 pin pout impl := by
  refine con_of_run' (nt := 58) (c := c0) tabGood Try.func60 (by kernel_rfl) (by kernel_rfl) (by kernel_rfl) (by kernel_rfl) (by kernel_rfl) (by kernel_rfl) (by kernel_rfl) ?_
  intro w0 O y hnp
  generalize hPost : (fun (a' : Act) (w' : World) => ∃ μ' S' st', Rel 58 w0 O μ' S' st' a' w' ∧ endOf (tabOf tab) rs 1 pout st' = some y) = Post
  have fin : ∀ (μ : Id → Option Value) (S : Nat → Prop) (st : St) (a : Act) (w : World), Rel 58 w0 O μ S st a w → endOf (tabOf tab) rs 1 pout st = some y → Post a w := fun μ S st a w h he => by rw [← hPost]; exact ⟨μ, S, st, h, he⟩
  have hp : ∀ (J3 : List Item → P3 → Option PO), Parts Try.prog 60 (pg spec_l1One.impl J3) [(3, cut p3 J3)] := fun J3 => ⟨tab_ok tabGood rfl, (handAt_ok spec_l1One.con handNil_ok), rfl⟩
  have g3 : Good Try.prog 58 w0 O Post y T3 p3 L3 := good_lfp fun J3 h3 => good_part (hp (atT T3 J3)) (runOK_of (hp (atT T3 J3)) hnp ⟨cutOK_at h3, trivial⟩ fin) (fun x => (seg3 spec_l1One.impl (atT T3 J3) x.1 x.2.1 x.2.2.1).trans (by simp only [atT_self] <;> rfl))
  exact good_first (hp (atT T3 L3)) (runOK_of (hp (atT T3 L3)) hnp ⟨cutOK_at g3, trivial⟩ fin) (fun x => (seg0 spec_l1One.impl (atT T3 L3) x.1).trans (by simp only [atT_self] <;> rfl))
end spec_l30Short

/-! ### loop.example/wholecheck/spec.l30Put -/
namespace spec_l30Put
noncomputable abbrev c0 : Code := (Try.f84.body).getD .skip
noncomputable abbrev pin : Tpl := ⟨[⟨0, true, [.d .str, .d (.int .i64), .row 500001, .row 500002, .d .bool]⟩, ⟨1, true, [.d (.prod (.int .i64) (.prod (.int .i64) (.prod (.int .i64) (.last (.int .i64)))))]⟩], [(500001, .row 9 true .str), (500002, .row 102 true (.prod (.int .i64) (.prod (.int .i64) (.prod (.int .i64) (.last (.int .i64))))))]⟩
noncomputable abbrev pout : Tpl := ⟨[⟨0, true, [.d .str, .d (.int .i64), .row 500001, .row 500002, .d .bool]⟩, ⟨1, false, [.d (.int .i64)]⟩, ⟨2, true, [.any, .any, .row 500001, .any, .any]⟩], [(500001, .row 9 true .str), (500002, .row 102 true (.prod (.int .i64) (.prod (.int .i64) (.prod (.int .i64) (.last (.int .i64))))))]⟩
noncomputable abbrev p2 : Tpl := ⟨[⟨0, true, [.d .str, .d (.int .i64), .row 500001, .row 500002, .d .bool]⟩, ⟨2, false, [.ptr 3000000 0]⟩, ⟨3, false, [.ptr 3000001 0]⟩, ⟨4, false, [.ptr 3000002 0]⟩, ⟨6, false, [.d (.int .i64)]⟩], [(500001, .row 9 true .str), (500002, .row 102 true (.prod (.int .i64) (.prod (.int .i64) (.prod (.int .i64) (.last (.int .i64)))))), (3000000, .box [.d .str, .d (.int .i64), .row 500001, .row 500002, .d .bool]), (3000001, .box [.d (.int .i64), .d (.int .i64), .d (.int .i64), .d (.int .i64)]), (3000002, .box [.d .str, .d (.int .i64), .row 3000003, .row 3000004, .d .bool]), (3000003, .row 9 true .str), (3000004, .row 102 true (.prod (.int .i64) (.prod (.int .i64) (.prod (.int .i64) (.last (.int .i64))))))]⟩
noncomputable def T2 : List Item := (find 2 c0 []).getD []
noncomputable abbrev p4 : Tpl := ⟨[⟨0, true, [.d .str, .d (.int .i64), .row 500001, .row 500002, .d .bool]⟩, ⟨2, false, [.ptr 3000000 0]⟩, ⟨3, false, [.ptr 3000001 0]⟩, ⟨4, false, [.ptr 3000002 0]⟩, ⟨6, false, [.d (.int .i64)]⟩], [(500001, .row 9 true .str), (500002, .row 102 true (.prod (.int .i64) (.prod (.int .i64) (.prod (.int .i64) (.last (.int .i64)))))), (3000000, .box [.d .str, .d (.int .i64), .row 500001, .row 500002, .d .bool]), (3000001, .box [.d (.int .i64), .d (.int .i64), .d (.int .i64), .d (.int .i64)]), (3000002, .box [.d .str, .d (.int .i64), .row 3000003, .row 3000004, .d .bool]), (3000003, .row 9 true .str), (3000004, .row 102 true (.prod (.int .i64) (.prod (.int .i64) (.prod (.int .i64) (.last (.int .i64))))))]⟩
noncomputable def T4 : List Item := (find 4 c0 []).getD []
noncomputable abbrev p8 : Tpl := ⟨[⟨0, true, [.d .str, .d (.int .i64), .row 500001, .any, .d .bool]⟩, ⟨2, false, [.ptr 3000000 0]⟩, ⟨4, false, [.ptr 3000001 0]⟩], [(500001, .row 9 true .str), (3000000, .box [.d .str, .d (.int .i64), .row 500001, .row 500002, .d .bool]), (3000001, .box [.d .str, .d (.int .i64), .row 3000002, .row 3000003, .d .bool]), (500002, .row 102 true (.prod (.int .i64) (.prod (.int .i64) (.prod (.int .i64) (.last (.int .i64)))))), (3000002, .row 9 true .str), (3000003, .row 102 true (.prod (.int .i64) (.prod (.int .i64) (.prod (.int .i64) (.last (.int .i64))))))]⟩
noncomputable def T8 : List Item := (find 8 c0 []).getD []
noncomputable abbrev PI := (List UInt8) × Int × Bool × (Int × Int × Int × Int) × (List (List UInt8)) × (List (Int × Int × Int × Int)) × Unit
noncomputable abbrev PO := (List UInt8) × Int × Bool × Int × (List (List UInt8)) × (List (Int × Int × Int × Int)) × Unit
noncomputable abbrev P2 := (List UInt8) × Int × Bool × Int × (List (List UInt8)) × (List (Int × Int × Int × Int)) × (List UInt8) × Int × Bool × Int × Int × Int × Int × (List UInt8) × Int × Bool × (List (List UInt8)) × (List (Int × Int × Int × Int)) × Unit
noncomputable abbrev P4 := (List UInt8) × Int × Bool × Int × (List (List UInt8)) × (List (Int × Int × Int × Int)) × (List UInt8) × Int × Bool × Int × Int × Int × Int × (List UInt8) × Int × Bool × (List (List UInt8)) × (List (Int × Int × Int × Int)) × Unit
noncomputable abbrev P8 := (List UInt8) × Int × Bool × (List (List UInt8)) × (List UInt8) × Int × Bool × (List UInt8) × Int × Bool × (List (Int × Int × Int × Int)) × (List (List UInt8)) × (List (Int × Int × Int × Int)) × Unit
noncomputable abbrev rs : List ResultVar := [.cell 4 99, .tmp 5]
noncomputable def F0 (J2 : P2 → Option PO) (x0_0 : List UInt8) (x0_1 : Int) (x0_2 : Bool) (x1 : Int × Int × Int × Int) (s1 : List (List UInt8)) (s2 : List (Int × Int × Int × Int)) : Option PO :=
  J2 (x0_0, x0_1, x0_2, 0, s1, s2, x0_0, x0_1, x0_2, x1.1, x1.2.1, x1.2.2.1, x1.2.2.2, [], 0, false, [], [], ())
noncomputable def F2 (J4 : P4 → Option PO) (J8 : P8 → Option PO) (t0_0 : List UInt8) (t0_1 : Int) (t0_2 : Bool) (t6 : Int) (s1 : List (List UInt8)) (s2 : List (Int × Int × Int × Int)) (b0_0 : List UInt8) (b0_1 : Int) (b0_2 : Bool) (b1_0 : Int) (b1_1 : Int) (b1_2 : Int) (b1_3 : Int) (b2_0 : List UInt8) (b2_1 : Int) (b2_2 : Bool) (r3 : List (List UInt8)) (r4 : List (Int × Int × Int × Int)) : Option PO :=
  bif decide (t6 < (s2.length : Int)) then
    J4 (t0_0, t0_1, t0_2, t6, s1, s2, b0_0, b0_1, b0_2, b1_0, b1_1, b1_2, b1_3, b2_0, b2_1, b2_2, r3, r4, ())
  else
    bif decide ((s2.length + ([(b1_0, b1_1, b1_2, b1_3)] : List (Int × Int × Int × Int)).length) * 32 ≤ 140737488355328) then
      bif b0_2 then
        J8 (t0_0, t0_1, t0_2, s1, b0_0, b0_1, decide (((s2 ++ ([(b1_0, b1_1, b1_2, b1_3)] : List (Int × Int × Int × Int))).length : Int) ≤ 40), b2_0, b2_1, b2_2, s2 ++ ([(b1_0, b1_1, b1_2, b1_3)] : List (Int × Int × Int × Int)), r3, r4, ())
      else
        J8 (t0_0, t0_1, t0_2, s1, b0_0, b0_1, false, b2_0, b2_1, b2_2, s2 ++ ([(b1_0, b1_1, b1_2, b1_3)] : List (Int × Int × Int × Int)), r3, r4, ())
    else
      none
noncomputable def F4 (J2 : P2 → Option PO) (t0_0 : List UInt8) (t0_1 : Int) (t0_2 : Bool) (t6 : Int) (s1 : List (List UInt8)) (s2 : List (Int × Int × Int × Int)) (b0_0 : List UInt8) (b0_1 : Int) (b0_2 : Bool) (b1_0 : Int) (b1_1 : Int) (b1_2 : Int) (b1_3 : Int) (b2_0 : List UInt8) (b2_1 : Int) (b2_2 : Bool) (r3 : List (List UInt8)) (r4 : List (Int × Int × Int × Int)) : Option PO :=
  bif inb t6 s2.length then
    bif (((s2.getD t6.toNat (0, 0, 0, 0)).1 == b1_0) && (((s2.getD t6.toNat (0, 0, 0, 0)).2.1 == b1_1) && (((s2.getD t6.toNat (0, 0, 0, 0)).2.2.1 == b1_2) && ((s2.getD t6.toNat (0, 0, 0, 0)).2.2.2 == b1_3)))) then
      some (b0_0, b0_1, b0_2, t6, s1, s2, ())
    else
      J2 (t0_0, t0_1, t0_2, wI (t6 + 1), s1, s2, b0_0, b0_1, b0_2, b1_0, b1_1, b1_2, b1_3, b2_0, b2_1, b2_2, r3, r4, ())
  else
    none
noncomputable def F8 (t0_0 : List UInt8) (t0_1 : Int) (t0_2 : Bool) (s1 : List (List UInt8)) (b0_0 : List UInt8) (b0_1 : Int) (b0_2 : Bool) (b1_0 : List UInt8) (b1_1 : Int) (b1_2 : Bool) (s2 : List (Int × Int × Int × Int)) (r2 : List (List UInt8)) (r3 : List (Int × Int × Int × Int)) : Option PO :=
  some (b0_0, b0_1, b0_2, wI ((s2.length : Int) - 1), s1, s2, ())
noncomputable def hd {R : Type} : Hand R := handNil
noncomputable def pg (J2 : List Item → P2 → Option PO) (J4 : List Item → P4 → Option PO) (J8 : List Item → P8 → Option PO) : Prog PO := { nt := 43, np := 2, tb := tabOf tab, hd := hd, cuts := cutsOf [(2, cut p2 J2), (4, cut p4 J4), (8, cut p8 J8)], fin := endOf (tabOf tab) rs 2 pout }
theorem seg0 (J2 : List Item → P2 → Option PO) (J4 : List Item → P4 → Option PO) (J8 : List Item → P8 → Option PO) (x0_0 : List UInt8) (x0_1 : Int) (x0_2 : Bool) (x1 : Int × Int × Int × Int) (s1 : List (List UInt8)) (s2 : List (Int × Int × Int × Int)) : arun (pg J2 J4 J8) 5000 [.code c0] (mk pin (x0_0, x0_1, x0_2, x1, s1, s2, ())) = F0 (J2 T2) x0_0 x0_1 x0_2 x1 s1 s2 := by kernel_rfl
theorem seg2 (J2 : List Item → P2 → Option PO) (J4 : List Item → P4 → Option PO) (J8 : List Item → P8 → Option PO) (t0_0 : List UInt8) (t0_1 : Int) (t0_2 : Bool) (t6 : Int) (s1 : List (List UInt8)) (s2 : List (Int × Int × Int × Int)) (b0_0 : List UInt8) (b0_1 : Int) (b0_2 : Bool) (b1_0 : Int) (b1_1 : Int) (b1_2 : Int) (b1_3 : Int) (b2_0 : List UInt8) (b2_1 : Int) (b2_2 : Bool) (r3 : List (List UInt8)) (r4 : List (Int × Int × Int × Int)) : arun1 (pg J2 J4 J8) 5000 T2 (mk p2 (t0_0, t0_1, t0_2, t6, s1, s2, b0_0, b0_1, b0_2, b1_0, b1_1, b1_2, b1_3, b2_0, b2_1, b2_2, r3, r4, ())) = F2 (J4 T4) (J8 T8) t0_0 t0_1 t0_2 t6 s1 s2 b0_0 b0_1 b0_2 b1_0 b1_1 b1_2 b1_3 b2_0 b2_1 b2_2 r3 r4 := by kernel_rfl
theorem seg4 (J2 : List Item → P2 → Option PO) (J4 : List Item → P4 → Option PO) (J8 : List Item → P8 → Option PO) (t0_0 : List UInt8) (t0_1 : Int) (t0_2 : Bool) (t6 : Int) (s1 : List (List UInt8)) (s2 : List (Int × Int × Int × Int)) (b0_0 : List UInt8) (b0_1 : Int) (b0_2 : Bool) (b1_0 : Int) (b1_1 : Int) (b1_2 : Int) (b1_3 : Int) (b2_0 : List UInt8) (b2_1 : Int) (b2_2 : Bool) (r3 : List (List UInt8)) (r4 : List (Int × Int × Int × Int)) : arunE (pg J2 J4 J8) 5000 T4 (mk p4 (t0_0, t0_1, t0_2, t6, s1, s2, b0_0, b0_1, b0_2, b1_0, b1_1, b1_2, b1_3, b2_0, b2_1, b2_2, r3, r4, ())) = List.replicate (arunE (pg J2 J4 J8) 5000 T4 (mk p4 (t0_0, t0_1, t0_2, t6, s1, s2, b0_0, b0_1, b0_2, b1_0, b1_1, b1_2, b1_3, b2_0, b2_1, b2_2, r3, r4, ()))).length (F4 (J2 T2) t0_0 t0_1 t0_2 t6 s1 s2 b0_0 b0_1 b0_2 b1_0 b1_1 b1_2 b1_3 b2_0 b2_1 b2_2 r3 r4) := by kernel_rfl
theorem seg8 (J2 : List Item → P2 → Option PO) (J4 : List Item → P4 → Option PO) (J8 : List Item → P8 → Option PO) (t0_0 : List UInt8) (t0_1 : Int) (t0_2 : Bool) (s1 : List (List UInt8)) (b0_0 : List UInt8) (b0_1 : Int) (b0_2 : Bool) (b1_0 : List UInt8) (b1_1 : Int) (b1_2 : Bool) (s2 : List (Int × Int × Int × Int)) (r2 : List (List UInt8)) (r3 : List (Int × Int × Int × Int)) : arunE (pg J2 J4 J8) 5000 T8 (mk p8 (t0_0, t0_1, t0_2, s1, b0_0, b0_1, b0_2, b1_0, b1_1, b1_2, s2, r2, r3, ())) = List.replicate (arunE (pg J2 J4 J8) 5000 T8 (mk p8 (t0_0, t0_1, t0_2, s1, b0_0, b0_1, b0_2, b1_0, b1_1, b1_2, s2, r2, r3, ()))).length (F8 t0_0 t0_1 t0_2 s1 b0_0 b0_1 b0_2 b1_0 b1_1 b1_2 s2 r2 r3) := by kernel_rfl
noncomputable def L8 : P8 → Option PO := fun x => F8 x.1 x.2.1 x.2.2.1 x.2.2.2.1 x.2.2.2.2.1 x.2.2.2.2.2.1 x.2.2.2.2.2.2.1 x.2.2.2.2.2.2.2.1 x.2.2.2.2.2.2.2.2.1 x.2.2.2.2.2.2.2.2.2.1 x.2.2.2.2.2.2.2.2.2.2.1 x.2.2.2.2.2.2.2.2.2.2.2.1 x.2.2.2.2.2.2.2.2.2.2.2.2.1
noncomputable def L4 (J2 : P2 → Option PO) : P4 → Option PO := fun x => F4 J2 x.1 x.2.1 x.2.2.1 x.2.2.2.1 x.2.2.2.2.1 x.2.2.2.2.2.1 x.2.2.2.2.2.2.1 x.2.2.2.2.2.2.2.1 x.2.2.2.2.2.2.2.2.1 x.2.2.2.2.2.2.2.2.2.1 x.2.2.2.2.2.2.2.2.2.2.1 x.2.2.2.2.2.2.2.2.2.2.2.1 x.2.2.2.2.2.2.2.2.2.2.2.2.1 x.2.2.2.2.2.2.2.2.2.2.2.2.2.1 x.2.2.2.2.2.2.2.2.2.2.2.2.2.2.1 x.2.2.2.2.2.2.2.2.2.2.2.2.2.2.2.1 x.2.2.2.2.2.2.2.2.2.2.2.2.2.2.2.2.1 x.2.2.2.2.2.2.2.2.2.2.2.2.2.2.2.2.2.1
noncomputable def L2 : P2 → Option PO := lfp fun J2 x => F2 (L4 J2) L8 x.1 x.2.1 x.2.2.1 x.2.2.2.1 x.2.2.2.2.1 x.2.2.2.2.2.1 x.2.2.2.2.2.2.1 x.2.2.2.2.2.2.2.1 x.2.2.2.2.2.2.2.2.1 x.2.2.2.2.2.2.2.2.2.1 x.2.2.2.2.2.2.2.2.2.2.1 x.2.2.2.2.2.2.2.2.2.2.2.1 x.2.2.2.2.2.2.2.2.2.2.2.2.1 x.2.2.2.2.2.2.2.2.2.2.2.2.2.1 x.2.2.2.2.2.2.2.2.2.2.2.2.2.2.1 x.2.2.2.2.2.2.2.2.2.2.2.2.2.2.2.1 x.2.2.2.2.2.2.2.2.2.2.2.2.2.2.2.2.1 x.2.2.2.2.2.2.2.2.2.2.2.2.2.2.2.2.2.1
noncomputable def impl : PI → Option PO := fun x => F0 L2 x.1 x.2.1 x.2.2.1 x.2.2.2.1 x.2.2.2.2.1 x.2.2.2.2.2.1
theorem F4_le {J2 J2' : P2 → Option PO} (h2 : OLe J2 J2') (t0_0 : List UInt8) (t0_1 : Int) (t0_2 : Bool) (t6 : Int) (s1 : List (List UInt8)) (s2 : List (Int × Int × Int × Int)) (b0_0 : List UInt8) (b0_1 : Int) (b0_2 : Bool) (b1_0 : Int) (b1_1 : Int) (b1_2 : Int) (b1_3 : Int) (b2_0 : List UInt8) (b2_1 : Int) (b2_2 : Bool) (r3 : List (List UInt8)) (r4 : List (Int × Int × Int × Int)) : OptLe (F4 J2 t0_0 t0_1 t0_2 t6 s1 s2 b0_0 b0_1 b0_2 b1_0 b1_1 b1_2 b1_3 b2_0 b2_1 b2_2 r3 r4) (F4 J2' t0_0 t0_1 t0_2 t6 s1 s2 b0_0 b0_1 b0_2 b1_0 b1_1 b1_2 b1_3 b2_0 b2_1 b2_2 r3 r4) := by unfold F4; exact .cond (.cond (.refl _) (.of h2 _)) (.refl _)
theorem F2_le {J4 J4' : P4 → Option PO} (h4 : OLe J4 J4') {J8 J8' : P8 → Option PO} (h8 : OLe J8 J8') (t0_0 : List UInt8) (t0_1 : Int) (t0_2 : Bool) (t6 : Int) (s1 : List (List UInt8)) (s2 : List (Int × Int × Int × Int)) (b0_0 : List UInt8) (b0_1 : Int) (b0_2 : Bool) (b1_0 : Int) (b1_1 : Int) (b1_2 : Int) (b1_3 : Int) (b2_0 : List UInt8) (b2_1 : Int) (b2_2 : Bool) (r3 : List (List UInt8)) (r4 : List (Int × Int × Int × Int)) : OptLe (F2 J4 J8 t0_0 t0_1 t0_2 t6 s1 s2 b0_0 b0_1 b0_2 b1_0 b1_1 b1_2 b1_3 b2_0 b2_1 b2_2 r3 r4) (F2 J4' J8' t0_0 t0_1 t0_2 t6 s1 s2 b0_0 b0_1 b0_2 b1_0 b1_1 b1_2 b1_3 b2_0 b2_1 b2_2 r3 r4) := by unfold F2; exact .cond (.of h4 _) (.cond (.cond (.of h8 _) (.of h8 _)) (.refl _))
theorem L8_eq (t0_0 : List UInt8) (t0_1 : Int) (t0_2 : Bool) (s1 : List (List UInt8)) (b0_0 : List UInt8) (b0_1 : Int) (b0_2 : Bool) (b1_0 : List UInt8) (b1_1 : Int) (b1_2 : Bool) (s2 : List (Int × Int × Int × Int)) (r2 : List (List UInt8)) (r3 : List (Int × Int × Int × Int)) : L8 (t0_0, t0_1, t0_2, s1, b0_0, b0_1, b0_2, b1_0, b1_1, b1_2, s2, r2, r3, ()) = F8 t0_0 t0_1 t0_2 s1 b0_0 b0_1 b0_2 b1_0 b1_1 b1_2 s2 r2 r3 := rfl
theorem L4_eq (J2 : P2 → Option PO) (t0_0 : List UInt8) (t0_1 : Int) (t0_2 : Bool) (t6 : Int) (s1 : List (List UInt8)) (s2 : List (Int × Int × Int × Int)) (b0_0 : List UInt8) (b0_1 : Int) (b0_2 : Bool) (b1_0 : Int) (b1_1 : Int) (b1_2 : Int) (b1_3 : Int) (b2_0 : List UInt8) (b2_1 : Int) (b2_2 : Bool) (r3 : List (List UInt8)) (r4 : List (Int × Int × Int × Int)) : L4 J2 (t0_0, t0_1, t0_2, t6, s1, s2, b0_0, b0_1, b0_2, b1_0, b1_1, b1_2, b1_3, b2_0, b2_1, b2_2, r3, r4, ()) = F4 J2 t0_0 t0_1 t0_2 t6 s1 s2 b0_0 b0_1 b0_2 b1_0 b1_1 b1_2 b1_3 b2_0 b2_1 b2_2 r3 r4 := rfl
theorem L4_le {J2 J2' : P2 → Option PO} (h2 : OLe J2 J2') : OLe (L4 J2) (L4 J2') := fun x => F4_le h2 x.1 x.2.1 x.2.2.1 x.2.2.2.1 x.2.2.2.2.1 x.2.2.2.2.2.1 x.2.2.2.2.2.2.1 x.2.2.2.2.2.2.2.1 x.2.2.2.2.2.2.2.2.1 x.2.2.2.2.2.2.2.2.2.1 x.2.2.2.2.2.2.2.2.2.2.1 x.2.2.2.2.2.2.2.2.2.2.2.1 x.2.2.2.2.2.2.2.2.2.2.2.2.1 x.2.2.2.2.2.2.2.2.2.2.2.2.2.1 x.2.2.2.2.2.2.2.2.2.2.2.2.2.2.1 x.2.2.2.2.2.2.2.2.2.2.2.2.2.2.2.1 x.2.2.2.2.2.2.2.2.2.2.2.2.2.2.2.2.1 x.2.2.2.2.2.2.2.2.2.2.2.2.2.2.2.2.2.1
theorem L2_mono : OMono fun J2 (x : P2) => F2 (L4 J2) L8 x.1 x.2.1 x.2.2.1 x.2.2.2.1 x.2.2.2.2.1 x.2.2.2.2.2.1 x.2.2.2.2.2.2.1 x.2.2.2.2.2.2.2.1 x.2.2.2.2.2.2.2.2.1 x.2.2.2.2.2.2.2.2.2.1 x.2.2.2.2.2.2.2.2.2.2.1 x.2.2.2.2.2.2.2.2.2.2.2.1 x.2.2.2.2.2.2.2.2.2.2.2.2.1 x.2.2.2.2.2.2.2.2.2.2.2.2.2.1 x.2.2.2.2.2.2.2.2.2.2.2.2.2.2.1 x.2.2.2.2.2.2.2.2.2.2.2.2.2.2.2.1 x.2.2.2.2.2.2.2.2.2.2.2.2.2.2.2.2.1 x.2.2.2.2.2.2.2.2.2.2.2.2.2.2.2.2.2.1 := fun J J' h2 x => F2_le (L4_le h2) (fun _ _ h => h) x.1 x.2.1 x.2.2.1 x.2.2.2.1 x.2.2.2.2.1 x.2.2.2.2.2.1 x.2.2.2.2.2.2.1 x.2.2.2.2.2.2.2.1 x.2.2.2.2.2.2.2.2.1 x.2.2.2.2.2.2.2.2.2.1 x.2.2.2.2.2.2.2.2.2.2.1 x.2.2.2.2.2.2.2.2.2.2.2.1 x.2.2.2.2.2.2.2.2.2.2.2.2.1 x.2.2.2.2.2.2.2.2.2.2.2.2.2.1 x.2.2.2.2.2.2.2.2.2.2.2.2.2.2.1 x.2.2.2.2.2.2.2.2.2.2.2.2.2.2.2.1 x.2.2.2.2.2.2.2.2.2.2.2.2.2.2.2.2.1 x.2.2.2.2.2.2.2.2.2.2.2.2.2.2.2.2.2.1
theorem L2_eq (t0_0 : List UInt8) (t0_1 : Int) (t0_2 : Bool) (t6 : Int) (s1 : List (List UInt8)) (s2 : List (Int × Int × Int × Int)) (b0_0 : List UInt8) (b0_1 : Int) (b0_2 : Bool) (b1_0 : Int) (b1_1 : Int) (b1_2 : Int) (b1_3 : Int) (b2_0 : List UInt8) (b2_1 : Int) (b2_2 : Bool) (r3 : List (List UInt8)) (r4 : List (Int × Int × Int × Int)) : L2 (t0_0, t0_1, t0_2, t6, s1, s2, b0_0, b0_1, b0_2, b1_0, b1_1, b1_2, b1_3, b2_0, b2_1, b2_2, r3, r4, ()) = F2 (L4 (L2)) (L8) t0_0 t0_1 t0_2 t6 s1 s2 b0_0 b0_1 b0_2 b1_0 b1_1 b1_2 b1_3 b2_0 b2_1 b2_2 r3 r4 := congrFun (lfp_eq (L2_mono)) _
theorem impl_eq (x0_0 : List UInt8) (x0_1 : Int) (x0_2 : Bool) (x1 : Int × Int × Int × Int) (s1 : List (List UInt8)) (s2 : List (Int × Int × Int × Int)) : impl (x0_0, x0_1, x0_2, x1, s1, s2, ()) = F0 L2 x0_0 x0_1 x0_2 x1 s1 s2 := rfl
theorem con : Con Try.prog 84 2 rs.length 2 pin pout impl := by
  refine con_of_run' (nt := 43) (c := c0) tabGood Try.func84 (by kernel_rfl) (by kernel_rfl) (by kernel_rfl) (by kernel_rfl) (by kernel_rfl) (by kernel_rfl) (by kernel_rfl) ?_
  intro w0 O y hnp
  generalize hPost : (fun (a' : Act) (w' : World) => ∃ μ' S' st', Rel 43 w0 O μ' S' st' a' w' ∧ endOf (tabOf tab) rs 2 pout st' = some y) = Post
  have fin : ∀ (μ : Id → Option Value) (S : Nat → Prop) (st : St) (a : Act) (w : World), Rel 43 w0 O μ S st a w → endOf (tabOf tab) rs 2 pout st = some y → Post a w := fun μ S st a w h he => by rw [← hPost]; exact ⟨μ, S, st, h, he⟩
  have hp : ∀ (J2 : List Item → P2 → Option PO), ∀ (J4 : List Item → P4 → Option PO), ∀ (J8 : List Item → P8 → Option PO), Parts Try.prog 84 (pg J2 J4 J8) [(2, cut p2 J2), (4, cut p4 J4), (8, cut p8 J8)] := fun J2 J4 J8 => ⟨tab_ok tabGood rfl, handNil_ok, rfl⟩
  have g8 : Good Try.prog 43 w0 O Post y T8 p8 L8 := good_orders (hs := hd) (cv' := hd) (Checked.mixed Try.checked) (hp (atT T2 (fun _ => none)) (atT T4 (fun _ => none)) (atT T8 (fun _ => none))) handNil_ok handNil_nat handNil_nat (runOK_of (hp (atT T2 (fun _ => none)) (atT T4 (fun _ => none)) (atT T8 (fun _ => none))) hnp ⟨cutOK_at (p := p2) (T := T2) (J := fun _ => none) good_none, cutOK_at (p := p4) (T := T4) (J := fun _ => none) good_none, cutOK_at (p := p8) (T := T8) (J := fun _ => none) good_none, trivial⟩ fin) (fun x => ⟨_, (seg8 (atT T2 (fun _ => none)) (atT T4 (fun _ => none)) (atT T8 (fun _ => none)) x.1 x.2.1 x.2.2.1 x.2.2.2.1 x.2.2.2.2.1 x.2.2.2.2.2.1 x.2.2.2.2.2.2.1 x.2.2.2.2.2.2.2.1 x.2.2.2.2.2.2.2.2.1 x.2.2.2.2.2.2.2.2.2.1 x.2.2.2.2.2.2.2.2.2.2.1 x.2.2.2.2.2.2.2.2.2.2.2.1 x.2.2.2.2.2.2.2.2.2.2.2.2.1)⟩)
  have g4 : ∀ (J2 : P2 → Option PO), Good Try.prog 43 w0 O Post y T2 p2 J2 → Good Try.prog 43 w0 O Post y T4 p4 (L4 J2) := fun J2 h2 => good_orders (hs := hd) (cv' := hd) (Checked.mixed Try.checked) (hp (atT T2 J2) (atT T4 (fun _ => none)) (atT T8 (fun _ => none))) handNil_ok handNil_nat handNil_nat (runOK_of (hp (atT T2 J2) (atT T4 (fun _ => none)) (atT T8 (fun _ => none))) hnp ⟨cutOK_at h2, cutOK_at (p := p4) (T := T4) (J := fun _ => none) good_none, cutOK_at (p := p8) (T := T8) (J := fun _ => none) good_none, trivial⟩ fin) (fun x => ⟨_, (seg4 (atT T2 J2) (atT T4 (fun _ => none)) (atT T8 (fun _ => none)) x.1 x.2.1 x.2.2.1 x.2.2.2.1 x.2.2.2.2.1 x.2.2.2.2.2.1 x.2.2.2.2.2.2.1 x.2.2.2.2.2.2.2.1 x.2.2.2.2.2.2.2.2.1 x.2.2.2.2.2.2.2.2.2.1 x.2.2.2.2.2.2.2.2.2.2.1 x.2.2.2.2.2.2.2.2.2.2.2.1 x.2.2.2.2.2.2.2.2.2.2.2.2.1 x.2.2.2.2.2.2.2.2.2.2.2.2.2.1 x.2.2.2.2.2.2.2.2.2.2.2.2.2.2.1 x.2.2.2.2.2.2.2.2.2.2.2.2.2.2.2.1 x.2.2.2.2.2.2.2.2.2.2.2.2.2.2.2.2.1 x.2.2.2.2.2.2.2.2.2.2.2.2.2.2.2.2.2.1).trans (by simp only [atT_self] <;> rfl)⟩)
  have g2 : Good Try.prog 43 w0 O Post y T2 p2 L2 := good_lfp fun J2 h2 => good_part (hp (atT T2 (fun _ => none)) (atT T4 (L4 J2)) (atT T8 L8)) (runOK_of (hp (atT T2 (fun _ => none)) (atT T4 (L4 J2)) (atT T8 L8)) hnp ⟨cutOK_at (p := p2) (T := T2) (J := fun _ => none) good_none, cutOK_at (g4 J2 h2), cutOK_at g8, trivial⟩ fin) (fun x => (seg2 (atT T2 (fun _ => none)) (atT T4 (L4 J2)) (atT T8 L8) x.1 x.2.1 x.2.2.1 x.2.2.2.1 x.2.2.2.2.1 x.2.2.2.2.2.1 x.2.2.2.2.2.2.1 x.2.2.2.2.2.2.2.1 x.2.2.2.2.2.2.2.2.1 x.2.2.2.2.2.2.2.2.2.1 x.2.2.2.2.2.2.2.2.2.2.1 x.2.2.2.2.2.2.2.2.2.2.2.1 x.2.2.2.2.2.2.2.2.2.2.2.2.1 x.2.2.2.2.2.2.2.2.2.2.2.2.2.1 x.2.2.2.2.2.2.2.2.2.2.2.2.2.2.1 x.2.2.2.2.2.2.2.2.2.2.2.2.2.2.2.1 x.2.2.2.2.2.2.2.2.2.2.2.2.2.2.2.2.1 x.2.2.2.2.2.2.2.2.2.2.2.2.2.2.2.2.2.1).trans (by simp only [atT_self] <;> rfl))
  exact good_first (hp (atT T2 L2) (atT T4 (fun _ => none)) (atT T8 (fun _ => none))) (runOK_of (hp (atT T2 L2) (atT T4 (fun _ => none)) (atT T8 (fun _ => none))) hnp ⟨cutOK_at g2, cutOK_at (p := p4) (T := T4) (J := fun _ => none) good_none, cutOK_at (p := p8) (T := T8) (J := fun _ => none) good_none, trivial⟩ fin) (fun x => (seg0 (atT T2 L2) (atT T4 (fun _ => none)) (atT T8 (fun _ => none)) x.1 x.2.1 x.2.2.1 x.2.2.2.1 x.2.2.2.2.1 x.2.2.2.2.2.1).trans (by simp only [atT_self] <;> rfl))
end spec_l30Put

/-! ### loop.example/wholecheck/spec.l30Trim -/
namespace spec_l30Trim
noncomputable abbrev c0 : Code := (Try.f61.body).getD .skip
noncomputable abbrev pin : Tpl := ⟨[⟨0, true, [.d .str, .d (.int .i64), .row 500001, .row 500002, .d .bool]⟩, ⟨1, false, [.d (.sl (.prod (.int .i64) (.prod (.int .i64) (.prod (.int .i64) (.last (.int .i64))))))]⟩, ⟨2, false, [.d (.int .i64)]⟩], [(500001, .row 9 true .str), (500002, .row 102 true (.prod (.int .i64) (.prod (.int .i64) (.prod (.int .i64) (.last (.int .i64))))))]⟩
noncomputable abbrev pout : Tpl := ⟨[⟨0, true, [.d .str, .d (.int .i64), .row 500001, .row 500002, .d .bool]⟩, ⟨1, false, [.d (.int .i64)]⟩, ⟨2, true, [.any, .any, .row 500001, .any, .any]⟩], [(500001, .row 9 true .str), (500002, .row 102 true (.prod (.int .i64) (.prod (.int .i64) (.prod (.int .i64) (.last (.int .i64))))))]⟩
noncomputable abbrev PI := (List UInt8) × Int × Bool × (List (Int × Int × Int × Int)) × Int × (List (List UInt8)) × (List (Int × Int × Int × Int)) × Unit
noncomputable abbrev PO := (List UInt8) × Int × Bool × Int × (List (List UInt8)) × (List (Int × Int × Int × Int)) × Unit
noncomputable abbrev rs : List ResultVar := [.cell 6 99, .tmp 7]
noncomputable def F0 (Gspec_l1One : spec_l1One.PI → Option spec_l1One.PO) (Gspec_l30Put : spec_l30Put.PI → Option spec_l30Put.PO) (Gspec_l30Trim : PI → Option PO) (x0_0 : List UInt8) (x0_1 : Int) (x0_2 : Bool) (x1 : List (Int × Int × Int × Int)) (x2 : Int) (s1 : List (List UInt8)) (s2 : List (Int × Int × Int × Int)) : Option PO :=
  bif inb x2 x1.length then
    bif decide ((x1.getD x2.toNat (0, 0, 0, 0)).1 < 2) then
      Option.bind (Gspec_l30Put (x0_0, x0_1, x0_2, x1.getD x2.toNat (0, 0, 0, 0), s1, s2, ())) fun y0 =>
      some (y0.1, y0.2.1, y0.2.2.1, y0.2.2.2.1, y0.2.2.2.2.1, y0.2.2.2.2.2.1, ())
    else
      Option.bind (Gspec_l30Trim (x0_0, x0_1, x0_2, x1, (x1.getD x2.toNat (0, 0, 0, 0)).2.2.1, s1, s2, ())) fun y1 =>
      Option.bind (Gspec_l1One ((x1.getD x2.toNat (0, 0, 0, 0)).1, ())) fun y2 =>
      bif y2.1 then
        Option.bind (Gspec_l30Put (y1.1, y1.2.1, y1.2.2.1, ((x1.getD x2.toNat (0, 0, 0, 0)).1, 0, y1.2.2.2.1, y1.2.2.2.1), y1.2.2.2.2.1, y1.2.2.2.2.2.1, ())) fun y3 =>
        some (y3.1, y3.2.1, y3.2.2.1, y3.2.2.2.1, y3.2.2.2.2.1, y3.2.2.2.2.2.1, ())
      else
        Option.bind (Gspec_l30Trim (y1.1, y1.2.1, y1.2.2.1, x1, (x1.getD x2.toNat (0, 0, 0, 0)).2.2.2, y1.2.2.2.2.1, y1.2.2.2.2.2.1, ())) fun y4 =>
        Option.bind (Gspec_l30Put (y4.1, y4.2.1, y4.2.2.1, ((x1.getD x2.toNat (0, 0, 0, 0)).1, 0, y1.2.2.2.1, y4.2.2.2.1), y4.2.2.2.2.1, y4.2.2.2.2.2.1, ())) fun y5 =>
        some (y5.1, y5.2.1, y5.2.2.1, y5.2.2.2.1, y5.2.2.2.2.1, y5.2.2.2.2.2.1, ())
  else
    none
noncomputable def hd {R : Type} (Gspec_l1One : spec_l1One.PI → Option spec_l1One.PO) (Gspec_l30Put : spec_l30Put.PI → Option spec_l30Put.PO) (Gspec_l30Trim : PI → Option PO) : Hand R := (handAt 84 [22, 42, 59] true ⟨2, 2, 2, spec_l30Put.pin, spec_l30Put.pout, Gspec_l30Put⟩ (handAt 83 [35] true ⟨1, 1, 1, spec_l1One.pin, spec_l1One.pout, Gspec_l1One⟩ (handAt 61 [30, 50] true ⟨3, 2, 3, pin, pout, Gspec_l30Trim⟩ handNil)))
noncomputable def pg (Gspec_l1One : spec_l1One.PI → Option spec_l1One.PO) (Gspec_l30Put : spec_l30Put.PI → Option spec_l30Put.PO) (Gspec_l30Trim : PI → Option PO) : Prog PO := { nt := 62, np := 3, tb := tabOf tab, hd := hd Gspec_l1One Gspec_l30Put Gspec_l30Trim, cuts := cutsOf [], fin := endOf (tabOf tab) rs 3 pout }
theorem seg0 (Gspec_l1One : spec_l1One.PI → Option spec_l1One.PO) (Gspec_l30Put : spec_l30Put.PI → Option spec_l30Put.PO) (Gspec_l30Trim : PI → Option PO) (x0_0 : List UInt8) (x0_1 : Int) (x0_2 : Bool) (x1 : List (Int × Int × Int × Int)) (x2 : Int) (s1 : List (List UInt8)) (s2 : List (Int × Int × Int × Int)) : arun (pg Gspec_l1One Gspec_l30Put Gspec_l30Trim) 5000 [.code c0] (mk pin (x0_0, x0_1, x0_2, x1, x2, s1, s2, ())) = F0 Gspec_l1One Gspec_l30Put Gspec_l30Trim x0_0 x0_1 x0_2 x1 x2 s1 s2 := by kernel_rfl
noncomputable def step (Gself : PI → Option PO) : PI → Option PO := fun x => F0 spec_l1One.impl spec_l30Put.impl Gself x.1 x.2.1 x.2.2.1 x.2.2.2.1 x.2.2.2.2.1 x.2.2.2.2.2.1 x.2.2.2.2.2.2.1
noncomputable def impl : PI → Option PO := lfp step
theorem F0_le {Gspec_l1One : spec_l1One.PI → Option spec_l1One.PO} {Gspec_l30Put : spec_l30Put.PI → Option spec_l30Put.PO} {Gself Gself' : PI → Option PO} (hG : OLe Gself Gself') (x0_0 : List UInt8) (x0_1 : Int) (x0_2 : Bool) (x1 : List (Int × Int × Int × Int)) (x2 : Int) (s1 : List (List UInt8)) (s2 : List (Int × Int × Int × Int)) : OptLe (F0 Gspec_l1One Gspec_l30Put Gself x0_0 x0_1 x0_2 x1 x2 s1 s2) (F0 Gspec_l1One Gspec_l30Put Gself' x0_0 x0_1 x0_2 x1 x2 s1 s2) := by unfold F0; exact .cond (.cond (.refl _) (.bind (.of hG _) fun _ => .bind (.refl _) fun _ => .cond (.refl _) (.bind (.of hG _) fun _ => .refl _))) (.refl _)
theorem step_mono : OMono step := fun G G' hG x => F0_le hG x.1 x.2.1 x.2.2.1 x.2.2.2.1 x.2.2.2.2.1 x.2.2.2.2.2.1 x.2.2.2.2.2.2.1
theorem impl_eq (x0_0 : List UInt8) (x0_1 : Int) (x0_2 : Bool) (x1 : List (Int × Int × Int × Int)) (x2 : Int) (s1 : List (List UInt8)) (s2 : List (Int × Int × Int × Int)) : impl (x0_0, x0_1, x0_2, x1, x2, s1, s2, ()) = F0 spec_l1One.impl spec_l30Put.impl impl x0_0 x0_1 x0_2 x1 x2 s1 s2 := congrFun (lfp_eq step_mono) _
theorem con_step (Gself : PI → Option PO) (hself : Con Try.prog 61 3 rs.length 3 pin pout Gself) : Con Try.prog 61 3 rs.length 3 pin pout (step Gself) := by
  refine con_of_run' (nt := 62) (c := c0) tabGood Try.func61 (by kernel_rfl) (by kernel_rfl) (by kernel_rfl) (by kernel_rfl) (by kernel_rfl) (by kernel_rfl) (by kernel_rfl) ?_
  intro w0 O y hnp
  generalize hPost : (fun (a' : Act) (w' : World) => ∃ μ' S' st', Rel 62 w0 O μ' S' st' a' w' ∧ endOf (tabOf tab) rs 3 pout st' = some y) = Post
  have fin : ∀ (μ : Id → Option Value) (S : Nat → Prop) (st : St) (a : Act) (w : World), Rel 62 w0 O μ S st a w → endOf (tabOf tab) rs 3 pout st = some y → Post a w := fun μ S st a w h he => by rw [← hPost]; exact ⟨μ, S, st, h, he⟩
  have hp : Parts Try.prog 61 (pg spec_l1One.impl spec_l30Put.impl Gself) [] := ⟨tab_ok tabGood rfl, (handAt_ok spec_l30Put.con (handAt_ok spec_l1One.con (handAt_ok hself handNil_ok))), rfl⟩
  exact good_first (hp) (runOK_of (hp) hnp trivial fin) (fun x => (seg0 spec_l1One.impl spec_l30Put.impl Gself x.1 x.2.1 x.2.2.1 x.2.2.2.1 x.2.2.2.2.1 x.2.2.2.2.2.1 x.2.2.2.2.2.2.1))
theorem con : Con Try.prog 61 3 rs.length 3 pin pout impl := con_lfp (c := c0) Try.func61 (by kernel_rfl) (by kernel_rfl) (by kernel_rfl) con_step
end spec_l30Trim

/-! ### loop.example/wholecheck/spec.Trimmed -/
namespace spec_Trimmed
noncomputable abbrev c0 : Code := (Try.f30.body).getD .skip
noncomputable abbrev pin : Tpl := ⟨[⟨0, false, [.d (.sl (.prod (.int .i64) (.prod (.int .i64) (.prod (.int .i64) (.last (.int .i64))))))]⟩, ⟨1, false, [.d (.int .i64)]⟩], []⟩
noncomputable abbrev pout : Tpl := ⟨[⟨0, false, [.d (.sl (.prod (.int .i64) (.prod (.int .i64) (.prod (.int .i64) (.last (.int .i64))))))]⟩], []⟩
noncomputable abbrev p3 : Tpl := ⟨[⟨0, false, [.d (.sl (.prod (.int .i64) (.prod (.int .i64) (.prod (.int .i64) (.last (.int .i64))))))]⟩], []⟩
noncomputable def T3 : List Item := (find 3 c0 []).getD []
noncomputable abbrev PI := (List (Int × Int × Int × Int)) × Int × Unit
noncomputable abbrev PO := (List (Int × Int × Int × Int)) × Unit
noncomputable abbrev P3 := (List (Int × Int × Int × Int)) × Unit
noncomputable abbrev rs : List ResultVar := [.tmp 4]
noncomputable def F0 (J3 : P3 → Option PO) (Gspec_TermsValid : spec_TermsValid.PI → Option spec_TermsValid.PO) (Gspec_l30Short : spec_l30Short.PI → Option spec_l30Short.PO) (x0 : List (Int × Int × Int × Int)) (x1 : Int) : Option PO :=
  Option.bind (Gspec_TermsValid (x0, x1, ())) fun y0 =>
  bif !y0.1 then
    some ([], ())
  else
    Option.bind (Gspec_l30Short (x0, ())) fun y1 =>
    bif !y1.1 then
      some ([], ())
    else
      J3 (x0, ())
noncomputable def F3 (Gspec_l30Trim : spec_l30Trim.PI → Option spec_l30Trim.PO) (t0 : List (Int × Int × Int × Int)) : Option PO :=
  Option.bind (Gspec_l30Trim ([], 0, true, t0, wI ((t0.length : Int) - 1), [], [], ())) fun y2 =>
  bif decide (0 ≤ wI (y2.2.2.2.1 + 1)) && decide (wI (y2.2.2.2.1 + 1) ≤ (y2.2.2.2.2.2.1.length : Int)) then
    some ((y2.2.2.2.2.2.1.drop 0).take ((wI (y2.2.2.2.1 + 1)).toNat - 0), ())
  else
    none
noncomputable def hd {R : Type} (Gspec_TermsValid : spec_TermsValid.PI → Option spec_TermsValid.PO) (Gspec_l30Short : spec_l30Short.PI → Option spec_l30Short.PO) (Gspec_l30Trim : spec_l30Trim.PI → Option spec_l30Trim.PO) : Hand R := (handAt 61 [22] false ⟨3, 2, 3, spec_l30Trim.pin, spec_l30Trim.pout, Gspec_l30Trim⟩ (handAt 60 [13] true ⟨1, 1, 1, spec_l30Short.pin, spec_l30Short.pout, Gspec_l30Short⟩ (handAt 59 [9] true ⟨2, 1, 2, spec_TermsValid.pin, spec_TermsValid.pout, Gspec_TermsValid⟩ handNil)))
noncomputable def pg (Gspec_TermsValid : spec_TermsValid.PI → Option spec_TermsValid.PO) (Gspec_l30Short : spec_l30Short.PI → Option spec_l30Short.PO) (Gspec_l30Trim : spec_l30Trim.PI → Option spec_l30Trim.PO) (J3 : List Item → P3 → Option PO) : Prog PO := { nt := 30, np := 2, tb := tabOf tab, hd := hd Gspec_TermsValid Gspec_l30Short Gspec_l30Trim, cuts := cutsOf [(3, cut p3 J3)], fin := endOf (tabOf tab) rs 2 pout }
theorem seg0 (Gspec_TermsValid : spec_TermsValid.PI → Option spec_TermsValid.PO) (Gspec_l30Short : spec_l30Short.PI → Option spec_l30Short.PO) (Gspec_l30Trim : spec_l30Trim.PI → Option spec_l30Trim.PO) (J3 : List Item → P3 → Option PO) (x0 : List (Int × Int × Int × Int)) (x1 : Int) : arun (pg Gspec_TermsValid Gspec_l30Short Gspec_l30Trim J3) 5000 [.code c0] (mk pin (x0, x1, ())) = F0 (J3 T3) Gspec_TermsValid Gspec_l30Short x0 x1 := by kernel_rfl
theorem seg3 (Gspec_TermsValid : spec_TermsValid.PI → Option spec_TermsValid.PO) (Gspec_l30Short : spec_l30Short.PI → Option spec_l30Short.PO) (Gspec_l30Trim : spec_l30Trim.PI → Option spec_l30Trim.PO) (J3 : List Item → P3 → Option PO) (t0 : List (Int × Int × Int × Int)) : arun1 (pg Gspec_TermsValid Gspec_l30Short Gspec_l30Trim J3) 5000 T3 (mk p3 (t0, ())) = F3 Gspec_l30Trim t0 := by kernel_rfl
noncomputable def L3 : P3 → Option PO := fun x => F3 spec_l30Trim.impl x.1
noncomputable def impl : PI → Option PO := fun x => F0 L3 spec_TermsValid.impl spec_l30Short.impl x.1 x.2.1
theorem L3_eq (t0 : List (Int × Int × Int × Int)) : L3 (t0, ()) = F3 spec_l30Trim.impl t0 := rfl
theorem impl_eq (x0 : List (Int × Int × Int × Int)) (x1 : Int) : impl (x0, x1, ()) = F0 L3 spec_TermsValid.impl spec_l30Short.impl x0 x1 := rfl
theorem con : Con Try.prog 30 2 rs.length 2 pin pout impl := by
  refine con_of_run' (nt := 30) (c := c0) tabGood Try.func30 (by kernel_rfl) (by kernel_rfl) (by kernel_rfl) (by kernel_rfl) (by kernel_rfl) (by kernel_rfl) (by kernel_rfl) ?_
  intro w0 O y hnp
  generalize hPost : (fun (a' : Act) (w' : World) => ∃ μ' S' st', Rel 30 w0 O μ' S' st' a' w' ∧ endOf (tabOf tab) rs 2 pout st' = some y) = Post
  have fin : ∀ (μ : Id → Option Value) (S : Nat → Prop) (st : St) (a : Act) (w : World), Rel 30 w0 O μ S st a w → endOf (tabOf tab) rs 2 pout st = some y → Post a w := fun μ S st a w h he => by rw [← hPost]; exact ⟨μ, S, st, h, he⟩
  have hp : ∀ (J3 : List Item → P3 → Option PO), Parts Try.prog 30 (pg spec_TermsValid.impl spec_l30Short.impl spec_l30Trim.impl J3) [(3, cut p3 J3)] := fun J3 => ⟨tab_ok tabGood rfl, (handAt_ok spec_l30Trim.con (handAt_ok spec_l30Short.con (handAt_ok spec_TermsValid.con handNil_ok))), rfl⟩
  have g3 : Good Try.prog 30 w0 O Post y T3 p3 L3 := good_part (hp (atT T3 (fun _ => none))) (runOK_of (hp (atT T3 (fun _ => none))) hnp ⟨cutOK_at (p := p3) (T := T3) (J := fun _ => none) good_none, trivial⟩ fin) (fun x => (seg3 spec_TermsValid.impl spec_l30Short.impl spec_l30Trim.impl (atT T3 (fun _ => none)) x.1))
  exact good_first (hp (atT T3 L3)) (runOK_of (hp (atT T3 L3)) hnp ⟨cutOK_at g3, trivial⟩ fin) (fun x => (seg0 spec_TermsValid.impl spec_l30Short.impl spec_l30Trim.impl (atT T3 L3) x.1 x.2.1).trans (by simp only [atT_self] <;> rfl))
end spec_Trimmed

/-! ### loop.example/wholecheck/impl.in -/
namespace impl_in
noncomputable abbrev c0 : Code := (Try.f37.body).getD .skip
noncomputable abbrev pin : Tpl := ⟨[⟨0, false, [.d (.int .i64)]⟩, ⟨1, false, [.d (.int .i64)]⟩, ⟨2, false, [.d (.int .i64)]⟩], []⟩
noncomputable abbrev pout : Tpl := ⟨[⟨0, false, [.d .bool]⟩], []⟩
noncomputable abbrev PI := Int × Int × Int × Unit
noncomputable abbrev PO := Bool × Unit
noncomputable abbrev rs : List ResultVar := [.tmp 6]
noncomputable def F0 (x0 : Int) (x1 : Int) (x2 : Int) : Option PO :=
  bif decide (x0 ≥ x1) then
    some (decide (x0 ≤ x2), ())
  else
    some (false, ())
noncomputable def hd {R : Type} : Hand R := handNil
noncomputable def pg : Prog PO := { nt := 15, np := 3, tb := tabOf tab, hd := hd, cuts := cutsOf [], fin := endOf (tabOf tab) rs 3 pout }
theorem seg0 (x0 : Int) (x1 : Int) (x2 : Int) : arun (pg) 5000 [.code c0] (mk pin (x0, x1, x2, ())) = F0 x0 x1 x2 := by kernel_rfl
noncomputable def impl : PI → Option PO := fun x => F0 x.1 x.2.1 x.2.2.1
theorem impl_eq (x0 : Int) (x1 : Int) (x2 : Int) : impl (x0, x1, x2, ()) = F0 x0 x1 x2 := rfl
theorem con : Con Try.prog 37 3 rs.length 3 pin pout impl := by
  refine con_of_run' (nt := 15) (c := c0) tabGood Try.func37 (by kernel_rfl) (by kernel_rfl) (by kernel_rfl) (by kernel_rfl) (by kernel_rfl) (by kernel_rfl) (by kernel_rfl) ?_
  intro w0 O y hnp
  generalize hPost : (fun (a' : Act) (w' : World) => ∃ μ' S' st', Rel 15 w0 O μ' S' st' a' w' ∧ endOf (tabOf tab) rs 3 pout st' = some y) = Post
  have fin : ∀ (μ : Id → Option Value) (S : Nat → Prop) (st : St) (a : Act) (w : World), Rel 15 w0 O μ S st a w → endOf (tabOf tab) rs 3 pout st = some y → Post a w := fun μ S st a w h he => by rw [← hPost]; exact ⟨μ, S, st, h, he⟩
  have hp : Parts Try.prog 37 (pg) [] := ⟨tab_ok tabGood rfl, handNil_ok, rfl⟩
  exact good_first (hp) (runOK_of (hp) hnp trivial fin) (fun x => (seg0 x.1 x.2.1 x.2.2.1))
end impl_in

/-! ### loop.example/wholecheck/impl.parts -/
namespace impl_parts
noncomputable abbrev c0 : Code := (Try.f90.body).getD .skip
noncomputable abbrev pin : Tpl := ⟨[⟨0, false, [.d (.int .i64)]⟩], []⟩
noncomputable abbrev pout : Tpl := ⟨[⟨0, false, [.d (.int .i64)]⟩, ⟨1, false, [.d (.int .i64)]⟩, ⟨2, false, [.d (.int .i64)]⟩], []⟩
noncomputable abbrev PI := Int × Unit
noncomputable abbrev PO := Int × Int × Int × Unit
noncomputable abbrev rs : List ResultVar := [.tmp 2, .tmp 3, .tmp 4]
noncomputable def F0 (x0 : Int) : Option PO :=
  bif x0 == 2 then
    some (2, 1, 1, ())
  else
    bif x0 == 3 then
      some (2, 1, 1, ())
    else
      bif x0 == 4 then
        some (2, 1, 1, ())
      else
        bif x0 == 5 then
          some (2, 1, 2, ())
        else
          bif x0 == 6 then
            some (2, 1, 2, ())
          else
            bif x0 == 7 then
              some (1, 2, 2, ())
            else
              bif x0 == 8 then
                some (2, 2, 2, ())
              else
                bif x0 == 9 then
                  some (2, 2, 2, ())
                else
                  some (0, 0, 1, ())
noncomputable def hd {R : Type} : Hand R := handNil
noncomputable def pg : Prog PO := { nt := 18, np := 1, tb := tabOf tab, hd := hd, cuts := cutsOf [], fin := endOf (tabOf tab) rs 1 pout }
theorem seg0 (x0 : Int) : arun (pg) 5000 [.code c0] (mk pin (x0, ())) = F0 x0 := by kernel_rfl
noncomputable def impl : PI → Option PO := fun x => F0 x.1
theorem impl_eq (x0 : Int) : impl (x0, ()) = F0 x0 := rfl
theorem con : Con Try.prog 90 1 rs.length 1 pin pout impl := by
  refine con_of_run' (nt := 18) (c := c0) tabGood Try.func90 (by kernel_rfl) (by kernel_rfl) (by kernel_rfl) (by kernel_rfl) (by kernel_rfl) (by kernel_rfl) (by kernel_rfl) ?_
  intro w0 O y hnp
  generalize hPost : (fun (a' : Act) (w' : World) => ∃ μ' S' st', Rel 18 w0 O μ' S' st' a' w' ∧ endOf (tabOf tab) rs 1 pout st' = some y) = Post
  have fin : ∀ (μ : Id → Option Value) (S : Nat → Prop) (st : St) (a : Act) (w : World), Rel 18 w0 O μ S st a w → endOf (tabOf tab) rs 1 pout st = some y → Post a w := fun μ S st a w h he => by rw [← hPost]; exact ⟨μ, S, st, h, he⟩
  have hp : Parts Try.prog 90 (pg) [] := ⟨tab_ok tabGood rfl, handNil_ok, rfl⟩
  exact good_first (hp) (runOK_of (hp) hnp trivial fin) (fun x => (seg0 x.1))
end impl_parts

/-! ### loop.example/wholecheck/impl.kindsOf -/
namespace impl_kindsOf
noncomputable abbrev c0 : Code := (Try.f85.body).getD .skip
noncomputable abbrev pin : Tpl := ⟨[⟨0, false, [.d (.sl (.prod (.int .i64) (.prod (.int .i64) (.prod (.int .i64) (.last (.int .i64))))))]⟩, ⟨1, false, [.d (.int .i64)]⟩], []⟩
noncomputable abbrev pout : Tpl := ⟨[⟨0, false, [.row 600001]⟩], [(600001, .row 3 true (.int .i64))]⟩
noncomputable abbrev p3 : Tpl := ⟨[⟨0, false, [.d (.sl (.prod (.int .i64) (.prod (.int .i64) (.prod (.int .i64) (.last (.int .i64))))))]⟩, ⟨1, false, [.d (.int .i64)]⟩], []⟩
noncomputable def T3 : List Item := (find 3 c0 []).getD []
noncomputable abbrev p5 : Tpl := ⟨[⟨1, false, [.d (.int .i64)]⟩, ⟨5, false, [.row 3000000]⟩, ⟨24, false, [.d (.sl (.prod (.int .i64) (.prod (.int .i64) (.prod (.int .i64) (.last (.int .i64))))))]⟩, ⟨25, false, [.d (.int .i64)]⟩, ⟨26, false, [.d (.int .i64)]⟩], [(3000000, .row 3 false (.int .i64))]⟩
noncomputable def T5 : List Item := (find 5 c0 []).getD []
noncomputable abbrev PI := (List (Int × Int × Int × Int)) × Int × Unit
noncomputable abbrev PO := (List Int) × Unit
noncomputable abbrev P3 := (List (Int × Int × Int × Int)) × Int × Unit
noncomputable abbrev P5 := Int × (List (Int × Int × Int × Int)) × Int × Int × (List Int) × Unit
noncomputable abbrev rs : List ResultVar := [.tmp 4]
noncomputable def F0 (J3 : P3 → Option PO) (Gimpl_in : impl_in.PI → Option impl_in.PO) (x0 : List (Int × Int × Int × Int)) (x1 : Int) : Option PO :=
  Option.bind (Gimpl_in (x1, 0, 5, ())) fun y0 =>
  bif !y0.1 then
    some ([], ())
  else
    Option.bind (Gimpl_in ((x0.length : Int), 1, 40, ())) fun y1 =>
    bif !y1.1 then
      some ([], ())
    else
      J3 (x0, x1, ())
noncomputable def F3 (J5 : P5 → Option PO) (t0 : List (Int × Int × Int × Int)) (t1 : Int) : Option PO :=
  bif decide (0 ≤ (t0.length : Int)) && decide ((t0.length : Int) * 8 ≤ 140737488355328) then
    J5 (t1, t0, (t0.length : Int), 0, (List.replicate 0 0 : List Int), ())
  else
    none
noncomputable def F5 (J5 : P5 → Option PO) (Gimpl_in : impl_in.PI → Option impl_in.PO) (Gimpl_parts : impl_parts.PI → Option impl_parts.PO) (t1 : Int) (t24 : List (Int × Int × Int × Int)) (t25 : Int) (t26 : Int) (r0 : List Int) : Option PO :=
  bif decide (t26 < t25) then
    bif inb t26 t24.length then
      Option.bind (Gimpl_parts ((t24.getD t26.toNat (0, 0, 0, 0)).1, ())) fun y2 =>
      Option.bind (Gimpl_in ((t24.getD t26.toNat (0, 0, 0, 0)).1, 0, 9, ())) fun y3 =>
      bif (t24.getD t26.toNat (0, 0, 0, 0)).1 == 0 then
        Option.bind (Gimpl_in ((t24.getD t26.toNat (0, 0, 0, 0)).2.1, (-9999), 9999, ())) fun y4 =>
        bif y4.1 then
          bif (t24.getD t26.toNat (0, 0, 0, 0)).2.2.1 == 0 then
            bif !((t24.getD t26.toNat (0, 0, 0, 0)).2.2.2 == 0) then
              some ([], ())
            else
              bif decide ((r0.length + ([y2.2.2.1] : List Int).length) * 8 ≤ 140737488355328) then
                J5 (t1, t24, t25, wI (t26 + 1), r0 ++ ([y2.2.2.1] : List Int), ())
              else
                none
          else
            some ([], ())
        else
          some ([], ())
      else
        bif (t24.getD t26.toNat (0, 0, 0, 0)).1 == 1 then
          Option.bind (Gimpl_in ((t24.getD t26.toNat (0, 0, 0, 0)).2.1, 0, wI (t1 - 1), ())) fun y5 =>
          bif y5.1 then
            bif (t24.getD t26.toNat (0, 0, 0, 0)).2.2.1 == 0 then
              bif !((t24.getD t26.toNat (0, 0, 0, 0)).2.2.2 == 0) then
                some ([], ())
              else
                bif decide ((r0.length + ([y2.2.2.1] : List Int).length) * 8 ≤ 140737488355328) then
                  J5 (t1, t24, t25, wI (t26 + 1), r0 ++ ([y2.2.2.1] : List Int), ())
                else
                  none
            else
              some ([], ())
          else
            some ([], ())
        else
          bif y3.1 then
            bif (t24.getD t26.toNat (0, 0, 0, 0)).2.1 == 0 then
              Option.bind (Gimpl_in ((t24.getD t26.toNat (0, 0, 0, 0)).2.2.1, 0, wI (t26 - 1), ())) fun y6 =>
              bif y6.1 then
                Option.bind (Gimpl_in ((t24.getD t26.toNat (0, 0, 0, 0)).2.2.2, 0, wI (t26 - 1), ())) fun y7 =>
                bif y7.1 then
                  bif inb (t24.getD t26.toNat (0, 0, 0, 0)).2.2.1 r0.length then
                    bif r0.getD (t24.getD t26.toNat (0, 0, 0, 0)).2.2.1.toNat 0 == y2.2.1 then
                      bif inb (t24.getD t26.toNat (0, 0, 0, 0)).2.2.2 r0.length then
                        bif r0.getD (t24.getD t26.toNat (0, 0, 0, 0)).2.2.2.toNat 0 == y2.2.1 then
                          bif y2.1 == 2 then
                            bif decide ((r0.length + ([y2.2.2.1] : List Int).length) * 8 ≤ 140737488355328) then
                              J5 (t1, t24, t25, wI (t26 + 1), r0 ++ ([y2.2.2.1] : List Int), ())
                            else
                              none
                          else
                            bif !((t24.getD t26.toNat (0, 0, 0, 0)).2.2.1 == (t24.getD t26.toNat (0, 0, 0, 0)).2.2.2) then
                              some ([], ())
                            else
                              bif decide ((r0.length + ([y2.2.2.1] : List Int).length) * 8 ≤ 140737488355328) then
                                J5 (t1, t24, t25, wI (t26 + 1), r0 ++ ([y2.2.2.1] : List Int), ())
                              else
                                none
                        else
                          some ([], ())
                      else
                        none
                    else
                      some ([], ())
                  else
                    none
                else
                  some ([], ())
              else
                some ([], ())
            else
              some ([], ())
          else
            bif !y3.1 then
              some ([], ())
            else
              bif decide ((r0.length + ([y2.2.2.1] : List Int).length) * 8 ≤ 140737488355328) then
                J5 (t1, t24, t25, wI (t26 + 1), r0 ++ ([y2.2.2.1] : List Int), ())
              else
                none
    else
      none
  else
    bif (!r0.isEmpty && true) then
      some (r0, ())
    else
      none
noncomputable def hd {R : Type} (Gimpl_in : impl_in.PI → Option impl_in.PO) (Gimpl_parts : impl_parts.PI → Option impl_parts.PO) : Hand R := (handAt 90 [34] true ⟨1, 3, 1, impl_parts.pin, impl_parts.pout, Gimpl_parts⟩ (handAt 37 [13, 18, 40, 47, 66, 87, 94] true ⟨3, 1, 3, impl_in.pin, impl_in.pout, Gimpl_in⟩ handNil))
noncomputable def pg (Gimpl_in : impl_in.PI → Option impl_in.PO) (Gimpl_parts : impl_parts.PI → Option impl_parts.PO) (J3 : List Item → P3 → Option PO) (J5 : List Item → P5 → Option PO) : Prog PO := { nt := 133, np := 2, tb := tabOf tab, hd := hd Gimpl_in Gimpl_parts, cuts := cutsOf [(3, cut p3 J3), (5, cut p5 J5)], fin := endOf (tabOf tab) rs 2 pout }
theorem seg0 (Gimpl_in : impl_in.PI → Option impl_in.PO) (Gimpl_parts : impl_parts.PI → Option impl_parts.PO) (J3 : List Item → P3 → Option PO) (J5 : List Item → P5 → Option PO) (x0 : List (Int × Int × Int × Int)) (x1 : Int) : arun (pg Gimpl_in Gimpl_parts J3 J5) 5000 [.code c0] (mk pin (x0, x1, ())) = F0 (J3 T3) Gimpl_in x0 x1 := by kernel_rfl
theorem seg3 (Gimpl_in : impl_in.PI → Option impl_in.PO) (Gimpl_parts : impl_parts.PI → Option impl_parts.PO) (J3 : List Item → P3 → Option PO) (J5 : List Item → P5 → Option PO) (t0 : List (Int × Int × Int × Int)) (t1 : Int) : arun1 (pg Gimpl_in Gimpl_parts J3 J5) 5000 T3 (mk p3 (t0, t1, ())) = F3 (J5 T5) t0 t1 := by kernel_rfl
theorem seg5 (Gimpl_in : impl_in.PI → Option impl_in.PO) (Gimpl_parts : impl_parts.PI → Option impl_parts.PO) (J3 : List Item → P3 → Option PO) (J5 : List Item → P5 → Option PO) (t1 : Int) (t24 : List (Int × Int × Int × Int)) (t25 : Int) (t26 : Int) (r0 : List Int) : arun1 (pg Gimpl_in Gimpl_parts J3 J5) 5000 T5 (mk p5 (t1, t24, t25, t26, r0, ())) = F5 (J5 T5) Gimpl_in Gimpl_parts t1 t24 t25 t26 r0 := by kernel_rfl
noncomputable def L5 : P5 → Option PO := lfp fun J5 x => F5 J5 impl_in.impl impl_parts.impl x.1 x.2.1 x.2.2.1 x.2.2.2.1 x.2.2.2.2.1
noncomputable def L3 : P3 → Option PO := fun x => F3 L5 x.1 x.2.1
noncomputable def impl : PI → Option PO := fun x => F0 L3 impl_in.impl x.1 x.2.1
theorem F5_le {J5 J5' : P5 → Option PO} (h5 : OLe J5 J5') {Gimpl_in : impl_in.PI → Option impl_in.PO} {Gimpl_parts : impl_parts.PI → Option impl_parts.PO} (t1 : Int) (t24 : List (Int × Int × Int × Int)) (t25 : Int) (t26 : Int) (r0 : List Int) : OptLe (F5 J5 Gimpl_in Gimpl_parts t1 t24 t25 t26 r0) (F5 J5' Gimpl_in Gimpl_parts t1 t24 t25 t26 r0) := by unfold F5; exact .cond (.cond (.bind (.refl _) fun _ => .bind (.refl _) fun _ => .cond (.bind (.refl _) fun _ => .cond (.cond (.cond (.refl _) (.cond (.of h5 _) (.refl _))) (.refl _)) (.refl _)) (.cond (.bind (.refl _) fun _ => .cond (.cond (.cond (.refl _) (.cond (.of h5 _) (.refl _))) (.refl _)) (.refl _)) (.cond (.cond (.bind (.refl _) fun _ => .cond (.bind (.refl _) fun _ => .cond (.cond (.cond (.cond (.cond (.cond (.cond (.of h5 _) (.refl _)) (.cond (.refl _) (.cond (.of h5 _) (.refl _)))) (.refl _)) (.refl _)) (.refl _)) (.refl _)) (.refl _)) (.refl _)) (.refl _)) (.cond (.refl _) (.cond (.of h5 _) (.refl _)))))) (.refl _)) (.refl _)
theorem L5_mono : OMono fun J5 (x : P5) => F5 J5 impl_in.impl impl_parts.impl x.1 x.2.1 x.2.2.1 x.2.2.2.1 x.2.2.2.2.1 := fun J J' h5 x => F5_le h5 x.1 x.2.1 x.2.2.1 x.2.2.2.1 x.2.2.2.2.1
theorem L5_eq (t1 : Int) (t24 : List (Int × Int × Int × Int)) (t25 : Int) (t26 : Int) (r0 : List Int) : L5 (t1, t24, t25, t26, r0, ()) = F5 (L5) impl_in.impl impl_parts.impl t1 t24 t25 t26 r0 := congrFun (lfp_eq (L5_mono)) _
theorem L3_eq (t0 : List (Int × Int × Int × Int)) (t1 : Int) : L3 (t0, t1, ()) = F3 (L5) t0 t1 := rfl
theorem impl_eq (x0 : List (Int × Int × Int × Int)) (x1 : Int) : impl (x0, x1, ()) = F0 L3 impl_in.impl x0 x1 := rfl
theorem con : Con Try.prog 85 2 rs.length 2 pin pout impl := by
  refine con_of_run' (nt := 133) (c := c0) tabGood Try.func85 (by kernel_rfl) (by kernel_rfl) (by kernel_rfl) (by kernel_rfl) (by kernel_rfl) (by kernel_rfl) (by kernel_rfl) ?_
  intro w0 O y hnp
  generalize hPost : (fun (a' : Act) (w' : World) => ∃ μ' S' st', Rel 133 w0 O μ' S' st' a' w' ∧ endOf (tabOf tab) rs 2 pout st' = some y) = Post
  have fin : ∀ (μ : Id → Option Value) (S : Nat → Prop) (st : St) (a : Act) (w : World), Rel 133 w0 O μ S st a w → endOf (tabOf tab) rs 2 pout st = some y → Post a w := fun μ S st a w h he => by rw [← hPost]; exact ⟨μ, S, st, h, he⟩
  have hp : ∀ (J3 : List Item → P3 → Option PO), ∀ (J5 : List Item → P5 → Option PO), Parts Try.prog 85 (pg impl_in.impl impl_parts.impl J3 J5) [(3, cut p3 J3), (5, cut p5 J5)] := fun J3 J5 => ⟨tab_ok tabGood rfl, (handAt_ok impl_parts.con (handAt_ok impl_in.con handNil_ok)), rfl⟩
  have g5 : Good Try.prog 133 w0 O Post y T5 p5 L5 := good_lfp fun J5 h5 => good_part (hp (atT T3 (fun _ => none)) (atT T5 J5)) (runOK_of (hp (atT T3 (fun _ => none)) (atT T5 J5)) hnp ⟨cutOK_at (p := p3) (T := T3) (J := fun _ => none) good_none, cutOK_at h5, trivial⟩ fin) (fun x => (seg5 impl_in.impl impl_parts.impl (atT T3 (fun _ => none)) (atT T5 J5) x.1 x.2.1 x.2.2.1 x.2.2.2.1 x.2.2.2.2.1).trans (by simp only [atT_self] <;> rfl))
  have g3 : Good Try.prog 133 w0 O Post y T3 p3 L3 := good_part (hp (atT T3 (fun _ => none)) (atT T5 L5)) (runOK_of (hp (atT T3 (fun _ => none)) (atT T5 L5)) hnp ⟨cutOK_at (p := p3) (T := T3) (J := fun _ => none) good_none, cutOK_at g5, trivial⟩ fin) (fun x => (seg3 impl_in.impl impl_parts.impl (atT T3 (fun _ => none)) (atT T5 L5) x.1 x.2.1).trans (by simp only [atT_self] <;> rfl))
  exact good_first (hp (atT T3 L3) (atT T5 (fun _ => none))) (runOK_of (hp (atT T3 L3) (atT T5 (fun _ => none))) hnp ⟨cutOK_at g3, cutOK_at (p := p5) (T := T5) (J := fun _ => none) good_none, trivial⟩ fin) (fun x => (seg0 impl_in.impl impl_parts.impl (atT T3 L3) (atT T5 (fun _ => none)) x.1 x.2.1).trans (by simp only [atT_self] <;> rfl))
end impl_kindsOf

/-! ### loop.example/wholecheck/impl.TermsValid -/
namespace impl_TermsValid
noncomputable abbrev c0 : Code := (Try.f63.body).getD .skip
noncomputable abbrev pin : Tpl := ⟨[⟨0, false, [.d (.sl (.prod (.int .i64) (.prod (.int .i64) (.prod (.int .i64) (.last (.int .i64))))))]⟩, ⟨1, false, [.d (.int .i64)]⟩], []⟩
noncomputable abbrev pout : Tpl := ⟨[⟨0, false, [.d .bool]⟩], []⟩
noncomputable abbrev PI := (List (Int × Int × Int × Int)) × Int × Unit
noncomputable abbrev PO := Bool × Unit
noncomputable abbrev rs : List ResultVar := [.tmp 4]
noncomputable def F0 (Gimpl_kindsOf : impl_kindsOf.PI → Option impl_kindsOf.PO) (x0 : List (Int × Int × Int × Int)) (x1 : Int) : Option PO :=
  Option.bind (Gimpl_kindsOf (x0, x1, ())) fun y0 =>
  some (!y0.1.isEmpty, ())
noncomputable def hd {R : Type} (Gimpl_kindsOf : impl_kindsOf.PI → Option impl_kindsOf.PO) : Hand R := (handAt 85 [7] true ⟨2, 1, 2, impl_kindsOf.pin, impl_kindsOf.pout, Gimpl_kindsOf⟩ handNil)
noncomputable def pg (Gimpl_kindsOf : impl_kindsOf.PI → Option impl_kindsOf.PO) : Prog PO := { nt := 9, np := 2, tb := tabOf tab, hd := hd Gimpl_kindsOf, cuts := cutsOf [], fin := endOf (tabOf tab) rs 2 pout }
theorem seg0 (Gimpl_kindsOf : impl_kindsOf.PI → Option impl_kindsOf.PO) (x0 : List (Int × Int × Int × Int)) (x1 : Int) : arun (pg Gimpl_kindsOf) 5000 [.code c0] (mk pin (x0, x1, ())) = F0 Gimpl_kindsOf x0 x1 := by kernel_rfl
noncomputable def impl : PI → Option PO := fun x => F0 impl_kindsOf.impl x.1 x.2.1
theorem impl_eq (x0 : List (Int × Int × Int × Int)) (x1 : Int) : impl (x0, x1, ()) = F0 impl_kindsOf.impl x0 x1 := rfl
theorem con : Con Try.prog 63 2 rs.length 2 pin pout impl := by
  refine con_of_run' (nt := 9) (c := c0) tabGood Try.func63 (by kernel_rfl) (by kernel_rfl) (by kernel_rfl) (by kernel_rfl) (by kernel_rfl) (by kernel_rfl) (by kernel_rfl) ?_
  intro w0 O y hnp
  generalize hPost : (fun (a' : Act) (w' : World) => ∃ μ' S' st', Rel 9 w0 O μ' S' st' a' w' ∧ endOf (tabOf tab) rs 2 pout st' = some y) = Post
  have fin : ∀ (μ : Id → Option Value) (S : Nat → Prop) (st : St) (a : Act) (w : World), Rel 9 w0 O μ S st a w → endOf (tabOf tab) rs 2 pout st = some y → Post a w := fun μ S st a w h he => by rw [← hPost]; exact ⟨μ, S, st, h, he⟩
  have hp : Parts Try.prog 63 (pg impl_kindsOf.impl) [] := ⟨tab_ok tabGood rfl, (handAt_ok impl_kindsOf.con handNil_ok), rfl⟩
  exact good_first (hp) (runOK_of (hp) hnp trivial fin) (fun x => (seg0 impl_kindsOf.impl x.1 x.2.1))
end impl_TermsValid

/-! ### slices.Index[[]loop.example/wholecheck/impl.Term,loop.example/wholecheck/impl.Term] -/
namespace slices_Index_of
noncomputable abbrev c0 : Code := (Try.f86.body).getD .skip
noncomputable abbrev pin : Tpl := ⟨[⟨0, false, [.d (.sl (.prod (.int .i64) (.prod (.int .i64) (.prod (.int .i64) (.last (.int .i64))))))]⟩, ⟨1, true, [.d (.prod (.int .i64) (.prod (.int .i64) (.prod (.int .i64) (.last (.int .i64)))))]⟩], []⟩
noncomputable abbrev pout : Tpl := ⟨[⟨0, false, [.d (.int .i64)]⟩], []⟩
noncomputable abbrev p2 : Tpl := ⟨[⟨0, false, [.d (.sl (.prod (.int .i64) (.prod (.int .i64) (.prod (.int .i64) (.last (.int .i64))))))]⟩, ⟨3, false, [.ptr 3000000 0]⟩, ⟨7, false, [.d (.int .i64)]⟩, ⟨8, false, [.d (.int .i64)]⟩], [(3000000, .box [.d (.int .i64), .d (.int .i64), .d (.int .i64), .d (.int .i64)])]⟩
noncomputable def T2 : List Item := (find 2 c0 []).getD []
noncomputable abbrev p4 : Tpl := ⟨[⟨0, false, [.d (.sl (.prod (.int .i64) (.prod (.int .i64) (.prod (.int .i64) (.last (.int .i64))))))]⟩, ⟨3, false, [.ptr 3000000 0]⟩, ⟨5, false, [.d (.int .i64)]⟩, ⟨7, false, [.d (.int .i64)]⟩, ⟨8, false, [.d (.int .i64)]⟩], [(3000000, .box [.d (.int .i64), .d (.int .i64), .d (.int .i64), .d (.int .i64)])]⟩
noncomputable def T4 : List Item := (find 4 c0 []).getD []
noncomputable abbrev PI := (List (Int × Int × Int × Int)) × (Int × Int × Int × Int) × Unit
noncomputable abbrev PO := Int × Unit
noncomputable abbrev P2 := (List (Int × Int × Int × Int)) × Int × Int × Int × Int × Int × Int × Unit
noncomputable abbrev P4 := (List (Int × Int × Int × Int)) × Int × Int × Int × Int × Int × Int × Int × Unit
noncomputable abbrev rs : List ResultVar := [.tmp 4]
noncomputable def F0 (J2 : P2 → Option PO) (x0 : List (Int × Int × Int × Int)) (x1 : Int × Int × Int × Int) : Option PO :=
  J2 (x0, (x0.length : Int), 0, x1.1, x1.2.1, x1.2.2.1, x1.2.2.2, ())
noncomputable def F2 (J4 : P4 → Option PO) (t0 : List (Int × Int × Int × Int)) (t7 : Int) (t8 : Int) (b0_0 : Int) (b0_1 : Int) (b0_2 : Int) (b0_3 : Int) : Option PO :=
  bif decide (t8 < t7) then
    J4 (t0, t8, t7, t8, b0_0, b0_1, b0_2, b0_3, ())
  else
    some ((-1), ())
noncomputable def F4 (J2 : P2 → Option PO) (t0 : List (Int × Int × Int × Int)) (t5 : Int) (t7 : Int) (t8 : Int) (b0_0 : Int) (b0_1 : Int) (b0_2 : Int) (b0_3 : Int) : Option PO :=
  bif inb t5 t0.length then
    bif ((b0_0 == (t0.getD t5.toNat (0, 0, 0, 0)).1) && ((b0_1 == (t0.getD t5.toNat (0, 0, 0, 0)).2.1) && ((b0_2 == (t0.getD t5.toNat (0, 0, 0, 0)).2.2.1) && (b0_3 == (t0.getD t5.toNat (0, 0, 0, 0)).2.2.2)))) then
      some (t5, ())
    else
      J2 (t0, t7, wI (t8 + 1), b0_0, b0_1, b0_2, b0_3, ())
  else
    none
noncomputable def hd {R : Type} : Hand R := handNil
noncomputable def pg (J2 : List Item → P2 → Option PO) (J4 : List Item → P4 → Option PO) : Prog PO := { nt := 19, np := 2, tb := tabOf tab, hd := hd, cuts := cutsOf [(2, cut p2 J2), (4, cut p4 J4)], fin := endOf (tabOf tab) rs 2 pout }
theorem seg0 (J2 : List Item → P2 → Option PO) (J4 : List Item → P4 → Option PO) (x0 : List (Int × Int × Int × Int)) (x1 : Int × Int × Int × Int) : arun (pg J2 J4) 5000 [.code c0] (mk pin (x0, x1, ())) = F0 (J2 T2) x0 x1 := by kernel_rfl
theorem seg2 (J2 : List Item → P2 → Option PO) (J4 : List Item → P4 → Option PO) (t0 : List (Int × Int × Int × Int)) (t7 : Int) (t8 : Int) (b0_0 : Int) (b0_1 : Int) (b0_2 : Int) (b0_3 : Int) : arun1 (pg J2 J4) 5000 T2 (mk p2 (t0, t7, t8, b0_0, b0_1, b0_2, b0_3, ())) = F2 (J4 T4) t0 t7 t8 b0_0 b0_1 b0_2 b0_3 := by kernel_rfl
theorem seg4 (J2 : List Item → P2 → Option PO) (J4 : List Item → P4 → Option PO) (t0 : List (Int × Int × Int × Int)) (t5 : Int) (t7 : Int) (t8 : Int) (b0_0 : Int) (b0_1 : Int) (b0_2 : Int) (b0_3 : Int) : arunE (pg J2 J4) 5000 T4 (mk p4 (t0, t5, t7, t8, b0_0, b0_1, b0_2, b0_3, ())) = List.replicate (arunE (pg J2 J4) 5000 T4 (mk p4 (t0, t5, t7, t8, b0_0, b0_1, b0_2, b0_3, ()))).length (F4 (J2 T2) t0 t5 t7 t8 b0_0 b0_1 b0_2 b0_3) := by kernel_rfl
noncomputable def L4 (J2 : P2 → Option PO) : P4 → Option PO := fun x => F4 J2 x.1 x.2.1 x.2.2.1 x.2.2.2.1 x.2.2.2.2.1 x.2.2.2.2.2.1 x.2.2.2.2.2.2.1 x.2.2.2.2.2.2.2.1
noncomputable def L2 : P2 → Option PO := lfp fun J2 x => F2 (L4 J2) x.1 x.2.1 x.2.2.1 x.2.2.2.1 x.2.2.2.2.1 x.2.2.2.2.2.1 x.2.2.2.2.2.2.1
noncomputable def impl : PI → Option PO := fun x => F0 L2 x.1 x.2.1
theorem F4_le {J2 J2' : P2 → Option PO} (h2 : OLe J2 J2') (t0 : List (Int × Int × Int × Int)) (t5 : Int) (t7 : Int) (t8 : Int) (b0_0 : Int) (b0_1 : Int) (b0_2 : Int) (b0_3 : Int) : OptLe (F4 J2 t0 t5 t7 t8 b0_0 b0_1 b0_2 b0_3) (F4 J2' t0 t5 t7 t8 b0_0 b0_1 b0_2 b0_3) := by unfold F4; exact .cond (.cond (.refl _) (.of h2 _)) (.refl _)
theorem F2_le {J4 J4' : P4 → Option PO} (h4 : OLe J4 J4') (t0 : List (Int × Int × Int × Int)) (t7 : Int) (t8 : Int) (b0_0 : Int) (b0_1 : Int) (b0_2 : Int) (b0_3 : Int) : OptLe (F2 J4 t0 t7 t8 b0_0 b0_1 b0_2 b0_3) (F2 J4' t0 t7 t8 b0_0 b0_1 b0_2 b0_3) := by unfold F2; exact .cond (.of h4 _) (.refl _)
theorem L4_eq (J2 : P2 → Option PO) (t0 : List (Int × Int × Int × Int)) (t5 : Int) (t7 : Int) (t8 : Int) (b0_0 : Int) (b0_1 : Int) (b0_2 : Int) (b0_3 : Int) : L4 J2 (t0, t5, t7, t8, b0_0, b0_1, b0_2, b0_3, ()) = F4 J2 t0 t5 t7 t8 b0_0 b0_1 b0_2 b0_3 := rfl
theorem L4_le {J2 J2' : P2 → Option PO} (h2 : OLe J2 J2') : OLe (L4 J2) (L4 J2') := fun x => F4_le h2 x.1 x.2.1 x.2.2.1 x.2.2.2.1 x.2.2.2.2.1 x.2.2.2.2.2.1 x.2.2.2.2.2.2.1 x.2.2.2.2.2.2.2.1
theorem L2_mono : OMono fun J2 (x : P2) => F2 (L4 J2) x.1 x.2.1 x.2.2.1 x.2.2.2.1 x.2.2.2.2.1 x.2.2.2.2.2.1 x.2.2.2.2.2.2.1 := fun J J' h2 x => F2_le (L4_le h2) x.1 x.2.1 x.2.2.1 x.2.2.2.1 x.2.2.2.2.1 x.2.2.2.2.2.1 x.2.2.2.2.2.2.1
theorem L2_eq (t0 : List (Int × Int × Int × Int)) (t7 : Int) (t8 : Int) (b0_0 : Int) (b0_1 : Int) (b0_2 : Int) (b0_3 : Int) : L2 (t0, t7, t8, b0_0, b0_1, b0_2, b0_3, ()) = F2 (L4 (L2)) t0 t7 t8 b0_0 b0_1 b0_2 b0_3 := congrFun (lfp_eq (L2_mono)) _
theorem impl_eq (x0 : List (Int × Int × Int × Int)) (x1 : Int × Int × Int × Int) : impl (x0, x1, ()) = F0 L2 x0 x1 := rfl
theorem con : Con Try.prog 86 2 rs.length 2 pin pout impl := by
  refine con_of_run' (nt := 19) (c := c0) tabGood Try.func86 (by kernel_rfl) (by kernel_rfl) (by kernel_rfl) (by kernel_rfl) (by kernel_rfl) (by kernel_rfl) (by kernel_rfl) ?_
  intro w0 O y hnp
  generalize hPost : (fun (a' : Act) (w' : World) => ∃ μ' S' st', Rel 19 w0 O μ' S' st' a' w' ∧ endOf (tabOf tab) rs 2 pout st' = some y) = Post
  have fin : ∀ (μ : Id → Option Value) (S : Nat → Prop) (st : St) (a : Act) (w : World), Rel 19 w0 O μ S st a w → endOf (tabOf tab) rs 2 pout st = some y → Post a w := fun μ S st a w h he => by rw [← hPost]; exact ⟨μ, S, st, h, he⟩
  have hp : ∀ (J2 : List Item → P2 → Option PO), ∀ (J4 : List Item → P4 → Option PO), Parts Try.prog 86 (pg J2 J4) [(2, cut p2 J2), (4, cut p4 J4)] := fun J2 J4 => ⟨tab_ok tabGood rfl, handNil_ok, rfl⟩
  have g4 : ∀ (J2 : P2 → Option PO), Good Try.prog 19 w0 O Post y T2 p2 J2 → Good Try.prog 19 w0 O Post y T4 p4 (L4 J2) := fun J2 h2 => good_orders (hs := hd) (cv' := hd) (Checked.mixed Try.checked) (hp (atT T2 J2) (atT T4 (fun _ => none))) handNil_ok handNil_nat handNil_nat (runOK_of (hp (atT T2 J2) (atT T4 (fun _ => none))) hnp ⟨cutOK_at h2, cutOK_at (p := p4) (T := T4) (J := fun _ => none) good_none, trivial⟩ fin) (fun x => ⟨_, (seg4 (atT T2 J2) (atT T4 (fun _ => none)) x.1 x.2.1 x.2.2.1 x.2.2.2.1 x.2.2.2.2.1 x.2.2.2.2.2.1 x.2.2.2.2.2.2.1 x.2.2.2.2.2.2.2.1).trans (by simp only [atT_self] <;> rfl)⟩)
  have g2 : Good Try.prog 19 w0 O Post y T2 p2 L2 := good_lfp fun J2 h2 => good_part (hp (atT T2 (fun _ => none)) (atT T4 (L4 J2))) (runOK_of (hp (atT T2 (fun _ => none)) (atT T4 (L4 J2))) hnp ⟨cutOK_at (p := p2) (T := T2) (J := fun _ => none) good_none, cutOK_at (g4 J2 h2), trivial⟩ fin) (fun x => (seg2 (atT T2 (fun _ => none)) (atT T4 (L4 J2)) x.1 x.2.1 x.2.2.1 x.2.2.2.1 x.2.2.2.2.1 x.2.2.2.2.2.1 x.2.2.2.2.2.2.1).trans (by simp only [atT_self] <;> rfl))
  exact good_first (hp (atT T2 L2) (atT T4 (fun _ => none))) (runOK_of (hp (atT T2 L2) (atT T4 (fun _ => none))) hnp ⟨cutOK_at g2, cutOK_at (p := p4) (T := T4) (J := fun _ => none) good_none, trivial⟩ fin) (fun x => (seg0 (atT T2 L2) (atT T4 (fun _ => none)) x.1 x.2.1).trans (by simp only [atT_self] <;> rfl))
end slices_Index_of

/-! ### (*loop.example/wholecheck/impl.scan).put -/
namespace impl_scan_put
noncomputable abbrev c0 : Code := (Try.f65.body).getD .skip
noncomputable abbrev pin : Tpl := ⟨[⟨0, false, [.ptr 500001 0]⟩, ⟨1, true, [.d (.prod (.int .i64) (.prod (.int .i64) (.prod (.int .i64) (.last (.int .i64)))))]⟩], [(500001, .box [.row 500002, .d .str, .d (.int .i64), .row 500003]), (500002, .row 9 true .str), (500003, .row 102 true (.prod (.int .i64) (.prod (.int .i64) (.prod (.int .i64) (.last (.int .i64))))))]⟩
noncomputable abbrev pout : Tpl := ⟨[⟨0, false, [.d (.int .i64)]⟩, ⟨1, false, [.ptr 500001 0]⟩], [(500001, .box [.row 500002, .d .str, .d (.int .i64), .row 500003]), (500002, .row 9 true .str), (500003, .row 102 true (.prod (.int .i64) (.prod (.int .i64) (.prod (.int .i64) (.last (.int .i64))))))]⟩
noncomputable abbrev p1 : Tpl := ⟨[⟨0, false, [.ptr 500001 0]⟩, ⟨3, false, [.ptr 3000000 0]⟩], [(500001, .box [.row 500002, .d .str, .d (.int .i64), .row 500003]), (3000000, .box [.d (.int .i64), .d (.int .i64), .d (.int .i64), .d (.int .i64)]), (500002, .row 9 true .str), (500003, .row 102 true (.prod (.int .i64) (.prod (.int .i64) (.prod (.int .i64) (.last (.int .i64))))))]⟩
noncomputable def T1 : List Item := (find 1 c0 []).getD []
noncomputable abbrev p4 : Tpl := ⟨[⟨0, false, [.ptr 500001 0]⟩, ⟨3, false, [.ptr 3000000 0]⟩], [(500001, .box [.row 500002, .d .str, .d (.int .i64), .row 500003]), (3000000, .box [.d (.int .i64), .d (.int .i64), .d (.int .i64), .d (.int .i64)]), (500002, .row 9 true .str), (500003, .row 102 true (.prod (.int .i64) (.prod (.int .i64) (.prod (.int .i64) (.last (.int .i64))))))]⟩
noncomputable def T4 : List Item := (find 4 c0 []).getD []
noncomputable abbrev PI := (Int × Int × Int × Int) × (List UInt8) × Int × (List (List UInt8)) × (List (Int × Int × Int × Int)) × Unit
noncomputable abbrev PO := Int × (List UInt8) × Int × (List (List UInt8)) × (List (Int × Int × Int × Int)) × Unit
noncomputable abbrev P1 := (List UInt8) × Int × Int × Int × Int × Int × (List (List UInt8)) × (List (Int × Int × Int × Int)) × Unit
noncomputable abbrev P4 := (List UInt8) × Int × Int × Int × Int × Int × (List (List UInt8)) × (List (Int × Int × Int × Int)) × Unit
noncomputable abbrev rs : List ResultVar := [.tmp 4]
noncomputable def F0 (J1 : P1 → Option PO) (x1 : Int × Int × Int × Int) (c1_0 : List UInt8) (c1_1 : Int) (s2 : List (List UInt8)) (s3 : List (Int × Int × Int × Int)) : Option PO :=
  J1 (c1_0, c1_1, x1.1, x1.2.1, x1.2.2.1, x1.2.2.2, s2, s3, ())
noncomputable def F1 (J4 : P4 → Option PO) (Gslices_Index_of : slices_Index_of.PI → Option slices_Index_of.PO) (c1_0 : List UInt8) (c1_1 : Int) (b0_0 : Int) (b0_1 : Int) (b0_2 : Int) (b0_3 : Int) (s2 : List (List UInt8)) (s3 : List (Int × Int × Int × Int)) : Option PO :=
  Option.bind (Gslices_Index_of (s3, (b0_0, b0_1, b0_2, b0_3), ())) fun y0 =>
  bif decide (y0.1 ≥ 0) then
    some (y0.1, c1_0, c1_1, s2, s3, ())
  else
    J4 (c1_0, c1_1, b0_0, b0_1, b0_2, b0_3, s2, s3, ())
noncomputable def F4 (c1_0 : List UInt8) (c1_1 : Int) (b0_0 : Int) (b0_1 : Int) (b0_2 : Int) (b0_3 : Int) (s2 : List (List UInt8)) (s3 : List (Int × Int × Int × Int)) : Option PO :=
  bif decide ((s3.length + ([(b0_0, b0_1, b0_2, b0_3)] : List (Int × Int × Int × Int)).length) * 32 ≤ 140737488355328) then
    some (wI (((s3 ++ ([(b0_0, b0_1, b0_2, b0_3)] : List (Int × Int × Int × Int))).length : Int) - 1), c1_0, c1_1, s2, s3 ++ ([(b0_0, b0_1, b0_2, b0_3)] : List (Int × Int × Int × Int)), ())
  else
    none
noncomputable def hd {R : Type} (Gslices_Index_of : slices_Index_of.PI → Option slices_Index_of.PO) : Hand R := (handAt 86 [11] true ⟨2, 1, 2, slices_Index_of.pin, slices_Index_of.pout, Gslices_Index_of⟩ handNil)
noncomputable def pg (Gslices_Index_of : slices_Index_of.PI → Option slices_Index_of.PO) (J1 : List Item → P1 → Option PO) (J4 : List Item → P4 → Option PO) : Prog PO := { nt := 31, np := 2, tb := tabOf tab, hd := hd Gslices_Index_of, cuts := cutsOf [(1, cut p1 J1), (4, cut p4 J4)], fin := endOf (tabOf tab) rs 2 pout }
theorem seg0 (Gslices_Index_of : slices_Index_of.PI → Option slices_Index_of.PO) (J1 : List Item → P1 → Option PO) (J4 : List Item → P4 → Option PO) (x1 : Int × Int × Int × Int) (c1_0 : List UInt8) (c1_1 : Int) (s2 : List (List UInt8)) (s3 : List (Int × Int × Int × Int)) : arun (pg Gslices_Index_of J1 J4) 5000 [.code c0] (mk pin (x1, c1_0, c1_1, s2, s3, ())) = F0 (J1 T1) x1 c1_0 c1_1 s2 s3 := by kernel_rfl
theorem seg1 (Gslices_Index_of : slices_Index_of.PI → Option slices_Index_of.PO) (J1 : List Item → P1 → Option PO) (J4 : List Item → P4 → Option PO) (c1_0 : List UInt8) (c1_1 : Int) (b0_0 : Int) (b0_1 : Int) (b0_2 : Int) (b0_3 : Int) (s2 : List (List UInt8)) (s3 : List (Int × Int × Int × Int)) : arunE (pg Gslices_Index_of J1 J4) 5000 T1 (mk p1 (c1_0, c1_1, b0_0, b0_1, b0_2, b0_3, s2, s3, ())) = List.replicate (arunE (pg Gslices_Index_of J1 J4) 5000 T1 (mk p1 (c1_0, c1_1, b0_0, b0_1, b0_2, b0_3, s2, s3, ()))).length (F1 (J4 T4) Gslices_Index_of c1_0 c1_1 b0_0 b0_1 b0_2 b0_3 s2 s3) := by kernel_rfl
theorem seg4 (Gslices_Index_of : slices_Index_of.PI → Option slices_Index_of.PO) (J1 : List Item → P1 → Option PO) (J4 : List Item → P4 → Option PO) (c1_0 : List UInt8) (c1_1 : Int) (b0_0 : Int) (b0_1 : Int) (b0_2 : Int) (b0_3 : Int) (s2 : List (List UInt8)) (s3 : List (Int × Int × Int × Int)) : arunE (pg Gslices_Index_of J1 J4) 5000 T4 (mk p4 (c1_0, c1_1, b0_0, b0_1, b0_2, b0_3, s2, s3, ())) = List.replicate (arunE (pg Gslices_Index_of J1 J4) 5000 T4 (mk p4 (c1_0, c1_1, b0_0, b0_1, b0_2, b0_3, s2, s3, ()))).length (F4 c1_0 c1_1 b0_0 b0_1 b0_2 b0_3 s2 s3) := by kernel_rfl
noncomputable def L4 : P4 → Option PO := fun x => F4 x.1 x.2.1 x.2.2.1 x.2.2.2.1 x.2.2.2.2.1 x.2.2.2.2.2.1 x.2.2.2.2.2.2.1 x.2.2.2.2.2.2.2.1
noncomputable def L1 : P1 → Option PO := fun x => F1 L4 slices_Index_of.impl x.1 x.2.1 x.2.2.1 x.2.2.2.1 x.2.2.2.2.1 x.2.2.2.2.2.1 x.2.2.2.2.2.2.1 x.2.2.2.2.2.2.2.1
noncomputable def impl : PI → Option PO := fun x => F0 L1 x.1 x.2.1 x.2.2.1 x.2.2.2.1 x.2.2.2.2.1
theorem L4_eq (c1_0 : List UInt8) (c1_1 : Int) (b0_0 : Int) (b0_1 : Int) (b0_2 : Int) (b0_3 : Int) (s2 : List (List UInt8)) (s3 : List (Int × Int × Int × Int)) : L4 (c1_0, c1_1, b0_0, b0_1, b0_2, b0_3, s2, s3, ()) = F4 c1_0 c1_1 b0_0 b0_1 b0_2 b0_3 s2 s3 := rfl
theorem L1_eq (c1_0 : List UInt8) (c1_1 : Int) (b0_0 : Int) (b0_1 : Int) (b0_2 : Int) (b0_3 : Int) (s2 : List (List UInt8)) (s3 : List (Int × Int × Int × Int)) : L1 (c1_0, c1_1, b0_0, b0_1, b0_2, b0_3, s2, s3, ()) = F1 (L4) slices_Index_of.impl c1_0 c1_1 b0_0 b0_1 b0_2 b0_3 s2 s3 := rfl
theorem impl_eq (x1 : Int × Int × Int × Int) (c1_0 : List UInt8) (c1_1 : Int) (s2 : List (List UInt8)) (s3 : List (Int × Int × Int × Int)) : impl (x1, c1_0, c1_1, s2, s3, ()) = F0 L1 x1 c1_0 c1_1 s2 s3 := rfl
theorem con : Con Try.prog 65 2 rs.length 2 pin pout impl := by
  refine con_of_run' (nt := 31) (c := c0) tabGood Try.func65 (by kernel_rfl) (by kernel_rfl) (by kernel_rfl) (by kernel_rfl) (by kernel_rfl) (by kernel_rfl) (by kernel_rfl) ?_
  intro w0 O y hnp
  generalize hPost : (fun (a' : Act) (w' : World) => ∃ μ' S' st', Rel 31 w0 O μ' S' st' a' w' ∧ endOf (tabOf tab) rs 2 pout st' = some y) = Post
  have fin : ∀ (μ : Id → Option Value) (S : Nat → Prop) (st : St) (a : Act) (w : World), Rel 31 w0 O μ S st a w → endOf (tabOf tab) rs 2 pout st = some y → Post a w := fun μ S st a w h he => by rw [← hPost]; exact ⟨μ, S, st, h, he⟩
  have hp : ∀ (J1 : List Item → P1 → Option PO), ∀ (J4 : List Item → P4 → Option PO), Parts Try.prog 65 (pg slices_Index_of.impl J1 J4) [(1, cut p1 J1), (4, cut p4 J4)] := fun J1 J4 => ⟨tab_ok tabGood rfl, (handAt_ok slices_Index_of.con handNil_ok), rfl⟩
  have g4 : Good Try.prog 31 w0 O Post y T4 p4 L4 := good_orders (hs := hd slices_Index_of.impl) (cv' := hd slices_Index_of.impl) (Checked.mixed Try.checked) (hp (atT T1 (fun _ => none)) (atT T4 (fun _ => none))) (handAt_ok slices_Index_of.con handNil_ok) (handAt_nat handNil_nat) (handAt_nat handNil_nat) (runOK_of (hp (atT T1 (fun _ => none)) (atT T4 (fun _ => none))) hnp ⟨cutOK_at (p := p1) (T := T1) (J := fun _ => none) good_none, cutOK_at (p := p4) (T := T4) (J := fun _ => none) good_none, trivial⟩ fin) (fun x => ⟨_, (seg4 slices_Index_of.impl (atT T1 (fun _ => none)) (atT T4 (fun _ => none)) x.1 x.2.1 x.2.2.1 x.2.2.2.1 x.2.2.2.2.1 x.2.2.2.2.2.1 x.2.2.2.2.2.2.1 x.2.2.2.2.2.2.2.1)⟩)
  have g1 : Good Try.prog 31 w0 O Post y T1 p1 L1 := good_orders (hs := hd slices_Index_of.impl) (cv' := hd slices_Index_of.impl) (Checked.mixed Try.checked) (hp (atT T1 (fun _ => none)) (atT T4 L4)) (handAt_ok slices_Index_of.con handNil_ok) (handAt_nat handNil_nat) (handAt_nat handNil_nat) (runOK_of (hp (atT T1 (fun _ => none)) (atT T4 L4)) hnp ⟨cutOK_at (p := p1) (T := T1) (J := fun _ => none) good_none, cutOK_at g4, trivial⟩ fin) (fun x => ⟨_, (seg1 slices_Index_of.impl (atT T1 (fun _ => none)) (atT T4 L4) x.1 x.2.1 x.2.2.1 x.2.2.2.1 x.2.2.2.2.1 x.2.2.2.2.2.1 x.2.2.2.2.2.2.1 x.2.2.2.2.2.2.2.1).trans (by simp only [atT_self] <;> rfl)⟩)
  exact good_first (hp (atT T1 L1) (atT T4 (fun _ => none))) (runOK_of (hp (atT T1 L1) (atT T4 (fun _ => none))) hnp ⟨cutOK_at g1, cutOK_at (p := p4) (T := T4) (J := fun _ => none) good_none, trivial⟩ fin) (fun x => (seg0 slices_Index_of.impl (atT T1 L1) (atT T4 (fun _ => none)) x.1 x.2.1 x.2.2.1 x.2.2.2.1 x.2.2.2.2.1).trans (by simp only [atT_self] <;> rfl))
end impl_scan_put

/-! ### loop.example/wholecheck/impl.Trimmed$1 -/
namespace impl_Trimmed_1
noncomputable abbrev c0 : Code := (Try.f64.body).getD .skip
noncomputable abbrev pin : Tpl := ⟨[⟨0, false, [.d (.int .i64)]⟩, ⟨1, false, [.ptr 500001 0]⟩, ⟨2, false, [.ptr 500002 0]⟩, ⟨3, false, [.ptr 500003 0]⟩], [(500001, .box [.d (.sl (.prod (.int .i64) (.prod (.int .i64) (.prod (.int .i64) (.last (.int .i64))))))]), (500002, .box [.fn 64 [(500001, 0), (500002, 0), (500003, 0)]]), (500003, .box [.ptr 500004 0]), (500004, .box [.row 500005, .d .str, .d (.int .i64), .row 500006]), (500005, .row 9 true .str), (500006, .row 102 true (.prod (.int .i64) (.prod (.int .i64) (.prod (.int .i64) (.last (.int .i64))))))]⟩
noncomputable abbrev pout : Tpl := ⟨[⟨0, false, [.d (.int .i64)]⟩, ⟨2, false, [.ptr 500001 0]⟩, ⟨3, false, [.ptr 500002 0]⟩, ⟨4, false, [.ptr 500003 0]⟩], [(500001, .box [.d (.sl (.prod (.int .i64) (.prod (.int .i64) (.prod (.int .i64) (.last (.int .i64))))))]), (500002, .box [.fn 64 [(500001, 0), (500002, 0), (500003, 0)]]), (500003, .box [.ptr 500004 0]), (500004, .box [.row 500005, .d .str, .d (.int .i64), .row 500006]), (500005, .row 9 true .str), (500006, .row 102 true (.prod (.int .i64) (.prod (.int .i64) (.prod (.int .i64) (.last (.int .i64))))))]⟩
noncomputable abbrev PI := Int × (List (Int × Int × Int × Int)) × (List UInt8) × Int × (List (List UInt8)) × (List (Int × Int × Int × Int)) × Unit
noncomputable abbrev PO := Int × (List (Int × Int × Int × Int)) × (List UInt8) × Int × (List (List UInt8)) × (List (Int × Int × Int × Int)) × Unit
noncomputable abbrev rs : List ResultVar := [.tmp 5]
noncomputable def F0 (Gimpl_Trimmed_1 : PI → Option PO) (Gimpl_scan_put : impl_scan_put.PI → Option impl_scan_put.PO) (x0 : Int) (c1_0 : List (Int × Int × Int × Int)) (c4_0 : List UInt8) (c4_1 : Int) (s5 : List (List UInt8)) (s6 : List (Int × Int × Int × Int)) : Option PO :=
  bif inb x0 c1_0.length then
    bif decide ((c1_0.getD x0.toNat (0, 0, 0, 0)).1 ≥ 2) then
      Option.bind (Gimpl_Trimmed_1 ((c1_0.getD x0.toNat (0, 0, 0, 0)).2.2.1, c1_0, c4_0, c4_1, s5, s6, ())) fun y0 =>
      bif (c1_0.getD x0.toNat (0, 0, 0, 0)).1 == 7 then
        Option.bind (Gimpl_scan_put (((c1_0.getD x0.toNat (0, 0, 0, 0)).1, (c1_0.getD x0.toNat (0, 0, 0, 0)).2.1, y0.1, y0.1), y0.2.2.1, y0.2.2.2.1, y0.2.2.2.2.1, y0.2.2.2.2.2.1, ())) fun y1 =>
        some (y1.1, y0.2.1, y1.2.1, y1.2.2.1, y1.2.2.2.1, y1.2.2.2.2.1, ())
      else
        Option.bind (Gimpl_Trimmed_1 ((c1_0.getD x0.toNat (0, 0, 0, 0)).2.2.2, y0.2.1, y0.2.2.1, y0.2.2.2.1, y0.2.2.2.2.1, y0.2.2.2.2.2.1, ())) fun y2 =>
        Option.bind (Gimpl_scan_put (((c1_0.getD x0.toNat (0, 0, 0, 0)).1, (c1_0.getD x0.toNat (0, 0, 0, 0)).2.1, y0.1, y2.1), y2.2.2.1, y2.2.2.2.1, y2.2.2.2.2.1, y2.2.2.2.2.2.1, ())) fun y3 =>
        some (y3.1, y2.2.1, y3.2.1, y3.2.2.1, y3.2.2.2.1, y3.2.2.2.2.1, ())
    else
      Option.bind (Gimpl_scan_put (c1_0.getD x0.toNat (0, 0, 0, 0), c4_0, c4_1, s5, s6, ())) fun y4 =>
      some (y4.1, c1_0, y4.2.1, y4.2.2.1, y4.2.2.2.1, y4.2.2.2.2.1, ())
  else
    none
noncomputable def hd {R : Type} (Gimpl_Trimmed_1 : PI → Option PO) (Gimpl_scan_put : impl_scan_put.PI → Option impl_scan_put.PO) : Hand R := (handAt 65 [32] true ⟨2, 1, 2, impl_scan_put.pin, impl_scan_put.pout, Gimpl_scan_put⟩ (handAt 64 [17, 28] false ⟨4, 1, 4, pin, pout, Gimpl_Trimmed_1⟩ handNil))
noncomputable def pg (Gimpl_Trimmed_1 : PI → Option PO) (Gimpl_scan_put : impl_scan_put.PI → Option impl_scan_put.PO) : Prog PO := { nt := 33, np := 4, tb := tabOf tab, hd := hd Gimpl_Trimmed_1 Gimpl_scan_put, cuts := cutsOf [], fin := endOf (tabOf tab) rs 4 pout }
theorem seg0 (Gimpl_Trimmed_1 : PI → Option PO) (Gimpl_scan_put : impl_scan_put.PI → Option impl_scan_put.PO) (x0 : Int) (c1_0 : List (Int × Int × Int × Int)) (c4_0 : List UInt8) (c4_1 : Int) (s5 : List (List UInt8)) (s6 : List (Int × Int × Int × Int)) : arun (pg Gimpl_Trimmed_1 Gimpl_scan_put) 5000 [.code c0] (mk pin (x0, c1_0, c4_0, c4_1, s5, s6, ())) = F0 Gimpl_Trimmed_1 Gimpl_scan_put x0 c1_0 c4_0 c4_1 s5 s6 := by kernel_rfl
noncomputable def step (Gself : PI → Option PO) : PI → Option PO := fun x => F0 Gself impl_scan_put.impl x.1 x.2.1 x.2.2.1 x.2.2.2.1 x.2.2.2.2.1 x.2.2.2.2.2.1
noncomputable def impl : PI → Option PO := lfp step
theorem F0_le {Gself Gself' : PI → Option PO} (hG : OLe Gself Gself') {Gimpl_scan_put : impl_scan_put.PI → Option impl_scan_put.PO} (x0 : Int) (c1_0 : List (Int × Int × Int × Int)) (c4_0 : List UInt8) (c4_1 : Int) (s5 : List (List UInt8)) (s6 : List (Int × Int × Int × Int)) : OptLe (F0 Gself Gimpl_scan_put x0 c1_0 c4_0 c4_1 s5 s6) (F0 Gself' Gimpl_scan_put x0 c1_0 c4_0 c4_1 s5 s6) := by unfold F0; exact .cond (.cond (.bind (.of hG _) fun _ => .cond (.refl _) (.bind (.of hG _) fun _ => .refl _)) (.refl _)) (.refl _)
theorem step_mono : OMono step := fun G G' hG x => F0_le hG x.1 x.2.1 x.2.2.1 x.2.2.2.1 x.2.2.2.2.1 x.2.2.2.2.2.1
theorem impl_eq (x0 : Int) (c1_0 : List (Int × Int × Int × Int)) (c4_0 : List UInt8) (c4_1 : Int) (s5 : List (List UInt8)) (s6 : List (Int × Int × Int × Int)) : impl (x0, c1_0, c4_0, c4_1, s5, s6, ()) = F0 impl impl_scan_put.impl x0 c1_0 c4_0 c4_1 s5 s6 := congrFun (lfp_eq step_mono) _
theorem con_step (Gself : PI → Option PO) (hself : Con Try.prog 64 4 rs.length 4 pin pout Gself) : Con Try.prog 64 4 rs.length 4 pin pout (step Gself) := by
  refine con_of_run' (nt := 33) (c := c0) tabGood Try.func64 (by kernel_rfl) (by kernel_rfl) (by kernel_rfl) (by kernel_rfl) (by kernel_rfl) (by kernel_rfl) (by kernel_rfl) ?_
  intro w0 O y hnp
  generalize hPost : (fun (a' : Act) (w' : World) => ∃ μ' S' st', Rel 33 w0 O μ' S' st' a' w' ∧ endOf (tabOf tab) rs 4 pout st' = some y) = Post
  have fin : ∀ (μ : Id → Option Value) (S : Nat → Prop) (st : St) (a : Act) (w : World), Rel 33 w0 O μ S st a w → endOf (tabOf tab) rs 4 pout st = some y → Post a w := fun μ S st a w h he => by rw [← hPost]; exact ⟨μ, S, st, h, he⟩
  have hp : Parts Try.prog 64 (pg Gself impl_scan_put.impl) [] := ⟨tab_ok tabGood rfl, (handAt_ok impl_scan_put.con (handAt_ok hself handNil_ok)), rfl⟩
  exact good_first (hp) (runOK_of (hp) hnp trivial fin) (fun x => (seg0 Gself impl_scan_put.impl x.1 x.2.1 x.2.2.1 x.2.2.2.1 x.2.2.2.2.1 x.2.2.2.2.2.1))
theorem con : Con Try.prog 64 4 rs.length 4 pin pout impl := con_lfp (c := c0) Try.func64 (by kernel_rfl) (by kernel_rfl) (by kernel_rfl) con_step
end impl_Trimmed_1

/-! ### loop.example/wholecheck/impl.clone[loop.example/wholecheck/impl.Term] -/
namespace impl_clone_of
noncomputable abbrev c0 : Code := (Try.f66.body).getD .skip
noncomputable abbrev pin : Tpl := ⟨[⟨0, false, [.d (.sl (.prod (.int .i64) (.prod (.int .i64) (.prod (.int .i64) (.last (.int .i64))))))]⟩], []⟩
noncomputable abbrev pout : Tpl := ⟨[⟨0, false, [.row 600001]⟩], [(600001, .row 102 false (.prod (.int .i64) (.prod (.int .i64) (.prod (.int .i64) (.last (.int .i64))))))]⟩
noncomputable abbrev PI := (List (Int × Int × Int × Int)) × Unit
noncomputable abbrev PO := (List (Int × Int × Int × Int)) × Unit
noncomputable abbrev rs : List ResultVar := [.tmp 2]
noncomputable def F0 (x0 : List (Int × Int × Int × Int)) : Option PO :=
  bif (x0.length : Int) == 0 then
    some ([], ())
  else
    bif decide (0 ≤ (x0.length : Int)) && decide ((x0.length : Int) ≤ (x0.length : Int)) && decide ((x0.length : Int) * 32 ≤ 140737488355328) then
      some (x0.take (List.replicate (x0.length : Int).toNat (0, 0, 0, 0) : List (Int × Int × Int × Int)).length ++ (List.replicate (x0.length : Int).toNat (0, 0, 0, 0) : List (Int × Int × Int × Int)).drop x0.length, ())
    else
      none
noncomputable def hd {R : Type} : Hand R := handNil
noncomputable def pg : Prog PO := { nt := 14, np := 1, tb := tabOf tab, hd := hd, cuts := cutsOf [], fin := endOf (tabOf tab) rs 1 pout }
theorem seg0 (x0 : List (Int × Int × Int × Int)) : arun (pg) 5000 [.code c0] (mk pin (x0, ())) = F0 x0 := by kernel_rfl
noncomputable def impl : PI → Option PO := fun x => F0 x.1
theorem impl_eq (x0 : List (Int × Int × Int × Int)) : impl (x0, ()) = F0 x0 := rfl
theorem con : Con Try.prog 66 1 rs.length 1 pin pout impl := by
  refine con_of_run' (nt := 14) (c := c0) tabGood Try.func66 (by kernel_rfl) (by kernel_rfl) (by kernel_rfl) (by kernel_rfl) (by kernel_rfl) (by kernel_rfl) (by kernel_rfl) ?_
  intro w0 O y hnp
  generalize hPost : (fun (a' : Act) (w' : World) => ∃ μ' S' st', Rel 14 w0 O μ' S' st' a' w' ∧ endOf (tabOf tab) rs 1 pout st' = some y) = Post
  have fin : ∀ (μ : Id → Option Value) (S : Nat → Prop) (st : St) (a : Act) (w : World), Rel 14 w0 O μ S st a w → endOf (tabOf tab) rs 1 pout st = some y → Post a w := fun μ S st a w h he => by rw [← hPost]; exact ⟨μ, S, st, h, he⟩
  have hp : Parts Try.prog 66 (pg) [] := ⟨tab_ok tabGood rfl, handNil_ok, rfl⟩
  exact good_first (hp) (runOK_of (hp) hnp trivial fin) (fun x => (seg0 x.1))
end impl_clone_of

/-! ### loop.example/wholecheck/impl.Trimmed -/
namespace impl_Trimmed
noncomputable abbrev c0 : Code := (Try.f32.body).getD .skip
noncomputable abbrev pin : Tpl := ⟨[⟨0, false, [.d (.sl (.prod (.int .i64) (.prod (.int .i64) (.prod (.int .i64) (.last (.int .i64))))))]⟩, ⟨1, false, [.d (.int .i64)]⟩], []⟩
noncomputable abbrev pout : Tpl := ⟨[⟨0, false, [.row 600001]⟩], [(600001, .row 102 false (.prod (.int .i64) (.prod (.int .i64) (.prod (.int .i64) (.last (.int .i64))))))]⟩
noncomputable abbrev p5 : Tpl := ⟨[⟨2, false, [.ptr 3000000 0]⟩, ⟨5, false, [.row 3000001]⟩, ⟨17, false, [.d (.sl (.prod (.int .i64) (.prod (.int .i64) (.prod (.int .i64) (.last (.int .i64))))))]⟩, ⟨18, false, [.d (.int .i64)]⟩, ⟨19, false, [.d (.int .i64)]⟩], [(3000000, .box [.d (.sl (.prod (.int .i64) (.prod (.int .i64) (.prod (.int .i64) (.last (.int .i64))))))]), (3000001, .row 3 false (.int .i64))]⟩
noncomputable def T5 : List Item := (find 5 c0 []).getD []
noncomputable abbrev p9 : Tpl := ⟨[⟨2, false, [.ptr 3000000 0]⟩, ⟨5, false, [.row 3000001]⟩, ⟨6, false, [.d (.int .i64)]⟩, ⟨7, false, [.ptr 3000002 0]⟩, ⟨17, false, [.d (.sl (.prod (.int .i64) (.prod (.int .i64) (.prod (.int .i64) (.last (.int .i64))))))]⟩, ⟨18, false, [.d (.int .i64)]⟩, ⟨19, false, [.d (.int .i64)]⟩], [(3000000, .box [.d (.sl (.prod (.int .i64) (.prod (.int .i64) (.prod (.int .i64) (.last (.int .i64))))))]), (3000001, .row 3 false (.int .i64)), (3000002, .box [.d (.int .i64), .d (.int .i64), .d (.int .i64), .d (.int .i64)])]⟩
noncomputable def T9 : List Item := (find 9 c0 []).getD []
noncomputable abbrev p11 : Tpl := ⟨[⟨2, false, [.ptr 3000000 0]⟩, ⟨5, false, [.row 3000001]⟩, ⟨6, false, [.d (.int .i64)]⟩, ⟨7, false, [.ptr 3000002 0]⟩, ⟨17, false, [.d (.sl (.prod (.int .i64) (.prod (.int .i64) (.prod (.int .i64) (.last (.int .i64))))))]⟩, ⟨18, false, [.d (.int .i64)]⟩, ⟨19, false, [.d (.int .i64)]⟩], [(3000000, .box [.d (.sl (.prod (.int .i64) (.prod (.int .i64) (.prod (.int .i64) (.last (.int .i64))))))]), (3000001, .row 3 false (.int .i64)), (3000002, .box [.d (.int .i64), .d (.int .i64), .d (.int .i64), .d (.int .i64)])]⟩
noncomputable def T11 : List Item := (find 11 c0 []).getD []
noncomputable abbrev p12 : Tpl := ⟨[⟨2, false, [.ptr 3000000 0]⟩, ⟨5, false, [.row 3000001]⟩, ⟨6, false, [.d (.int .i64)]⟩, ⟨17, false, [.d (.sl (.prod (.int .i64) (.prod (.int .i64) (.prod (.int .i64) (.last (.int .i64))))))]⟩, ⟨18, false, [.d (.int .i64)]⟩, ⟨19, false, [.d (.int .i64)]⟩], [(3000000, .box [.d (.sl (.prod (.int .i64) (.prod (.int .i64) (.prod (.int .i64) (.last (.int .i64))))))]), (3000001, .row 3 false (.int .i64))]⟩
noncomputable def T12 : List Item := (find 12 c0 []).getD []
noncomputable abbrev PI := (List (Int × Int × Int × Int)) × Int × Unit
noncomputable abbrev PO := (List (Int × Int × Int × Int)) × Unit
noncomputable abbrev P5 := (List (Int × Int × Int × Int)) × Int × Int × (List (Int × Int × Int × Int)) × (List Int) × Unit
noncomputable abbrev P9 := Int × (List (Int × Int × Int × Int)) × Int × Int × (List (Int × Int × Int × Int)) × (List Int) × Int × Int × Int × Int × Unit
noncomputable abbrev P11 := Int × (List (Int × Int × Int × Int)) × Int × Int × (List (Int × Int × Int × Int)) × (List Int) × Int × Int × Int × Int × Unit
noncomputable abbrev P12 := Int × (List (Int × Int × Int × Int)) × Int × Int × (List (Int × Int × Int × Int)) × (List Int) × Unit
noncomputable abbrev rs : List ResultVar := [.tmp 4]
noncomputable def F0 (J5 : P5 → Option PO) (Gimpl_TermsValid : impl_TermsValid.PI → Option impl_TermsValid.PO) (x0 : List (Int × Int × Int × Int)) (x1 : Int) : Option PO :=
  Option.bind (Gimpl_TermsValid (x0, x1, ())) fun y0 =>
  bif !y0.1 then
    some ([], ())
  else
    bif decide (0 ≤ (x0.length : Int)) && decide ((x0.length : Int) ≤ (x0.length : Int)) && decide ((x0.length : Int) * 8 ≤ 140737488355328) then
      J5 (x0, (x0.length : Int), 0, x0, (List.replicate (x0.length : Int).toNat 0 : List Int), ())
    else
      none
noncomputable def F5 (J9 : P9 → Option PO) (J12 : P12 → Option PO) (Gimpl_Trimmed_1 : impl_Trimmed_1.PI → Option impl_Trimmed_1.PO) (Gimpl_clone_of : impl_clone_of.PI → Option impl_clone_of.PO) (t17 : List (Int × Int × Int × Int)) (t18 : Int) (t19 : Int) (b0_0 : List (Int × Int × Int × Int)) (r1 : List Int) : Option PO :=
  bif decide (t19 < t18) then
    bif inb t19 t17.length then
      bif inb t19 r1.length then
        bif decide ((t17.getD t19.toNat (0, 0, 0, 0)).1 ≥ 2) then
          J9 (t19, t17, t18, t19, b0_0, r1.set t19.toNat 1, (t17.getD t19.toNat (0, 0, 0, 0)).1, (t17.getD t19.toNat (0, 0, 0, 0)).2.1, (t17.getD t19.toNat (0, 0, 0, 0)).2.2.1, (t17.getD t19.toNat (0, 0, 0, 0)).2.2.2, ())
        else
          J12 (t19, t17, t18, t19, b0_0, r1.set t19.toNat 1, ())
      else
        none
    else
      none
  else
    bif inb (wI ((b0_0.length : Int) - 1)) r1.length then
      bif decide (r1.getD (wI ((b0_0.length : Int) - 1)).toNat 0 ≥ 4000) then
        some ([], ())
      else
        Option.bind (Gimpl_Trimmed_1 (wI ((b0_0.length : Int) - 1), b0_0, [], 0, [], [], ())) fun y1 =>
        Option.bind (Gimpl_clone_of (y1.2.2.2.2.2.1, ())) fun y2 =>
        some (y2.1, ())
    else
      none
noncomputable def F9 (J11 : P11 → Option PO) (J12 : P12 → Option PO) (t6 : Int) (t17 : List (Int × Int × Int × Int)) (t18 : Int) (t19 : Int) (b0_0 : List (Int × Int × Int × Int)) (r1 : List Int) (b2_0 : Int) (b2_1 : Int) (b2_2 : Int) (b2_3 : Int) : Option PO :=
  bif inb t6 r1.length then
    bif inb b2_2 r1.length then
      bif inb t6 r1.length then
        bif b2_0 != 7 then
          J11 (t6, t17, t18, t19, b0_0, r1.set t6.toNat (wI ((r1.getD t6.toNat 0) + (r1.getD b2_2.toNat 0))), b2_0, b2_1, b2_2, b2_3, ())
        else
          J12 (t6, t17, t18, t19, b0_0, r1.set t6.toNat (wI ((r1.getD t6.toNat 0) + (r1.getD b2_2.toNat 0))), ())
      else
        none
    else
      none
  else
    none
noncomputable def F11 (J12 : P12 → Option PO) (t6 : Int) (t17 : List (Int × Int × Int × Int)) (t18 : Int) (t19 : Int) (b0_0 : List (Int × Int × Int × Int)) (r1 : List Int) (b2_0 : Int) (b2_1 : Int) (b2_2 : Int) (b2_3 : Int) : Option PO :=
  bif inb t6 r1.length then
    bif inb b2_3 r1.length then
      bif inb t6 r1.length then
        J12 (t6, t17, t18, t19, b0_0, r1.set t6.toNat (wI ((r1.getD t6.toNat 0) + (r1.getD b2_3.toNat 0))), ())
      else
        none
    else
      none
  else
    none
noncomputable def F12 (J5 : P5 → Option PO) (t6 : Int) (t17 : List (Int × Int × Int × Int)) (t18 : Int) (t19 : Int) (b0_0 : List (Int × Int × Int × Int)) (r1 : List Int) : Option PO :=
  bif inb t6 r1.length then
    bif inb t6 r1.length then
      J5 (t17, t18, wI (t19 + 1), b0_0, r1.set t6.toNat (bif decide ((4000 : Int) < r1.getD t6.toNat 0) then 4000 else r1.getD t6.toNat 0), ())
    else
      none
  else
    none
noncomputable def hd {R : Type} (Gimpl_TermsValid : impl_TermsValid.PI → Option impl_TermsValid.PO) (Gimpl_Trimmed_1 : impl_Trimmed_1.PI → Option impl_Trimmed_1.PO) (Gimpl_clone_of : impl_clone_of.PI → Option impl_clone_of.PO) : Hand R := (handAt 66 [83] true ⟨1, 1, 1, impl_clone_of.pin, impl_clone_of.pout, Gimpl_clone_of⟩ (handAt 64 [78] false ⟨4, 1, 4, impl_Trimmed_1.pin, impl_Trimmed_1.pout, Gimpl_Trimmed_1⟩ (handAt 63 [12] true ⟨2, 1, 2, impl_TermsValid.pin, impl_TermsValid.pout, Gimpl_TermsValid⟩ handNil)))
noncomputable def pg (Gimpl_TermsValid : impl_TermsValid.PI → Option impl_TermsValid.PO) (Gimpl_Trimmed_1 : impl_Trimmed_1.PI → Option impl_Trimmed_1.PO) (Gimpl_clone_of : impl_clone_of.PI → Option impl_clone_of.PO) (J5 : List Item → P5 → Option PO) (J9 : List Item → P9 → Option PO) (J11 : List Item → P11 → Option PO) (J12 : List Item → P12 → Option PO) : Prog PO := { nt := 84, np := 2, tb := tabOf tab, hd := hd Gimpl_TermsValid Gimpl_Trimmed_1 Gimpl_clone_of, cuts := cutsOf [(5, cut p5 J5), (9, cut p9 J9), (11, cut p11 J11), (12, cut p12 J12)], fin := endOf (tabOf tab) rs 2 pout }
theorem seg0 (Gimpl_TermsValid : impl_TermsValid.PI → Option impl_TermsValid.PO) (Gimpl_Trimmed_1 : impl_Trimmed_1.PI → Option impl_Trimmed_1.PO) (Gimpl_clone_of : impl_clone_of.PI → Option impl_clone_of.PO) (J5 : List Item → P5 → Option PO) (J9 : List Item → P9 → Option PO) (J11 : List Item → P11 → Option PO) (J12 : List Item → P12 → Option PO) (x0 : List (Int × Int × Int × Int)) (x1 : Int) : arun (pg Gimpl_TermsValid Gimpl_Trimmed_1 Gimpl_clone_of J5 J9 J11 J12) 5000 [.code c0] (mk pin (x0, x1, ())) = F0 (J5 T5) Gimpl_TermsValid x0 x1 := by kernel_rfl
theorem seg5 (Gimpl_TermsValid : impl_TermsValid.PI → Option impl_TermsValid.PO) (Gimpl_Trimmed_1 : impl_Trimmed_1.PI → Option impl_Trimmed_1.PO) (Gimpl_clone_of : impl_clone_of.PI → Option impl_clone_of.PO) (J5 : List Item → P5 → Option PO) (J9 : List Item → P9 → Option PO) (J11 : List Item → P11 → Option PO) (J12 : List Item → P12 → Option PO) (t17 : List (Int × Int × Int × Int)) (t18 : Int) (t19 : Int) (b0_0 : List (Int × Int × Int × Int)) (r1 : List Int) : arun1 (pg Gimpl_TermsValid Gimpl_Trimmed_1 Gimpl_clone_of J5 J9 J11 J12) 5000 T5 (mk p5 (t17, t18, t19, b0_0, r1, ())) = F5 (J9 T9) (J12 T12) Gimpl_Trimmed_1 Gimpl_clone_of t17 t18 t19 b0_0 r1 := by kernel_rfl
theorem seg9 (Gimpl_TermsValid : impl_TermsValid.PI → Option impl_TermsValid.PO) (Gimpl_Trimmed_1 : impl_Trimmed_1.PI → Option impl_Trimmed_1.PO) (Gimpl_clone_of : impl_clone_of.PI → Option impl_clone_of.PO) (J5 : List Item → P5 → Option PO) (J9 : List Item → P9 → Option PO) (J11 : List Item → P11 → Option PO) (J12 : List Item → P12 → Option PO) (t6 : Int) (t17 : List (Int × Int × Int × Int)) (t18 : Int) (t19 : Int) (b0_0 : List (Int × Int × Int × Int)) (r1 : List Int) (b2_0 : Int) (b2_1 : Int) (b2_2 : Int) (b2_3 : Int) : arunE (pg Gimpl_TermsValid Gimpl_Trimmed_1 Gimpl_clone_of J5 J9 J11 J12) 5000 T9 (mk p9 (t6, t17, t18, t19, b0_0, r1, b2_0, b2_1, b2_2, b2_3, ())) = List.replicate (arunE (pg Gimpl_TermsValid Gimpl_Trimmed_1 Gimpl_clone_of J5 J9 J11 J12) 5000 T9 (mk p9 (t6, t17, t18, t19, b0_0, r1, b2_0, b2_1, b2_2, b2_3, ()))).length (F9 (J11 T11) (J12 T12) t6 t17 t18 t19 b0_0 r1 b2_0 b2_1 b2_2 b2_3) := by kernel_rfl
theorem seg11 (Gimpl_TermsValid : impl_TermsValid.PI → Option impl_TermsValid.PO) (Gimpl_Trimmed_1 : impl_Trimmed_1.PI → Option impl_Trimmed_1.PO) (Gimpl_clone_of : impl_clone_of.PI → Option impl_clone_of.PO) (J5 : List Item → P5 → Option PO) (J9 : List Item → P9 → Option PO) (J11 : List Item → P11 → Option PO) (J12 : List Item → P12 → Option PO) (t6 : Int) (t17 : List (Int × Int × Int × Int)) (t18 : Int) (t19 : Int) (b0_0 : List (Int × Int × Int × Int)) (r1 : List Int) (b2_0 : Int) (b2_1 : Int) (b2_2 : Int) (b2_3 : Int) : arunE (pg Gimpl_TermsValid Gimpl_Trimmed_1 Gimpl_clone_of J5 J9 J11 J12) 5000 T11 (mk p11 (t6, t17, t18, t19, b0_0, r1, b2_0, b2_1, b2_2, b2_3, ())) = List.replicate (arunE (pg Gimpl_TermsValid Gimpl_Trimmed_1 Gimpl_clone_of J5 J9 J11 J12) 5000 T11 (mk p11 (t6, t17, t18, t19, b0_0, r1, b2_0, b2_1, b2_2, b2_3, ()))).length (F11 (J12 T12) t6 t17 t18 t19 b0_0 r1 b2_0 b2_1 b2_2 b2_3) := by kernel_rfl
theorem seg12 (Gimpl_TermsValid : impl_TermsValid.PI → Option impl_TermsValid.PO) (Gimpl_Trimmed_1 : impl_Trimmed_1.PI → Option impl_Trimmed_1.PO) (Gimpl_clone_of : impl_clone_of.PI → Option impl_clone_of.PO) (J5 : List Item → P5 → Option PO) (J9 : List Item → P9 → Option PO) (J11 : List Item → P11 → Option PO) (J12 : List Item → P12 → Option PO) (t6 : Int) (t17 : List (Int × Int × Int × Int)) (t18 : Int) (t19 : Int) (b0_0 : List (Int × Int × Int × Int)) (r1 : List Int) : arun1 (pg Gimpl_TermsValid Gimpl_Trimmed_1 Gimpl_clone_of J5 J9 J11 J12) 5000 T12 (mk p12 (t6, t17, t18, t19, b0_0, r1, ())) = F12 (J5 T5) t6 t17 t18 t19 b0_0 r1 := by kernel_rfl
noncomputable def L12 (J5 : P5 → Option PO) : P12 → Option PO := fun x => F12 J5 x.1 x.2.1 x.2.2.1 x.2.2.2.1 x.2.2.2.2.1 x.2.2.2.2.2.1
noncomputable def L11 (J5 : P5 → Option PO) : P11 → Option PO := fun x => F11 (L12 J5) x.1 x.2.1 x.2.2.1 x.2.2.2.1 x.2.2.2.2.1 x.2.2.2.2.2.1 x.2.2.2.2.2.2.1 x.2.2.2.2.2.2.2.1 x.2.2.2.2.2.2.2.2.1 x.2.2.2.2.2.2.2.2.2.1
noncomputable def L9 (J5 : P5 → Option PO) : P9 → Option PO := fun x => F9 (L11 J5) (L12 J5) x.1 x.2.1 x.2.2.1 x.2.2.2.1 x.2.2.2.2.1 x.2.2.2.2.2.1 x.2.2.2.2.2.2.1 x.2.2.2.2.2.2.2.1 x.2.2.2.2.2.2.2.2.1 x.2.2.2.2.2.2.2.2.2.1
noncomputable def L5 : P5 → Option PO := lfp fun J5 x => F5 (L9 J5) (L12 J5) impl_Trimmed_1.impl impl_clone_of.impl x.1 x.2.1 x.2.2.1 x.2.2.2.1 x.2.2.2.2.1
noncomputable def impl : PI → Option PO := fun x => F0 L5 impl_TermsValid.impl x.1 x.2.1
theorem F12_le {J5 J5' : P5 → Option PO} (h5 : OLe J5 J5') (t6 : Int) (t17 : List (Int × Int × Int × Int)) (t18 : Int) (t19 : Int) (b0_0 : List (Int × Int × Int × Int)) (r1 : List Int) : OptLe (F12 J5 t6 t17 t18 t19 b0_0 r1) (F12 J5' t6 t17 t18 t19 b0_0 r1) := by unfold F12; exact .cond (.cond (.of h5 _) (.refl _)) (.refl _)
theorem F11_le {J12 J12' : P12 → Option PO} (h12 : OLe J12 J12') (t6 : Int) (t17 : List (Int × Int × Int × Int)) (t18 : Int) (t19 : Int) (b0_0 : List (Int × Int × Int × Int)) (r1 : List Int) (b2_0 : Int) (b2_1 : Int) (b2_2 : Int) (b2_3 : Int) : OptLe (F11 J12 t6 t17 t18 t19 b0_0 r1 b2_0 b2_1 b2_2 b2_3) (F11 J12' t6 t17 t18 t19 b0_0 r1 b2_0 b2_1 b2_2 b2_3) := by unfold F11; exact .cond (.cond (.cond (.of h12 _) (.refl _)) (.refl _)) (.refl _)
theorem F9_le {J11 J11' : P11 → Option PO} (h11 : OLe J11 J11') {J12 J12' : P12 → Option PO} (h12 : OLe J12 J12') (t6 : Int) (t17 : List (Int × Int × Int × Int)) (t18 : Int) (t19 : Int) (b0_0 : List (Int × Int × Int × Int)) (r1 : List Int) (b2_0 : Int) (b2_1 : Int) (b2_2 : Int) (b2_3 : Int) : OptLe (F9 J11 J12 t6 t17 t18 t19 b0_0 r1 b2_0 b2_1 b2_2 b2_3) (F9 J11' J12' t6 t17 t18 t19 b0_0 r1 b2_0 b2_1 b2_2 b2_3) := by unfold F9; exact .cond (.cond (.cond (.cond (.of h11 _) (.of h12 _)) (.refl _)) (.refl _)) (.refl _)
theorem F5_le {J9 J9' : P9 → Option PO} (h9 : OLe J9 J9') {J12 J12' : P12 → Option PO} (h12 : OLe J12 J12') {Gimpl_Trimmed_1 : impl_Trimmed_1.PI → Option impl_Trimmed_1.PO} {Gimpl_clone_of : impl_clone_of.PI → Option impl_clone_of.PO} (t17 : List (Int × Int × Int × Int)) (t18 : Int) (t19 : Int) (b0_0 : List (Int × Int × Int × Int)) (r1 : List Int) : OptLe (F5 J9 J12 Gimpl_Trimmed_1 Gimpl_clone_of t17 t18 t19 b0_0 r1) (F5 J9' J12' Gimpl_Trimmed_1 Gimpl_clone_of t17 t18 t19 b0_0 r1) := by unfold F5; exact .cond (.cond (.cond (.cond (.of h9 _) (.of h12 _)) (.refl _)) (.refl _)) (.refl _)
theorem L12_eq (J5 : P5 → Option PO) (t6 : Int) (t17 : List (Int × Int × Int × Int)) (t18 : Int) (t19 : Int) (b0_0 : List (Int × Int × Int × Int)) (r1 : List Int) : L12 J5 (t6, t17, t18, t19, b0_0, r1, ()) = F12 J5 t6 t17 t18 t19 b0_0 r1 := rfl
theorem L12_le {J5 J5' : P5 → Option PO} (h5 : OLe J5 J5') : OLe (L12 J5) (L12 J5') := fun x => F12_le h5 x.1 x.2.1 x.2.2.1 x.2.2.2.1 x.2.2.2.2.1 x.2.2.2.2.2.1
theorem L11_eq (J5 : P5 → Option PO) (t6 : Int) (t17 : List (Int × Int × Int × Int)) (t18 : Int) (t19 : Int) (b0_0 : List (Int × Int × Int × Int)) (r1 : List Int) (b2_0 : Int) (b2_1 : Int) (b2_2 : Int) (b2_3 : Int) : L11 J5 (t6, t17, t18, t19, b0_0, r1, b2_0, b2_1, b2_2, b2_3, ()) = F11 (L12 J5) t6 t17 t18 t19 b0_0 r1 b2_0 b2_1 b2_2 b2_3 := rfl
theorem L11_le {J5 J5' : P5 → Option PO} (h5 : OLe J5 J5') : OLe (L11 J5) (L11 J5') := fun x => F11_le (L12_le h5) x.1 x.2.1 x.2.2.1 x.2.2.2.1 x.2.2.2.2.1 x.2.2.2.2.2.1 x.2.2.2.2.2.2.1 x.2.2.2.2.2.2.2.1 x.2.2.2.2.2.2.2.2.1 x.2.2.2.2.2.2.2.2.2.1
theorem L9_eq (J5 : P5 → Option PO) (t6 : Int) (t17 : List (Int × Int × Int × Int)) (t18 : Int) (t19 : Int) (b0_0 : List (Int × Int × Int × Int)) (r1 : List Int) (b2_0 : Int) (b2_1 : Int) (b2_2 : Int) (b2_3 : Int) : L9 J5 (t6, t17, t18, t19, b0_0, r1, b2_0, b2_1, b2_2, b2_3, ()) = F9 (L11 J5) (L12 J5) t6 t17 t18 t19 b0_0 r1 b2_0 b2_1 b2_2 b2_3 := rfl
theorem L9_le {J5 J5' : P5 → Option PO} (h5 : OLe J5 J5') : OLe (L9 J5) (L9 J5') := fun x => F9_le (L11_le h5) (L12_le h5) x.1 x.2.1 x.2.2.1 x.2.2.2.1 x.2.2.2.2.1 x.2.2.2.2.2.1 x.2.2.2.2.2.2.1 x.2.2.2.2.2.2.2.1 x.2.2.2.2.2.2.2.2.1 x.2.2.2.2.2.2.2.2.2.1
theorem L5_mono : OMono fun J5 (x : P5) => F5 (L9 J5) (L12 J5) impl_Trimmed_1.impl impl_clone_of.impl x.1 x.2.1 x.2.2.1 x.2.2.2.1 x.2.2.2.2.1 := fun J J' h5 x => F5_le (L9_le h5) (L12_le h5) x.1 x.2.1 x.2.2.1 x.2.2.2.1 x.2.2.2.2.1
theorem L5_eq (t17 : List (Int × Int × Int × Int)) (t18 : Int) (t19 : Int) (b0_0 : List (Int × Int × Int × Int)) (r1 : List Int) : L5 (t17, t18, t19, b0_0, r1, ()) = F5 (L9 (L5)) (L12 (L5)) impl_Trimmed_1.impl impl_clone_of.impl t17 t18 t19 b0_0 r1 := congrFun (lfp_eq (L5_mono)) _
theorem impl_eq (x0 : List (Int × Int × Int × Int)) (x1 : Int) : impl (x0, x1, ()) = F0 L5 impl_TermsValid.impl x0 x1 := rfl
theorem con : Con Try.prog 32 2 rs.length 2 pin pout impl := by
  refine con_of_run' (nt := 84) (c := c0) tabGood Try.func32 (by kernel_rfl) (by kernel_rfl) (by kernel_rfl) (by kernel_rfl) (by kernel_rfl) (by kernel_rfl) (by kernel_rfl) ?_
  intro w0 O y hnp
  generalize hPost : (fun (a' : Act) (w' : World) => ∃ μ' S' st', Rel 84 w0 O μ' S' st' a' w' ∧ endOf (tabOf tab) rs 2 pout st' = some y) = Post
  have fin : ∀ (μ : Id → Option Value) (S : Nat → Prop) (st : St) (a : Act) (w : World), Rel 84 w0 O μ S st a w → endOf (tabOf tab) rs 2 pout st = some y → Post a w := fun μ S st a w h he => by rw [← hPost]; exact ⟨μ, S, st, h, he⟩
  have hp : ∀ (J5 : List Item → P5 → Option PO), ∀ (J9 : List Item → P9 → Option PO), ∀ (J11 : List Item → P11 → Option PO), ∀ (J12 : List Item → P12 → Option PO), Parts Try.prog 32 (pg impl_TermsValid.impl impl_Trimmed_1.impl impl_clone_of.impl J5 J9 J11 J12) [(5, cut p5 J5), (9, cut p9 J9), (11, cut p11 J11), (12, cut p12 J12)] := fun J5 J9 J11 J12 => ⟨tab_ok tabGood rfl, (handAt_ok impl_clone_of.con (handAt_ok impl_Trimmed_1.con (handAt_ok impl_TermsValid.con handNil_ok))), rfl⟩
  have g12 : ∀ (J5 : P5 → Option PO), Good Try.prog 84 w0 O Post y T5 p5 J5 → Good Try.prog 84 w0 O Post y T12 p12 (L12 J5) := fun J5 h5 => good_part (hp (atT T5 J5) (atT T9 (fun _ => none)) (atT T11 (fun _ => none)) (atT T12 (fun _ => none))) (runOK_of (hp (atT T5 J5) (atT T9 (fun _ => none)) (atT T11 (fun _ => none)) (atT T12 (fun _ => none))) hnp ⟨cutOK_at h5, cutOK_at (p := p9) (T := T9) (J := fun _ => none) good_none, cutOK_at (p := p11) (T := T11) (J := fun _ => none) good_none, cutOK_at (p := p12) (T := T12) (J := fun _ => none) good_none, trivial⟩ fin) (fun x => (seg12 impl_TermsValid.impl impl_Trimmed_1.impl impl_clone_of.impl (atT T5 J5) (atT T9 (fun _ => none)) (atT T11 (fun _ => none)) (atT T12 (fun _ => none)) x.1 x.2.1 x.2.2.1 x.2.2.2.1 x.2.2.2.2.1 x.2.2.2.2.2.1).trans (by simp only [atT_self] <;> rfl))
  have g11 : ∀ (J5 : P5 → Option PO), Good Try.prog 84 w0 O Post y T5 p5 J5 → Good Try.prog 84 w0 O Post y T11 p11 (L11 J5) := fun J5 h5 => good_orders (hs := hd impl_TermsValid.impl impl_Trimmed_1.impl impl_clone_of.impl) (cv' := hd impl_TermsValid.impl impl_Trimmed_1.impl impl_clone_of.impl) (Checked.mixed Try.checked) (hp (atT T5 (fun _ => none)) (atT T9 (fun _ => none)) (atT T11 (fun _ => none)) (atT T12 (L12 J5))) (handAt_ok impl_clone_of.con (handAt_ok impl_Trimmed_1.con (handAt_ok impl_TermsValid.con handNil_ok))) (handAt_nat (handAt_nat (handAt_nat handNil_nat))) (handAt_nat (handAt_nat (handAt_nat handNil_nat))) (runOK_of (hp (atT T5 (fun _ => none)) (atT T9 (fun _ => none)) (atT T11 (fun _ => none)) (atT T12 (L12 J5))) hnp ⟨cutOK_at (p := p5) (T := T5) (J := fun _ => none) good_none, cutOK_at (p := p9) (T := T9) (J := fun _ => none) good_none, cutOK_at (p := p11) (T := T11) (J := fun _ => none) good_none, cutOK_at (g12 J5 h5), trivial⟩ fin) (fun x => ⟨_, (seg11 impl_TermsValid.impl impl_Trimmed_1.impl impl_clone_of.impl (atT T5 (fun _ => none)) (atT T9 (fun _ => none)) (atT T11 (fun _ => none)) (atT T12 (L12 J5)) x.1 x.2.1 x.2.2.1 x.2.2.2.1 x.2.2.2.2.1 x.2.2.2.2.2.1 x.2.2.2.2.2.2.1 x.2.2.2.2.2.2.2.1 x.2.2.2.2.2.2.2.2.1 x.2.2.2.2.2.2.2.2.2.1).trans (by simp only [atT_self] <;> rfl)⟩)
  have g9 : ∀ (J5 : P5 → Option PO), Good Try.prog 84 w0 O Post y T5 p5 J5 → Good Try.prog 84 w0 O Post y T9 p9 (L9 J5) := fun J5 h5 => good_orders (hs := hd impl_TermsValid.impl impl_Trimmed_1.impl impl_clone_of.impl) (cv' := hd impl_TermsValid.impl impl_Trimmed_1.impl impl_clone_of.impl) (Checked.mixed Try.checked) (hp (atT T5 (fun _ => none)) (atT T9 (fun _ => none)) (atT T11 (L11 J5)) (atT T12 (L12 J5))) (handAt_ok impl_clone_of.con (handAt_ok impl_Trimmed_1.con (handAt_ok impl_TermsValid.con handNil_ok))) (handAt_nat (handAt_nat (handAt_nat handNil_nat))) (handAt_nat (handAt_nat (handAt_nat handNil_nat))) (runOK_of (hp (atT T5 (fun _ => none)) (atT T9 (fun _ => none)) (atT T11 (L11 J5)) (atT T12 (L12 J5))) hnp ⟨cutOK_at (p := p5) (T := T5) (J := fun _ => none) good_none, cutOK_at (p := p9) (T := T9) (J := fun _ => none) good_none, cutOK_at (g11 J5 h5), cutOK_at (g12 J5 h5), trivial⟩ fin) (fun x => ⟨_, (seg9 impl_TermsValid.impl impl_Trimmed_1.impl impl_clone_of.impl (atT T5 (fun _ => none)) (atT T9 (fun _ => none)) (atT T11 (L11 J5)) (atT T12 (L12 J5)) x.1 x.2.1 x.2.2.1 x.2.2.2.1 x.2.2.2.2.1 x.2.2.2.2.2.1 x.2.2.2.2.2.2.1 x.2.2.2.2.2.2.2.1 x.2.2.2.2.2.2.2.2.1 x.2.2.2.2.2.2.2.2.2.1).trans (by simp only [atT_self] <;> rfl)⟩)
  have g5 : Good Try.prog 84 w0 O Post y T5 p5 L5 := good_lfp fun J5 h5 => good_part (hp (atT T5 (fun _ => none)) (atT T9 (L9 J5)) (atT T11 (fun _ => none)) (atT T12 (L12 J5))) (runOK_of (hp (atT T5 (fun _ => none)) (atT T9 (L9 J5)) (atT T11 (fun _ => none)) (atT T12 (L12 J5))) hnp ⟨cutOK_at (p := p5) (T := T5) (J := fun _ => none) good_none, cutOK_at (g9 J5 h5), cutOK_at (p := p11) (T := T11) (J := fun _ => none) good_none, cutOK_at (g12 J5 h5), trivial⟩ fin) (fun x => (seg5 impl_TermsValid.impl impl_Trimmed_1.impl impl_clone_of.impl (atT T5 (fun _ => none)) (atT T9 (L9 J5)) (atT T11 (fun _ => none)) (atT T12 (L12 J5)) x.1 x.2.1 x.2.2.1 x.2.2.2.1 x.2.2.2.2.1).trans (by simp only [atT_self] <;> rfl))
  exact good_first (hp (atT T5 L5) (atT T9 (fun _ => none)) (atT T11 (fun _ => none)) (atT T12 (fun _ => none))) (runOK_of (hp (atT T5 L5) (atT T9 (fun _ => none)) (atT T11 (fun _ => none)) (atT T12 (fun _ => none))) hnp ⟨cutOK_at g5, cutOK_at (p := p9) (T := T9) (J := fun _ => none) good_none, cutOK_at (p := p11) (T := T11) (J := fun _ => none) good_none, cutOK_at (p := p12) (T := T12) (J := fun _ => none) good_none, trivial⟩ fin) (fun x => (seg0 impl_TermsValid.impl impl_Trimmed_1.impl impl_clone_of.impl (atT T5 L5) (atT T9 (fun _ => none)) (atT T11 (fun _ => none)) (atT T12 (fun _ => none)) x.1 x.2.1).trans (by simp only [atT_self] <;> rfl))
end impl_Trimmed

/-! ### loop.example/wholecheck/laws.eqTerm -/
namespace laws_eqTerm
noncomputable abbrev c0 : Code := (Try.f67.body).getD .skip
noncomputable abbrev pin : Tpl := ⟨[⟨0, true, [.d (.prod (.int .i64) (.prod (.int .i64) (.prod (.int .i64) (.last (.int .i64)))))]⟩, ⟨1, true, [.d (.prod (.int .i64) (.prod (.int .i64) (.prod (.int .i64) (.last (.int .i64)))))]⟩], []⟩
noncomputable abbrev pout : Tpl := ⟨[⟨0, false, [.d .bool]⟩], []⟩
noncomputable abbrev PI := (Int × Int × Int × Int) × (Int × Int × Int × Int) × Unit
noncomputable abbrev PO := Bool × Unit
noncomputable abbrev rs : List ResultVar := [.tmp 4]
noncomputable def F0 (x0 : Int × Int × Int × Int) (x1 : Int × Int × Int × Int) : Option PO :=
  bif x0.1 != x1.1 then
    some (false, ())
  else
    bif x0.2.1 != x1.2.1 then
      some (false, ())
    else
      bif x0.2.2.1 != x1.2.2.1 then
        some (false, ())
      else
        bif x0.2.2.2 != x1.2.2.2 then
          some (false, ())
        else
          some (true, ())
noncomputable def hd {R : Type} : Hand R := handNil
noncomputable def pg : Prog PO := { nt := 25, np := 2, tb := tabOf tab, hd := hd, cuts := cutsOf [], fin := endOf (tabOf tab) rs 2 pout }
theorem seg0 (x0 : Int × Int × Int × Int) (x1 : Int × Int × Int × Int) : arun (pg) 5000 [.code c0] (mk pin (x0, x1, ())) = F0 x0 x1 := by kernel_rfl
noncomputable def impl : PI → Option PO := fun x => F0 x.1 x.2.1
theorem impl_eq (x0 : Int × Int × Int × Int) (x1 : Int × Int × Int × Int) : impl (x0, x1, ()) = F0 x0 x1 := rfl
theorem con : Con Try.prog 67 2 rs.length 2 pin pout impl := by
  refine con_of_run' (nt := 25) (c := c0) tabGood Try.func67 (by kernel_rfl) (by kernel_rfl) (by kernel_rfl) (by kernel_rfl) (by kernel_rfl) (by kernel_rfl) (by kernel_rfl) ?_
  intro w0 O y hnp
  generalize hPost : (fun (a' : Act) (w' : World) => ∃ μ' S' st', Rel 25 w0 O μ' S' st' a' w' ∧ endOf (tabOf tab) rs 2 pout st' = some y) = Post
  have fin : ∀ (μ : Id → Option Value) (S : Nat → Prop) (st : St) (a : Act) (w : World), Rel 25 w0 O μ S st a w → endOf (tabOf tab) rs 2 pout st = some y → Post a w := fun μ S st a w h he => by rw [← hPost]; exact ⟨μ, S, st, h, he⟩
  have hp : Parts Try.prog 67 (pg) [] := ⟨tab_ok tabGood rfl, handNil_ok, rfl⟩
  exact good_first (hp) (runOK_of (hp) hnp trivial fin) (fun x => (seg0 x.1 x.2.1))
end laws_eqTerm

/-! ### loop.example/wholecheck/laws.eqTermS -/
namespace laws_eqTermS
noncomputable abbrev c0 : Code := (Try.f33.body).getD .skip
noncomputable abbrev pin : Tpl := ⟨[⟨0, false, [.d (.sl (.prod (.int .i64) (.prod (.int .i64) (.prod (.int .i64) (.last (.int .i64))))))]⟩, ⟨1, false, [.d (.sl (.prod (.int .i64) (.prod (.int .i64) (.prod (.int .i64) (.last (.int .i64))))))]⟩], []⟩
noncomputable abbrev pout : Tpl := ⟨[⟨0, false, [.d .bool]⟩], []⟩
noncomputable abbrev p4 : Tpl := ⟨[⟨0, false, [.d (.sl (.prod (.int .i64) (.prod (.int .i64) (.prod (.int .i64) (.last (.int .i64))))))]⟩, ⟨1, false, [.d (.sl (.prod (.int .i64) (.prod (.int .i64) (.prod (.int .i64) (.last (.int .i64))))))]⟩, ⟨5, false, [.d (.int .i64)]⟩], []⟩
noncomputable def T4 : List Item := (find 4 c0 []).getD []
noncomputable abbrev p6 : Tpl := ⟨[⟨0, false, [.d (.sl (.prod (.int .i64) (.prod (.int .i64) (.prod (.int .i64) (.last (.int .i64))))))]⟩, ⟨1, false, [.d (.sl (.prod (.int .i64) (.prod (.int .i64) (.prod (.int .i64) (.last (.int .i64))))))]⟩, ⟨5, false, [.d (.int .i64)]⟩], []⟩
noncomputable def T6 : List Item := (find 6 c0 []).getD []
noncomputable abbrev PI := (List (Int × Int × Int × Int)) × (List (Int × Int × Int × Int)) × Unit
noncomputable abbrev PO := Bool × Unit
noncomputable abbrev P4 := (List (Int × Int × Int × Int)) × (List (Int × Int × Int × Int)) × Int × Unit
noncomputable abbrev P6 := (List (Int × Int × Int × Int)) × (List (Int × Int × Int × Int)) × Int × Unit
noncomputable abbrev rs : List ResultVar := [.tmp 4]
noncomputable def F0 (J4 : P4 → Option PO) (x0 : List (Int × Int × Int × Int)) (x1 : List (Int × Int × Int × Int)) : Option PO :=
  bif (x0.length : Int) != (x1.length : Int) then
    some (false, ())
  else
    J4 (x0, x1, 0, ())
noncomputable def F4 (J6 : P6 → Option PO) (t0 : List (Int × Int × Int × Int)) (t1 : List (Int × Int × Int × Int)) (t5 : Int) : Option PO :=
  bif decide (t5 < (t0.length : Int)) then
    J6 (t0, t1, t5, ())
  else
    some (true, ())
noncomputable def F6 (J4 : P4 → Option PO) (Glaws_eqTerm : laws_eqTerm.PI → Option laws_eqTerm.PO) (t0 : List (Int × Int × Int × Int)) (t1 : List (Int × Int × Int × Int)) (t5 : Int) : Option PO :=
  bif inb t5 t0.length then
    bif inb t5 t1.length then
      Option.bind (Glaws_eqTerm (t0.getD t5.toNat (0, 0, 0, 0), t1.getD t5.toNat (0, 0, 0, 0), ())) fun y0 =>
      bif !y0.1 then
        some (false, ())
      else
        J4 (t0, t1, wI (t5 + 1), ())
    else
      none
  else
    none
noncomputable def hd {R : Type} (Glaws_eqTerm : laws_eqTerm.PI → Option laws_eqTerm.PO) : Hand R := (handAt 67 [25] true ⟨2, 1, 2, laws_eqTerm.pin, laws_eqTerm.pout, Glaws_eqTerm⟩ handNil)
noncomputable def pg (Glaws_eqTerm : laws_eqTerm.PI → Option laws_eqTerm.PO) (J4 : List Item → P4 → Option PO) (J6 : List Item → P6 → Option PO) : Prog PO := { nt := 27, np := 2, tb := tabOf tab, hd := hd Glaws_eqTerm, cuts := cutsOf [(4, cut p4 J4), (6, cut p6 J6)], fin := endOf (tabOf tab) rs 2 pout }
theorem seg0 (Glaws_eqTerm : laws_eqTerm.PI → Option laws_eqTerm.PO) (J4 : List Item → P4 → Option PO) (J6 : List Item → P6 → Option PO) (x0 : List (Int × Int × Int × Int)) (x1 : List (Int × Int × Int × Int)) : arun (pg Glaws_eqTerm J4 J6) 5000 [.code c0] (mk pin (x0, x1, ())) = F0 (J4 T4) x0 x1 := by kernel_rfl
theorem seg4 (Glaws_eqTerm : laws_eqTerm.PI → Option laws_eqTerm.PO) (J4 : List Item → P4 → Option PO) (J6 : List Item → P6 → Option PO) (t0 : List (Int × Int × Int × Int)) (t1 : List (Int × Int × Int × Int)) (t5 : Int) : arun1 (pg Glaws_eqTerm J4 J6) 5000 T4 (mk p4 (t0, t1, t5, ())) = F4 (J6 T6) t0 t1 t5 := by kernel_rfl
theorem seg6 (Glaws_eqTerm : laws_eqTerm.PI → Option laws_eqTerm.PO) (J4 : List Item → P4 → Option PO) (J6 : List Item → P6 → Option PO) (t0 : List (Int × Int × Int × Int)) (t1 : List (Int × Int × Int × Int)) (t5 : Int) : arunE (pg Glaws_eqTerm J4 J6) 5000 T6 (mk p6 (t0, t1, t5, ())) = List.replicate (arunE (pg Glaws_eqTerm J4 J6) 5000 T6 (mk p6 (t0, t1, t5, ()))).length (F6 (J4 T4) Glaws_eqTerm t0 t1 t5) := by kernel_rfl
noncomputable def L6 (J4 : P4 → Option PO) : P6 → Option PO := fun x => F6 J4 laws_eqTerm.impl x.1 x.2.1 x.2.2.1
noncomputable def L4 : P4 → Option PO := lfp fun J4 x => F4 (L6 J4) x.1 x.2.1 x.2.2.1
noncomputable def impl : PI → Option PO := fun x => F0 L4 x.1 x.2.1
theorem F6_le {J4 J4' : P4 → Option PO} (h4 : OLe J4 J4') {Glaws_eqTerm : laws_eqTerm.PI → Option laws_eqTerm.PO} (t0 : List (Int × Int × Int × Int)) (t1 : List (Int × Int × Int × Int)) (t5 : Int) : OptLe (F6 J4 Glaws_eqTerm t0 t1 t5) (F6 J4' Glaws_eqTerm t0 t1 t5) := by unfold F6; exact .cond (.cond (.bind (.refl _) fun _ => .cond (.refl _) (.of h4 _)) (.refl _)) (.refl _)
theorem F4_le {J6 J6' : P6 → Option PO} (h6 : OLe J6 J6') (t0 : List (Int × Int × Int × Int)) (t1 : List (Int × Int × Int × Int)) (t5 : Int) : OptLe (F4 J6 t0 t1 t5) (F4 J6' t0 t1 t5) := by unfold F4; exact .cond (.of h6 _) (.refl _)
theorem L6_eq (J4 : P4 → Option PO) (t0 : List (Int × Int × Int × Int)) (t1 : List (Int × Int × Int × Int)) (t5 : Int) : L6 J4 (t0, t1, t5, ()) = F6 J4 laws_eqTerm.impl t0 t1 t5 := rfl
theorem L6_le {J4 J4' : P4 → Option PO} (h4 : OLe J4 J4') : OLe (L6 J4) (L6 J4') := fun x => F6_le h4 x.1 x.2.1 x.2.2.1
theorem L4_mono : OMono fun J4 (x : P4) => F4 (L6 J4) x.1 x.2.1 x.2.2.1 := fun J J' h4 x => F4_le (L6_le h4) x.1 x.2.1 x.2.2.1
theorem L4_eq (t0 : List (Int × Int × Int × Int)) (t1 : List (Int × Int × Int × Int)) (t5 : Int) : L4 (t0, t1, t5, ()) = F4 (L6 (L4)) t0 t1 t5 := congrFun (lfp_eq (L4_mono)) _
theorem impl_eq (x0 : List (Int × Int × Int × Int)) (x1 : List (Int × Int × Int × Int)) : impl (x0, x1, ()) = F0 L4 x0 x1 := rfl
theorem con : Con Try.prog 33 2 rs.length 2 pin pout impl := by
  refine con_of_run' (nt := 27) (c := c0) tabGood Try.func33 (by kernel_rfl) (by kernel_rfl) (by kernel_rfl) (by kernel_rfl) (by kernel_rfl) (by kernel_rfl) (by kernel_rfl) ?_
  intro w0 O y hnp
  generalize hPost : (fun (a' : Act) (w' : World) => ∃ μ' S' st', Rel 27 w0 O μ' S' st' a' w' ∧ endOf (tabOf tab) rs 2 pout st' = some y) = Post
  have fin : ∀ (μ : Id → Option Value) (S : Nat → Prop) (st : St) (a : Act) (w : World), Rel 27 w0 O μ S st a w → endOf (tabOf tab) rs 2 pout st = some y → Post a w := fun μ S st a w h he => by rw [← hPost]; exact ⟨μ, S, st, h, he⟩
  have hp : ∀ (J4 : List Item → P4 → Option PO), ∀ (J6 : List Item → P6 → Option PO), Parts Try.prog 33 (pg laws_eqTerm.impl J4 J6) [(4, cut p4 J4), (6, cut p6 J6)] := fun J4 J6 => ⟨tab_ok tabGood rfl, (handAt_ok laws_eqTerm.con handNil_ok), rfl⟩
  have g6 : ∀ (J4 : P4 → Option PO), Good Try.prog 27 w0 O Post y T4 p4 J4 → Good Try.prog 27 w0 O Post y T6 p6 (L6 J4) := fun J4 h4 => good_orders (hs := hd laws_eqTerm.impl) (cv' := hd laws_eqTerm.impl) (Checked.mixed Try.checked) (hp (atT T4 J4) (atT T6 (fun _ => none))) (handAt_ok laws_eqTerm.con handNil_ok) (handAt_nat handNil_nat) (handAt_nat handNil_nat) (runOK_of (hp (atT T4 J4) (atT T6 (fun _ => none))) hnp ⟨cutOK_at h4, cutOK_at (p := p6) (T := T6) (J := fun _ => none) good_none, trivial⟩ fin) (fun x => ⟨_, (seg6 laws_eqTerm.impl (atT T4 J4) (atT T6 (fun _ => none)) x.1 x.2.1 x.2.2.1).trans (by simp only [atT_self] <;> rfl)⟩)
  have g4 : Good Try.prog 27 w0 O Post y T4 p4 L4 := good_lfp fun J4 h4 => good_part (hp (atT T4 (fun _ => none)) (atT T6 (L6 J4))) (runOK_of (hp (atT T4 (fun _ => none)) (atT T6 (L6 J4))) hnp ⟨cutOK_at (p := p4) (T := T4) (J := fun _ => none) good_none, cutOK_at (g6 J4 h4), trivial⟩ fin) (fun x => (seg4 laws_eqTerm.impl (atT T4 (fun _ => none)) (atT T6 (L6 J4)) x.1 x.2.1 x.2.2.1).trans (by simp only [atT_self] <;> rfl))
  exact good_first (hp (atT T4 L4) (atT T6 (fun _ => none))) (runOK_of (hp (atT T4 L4) (atT T6 (fun _ => none))) hnp ⟨cutOK_at g4, cutOK_at (p := p6) (T := T6) (J := fun _ => none) good_none, trivial⟩ fin) (fun x => (seg0 laws_eqTerm.impl (atT T4 L4) (atT T6 (fun _ => none)) x.1 x.2.1).trans (by simp only [atT_self] <;> rfl))
end laws_eqTermS

/-! ### loop.example/wholecheck/laws.markTermS -/
namespace laws_markTermS
noncomputable abbrev c0 : Code := (Try.f34.body).getD .skip
noncomputable abbrev pin : Tpl := ⟨[⟨0, false, [.row 500001]⟩, ⟨1, false, [.d (.int .i64)]⟩], [(500001, .row 102 false (.prod (.int .i64) (.prod (.int .i64) (.prod (.int .i64) (.last (.int .i64))))))]⟩
noncomputable abbrev pout : Tpl := ⟨[⟨0, false, [.d (.int .i64)]⟩, ⟨1, false, [.row 500001]⟩], [(500001, .row 102 false (.prod (.int .i64) (.prod (.int .i64) (.prod (.int .i64) (.last (.int .i64))))))]⟩
noncomputable abbrev p2 : Tpl := ⟨[⟨0, false, [.row 500001]⟩, ⟨1, false, [.d (.int .i64)]⟩, ⟨5, false, [.d (.int .i64)]⟩], [(500001, .row 102 false (.prod (.int .i64) (.prod (.int .i64) (.prod (.int .i64) (.last (.int .i64))))))]⟩
noncomputable def T2 : List Item := (find 2 c0 []).getD []
noncomputable abbrev PI := Int × (List (Int × Int × Int × Int)) × Unit
noncomputable abbrev PO := Int × (List (Int × Int × Int × Int)) × Unit
noncomputable abbrev P2 := Int × Int × (List (Int × Int × Int × Int)) × Unit
noncomputable abbrev rs : List ResultVar := [.tmp 4]
noncomputable def F0 (J2 : P2 → Option PO) (x1 : Int) (s1 : List (Int × Int × Int × Int)) : Option PO :=
  J2 (x1, 0, s1, ())
noncomputable def F2 (J2 : P2 → Option PO) (t1 : Int) (t5 : Int) (s1 : List (Int × Int × Int × Int)) : Option PO :=
  bif decide (t5 < (s1.length : Int)) then
    bif inb t5 s1.length then
      bif inb t5 (s1.set t5.toNat (t1, (s1.getD t5.toNat (0, 0, 0, 0)).2)).length then
        bif inb t5 ((s1.set t5.toNat (t1, (s1.getD t5.toNat (0, 0, 0, 0)).2)).set t5.toNat (((s1.set t5.toNat (t1, (s1.getD t5.toNat (0, 0, 0, 0)).2)).getD t5.toNat (0, 0, 0, 0)).1, wI (t1 + 1), ((s1.set t5.toNat (t1, (s1.getD t5.toNat (0, 0, 0, 0)).2)).getD t5.toNat (0, 0, 0, 0)).2.2)).length then
          bif inb t5 (((s1.set t5.toNat (t1, (s1.getD t5.toNat (0, 0, 0, 0)).2)).set t5.toNat (((s1.set t5.toNat (t1, (s1.getD t5.toNat (0, 0, 0, 0)).2)).getD t5.toNat (0, 0, 0, 0)).1, wI (t1 + 1), ((s1.set t5.toNat (t1, (s1.getD t5.toNat (0, 0, 0, 0)).2)).getD t5.toNat (0, 0, 0, 0)).2.2)).set t5.toNat ((((s1.set t5.toNat (t1, (s1.getD t5.toNat (0, 0, 0, 0)).2)).set t5.toNat (((s1.set t5.toNat (t1, (s1.getD t5.toNat (0, 0, 0, 0)).2)).getD t5.toNat (0, 0, 0, 0)).1, wI (t1 + 1), ((s1.set t5.toNat (t1, (s1.getD t5.toNat (0, 0, 0, 0)).2)).getD t5.toNat (0, 0, 0, 0)).2.2)).getD t5.toNat (0, 0, 0, 0)).1, (((s1.set t5.toNat (t1, (s1.getD t5.toNat (0, 0, 0, 0)).2)).set t5.toNat (((s1.set t5.toNat (t1, (s1.getD t5.toNat (0, 0, 0, 0)).2)).getD t5.toNat (0, 0, 0, 0)).1, wI (t1 + 1), ((s1.set t5.toNat (t1, (s1.getD t5.toNat (0, 0, 0, 0)).2)).getD t5.toNat (0, 0, 0, 0)).2.2)).getD t5.toNat (0, 0, 0, 0)).2.1, wI ((wI (t1 + 1)) + 1), (((s1.set t5.toNat (t1, (s1.getD t5.toNat (0, 0, 0, 0)).2)).set t5.toNat (((s1.set t5.toNat (t1, (s1.getD t5.toNat (0, 0, 0, 0)).2)).getD t5.toNat (0, 0, 0, 0)).1, wI (t1 + 1), ((s1.set t5.toNat (t1, (s1.getD t5.toNat (0, 0, 0, 0)).2)).getD t5.toNat (0, 0, 0, 0)).2.2)).getD t5.toNat (0, 0, 0, 0)).2.2.2)).length then
            J2 (wI ((wI ((wI ((wI (t1 + 1)) + 1)) + 1)) + 1), wI (t5 + 1), (((s1.set t5.toNat (t1, (s1.getD t5.toNat (0, 0, 0, 0)).2)).set t5.toNat (((s1.set t5.toNat (t1, (s1.getD t5.toNat (0, 0, 0, 0)).2)).getD t5.toNat (0, 0, 0, 0)).1, wI (t1 + 1), ((s1.set t5.toNat (t1, (s1.getD t5.toNat (0, 0, 0, 0)).2)).getD t5.toNat (0, 0, 0, 0)).2.2)).set t5.toNat ((((s1.set t5.toNat (t1, (s1.getD t5.toNat (0, 0, 0, 0)).2)).set t5.toNat (((s1.set t5.toNat (t1, (s1.getD t5.toNat (0, 0, 0, 0)).2)).getD t5.toNat (0, 0, 0, 0)).1, wI (t1 + 1), ((s1.set t5.toNat (t1, (s1.getD t5.toNat (0, 0, 0, 0)).2)).getD t5.toNat (0, 0, 0, 0)).2.2)).getD t5.toNat (0, 0, 0, 0)).1, (((s1.set t5.toNat (t1, (s1.getD t5.toNat (0, 0, 0, 0)).2)).set t5.toNat (((s1.set t5.toNat (t1, (s1.getD t5.toNat (0, 0, 0, 0)).2)).getD t5.toNat (0, 0, 0, 0)).1, wI (t1 + 1), ((s1.set t5.toNat (t1, (s1.getD t5.toNat (0, 0, 0, 0)).2)).getD t5.toNat (0, 0, 0, 0)).2.2)).getD t5.toNat (0, 0, 0, 0)).2.1, wI ((wI (t1 + 1)) + 1), (((s1.set t5.toNat (t1, (s1.getD t5.toNat (0, 0, 0, 0)).2)).set t5.toNat (((s1.set t5.toNat (t1, (s1.getD t5.toNat (0, 0, 0, 0)).2)).getD t5.toNat (0, 0, 0, 0)).1, wI (t1 + 1), ((s1.set t5.toNat (t1, (s1.getD t5.toNat (0, 0, 0, 0)).2)).getD t5.toNat (0, 0, 0, 0)).2.2)).getD t5.toNat (0, 0, 0, 0)).2.2.2)).set t5.toNat (((((s1.set t5.toNat (t1, (s1.getD t5.toNat (0, 0, 0, 0)).2)).set t5.toNat (((s1.set t5.toNat (t1, (s1.getD t5.toNat (0, 0, 0, 0)).2)).getD t5.toNat (0, 0, 0, 0)).1, wI (t1 + 1), ((s1.set t5.toNat (t1, (s1.getD t5.toNat (0, 0, 0, 0)).2)).getD t5.toNat (0, 0, 0, 0)).2.2)).set t5.toNat ((((s1.set t5.toNat (t1, (s1.getD t5.toNat (0, 0, 0, 0)).2)).set t5.toNat (((s1.set t5.toNat (t1, (s1.getD t5.toNat (0, 0, 0, 0)).2)).getD t5.toNat (0, 0, 0, 0)).1, wI (t1 + 1), ((s1.set t5.toNat (t1, (s1.getD t5.toNat (0, 0, 0, 0)).2)).getD t5.toNat (0, 0, 0, 0)).2.2)).getD t5.toNat (0, 0, 0, 0)).1, (((s1.set t5.toNat (t1, (s1.getD t5.toNat (0, 0, 0, 0)).2)).set t5.toNat (((s1.set t5.toNat (t1, (s1.getD t5.toNat (0, 0, 0, 0)).2)).getD t5.toNat (0, 0, 0, 0)).1, wI (t1 + 1), ((s1.set t5.toNat (t1, (s1.getD t5.toNat (0, 0, 0, 0)).2)).getD t5.toNat (0, 0, 0, 0)).2.2)).getD t5.toNat (0, 0, 0, 0)).2.1, wI ((wI (t1 + 1)) + 1), (((s1.set t5.toNat (t1, (s1.getD t5.toNat (0, 0, 0, 0)).2)).set t5.toNat (((s1.set t5.toNat (t1, (s1.getD t5.toNat (0, 0, 0, 0)).2)).getD t5.toNat (0, 0, 0, 0)).1, wI (t1 + 1), ((s1.set t5.toNat (t1, (s1.getD t5.toNat (0, 0, 0, 0)).2)).getD t5.toNat (0, 0, 0, 0)).2.2)).getD t5.toNat (0, 0, 0, 0)).2.2.2)).getD t5.toNat (0, 0, 0, 0)).1, ((((s1.set t5.toNat (t1, (s1.getD t5.toNat (0, 0, 0, 0)).2)).set t5.toNat (((s1.set t5.toNat (t1, (s1.getD t5.toNat (0, 0, 0, 0)).2)).getD t5.toNat (0, 0, 0, 0)).1, wI (t1 + 1), ((s1.set t5.toNat (t1, (s1.getD t5.toNat (0, 0, 0, 0)).2)).getD t5.toNat (0, 0, 0, 0)).2.2)).set t5.toNat ((((s1.set t5.toNat (t1, (s1.getD t5.toNat (0, 0, 0, 0)).2)).set t5.toNat (((s1.set t5.toNat (t1, (s1.getD t5.toNat (0, 0, 0, 0)).2)).getD t5.toNat (0, 0, 0, 0)).1, wI (t1 + 1), ((s1.set t5.toNat (t1, (s1.getD t5.toNat (0, 0, 0, 0)).2)).getD t5.toNat (0, 0, 0, 0)).2.2)).getD t5.toNat (0, 0, 0, 0)).1, (((s1.set t5.toNat (t1, (s1.getD t5.toNat (0, 0, 0, 0)).2)).set t5.toNat (((s1.set t5.toNat (t1, (s1.getD t5.toNat (0, 0, 0, 0)).2)).getD t5.toNat (0, 0, 0, 0)).1, wI (t1 + 1), ((s1.set t5.toNat (t1, (s1.getD t5.toNat (0, 0, 0, 0)).2)).getD t5.toNat (0, 0, 0, 0)).2.2)).getD t5.toNat (0, 0, 0, 0)).2.1, wI ((wI (t1 + 1)) + 1), (((s1.set t5.toNat (t1, (s1.getD t5.toNat (0, 0, 0, 0)).2)).set t5.toNat (((s1.set t5.toNat (t1, (s1.getD t5.toNat (0, 0, 0, 0)).2)).getD t5.toNat (0, 0, 0, 0)).1, wI (t1 + 1), ((s1.set t5.toNat (t1, (s1.getD t5.toNat (0, 0, 0, 0)).2)).getD t5.toNat (0, 0, 0, 0)).2.2)).getD t5.toNat (0, 0, 0, 0)).2.2.2)).getD t5.toNat (0, 0, 0, 0)).2.1, ((((s1.set t5.toNat (t1, (s1.getD t5.toNat (0, 0, 0, 0)).2)).set t5.toNat (((s1.set t5.toNat (t1, (s1.getD t5.toNat (0, 0, 0, 0)).2)).getD t5.toNat (0, 0, 0, 0)).1, wI (t1 + 1), ((s1.set t5.toNat (t1, (s1.getD t5.toNat (0, 0, 0, 0)).2)).getD t5.toNat (0, 0, 0, 0)).2.2)).set t5.toNat ((((s1.set t5.toNat (t1, (s1.getD t5.toNat (0, 0, 0, 0)).2)).set t5.toNat (((s1.set t5.toNat (t1, (s1.getD t5.toNat (0, 0, 0, 0)).2)).getD t5.toNat (0, 0, 0, 0)).1, wI (t1 + 1), ((s1.set t5.toNat (t1, (s1.getD t5.toNat (0, 0, 0, 0)).2)).getD t5.toNat (0, 0, 0, 0)).2.2)).getD t5.toNat (0, 0, 0, 0)).1, (((s1.set t5.toNat (t1, (s1.getD t5.toNat (0, 0, 0, 0)).2)).set t5.toNat (((s1.set t5.toNat (t1, (s1.getD t5.toNat (0, 0, 0, 0)).2)).getD t5.toNat (0, 0, 0, 0)).1, wI (t1 + 1), ((s1.set t5.toNat (t1, (s1.getD t5.toNat (0, 0, 0, 0)).2)).getD t5.toNat (0, 0, 0, 0)).2.2)).getD t5.toNat (0, 0, 0, 0)).2.1, wI ((wI (t1 + 1)) + 1), (((s1.set t5.toNat (t1, (s1.getD t5.toNat (0, 0, 0, 0)).2)).set t5.toNat (((s1.set t5.toNat (t1, (s1.getD t5.toNat (0, 0, 0, 0)).2)).getD t5.toNat (0, 0, 0, 0)).1, wI (t1 + 1), ((s1.set t5.toNat (t1, (s1.getD t5.toNat (0, 0, 0, 0)).2)).getD t5.toNat (0, 0, 0, 0)).2.2)).getD t5.toNat (0, 0, 0, 0)).2.2.2)).getD t5.toNat (0, 0, 0, 0)).2.2.1, wI ((wI ((wI (t1 + 1)) + 1)) + 1)), ())
          else
            none
        else
          none
      else
        none
    else
      none
  else
    some (t1, s1, ())
noncomputable def hd {R : Type} : Hand R := handNil
noncomputable def pg (J2 : List Item → P2 → Option PO) : Prog PO := { nt := 41, np := 1, tb := tabOf tab, hd := hd, cuts := cutsOf [(2, cut p2 J2)], fin := endOf (tabOf tab) rs 1 pout }
theorem seg0 (J2 : List Item → P2 → Option PO) (x1 : Int) (s1 : List (Int × Int × Int × Int)) : arun (pg J2) 5000 [.code c0] (mk pin (x1, s1, ())) = F0 (J2 T2) x1 s1 := by kernel_rfl
theorem seg2 (J2 : List Item → P2 → Option PO) (t1 : Int) (t5 : Int) (s1 : List (Int × Int × Int × Int)) : arun1 (pg J2) 5000 T2 (mk p2 (t1, t5, s1, ())) = F2 (J2 T2) t1 t5 s1 := by kernel_rfl
noncomputable def L2 : P2 → Option PO := lfp fun J2 x => F2 J2 x.1 x.2.1 x.2.2.1
noncomputable def impl : PI → Option PO := fun x => F0 L2 x.1 x.2.1
theorem F2_le {J2 J2' : P2 → Option PO} (h2 : OLe J2 J2') (t1 : Int) (t5 : Int) (s1 : List (Int × Int × Int × Int)) : OptLe (F2 J2 t1 t5 s1) (F2 J2' t1 t5 s1) := by unfold F2; exact .cond (.cond (.cond (.cond (.cond (.of h2 _) (.refl _)) (.refl _)) (.refl _)) (.refl _)) (.refl _)
theorem L2_mono : OMono fun J2 (x : P2) => F2 J2 x.1 x.2.1 x.2.2.1 := fun J J' h2 x => F2_le h2 x.1 x.2.1 x.2.2.1
theorem L2_eq (t1 : Int) (t5 : Int) (s1 : List (Int × Int × Int × Int)) : L2 (t1, t5, s1, ()) = F2 (L2) t1 t5 s1 := congrFun (lfp_eq (L2_mono)) _
theorem impl_eq (x1 : Int) (s1 : List (Int × Int × Int × Int)) : impl (x1, s1, ()) = F0 L2 x1 s1 := rfl
theorem con : Con Try.prog 34 2 rs.length 1 pin pout impl := by
  refine con_of_run' (nt := 41) (c := c0) tabGood Try.func34 (by kernel_rfl) (by kernel_rfl) (by kernel_rfl) (by kernel_rfl) (by kernel_rfl) (by kernel_rfl) (by kernel_rfl) ?_
  intro w0 O y hnp
  generalize hPost : (fun (a' : Act) (w' : World) => ∃ μ' S' st', Rel 41 w0 O μ' S' st' a' w' ∧ endOf (tabOf tab) rs 1 pout st' = some y) = Post
  have fin : ∀ (μ : Id → Option Value) (S : Nat → Prop) (st : St) (a : Act) (w : World), Rel 41 w0 O μ S st a w → endOf (tabOf tab) rs 1 pout st = some y → Post a w := fun μ S st a w h he => by rw [← hPost]; exact ⟨μ, S, st, h, he⟩
  have hp : ∀ (J2 : List Item → P2 → Option PO), Parts Try.prog 34 (pg J2) [(2, cut p2 J2)] := fun J2 => ⟨tab_ok tabGood rfl, handNil_ok, rfl⟩
  have g2 : Good Try.prog 41 w0 O Post y T2 p2 L2 := good_lfp fun J2 h2 => good_part (hp (atT T2 J2)) (runOK_of (hp (atT T2 J2)) hnp ⟨cutOK_at h2, trivial⟩ fin) (fun x => (seg2 (atT T2 J2) x.1 x.2.1 x.2.2.1).trans (by simp only [atT_self] <;> rfl))
  exact good_first (hp (atT T2 L2)) (runOK_of (hp (atT T2 L2)) hnp ⟨cutOK_at g2, trivial⟩ fin) (fun x => (seg0 (atT T2 L2) x.1 x.2.1).trans (by simp only [atT_self] <;> rfl))
end laws_markTermS

/-! ### loop.example/wholecheck/laws.heldTermS -/
namespace laws_heldTermS
noncomputable abbrev c0 : Code := (Try.f35.body).getD .skip
noncomputable abbrev pin : Tpl := ⟨[⟨0, false, [.d (.sl (.prod (.int .i64) (.prod (.int .i64) (.prod (.int .i64) (.last (.int .i64))))))]⟩, ⟨1, false, [.d (.int .i64)]⟩], []⟩
noncomputable abbrev pout : Tpl := ⟨[⟨0, false, [.d (.int .i64)]⟩], []⟩
noncomputable abbrev p2 : Tpl := ⟨[⟨0, false, [.d (.sl (.prod (.int .i64) (.prod (.int .i64) (.prod (.int .i64) (.last (.int .i64))))))]⟩, ⟨1, false, [.d (.int .i64)]⟩, ⟨5, false, [.d (.int .i64)]⟩], []⟩
noncomputable def T2 : List Item := (find 2 c0 []).getD []
noncomputable abbrev PI := (List (Int × Int × Int × Int)) × Int × Unit
noncomputable abbrev PO := Int × Unit
noncomputable abbrev P2 := (List (Int × Int × Int × Int)) × Int × Int × Unit
noncomputable abbrev rs : List ResultVar := [.tmp 4]
noncomputable def F0 (J2 : P2 → Option PO) (x0 : List (Int × Int × Int × Int)) (x1 : Int) : Option PO :=
  J2 (x0, x1, 0, ())
noncomputable def F2 (J2 : P2 → Option PO) (t0 : List (Int × Int × Int × Int)) (t1 : Int) (t5 : Int) : Option PO :=
  bif decide (t5 < (t0.length : Int)) then
    bif inb t5 t0.length then
      bif (t0.getD t5.toNat (0, 0, 0, 0)).1 != t1 then
        some ((-1), ())
      else
        bif inb t5 t0.length then
          bif (t0.getD t5.toNat (0, 0, 0, 0)).2.1 != wI (t1 + 1) then
            some ((-1), ())
          else
            bif inb t5 t0.length then
              bif (t0.getD t5.toNat (0, 0, 0, 0)).2.2.1 != wI ((wI (t1 + 1)) + 1) then
                some ((-1), ())
              else
                bif inb t5 t0.length then
                  bif (t0.getD t5.toNat (0, 0, 0, 0)).2.2.2 != wI ((wI ((wI (t1 + 1)) + 1)) + 1) then
                    some ((-1), ())
                  else
                    J2 (t0, wI ((wI ((wI ((wI (t1 + 1)) + 1)) + 1)) + 1), wI (t5 + 1), ())
                else
                  none
            else
              none
        else
          none
    else
      none
  else
    some (t1, ())
noncomputable def hd {R : Type} : Hand R := handNil
noncomputable def pg (J2 : List Item → P2 → Option PO) : Prog PO := { nt := 49, np := 1, tb := tabOf tab, hd := hd, cuts := cutsOf [(2, cut p2 J2)], fin := endOf (tabOf tab) rs 1 pout }
theorem seg0 (J2 : List Item → P2 → Option PO) (x0 : List (Int × Int × Int × Int)) (x1 : Int) : arun (pg J2) 5000 [.code c0] (mk pin (x0, x1, ())) = F0 (J2 T2) x0 x1 := by kernel_rfl
theorem seg2 (J2 : List Item → P2 → Option PO) (t0 : List (Int × Int × Int × Int)) (t1 : Int) (t5 : Int) : arun1 (pg J2) 5000 T2 (mk p2 (t0, t1, t5, ())) = F2 (J2 T2) t0 t1 t5 := by kernel_rfl
noncomputable def L2 : P2 → Option PO := lfp fun J2 x => F2 J2 x.1 x.2.1 x.2.2.1
noncomputable def impl : PI → Option PO := fun x => F0 L2 x.1 x.2.1
theorem F2_le {J2 J2' : P2 → Option PO} (h2 : OLe J2 J2') (t0 : List (Int × Int × Int × Int)) (t1 : Int) (t5 : Int) : OptLe (F2 J2 t0 t1 t5) (F2 J2' t0 t1 t5) := by unfold F2; exact .cond (.cond (.cond (.refl _) (.cond (.cond (.refl _) (.cond (.cond (.refl _) (.cond (.cond (.refl _) (.of h2 _)) (.refl _))) (.refl _))) (.refl _))) (.refl _)) (.refl _)
theorem L2_mono : OMono fun J2 (x : P2) => F2 J2 x.1 x.2.1 x.2.2.1 := fun J J' h2 x => F2_le h2 x.1 x.2.1 x.2.2.1
theorem L2_eq (t0 : List (Int × Int × Int × Int)) (t1 : Int) (t5 : Int) : L2 (t0, t1, t5, ()) = F2 (L2) t0 t1 t5 := congrFun (lfp_eq (L2_mono)) _
theorem impl_eq (x0 : List (Int × Int × Int × Int)) (x1 : Int) : impl (x0, x1, ()) = F0 L2 x0 x1 := rfl
theorem con : Con Try.prog 35 2 rs.length 1 pin pout impl := by
  refine con_of_run' (nt := 49) (c := c0) tabGood Try.func35 (by kernel_rfl) (by kernel_rfl) (by kernel_rfl) (by kernel_rfl) (by kernel_rfl) (by kernel_rfl) (by kernel_rfl) ?_
  intro w0 O y hnp
  generalize hPost : (fun (a' : Act) (w' : World) => ∃ μ' S' st', Rel 49 w0 O μ' S' st' a' w' ∧ endOf (tabOf tab) rs 1 pout st' = some y) = Post
  have fin : ∀ (μ : Id → Option Value) (S : Nat → Prop) (st : St) (a : Act) (w : World), Rel 49 w0 O μ S st a w → endOf (tabOf tab) rs 1 pout st = some y → Post a w := fun μ S st a w h he => by rw [← hPost]; exact ⟨μ, S, st, h, he⟩
  have hp : ∀ (J2 : List Item → P2 → Option PO), Parts Try.prog 35 (pg J2) [(2, cut p2 J2)] := fun J2 => ⟨tab_ok tabGood rfl, handNil_ok, rfl⟩
  have g2 : Good Try.prog 49 w0 O Post y T2 p2 L2 := good_lfp fun J2 h2 => good_part (hp (atT T2 J2)) (runOK_of (hp (atT T2 J2)) hnp ⟨cutOK_at h2, trivial⟩ fin) (fun x => (seg2 (atT T2 J2) x.1 x.2.1 x.2.2.1).trans (by simp only [atT_self] <;> rfl))
  exact good_first (hp (atT T2 L2)) (runOK_of (hp (atT T2 L2)) hnp ⟨cutOK_at g2, trivial⟩ fin) (fun x => (seg0 (atT T2 L2) x.1 x.2.1).trans (by simp only [atT_self] <;> rfl))
end laws_heldTermS

/-! ### loop.example/wholecheck/laws.FnExactTrimmed -/
namespace laws_FnExactTrimmed
noncomputable abbrev c0 : Code := (Try.f7.body).getD .skip
noncomputable abbrev pin : Tpl := ⟨[⟨0, false, [.d (.sl (.prod (.int .i64) (.prod (.int .i64) (.prod (.int .i64) (.last (.int .i64))))))]⟩, ⟨1, false, [.d (.int .i64)]⟩], []⟩
noncomputable abbrev pout : Tpl := ⟨[⟨0, false, [.d .bool]⟩], []⟩
noncomputable abbrev p16 : Tpl := ⟨[⟨0, false, [.d (.sl (.prod (.int .i64) (.prod (.int .i64) (.prod (.int .i64) (.last (.int .i64))))))]⟩, ⟨1, false, [.d (.int .i64)]⟩, ⟨6, false, [.d (.sl (.prod (.int .i64) (.prod (.int .i64) (.prod (.int .i64) (.last (.int .i64))))))]⟩, ⟨8, false, [.row 3000000]⟩], [(3000000, .row 102 false (.prod (.int .i64) (.prod (.int .i64) (.prod (.int .i64) (.last (.int .i64))))))]⟩
noncomputable def T16 : List Item := (find 16 c0 []).getD []
noncomputable abbrev PI := (List (Int × Int × Int × Int)) × Int × Unit
noncomputable abbrev PO := Bool × Unit
noncomputable abbrev P16 := (List (Int × Int × Int × Int)) × Int × (List (Int × Int × Int × Int)) × (List (Int × Int × Int × Int)) × Unit
noncomputable abbrev rs : List ResultVar := [.tmp 4]
noncomputable def F0 (J16 : P16 → Option PO) (Gimpl_Trimmed : impl_Trimmed.PI → Option impl_Trimmed.PO) (Glaws_eqTermS : laws_eqTermS.PI → Option laws_eqTermS.PO) (Glaws_markTermS : laws_markTermS.PI → Option laws_markTermS.PO) (Glaws_szTermS : laws_szTermS.PI → Option laws_szTermS.PO) (Glaws_toTermS : laws_toTermS.PI → Option laws_toTermS.PO) (Gspec_Trimmed : spec_Trimmed.PI → Option spec_Trimmed.PO) (x0 : List (Int × Int × Int × Int)) (x1 : Int) : Option PO :=
  Option.bind (Glaws_szTermS (x0, 1048576, ())) fun y0 =>
  bif decide (y0.1 < 0) then
    some (true, ())
  else
    Option.bind (Glaws_toTermS (x0, ())) fun y1 =>
    Option.bind (Gspec_Trimmed (y1.1, x1, ())) fun y2 =>
    Option.bind (Glaws_toTermS (x0, ())) fun y3 =>
    Option.bind (Gimpl_Trimmed (y3.1, x1, ())) fun y4 =>
    Option.bind (Glaws_eqTermS (y4.1, y2.1, ())) fun y5 =>
    bif !y5.1 then
      some (false, ())
    else
      Option.bind (Glaws_toTermS (x0, ())) fun y6 =>
      Option.bind (Glaws_eqTermS (y3.1, y6.1, ())) fun y7 =>
      bif !y7.1 then
        some (false, ())
      else
        Option.bind (Glaws_markTermS (1, y3.1, ())) fun y8 =>
        bif decide (y8.1 < 0) then
          some (false, ())
        else
          Option.bind (Glaws_eqTermS (y4.1, y2.1, ())) fun y9 =>
          bif !y9.1 then
            some (false, ())
          else
            J16 (x0, x1, y2.1, y4.1, ())
noncomputable def F16 (Gimpl_Trimmed : impl_Trimmed.PI → Option impl_Trimmed.PO) (Glaws_eqTermS : laws_eqTermS.PI → Option laws_eqTermS.PO) (Glaws_heldTermS : laws_heldTermS.PI → Option laws_heldTermS.PO) (Glaws_markTermS : laws_markTermS.PI → Option laws_markTermS.PO) (Glaws_toTermS : laws_toTermS.PI → Option laws_toTermS.PO) (t0 : List (Int × Int × Int × Int)) (t1 : Int) (t6 : List (Int × Int × Int × Int)) (r0 : List (Int × Int × Int × Int)) : Option PO :=
  Option.bind (Glaws_markTermS (1, r0, ())) fun y10 =>
  Option.bind (Glaws_heldTermS (y10.2.1, 1, ())) fun y11 =>
  bif decide (y11.1 < 0) then
    some (false, ())
  else
    bif y11.1 != y10.1 then
      some (false, ())
    else
      Option.bind (Glaws_toTermS (t0, ())) fun y12 =>
      Option.bind (Gimpl_Trimmed (y12.1, t1, ())) fun y13 =>
      Option.bind (Glaws_eqTermS (y13.1, t6, ())) fun y14 =>
      bif !y14.1 then
        some (false, ())
      else
        Option.bind (Glaws_heldTermS (y10.2.1, 1, ())) fun y15 =>
        bif decide (y15.1 < 0) then
          some (false, ())
        else
          bif y15.1 != y10.1 then
            some (false, ())
          else
            some (true, ())
noncomputable def hd {R : Type} (Gimpl_Trimmed : impl_Trimmed.PI → Option impl_Trimmed.PO) (Glaws_eqTermS : laws_eqTermS.PI → Option laws_eqTermS.PO) (Glaws_heldTermS : laws_heldTermS.PI → Option laws_heldTermS.PO) (Glaws_markTermS : laws_markTermS.PI → Option laws_markTermS.PO) (Glaws_szTermS : laws_szTermS.PI → Option laws_szTermS.PO) (Glaws_toTermS : laws_toTermS.PI → Option laws_toTermS.PO) (Gspec_Trimmed : spec_Trimmed.PI → Option spec_Trimmed.PO) : Hand R := (handAt 35 [52, 68] true ⟨2, 1, 1, laws_heldTermS.pin, laws_heldTermS.pout, Glaws_heldTermS⟩ (handAt 34 [38, 49] true ⟨2, 1, 1, laws_markTermS.pin, laws_markTermS.pout, Glaws_markTermS⟩ (handAt 33 [29, 34, 44, 64] true ⟨2, 1, 2, laws_eqTermS.pin, laws_eqTermS.pout, Glaws_eqTermS⟩ (handAt 32 [26, 61] true ⟨2, 1, 2, impl_Trimmed.pin, impl_Trimmed.pout, Gimpl_Trimmed⟩ (handAt 31 [19, 23, 33, 59] true ⟨1, 1, 1, laws_toTermS.pin, laws_toTermS.pout, Glaws_toTermS⟩ (handAt 30 [21] false ⟨2, 1, 2, spec_Trimmed.pin, spec_Trimmed.pout, Gspec_Trimmed⟩ (handAt 29 [15] true ⟨2, 1, 1, laws_szTermS.pin, laws_szTermS.pout, Glaws_szTermS⟩ handNil)))))))
noncomputable def pg (Gimpl_Trimmed : impl_Trimmed.PI → Option impl_Trimmed.PO) (Glaws_eqTermS : laws_eqTermS.PI → Option laws_eqTermS.PO) (Glaws_heldTermS : laws_heldTermS.PI → Option laws_heldTermS.PO) (Glaws_markTermS : laws_markTermS.PI → Option laws_markTermS.PO) (Glaws_szTermS : laws_szTermS.PI → Option laws_szTermS.PO) (Glaws_toTermS : laws_toTermS.PI → Option laws_toTermS.PO) (Gspec_Trimmed : spec_Trimmed.PI → Option spec_Trimmed.PO) (J16 : List Item → P16 → Option PO) : Prog PO := { nt := 74, np := 2, tb := tabOf tab, hd := hd Gimpl_Trimmed Glaws_eqTermS Glaws_heldTermS Glaws_markTermS Glaws_szTermS Glaws_toTermS Gspec_Trimmed, cuts := cutsOf [(16, cut p16 J16)], fin := endOf (tabOf tab) rs 2 pout }
theorem seg0 (Gimpl_Trimmed : impl_Trimmed.PI → Option impl_Trimmed.PO) (Glaws_eqTermS : laws_eqTermS.PI → Option laws_eqTermS.PO) (Glaws_heldTermS : laws_heldTermS.PI → Option laws_heldTermS.PO) (Glaws_markTermS : laws_markTermS.PI → Option laws_markTermS.PO) (Glaws_szTermS : laws_szTermS.PI → Option laws_szTermS.PO) (Glaws_toTermS : laws_toTermS.PI → Option laws_toTermS.PO) (Gspec_Trimmed : spec_Trimmed.PI → Option spec_Trimmed.PO) (J16 : List Item → P16 → Option PO) (x0 : List (Int × Int × Int × Int)) (x1 : Int) : arun (pg Gimpl_Trimmed Glaws_eqTermS Glaws_heldTermS Glaws_markTermS Glaws_szTermS Glaws_toTermS Gspec_Trimmed J16) 5000 [.code c0] (mk pin (x0, x1, ())) = F0 (J16 T16) Gimpl_Trimmed Glaws_eqTermS Glaws_markTermS Glaws_szTermS Glaws_toTermS Gspec_Trimmed x0 x1 := by kernel_rfl
theorem seg16 (Gimpl_Trimmed : impl_Trimmed.PI → Option impl_Trimmed.PO) (Glaws_eqTermS : laws_eqTermS.PI → Option laws_eqTermS.PO) (Glaws_heldTermS : laws_heldTermS.PI → Option laws_heldTermS.PO) (Glaws_markTermS : laws_markTermS.PI → Option laws_markTermS.PO) (Glaws_szTermS : laws_szTermS.PI → Option laws_szTermS.PO) (Glaws_toTermS : laws_toTermS.PI → Option laws_toTermS.PO) (Gspec_Trimmed : spec_Trimmed.PI → Option spec_Trimmed.PO) (J16 : List Item → P16 → Option PO) (t0 : List (Int × Int × Int × Int)) (t1 : Int) (t6 : List (Int × Int × Int × Int)) (r0 : List (Int × Int × Int × Int)) : arun1 (pg Gimpl_Trimmed Glaws_eqTermS Glaws_heldTermS Glaws_markTermS Glaws_szTermS Glaws_toTermS Gspec_Trimmed J16) 5000 T16 (mk p16 (t0, t1, t6, r0, ())) = F16 Gimpl_Trimmed Glaws_eqTermS Glaws_heldTermS Glaws_markTermS Glaws_toTermS t0 t1 t6 r0 := by kernel_rfl
noncomputable def L16 : P16 → Option PO := fun x => F16 impl_Trimmed.impl laws_eqTermS.impl laws_heldTermS.impl laws_markTermS.impl laws_toTermS.impl x.1 x.2.1 x.2.2.1 x.2.2.2.1
noncomputable def impl : PI → Option PO := fun x => F0 L16 impl_Trimmed.impl laws_eqTermS.impl laws_markTermS.impl laws_szTermS.impl laws_toTermS.impl spec_Trimmed.impl x.1 x.2.1
theorem L16_eq (t0 : List (Int × Int × Int × Int)) (t1 : Int) (t6 : List (Int × Int × Int × Int)) (r0 : List (Int × Int × Int × Int)) : L16 (t0, t1, t6, r0, ()) = F16 impl_Trimmed.impl laws_eqTermS.impl laws_heldTermS.impl laws_markTermS.impl laws_toTermS.impl t0 t1 t6 r0 := rfl
theorem impl_eq (x0 : List (Int × Int × Int × Int)) (x1 : Int) : impl (x0, x1, ()) = F0 L16 impl_Trimmed.impl laws_eqTermS.impl laws_markTermS.impl laws_szTermS.impl laws_toTermS.impl spec_Trimmed.impl x0 x1 := rfl
theorem con : Con Try.prog 7 2 rs.length 2 pin pout impl := by
  refine con_of_run' (nt := 74) (c := c0) tabGood Try.func7 (by kernel_rfl) (by kernel_rfl) (by kernel_rfl) (by kernel_rfl) (by kernel_rfl) (by kernel_rfl) (by kernel_rfl) ?_
  intro w0 O y hnp
  generalize hPost : (fun (a' : Act) (w' : World) => ∃ μ' S' st', Rel 74 w0 O μ' S' st' a' w' ∧ endOf (tabOf tab) rs 2 pout st' = some y) = Post
  have fin : ∀ (μ : Id → Option Value) (S : Nat → Prop) (st : St) (a : Act) (w : World), Rel 74 w0 O μ S st a w → endOf (tabOf tab) rs 2 pout st = some y → Post a w := fun μ S st a w h he => by rw [← hPost]; exact ⟨μ, S, st, h, he⟩
  have hp : ∀ (J16 : List Item → P16 → Option PO), Parts Try.prog 7 (pg impl_Trimmed.impl laws_eqTermS.impl laws_heldTermS.impl laws_markTermS.impl laws_szTermS.impl laws_toTermS.impl spec_Trimmed.impl J16) [(16, cut p16 J16)] := fun J16 => ⟨tab_ok tabGood rfl, (handAt_ok laws_heldTermS.con (handAt_ok laws_markTermS.con (handAt_ok laws_eqTermS.con (handAt_ok impl_Trimmed.con (handAt_ok laws_toTermS.con (handAt_ok spec_Trimmed.con (handAt_ok laws_szTermS.con handNil_ok))))))), rfl⟩
  have g16 : Good Try.prog 74 w0 O Post y T16 p16 L16 := good_part (hp (atT T16 (fun _ => none))) (runOK_of (hp (atT T16 (fun _ => none))) hnp ⟨cutOK_at (p := p16) (T := T16) (J := fun _ => none) good_none, trivial⟩ fin) (fun x => (seg16 impl_Trimmed.impl laws_eqTermS.impl laws_heldTermS.impl laws_markTermS.impl laws_szTermS.impl laws_toTermS.impl spec_Trimmed.impl (atT T16 (fun _ => none)) x.1 x.2.1 x.2.2.1 x.2.2.2.1))
  exact good_first (hp (atT T16 L16)) (runOK_of (hp (atT T16 L16)) hnp ⟨cutOK_at g16, trivial⟩ fin) (fun x => (seg0 impl_Trimmed.impl laws_eqTermS.impl laws_heldTermS.impl laws_markTermS.impl laws_szTermS.impl laws_toTermS.impl spec_Trimmed.impl (atT T16 L16) x.1 x.2.1).trans (by simp only [atT_self] <;> rfl))
end laws_FnExactTrimmed
end Go.Proofs.YtgagmcbeobkfoaaB
