/- PRINTED BY A PROGRAM OF THIS CLAIM'S AUTHOR (wip/gen): functions of the given program, their parts, their contracts. -/
import Derived.Test.YtambmmpilakgoaaDoorB34
import Derived.Test.YtambmmpilakgoaaDoorB39
import Derived.Test.YtambmmpilakgoaaDoorChecked
import Derived.Test.YtambmmpilakgoaaDoorLFnExactReadList
set_option linter.unusedVariables false
set_option linter.unusedSimpArgs false
set_option maxRecDepth 100000
namespace Go.Proofs.YtambmmpilakgoaaDoorB
open Go
def tab : Tab := [(3, { kind := .scalar, zero := [.d (.int .i64) (0 : Int)], bytes := 8, data := some (.int .i64), eqf := none }),
  (4, { kind := .scalar, zero := [.d .bool false], bytes := 1, data := some .bool, eqf := none }),
  (5, { kind := .scalar, zero := [.d (.int .u8) (0 : Int)], bytes := 1, data := some (.int .u8), eqf := none }),
  (9, { kind := .scalar, zero := [.d .str ([] : List UInt8)], bytes := 16, data := some .str, eqf := none }),
  (22, { kind := .slice 9, zero := [.nilS], bytes := 24, data := some (.sl .str), eqf := none }),
  (27, { kind := .slice 3, zero := [.nilS], bytes := 24, data := some (.sl (.int .i64)), eqf := none }),
  (100, { kind := .iface, zero := [.nilif], bytes := 16, data := none, eqf := none })]
theorem tabGood : tabB Tryd.prog tab = true := by kernel_rfl

/-! ### loop.example/wholecheck/spec.l40Cut -/
namespace spec_l40Cut
noncomputable abbrev c0 : Code := (Tryd.f95.body).getD .skip
noncomputable abbrev pin : Tpl := ⟨[⟨0, false, [.d .str]⟩, ⟨1, false, [.d (.int .u8)]⟩], []⟩
noncomputable abbrev pout : Tpl := ⟨[⟨0, false, [.row 600001]⟩], [(600001, .row 9 false .str)]⟩
noncomputable abbrev p4 : Tpl := ⟨[⟨0, false, [.d .str]⟩, ⟨1, false, [.d (.int .u8)]⟩, ⟨5, false, [.row 3000000]⟩, ⟨6, false, [.d (.int .i64)]⟩, ⟨7, false, [.d (.int .i64)]⟩], [(3000000, .row 9 false .str)]⟩
noncomputable def T4 : List Item := (find 4 c0 []).getD []
noncomputable abbrev PI := (List UInt8) × Int × Unit
noncomputable abbrev PO := (List (List UInt8)) × Unit
noncomputable abbrev P4 := (List UInt8) × Int × Int × Int × (List (List UInt8)) × Unit
noncomputable abbrev rs : List ResultVar := [.tmp 4]
noncomputable def F0 (J4 : P4 → Option PO) (x0 : List UInt8) (x1 : Int) : Option PO :=
  J4 (x0, x1, 0, 0, ([] : List (List UInt8)), ())
noncomputable def F4 (J4 : P4 → Option PO) (t0 : List UInt8) (t1 : Int) (t6 : Int) (t7 : Int) (r0 : List (List UInt8)) : Option PO :=
  bif decide (t7 ≤ (t0.length : Int)) then
    bif t7 == (t0.length : Int) then
      bif decide (0 ≤ t6) && decide (t6 ≤ t7) && decide (t7 ≤ (t0.length : Int)) then
        bif decide ((r0.length + ([(t0.take t7.toNat).drop t6.toNat] : List (List UInt8)).length) * 16 ≤ 140737488355328) then
          J4 (t0, t1, wI (t7 + 1), wI (t7 + 1), r0 ++ ([(t0.take t7.toNat).drop t6.toNat] : List (List UInt8)), ())
        else
          none
      else
        none
    else
      bif inb t7 t0.length then
        bif ((t0.getD t7.toNat 0).toNat : Int) == t1 then
          bif decide (0 ≤ t6) && decide (t6 ≤ t7) && decide (t7 ≤ (t0.length : Int)) then
            bif decide ((r0.length + ([(t0.take t7.toNat).drop t6.toNat] : List (List UInt8)).length) * 16 ≤ 140737488355328) then
              J4 (t0, t1, wI (t7 + 1), wI (t7 + 1), r0 ++ ([(t0.take t7.toNat).drop t6.toNat] : List (List UInt8)), ())
            else
              none
          else
            none
        else
          J4 (t0, t1, t6, wI (t7 + 1), r0, ())
      else
        none
  else
    some (r0, ())
noncomputable def hd {R : Type} : Hand R := handNil
noncomputable def pg (J4 : List Item → P4 → Option PO) : Prog PO := { nt := 36, np := 2, tb := tabOf tab, hd := hd, cuts := cutsOf [(4, cut p4 J4)], fin := endOf (tabOf tab) rs 2 pout }
noncomputable def q : FuncId → Bool := fun f => hasId [] f
theorem seg0 (J4 : List Item → P4 → Option PO) (x0 : List UInt8) (x1 : Int) : arun (pg J4) 5000 [.code c0] (mk pin (x0, x1, ())) = F0 (J4 T4) x0 x1 := by kernel_rfl
theorem seg4 (J4 : List Item → P4 → Option PO) (t0 : List UInt8) (t1 : Int) (t6 : Int) (t7 : Int) (r0 : List (List UInt8)) : arun1 (pg J4) 5000 T4 (mk p4 (t0, t1, t6, t7, r0, ())) = F4 (J4 T4) t0 t1 t6 t7 r0 := by kernel_rfl
noncomputable def L4 : P4 → Option PO := lfp fun J4 x => F4 J4 x.1 x.2.1 x.2.2.1 x.2.2.2.1 x.2.2.2.2.1
noncomputable def impl : PI → Option PO := fun x => F0 L4 x.1 x.2.1
theorem F4_le {J4 J4' : P4 → Option PO} (h4 : OLe J4 J4') (t0 : List UInt8) (t1 : Int) (t6 : Int) (t7 : Int) (r0 : List (List UInt8)) : OptLe (F4 J4 t0 t1 t6 t7 r0) (F4 J4' t0 t1 t6 t7 r0) := by unfold F4; exact .cond (.cond (.cond (.cond (.of h4 _) (.refl _)) (.refl _)) (.cond (.cond (.cond (.cond (.of h4 _) (.refl _)) (.refl _)) (.of h4 _)) (.refl _))) (.refl _)
theorem L4_mono : OMono fun J4 (x : P4) => F4 J4 x.1 x.2.1 x.2.2.1 x.2.2.2.1 x.2.2.2.2.1 := fun J J' h4 x => F4_le h4 x.1 x.2.1 x.2.2.1 x.2.2.2.1 x.2.2.2.2.1
theorem L4_eq (t0 : List UInt8) (t1 : Int) (t6 : Int) (t7 : Int) (r0 : List (List UInt8)) : L4 (t0, t1, t6, t7, r0, ()) = F4 (L4) t0 t1 t6 t7 r0 := congrFun (lfp_eq (L4_mono)) _
theorem impl_eq (x0 : List UInt8) (x1 : Int) : impl (x0, x1, ()) = F0 L4 x0 x1 := rfl
theorem con : Con Tryd.prog 95 2 rs.length 2 pin pout impl := by
  refine con_of_run' (nt := 36) (c := c0) tabGood Tryd.func95 (by kernel_rfl) (by kernel_rfl) (by kernel_rfl) (by kernel_rfl) (by kernel_rfl) (by kernel_rfl) (by kernel_rfl) ?_
  intro w0 O y hnp
  generalize hPost : (fun (a' : Act) (w' : World) => ∃ μ' S' st', Rel 36 w0 O μ' S' st' a' w' ∧ endOf (tabOf tab) rs 2 pout st' = some y) = Post
  have fin : ∀ (μ : Id → Option Value) (S : Nat → Prop) (st : St) (a : Act) (w : World), Rel 36 w0 O μ S st a w → endOf (tabOf tab) rs 2 pout st = some y → Post a w := fun μ S st a w h he => by rw [← hPost]; exact ⟨μ, S, st, h, he⟩
  have hp : ∀ (J4 : List Item → P4 → Option PO), Parts Tryd.prog 95 (pg J4) [(4, cut p4 J4)] := fun J4 => ⟨tab_ok tabGood rfl, handNil_ok, rfl⟩
  have g4 : Good Tryd.prog 36 w0 O Post y T4 p4 L4 := good_lfp fun J4 h4 => good_part (hp (atT T4 J4)) (runOK_of (hp (atT T4 J4)) hnp ⟨cutOK_at h4, trivial⟩ fin) (fun x => (seg4 (atT T4 J4) x.1 x.2.1 x.2.2.1 x.2.2.2.1 x.2.2.2.2.1).trans (by simp only [atT_self] <;> rfl))
  exact good_first (hp (atT T4 L4)) (runOK_of (hp (atT T4 L4)) hnp ⟨cutOK_at g4, trivial⟩ fin) (fun x => (seg0 (atT T4 L4) x.1 x.2.1).trans (by simp only [atT_self] <;> rfl))
end spec_l40Cut

/-! ### loop.example/wholecheck/spec.l40Num -/
namespace spec_l40Num
noncomputable abbrev c0 : Code := (Tryd.f140.body).getD .skip
noncomputable abbrev pin : Tpl := ⟨[⟨0, false, [.d .str]⟩], []⟩
noncomputable abbrev pout : Tpl := ⟨[⟨0, false, [.d (.int .i64)]⟩, ⟨1, false, [.d .bool]⟩], []⟩
noncomputable abbrev p2 : Tpl := ⟨[⟨0, false, [.d .str]⟩, ⟨4, false, [.d .bool]⟩], []⟩
noncomputable def T2 : List Item := (find 2 c0 []).getD []
noncomputable abbrev p4 : Tpl := ⟨[⟨0, false, [.d .str]⟩, ⟨4, false, [.d .bool]⟩], []⟩
noncomputable def T4 : List Item := (find 4 c0 []).getD []
noncomputable abbrev p6 : Tpl := ⟨[⟨0, false, [.d .str]⟩, ⟨4, false, [.d .bool]⟩], []⟩
noncomputable def T6 : List Item := (find 6 c0 []).getD []
noncomputable abbrev p8 : Tpl := ⟨[⟨0, false, [.d .str]⟩, ⟨4, false, [.d .bool]⟩, ⟨5, false, [.d (.int .i64)]⟩, ⟨6, false, [.d (.int .i64)]⟩], []⟩
noncomputable def T8 : List Item := (find 8 c0 []).getD []
noncomputable abbrev p12 : Tpl := ⟨[⟨0, false, [.d .str]⟩, ⟨4, false, [.d .bool]⟩, ⟨5, false, [.d (.int .i64)]⟩, ⟨6, false, [.d (.int .i64)]⟩], []⟩
noncomputable def T12 : List Item := (find 12 c0 []).getD []
noncomputable abbrev PI := (List UInt8) × Unit
noncomputable abbrev PO := Int × Bool × Unit
noncomputable abbrev P2 := (List UInt8) × Bool × Unit
noncomputable abbrev P4 := (List UInt8) × Bool × Unit
noncomputable abbrev P6 := (List UInt8) × Bool × Unit
noncomputable abbrev P8 := (List UInt8) × Bool × Int × Int × Unit
noncomputable abbrev P12 := (List UInt8) × Bool × Int × Int × Unit
noncomputable abbrev rs : List ResultVar := [.tmp 2, .tmp 3]
noncomputable def F0 (J2 : P2 → Option PO) (x0 : List UInt8) : Option PO :=
  bif decide ((x0.length : Int) > 0) then
    bif inb 0 x0.length then
      J2 (x0, ((x0.getD 0 0).toNat : Int) == 45, ())
    else
      none
  else
    J2 (x0, false, ())
noncomputable def F2 (J4 : P4 → Option PO) (t0 : List UInt8) (t4 : Bool) : Option PO :=
  bif t4 then
    bif decide (1 ≤ (t0.length : Int)) && decide ((t0.length : Int) ≤ (t0.length : Int)) then
      J4 ((t0.take (t0.length : Int).toNat).drop 1, t4, ())
    else
      none
  else
    J4 (t0, t4, ())
noncomputable def F4 (J6 : P6 → Option PO) (t0 : List UInt8) (t4 : Bool) : Option PO :=
  bif (t0.length : Int) == 0 then
    some (0, false, ())
  else
    bif decide ((t0.length : Int) > 17) then
      some (0, false, ())
    else
      bif inb 0 t0.length then
        bif ((t0.getD 0 0).toNat : Int) == 48 then
          bif decide ((t0.length : Int) > 1) then
            some (0, false, ())
          else
            bif t4 then
              some (0, false, ())
            else
              J6 (t0, t4, ())
        else
          J6 (t0, t4, ())
      else
        none
noncomputable def F6 (J8 : P8 → Option PO) (t0 : List UInt8) (t4 : Bool) : Option PO :=
  J8 (t0, t4, 0, 0, ())
noncomputable def F8 (J12 : P12 → Option PO) (t0 : List UInt8) (t4 : Bool) (t5 : Int) (t6 : Int) : Option PO :=
  bif decide (t6 < (t0.length : Int)) then
    bif inb t6 t0.length then
      bif decide (((t0.getD t6.toNat 0).toNat : Int) < 48) then
        some (0, false, ())
      else
        bif inb t6 t0.length then
          bif decide (((t0.getD t6.toNat 0).toNat : Int) > 57) then
            some (0, false, ())
          else
            J12 (t0, t4, t5, t6, ())
        else
          none
    else
      none
  else
    bif t4 then
      some (wI (0 - t5), true, ())
    else
      some (t5, true, ())
noncomputable def F12 (J8 : P8 → Option PO) (t0 : List UInt8) (t4 : Bool) (t5 : Int) (t6 : Int) : Option PO :=
  bif inb t6 t0.length then
    J8 (t0, t4, wI ((wI (t5 * 10)) + (wI (IntKind.u8.wrap (((t0.getD t6.toNat 0).toNat : Int) - 48)))), wI (t6 + 1), ())
  else
    none
noncomputable def hd {R : Type} : Hand R := handNil
noncomputable def pg (J2 : List Item → P2 → Option PO) (J4 : List Item → P4 → Option PO) (J6 : List Item → P6 → Option PO) (J8 : List Item → P8 → Option PO) (J12 : List Item → P12 → Option PO) : Prog PO := { nt := 67, np := 0, tb := tabOf tab, hd := hd, cuts := cutsOf [(2, cut p2 J2), (4, cut p4 J4), (6, cut p6 J6), (8, cut p8 J8), (12, cut p12 J12)], fin := endOf (tabOf tab) rs 0 pout }
noncomputable def q : FuncId → Bool := fun f => hasId [] f
theorem seg0 (J2 : List Item → P2 → Option PO) (J4 : List Item → P4 → Option PO) (J6 : List Item → P6 → Option PO) (J8 : List Item → P8 → Option PO) (J12 : List Item → P12 → Option PO) (x0 : List UInt8) : arun (pg J2 J4 J6 J8 J12) 5000 [.code c0] (mk pin (x0, ())) = F0 (J2 T2) x0 := by kernel_rfl
theorem seg2 (J2 : List Item → P2 → Option PO) (J4 : List Item → P4 → Option PO) (J6 : List Item → P6 → Option PO) (J8 : List Item → P8 → Option PO) (J12 : List Item → P12 → Option PO) (t0 : List UInt8) (t4 : Bool) : arun1 (pg J2 J4 J6 J8 J12) 5000 T2 (mk p2 (t0, t4, ())) = F2 (J4 T4) t0 t4 := by kernel_rfl
theorem seg4 (J2 : List Item → P2 → Option PO) (J4 : List Item → P4 → Option PO) (J6 : List Item → P6 → Option PO) (J8 : List Item → P8 → Option PO) (J12 : List Item → P12 → Option PO) (t0 : List UInt8) (t4 : Bool) : arun1 (pg J2 J4 J6 J8 J12) 5000 T4 (mk p4 (t0, t4, ())) = F4 (J6 T6) t0 t4 := by kernel_rfl
theorem seg6 (J2 : List Item → P2 → Option PO) (J4 : List Item → P4 → Option PO) (J6 : List Item → P6 → Option PO) (J8 : List Item → P8 → Option PO) (J12 : List Item → P12 → Option PO) (t0 : List UInt8) (t4 : Bool) : arun1 (pg J2 J4 J6 J8 J12) 5000 T6 (mk p6 (t0, t4, ())) = F6 (J8 T8) t0 t4 := by kernel_rfl
theorem seg8 (J2 : List Item → P2 → Option PO) (J4 : List Item → P4 → Option PO) (J6 : List Item → P6 → Option PO) (J8 : List Item → P8 → Option PO) (J12 : List Item → P12 → Option PO) (t0 : List UInt8) (t4 : Bool) (t5 : Int) (t6 : Int) : arun1 (pg J2 J4 J6 J8 J12) 5000 T8 (mk p8 (t0, t4, t5, t6, ())) = F8 (J12 T12) t0 t4 t5 t6 := by kernel_rfl
theorem seg12 (J2 : List Item → P2 → Option PO) (J4 : List Item → P4 → Option PO) (J6 : List Item → P6 → Option PO) (J8 : List Item → P8 → Option PO) (J12 : List Item → P12 → Option PO) (t0 : List UInt8) (t4 : Bool) (t5 : Int) (t6 : Int) : arun1 (pg J2 J4 J6 J8 J12) 5000 T12 (mk p12 (t0, t4, t5, t6, ())) = F12 (J8 T8) t0 t4 t5 t6 := by kernel_rfl
noncomputable def L12 (J8 : P8 → Option PO) : P12 → Option PO := fun x => F12 J8 x.1 x.2.1 x.2.2.1 x.2.2.2.1
noncomputable def L8 : P8 → Option PO := lfp fun J8 x => F8 (L12 J8) x.1 x.2.1 x.2.2.1 x.2.2.2.1
noncomputable def L6 : P6 → Option PO := fun x => F6 L8 x.1 x.2.1
noncomputable def L4 : P4 → Option PO := fun x => F4 L6 x.1 x.2.1
noncomputable def L2 : P2 → Option PO := fun x => F2 L4 x.1 x.2.1
noncomputable def impl : PI → Option PO := fun x => F0 L2 x.1
theorem F12_le {J8 J8' : P8 → Option PO} (h8 : OLe J8 J8') (t0 : List UInt8) (t4 : Bool) (t5 : Int) (t6 : Int) : OptLe (F12 J8 t0 t4 t5 t6) (F12 J8' t0 t4 t5 t6) := by unfold F12; exact .cond (.of h8 _) (.refl _)
theorem F8_le {J12 J12' : P12 → Option PO} (h12 : OLe J12 J12') (t0 : List UInt8) (t4 : Bool) (t5 : Int) (t6 : Int) : OptLe (F8 J12 t0 t4 t5 t6) (F8 J12' t0 t4 t5 t6) := by unfold F8; exact .cond (.cond (.cond (.refl _) (.cond (.cond (.refl _) (.of h12 _)) (.refl _))) (.refl _)) (.refl _)
theorem L12_eq (J8 : P8 → Option PO) (t0 : List UInt8) (t4 : Bool) (t5 : Int) (t6 : Int) : L12 J8 (t0, t4, t5, t6, ()) = F12 J8 t0 t4 t5 t6 := rfl
theorem L12_le {J8 J8' : P8 → Option PO} (h8 : OLe J8 J8') : OLe (L12 J8) (L12 J8') := fun x => F12_le h8 x.1 x.2.1 x.2.2.1 x.2.2.2.1
theorem L8_mono : OMono fun J8 (x : P8) => F8 (L12 J8) x.1 x.2.1 x.2.2.1 x.2.2.2.1 := fun J J' h8 x => F8_le (L12_le h8) x.1 x.2.1 x.2.2.1 x.2.2.2.1
theorem L8_eq (t0 : List UInt8) (t4 : Bool) (t5 : Int) (t6 : Int) : L8 (t0, t4, t5, t6, ()) = F8 (L12 (L8)) t0 t4 t5 t6 := congrFun (lfp_eq (L8_mono)) _
theorem L6_eq (t0 : List UInt8) (t4 : Bool) : L6 (t0, t4, ()) = F6 (L8) t0 t4 := rfl
theorem L4_eq (t0 : List UInt8) (t4 : Bool) : L4 (t0, t4, ()) = F4 (L6) t0 t4 := rfl
theorem L2_eq (t0 : List UInt8) (t4 : Bool) : L2 (t0, t4, ()) = F2 (L4) t0 t4 := rfl
theorem impl_eq (x0 : List UInt8) : impl (x0, ()) = F0 L2 x0 := rfl
theorem con : Con Tryd.prog 140 1 rs.length 0 pin pout impl := by
  refine con_of_run' (nt := 67) (c := c0) tabGood Tryd.func140 (by kernel_rfl) (by kernel_rfl) (by kernel_rfl) (by kernel_rfl) (by kernel_rfl) (by kernel_rfl) (by kernel_rfl) ?_
  intro w0 O y hnp
  generalize hPost : (fun (a' : Act) (w' : World) => ∃ μ' S' st', Rel 67 w0 O μ' S' st' a' w' ∧ endOf (tabOf tab) rs 0 pout st' = some y) = Post
  have fin : ∀ (μ : Id → Option Value) (S : Nat → Prop) (st : St) (a : Act) (w : World), Rel 67 w0 O μ S st a w → endOf (tabOf tab) rs 0 pout st = some y → Post a w := fun μ S st a w h he => by rw [← hPost]; exact ⟨μ, S, st, h, he⟩
  have hp : ∀ (J2 : List Item → P2 → Option PO), ∀ (J4 : List Item → P4 → Option PO), ∀ (J6 : List Item → P6 → Option PO), ∀ (J8 : List Item → P8 → Option PO), ∀ (J12 : List Item → P12 → Option PO), Parts Tryd.prog 140 (pg J2 J4 J6 J8 J12) [(2, cut p2 J2), (4, cut p4 J4), (6, cut p6 J6), (8, cut p8 J8), (12, cut p12 J12)] := fun J2 J4 J6 J8 J12 => ⟨tab_ok tabGood rfl, handNil_ok, rfl⟩
  have g12 : ∀ (J8 : P8 → Option PO), Good Tryd.prog 67 w0 O Post y T8 p8 J8 → Good Tryd.prog 67 w0 O Post y T12 p12 (L12 J8) := fun J8 h8 => good_part (hp (atT T2 (fun _ => none)) (atT T4 (fun _ => none)) (atT T6 (fun _ => none)) (atT T8 J8) (atT T12 (fun _ => none))) (runOK_of (hp (atT T2 (fun _ => none)) (atT T4 (fun _ => none)) (atT T6 (fun _ => none)) (atT T8 J8) (atT T12 (fun _ => none))) hnp ⟨cutOK_at (p := p2) (T := T2) (J := fun _ => none) good_none, cutOK_at (p := p4) (T := T4) (J := fun _ => none) good_none, cutOK_at (p := p6) (T := T6) (J := fun _ => none) good_none, cutOK_at h8, cutOK_at (p := p12) (T := T12) (J := fun _ => none) good_none, trivial⟩ fin) (fun x => (seg12 (atT T2 (fun _ => none)) (atT T4 (fun _ => none)) (atT T6 (fun _ => none)) (atT T8 J8) (atT T12 (fun _ => none)) x.1 x.2.1 x.2.2.1 x.2.2.2.1).trans (by simp only [atT_self] <;> rfl))
  have g8 : Good Tryd.prog 67 w0 O Post y T8 p8 L8 := good_lfp fun J8 h8 => good_part (hp (atT T2 (fun _ => none)) (atT T4 (fun _ => none)) (atT T6 (fun _ => none)) (atT T8 (fun _ => none)) (atT T12 (L12 J8))) (runOK_of (hp (atT T2 (fun _ => none)) (atT T4 (fun _ => none)) (atT T6 (fun _ => none)) (atT T8 (fun _ => none)) (atT T12 (L12 J8))) hnp ⟨cutOK_at (p := p2) (T := T2) (J := fun _ => none) good_none, cutOK_at (p := p4) (T := T4) (J := fun _ => none) good_none, cutOK_at (p := p6) (T := T6) (J := fun _ => none) good_none, cutOK_at (p := p8) (T := T8) (J := fun _ => none) good_none, cutOK_at (g12 J8 h8), trivial⟩ fin) (fun x => (seg8 (atT T2 (fun _ => none)) (atT T4 (fun _ => none)) (atT T6 (fun _ => none)) (atT T8 (fun _ => none)) (atT T12 (L12 J8)) x.1 x.2.1 x.2.2.1 x.2.2.2.1).trans (by simp only [atT_self] <;> rfl))
  have g6 : Good Tryd.prog 67 w0 O Post y T6 p6 L6 := good_part (hp (atT T2 (fun _ => none)) (atT T4 (fun _ => none)) (atT T6 (fun _ => none)) (atT T8 L8) (atT T12 (fun _ => none))) (runOK_of (hp (atT T2 (fun _ => none)) (atT T4 (fun _ => none)) (atT T6 (fun _ => none)) (atT T8 L8) (atT T12 (fun _ => none))) hnp ⟨cutOK_at (p := p2) (T := T2) (J := fun _ => none) good_none, cutOK_at (p := p4) (T := T4) (J := fun _ => none) good_none, cutOK_at (p := p6) (T := T6) (J := fun _ => none) good_none, cutOK_at g8, cutOK_at (p := p12) (T := T12) (J := fun _ => none) good_none, trivial⟩ fin) (fun x => (seg6 (atT T2 (fun _ => none)) (atT T4 (fun _ => none)) (atT T6 (fun _ => none)) (atT T8 L8) (atT T12 (fun _ => none)) x.1 x.2.1).trans (by simp only [atT_self] <;> rfl))
  have g4 : Good Tryd.prog 67 w0 O Post y T4 p4 L4 := good_part (hp (atT T2 (fun _ => none)) (atT T4 (fun _ => none)) (atT T6 L6) (atT T8 (fun _ => none)) (atT T12 (fun _ => none))) (runOK_of (hp (atT T2 (fun _ => none)) (atT T4 (fun _ => none)) (atT T6 L6) (atT T8 (fun _ => none)) (atT T12 (fun _ => none))) hnp ⟨cutOK_at (p := p2) (T := T2) (J := fun _ => none) good_none, cutOK_at (p := p4) (T := T4) (J := fun _ => none) good_none, cutOK_at g6, cutOK_at (p := p8) (T := T8) (J := fun _ => none) good_none, cutOK_at (p := p12) (T := T12) (J := fun _ => none) good_none, trivial⟩ fin) (fun x => (seg4 (atT T2 (fun _ => none)) (atT T4 (fun _ => none)) (atT T6 L6) (atT T8 (fun _ => none)) (atT T12 (fun _ => none)) x.1 x.2.1).trans (by simp only [atT_self] <;> rfl))
  have g2 : Good Tryd.prog 67 w0 O Post y T2 p2 L2 := good_part (hp (atT T2 (fun _ => none)) (atT T4 L4) (atT T6 (fun _ => none)) (atT T8 (fun _ => none)) (atT T12 (fun _ => none))) (runOK_of (hp (atT T2 (fun _ => none)) (atT T4 L4) (atT T6 (fun _ => none)) (atT T8 (fun _ => none)) (atT T12 (fun _ => none))) hnp ⟨cutOK_at (p := p2) (T := T2) (J := fun _ => none) good_none, cutOK_at g4, cutOK_at (p := p6) (T := T6) (J := fun _ => none) good_none, cutOK_at (p := p8) (T := T8) (J := fun _ => none) good_none, cutOK_at (p := p12) (T := T12) (J := fun _ => none) good_none, trivial⟩ fin) (fun x => (seg2 (atT T2 (fun _ => none)) (atT T4 L4) (atT T6 (fun _ => none)) (atT T8 (fun _ => none)) (atT T12 (fun _ => none)) x.1 x.2.1).trans (by simp only [atT_self] <;> rfl))
  exact good_first (hp (atT T2 L2) (atT T4 (fun _ => none)) (atT T6 (fun _ => none)) (atT T8 (fun _ => none)) (atT T12 (fun _ => none))) (runOK_of (hp (atT T2 L2) (atT T4 (fun _ => none)) (atT T6 (fun _ => none)) (atT T8 (fun _ => none)) (atT T12 (fun _ => none))) hnp ⟨cutOK_at g2, cutOK_at (p := p4) (T := T4) (J := fun _ => none) good_none, cutOK_at (p := p6) (T := T6) (J := fun _ => none) good_none, cutOK_at (p := p8) (T := T8) (J := fun _ => none) good_none, cutOK_at (p := p12) (T := T12) (J := fun _ => none) good_none, trivial⟩ fin) (fun x => (seg0 (atT T2 L2) (atT T4 (fun _ => none)) (atT T6 (fun _ => none)) (atT T8 (fun _ => none)) (atT T12 (fun _ => none)) x.1).trans (by simp only [atT_self] <;> rfl))
end spec_l40Num

/-! ### loop.example/wholecheck/spec.l1In -/
namespace spec_l1In
noncomputable abbrev c0 : Code := (Tryd.f103.body).getD .skip
noncomputable abbrev pin : Tpl := ⟨[⟨0, false, [.d (.int .i64)]⟩, ⟨1, false, [.d (.int .i64)]⟩, ⟨2, false, [.d (.int .i64)]⟩], []⟩
noncomputable abbrev pout : Tpl := ⟨[⟨0, false, [.d .bool]⟩], []⟩
noncomputable abbrev PI := Int × Int × Int × Unit
noncomputable abbrev PO := Bool × Unit
noncomputable abbrev rs : List ResultVar := [.tmp 6]
noncomputable def F0 (x0 : Int) (x1 : Int) (x2 : Int) : Option PO :=
  bif decide (x0 ≥ x1) then
    some (decide (x0 ≤ x2), ())
  else
    some (false, ())
noncomputable def hd {R : Type} : Hand R := handNil
noncomputable def pg : Prog PO := { nt := 15, np := 3, tb := tabOf tab, hd := hd, cuts := cutsOf [], fin := endOf (tabOf tab) rs 3 pout }
noncomputable def q : FuncId → Bool := fun f => hasId [] f
theorem seg0 (x0 : Int) (x1 : Int) (x2 : Int) : arun (pg) 5000 [.code c0] (mk pin (x0, x1, x2, ())) = F0 x0 x1 x2 := by kernel_rfl
noncomputable def impl : PI → Option PO := fun x => F0 x.1 x.2.1 x.2.2.1
theorem impl_eq (x0 : Int) (x1 : Int) (x2 : Int) : impl (x0, x1, x2, ()) = F0 x0 x1 x2 := rfl
theorem con : Con Tryd.prog 103 3 rs.length 3 pin pout impl := by
  refine con_of_run' (nt := 15) (c := c0) tabGood Tryd.func103 (by kernel_rfl) (by kernel_rfl) (by kernel_rfl) (by kernel_rfl) (by kernel_rfl) (by kernel_rfl) (by kernel_rfl) ?_
  intro w0 O y hnp
  generalize hPost : (fun (a' : Act) (w' : World) => ∃ μ' S' st', Rel 15 w0 O μ' S' st' a' w' ∧ endOf (tabOf tab) rs 3 pout st' = some y) = Post
  have fin : ∀ (μ : Id → Option Value) (S : Nat → Prop) (st : St) (a : Act) (w : World), Rel 15 w0 O μ S st a w → endOf (tabOf tab) rs 3 pout st = some y → Post a w := fun μ S st a w h he => by rw [← hPost]; exact ⟨μ, S, st, h, he⟩
  have hp : Parts Tryd.prog 103 (pg) [] := ⟨tab_ok tabGood rfl, handNil_ok, rfl⟩
  exact good_first (hp) (runOK_of (hp) hnp trivial fin) (fun x => (seg0 x.1 x.2.1 x.2.2.1))
end spec_l1In

/-! ### loop.example/wholecheck/spec.l31Numbers -/
namespace spec_l31Numbers
noncomputable abbrev c0 : Code := (Tryd.f74.body).getD .skip
noncomputable abbrev pin : Tpl := ⟨[⟨0, false, [.d (.sl (.int .i64))]⟩], []⟩
noncomputable abbrev pout : Tpl := ⟨[⟨0, false, [.d .bool]⟩], []⟩
noncomputable abbrev p2 : Tpl := ⟨[⟨0, false, [.d (.sl (.int .i64))]⟩, ⟨3, false, [.d (.int .i64)]⟩], []⟩
noncomputable def T2 : List Item := (find 2 c0 []).getD []
noncomputable abbrev PI := (List Int) × Unit
noncomputable abbrev PO := Bool × Unit
noncomputable abbrev P2 := (List Int) × Int × Unit
noncomputable abbrev rs : List ResultVar := [.tmp 2]
noncomputable def F0 (J2 : P2 → Option PO) (x0 : List Int) : Option PO :=
  J2 (x0, 0, ())
noncomputable def F2 (J2 : P2 → Option PO) (Gspec_l1In : spec_l1In.PI → Option spec_l1In.PO) (t0 : List Int) (t3 : Int) : Option PO :=
  bif decide (t3 < (t0.length : Int)) then
    bif inb t3 t0.length then
      Option.bind (Gspec_l1In (t0.getD t3.toNat 0, (-9999), 9999, ())) fun y0 =>
      bif !y0.1 then
        some (false, ())
      else
        J2 (t0, wI (t3 + 1), ())
    else
      none
  else
    some (true, ())
noncomputable def hd {R : Type} (Gspec_l1In : spec_l1In.PI → Option spec_l1In.PO) : Hand R := (handAt 103 [14] true ⟨3, 1, 3, spec_l1In.pin, spec_l1In.pout, Gspec_l1In⟩ handNil)
noncomputable def pg (Gspec_l1In : spec_l1In.PI → Option spec_l1In.PO) (J2 : List Item → P2 → Option PO) : Prog PO := { nt := 16, np := 1, tb := tabOf tab, hd := hd Gspec_l1In, cuts := cutsOf [(2, cut p2 J2)], fin := endOf (tabOf tab) rs 1 pout }
noncomputable def q : FuncId → Bool := fun f => hasId [103] f
theorem seg0 (Gspec_l1In : spec_l1In.PI → Option spec_l1In.PO) (J2 : List Item → P2 → Option PO) (x0 : List Int) : arun (pg Gspec_l1In J2) 5000 [.code c0] (mk pin (x0, ())) = F0 (J2 T2) x0 := by kernel_rfl
theorem seg2 (Gspec_l1In : spec_l1In.PI → Option spec_l1In.PO) (J2 : List Item → P2 → Option PO) (t0 : List Int) (t3 : Int) : arun1 (pg Gspec_l1In J2) 5000 T2 (mk p2 (t0, t3, ())) = F2 (J2 T2) Gspec_l1In t0 t3 := by kernel_rfl
noncomputable def L2 : P2 → Option PO := lfp fun J2 x => F2 J2 spec_l1In.impl x.1 x.2.1
noncomputable def impl : PI → Option PO := fun x => F0 L2 x.1
theorem F2_le {J2 J2' : P2 → Option PO} (h2 : OLe J2 J2') {Gspec_l1In : spec_l1In.PI → Option spec_l1In.PO} (t0 : List Int) (t3 : Int) : OptLe (F2 J2 Gspec_l1In t0 t3) (F2 J2' Gspec_l1In t0 t3) := by unfold F2; exact .cond (.cond (.bind (.refl _) fun _ => .cond (.refl _) (.of h2 _)) (.refl _)) (.refl _)
theorem L2_mono : OMono fun J2 (x : P2) => F2 J2 spec_l1In.impl x.1 x.2.1 := fun J J' h2 x => F2_le h2 x.1 x.2.1
theorem L2_eq (t0 : List Int) (t3 : Int) : L2 (t0, t3, ()) = F2 (L2) spec_l1In.impl t0 t3 := congrFun (lfp_eq (L2_mono)) _
theorem impl_eq (x0 : List Int) : impl (x0, ()) = F0 L2 x0 := rfl
theorem con : Con Tryd.prog 74 1 rs.length 1 pin pout impl := by
  refine con_of_run' (nt := 16) (c := c0) tabGood Tryd.func74 (by kernel_rfl) (by kernel_rfl) (by kernel_rfl) (by kernel_rfl) (by kernel_rfl) (by kernel_rfl) (by kernel_rfl) ?_
  intro w0 O y hnp
  generalize hPost : (fun (a' : Act) (w' : World) => ∃ μ' S' st', Rel 16 w0 O μ' S' st' a' w' ∧ endOf (tabOf tab) rs 1 pout st' = some y) = Post
  have fin : ∀ (μ : Id → Option Value) (S : Nat → Prop) (st : St) (a : Act) (w : World), Rel 16 w0 O μ S st a w → endOf (tabOf tab) rs 1 pout st = some y → Post a w := fun μ S st a w h he => by rw [← hPost]; exact ⟨μ, S, st, h, he⟩
  have hp : ∀ (J2 : List Item → P2 → Option PO), Parts Tryd.prog 74 (pg spec_l1In.impl J2) [(2, cut p2 J2)] := fun J2 => ⟨tab_ok tabGood rfl, (handAt_ok spec_l1In.con handNil_ok), rfl⟩
  have g2 : Good Tryd.prog 16 w0 O Post y T2 p2 L2 := good_lfp fun J2 h2 => good_part (hp (atT T2 J2)) (runOK_of (hp (atT T2 J2)) hnp ⟨cutOK_at h2, trivial⟩ fin) (fun x => (seg2 spec_l1In.impl (atT T2 J2) x.1 x.2.1).trans (by simp only [atT_self] <;> rfl))
  exact good_first (hp (atT T2 L2)) (runOK_of (hp (atT T2 L2)) hnp ⟨cutOK_at g2, trivial⟩ fin) (fun x => (seg0 spec_l1In.impl (atT T2 L2) x.1).trans (by simp only [atT_self] <;> rfl))
end spec_l31Numbers

/-! ### loop.example/wholecheck/spec.l31Read -/
namespace spec_l31Read
noncomputable abbrev c0 : Code := (Tryd.f94.body).getD .skip
noncomputable abbrev pin : Tpl := ⟨[⟨0, false, [.d (.sl .str)]⟩], []⟩
noncomputable abbrev pout : Tpl := ⟨[⟨0, false, [.row 600001]⟩, ⟨1, false, [.d .bool]⟩], [(600001, .row 3 false (.int .i64))]⟩
noncomputable abbrev p3 : Tpl := ⟨[⟨0, false, [.d (.sl .str)]⟩, ⟨4, false, [.row 3000000]⟩, ⟨5, false, [.d (.int .i64)]⟩], [(3000000, .row 3 false (.int .i64))]⟩
noncomputable def T3 : List Item := (find 3 c0 []).getD []
noncomputable abbrev PI := (List (List UInt8)) × Unit
noncomputable abbrev PO := Bool × (List Int) × Unit
noncomputable abbrev P3 := (List (List UInt8)) × Int × (List Int) × Unit
noncomputable abbrev rs : List ResultVar := [.tmp 2, .tmp 3]
noncomputable def F0 (J3 : P3 → Option PO) (x0 : List (List UInt8)) : Option PO :=
  J3 (x0, 0, ([] : List Int), ())
noncomputable def F3 (J3 : P3 → Option PO) (Gspec_l31Numbers : spec_l31Numbers.PI → Option spec_l31Numbers.PO) (Gspec_l40Num : spec_l40Num.PI → Option spec_l40Num.PO) (t0 : List (List UInt8)) (t5 : Int) (r0 : List Int) : Option PO :=
  bif decide (t5 < (t0.length : Int)) then
    bif inb t5 t0.length then
      Option.bind (Gspec_l40Num (t0.getD t5.toNat [], ())) fun y0 =>
      bif !y0.2.1 then
        some (false, [], ())
      else
        Option.bind (Gspec_l31Numbers (([y0.1] : List Int), ())) fun y1 =>
        bif !y1.1 then
          some (false, [], ())
        else
          bif decide ((r0.length + ([y0.1] : List Int).length) * 8 ≤ 140737488355328) then
            J3 (t0, wI (t5 + 1), r0 ++ ([y0.1] : List Int), ())
          else
            none
    else
      none
  else
    some (true, r0, ())
noncomputable def hd {R : Type} (Gspec_l31Numbers : spec_l31Numbers.PI → Option spec_l31Numbers.PO) (Gspec_l40Num : spec_l40Num.PI → Option spec_l40Num.PO) : Hand R := (handAt 140 [20] true ⟨1, 2, 0, spec_l40Num.pin, spec_l40Num.pout, Gspec_l40Num⟩ (handAt 74 [28] true ⟨1, 1, 1, spec_l31Numbers.pin, spec_l31Numbers.pout, Gspec_l31Numbers⟩ handNil))
noncomputable def pg (Gspec_l31Numbers : spec_l31Numbers.PI → Option spec_l31Numbers.PO) (Gspec_l40Num : spec_l40Num.PI → Option spec_l40Num.PO) (J3 : List Item → P3 → Option PO) : Prog PO := { nt := 36, np := 1, tb := tabOf tab, hd := hd Gspec_l31Numbers Gspec_l40Num, cuts := cutsOf [(3, cut p3 J3)], fin := endOf (tabOf tab) rs 1 pout }
noncomputable def q : FuncId → Bool := fun f => hasId [74, 140] f
theorem seg0 (Gspec_l31Numbers : spec_l31Numbers.PI → Option spec_l31Numbers.PO) (Gspec_l40Num : spec_l40Num.PI → Option spec_l40Num.PO) (J3 : List Item → P3 → Option PO) (x0 : List (List UInt8)) : arun (pg Gspec_l31Numbers Gspec_l40Num J3) 5000 [.code c0] (mk pin (x0, ())) = F0 (J3 T3) x0 := by kernel_rfl
theorem seg3 (Gspec_l31Numbers : spec_l31Numbers.PI → Option spec_l31Numbers.PO) (Gspec_l40Num : spec_l40Num.PI → Option spec_l40Num.PO) (J3 : List Item → P3 → Option PO) (t0 : List (List UInt8)) (t5 : Int) (r0 : List Int) : arun1 (pg Gspec_l31Numbers Gspec_l40Num J3) 5000 T3 (mk p3 (t0, t5, r0, ())) = F3 (J3 T3) Gspec_l31Numbers Gspec_l40Num t0 t5 r0 := by kernel_rfl
noncomputable def L3 : P3 → Option PO := lfp fun J3 x => F3 J3 spec_l31Numbers.impl spec_l40Num.impl x.1 x.2.1 x.2.2.1
noncomputable def impl : PI → Option PO := fun x => F0 L3 x.1
theorem F3_le {J3 J3' : P3 → Option PO} (h3 : OLe J3 J3') {Gspec_l31Numbers : spec_l31Numbers.PI → Option spec_l31Numbers.PO} {Gspec_l40Num : spec_l40Num.PI → Option spec_l40Num.PO} (t0 : List (List UInt8)) (t5 : Int) (r0 : List Int) : OptLe (F3 J3 Gspec_l31Numbers Gspec_l40Num t0 t5 r0) (F3 J3' Gspec_l31Numbers Gspec_l40Num t0 t5 r0) := by unfold F3; exact .cond (.cond (.bind (.refl _) fun _ => .cond (.refl _) (.bind (.refl _) fun _ => .cond (.refl _) (.cond (.of h3 _) (.refl _)))) (.refl _)) (.refl _)
theorem L3_mono : OMono fun J3 (x : P3) => F3 J3 spec_l31Numbers.impl spec_l40Num.impl x.1 x.2.1 x.2.2.1 := fun J J' h3 x => F3_le h3 x.1 x.2.1 x.2.2.1
theorem L3_eq (t0 : List (List UInt8)) (t5 : Int) (r0 : List Int) : L3 (t0, t5, r0, ()) = F3 (L3) spec_l31Numbers.impl spec_l40Num.impl t0 t5 r0 := congrFun (lfp_eq (L3_mono)) _
theorem impl_eq (x0 : List (List UInt8)) : impl (x0, ()) = F0 L3 x0 := rfl
theorem con : Con Tryd.prog 94 1 rs.length 1 pin pout impl := by
  refine con_of_run' (nt := 36) (c := c0) tabGood Tryd.func94 (by kernel_rfl) (by kernel_rfl) (by kernel_rfl) (by kernel_rfl) (by kernel_rfl) (by kernel_rfl) (by kernel_rfl) ?_
  intro w0 O y hnp
  generalize hPost : (fun (a' : Act) (w' : World) => ∃ μ' S' st', Rel 36 w0 O μ' S' st' a' w' ∧ endOf (tabOf tab) rs 1 pout st' = some y) = Post
  have fin : ∀ (μ : Id → Option Value) (S : Nat → Prop) (st : St) (a : Act) (w : World), Rel 36 w0 O μ S st a w → endOf (tabOf tab) rs 1 pout st = some y → Post a w := fun μ S st a w h he => by rw [← hPost]; exact ⟨μ, S, st, h, he⟩
  have hp : ∀ (J3 : List Item → P3 → Option PO), Parts Tryd.prog 94 (pg spec_l31Numbers.impl spec_l40Num.impl J3) [(3, cut p3 J3)] := fun J3 => ⟨tab_ok tabGood rfl, (handAt_ok spec_l40Num.con (handAt_ok spec_l31Numbers.con handNil_ok)), rfl⟩
  have g3 : Good Tryd.prog 36 w0 O Post y T3 p3 L3 := good_lfp fun J3 h3 => good_part (hp (atT T3 J3)) (runOK_of (hp (atT T3 J3)) hnp ⟨cutOK_at h3, trivial⟩ fin) (fun x => (seg3 spec_l31Numbers.impl spec_l40Num.impl (atT T3 J3) x.1 x.2.1 x.2.2.1).trans (by simp only [atT_self] <;> rfl))
  exact good_first (hp (atT T3 L3)) (runOK_of (hp (atT T3 L3)) hnp ⟨cutOK_at g3, trivial⟩ fin) (fun x => (seg0 spec_l31Numbers.impl spec_l40Num.impl (atT T3 L3) x.1).trans (by simp only [atT_self] <;> rfl))
end spec_l31Read

/-! ### loop.example/wholecheck/spec.ReadList -/
namespace spec_ReadList
noncomputable abbrev c0 : Code := (Tryd.f41.body).getD .skip
noncomputable abbrev pin : Tpl := ⟨[⟨0, false, [.d .str]⟩], []⟩
noncomputable abbrev pout : Tpl := ⟨[⟨0, false, [.row 600001]⟩, ⟨1, false, [.d .bool]⟩], [(600001, .row 3 false (.int .i64))]⟩
noncomputable abbrev PI := (List UInt8) × Unit
noncomputable abbrev PO := Bool × (List Int) × Unit
noncomputable abbrev rs : List ResultVar := [.tmp 2, .tmp 3]
noncomputable def F0 (Gspec_l31Read : spec_l31Read.PI → Option spec_l31Read.PO) (Gspec_l40Cut : spec_l40Cut.PI → Option spec_l40Cut.PO) (x0 : List UInt8) : Option PO :=
  bif x0 == ([45] : List UInt8) then
    some (true, [], ())
  else
    Option.bind (Gspec_l40Cut (x0, 32, ())) fun y0 =>
    Option.bind (Gspec_l31Read (y0.1, ())) fun y1 =>
    bif !y1.1 then
      some (false, [], ())
    else
      bif decide ((y1.2.1.length : Int) > 400) then
        some (false, [], ())
      else
        some (true, y1.2.1, ())
noncomputable def hd {R : Type} (Gspec_l31Read : spec_l31Read.PI → Option spec_l31Read.PO) (Gspec_l40Cut : spec_l40Cut.PI → Option spec_l40Cut.PO) : Hand R := (handAt 95 [10] true ⟨2, 1, 2, spec_l40Cut.pin, spec_l40Cut.pout, Gspec_l40Cut⟩ (handAt 94 [11] true ⟨1, 2, 1, spec_l31Read.pin, spec_l31Read.pout, Gspec_l31Read⟩ handNil))
noncomputable def pg (Gspec_l31Read : spec_l31Read.PI → Option spec_l31Read.PO) (Gspec_l40Cut : spec_l40Cut.PI → Option spec_l40Cut.PO) : Prog PO := { nt := 22, np := 1, tb := tabOf tab, hd := hd Gspec_l31Read Gspec_l40Cut, cuts := cutsOf [], fin := endOf (tabOf tab) rs 1 pout }
noncomputable def q : FuncId → Bool := fun f => hasId [] f
theorem seg0 (Gspec_l31Read : spec_l31Read.PI → Option spec_l31Read.PO) (Gspec_l40Cut : spec_l40Cut.PI → Option spec_l40Cut.PO) (x0 : List UInt8) : arun (pg Gspec_l31Read Gspec_l40Cut) 5000 [.code c0] (mk pin (x0, ())) = F0 Gspec_l31Read Gspec_l40Cut x0 := by kernel_rfl
noncomputable def impl : PI → Option PO := fun x => F0 spec_l31Read.impl spec_l40Cut.impl x.1
theorem impl_eq (x0 : List UInt8) : impl (x0, ()) = F0 spec_l31Read.impl spec_l40Cut.impl x0 := rfl
theorem con : Con Tryd.prog 41 1 rs.length 1 pin pout impl := by
  refine con_of_run' (nt := 22) (c := c0) tabGood Tryd.func41 (by kernel_rfl) (by kernel_rfl) (by kernel_rfl) (by kernel_rfl) (by kernel_rfl) (by kernel_rfl) (by kernel_rfl) ?_
  intro w0 O y hnp
  generalize hPost : (fun (a' : Act) (w' : World) => ∃ μ' S' st', Rel 22 w0 O μ' S' st' a' w' ∧ endOf (tabOf tab) rs 1 pout st' = some y) = Post
  have fin : ∀ (μ : Id → Option Value) (S : Nat → Prop) (st : St) (a : Act) (w : World), Rel 22 w0 O μ S st a w → endOf (tabOf tab) rs 1 pout st = some y → Post a w := fun μ S st a w h he => by rw [← hPost]; exact ⟨μ, S, st, h, he⟩
  have hp : Parts Tryd.prog 41 (pg spec_l31Read.impl spec_l40Cut.impl) [] := ⟨tab_ok tabGood rfl, (handAt_ok spec_l40Cut.con (handAt_ok spec_l31Read.con handNil_ok)), rfl⟩
  exact good_first (hp) (runOK_of (hp) hnp trivial fin) (fun x => (seg0 spec_l31Read.impl spec_l40Cut.impl x.1))
end spec_ReadList

/-! ### loop.example/wholecheck/impl.in -/
namespace impl_in
noncomputable abbrev c0 : Code := (Tryd.f61.body).getD .skip
noncomputable abbrev pin : Tpl := ⟨[⟨0, false, [.d (.int .i64)]⟩, ⟨1, false, [.d (.int .i64)]⟩, ⟨2, false, [.d (.int .i64)]⟩], []⟩
noncomputable abbrev pout : Tpl := ⟨[⟨0, false, [.d .bool]⟩], []⟩
noncomputable abbrev PI := Int × Int × Int × Unit
noncomputable abbrev PO := Bool × Unit
noncomputable abbrev rs : List ResultVar := [.tmp 6]
noncomputable def F0 (x0 : Int) (x1 : Int) (x2 : Int) : Option PO :=
  bif decide (x0 ≥ x1) then
    some (decide (x0 ≤ x2), ())
  else
    some (false, ())
noncomputable def hd {R : Type} : Hand R := handNil
noncomputable def pg : Prog PO := { nt := 15, np := 3, tb := tabOf tab, hd := hd, cuts := cutsOf [], fin := endOf (tabOf tab) rs 3 pout }
noncomputable def q : FuncId → Bool := fun f => hasId [] f
theorem seg0 (x0 : Int) (x1 : Int) (x2 : Int) : arun (pg) 5000 [.code c0] (mk pin (x0, x1, x2, ())) = F0 x0 x1 x2 := by kernel_rfl
noncomputable def impl : PI → Option PO := fun x => F0 x.1 x.2.1 x.2.2.1
theorem impl_eq (x0 : Int) (x1 : Int) (x2 : Int) : impl (x0, x1, x2, ()) = F0 x0 x1 x2 := rfl
theorem con : Con Tryd.prog 61 3 rs.length 3 pin pout impl := by
  refine con_of_run' (nt := 15) (c := c0) tabGood Tryd.func61 (by kernel_rfl) (by kernel_rfl) (by kernel_rfl) (by kernel_rfl) (by kernel_rfl) (by kernel_rfl) (by kernel_rfl) ?_
  intro w0 O y hnp
  generalize hPost : (fun (a' : Act) (w' : World) => ∃ μ' S' st', Rel 15 w0 O μ' S' st' a' w' ∧ endOf (tabOf tab) rs 3 pout st' = some y) = Post
  have fin : ∀ (μ : Id → Option Value) (S : Nat → Prop) (st : St) (a : Act) (w : World), Rel 15 w0 O μ S st a w → endOf (tabOf tab) rs 3 pout st = some y → Post a w := fun μ S st a w h he => by rw [← hPost]; exact ⟨μ, S, st, h, he⟩
  have hp : Parts Tryd.prog 61 (pg) [] := ⟨tab_ok tabGood rfl, handNil_ok, rfl⟩
  exact good_first (hp) (runOK_of (hp) hnp trivial fin) (fun x => (seg0 x.1 x.2.1 x.2.2.1))
end impl_in

/-! ### loop.example/wholecheck/impl.numberText -/
namespace impl_numberText
noncomputable abbrev c0 : Code := (Tryd.f97.body).getD .skip
noncomputable abbrev pin : Tpl := ⟨[⟨0, false, [.d .str]⟩], []⟩
noncomputable abbrev pout : Tpl := ⟨[⟨0, false, [.d (.int .i64)]⟩, ⟨1, false, [.d .bool]⟩], []⟩
noncomputable abbrev PI := (List UInt8) × Unit
noncomputable abbrev PO := Int × Bool × Unit
noncomputable abbrev rs : List ResultVar := [.tmp 2, .tmp 3]
noncomputable def F0 (Gimpl_in : impl_in.PI → Option impl_in.PO) (Glib_Atoi : lib_Atoi.PI → Option lib_Atoi.PO) (Glib_Itoa : lib_Itoa.PI → Option lib_Itoa.PO) (x0 : List UInt8) : Option PO :=
  Option.bind (Glib_Atoi (x0, ())) fun y0 =>
  bif y0.2.1 then
    Option.bind (Glib_Itoa (y0.1, ())) fun y1 =>
    bif y1.1 == x0 then
      Option.bind (Gimpl_in (y0.1, (-9999), 9999, ())) fun y2 =>
      some (y0.1, y2.1, ())
    else
      some (y0.1, false, ())
  else
    some (y0.1, false, ())
noncomputable def hd {R : Type} (Gimpl_in : impl_in.PI → Option impl_in.PO) (Glib_Atoi : lib_Atoi.PI → Option lib_Atoi.PO) (Glib_Itoa : lib_Itoa.PI → Option lib_Itoa.PO) : Hand R := (handAt 142 [8] true ⟨1, 2, 0, lib_Atoi.pin, lib_Atoi.pout, Glib_Atoi⟩ (handAt 63 [16] true ⟨1, 1, 0, lib_Itoa.pin, lib_Itoa.pout, Glib_Itoa⟩ (handAt 61 [22] true ⟨3, 1, 3, impl_in.pin, impl_in.pout, Gimpl_in⟩ handNil)))
noncomputable def pg (Gimpl_in : impl_in.PI → Option impl_in.PO) (Glib_Atoi : lib_Atoi.PI → Option lib_Atoi.PO) (Glib_Itoa : lib_Itoa.PI → Option lib_Itoa.PO) : Prog PO := { nt := 24, np := 1, tb := tabOf tab, hd := hd Gimpl_in Glib_Atoi Glib_Itoa, cuts := cutsOf [], fin := endOf (tabOf tab) rs 1 pout }
noncomputable def q : FuncId → Bool := fun f => hasId [61, 63, 142] f
theorem seg0 (Gimpl_in : impl_in.PI → Option impl_in.PO) (Glib_Atoi : lib_Atoi.PI → Option lib_Atoi.PO) (Glib_Itoa : lib_Itoa.PI → Option lib_Itoa.PO) (x0 : List UInt8) : arun (pg Gimpl_in Glib_Atoi Glib_Itoa) 5000 [.code c0] (mk pin (x0, ())) = F0 Gimpl_in Glib_Atoi Glib_Itoa x0 := by kernel_rfl
noncomputable def impl : PI → Option PO := fun x => F0 impl_in.impl lib_Atoi.impl lib_Itoa.impl x.1
theorem impl_eq (x0 : List UInt8) : impl (x0, ()) = F0 impl_in.impl lib_Atoi.impl lib_Itoa.impl x0 := rfl
theorem con : Con Tryd.prog 97 1 rs.length 1 pin pout impl := by
  refine con_of_run' (nt := 24) (c := c0) tabGood Tryd.func97 (by kernel_rfl) (by kernel_rfl) (by kernel_rfl) (by kernel_rfl) (by kernel_rfl) (by kernel_rfl) (by kernel_rfl) ?_
  intro w0 O y hnp
  generalize hPost : (fun (a' : Act) (w' : World) => ∃ μ' S' st', Rel 24 w0 O μ' S' st' a' w' ∧ endOf (tabOf tab) rs 1 pout st' = some y) = Post
  have fin : ∀ (μ : Id → Option Value) (S : Nat → Prop) (st : St) (a : Act) (w : World), Rel 24 w0 O μ S st a w → endOf (tabOf tab) rs 1 pout st = some y → Post a w := fun μ S st a w h he => by rw [← hPost]; exact ⟨μ, S, st, h, he⟩
  have hp : Parts Tryd.prog 97 (pg impl_in.impl lib_Atoi.impl lib_Itoa.impl) [] := ⟨tab_ok tabGood rfl, (handAt_ok lib_Atoi.con (handAt_ok lib_Itoa.con (handAt_ok impl_in.con handNil_ok))), rfl⟩
  exact good_first (hp) (runOK_of (hp) hnp trivial fin) (fun x => (seg0 impl_in.impl lib_Atoi.impl lib_Itoa.impl x.1))
end impl_numberText

/-! ### loop.example/wholecheck/impl.clone[int] -/
namespace impl_clone_of
noncomputable abbrev c0 : Code := (Tryd.f98.body).getD .skip
noncomputable abbrev pin : Tpl := ⟨[⟨0, false, [.d (.sl (.int .i64))]⟩], []⟩
noncomputable abbrev pout : Tpl := ⟨[⟨0, false, [.row 600001]⟩], [(600001, .row 3 false (.int .i64))]⟩
noncomputable abbrev PI := (List Int) × Unit
noncomputable abbrev PO := (List Int) × Unit
noncomputable abbrev rs : List ResultVar := [.tmp 2]
noncomputable def F0 (x0 : List Int) : Option PO :=
  bif (x0.length : Int) == 0 then
    some ([], ())
  else
    bif decide (0 ≤ (x0.length : Int)) && decide ((x0.length : Int) ≤ (x0.length : Int)) && decide ((x0.length : Int) * 8 ≤ 140737488355328) then
      some (x0.take (List.replicate (x0.length : Int).toNat 0 : List Int).length ++ (List.replicate (x0.length : Int).toNat 0 : List Int).drop x0.length, ())
    else
      none
noncomputable def hd {R : Type} : Hand R := handNil
noncomputable def pg : Prog PO := { nt := 14, np := 1, tb := tabOf tab, hd := hd, cuts := cutsOf [], fin := endOf (tabOf tab) rs 1 pout }
noncomputable def q : FuncId → Bool := fun f => hasId [] f
theorem seg0 (x0 : List Int) : arun (pg) 5000 [.code c0] (mk pin (x0, ())) = F0 x0 := by kernel_rfl
noncomputable def impl : PI → Option PO := fun x => F0 x.1
theorem impl_eq (x0 : List Int) : impl (x0, ()) = F0 x0 := rfl
theorem con : Con Tryd.prog 98 1 rs.length 1 pin pout impl := by
  refine con_of_run' (nt := 14) (c := c0) tabGood Tryd.func98 (by kernel_rfl) (by kernel_rfl) (by kernel_rfl) (by kernel_rfl) (by kernel_rfl) (by kernel_rfl) (by kernel_rfl) ?_
  intro w0 O y hnp
  generalize hPost : (fun (a' : Act) (w' : World) => ∃ μ' S' st', Rel 14 w0 O μ' S' st' a' w' ∧ endOf (tabOf tab) rs 1 pout st' = some y) = Post
  have fin : ∀ (μ : Id → Option Value) (S : Nat → Prop) (st : St) (a : Act) (w : World), Rel 14 w0 O μ S st a w → endOf (tabOf tab) rs 1 pout st = some y → Post a w := fun μ S st a w h he => by rw [← hPost]; exact ⟨μ, S, st, h, he⟩
  have hp : Parts Tryd.prog 98 (pg) [] := ⟨tab_ok tabGood rfl, handNil_ok, rfl⟩
  exact good_first (hp) (runOK_of (hp) hnp trivial fin) (fun x => (seg0 x.1))
end impl_clone_of

/-! ### loop.example/wholecheck/impl.ReadList -/
namespace impl_ReadList
noncomputable abbrev c0 : Code := (Tryd.f42.body).getD .skip
noncomputable abbrev pin : Tpl := ⟨[⟨0, false, [.d .str]⟩], []⟩
noncomputable abbrev pout : Tpl := ⟨[⟨0, false, [.row 600001]⟩, ⟨1, false, [.d .bool]⟩], [(600001, .row 3 false (.int .i64))]⟩
noncomputable abbrev p5 : Tpl := ⟨[⟨4, false, [.row 3000000]⟩, ⟨12, false, [.d (.sl .str)]⟩, ⟨13, false, [.d (.int .i64)]⟩, ⟨14, false, [.d (.int .i64)]⟩], [(3000000, .row 3 true (.int .i64))]⟩
noncomputable def T5 : List Item := (find 5 c0 []).getD []
noncomputable abbrev PI := (List UInt8) × Unit
noncomputable abbrev PO := Bool × (List Int) × Unit
noncomputable abbrev P5 := (List (List UInt8)) × Int × Int × (List Int) × Unit
noncomputable abbrev rs : List ResultVar := [.tmp 2, .tmp 3]
noncomputable def F0 (J5 : P5 → Option PO) (Glib_Split : lib_Split.PI → Option lib_Split.PO) (x0 : List UInt8) : Option PO :=
  bif x0 == ([45] : List UInt8) then
    some (true, [], ())
  else
    Option.bind (Glib_Split (x0, ([32] : List UInt8), ())) fun y0 =>
    J5 (y0.1, (y0.1.length : Int), 0, [], ())
noncomputable def F5 (J5 : P5 → Option PO) (Gimpl_clone_of : impl_clone_of.PI → Option impl_clone_of.PO) (Gimpl_numberText : impl_numberText.PI → Option impl_numberText.PO) (t12 : List (List UInt8)) (t13 : Int) (t14 : Int) (r0 : List Int) : Option PO :=
  bif decide (t14 < t13) then
    bif inb t14 t12.length then
      Option.bind (Gimpl_numberText (t12.getD t14.toNat [], ())) fun y1 =>
      bif !y1.2.1 then
        some (false, [], ())
      else
        bif (r0.length : Int) == 400 then
          some (false, [], ())
        else
          bif decide ((r0.length + ([y1.1] : List Int).length) * 8 ≤ 140737488355328) then
            J5 (t12, t13, wI (t14 + 1), r0 ++ ([y1.1] : List Int), ())
          else
            none
    else
      none
  else
    Option.bind (Gimpl_clone_of (r0, ())) fun y2 =>
    some (true, y2.1, ())
noncomputable def hd {R : Type} (Gimpl_clone_of : impl_clone_of.PI → Option impl_clone_of.PO) (Gimpl_numberText : impl_numberText.PI → Option impl_numberText.PO) (Glib_Split : lib_Split.PI → Option lib_Split.PO) : Hand R := (handAt 98 [36] true ⟨1, 1, 1, impl_clone_of.pin, impl_clone_of.pout, Gimpl_clone_of⟩ (handAt 97 [20] true ⟨1, 2, 1, impl_numberText.pin, impl_numberText.pout, Gimpl_numberText⟩ (handAt 96 [12] false ⟨2, 1, 0, lib_Split.pin, lib_Split.pout, Glib_Split⟩ handNil)))
noncomputable def pg (Gimpl_clone_of : impl_clone_of.PI → Option impl_clone_of.PO) (Gimpl_numberText : impl_numberText.PI → Option impl_numberText.PO) (Glib_Split : lib_Split.PI → Option lib_Split.PO) (J5 : List Item → P5 → Option PO) : Prog PO := { nt := 37, np := 1, tb := tabOf tab, hd := hd Gimpl_clone_of Gimpl_numberText Glib_Split, cuts := cutsOf [(5, cut p5 J5)], fin := endOf (tabOf tab) rs 1 pout }
noncomputable def q : FuncId → Bool := fun f => hasId [97] f
theorem seg0 (Gimpl_clone_of : impl_clone_of.PI → Option impl_clone_of.PO) (Gimpl_numberText : impl_numberText.PI → Option impl_numberText.PO) (Glib_Split : lib_Split.PI → Option lib_Split.PO) (J5 : List Item → P5 → Option PO) (x0 : List UInt8) : arun (pg Gimpl_clone_of Gimpl_numberText Glib_Split J5) 5000 [.code c0] (mk pin (x0, ())) = F0 (J5 T5) Glib_Split x0 := by kernel_rfl
theorem seg5 (Gimpl_clone_of : impl_clone_of.PI → Option impl_clone_of.PO) (Gimpl_numberText : impl_numberText.PI → Option impl_numberText.PO) (Glib_Split : lib_Split.PI → Option lib_Split.PO) (J5 : List Item → P5 → Option PO) (t12 : List (List UInt8)) (t13 : Int) (t14 : Int) (r0 : List Int) : arun1 (pg Gimpl_clone_of Gimpl_numberText Glib_Split J5) 5000 T5 (mk p5 (t12, t13, t14, r0, ())) = F5 (J5 T5) Gimpl_clone_of Gimpl_numberText t12 t13 t14 r0 := by kernel_rfl
noncomputable def L5 : P5 → Option PO := lfp fun J5 x => F5 J5 impl_clone_of.impl impl_numberText.impl x.1 x.2.1 x.2.2.1 x.2.2.2.1
noncomputable def impl : PI → Option PO := fun x => F0 L5 lib_Split.impl x.1
theorem F5_le {J5 J5' : P5 → Option PO} (h5 : OLe J5 J5') {Gimpl_clone_of : impl_clone_of.PI → Option impl_clone_of.PO} {Gimpl_numberText : impl_numberText.PI → Option impl_numberText.PO} (t12 : List (List UInt8)) (t13 : Int) (t14 : Int) (r0 : List Int) : OptLe (F5 J5 Gimpl_clone_of Gimpl_numberText t12 t13 t14 r0) (F5 J5' Gimpl_clone_of Gimpl_numberText t12 t13 t14 r0) := by unfold F5; exact .cond (.cond (.bind (.refl _) fun _ => .cond (.refl _) (.cond (.refl _) (.cond (.of h5 _) (.refl _)))) (.refl _)) (.refl _)
theorem L5_mono : OMono fun J5 (x : P5) => F5 J5 impl_clone_of.impl impl_numberText.impl x.1 x.2.1 x.2.2.1 x.2.2.2.1 := fun J J' h5 x => F5_le h5 x.1 x.2.1 x.2.2.1 x.2.2.2.1
theorem L5_eq (t12 : List (List UInt8)) (t13 : Int) (t14 : Int) (r0 : List Int) : L5 (t12, t13, t14, r0, ()) = F5 (L5) impl_clone_of.impl impl_numberText.impl t12 t13 t14 r0 := congrFun (lfp_eq (L5_mono)) _
theorem impl_eq (x0 : List UInt8) : impl (x0, ()) = F0 L5 lib_Split.impl x0 := rfl
theorem con : Con Tryd.prog 42 1 rs.length 1 pin pout impl := by
  refine con_of_run' (nt := 37) (c := c0) tabGood Tryd.func42 (by kernel_rfl) (by kernel_rfl) (by kernel_rfl) (by kernel_rfl) (by kernel_rfl) (by kernel_rfl) (by kernel_rfl) ?_
  intro w0 O y hnp
  generalize hPost : (fun (a' : Act) (w' : World) => ∃ μ' S' st', Rel 37 w0 O μ' S' st' a' w' ∧ endOf (tabOf tab) rs 1 pout st' = some y) = Post
  have fin : ∀ (μ : Id → Option Value) (S : Nat → Prop) (st : St) (a : Act) (w : World), Rel 37 w0 O μ S st a w → endOf (tabOf tab) rs 1 pout st = some y → Post a w := fun μ S st a w h he => by rw [← hPost]; exact ⟨μ, S, st, h, he⟩
  have hp : ∀ (J5 : List Item → P5 → Option PO), Parts Tryd.prog 42 (pg impl_clone_of.impl impl_numberText.impl lib_Split.impl J5) [(5, cut p5 J5)] := fun J5 => ⟨tab_ok tabGood rfl, (handAt_ok impl_clone_of.con (handAt_ok impl_numberText.con (handAt_ok lib_Split.con handNil_ok))), rfl⟩
  have g5 : Good Tryd.prog 37 w0 O Post y T5 p5 L5 := good_lfp fun J5 h5 => good_part (hp (atT T5 J5)) (runOK_of (hp (atT T5 J5)) hnp ⟨cutOK_at h5, trivial⟩ fin) (fun x => (seg5 impl_clone_of.impl impl_numberText.impl lib_Split.impl (atT T5 J5) x.1 x.2.1 x.2.2.1 x.2.2.2.1).trans (by simp only [atT_self] <;> rfl))
  exact good_first (hp (atT T5 L5)) (runOK_of (hp (atT T5 L5)) hnp ⟨cutOK_at g5, trivial⟩ fin) (fun x => (seg0 impl_clone_of.impl impl_numberText.impl lib_Split.impl (atT T5 L5) x.1).trans (by simp only [atT_self] <;> rfl))
end impl_ReadList

/-! ### loop.example/wholecheck/laws.eqIntS -/
namespace laws_eqIntS
noncomputable abbrev c0 : Code := (Tryd.f30.body).getD .skip
noncomputable abbrev pin : Tpl := ⟨[⟨0, false, [.d (.sl (.int .i64))]⟩, ⟨1, false, [.d (.sl (.int .i64))]⟩], []⟩
noncomputable abbrev pout : Tpl := ⟨[⟨0, false, [.d .bool]⟩], []⟩
noncomputable abbrev p4 : Tpl := ⟨[⟨0, false, [.d (.sl (.int .i64))]⟩, ⟨1, false, [.d (.sl (.int .i64))]⟩, ⟨5, false, [.d (.int .i64)]⟩], []⟩
noncomputable def T4 : List Item := (find 4 c0 []).getD []
noncomputable abbrev p6 : Tpl := ⟨[⟨0, false, [.d (.sl (.int .i64))]⟩, ⟨1, false, [.d (.sl (.int .i64))]⟩, ⟨5, false, [.d (.int .i64)]⟩], []⟩
noncomputable def T6 : List Item := (find 6 c0 []).getD []
noncomputable abbrev PI := (List Int) × (List Int) × Unit
noncomputable abbrev PO := Bool × Unit
noncomputable abbrev P4 := (List Int) × (List Int) × Int × Unit
noncomputable abbrev P6 := (List Int) × (List Int) × Int × Unit
noncomputable abbrev rs : List ResultVar := [.tmp 4]
noncomputable def F0 (J4 : P4 → Option PO) (x0 : List Int) (x1 : List Int) : Option PO :=
  bif (x0.length : Int) != (x1.length : Int) then
    some (false, ())
  else
    J4 (x0, x1, 0, ())
noncomputable def F4 (J6 : P6 → Option PO) (t0 : List Int) (t1 : List Int) (t5 : Int) : Option PO :=
  bif decide (t5 < (t0.length : Int)) then
    J6 (t0, t1, t5, ())
  else
    some (true, ())
noncomputable def F6 (J4 : P4 → Option PO) (t0 : List Int) (t1 : List Int) (t5 : Int) : Option PO :=
  bif inb t5 t0.length then
    bif inb t5 t1.length then
      bif t0.getD t5.toNat 0 != t1.getD t5.toNat 0 then
        some (false, ())
      else
        J4 (t0, t1, wI (t5 + 1), ())
    else
      none
  else
    none
noncomputable def hd {R : Type} : Hand R := handNil
noncomputable def pg (J4 : List Item → P4 → Option PO) (J6 : List Item → P6 → Option PO) : Prog PO := { nt := 26, np := 2, tb := tabOf tab, hd := hd, cuts := cutsOf [(4, cut p4 J4), (6, cut p6 J6)], fin := endOf (tabOf tab) rs 2 pout }
noncomputable def q : FuncId → Bool := fun f => hasId [] f
theorem seg0 (J4 : List Item → P4 → Option PO) (J6 : List Item → P6 → Option PO) (x0 : List Int) (x1 : List Int) : arun (pg J4 J6) 5000 [.code c0] (mk pin (x0, x1, ())) = F0 (J4 T4) x0 x1 := by kernel_rfl
theorem seg4 (J4 : List Item → P4 → Option PO) (J6 : List Item → P6 → Option PO) (t0 : List Int) (t1 : List Int) (t5 : Int) : arun1 (pg J4 J6) 5000 T4 (mk p4 (t0, t1, t5, ())) = F4 (J6 T6) t0 t1 t5 := by kernel_rfl
theorem seg6 (J4 : List Item → P4 → Option PO) (J6 : List Item → P6 → Option PO) (t0 : List Int) (t1 : List Int) (t5 : Int) : arunQ (pg J4 J6) q [] [] 5000 T6 (mk p6 (t0, t1, t5, ())) = List.replicate (arunQ (pg J4 J6) q [] [] 5000 T6 (mk p6 (t0, t1, t5, ()))).length (F6 (J4 T4) t0 t1 t5) := by kernel_rfl
noncomputable def L6 (J4 : P4 → Option PO) : P6 → Option PO := fun x => F6 J4 x.1 x.2.1 x.2.2.1
noncomputable def L4 : P4 → Option PO := lfp fun J4 x => F4 (L6 J4) x.1 x.2.1 x.2.2.1
noncomputable def impl : PI → Option PO := fun x => F0 L4 x.1 x.2.1
theorem F6_le {J4 J4' : P4 → Option PO} (h4 : OLe J4 J4') (t0 : List Int) (t1 : List Int) (t5 : Int) : OptLe (F6 J4 t0 t1 t5) (F6 J4' t0 t1 t5) := by unfold F6; exact .cond (.cond (.cond (.refl _) (.of h4 _)) (.refl _)) (.refl _)
theorem F4_le {J6 J6' : P6 → Option PO} (h6 : OLe J6 J6') (t0 : List Int) (t1 : List Int) (t5 : Int) : OptLe (F4 J6 t0 t1 t5) (F4 J6' t0 t1 t5) := by unfold F4; exact .cond (.of h6 _) (.refl _)
theorem L6_eq (J4 : P4 → Option PO) (t0 : List Int) (t1 : List Int) (t5 : Int) : L6 J4 (t0, t1, t5, ()) = F6 J4 t0 t1 t5 := rfl
theorem L6_le {J4 J4' : P4 → Option PO} (h4 : OLe J4 J4') : OLe (L6 J4) (L6 J4') := fun x => F6_le h4 x.1 x.2.1 x.2.2.1
theorem L4_mono : OMono fun J4 (x : P4) => F4 (L6 J4) x.1 x.2.1 x.2.2.1 := fun J J' h4 x => F4_le (L6_le h4) x.1 x.2.1 x.2.2.1
theorem L4_eq (t0 : List Int) (t1 : List Int) (t5 : Int) : L4 (t0, t1, t5, ()) = F4 (L6 (L4)) t0 t1 t5 := congrFun (lfp_eq (L4_mono)) _
theorem impl_eq (x0 : List Int) (x1 : List Int) : impl (x0, x1, ()) = F0 L4 x0 x1 := rfl
theorem con : Con Tryd.prog 30 2 rs.length 2 pin pout impl := by
  refine con_of_run' (nt := 26) (c := c0) tabGood Tryd.func30 (by kernel_rfl) (by kernel_rfl) (by kernel_rfl) (by kernel_rfl) (by kernel_rfl) (by kernel_rfl) (by kernel_rfl) ?_
  intro w0 O y hnp
  generalize hPost : (fun (a' : Act) (w' : World) => ∃ μ' S' st', Rel 26 w0 O μ' S' st' a' w' ∧ endOf (tabOf tab) rs 2 pout st' = some y) = Post
  have fin : ∀ (μ : Id → Option Value) (S : Nat → Prop) (st : St) (a : Act) (w : World), Rel 26 w0 O μ S st a w → endOf (tabOf tab) rs 2 pout st = some y → Post a w := fun μ S st a w h he => by rw [← hPost]; exact ⟨μ, S, st, h, he⟩
  have hp : ∀ (J4 : List Item → P4 → Option PO), ∀ (J6 : List Item → P6 → Option PO), Parts Tryd.prog 30 (pg J4 J6) [(4, cut p4 J4), (6, cut p6 J6)] := fun J4 J6 => ⟨tab_ok tabGood rfl, handNil_ok, rfl⟩
  have g6 : ∀ (J4 : P4 → Option PO), Good Tryd.prog 26 w0 O Post y T4 p4 J4 → Good Tryd.prog 26 w0 O Post y T6 p6 (L6 J4) := fun J4 h4 => good_quiet (hs := hd) (cv' := hd) (Checked.mixed Tryd.checked) (hp (atT T4 J4) (atT T6 (fun _ => none))) handNil_D handNil_nat handNil_nat (runOK_of (hp (atT T4 J4) (atT T6 (fun _ => none))) hnp ⟨cutOK_at h4, cutOK_at (p := p6) (T := T6) (J := fun _ => none) good_none, trivial⟩ fin) (fun x => all_same ⟨_, (seg6 (atT T4 J4) (atT T6 (fun _ => none)) x.1 x.2.1 x.2.2.1).trans (by simp only [atT_self] <;> rfl)⟩)
  have g4 : Good Tryd.prog 26 w0 O Post y T4 p4 L4 := good_lfp fun J4 h4 => good_part (hp (atT T4 (fun _ => none)) (atT T6 (L6 J4))) (runOK_of (hp (atT T4 (fun _ => none)) (atT T6 (L6 J4))) hnp ⟨cutOK_at (p := p4) (T := T4) (J := fun _ => none) good_none, cutOK_at (g6 J4 h4), trivial⟩ fin) (fun x => (seg4 (atT T4 (fun _ => none)) (atT T6 (L6 J4)) x.1 x.2.1 x.2.2.1).trans (by simp only [atT_self] <;> rfl))
  exact good_first (hp (atT T4 L4) (atT T6 (fun _ => none))) (runOK_of (hp (atT T4 L4) (atT T6 (fun _ => none))) hnp ⟨cutOK_at g4, cutOK_at (p := p6) (T := T6) (J := fun _ => none) good_none, trivial⟩ fin) (fun x => (seg0 (atT T4 L4) (atT T6 (fun _ => none)) x.1 x.2.1).trans (by simp only [atT_self] <;> rfl))
end laws_eqIntS

/-! ### loop.example/wholecheck/laws.markIntS -/
namespace laws_markIntS
noncomputable abbrev c0 : Code := (Tryd.f43.body).getD .skip
noncomputable abbrev pin : Tpl := ⟨[⟨0, false, [.row 500001]⟩, ⟨1, false, [.d (.int .i64)]⟩], [(500001, .row 3 false (.int .i64))]⟩
noncomputable abbrev pout : Tpl := ⟨[⟨0, false, [.d (.int .i64)]⟩, ⟨1, false, [.row 500001]⟩], [(500001, .row 3 false (.int .i64))]⟩
noncomputable abbrev p2 : Tpl := ⟨[⟨0, false, [.row 500001]⟩, ⟨1, false, [.d (.int .i64)]⟩, ⟨5, false, [.d (.int .i64)]⟩], [(500001, .row 3 false (.int .i64))]⟩
noncomputable def T2 : List Item := (find 2 c0 []).getD []
noncomputable abbrev PI := Int × (List Int) × Unit
noncomputable abbrev PO := Int × (List Int) × Unit
noncomputable abbrev P2 := Int × Int × (List Int) × Unit
noncomputable abbrev rs : List ResultVar := [.tmp 4]
noncomputable def F0 (J2 : P2 → Option PO) (x1 : Int) (s1 : List Int) : Option PO :=
  J2 (x1, 0, s1, ())
noncomputable def F2 (J2 : P2 → Option PO) (t1 : Int) (t5 : Int) (s1 : List Int) : Option PO :=
  bif decide (t5 < (s1.length : Int)) then
    bif inb t5 s1.length then
      J2 (wI (t1 + 1), wI (t5 + 1), s1.set t5.toNat t1, ())
    else
      none
  else
    some (t1, s1, ())
noncomputable def hd {R : Type} : Hand R := handNil
noncomputable def pg (J2 : List Item → P2 → Option PO) : Prog PO := { nt := 19, np := 1, tb := tabOf tab, hd := hd, cuts := cutsOf [(2, cut p2 J2)], fin := endOf (tabOf tab) rs 1 pout }
noncomputable def q : FuncId → Bool := fun f => hasId [] f
theorem seg0 (J2 : List Item → P2 → Option PO) (x1 : Int) (s1 : List Int) : arun (pg J2) 5000 [.code c0] (mk pin (x1, s1, ())) = F0 (J2 T2) x1 s1 := by kernel_rfl
theorem seg2 (J2 : List Item → P2 → Option PO) (t1 : Int) (t5 : Int) (s1 : List Int) : arun1 (pg J2) 5000 T2 (mk p2 (t1, t5, s1, ())) = F2 (J2 T2) t1 t5 s1 := by kernel_rfl
noncomputable def L2 : P2 → Option PO := lfp fun J2 x => F2 J2 x.1 x.2.1 x.2.2.1
noncomputable def impl : PI → Option PO := fun x => F0 L2 x.1 x.2.1
theorem F2_le {J2 J2' : P2 → Option PO} (h2 : OLe J2 J2') (t1 : Int) (t5 : Int) (s1 : List Int) : OptLe (F2 J2 t1 t5 s1) (F2 J2' t1 t5 s1) := by unfold F2; exact .cond (.cond (.of h2 _) (.refl _)) (.refl _)
theorem L2_mono : OMono fun J2 (x : P2) => F2 J2 x.1 x.2.1 x.2.2.1 := fun J J' h2 x => F2_le h2 x.1 x.2.1 x.2.2.1
theorem L2_eq (t1 : Int) (t5 : Int) (s1 : List Int) : L2 (t1, t5, s1, ()) = F2 (L2) t1 t5 s1 := congrFun (lfp_eq (L2_mono)) _
theorem impl_eq (x1 : Int) (s1 : List Int) : impl (x1, s1, ()) = F0 L2 x1 s1 := rfl
theorem con : Con Tryd.prog 43 2 rs.length 1 pin pout impl := by
  refine con_of_run' (nt := 19) (c := c0) tabGood Tryd.func43 (by kernel_rfl) (by kernel_rfl) (by kernel_rfl) (by kernel_rfl) (by kernel_rfl) (by kernel_rfl) (by kernel_rfl) ?_
  intro w0 O y hnp
  generalize hPost : (fun (a' : Act) (w' : World) => ∃ μ' S' st', Rel 19 w0 O μ' S' st' a' w' ∧ endOf (tabOf tab) rs 1 pout st' = some y) = Post
  have fin : ∀ (μ : Id → Option Value) (S : Nat → Prop) (st : St) (a : Act) (w : World), Rel 19 w0 O μ S st a w → endOf (tabOf tab) rs 1 pout st = some y → Post a w := fun μ S st a w h he => by rw [← hPost]; exact ⟨μ, S, st, h, he⟩
  have hp : ∀ (J2 : List Item → P2 → Option PO), Parts Tryd.prog 43 (pg J2) [(2, cut p2 J2)] := fun J2 => ⟨tab_ok tabGood rfl, handNil_ok, rfl⟩
  have g2 : Good Tryd.prog 19 w0 O Post y T2 p2 L2 := good_lfp fun J2 h2 => good_part (hp (atT T2 J2)) (runOK_of (hp (atT T2 J2)) hnp ⟨cutOK_at h2, trivial⟩ fin) (fun x => (seg2 (atT T2 J2) x.1 x.2.1 x.2.2.1).trans (by simp only [atT_self] <;> rfl))
  exact good_first (hp (atT T2 L2)) (runOK_of (hp (atT T2 L2)) hnp ⟨cutOK_at g2, trivial⟩ fin) (fun x => (seg0 (atT T2 L2) x.1 x.2.1).trans (by simp only [atT_self] <;> rfl))
end laws_markIntS

/-! ### loop.example/wholecheck/laws.heldIntS -/
namespace laws_heldIntS
noncomputable abbrev c0 : Code := (Tryd.f44.body).getD .skip
noncomputable abbrev pin : Tpl := ⟨[⟨0, false, [.d (.sl (.int .i64))]⟩, ⟨1, false, [.d (.int .i64)]⟩], []⟩
noncomputable abbrev pout : Tpl := ⟨[⟨0, false, [.d (.int .i64)]⟩], []⟩
noncomputable abbrev p2 : Tpl := ⟨[⟨0, false, [.d (.sl (.int .i64))]⟩, ⟨1, false, [.d (.int .i64)]⟩, ⟨5, false, [.d (.int .i64)]⟩], []⟩
noncomputable def T2 : List Item := (find 2 c0 []).getD []
noncomputable abbrev PI := (List Int) × Int × Unit
noncomputable abbrev PO := Int × Unit
noncomputable abbrev P2 := (List Int) × Int × Int × Unit
noncomputable abbrev rs : List ResultVar := [.tmp 4]
noncomputable def F0 (J2 : P2 → Option PO) (x0 : List Int) (x1 : Int) : Option PO :=
  J2 (x0, x1, 0, ())
noncomputable def F2 (J2 : P2 → Option PO) (t0 : List Int) (t1 : Int) (t5 : Int) : Option PO :=
  bif decide (t5 < (t0.length : Int)) then
    bif inb t5 t0.length then
      bif t0.getD t5.toNat 0 != t1 then
        some ((-1), ())
      else
        J2 (t0, wI (t1 + 1), wI (t5 + 1), ())
    else
      none
  else
    some (t1, ())
noncomputable def hd {R : Type} : Hand R := handNil
noncomputable def pg (J2 : List Item → P2 → Option PO) : Prog PO := { nt := 21, np := 1, tb := tabOf tab, hd := hd, cuts := cutsOf [(2, cut p2 J2)], fin := endOf (tabOf tab) rs 1 pout }
noncomputable def q : FuncId → Bool := fun f => hasId [] f
theorem seg0 (J2 : List Item → P2 → Option PO) (x0 : List Int) (x1 : Int) : arun (pg J2) 5000 [.code c0] (mk pin (x0, x1, ())) = F0 (J2 T2) x0 x1 := by kernel_rfl
theorem seg2 (J2 : List Item → P2 → Option PO) (t0 : List Int) (t1 : Int) (t5 : Int) : arun1 (pg J2) 5000 T2 (mk p2 (t0, t1, t5, ())) = F2 (J2 T2) t0 t1 t5 := by kernel_rfl
noncomputable def L2 : P2 → Option PO := lfp fun J2 x => F2 J2 x.1 x.2.1 x.2.2.1
noncomputable def impl : PI → Option PO := fun x => F0 L2 x.1 x.2.1
theorem F2_le {J2 J2' : P2 → Option PO} (h2 : OLe J2 J2') (t0 : List Int) (t1 : Int) (t5 : Int) : OptLe (F2 J2 t0 t1 t5) (F2 J2' t0 t1 t5) := by unfold F2; exact .cond (.cond (.cond (.refl _) (.of h2 _)) (.refl _)) (.refl _)
theorem L2_mono : OMono fun J2 (x : P2) => F2 J2 x.1 x.2.1 x.2.2.1 := fun J J' h2 x => F2_le h2 x.1 x.2.1 x.2.2.1
theorem L2_eq (t0 : List Int) (t1 : Int) (t5 : Int) : L2 (t0, t1, t5, ()) = F2 (L2) t0 t1 t5 := congrFun (lfp_eq (L2_mono)) _
theorem impl_eq (x0 : List Int) (x1 : Int) : impl (x0, x1, ()) = F0 L2 x0 x1 := rfl
theorem con : Con Tryd.prog 44 2 rs.length 1 pin pout impl := by
  refine con_of_run' (nt := 21) (c := c0) tabGood Tryd.func44 (by kernel_rfl) (by kernel_rfl) (by kernel_rfl) (by kernel_rfl) (by kernel_rfl) (by kernel_rfl) (by kernel_rfl) ?_
  intro w0 O y hnp
  generalize hPost : (fun (a' : Act) (w' : World) => ∃ μ' S' st', Rel 21 w0 O μ' S' st' a' w' ∧ endOf (tabOf tab) rs 1 pout st' = some y) = Post
  have fin : ∀ (μ : Id → Option Value) (S : Nat → Prop) (st : St) (a : Act) (w : World), Rel 21 w0 O μ S st a w → endOf (tabOf tab) rs 1 pout st = some y → Post a w := fun μ S st a w h he => by rw [← hPost]; exact ⟨μ, S, st, h, he⟩
  have hp : ∀ (J2 : List Item → P2 → Option PO), Parts Tryd.prog 44 (pg J2) [(2, cut p2 J2)] := fun J2 => ⟨tab_ok tabGood rfl, handNil_ok, rfl⟩
  have g2 : Good Tryd.prog 21 w0 O Post y T2 p2 L2 := good_lfp fun J2 h2 => good_part (hp (atT T2 J2)) (runOK_of (hp (atT T2 J2)) hnp ⟨cutOK_at h2, trivial⟩ fin) (fun x => (seg2 (atT T2 J2) x.1 x.2.1 x.2.2.1).trans (by simp only [atT_self] <;> rfl))
  exact good_first (hp (atT T2 L2)) (runOK_of (hp (atT T2 L2)) hnp ⟨cutOK_at g2, trivial⟩ fin) (fun x => (seg0 (atT T2 L2) x.1 x.2.1).trans (by simp only [atT_self] <;> rfl))
end laws_heldIntS

/-! ### loop.example/wholecheck/laws.FnExactReadList -/
namespace laws_FnExactReadList
noncomputable abbrev c0 : Code := (Tryd.f9.body).getD .skip
noncomputable abbrev pin : Tpl := ⟨[⟨0, false, [.d .str]⟩], []⟩
noncomputable abbrev pout : Tpl := ⟨[⟨0, false, [.d .bool]⟩], []⟩
noncomputable abbrev p7 : Tpl := ⟨[⟨0, false, [.d .str]⟩, ⟨3, false, [.row 3000000]⟩, ⟨4, false, [.d .bool]⟩, ⟨5, false, [.row 3000001]⟩], [(3000000, .row 3 false (.int .i64)), (3000001, .row 3 false (.int .i64))]⟩
noncomputable def T7 : List Item := (find 7 c0 []).getD []
noncomputable abbrev p18 : Tpl := ⟨[⟨5, false, [.row 3000000]⟩, ⟨7, false, [.d (.int .i64)]⟩], [(3000000, .row 3 false (.int .i64))]⟩
noncomputable def T18 : List Item := (find 18 c0 []).getD []
noncomputable abbrev PI := (List UInt8) × Unit
noncomputable abbrev PO := Bool × Unit
noncomputable abbrev P7 := (List UInt8) × Bool × (List Int) × (List Int) × Unit
noncomputable abbrev P18 := Int × (List Int) × Unit
noncomputable abbrev rs : List ResultVar := [.tmp 2]
noncomputable def F0 (J7 : P7 → Option PO) (Gimpl_ReadList : impl_ReadList.PI → Option impl_ReadList.PO) (Glaws_eqIntS : laws_eqIntS.PI → Option laws_eqIntS.PO) (Gspec_ReadList : spec_ReadList.PI → Option spec_ReadList.PO) (x0 : List UInt8) : Option PO :=
  bif decide ((x0.length : Int) > 1048576) then
    some (true, ())
  else
    Option.bind (Gspec_ReadList (x0, ())) fun y0 =>
    Option.bind (Gimpl_ReadList (x0, ())) fun y1 =>
    Option.bind (Glaws_eqIntS (y1.2.1, y0.2.1, ())) fun y2 =>
    bif !y2.1 then
      some (false, ())
    else
      bif !(y1.1 == y0.1) then
        some (false, ())
      else
        J7 (x0, y0.1, y0.2.1, y1.2.1, ())
noncomputable def F7 (J18 : P18 → Option PO) (Gimpl_ReadList : impl_ReadList.PI → Option impl_ReadList.PO) (Glaws_eqIntS : laws_eqIntS.PI → Option laws_eqIntS.PO) (Glaws_heldIntS : laws_heldIntS.PI → Option laws_heldIntS.PO) (Glaws_markIntS : laws_markIntS.PI → Option laws_markIntS.PO) (t0 : List UInt8) (t4 : Bool) (r0 : List Int) (r1 : List Int) : Option PO :=
  Option.bind (Glaws_markIntS (1, r1, ())) fun y3 =>
  Option.bind (Glaws_heldIntS (y3.2.1, 1, ())) fun y4 =>
  bif decide (y4.1 < 0) then
    some (false, ())
  else
    bif y4.1 != y3.1 then
      some (false, ())
    else
      Option.bind (Gimpl_ReadList (t0, ())) fun y5 =>
      Option.bind (Glaws_eqIntS (y5.2.1, r0, ())) fun y6 =>
      bif !y6.1 then
        some (false, ())
      else
        bif !(y5.1 == t4) then
          some (false, ())
        else
          J18 (y3.1, y3.2.1, ())
noncomputable def F18 (Glaws_heldIntS : laws_heldIntS.PI → Option laws_heldIntS.PO) (t7 : Int) (r0 : List Int) : Option PO :=
  Option.bind (Glaws_heldIntS (r0, 1, ())) fun y7 =>
  bif decide (y7.1 < 0) then
    some (false, ())
  else
    bif y7.1 != t7 then
      some (false, ())
    else
      some (true, ())
noncomputable def hd {R : Type} (Gimpl_ReadList : impl_ReadList.PI → Option impl_ReadList.PO) (Glaws_eqIntS : laws_eqIntS.PI → Option laws_eqIntS.PO) (Glaws_heldIntS : laws_heldIntS.PI → Option laws_heldIntS.PO) (Glaws_markIntS : laws_markIntS.PI → Option laws_markIntS.PO) (Gspec_ReadList : spec_ReadList.PI → Option spec_ReadList.PO) : Hand R := (handAt 44 [38, 60] true ⟨2, 1, 1, laws_heldIntS.pin, laws_heldIntS.pout, Glaws_heldIntS⟩ (handAt 43 [35] true ⟨2, 1, 1, laws_markIntS.pin, laws_markIntS.pout, Glaws_markIntS⟩ (handAt 42 [21, 46] true ⟨1, 2, 1, impl_ReadList.pin, impl_ReadList.pout, Gimpl_ReadList⟩ (handAt 41 [16] true ⟨1, 2, 1, spec_ReadList.pin, spec_ReadList.pout, Gspec_ReadList⟩ (handAt 30 [26, 51] true ⟨2, 1, 2, laws_eqIntS.pin, laws_eqIntS.pout, Glaws_eqIntS⟩ handNil)))))
noncomputable def pg (Gimpl_ReadList : impl_ReadList.PI → Option impl_ReadList.PO) (Glaws_eqIntS : laws_eqIntS.PI → Option laws_eqIntS.PO) (Glaws_heldIntS : laws_heldIntS.PI → Option laws_heldIntS.PO) (Glaws_markIntS : laws_markIntS.PI → Option laws_markIntS.PO) (Gspec_ReadList : spec_ReadList.PI → Option spec_ReadList.PO) (J7 : List Item → P7 → Option PO) (J18 : List Item → P18 → Option PO) : Prog PO := { nt := 66, np := 1, tb := tabOf tab, hd := hd Gimpl_ReadList Glaws_eqIntS Glaws_heldIntS Glaws_markIntS Gspec_ReadList, cuts := cutsOf [(7, cut p7 J7), (18, cut p18 J18)], fin := endOf (tabOf tab) rs 1 pout }
noncomputable def q : FuncId → Bool := fun f => hasId [30, 44] f
theorem seg0 (Gimpl_ReadList : impl_ReadList.PI → Option impl_ReadList.PO) (Glaws_eqIntS : laws_eqIntS.PI → Option laws_eqIntS.PO) (Glaws_heldIntS : laws_heldIntS.PI → Option laws_heldIntS.PO) (Glaws_markIntS : laws_markIntS.PI → Option laws_markIntS.PO) (Gspec_ReadList : spec_ReadList.PI → Option spec_ReadList.PO) (J7 : List Item → P7 → Option PO) (J18 : List Item → P18 → Option PO) (x0 : List UInt8) : arun (pg Gimpl_ReadList Glaws_eqIntS Glaws_heldIntS Glaws_markIntS Gspec_ReadList J7 J18) 5000 [.code c0] (mk pin (x0, ())) = F0 (J7 T7) Gimpl_ReadList Glaws_eqIntS Gspec_ReadList x0 := by kernel_rfl
theorem seg7 (Gimpl_ReadList : impl_ReadList.PI → Option impl_ReadList.PO) (Glaws_eqIntS : laws_eqIntS.PI → Option laws_eqIntS.PO) (Glaws_heldIntS : laws_heldIntS.PI → Option laws_heldIntS.PO) (Glaws_markIntS : laws_markIntS.PI → Option laws_markIntS.PO) (Gspec_ReadList : spec_ReadList.PI → Option spec_ReadList.PO) (J7 : List Item → P7 → Option PO) (J18 : List Item → P18 → Option PO) (t0 : List UInt8) (t4 : Bool) (r0 : List Int) (r1 : List Int) : arun1 (pg Gimpl_ReadList Glaws_eqIntS Glaws_heldIntS Glaws_markIntS Gspec_ReadList J7 J18) 5000 T7 (mk p7 (t0, t4, r0, r1, ())) = F7 (J18 T18) Gimpl_ReadList Glaws_eqIntS Glaws_heldIntS Glaws_markIntS t0 t4 r0 r1 := by kernel_rfl
theorem seg18 (Gimpl_ReadList : impl_ReadList.PI → Option impl_ReadList.PO) (Glaws_eqIntS : laws_eqIntS.PI → Option laws_eqIntS.PO) (Glaws_heldIntS : laws_heldIntS.PI → Option laws_heldIntS.PO) (Glaws_markIntS : laws_markIntS.PI → Option laws_markIntS.PO) (Gspec_ReadList : spec_ReadList.PI → Option spec_ReadList.PO) (J7 : List Item → P7 → Option PO) (J18 : List Item → P18 → Option PO) (t7 : Int) (r0 : List Int) : arun1 (pg Gimpl_ReadList Glaws_eqIntS Glaws_heldIntS Glaws_markIntS Gspec_ReadList J7 J18) 5000 T18 (mk p18 (t7, r0, ())) = F18 Glaws_heldIntS t7 r0 := by kernel_rfl
noncomputable def L18 : P18 → Option PO := fun x => F18 laws_heldIntS.impl x.1 x.2.1
noncomputable def L7 : P7 → Option PO := fun x => F7 L18 impl_ReadList.impl laws_eqIntS.impl laws_heldIntS.impl laws_markIntS.impl x.1 x.2.1 x.2.2.1 x.2.2.2.1
noncomputable def impl : PI → Option PO := fun x => F0 L7 impl_ReadList.impl laws_eqIntS.impl spec_ReadList.impl x.1
theorem L18_eq (t7 : Int) (r0 : List Int) : L18 (t7, r0, ()) = F18 laws_heldIntS.impl t7 r0 := rfl
theorem L7_eq (t0 : List UInt8) (t4 : Bool) (r0 : List Int) (r1 : List Int) : L7 (t0, t4, r0, r1, ()) = F7 (L18) impl_ReadList.impl laws_eqIntS.impl laws_heldIntS.impl laws_markIntS.impl t0 t4 r0 r1 := rfl
theorem impl_eq (x0 : List UInt8) : impl (x0, ()) = F0 L7 impl_ReadList.impl laws_eqIntS.impl spec_ReadList.impl x0 := rfl
theorem con : Con Tryd.prog 9 1 rs.length 1 pin pout impl := by
  refine con_of_run' (nt := 66) (c := c0) tabGood Tryd.func9 (by kernel_rfl) (by kernel_rfl) (by kernel_rfl) (by kernel_rfl) (by kernel_rfl) (by kernel_rfl) (by kernel_rfl) ?_
  intro w0 O y hnp
  generalize hPost : (fun (a' : Act) (w' : World) => ∃ μ' S' st', Rel 66 w0 O μ' S' st' a' w' ∧ endOf (tabOf tab) rs 1 pout st' = some y) = Post
  have fin : ∀ (μ : Id → Option Value) (S : Nat → Prop) (st : St) (a : Act) (w : World), Rel 66 w0 O μ S st a w → endOf (tabOf tab) rs 1 pout st = some y → Post a w := fun μ S st a w h he => by rw [← hPost]; exact ⟨μ, S, st, h, he⟩
  have hp : ∀ (J7 : List Item → P7 → Option PO), ∀ (J18 : List Item → P18 → Option PO), Parts Tryd.prog 9 (pg impl_ReadList.impl laws_eqIntS.impl laws_heldIntS.impl laws_markIntS.impl spec_ReadList.impl J7 J18) [(7, cut p7 J7), (18, cut p18 J18)] := fun J7 J18 => ⟨tab_ok tabGood rfl, (handAt_ok laws_heldIntS.con (handAt_ok laws_markIntS.con (handAt_ok impl_ReadList.con (handAt_ok spec_ReadList.con (handAt_ok laws_eqIntS.con handNil_ok))))), rfl⟩
  have g18 : Good Tryd.prog 66 w0 O Post y T18 p18 L18 := good_part (hp (atT T7 (fun _ => none)) (atT T18 (fun _ => none))) (runOK_of (hp (atT T7 (fun _ => none)) (atT T18 (fun _ => none))) hnp ⟨cutOK_at (p := p7) (T := T7) (J := fun _ => none) good_none, cutOK_at (p := p18) (T := T18) (J := fun _ => none) good_none, trivial⟩ fin) (fun x => (seg18 impl_ReadList.impl laws_eqIntS.impl laws_heldIntS.impl laws_markIntS.impl spec_ReadList.impl (atT T7 (fun _ => none)) (atT T18 (fun _ => none)) x.1 x.2.1))
  have g7 : Good Tryd.prog 66 w0 O Post y T7 p7 L7 := good_part (hp (atT T7 (fun _ => none)) (atT T18 L18)) (runOK_of (hp (atT T7 (fun _ => none)) (atT T18 L18)) hnp ⟨cutOK_at (p := p7) (T := T7) (J := fun _ => none) good_none, cutOK_at g18, trivial⟩ fin) (fun x => (seg7 impl_ReadList.impl laws_eqIntS.impl laws_heldIntS.impl laws_markIntS.impl spec_ReadList.impl (atT T7 (fun _ => none)) (atT T18 L18) x.1 x.2.1 x.2.2.1 x.2.2.2.1).trans (by simp only [atT_self] <;> rfl))
  exact good_first (hp (atT T7 L7) (atT T18 (fun _ => none))) (runOK_of (hp (atT T7 L7) (atT T18 (fun _ => none))) hnp ⟨cutOK_at g7, cutOK_at (p := p18) (T := T18) (J := fun _ => none) good_none, trivial⟩ fin) (fun x => (seg0 impl_ReadList.impl laws_eqIntS.impl laws_heldIntS.impl laws_markIntS.impl spec_ReadList.impl (atT T7 L7) (atT T18 (fun _ => none)) x.1).trans (by simp only [atT_self] <;> rfl))
end laws_FnExactReadList
end Go.Proofs.YtambmmpilakgoaaDoorB
