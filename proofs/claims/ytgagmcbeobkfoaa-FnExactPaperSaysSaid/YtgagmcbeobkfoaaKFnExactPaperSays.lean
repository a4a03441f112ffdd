/- PRINTED BY A PROGRAM OF THIS CLAIM'S AUTHOR (wip/gen): functions of the given program, their parts, their contracts. -/
import Derived.Test.YtgagmcbeobkfoaaB27
import Derived.Test.YtgagmcbeobkfoaaChecked
set_option linter.unusedVariables false
set_option maxRecDepth 100000
namespace Go.Proofs.YtgagmcbeobkfoaaB
open Go
abbrev wI (x : Int) : Int := IntKind.i64.wrap x
def tab : Tab := [(3, { kind := .scalar, zero := [.d (.int .i64) (0 : Int)], bytes := 8, data := some (.int .i64), eqf := none }),
  (24, { kind := .slice 3, zero := [.nilS], bytes := 24, data := some (.sl (.int .i64)), eqf := none }),
  (25, { kind := .slice 24, zero := [.nilS], bytes := 24, data := some (.sl (.sl (.int .i64))), eqf := none }),
  (27, { kind := .struct [(0, 1), (1, 1)], zero := [.nilS, .nilS], bytes := 48, data := some (.prod (.sl (.sl (.int .i64))) (.last (.sl (.int .i64)))), eqf := none }),
  (29, { kind := .struct [(0, 1), (1, 1), (2, 1), (3, 2)], zero := [.d (.int .i64) (0 : Int), .nilS, .d (.int .i64) (0 : Int), .nilS, .nilS], bytes := 88, data := some (.prod (.int .i64) (.prod (.sl (.int .i64)) (.prod (.int .i64) (.last (.prod (.sl (.sl (.int .i64))) (.last (.sl (.int .i64)))))))), eqf := none }),
  (32, { kind := .struct [(0, 1), (1, 1)], zero := [.nilS, .nilS], bytes := 48, data := some (.prod (.sl (.sl (.int .i64))) (.last (.sl (.int .i64)))), eqf := none }),
  (34, { kind := .struct [(0, 1), (1, 1), (2, 1), (3, 2)], zero := [.d (.int .i64) (0 : Int), .nilS, .d (.int .i64) (0 : Int), .nilS, .nilS], bytes := 88, data := some (.prod (.int .i64) (.prod (.sl (.int .i64)) (.prod (.int .i64) (.last (.prod (.sl (.sl (.int .i64))) (.last (.sl (.int .i64)))))))), eqf := none })]
theorem tabGood : tabB Try.prog tab = true := by kernel_rfl

/-! ### loop.example/wholecheck/laws.szIntS -/
namespace laws_szIntS
noncomputable abbrev c0 : Code := (Try.f39.body).getD .skip
noncomputable abbrev pin : Tpl := ⟨[⟨0, false, [.d (.sl (.int .i64))]⟩, ⟨1, false, [.d (.int .i64)]⟩], []⟩
noncomputable abbrev pout : Tpl := ⟨[⟨0, false, [.d (.int .i64)]⟩], []⟩
noncomputable abbrev rs : List ResultVar := [.tmp 4]
noncomputable def F0 (x0 : List Int) (x1 : Int) : Option pout.T :=
  bif decide (wI (x1 - (x0.length : Int)) < 0) then
    some ((-1), ())
  else
    some (wI (x1 - (x0.length : Int)), ())
noncomputable def hd {R : Type} : Hand R := handNil
noncomputable def pg : Prog pout.T := { nt := 12, np := 1, tb := tabOf tab, hd := hd, cuts := cutsOf [], fin := endOf (tabOf tab) rs 1 pout }
theorem seg0 (x0 : List Int) (x1 : Int) : arun (pg) 5000 [.code c0] (mk pin (x0, x1, ())) = F0 x0 x1 := by kernel_rfl
noncomputable def impl : pin.T → Option pout.T := fun x => F0 x.1 x.2.1
theorem con : Con Try.prog 39 2 rs.length 1 pin pout impl := by
  refine con_of_run' (nt := 12) (c := c0) tabGood Try.func39 (by kernel_rfl) (by kernel_rfl) (by kernel_rfl) (by kernel_rfl) (by kernel_rfl) (by kernel_rfl) (by kernel_rfl) ?_
  intro w0 O y hnp
  generalize hPost : (fun (a' : Act) (w' : World) => ∃ μ' S' st', Rel 12 w0 O μ' S' st' a' w' ∧ endOf (tabOf tab) rs 1 pout st' = some y) = Post
  have fin : ∀ (μ : Id → Option Value) (S : Nat → Prop) (st : St) (a : Act) (w : World), Rel 12 w0 O μ S st a w → endOf (tabOf tab) rs 1 pout st = some y → Post a w := fun μ S st a w h he => by rw [← hPost]; exact ⟨μ, S, st, h, he⟩
  have hp : Parts Try.prog 39 (pg) [] := ⟨tab_ok tabGood rfl, handNil_ok, rfl⟩
  exact good_first (hp) (runOK_of (hp) hnp trivial fin) (fun x => (seg0 x.1 x.2.1))
end laws_szIntS

/-! ### loop.example/wholecheck/laws.szIntSS -/
namespace laws_szIntSS
noncomputable abbrev c0 : Code := (Try.f68.body).getD .skip
noncomputable abbrev pin : Tpl := ⟨[⟨0, false, [.d (.sl (.sl (.int .i64)))]⟩, ⟨1, false, [.d (.int .i64)]⟩], []⟩
noncomputable abbrev pout : Tpl := ⟨[⟨0, false, [.d (.int .i64)]⟩], []⟩
noncomputable abbrev p5 : Tpl := ⟨[⟨0, false, [.d (.sl (.sl (.int .i64)))]⟩, ⟨1, false, [.d (.int .i64)]⟩, ⟨5, false, [.d (.int .i64)]⟩], []⟩
noncomputable def T5 : List Item := (find 5 c0 []).getD []
noncomputable abbrev rs : List ResultVar := [.tmp 4]
noncomputable def F0 (J5 : p5.T → Option pout.T) (x0 : List (List Int)) (x1 : Int) : Option pout.T :=
  bif decide (wI (x1 - (x0.length : Int)) < 0) then
    some ((-1), ())
  else
    J5 (x0, wI (x1 - (x0.length : Int)), 0, ())
noncomputable def F5 (J5 : p5.T → Option pout.T) (Glaws_szIntS : laws_szIntS.pin.T → Option laws_szIntS.pout.T) (t0 : List (List Int)) (t1 : Int) (t5 : Int) : Option pout.T :=
  bif decide (t5 < (t0.length : Int)) then
    bif inb t5 t0.length then
      Option.bind (Glaws_szIntS (t0.getD t5.toNat [], t1, ())) fun y0 =>
      bif decide (y0.1 < 0) then
        some ((-1), ())
      else
        J5 (t0, y0.1, wI (t5 + 1), ())
    else
      none
  else
    some (t1, ())
noncomputable def hd {R : Type} (Glaws_szIntS : laws_szIntS.pin.T → Option laws_szIntS.pout.T) : Hand R := (handAt 39 [23] true ⟨2, 1, 1, laws_szIntS.pin, laws_szIntS.pout, Glaws_szIntS⟩ handNil)
noncomputable def pg (Glaws_szIntS : laws_szIntS.pin.T → Option laws_szIntS.pout.T) (J5 : List Item → p5.T → Option pout.T) : Prog pout.T := { nt := 27, np := 1, tb := tabOf tab, hd := hd Glaws_szIntS, cuts := cutsOf [(5, cut p5 J5)], fin := endOf (tabOf tab) rs 1 pout }
theorem seg0 (Glaws_szIntS : laws_szIntS.pin.T → Option laws_szIntS.pout.T) (J5 : List Item → p5.T → Option pout.T) (x0 : List (List Int)) (x1 : Int) : arun (pg Glaws_szIntS J5) 5000 [.code c0] (mk pin (x0, x1, ())) = F0 (J5 T5) x0 x1 := by kernel_rfl
theorem seg5 (Glaws_szIntS : laws_szIntS.pin.T → Option laws_szIntS.pout.T) (J5 : List Item → p5.T → Option pout.T) (t0 : List (List Int)) (t1 : Int) (t5 : Int) : arun1 (pg Glaws_szIntS J5) 5000 T5 (mk p5 (t0, t1, t5, ())) = F5 (J5 T5) Glaws_szIntS t0 t1 t5 := by kernel_rfl
noncomputable def L5 : p5.T → Option pout.T := lfp fun J5 x => F5 J5 laws_szIntS.impl x.1 x.2.1 x.2.2.1
noncomputable def impl : pin.T → Option pout.T := fun x => F0 L5 x.1 x.2.1
theorem con : Con Try.prog 68 2 rs.length 1 pin pout impl := by
  refine con_of_run' (nt := 27) (c := c0) tabGood Try.func68 (by kernel_rfl) (by kernel_rfl) (by kernel_rfl) (by kernel_rfl) (by kernel_rfl) (by kernel_rfl) (by kernel_rfl) ?_
  intro w0 O y hnp
  generalize hPost : (fun (a' : Act) (w' : World) => ∃ μ' S' st', Rel 27 w0 O μ' S' st' a' w' ∧ endOf (tabOf tab) rs 1 pout st' = some y) = Post
  have fin : ∀ (μ : Id → Option Value) (S : Nat → Prop) (st : St) (a : Act) (w : World), Rel 27 w0 O μ S st a w → endOf (tabOf tab) rs 1 pout st = some y → Post a w := fun μ S st a w h he => by rw [← hPost]; exact ⟨μ, S, st, h, he⟩
  have hp : ∀ (J5 : List Item → p5.T → Option pout.T), Parts Try.prog 68 (pg laws_szIntS.impl J5) [(5, cut p5 J5)] := fun J5 => ⟨tab_ok tabGood rfl, (handAt_ok laws_szIntS.con handNil_ok), rfl⟩
  have g5 : Good Try.prog 27 w0 O Post y T5 p5 L5 := good_lfp fun J5 h5 => good_part (hp (atT T5 J5)) (runOK_of (hp (atT T5 J5)) hnp ⟨cutOK_at h5, trivial⟩ fin) (fun x => (seg5 laws_szIntS.impl (atT T5 J5) x.1 x.2.1 x.2.2.1).trans (by simp only [atT_self] <;> rfl))
  exact good_first (hp (atT T5 L5)) (runOK_of (hp (atT T5 L5)) hnp ⟨cutOK_at g5, trivial⟩ fin) (fun x => (seg0 laws_szIntS.impl (atT T5 L5) x.1 x.2.1).trans (by simp only [atT_self] <;> rfl))
end laws_szIntSS

/-! ### loop.example/wholecheck/laws.szTrace -/
namespace laws_szTrace
noncomputable abbrev c0 : Code := (Try.f40.body).getD .skip
noncomputable abbrev pin : Tpl := ⟨[⟨0, true, [.d (.prod (.sl (.sl (.int .i64))) (.last (.sl (.int .i64))))]⟩, ⟨1, false, [.d (.int .i64)]⟩], []⟩
noncomputable abbrev pout : Tpl := ⟨[⟨0, false, [.d (.int .i64)]⟩], []⟩
noncomputable abbrev rs : List ResultVar := [.tmp 4]
noncomputable def F0 (Glaws_szIntS : laws_szIntS.pin.T → Option laws_szIntS.pout.T) (Glaws_szIntSS : laws_szIntSS.pin.T → Option laws_szIntSS.pout.T) (x0 : (List (List Int)) × List Int) (x1 : Int) : Option pout.T :=
  Option.bind (Glaws_szIntSS (x0.1, x1, ())) fun y0 =>
  bif decide (y0.1 < 0) then
    some ((-1), ())
  else
    Option.bind (Glaws_szIntS (x0.2, y0.1, ())) fun y1 =>
    bif decide (y1.1 < 0) then
      some ((-1), ())
    else
      some (y1.1, ())
noncomputable def hd {R : Type} (Glaws_szIntS : laws_szIntS.pin.T → Option laws_szIntS.pout.T) (Glaws_szIntSS : laws_szIntSS.pin.T → Option laws_szIntSS.pout.T) : Hand R := (handAt 68 [8] true ⟨2, 1, 1, laws_szIntSS.pin, laws_szIntSS.pout, Glaws_szIntSS⟩ (handAt 39 [14] true ⟨2, 1, 1, laws_szIntS.pin, laws_szIntS.pout, Glaws_szIntS⟩ handNil))
noncomputable def pg (Glaws_szIntS : laws_szIntS.pin.T → Option laws_szIntS.pout.T) (Glaws_szIntSS : laws_szIntSS.pin.T → Option laws_szIntSS.pout.T) : Prog pout.T := { nt := 18, np := 1, tb := tabOf tab, hd := hd Glaws_szIntS Glaws_szIntSS, cuts := cutsOf [], fin := endOf (tabOf tab) rs 1 pout }
theorem seg0 (Glaws_szIntS : laws_szIntS.pin.T → Option laws_szIntS.pout.T) (Glaws_szIntSS : laws_szIntSS.pin.T → Option laws_szIntSS.pout.T) (x0 : (List (List Int)) × List Int) (x1 : Int) : arun (pg Glaws_szIntS Glaws_szIntSS) 5000 [.code c0] (mk pin (x0, x1, ())) = F0 Glaws_szIntS Glaws_szIntSS x0 x1 := by kernel_rfl
noncomputable def impl : pin.T → Option pout.T := fun x => F0 laws_szIntS.impl laws_szIntSS.impl x.1 x.2.1
theorem con : Con Try.prog 40 2 rs.length 1 pin pout impl := by
  refine con_of_run' (nt := 18) (c := c0) tabGood Try.func40 (by kernel_rfl) (by kernel_rfl) (by kernel_rfl) (by kernel_rfl) (by kernel_rfl) (by kernel_rfl) (by kernel_rfl) ?_
  intro w0 O y hnp
  generalize hPost : (fun (a' : Act) (w' : World) => ∃ μ' S' st', Rel 18 w0 O μ' S' st' a' w' ∧ endOf (tabOf tab) rs 1 pout st' = some y) = Post
  have fin : ∀ (μ : Id → Option Value) (S : Nat → Prop) (st : St) (a : Act) (w : World), Rel 18 w0 O μ S st a w → endOf (tabOf tab) rs 1 pout st = some y → Post a w := fun μ S st a w h he => by rw [← hPost]; exact ⟨μ, S, st, h, he⟩
  have hp : Parts Try.prog 40 (pg laws_szIntS.impl laws_szIntSS.impl) [] := ⟨tab_ok tabGood rfl, (handAt_ok laws_szIntSS.con (handAt_ok laws_szIntS.con handNil_ok)), rfl⟩
  exact good_first (hp) (runOK_of (hp) hnp trivial fin) (fun x => (seg0 laws_szIntS.impl laws_szIntSS.impl x.1 x.2.1))
end laws_szTrace

/-! ### loop.example/wholecheck/laws.szPaper -/
namespace laws_szPaper
noncomputable abbrev c0 : Code := (Try.f10.body).getD .skip
noncomputable abbrev pin : Tpl := ⟨[⟨0, true, [.d (.prod (.int .i64) (.prod (.sl (.int .i64)) (.prod (.int .i64) (.last (.prod (.sl (.sl (.int .i64))) (.last (.sl (.int .i64))))))))]⟩, ⟨1, false, [.d (.int .i64)]⟩], []⟩
noncomputable abbrev pout : Tpl := ⟨[⟨0, false, [.d (.int .i64)]⟩], []⟩
noncomputable abbrev rs : List ResultVar := [.tmp 4]
noncomputable def F0 (Glaws_szIntS : laws_szIntS.pin.T → Option laws_szIntS.pout.T) (Glaws_szTrace : laws_szTrace.pin.T → Option laws_szTrace.pout.T) (x0 : Int × (List Int) × Int × (List (List Int)) × List Int) (x1 : Int) : Option pout.T :=
  Option.bind (Glaws_szIntS (x0.2.1, x1, ())) fun y0 =>
  bif decide (y0.1 < 0) then
    some ((-1), ())
  else
    Option.bind (Glaws_szTrace (x0.2.2.2, y0.1, ())) fun y1 =>
    bif decide (y1.1 < 0) then
      some ((-1), ())
    else
      some (y1.1, ())
noncomputable def hd {R : Type} (Glaws_szIntS : laws_szIntS.pin.T → Option laws_szIntS.pout.T) (Glaws_szTrace : laws_szTrace.pin.T → Option laws_szTrace.pout.T) : Hand R := (handAt 40 [14] true ⟨2, 1, 1, laws_szTrace.pin, laws_szTrace.pout, Glaws_szTrace⟩ (handAt 39 [8] true ⟨2, 1, 1, laws_szIntS.pin, laws_szIntS.pout, Glaws_szIntS⟩ handNil))
noncomputable def pg (Glaws_szIntS : laws_szIntS.pin.T → Option laws_szIntS.pout.T) (Glaws_szTrace : laws_szTrace.pin.T → Option laws_szTrace.pout.T) : Prog pout.T := { nt := 18, np := 1, tb := tabOf tab, hd := hd Glaws_szIntS Glaws_szTrace, cuts := cutsOf [], fin := endOf (tabOf tab) rs 1 pout }
theorem seg0 (Glaws_szIntS : laws_szIntS.pin.T → Option laws_szIntS.pout.T) (Glaws_szTrace : laws_szTrace.pin.T → Option laws_szTrace.pout.T) (x0 : Int × (List Int) × Int × (List (List Int)) × List Int) (x1 : Int) : arun (pg Glaws_szIntS Glaws_szTrace) 5000 [.code c0] (mk pin (x0, x1, ())) = F0 Glaws_szIntS Glaws_szTrace x0 x1 := by kernel_rfl
noncomputable def impl : pin.T → Option pout.T := fun x => F0 laws_szIntS.impl laws_szTrace.impl x.1 x.2.1
theorem con : Con Try.prog 10 2 rs.length 1 pin pout impl := by
  refine con_of_run' (nt := 18) (c := c0) tabGood Try.func10 (by kernel_rfl) (by kernel_rfl) (by kernel_rfl) (by kernel_rfl) (by kernel_rfl) (by kernel_rfl) (by kernel_rfl) ?_
  intro w0 O y hnp
  generalize hPost : (fun (a' : Act) (w' : World) => ∃ μ' S' st', Rel 18 w0 O μ' S' st' a' w' ∧ endOf (tabOf tab) rs 1 pout st' = some y) = Post
  have fin : ∀ (μ : Id → Option Value) (S : Nat → Prop) (st : St) (a : Act) (w : World), Rel 18 w0 O μ S st a w → endOf (tabOf tab) rs 1 pout st = some y → Post a w := fun μ S st a w h he => by rw [← hPost]; exact ⟨μ, S, st, h, he⟩
  have hp : Parts Try.prog 10 (pg laws_szIntS.impl laws_szTrace.impl) [] := ⟨tab_ok tabGood rfl, (handAt_ok laws_szTrace.con (handAt_ok laws_szIntS.con handNil_ok)), rfl⟩
  exact good_first (hp) (runOK_of (hp) hnp trivial fin) (fun x => (seg0 laws_szIntS.impl laws_szTrace.impl x.1 x.2.1))
end laws_szPaper

/-! ### loop.example/wholecheck/laws.toIntS -/
namespace laws_toIntS
noncomputable abbrev c0 : Code := (Try.f41.body).getD .skip
noncomputable abbrev pin : Tpl := ⟨[⟨0, false, [.d (.sl (.int .i64))]⟩], []⟩
noncomputable abbrev pout : Tpl := ⟨[⟨0, false, [.row 200]⟩], [(200, .row 3 false (.int .i64))]⟩
noncomputable abbrev p3 : Tpl := ⟨[⟨0, false, [.d (.sl (.int .i64))]⟩, ⟨3, false, [.row 3000000]⟩, ⟨4, false, [.d (.int .i64)]⟩], [(3000000, .row 3 false (.int .i64))]⟩
noncomputable def T3 : List Item := (find 3 c0 []).getD []
noncomputable abbrev rs : List ResultVar := [.tmp 2]
noncomputable def F0 (J3 : p3.T → Option pout.T) (x0 : List Int) : Option pout.T :=
  bif decide (0 ≤ (x0.length : Int)) && decide ((x0.length : Int) ≤ (x0.length : Int)) && decide ((x0.length : Int) * 8 ≤ 140737488355328) then
    J3 (x0, 0, List.replicate (x0.length : Int).toNat 0, ())
  else
    none
noncomputable def F3 (J3 : p3.T → Option pout.T) (t0 : List Int) (t4 : Int) (r0 : List Int) : Option pout.T :=
  bif decide (t4 < (t0.length : Int)) then
    bif inb t4 t0.length then
      bif inb t4 r0.length then
        J3 (t0, wI (t4 + 1), r0.set t4.toNat (t0.getD t4.toNat 0), ())
      else
        none
    else
      none
  else
    some (r0, ())
noncomputable def hd {R : Type} : Hand R := handNil
noncomputable def pg (J3 : List Item → p3.T → Option pout.T) : Prog pout.T := { nt := 22, np := 1, tb := tabOf tab, hd := hd, cuts := cutsOf [(3, cut p3 J3)], fin := endOf (tabOf tab) rs 1 pout }
theorem seg0 (J3 : List Item → p3.T → Option pout.T) (x0 : List Int) : arun (pg J3) 5000 [.code c0] (mk pin (x0, ())) = F0 (J3 T3) x0 := by kernel_rfl
theorem seg3 (J3 : List Item → p3.T → Option pout.T) (t0 : List Int) (t4 : Int) (r0 : List Int) : arun1 (pg J3) 5000 T3 (mk p3 (t0, t4, r0, ())) = F3 (J3 T3) t0 t4 r0 := by kernel_rfl
noncomputable def L3 : p3.T → Option pout.T := lfp fun J3 x => F3 J3 x.1 x.2.1 x.2.2.1
noncomputable def impl : pin.T → Option pout.T := fun x => F0 L3 x.1
theorem con : Con Try.prog 41 1 rs.length 1 pin pout impl := by
  refine con_of_run' (nt := 22) (c := c0) tabGood Try.func41 (by kernel_rfl) (by kernel_rfl) (by kernel_rfl) (by kernel_rfl) (by kernel_rfl) (by kernel_rfl) (by kernel_rfl) ?_
  intro w0 O y hnp
  generalize hPost : (fun (a' : Act) (w' : World) => ∃ μ' S' st', Rel 22 w0 O μ' S' st' a' w' ∧ endOf (tabOf tab) rs 1 pout st' = some y) = Post
  have fin : ∀ (μ : Id → Option Value) (S : Nat → Prop) (st : St) (a : Act) (w : World), Rel 22 w0 O μ S st a w → endOf (tabOf tab) rs 1 pout st = some y → Post a w := fun μ S st a w h he => by rw [← hPost]; exact ⟨μ, S, st, h, he⟩
  have hp : ∀ (J3 : List Item → p3.T → Option pout.T), Parts Try.prog 41 (pg J3) [(3, cut p3 J3)] := fun J3 => ⟨tab_ok tabGood rfl, handNil_ok, rfl⟩
  have g3 : Good Try.prog 22 w0 O Post y T3 p3 L3 := good_lfp fun J3 h3 => good_part (hp (atT T3 J3)) (runOK_of (hp (atT T3 J3)) hnp ⟨cutOK_at h3, trivial⟩ fin) (fun x => (seg3 (atT T3 J3) x.1 x.2.1 x.2.2.1).trans (by simp only [atT_self] <;> rfl))
  exact good_first (hp (atT T3 L3)) (runOK_of (hp (atT T3 L3)) hnp ⟨cutOK_at g3, trivial⟩ fin) (fun x => (seg0 (atT T3 L3) x.1).trans (by simp only [atT_self] <;> rfl))
end laws_toIntS

/-! ### loop.example/wholecheck/laws.toIntSS -/
namespace laws_toIntSS
noncomputable abbrev c0 : Code := (Try.f69.body).getD .skip
noncomputable abbrev pin : Tpl := ⟨[⟨0, false, [.d (.sl (.sl (.int .i64)))]⟩], []⟩
noncomputable abbrev pout : Tpl := ⟨[⟨0, false, [.row 200]⟩], [(200, .row 24 false (.sl (.int .i64)))]⟩
noncomputable abbrev p3 : Tpl := ⟨[⟨0, false, [.d (.sl (.sl (.int .i64)))]⟩, ⟨3, false, [.row 3000000]⟩, ⟨4, false, [.d (.int .i64)]⟩], [(3000000, .row 24 false (.sl (.int .i64)))]⟩
noncomputable def T3 : List Item := (find 3 c0 []).getD []
noncomputable abbrev rs : List ResultVar := [.tmp 2]
noncomputable def F0 (J3 : p3.T → Option pout.T) (x0 : List (List Int)) : Option pout.T :=
  bif decide (0 ≤ (x0.length : Int)) && decide ((x0.length : Int) ≤ (x0.length : Int)) && decide ((x0.length : Int) * 24 ≤ 140737488355328) then
    J3 (x0, 0, List.replicate (x0.length : Int).toNat [], ())
  else
    none
noncomputable def F3 (J3 : p3.T → Option pout.T) (Glaws_toIntS : laws_toIntS.pin.T → Option laws_toIntS.pout.T) (t0 : List (List Int)) (t4 : Int) (r0 : List (List Int)) : Option pout.T :=
  bif decide (t4 < (t0.length : Int)) then
    bif inb t4 t0.length then
      Option.bind (Glaws_toIntS (t0.getD t4.toNat [], ())) fun y0 =>
      bif inb t4 r0.length then
        J3 (t0, wI (t4 + 1), r0.set t4.toNat y0.1, ())
      else
        none
    else
      none
  else
    some (r0, ())
noncomputable def hd {R : Type} (Glaws_toIntS : laws_toIntS.pin.T → Option laws_toIntS.pout.T) : Hand R := (handAt 41 [20] true ⟨1, 1, 1, laws_toIntS.pin, laws_toIntS.pout, Glaws_toIntS⟩ handNil)
noncomputable def pg (Glaws_toIntS : laws_toIntS.pin.T → Option laws_toIntS.pout.T) (J3 : List Item → p3.T → Option pout.T) : Prog pout.T := { nt := 23, np := 1, tb := tabOf tab, hd := hd Glaws_toIntS, cuts := cutsOf [(3, cut p3 J3)], fin := endOf (tabOf tab) rs 1 pout }
theorem seg0 (Glaws_toIntS : laws_toIntS.pin.T → Option laws_toIntS.pout.T) (J3 : List Item → p3.T → Option pout.T) (x0 : List (List Int)) : arun (pg Glaws_toIntS J3) 5000 [.code c0] (mk pin (x0, ())) = F0 (J3 T3) x0 := by kernel_rfl
theorem seg3 (Glaws_toIntS : laws_toIntS.pin.T → Option laws_toIntS.pout.T) (J3 : List Item → p3.T → Option pout.T) (t0 : List (List Int)) (t4 : Int) (r0 : List (List Int)) : arun1 (pg Glaws_toIntS J3) 5000 T3 (mk p3 (t0, t4, r0, ())) = F3 (J3 T3) Glaws_toIntS t0 t4 r0 := by kernel_rfl
noncomputable def L3 : p3.T → Option pout.T := lfp fun J3 x => F3 J3 laws_toIntS.impl x.1 x.2.1 x.2.2.1
noncomputable def impl : pin.T → Option pout.T := fun x => F0 L3 x.1
theorem con : Con Try.prog 69 1 rs.length 1 pin pout impl := by
  refine con_of_run' (nt := 23) (c := c0) tabGood Try.func69 (by kernel_rfl) (by kernel_rfl) (by kernel_rfl) (by kernel_rfl) (by kernel_rfl) (by kernel_rfl) (by kernel_rfl) ?_
  intro w0 O y hnp
  generalize hPost : (fun (a' : Act) (w' : World) => ∃ μ' S' st', Rel 23 w0 O μ' S' st' a' w' ∧ endOf (tabOf tab) rs 1 pout st' = some y) = Post
  have fin : ∀ (μ : Id → Option Value) (S : Nat → Prop) (st : St) (a : Act) (w : World), Rel 23 w0 O μ S st a w → endOf (tabOf tab) rs 1 pout st = some y → Post a w := fun μ S st a w h he => by rw [← hPost]; exact ⟨μ, S, st, h, he⟩
  have hp : ∀ (J3 : List Item → p3.T → Option pout.T), Parts Try.prog 69 (pg laws_toIntS.impl J3) [(3, cut p3 J3)] := fun J3 => ⟨tab_ok tabGood rfl, (handAt_ok laws_toIntS.con handNil_ok), rfl⟩
  have g3 : Good Try.prog 23 w0 O Post y T3 p3 L3 := good_lfp fun J3 h3 => good_part (hp (atT T3 J3)) (runOK_of (hp (atT T3 J3)) hnp ⟨cutOK_at h3, trivial⟩ fin) (fun x => (seg3 laws_toIntS.impl (atT T3 J3) x.1 x.2.1 x.2.2.1).trans (by simp only [atT_self] <;> rfl))
  exact good_first (hp (atT T3 L3)) (runOK_of (hp (atT T3 L3)) hnp ⟨cutOK_at g3, trivial⟩ fin) (fun x => (seg0 laws_toIntS.impl (atT T3 L3) x.1).trans (by simp only [atT_self] <;> rfl))
end laws_toIntSS

/-! ### loop.example/wholecheck/laws.toTrace -/
namespace laws_toTrace
noncomputable abbrev c0 : Code := (Try.f42.body).getD .skip
noncomputable abbrev pin : Tpl := ⟨[⟨0, true, [.d (.prod (.sl (.sl (.int .i64))) (.last (.sl (.int .i64))))]⟩], []⟩
noncomputable abbrev pout : Tpl := ⟨[⟨0, true, [.d (.prod (.sl (.sl (.int .i64))) (.last (.sl (.int .i64))))]⟩], []⟩
noncomputable abbrev rs : List ResultVar := [.cell 2 32]
noncomputable def F0 (Glaws_toIntS : laws_toIntS.pin.T → Option laws_toIntS.pout.T) (Glaws_toIntSS : laws_toIntSS.pin.T → Option laws_toIntSS.pout.T) (x0 : (List (List Int)) × List Int) : Option pout.T :=
  Option.bind (Glaws_toIntSS (x0.1, ())) fun y0 =>
  Option.bind (Glaws_toIntS (x0.2, ())) fun y1 =>
  some ((y0.1, y1.1), ())
noncomputable def hd {R : Type} (Glaws_toIntS : laws_toIntS.pin.T → Option laws_toIntS.pout.T) (Glaws_toIntSS : laws_toIntSS.pin.T → Option laws_toIntSS.pout.T) : Hand R := (handAt 69 [6] false ⟨1, 1, 1, laws_toIntSS.pin, laws_toIntSS.pout, Glaws_toIntSS⟩ (handAt 41 [10] true ⟨1, 1, 1, laws_toIntS.pin, laws_toIntS.pout, Glaws_toIntS⟩ handNil))
noncomputable def pg (Glaws_toIntS : laws_toIntS.pin.T → Option laws_toIntS.pout.T) (Glaws_toIntSS : laws_toIntSS.pin.T → Option laws_toIntSS.pout.T) : Prog pout.T := { nt := 13, np := 1, tb := tabOf tab, hd := hd Glaws_toIntS Glaws_toIntSS, cuts := cutsOf [], fin := endOf (tabOf tab) rs 1 pout }
theorem seg0 (Glaws_toIntS : laws_toIntS.pin.T → Option laws_toIntS.pout.T) (Glaws_toIntSS : laws_toIntSS.pin.T → Option laws_toIntSS.pout.T) (x0 : (List (List Int)) × List Int) : arun (pg Glaws_toIntS Glaws_toIntSS) 5000 [.code c0] (mk pin (x0, ())) = F0 Glaws_toIntS Glaws_toIntSS x0 := by kernel_rfl
noncomputable def impl : pin.T → Option pout.T := fun x => F0 laws_toIntS.impl laws_toIntSS.impl x.1
theorem con : Con Try.prog 42 1 rs.length 1 pin pout impl := by
  refine con_of_run' (nt := 13) (c := c0) tabGood Try.func42 (by kernel_rfl) (by kernel_rfl) (by kernel_rfl) (by kernel_rfl) (by kernel_rfl) (by kernel_rfl) (by kernel_rfl) ?_
  intro w0 O y hnp
  generalize hPost : (fun (a' : Act) (w' : World) => ∃ μ' S' st', Rel 13 w0 O μ' S' st' a' w' ∧ endOf (tabOf tab) rs 1 pout st' = some y) = Post
  have fin : ∀ (μ : Id → Option Value) (S : Nat → Prop) (st : St) (a : Act) (w : World), Rel 13 w0 O μ S st a w → endOf (tabOf tab) rs 1 pout st = some y → Post a w := fun μ S st a w h he => by rw [← hPost]; exact ⟨μ, S, st, h, he⟩
  have hp : Parts Try.prog 42 (pg laws_toIntS.impl laws_toIntSS.impl) [] := ⟨tab_ok tabGood rfl, (handAt_ok laws_toIntSS.con (handAt_ok laws_toIntS.con handNil_ok)), rfl⟩
  exact good_first (hp) (runOK_of (hp) hnp trivial fin) (fun x => (seg0 laws_toIntS.impl laws_toIntSS.impl x.1))
end laws_toTrace

/-! ### loop.example/wholecheck/laws.toPaper -/
namespace laws_toPaper
noncomputable abbrev c0 : Code := (Try.f12.body).getD .skip
noncomputable abbrev pin : Tpl := ⟨[⟨0, true, [.d (.prod (.int .i64) (.prod (.sl (.int .i64)) (.prod (.int .i64) (.last (.prod (.sl (.sl (.int .i64))) (.last (.sl (.int .i64))))))))]⟩], []⟩
noncomputable abbrev pout : Tpl := ⟨[⟨0, true, [.d (.prod (.int .i64) (.prod (.sl (.int .i64)) (.prod (.int .i64) (.last (.prod (.sl (.sl (.int .i64))) (.last (.sl (.int .i64))))))))]⟩], []⟩
noncomputable abbrev rs : List ResultVar := [.cell 2 34]
noncomputable def F0 (Glaws_toIntS : laws_toIntS.pin.T → Option laws_toIntS.pout.T) (Glaws_toTrace : laws_toTrace.pin.T → Option laws_toTrace.pout.T) (x0 : Int × (List Int) × Int × (List (List Int)) × List Int) : Option pout.T :=
  Option.bind (Glaws_toIntS (x0.2.1, ())) fun y0 =>
  Option.bind (Glaws_toTrace (x0.2.2.2, ())) fun y1 =>
  some ((x0.1, y0.1, x0.2.2.1, y1.1), ())
noncomputable def hd {R : Type} (Glaws_toIntS : laws_toIntS.pin.T → Option laws_toIntS.pout.T) (Glaws_toTrace : laws_toTrace.pin.T → Option laws_toTrace.pout.T) : Hand R := (handAt 42 [16] false ⟨1, 1, 1, laws_toTrace.pin, laws_toTrace.pout, Glaws_toTrace⟩ (handAt 41 [9] true ⟨1, 1, 1, laws_toIntS.pin, laws_toIntS.pout, Glaws_toIntS⟩ handNil))
noncomputable def pg (Glaws_toIntS : laws_toIntS.pin.T → Option laws_toIntS.pout.T) (Glaws_toTrace : laws_toTrace.pin.T → Option laws_toTrace.pout.T) : Prog pout.T := { nt := 19, np := 1, tb := tabOf tab, hd := hd Glaws_toIntS Glaws_toTrace, cuts := cutsOf [], fin := endOf (tabOf tab) rs 1 pout }
theorem seg0 (Glaws_toIntS : laws_toIntS.pin.T → Option laws_toIntS.pout.T) (Glaws_toTrace : laws_toTrace.pin.T → Option laws_toTrace.pout.T) (x0 : Int × (List Int) × Int × (List (List Int)) × List Int) : arun (pg Glaws_toIntS Glaws_toTrace) 5000 [.code c0] (mk pin (x0, ())) = F0 Glaws_toIntS Glaws_toTrace x0 := by kernel_rfl
noncomputable def impl : pin.T → Option pout.T := fun x => F0 laws_toIntS.impl laws_toTrace.impl x.1
theorem con : Con Try.prog 12 1 rs.length 1 pin pout impl := by
  refine con_of_run' (nt := 19) (c := c0) tabGood Try.func12 (by kernel_rfl) (by kernel_rfl) (by kernel_rfl) (by kernel_rfl) (by kernel_rfl) (by kernel_rfl) (by kernel_rfl) ?_
  intro w0 O y hnp
  generalize hPost : (fun (a' : Act) (w' : World) => ∃ μ' S' st', Rel 19 w0 O μ' S' st' a' w' ∧ endOf (tabOf tab) rs 1 pout st' = some y) = Post
  have fin : ∀ (μ : Id → Option Value) (S : Nat → Prop) (st : St) (a : Act) (w : World), Rel 19 w0 O μ S st a w → endOf (tabOf tab) rs 1 pout st = some y → Post a w := fun μ S st a w h he => by rw [← hPost]; exact ⟨μ, S, st, h, he⟩
  have hp : Parts Try.prog 12 (pg laws_toIntS.impl laws_toTrace.impl) [] := ⟨tab_ok tabGood rfl, (handAt_ok laws_toTrace.con (handAt_ok laws_toIntS.con handNil_ok)), rfl⟩
  exact good_first (hp) (runOK_of (hp) hnp trivial fin) (fun x => (seg0 laws_toIntS.impl laws_toTrace.impl x.1))
end laws_toPaper

/-! ### loop.example/wholecheck/spec.PaperSays -/
namespace spec_PaperSays
noncomputable abbrev c0 : Code := (Try.f11.body).getD .skip
noncomputable abbrev pin : Tpl := ⟨[⟨0, true, [.d (.prod (.int .i64) (.prod (.sl (.int .i64)) (.prod (.int .i64) (.last (.prod (.sl (.sl (.int .i64))) (.last (.sl (.int .i64))))))))]⟩], []⟩
noncomputable abbrev pout : Tpl := ⟨[⟨0, false, [.d (.int .i64)]⟩], []⟩
noncomputable abbrev rs : List ResultVar := [.tmp 2]
noncomputable def F0 (x0 : Int × (List Int) × Int × (List (List Int)) × List Int) : Option pout.T :=
  bif x0.1 == 1 then
    some (1, ())
  else
    bif x0.1 == 2 then
      some (1, ())
    else
      bif x0.1 == 3 then
        some ((-1), ())
      else
        some (0, ())
noncomputable def hd {R : Type} : Hand R := handNil
noncomputable def pg : Prog pout.T := { nt := 14, np := 1, tb := tabOf tab, hd := hd, cuts := cutsOf [], fin := endOf (tabOf tab) rs 1 pout }
theorem seg0 (x0 : Int × (List Int) × Int × (List (List Int)) × List Int) : arun (pg) 5000 [.code c0] (mk pin (x0, ())) = F0 x0 := by kernel_rfl
noncomputable def impl : pin.T → Option pout.T := fun x => F0 x.1
theorem con : Con Try.prog 11 1 rs.length 1 pin pout impl := by
  refine con_of_run' (nt := 14) (c := c0) tabGood Try.func11 (by kernel_rfl) (by kernel_rfl) (by kernel_rfl) (by kernel_rfl) (by kernel_rfl) (by kernel_rfl) (by kernel_rfl) ?_
  intro w0 O y hnp
  generalize hPost : (fun (a' : Act) (w' : World) => ∃ μ' S' st', Rel 14 w0 O μ' S' st' a' w' ∧ endOf (tabOf tab) rs 1 pout st' = some y) = Post
  have fin : ∀ (μ : Id → Option Value) (S : Nat → Prop) (st : St) (a : Act) (w : World), Rel 14 w0 O μ S st a w → endOf (tabOf tab) rs 1 pout st = some y → Post a w := fun μ S st a w h he => by rw [← hPost]; exact ⟨μ, S, st, h, he⟩
  have hp : Parts Try.prog 11 (pg) [] := ⟨tab_ok tabGood rfl, handNil_ok, rfl⟩
  exact good_first (hp) (runOK_of (hp) hnp trivial fin) (fun x => (seg0 x.1))
end spec_PaperSays

/-! ### loop.example/wholecheck/impl.PaperSays -/
namespace impl_PaperSays
noncomputable abbrev c0 : Code := (Try.f13.body).getD .skip
noncomputable abbrev pin : Tpl := ⟨[⟨0, true, [.d (.prod (.int .i64) (.prod (.sl (.int .i64)) (.prod (.int .i64) (.last (.prod (.sl (.sl (.int .i64))) (.last (.sl (.int .i64))))))))]⟩], []⟩
noncomputable abbrev pout : Tpl := ⟨[⟨0, false, [.d (.int .i64)]⟩], []⟩
noncomputable abbrev rs : List ResultVar := [.tmp 2]
noncomputable def F0 (x0 : Int × (List Int) × Int × (List (List Int)) × List Int) : Option pout.T :=
  bif x0.1 == 1 then
    some (1, ())
  else
    bif x0.1 == 2 then
      some (1, ())
    else
      bif x0.1 == 3 then
        some ((-1), ())
      else
        some (0, ())
noncomputable def hd {R : Type} : Hand R := handNil
noncomputable def pg : Prog pout.T := { nt := 10, np := 1, tb := tabOf tab, hd := hd, cuts := cutsOf [], fin := endOf (tabOf tab) rs 1 pout }
theorem seg0 (x0 : Int × (List Int) × Int × (List (List Int)) × List Int) : arun (pg) 5000 [.code c0] (mk pin (x0, ())) = F0 x0 := by kernel_rfl
noncomputable def impl : pin.T → Option pout.T := fun x => F0 x.1
theorem con : Con Try.prog 13 1 rs.length 1 pin pout impl := by
  refine con_of_run' (nt := 10) (c := c0) tabGood Try.func13 (by kernel_rfl) (by kernel_rfl) (by kernel_rfl) (by kernel_rfl) (by kernel_rfl) (by kernel_rfl) (by kernel_rfl) ?_
  intro w0 O y hnp
  generalize hPost : (fun (a' : Act) (w' : World) => ∃ μ' S' st', Rel 10 w0 O μ' S' st' a' w' ∧ endOf (tabOf tab) rs 1 pout st' = some y) = Post
  have fin : ∀ (μ : Id → Option Value) (S : Nat → Prop) (st : St) (a : Act) (w : World), Rel 10 w0 O μ S st a w → endOf (tabOf tab) rs 1 pout st = some y → Post a w := fun μ S st a w h he => by rw [← hPost]; exact ⟨μ, S, st, h, he⟩
  have hp : Parts Try.prog 13 (pg) [] := ⟨tab_ok tabGood rfl, handNil_ok, rfl⟩
  exact good_first (hp) (runOK_of (hp) hnp trivial fin) (fun x => (seg0 x.1))
end impl_PaperSays

/-! ### loop.example/wholecheck/laws.eqIntS -/
namespace laws_eqIntS
noncomputable abbrev c0 : Code := (Try.f43.body).getD .skip
noncomputable abbrev pin : Tpl := ⟨[⟨0, false, [.d (.sl (.int .i64))]⟩, ⟨1, false, [.d (.sl (.int .i64))]⟩], []⟩
noncomputable abbrev pout : Tpl := ⟨[⟨0, false, [.d .bool]⟩], []⟩
noncomputable abbrev p4 : Tpl := ⟨[⟨0, false, [.d (.sl (.int .i64))]⟩, ⟨1, false, [.d (.sl (.int .i64))]⟩, ⟨5, false, [.d (.int .i64)]⟩], []⟩
noncomputable def T4 : List Item := (find 4 c0 []).getD []
noncomputable abbrev p6 : Tpl := ⟨[⟨0, false, [.d (.sl (.int .i64))]⟩, ⟨1, false, [.d (.sl (.int .i64))]⟩, ⟨5, false, [.d (.int .i64)]⟩], []⟩
noncomputable def T6 : List Item := (find 6 c0 []).getD []
noncomputable abbrev rs : List ResultVar := [.tmp 4]
noncomputable def F0 (J4 : p4.T → Option pout.T) (x0 : List Int) (x1 : List Int) : Option pout.T :=
  bif (x0.length : Int) != (x1.length : Int) then
    some (false, ())
  else
    J4 (x0, x1, 0, ())
noncomputable def F4 (J6 : p6.T → Option pout.T) (t0 : List Int) (t1 : List Int) (t5 : Int) : Option pout.T :=
  bif decide (t5 < (t0.length : Int)) then
    J6 (t0, t1, t5, ())
  else
    some (true, ())
noncomputable def F6 (J4 : p4.T → Option pout.T) (t0 : List Int) (t1 : List Int) (t5 : Int) : Option pout.T :=
  bif inb t5 t0.length then
    bif inb t5 t1.length then
      bif t0.getD t5.toNat 0 != t1.getD t5.toNat 0 then
        some (false, ())
      else
        J4 (t0, t1, wI (t5 + 1), ())
    else
      none
  else
    none
noncomputable def hd {R : Type} : Hand R := handNil
noncomputable def pg (J4 : List Item → p4.T → Option pout.T) (J6 : List Item → p6.T → Option pout.T) : Prog pout.T := { nt := 26, np := 2, tb := tabOf tab, hd := hd, cuts := cutsOf [(4, cut p4 J4), (6, cut p6 J6)], fin := endOf (tabOf tab) rs 2 pout }
theorem seg0 (J4 : List Item → p4.T → Option pout.T) (J6 : List Item → p6.T → Option pout.T) (x0 : List Int) (x1 : List Int) : arun (pg J4 J6) 5000 [.code c0] (mk pin (x0, x1, ())) = F0 (J4 T4) x0 x1 := by kernel_rfl
theorem seg4 (J4 : List Item → p4.T → Option pout.T) (J6 : List Item → p6.T → Option pout.T) (t0 : List Int) (t1 : List Int) (t5 : Int) : arun1 (pg J4 J6) 5000 T4 (mk p4 (t0, t1, t5, ())) = F4 (J6 T6) t0 t1 t5 := by kernel_rfl
theorem seg6 (J4 : List Item → p4.T → Option pout.T) (J6 : List Item → p6.T → Option pout.T) (t0 : List Int) (t1 : List Int) (t5 : Int) : arunE (pg J4 J6) 5000 T6 (mk p6 (t0, t1, t5, ())) = List.replicate (arunE (pg J4 J6) 5000 T6 (mk p6 (t0, t1, t5, ()))).length (F6 (J4 T4) t0 t1 t5) := by kernel_rfl
noncomputable def L6 (J4 : p4.T → Option pout.T) : p6.T → Option pout.T := fun x => F6 J4 x.1 x.2.1 x.2.2.1
noncomputable def L4 : p4.T → Option pout.T := lfp fun J4 x => F4 (L6 J4) x.1 x.2.1 x.2.2.1
noncomputable def impl : pin.T → Option pout.T := fun x => F0 L4 x.1 x.2.1
theorem con : Con Try.prog 43 2 rs.length 2 pin pout impl := by
  refine con_of_run' (nt := 26) (c := c0) tabGood Try.func43 (by kernel_rfl) (by kernel_rfl) (by kernel_rfl) (by kernel_rfl) (by kernel_rfl) (by kernel_rfl) (by kernel_rfl) ?_
  intro w0 O y hnp
  generalize hPost : (fun (a' : Act) (w' : World) => ∃ μ' S' st', Rel 26 w0 O μ' S' st' a' w' ∧ endOf (tabOf tab) rs 2 pout st' = some y) = Post
  have fin : ∀ (μ : Id → Option Value) (S : Nat → Prop) (st : St) (a : Act) (w : World), Rel 26 w0 O μ S st a w → endOf (tabOf tab) rs 2 pout st = some y → Post a w := fun μ S st a w h he => by rw [← hPost]; exact ⟨μ, S, st, h, he⟩
  have hp : ∀ (J4 : List Item → p4.T → Option pout.T), ∀ (J6 : List Item → p6.T → Option pout.T), Parts Try.prog 43 (pg J4 J6) [(4, cut p4 J4), (6, cut p6 J6)] := fun J4 J6 => ⟨tab_ok tabGood rfl, handNil_ok, rfl⟩
  have g6 : ∀ (J4 : p4.T → Option pout.T), Good Try.prog 26 w0 O Post y T4 p4 J4 → Good Try.prog 26 w0 O Post y T6 p6 (L6 J4) := fun J4 h4 => good_orders (hs := hd) (cv' := hd) (Checked.mixed Try.checked) (hp (atT T4 J4) (atT T6 (fun _ => none))) handNil_ok handNil_nat handNil_nat (runOK_of (hp (atT T4 J4) (atT T6 (fun _ => none))) hnp ⟨cutOK_at h4, cutOK_at good_none, trivial⟩ fin) (fun x => ⟨_, (seg6 (atT T4 J4) (atT T6 (fun _ => none)) x.1 x.2.1 x.2.2.1).trans (by simp only [atT_self] <;> rfl)⟩)
  have g4 : Good Try.prog 26 w0 O Post y T4 p4 L4 := good_lfp fun J4 h4 => good_part (hp (atT T4 (fun _ => none)) (atT T6 (L6 J4))) (runOK_of (hp (atT T4 (fun _ => none)) (atT T6 (L6 J4))) hnp ⟨cutOK_at good_none, cutOK_at (g6 J4 h4), trivial⟩ fin) (fun x => (seg4 (atT T4 (fun _ => none)) (atT T6 (L6 J4)) x.1 x.2.1 x.2.2.1).trans (by simp only [atT_self] <;> rfl))
  exact good_first (hp (atT T4 L4) (atT T6 (fun _ => none))) (runOK_of (hp (atT T4 L4) (atT T6 (fun _ => none))) hnp ⟨cutOK_at g4, cutOK_at good_none, trivial⟩ fin) (fun x => (seg0 (atT T4 L4) (atT T6 (fun _ => none)) x.1 x.2.1).trans (by simp only [atT_self] <;> rfl))
end laws_eqIntS

/-! ### loop.example/wholecheck/laws.eqIntSS -/
namespace laws_eqIntSS
noncomputable abbrev c0 : Code := (Try.f70.body).getD .skip
noncomputable abbrev pin : Tpl := ⟨[⟨0, false, [.d (.sl (.sl (.int .i64)))]⟩, ⟨1, false, [.d (.sl (.sl (.int .i64)))]⟩], []⟩
noncomputable abbrev pout : Tpl := ⟨[⟨0, false, [.d .bool]⟩], []⟩
noncomputable abbrev p4 : Tpl := ⟨[⟨0, false, [.d (.sl (.sl (.int .i64)))]⟩, ⟨1, false, [.d (.sl (.sl (.int .i64)))]⟩, ⟨5, false, [.d (.int .i64)]⟩], []⟩
noncomputable def T4 : List Item := (find 4 c0 []).getD []
noncomputable abbrev p6 : Tpl := ⟨[⟨0, false, [.d (.sl (.sl (.int .i64)))]⟩, ⟨1, false, [.d (.sl (.sl (.int .i64)))]⟩, ⟨5, false, [.d (.int .i64)]⟩], []⟩
noncomputable def T6 : List Item := (find 6 c0 []).getD []
noncomputable abbrev rs : List ResultVar := [.tmp 4]
noncomputable def F0 (J4 : p4.T → Option pout.T) (x0 : List (List Int)) (x1 : List (List Int)) : Option pout.T :=
  bif (x0.length : Int) != (x1.length : Int) then
    some (false, ())
  else
    J4 (x0, x1, 0, ())
noncomputable def F4 (J6 : p6.T → Option pout.T) (t0 : List (List Int)) (t1 : List (List Int)) (t5 : Int) : Option pout.T :=
  bif decide (t5 < (t0.length : Int)) then
    J6 (t0, t1, t5, ())
  else
    some (true, ())
noncomputable def F6 (J4 : p4.T → Option pout.T) (Glaws_eqIntS : laws_eqIntS.pin.T → Option laws_eqIntS.pout.T) (t0 : List (List Int)) (t1 : List (List Int)) (t5 : Int) : Option pout.T :=
  bif inb t5 t0.length then
    bif inb t5 t1.length then
      Option.bind (Glaws_eqIntS (t0.getD t5.toNat [], t1.getD t5.toNat [], ())) fun y0 =>
      bif !y0.1 then
        some (false, ())
      else
        J4 (t0, t1, wI (t5 + 1), ())
    else
      none
  else
    none
noncomputable def hd {R : Type} (Glaws_eqIntS : laws_eqIntS.pin.T → Option laws_eqIntS.pout.T) : Hand R := (handAt 43 [25] true ⟨2, 1, 2, laws_eqIntS.pin, laws_eqIntS.pout, Glaws_eqIntS⟩ handNil)
noncomputable def pg (Glaws_eqIntS : laws_eqIntS.pin.T → Option laws_eqIntS.pout.T) (J4 : List Item → p4.T → Option pout.T) (J6 : List Item → p6.T → Option pout.T) : Prog pout.T := { nt := 27, np := 2, tb := tabOf tab, hd := hd Glaws_eqIntS, cuts := cutsOf [(4, cut p4 J4), (6, cut p6 J6)], fin := endOf (tabOf tab) rs 2 pout }
theorem seg0 (Glaws_eqIntS : laws_eqIntS.pin.T → Option laws_eqIntS.pout.T) (J4 : List Item → p4.T → Option pout.T) (J6 : List Item → p6.T → Option pout.T) (x0 : List (List Int)) (x1 : List (List Int)) : arun (pg Glaws_eqIntS J4 J6) 5000 [.code c0] (mk pin (x0, x1, ())) = F0 (J4 T4) x0 x1 := by kernel_rfl
theorem seg4 (Glaws_eqIntS : laws_eqIntS.pin.T → Option laws_eqIntS.pout.T) (J4 : List Item → p4.T → Option pout.T) (J6 : List Item → p6.T → Option pout.T) (t0 : List (List Int)) (t1 : List (List Int)) (t5 : Int) : arun1 (pg Glaws_eqIntS J4 J6) 5000 T4 (mk p4 (t0, t1, t5, ())) = F4 (J6 T6) t0 t1 t5 := by kernel_rfl
theorem seg6 (Glaws_eqIntS : laws_eqIntS.pin.T → Option laws_eqIntS.pout.T) (J4 : List Item → p4.T → Option pout.T) (J6 : List Item → p6.T → Option pout.T) (t0 : List (List Int)) (t1 : List (List Int)) (t5 : Int) : arunE (pg Glaws_eqIntS J4 J6) 5000 T6 (mk p6 (t0, t1, t5, ())) = List.replicate (arunE (pg Glaws_eqIntS J4 J6) 5000 T6 (mk p6 (t0, t1, t5, ()))).length (F6 (J4 T4) Glaws_eqIntS t0 t1 t5) := by kernel_rfl
noncomputable def L6 (J4 : p4.T → Option pout.T) : p6.T → Option pout.T := fun x => F6 J4 laws_eqIntS.impl x.1 x.2.1 x.2.2.1
noncomputable def L4 : p4.T → Option pout.T := lfp fun J4 x => F4 (L6 J4) x.1 x.2.1 x.2.2.1
noncomputable def impl : pin.T → Option pout.T := fun x => F0 L4 x.1 x.2.1
theorem con : Con Try.prog 70 2 rs.length 2 pin pout impl := by
  refine con_of_run' (nt := 27) (c := c0) tabGood Try.func70 (by kernel_rfl) (by kernel_rfl) (by kernel_rfl) (by kernel_rfl) (by kernel_rfl) (by kernel_rfl) (by kernel_rfl) ?_
  intro w0 O y hnp
  generalize hPost : (fun (a' : Act) (w' : World) => ∃ μ' S' st', Rel 27 w0 O μ' S' st' a' w' ∧ endOf (tabOf tab) rs 2 pout st' = some y) = Post
  have fin : ∀ (μ : Id → Option Value) (S : Nat → Prop) (st : St) (a : Act) (w : World), Rel 27 w0 O μ S st a w → endOf (tabOf tab) rs 2 pout st = some y → Post a w := fun μ S st a w h he => by rw [← hPost]; exact ⟨μ, S, st, h, he⟩
  have hp : ∀ (J4 : List Item → p4.T → Option pout.T), ∀ (J6 : List Item → p6.T → Option pout.T), Parts Try.prog 70 (pg laws_eqIntS.impl J4 J6) [(4, cut p4 J4), (6, cut p6 J6)] := fun J4 J6 => ⟨tab_ok tabGood rfl, (handAt_ok laws_eqIntS.con handNil_ok), rfl⟩
  have g6 : ∀ (J4 : p4.T → Option pout.T), Good Try.prog 27 w0 O Post y T4 p4 J4 → Good Try.prog 27 w0 O Post y T6 p6 (L6 J4) := fun J4 h4 => good_orders (hs := hd laws_eqIntS.impl) (cv' := hd laws_eqIntS.impl) (Checked.mixed Try.checked) (hp (atT T4 J4) (atT T6 (fun _ => none))) (handAt_ok laws_eqIntS.con handNil_ok) (handAt_nat handNil_nat) (handAt_nat handNil_nat) (runOK_of (hp (atT T4 J4) (atT T6 (fun _ => none))) hnp ⟨cutOK_at h4, cutOK_at good_none, trivial⟩ fin) (fun x => ⟨_, (seg6 laws_eqIntS.impl (atT T4 J4) (atT T6 (fun _ => none)) x.1 x.2.1 x.2.2.1).trans (by simp only [atT_self] <;> rfl)⟩)
  have g4 : Good Try.prog 27 w0 O Post y T4 p4 L4 := good_lfp fun J4 h4 => good_part (hp (atT T4 (fun _ => none)) (atT T6 (L6 J4))) (runOK_of (hp (atT T4 (fun _ => none)) (atT T6 (L6 J4))) hnp ⟨cutOK_at good_none, cutOK_at (g6 J4 h4), trivial⟩ fin) (fun x => (seg4 laws_eqIntS.impl (atT T4 (fun _ => none)) (atT T6 (L6 J4)) x.1 x.2.1 x.2.2.1).trans (by simp only [atT_self] <;> rfl))
  exact good_first (hp (atT T4 L4) (atT T6 (fun _ => none))) (runOK_of (hp (atT T4 L4) (atT T6 (fun _ => none))) hnp ⟨cutOK_at g4, cutOK_at good_none, trivial⟩ fin) (fun x => (seg0 laws_eqIntS.impl (atT T4 L4) (atT T6 (fun _ => none)) x.1 x.2.1).trans (by simp only [atT_self] <;> rfl))
end laws_eqIntSS

/-! ### loop.example/wholecheck/laws.eqTrace -/
namespace laws_eqTrace
noncomputable abbrev c0 : Code := (Try.f44.body).getD .skip
noncomputable abbrev pin : Tpl := ⟨[⟨0, true, [.d (.prod (.sl (.sl (.int .i64))) (.last (.sl (.int .i64))))]⟩, ⟨1, true, [.d (.prod (.sl (.sl (.int .i64))) (.last (.sl (.int .i64))))]⟩], []⟩
noncomputable abbrev pout : Tpl := ⟨[⟨0, false, [.d .bool]⟩], []⟩
noncomputable abbrev rs : List ResultVar := [.tmp 4]
noncomputable def F0 (Glaws_eqIntS : laws_eqIntS.pin.T → Option laws_eqIntS.pout.T) (Glaws_eqIntSS : laws_eqIntSS.pin.T → Option laws_eqIntSS.pout.T) (x0 : (List (List Int)) × List Int) (x1 : (List (List Int)) × List Int) : Option pout.T :=
  Option.bind (Glaws_eqIntSS (x0.1, x1.1, ())) fun y0 =>
  bif !y0.1 then
    some (false, ())
  else
    Option.bind (Glaws_eqIntS (x0.2, x1.2, ())) fun y1 =>
    bif !y1.1 then
      some (false, ())
    else
      some (true, ())
noncomputable def hd {R : Type} (Glaws_eqIntS : laws_eqIntS.pin.T → Option laws_eqIntS.pout.T) (Glaws_eqIntSS : laws_eqIntSS.pin.T → Option laws_eqIntSS.pout.T) : Hand R := (handAt 70 [9] true ⟨2, 1, 2, laws_eqIntSS.pin, laws_eqIntSS.pout, Glaws_eqIntSS⟩ (handAt 43 [15] true ⟨2, 1, 2, laws_eqIntS.pin, laws_eqIntS.pout, Glaws_eqIntS⟩ handNil))
noncomputable def pg (Glaws_eqIntS : laws_eqIntS.pin.T → Option laws_eqIntS.pout.T) (Glaws_eqIntSS : laws_eqIntSS.pin.T → Option laws_eqIntSS.pout.T) : Prog pout.T := { nt := 17, np := 2, tb := tabOf tab, hd := hd Glaws_eqIntS Glaws_eqIntSS, cuts := cutsOf [], fin := endOf (tabOf tab) rs 2 pout }
theorem seg0 (Glaws_eqIntS : laws_eqIntS.pin.T → Option laws_eqIntS.pout.T) (Glaws_eqIntSS : laws_eqIntSS.pin.T → Option laws_eqIntSS.pout.T) (x0 : (List (List Int)) × List Int) (x1 : (List (List Int)) × List Int) : arun (pg Glaws_eqIntS Glaws_eqIntSS) 5000 [.code c0] (mk pin (x0, x1, ())) = F0 Glaws_eqIntS Glaws_eqIntSS x0 x1 := by kernel_rfl
noncomputable def impl : pin.T → Option pout.T := fun x => F0 laws_eqIntS.impl laws_eqIntSS.impl x.1 x.2.1
theorem con : Con Try.prog 44 2 rs.length 2 pin pout impl := by
  refine con_of_run' (nt := 17) (c := c0) tabGood Try.func44 (by kernel_rfl) (by kernel_rfl) (by kernel_rfl) (by kernel_rfl) (by kernel_rfl) (by kernel_rfl) (by kernel_rfl) ?_
  intro w0 O y hnp
  generalize hPost : (fun (a' : Act) (w' : World) => ∃ μ' S' st', Rel 17 w0 O μ' S' st' a' w' ∧ endOf (tabOf tab) rs 2 pout st' = some y) = Post
  have fin : ∀ (μ : Id → Option Value) (S : Nat → Prop) (st : St) (a : Act) (w : World), Rel 17 w0 O μ S st a w → endOf (tabOf tab) rs 2 pout st = some y → Post a w := fun μ S st a w h he => by rw [← hPost]; exact ⟨μ, S, st, h, he⟩
  have hp : Parts Try.prog 44 (pg laws_eqIntS.impl laws_eqIntSS.impl) [] := ⟨tab_ok tabGood rfl, (handAt_ok laws_eqIntSS.con (handAt_ok laws_eqIntS.con handNil_ok)), rfl⟩
  exact good_first (hp) (runOK_of (hp) hnp trivial fin) (fun x => (seg0 laws_eqIntS.impl laws_eqIntSS.impl x.1 x.2.1))
end laws_eqTrace

/-! ### loop.example/wholecheck/laws.eqPaper -/
namespace laws_eqPaper
noncomputable abbrev c0 : Code := (Try.f14.body).getD .skip
noncomputable abbrev pin : Tpl := ⟨[⟨0, true, [.d (.prod (.int .i64) (.prod (.sl (.int .i64)) (.prod (.int .i64) (.last (.prod (.sl (.sl (.int .i64))) (.last (.sl (.int .i64))))))))]⟩, ⟨1, true, [.d (.prod (.int .i64) (.prod (.sl (.int .i64)) (.prod (.int .i64) (.last (.prod (.sl (.sl (.int .i64))) (.last (.sl (.int .i64))))))))]⟩], []⟩
noncomputable abbrev pout : Tpl := ⟨[⟨0, false, [.d .bool]⟩], []⟩
noncomputable abbrev rs : List ResultVar := [.tmp 4]
noncomputable def F0 (Glaws_eqIntS : laws_eqIntS.pin.T → Option laws_eqIntS.pout.T) (Glaws_eqTrace : laws_eqTrace.pin.T → Option laws_eqTrace.pout.T) (x0 : Int × (List Int) × Int × (List (List Int)) × List Int) (x1 : Int × (List Int) × Int × (List (List Int)) × List Int) : Option pout.T :=
  bif x0.1 != x1.1 then
    some (false, ())
  else
    Option.bind (Glaws_eqIntS (x0.2.1, x1.2.1, ())) fun y0 =>
    bif !y0.1 then
      some (false, ())
    else
      bif x0.2.2.1 != x1.2.2.1 then
        some (false, ())
      else
        Option.bind (Glaws_eqTrace (x0.2.2.2, x1.2.2.2, ())) fun y1 =>
        bif !y1.1 then
          some (false, ())
        else
          some (true, ())
noncomputable def hd {R : Type} (Glaws_eqIntS : laws_eqIntS.pin.T → Option laws_eqIntS.pout.T) (Glaws_eqTrace : laws_eqTrace.pin.T → Option laws_eqTrace.pout.T) : Hand R := (handAt 44 [25] true ⟨2, 1, 2, laws_eqTrace.pin, laws_eqTrace.pout, Glaws_eqTrace⟩ (handAt 43 [14] true ⟨2, 1, 2, laws_eqIntS.pin, laws_eqIntS.pout, Glaws_eqIntS⟩ handNil))
noncomputable def pg (Glaws_eqIntS : laws_eqIntS.pin.T → Option laws_eqIntS.pout.T) (Glaws_eqTrace : laws_eqTrace.pin.T → Option laws_eqTrace.pout.T) : Prog pout.T := { nt := 27, np := 2, tb := tabOf tab, hd := hd Glaws_eqIntS Glaws_eqTrace, cuts := cutsOf [], fin := endOf (tabOf tab) rs 2 pout }
theorem seg0 (Glaws_eqIntS : laws_eqIntS.pin.T → Option laws_eqIntS.pout.T) (Glaws_eqTrace : laws_eqTrace.pin.T → Option laws_eqTrace.pout.T) (x0 : Int × (List Int) × Int × (List (List Int)) × List Int) (x1 : Int × (List Int) × Int × (List (List Int)) × List Int) : arun (pg Glaws_eqIntS Glaws_eqTrace) 5000 [.code c0] (mk pin (x0, x1, ())) = F0 Glaws_eqIntS Glaws_eqTrace x0 x1 := by kernel_rfl
noncomputable def impl : pin.T → Option pout.T := fun x => F0 laws_eqIntS.impl laws_eqTrace.impl x.1 x.2.1
theorem con : Con Try.prog 14 2 rs.length 2 pin pout impl := by
  refine con_of_run' (nt := 27) (c := c0) tabGood Try.func14 (by kernel_rfl) (by kernel_rfl) (by kernel_rfl) (by kernel_rfl) (by kernel_rfl) (by kernel_rfl) (by kernel_rfl) ?_
  intro w0 O y hnp
  generalize hPost : (fun (a' : Act) (w' : World) => ∃ μ' S' st', Rel 27 w0 O μ' S' st' a' w' ∧ endOf (tabOf tab) rs 2 pout st' = some y) = Post
  have fin : ∀ (μ : Id → Option Value) (S : Nat → Prop) (st : St) (a : Act) (w : World), Rel 27 w0 O μ S st a w → endOf (tabOf tab) rs 2 pout st = some y → Post a w := fun μ S st a w h he => by rw [← hPost]; exact ⟨μ, S, st, h, he⟩
  have hp : Parts Try.prog 14 (pg laws_eqIntS.impl laws_eqTrace.impl) [] := ⟨tab_ok tabGood rfl, (handAt_ok laws_eqTrace.con (handAt_ok laws_eqIntS.con handNil_ok)), rfl⟩
  exact good_first (hp) (runOK_of (hp) hnp trivial fin) (fun x => (seg0 laws_eqIntS.impl laws_eqTrace.impl x.1 x.2.1))
end laws_eqPaper

/-! ### loop.example/wholecheck/laws.FnExactPaperSays -/
namespace laws_FnExactPaperSays
noncomputable abbrev c0 : Code := (Try.f4.body).getD .skip
noncomputable abbrev pin : Tpl := ⟨[⟨0, true, [.d (.prod (.int .i64) (.prod (.sl (.int .i64)) (.prod (.int .i64) (.last (.prod (.sl (.sl (.int .i64))) (.last (.sl (.int .i64))))))))]⟩], []⟩
noncomputable abbrev pout : Tpl := ⟨[⟨0, false, [.d .bool]⟩], []⟩
noncomputable abbrev p10 : Tpl := ⟨[⟨1, false, [.ptr 3000000 0]⟩, ⟨5, false, [.ptr 3000001 0]⟩], [(3000000, .box [.d (.int .i64), .d (.sl (.int .i64)), .d (.int .i64), .d (.sl (.sl (.int .i64))), .d (.sl (.int .i64))]), (3000001, .box [.d (.int .i64), .d (.sl (.int .i64)), .d (.int .i64), .d (.sl (.sl (.int .i64))), .d (.sl (.int .i64))])]⟩
noncomputable def T10 : List Item := (find 10 c0 []).getD []
noncomputable abbrev rs : List ResultVar := [.tmp 2]
noncomputable def F0 (J10 : p10.T → Option pout.T) (Gimpl_PaperSays : impl_PaperSays.pin.T → Option impl_PaperSays.pout.T) (Glaws_szPaper : laws_szPaper.pin.T → Option laws_szPaper.pout.T) (Glaws_toPaper : laws_toPaper.pin.T → Option laws_toPaper.pout.T) (Gspec_PaperSays : spec_PaperSays.pin.T → Option spec_PaperSays.pout.T) (x0 : Int × (List Int) × Int × (List (List Int)) × List Int) : Option pout.T :=
  Option.bind (Glaws_szPaper (x0, 1048576, ())) fun y0 =>
  bif decide (y0.1 < 0) then
    some (true, ())
  else
    Option.bind (Glaws_toPaper (x0, ())) fun y1 =>
    Option.bind (Gspec_PaperSays (y1.1, ())) fun y2 =>
    Option.bind (Glaws_toPaper (x0, ())) fun y3 =>
    Option.bind (Gimpl_PaperSays (y3.1, ())) fun y4 =>
    bif y4.1 != y2.1 then
      some (false, ())
    else
      J10 (x0.1, x0.2.1, x0.2.2.1, x0.2.2.2.1, x0.2.2.2.2, y3.1.1, y3.1.2.1, y3.1.2.2.1, y3.1.2.2.2.1, y3.1.2.2.2.2, ())
noncomputable def F10 (Glaws_eqPaper : laws_eqPaper.pin.T → Option laws_eqPaper.pout.T) (Glaws_toPaper : laws_toPaper.pin.T → Option laws_toPaper.pout.T) (b0_0 : Int) (b0_1 : List Int) (b0_2 : Int) (b0_3 : List (List Int)) (b0_4 : List Int) (b1_0 : Int) (b1_1 : List Int) (b1_2 : Int) (b1_3 : List (List Int)) (b1_4 : List Int) : Option pout.T :=
  Option.bind (Glaws_toPaper ((b0_0, b0_1, b0_2, b0_3, b0_4), ())) fun y5 =>
  Option.bind (Glaws_eqPaper ((b1_0, b1_1, b1_2, b1_3, b1_4), y5.1, ())) fun y6 =>
  bif !y6.1 then
    some (false, ())
  else
    some (true, ())
noncomputable def hd {R : Type} (Gimpl_PaperSays : impl_PaperSays.pin.T → Option impl_PaperSays.pout.T) (Glaws_eqPaper : laws_eqPaper.pin.T → Option laws_eqPaper.pout.T) (Glaws_szPaper : laws_szPaper.pin.T → Option laws_szPaper.pout.T) (Glaws_toPaper : laws_toPaper.pin.T → Option laws_toPaper.pout.T) (Gspec_PaperSays : spec_PaperSays.pin.T → Option spec_PaperSays.pout.T) : Hand R := (handAt 14 [25] true ⟨2, 1, 2, laws_eqPaper.pin, laws_eqPaper.pout, Glaws_eqPaper⟩ (handAt 13 [18] true ⟨1, 1, 1, impl_PaperSays.pin, impl_PaperSays.pout, Gimpl_PaperSays⟩ (handAt 12 [13, 16, 24] false ⟨1, 1, 1, laws_toPaper.pin, laws_toPaper.pout, Glaws_toPaper⟩ (handAt 11 [14] true ⟨1, 1, 1, spec_PaperSays.pin, spec_PaperSays.pout, Gspec_PaperSays⟩ (handAt 10 [9] true ⟨2, 1, 1, laws_szPaper.pin, laws_szPaper.pout, Glaws_szPaper⟩ handNil)))))
noncomputable def pg (Gimpl_PaperSays : impl_PaperSays.pin.T → Option impl_PaperSays.pout.T) (Glaws_eqPaper : laws_eqPaper.pin.T → Option laws_eqPaper.pout.T) (Glaws_szPaper : laws_szPaper.pin.T → Option laws_szPaper.pout.T) (Glaws_toPaper : laws_toPaper.pin.T → Option laws_toPaper.pout.T) (Gspec_PaperSays : spec_PaperSays.pin.T → Option spec_PaperSays.pout.T) (J10 : List Item → p10.T → Option pout.T) : Prog pout.T := { nt := 27, np := 1, tb := tabOf tab, hd := hd Gimpl_PaperSays Glaws_eqPaper Glaws_szPaper Glaws_toPaper Gspec_PaperSays, cuts := cutsOf [(10, cut p10 J10)], fin := endOf (tabOf tab) rs 1 pout }
theorem seg0 (Gimpl_PaperSays : impl_PaperSays.pin.T → Option impl_PaperSays.pout.T) (Glaws_eqPaper : laws_eqPaper.pin.T → Option laws_eqPaper.pout.T) (Glaws_szPaper : laws_szPaper.pin.T → Option laws_szPaper.pout.T) (Glaws_toPaper : laws_toPaper.pin.T → Option laws_toPaper.pout.T) (Gspec_PaperSays : spec_PaperSays.pin.T → Option spec_PaperSays.pout.T) (J10 : List Item → p10.T → Option pout.T) (x0 : Int × (List Int) × Int × (List (List Int)) × List Int) : arun (pg Gimpl_PaperSays Glaws_eqPaper Glaws_szPaper Glaws_toPaper Gspec_PaperSays J10) 5000 [.code c0] (mk pin (x0, ())) = F0 (J10 T10) Gimpl_PaperSays Glaws_szPaper Glaws_toPaper Gspec_PaperSays x0 := by kernel_rfl
theorem seg10 (Gimpl_PaperSays : impl_PaperSays.pin.T → Option impl_PaperSays.pout.T) (Glaws_eqPaper : laws_eqPaper.pin.T → Option laws_eqPaper.pout.T) (Glaws_szPaper : laws_szPaper.pin.T → Option laws_szPaper.pout.T) (Glaws_toPaper : laws_toPaper.pin.T → Option laws_toPaper.pout.T) (Gspec_PaperSays : spec_PaperSays.pin.T → Option spec_PaperSays.pout.T) (J10 : List Item → p10.T → Option pout.T) (b0_0 : Int) (b0_1 : List Int) (b0_2 : Int) (b0_3 : List (List Int)) (b0_4 : List Int) (b1_0 : Int) (b1_1 : List Int) (b1_2 : Int) (b1_3 : List (List Int)) (b1_4 : List Int) : arunE (pg Gimpl_PaperSays Glaws_eqPaper Glaws_szPaper Glaws_toPaper Gspec_PaperSays J10) 5000 T10 (mk p10 (b0_0, b0_1, b0_2, b0_3, b0_4, b1_0, b1_1, b1_2, b1_3, b1_4, ())) = List.replicate (arunE (pg Gimpl_PaperSays Glaws_eqPaper Glaws_szPaper Glaws_toPaper Gspec_PaperSays J10) 5000 T10 (mk p10 (b0_0, b0_1, b0_2, b0_3, b0_4, b1_0, b1_1, b1_2, b1_3, b1_4, ()))).length (F10 Glaws_eqPaper Glaws_toPaper b0_0 b0_1 b0_2 b0_3 b0_4 b1_0 b1_1 b1_2 b1_3 b1_4) := by kernel_rfl
noncomputable def L10 : p10.T → Option pout.T := fun x => F10 laws_eqPaper.impl laws_toPaper.impl x.1 x.2.1 x.2.2.1 x.2.2.2.1 x.2.2.2.2.1 x.2.2.2.2.2.1 x.2.2.2.2.2.2.1 x.2.2.2.2.2.2.2.1 x.2.2.2.2.2.2.2.2.1 x.2.2.2.2.2.2.2.2.2.1
noncomputable def impl : pin.T → Option pout.T := fun x => F0 L10 impl_PaperSays.impl laws_szPaper.impl laws_toPaper.impl spec_PaperSays.impl x.1
theorem con : Con Try.prog 4 1 rs.length 1 pin pout impl := by
  refine con_of_run' (nt := 27) (c := c0) tabGood Try.func4 (by kernel_rfl) (by kernel_rfl) (by kernel_rfl) (by kernel_rfl) (by kernel_rfl) (by kernel_rfl) (by kernel_rfl) ?_
  intro w0 O y hnp
  generalize hPost : (fun (a' : Act) (w' : World) => ∃ μ' S' st', Rel 27 w0 O μ' S' st' a' w' ∧ endOf (tabOf tab) rs 1 pout st' = some y) = Post
  have fin : ∀ (μ : Id → Option Value) (S : Nat → Prop) (st : St) (a : Act) (w : World), Rel 27 w0 O μ S st a w → endOf (tabOf tab) rs 1 pout st = some y → Post a w := fun μ S st a w h he => by rw [← hPost]; exact ⟨μ, S, st, h, he⟩
  have hp : ∀ (J10 : List Item → p10.T → Option pout.T), Parts Try.prog 4 (pg impl_PaperSays.impl laws_eqPaper.impl laws_szPaper.impl laws_toPaper.impl spec_PaperSays.impl J10) [(10, cut p10 J10)] := fun J10 => ⟨tab_ok tabGood rfl, (handAt_ok laws_eqPaper.con (handAt_ok impl_PaperSays.con (handAt_ok laws_toPaper.con (handAt_ok spec_PaperSays.con (handAt_ok laws_szPaper.con handNil_ok))))), rfl⟩
  have g10 : Good Try.prog 27 w0 O Post y T10 p10 L10 := good_orders (hs := hd impl_PaperSays.impl laws_eqPaper.impl laws_szPaper.impl laws_toPaper.impl spec_PaperSays.impl) (cv' := hd impl_PaperSays.impl laws_eqPaper.impl laws_szPaper.impl laws_toPaper.impl spec_PaperSays.impl) (Checked.mixed Try.checked) (hp (atT T10 (fun _ => none))) (handAt_ok laws_eqPaper.con (handAt_ok impl_PaperSays.con (handAt_ok laws_toPaper.con (handAt_ok spec_PaperSays.con (handAt_ok laws_szPaper.con handNil_ok))))) (handAt_nat (handAt_nat (handAt_nat (handAt_nat (handAt_nat handNil_nat))))) (handAt_nat (handAt_nat (handAt_nat (handAt_nat (handAt_nat handNil_nat))))) (runOK_of (hp (atT T10 (fun _ => none))) hnp ⟨cutOK_at good_none, trivial⟩ fin) (fun x => ⟨_, (seg10 impl_PaperSays.impl laws_eqPaper.impl laws_szPaper.impl laws_toPaper.impl spec_PaperSays.impl (atT T10 (fun _ => none)) x.1 x.2.1 x.2.2.1 x.2.2.2.1 x.2.2.2.2.1 x.2.2.2.2.2.1 x.2.2.2.2.2.2.1 x.2.2.2.2.2.2.2.1 x.2.2.2.2.2.2.2.2.1 x.2.2.2.2.2.2.2.2.2.1)⟩)
  exact good_first (hp (atT T10 L10)) (runOK_of (hp (atT T10 L10)) hnp ⟨cutOK_at g10, trivial⟩ fin) (fun x => (seg0 impl_PaperSays.impl laws_eqPaper.impl laws_szPaper.impl laws_toPaper.impl spec_PaperSays.impl (atT T10 L10) x.1).trans (by simp only [atT_self] <;> rfl))
end laws_FnExactPaperSays
end Go.Proofs.YtgagmcbeobkfoaaB
