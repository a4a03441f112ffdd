/- laws.FnEveryExpr returns true for every argument, and each argument reads behind the call as it read before. No condition. -/
import Derived.Test.YtfjnckjkpkhbdaaGreatDoorRows
import Derived.Test.YtfjnckjkpkhbdaaGreatDoorPureFnEveryExpr
import Derived.Test.YtfjnckjkpkhbdaaGreatDoorB30
import Derived.WalkKit
import Derived.ProofKit
import Derived.OpenShut
import Derived.ShutString
import Derived.ChangeOld
import Derived.Below
import Derived.SizedLaws
import Derived.Test.YtfjnckjkpkhbdaaGreatDoorTie
import Derived.Test.YtfjnckjkpkhbdaaGreatDoorCards
import Derived.Test.YtfjnckjkpkhbdaaGreatDoorB35
import Derived.LaidMore
import Derived.SevenTiedAt
import Derived.Lib.LaidU8
import Derived.MakeChecks
import Derived.Handed
import Derived.Lay
namespace Go.Proofs.YtfjnckjkpkhbdaaGreatDoorB
open Go Go.Proofs.YtfjnckjkpkhbdaaGreatDoor
open Go.ChangeShapes Go.WideShapes Go.ChangeAt Go.RowKit
set_option linter.unusedVariables false
namespace row_FnEveryExpr
theorem own : ownKnob Tryz.prog.godebug = none := by kernel_rfl
abbrev ty0 : Ty := (.sl (.int .u8))
abbrev ty1 : Ty := (.sl (.int .u8))
theorem law (y0 : ty0.den) (y1 : ty1.den) (h0 : ty0.wf y0) (h1 : ty1.wf y1) : laws_FnEveryExpr.impl (y0, y1, ()) = some (true, ()) := laws_FnEveryExpr.law y0 y1 (fun x hx => u8_wf (h0.2 x hx))
/-- the door's own heap meets the condition -/
theorem door_met (os : Os) (args : Array Value) : laidMetH Tryz.prog Rows.fnEveryExprRow.laid ((World.laidAll Tryz.prog os Rows.fnEveryExprRow.laid).forCall (fun _ _ => 0) ⟨#[], args, []⟩).memory := by
  rw [MakeChecks.laidMetH_plain _ _ _ (by kernel_rfl)]
  exact laidMet_laidAll _ (by kernel_rfl) (by kernel_rfl)
/-- the blocks of the tables -/
def tabOfW (W : World) : Nat → Option Obj := fun k => bif Nat.blt k 4 then W.heap[k]? else none
theorem tabOfW_at {W : World} {k : Nat} {o : Obj} (h : tabOfW W k = some o) : W.heap[k]? = some o := by
  unfold tabOfW at h
  exact (cond_some h).2
theorem cell_again {W w : World} (hw : ∀ k o, tabOfW W k = some o → w.heap[k]? = some o) {g : Nat} (hg : Nat.blt g 4 = true) {v : Value} (h : W.cell? ⟨g, 0, none⟩ = some v) : w.cell? ⟨g, 0, none⟩ = some v := by
  unfold World.cell? at h ⊢
  split at h
  · rename_i hb
    rw [hw g _ (by unfold tabOfW; rw [hg]; exact hb)]
    exact h
  · cases h
theorem int_of_ok {P : Program} {w : World} {r : Reach} {base : Nat} {t : TypeId} {v : Value} {k : IntKind} (hu : P.underlying t = some (.int k)) (h : Cell.ok P w r base t v) : ∃ m, v = .int k m := by
  unfold Cell.ok at h
  rw [hu] at h
  cases v <;> simp only at h
  obtain ⟨rfl, _⟩ := h
  exact ⟨_, rfl⟩
theorem cell_of_row {w : World} {g : Nat} {cs : Array Value} {t : TypeId} {z : Nat × Nat} {v : Value} (h : w.heap[g]? = some (.cells cs t z)) (hv : cs[0]? = some v) : w.cell? ⟨g, 0, none⟩ = some v := by
  unfold World.cell?
  rw [h]
  exact hv
theorem get_of_size {cs : Array Value} {x : Value} (h : cs.size = #[x].size) : ∃ v, cs[0]? = some v := by
  have : 0 < cs.size := by rw [h]; exact Nat.zero_lt_one
  exact ⟨cs[0], by simp [this]⟩
theorem ok_one {P : Program} {w : World} {t : TypeId} {cs : Array Value} {v : Value} {k : IntKind} (hc : P.cellTypes P.depth t = some [t]) (hu : P.underlying t = some (.int k)) (h : Row.ok P w .any 0 t cs) (hv : cs[0]? = some v) : ∃ m, v = .int k m := by
  obtain ⟨ts, hts, _, hall⟩ := h
  rw [hc] at hts
  obtain rfl := Option.some.inj hts
  obtain ⟨u, hu', hok⟩ := hall 0 v hv
  obtain rfl : t = u := Option.some.inj hu'
  exact int_of_ok hu hok
theorem max_of {W : World} (hsh : W.ShapedOpen Tryz.prog) : ∃ m, W.cell? ⟨1, 0, none⟩ = some (.int .i64 m) := by
  have h0 : ((begin Tryz.prog (fun _ _ => 0) default).world.heap[1]?).bind Obj.row? = some (#[.int .i64 0], 3) := by kernel_rfl
  have hlt : 1 < Tryz.prog.globals.size := Nat.le_of_ble_eq_true (by kernel_rfl)
  obtain ⟨cs, hh, hs, hr⟩ := hsh.1 1 _ 3 hlt h0
  obtain ⟨v, hv⟩ := get_of_size hs
  have hc : Tryz.prog.cellTypes Tryz.prog.depth 3 = some [3] := by kernel_rfl
  obtain ⟨m, rfl⟩ := ok_one hc Tryz.underlying3 (hr (by kernel_rfl)) hv
  exact ⟨m, cell_of_row hh hv⟩
def ifaceAt (i : Nat) (n : String) : Bool := match Rows.fnEveryExprRow.laid[i]? with
  | some (m, .iface _ _) => m == n
  | _ => false
theorem ifaceAt_mem {i : Nat} {n : String} (h : ifaceAt i n = true) : ∃ s d, (n, DataW.iface s d) ∈ Rows.fnEveryExprRow.laid := by
  unfold ifaceAt at h
  split at h
  · rename_i m s d e
    have := eq_of_beq h
    subst this
    exact ⟨s, d, List.mem_of_getElem? e⟩
  · cases h
theorem err_of {W : World} {n : String} {i g t : Nat} {ms : Array (String × TypeId)} (hL : laidMet Tryz.prog Rows.fnEveryExprRow.laid W) (hm : ifaceAt i n = true) (hg0 : Tryz.prog.globalNamed n = some g) (ht0 : (Tryz.prog.globals[g]?).map (·.type) = some t) (hi : Tryz.prog.underlying t = some (.interface ms)) : isErr W g := by
  obtain ⟨s, d, hm⟩ := ifaceAt_mem hm
  obtain ⟨g', t', cs, fuel, p, hg, ht, hv, hd⟩ := Lib.laidMet.reads hL hm
  obtain rfl := Option.some.inj (hg0.symm.trans hg)
  obtain rfl := Option.some.inj (ht0.symm.trans ht)
  obtain ⟨_, u, v, e, _⟩ := iface_of_trod hi hd
  have h0 := World.var?_cell hg0 hv 0
  refine ⟨.iface u v, ?_, .inr ⟨u, v, rfl⟩⟩
  have : cs[0]? = some (.iface u v) := by rw [← Array.getElem?_toList, e]; rfl
  simpa [this] using h0
theorem tabs_of {W : World} (hL : laidMetH Tryz.prog Rows.fnEveryExprRow.laid W) (hsh : W.ShapedOpen Tryz.prog) : Tabs (tabOfW W) := by
  intro w hw
  rw [MakeChecks.laidMetH_plain _ _ _ (by kernel_rfl)] at hL
  have again : ∀ g, Nat.blt g 4 = true → isErr W g → isErr w g := fun g hg ⟨ev, h1, h2⟩ => ⟨ev, cell_again hw hg h1, h2⟩
  obtain ⟨m, hm⟩ := max_of hsh
  refine ⟨?_, ⟨m, cell_again hw rfl hm⟩, again 2 rfl (err_of hL (n := "strconv.ErrSyntax") (i := 5) (by kernel_rfl) (by kernel_rfl) (by kernel_rfl) Tryz.underlying86), again 3 rfl (err_of hL (n := "strconv.ErrRange") (i := 4) (by kernel_rfl) (by kernel_rfl) (by kernel_rfl) Tryz.underlying86)⟩
  obtain ⟨g, t, cs, fuel, p, hg, ht, hv, hd⟩ := Lib.laidMet.reads hL (n := powName) (d := Lib.tabData .u64 Lib.pow10Tab) (List.mem_of_getElem? (i := 2) (by kernel_rfl))
  have hg0 : Tryz.prog.globalNamed powName = some 0 := by kernel_rfl
  obtain rfl := Option.some.inj (hg0.symm.trans hg)
  obtain rfl := Option.some.inj ((show (Tryz.prog.globals[0]?).map (·.type) = some 221 by kernel_rfl).symm.trans ht)
  have hcs := Lib.cells_of_tab Tryz.underlying221 Tryz.underlying202 (by kernel_rfl) (by kernel_rfl) hd
  unfold World.var? at hv ⊢
  rw [hg0, Option.bind_some] at hv ⊢
  cases ho : W.heap[0]? with
  | none => rw [ho] at hv; cases hv
  | some o =>
    rw [hw 0 o (by unfold tabOfW; exact ho)]
    rw [ho] at hv
    rw [hv]
    exact congrArg some (Array.toList_inj.1 hcs)
/-- nothing of the caller's is lent -/
def noOwn (W : World) : Own := { o := fun _ => False, s := Old W, tb := tabOfW W }
set_option maxRecDepth 100000 in
theorem lifted (os : Os) (started : os.Started) (H : Type) (enc : TypeId × Value → H) :
    ReturnsInHanded {} Tryz.checked os 7 .any (fun w args => (Rows.fnEveryExprSpec.pre enc Tryz.prog Tryz.f7 Rows.fnEveryExprRow.domain false w args ∧ laidMetH Tryz.prog Rows.fnEveryExprRow.laid w) ∧ sizedMet enc Tryz.prog Tryz.f7 (OpenSpec.ofChange Rows.fnEveryExprSpec) false w args) (Rows.fnEveryExprSpec.post enc Tryz.prog Tryz.f7 false true false false) := by
  refine handed_all (C := Tryz.checked) (X := fun w _ => laidMetH Tryz.prog Rows.fnEveryExprRow.laid w) (fun _ _ _ hh h => h.of_heap hh) own started (by kernel_rfl) Tryz.func7
    (ChangeSpec.witness_shaped (enc := enc) (C := Tryz.checked) (os := os) (X := fun w _ => laidMetH Tryz.prog Rows.fnEveryExprRow.laid w) false (World.laidAll Tryz.prog os Rows.fnEveryExprRow.laid) #[.slice none 0 0, .slice none 0 0] 8 rfl (World.shaped_of_ZipB (by kernel_rfl) (by kernel_rfl)) (by kernel_rfl) (by kernel_rfl) (by kernel_rfl) (door_met os _)) ?_
  intro W base args ds gs before hval0 hW hcnd hsz0 hL hsh
  have htabs := tabs_of hL hsh
  have hval : ∀ (j : Nat) t v, Tryz.f7.params[j]? = some t → args[j]? = some v → Value.okWide Tryz.prog W .any base t v := hval0
  have hW' := hW
  obtain ⟨p, q, hA0, hV, rfl, hfz, hnd⟩ := hW
  have hA : DataW.TrodAll enc Tryz.prog W 0 (fun _ => true) true Tryz.f7.params.toList args.toList ds p := hA0
  rw [Tryz.params7] at hA hval
  obtain ⟨v0, vs0, d0, ds0, p0, q0, hargs, rfl, rfl, h0, r0⟩ := trodAll_cons hA
  obtain ⟨v1, vs1, d1, ds1, p1, q1, rfl, rfl, rfl, h1, r1⟩ := trodAll_cons r0
  obtain ⟨rfl, rfl, rfl⟩ := trodAll_nil r1
  obtain rfl : args = #[v0, v1] := by cases args; simp_all
  obtain ⟨rfl, rfl⟩ := trodVars_none hV
  obtain ⟨fuel0, h0⟩ := h0
  have hty0 : tyB Tryz.prog ty0 (.inl 42) = true := by kernel_rfl
  obtain ⟨y0, hy0, hwf0⟩ := trod_reads ty0 _ hty0 _ _ _ h0
  have hy0 := reads_plain (cells_plain (.inl ⟨_, Tryz.underlying42⟩) (hval 0 42 _ rfl rfl)) hy0
  obtain ⟨fuel1, h1⟩ := h1
  have hty1 : tyB Tryz.prog ty1 (.inl 42) = true := by kernel_rfl
  obtain ⟨y1, hy1, hwf1⟩ := trod_reads ty1 _ hty1 _ _ _ h1
  have hy1 := reads_plain (cells_plain (.inl ⟨_, Tryz.underlying42⟩) (hval 1 42 _ rfl rfl)) hy1
  have hrel : Rel 2 W (noOwn W) (fun _ => none) (Old W) (mk laws_FnEveryExpr.pin (y0, y1, ())) ⟨#[v0, v1], []⟩ W := by
    refine ⟨fun t => ?_, rfl, rfl, fun _ _ => rfl, fun id b hb => ?_, fun id id' hv hv' k h1 => ?_, fun k hk => ⟨hk, fun id hv h1 => ?_⟩, fun id hv k h1 => ?_, rfl, rfl, rfl, Nat.le_refl _, fun _ _ _ => rfl, fun k hk => .inl hk, fun i hi => absurd hi (Nat.not_lt_zero i), fun _ _ h => (by cases h), fun k o hk => ⟨tabOfW_at hk, fun id hv h => (by cases h)⟩, htabs⟩
    · by_cases ht0 : t = 0
      · subst ht0
        intro _
        have := cellsOf_rel (μ := fun _ => none) hy0
        exact this.1
      · by_cases ht1 : t = 1
        · subst ht1
          intro _
          have := cellsOf_rel (μ := fun _ => none) hy1
          exact this.1
        · have : (mk laws_FnEveryExpr.pin (y0, y1, ())).env t = undefA := by
            show upd (upd (fun _ => undefA) 1 _) 0 _ t = undefA
            rw [upd_other _ _ _ _ ht0, upd_other _ _ _ _ ht1]
          rw [this]
          exact fun hk => by cases hk
    · cases hb
    · cases h1
    · cases h1
    · cases h1
  have hcall := laws_FnEveryExpr.con.calls W (noOwn W) #[v0, v1] (fun _ => none) (Old W) (y0, y1, ()) (true, ()) rfl rfl hrel (law y0 y1 hwf0 hwf1)
  refine hcall.mono fun e W' ⟨us, hus, he, μ', S', hout⟩ => ?_
  subst he
  have hold : Again W W' := fun k hk => hout.frame k hk (fun h => h)
  have hbel : Below W.heap.size W W' := ⟨hout.os, hout.tape, hout.output, hout.grow, hold⟩
  have hres : retV us = .bool true := by
    have h0 := bool_of (b := true) (hout.env 0)
    have hus : us.size = 1 := hus
    unfold retV
    rw [dif_pos hus]
    rw [Array.getD_eq_getD_getElem?, Array.getElem?_append_left (by omega), Array.getElem?_eq_getElem (by omega)] at h0
    exact h0
  rw [hres]
  exact ⟨_, rfl, _, _, _, [], _, [], hW', trodAll_mk1 (shut_bool Tryz.underlying4 _), (trodAll_cons_mk ⟨fuel0, trod_again hold ty0 _ hty0 _ _ _ h0⟩ (trodAll_cons_mk ⟨fuel1, trod_again hold ty1 _ hty1 _ _ _ h1⟩ trodAll_mk0)), rfl, hbel.frame _, fun h => by cases h⟩
theorem over : Rows.fnEveryExprRow.holds Tryz.pinned (OpenSpec.ofChange Rows.fnEveryExprSpec) :=
  OpenClaim.holds_of_wide 7 Tryz.f7 rfl rfl rfl rfl rfl rfl rfl ⟨rfl, rfl, rfl, rfl, rfl⟩ rfl rfl rfl rfl rfl (by kernel_rfl) Tryz.func7 (by kernel_rfl)
    (of_decide_eq_true (by kernel_rfl)) (by unfold Func.isWrapper; first | (rw [if_pos (by decide +kernel)]; kernel_rfl) | (rw [if_neg (by decide +kernel)]; exact ⟨rfl, rfl⟩))
    (fun os started H enc _ => lifted os started H enc)
theorem card : Rows.FnEveryExprCardSaid :=
  Claim7.holds_tied_plain_at .later [] [.data,.data,.data,.data,.sentinel,.sentinel,.pinned] true Rows.fnEveryExprCard.stood.harness Rows.fnEveryExprCard.stood.looks over (fun _ h => by cases h) (by kernel_rfl) (fun _ h => by cases h) fnEveryExpr_row_tie rfl ⟨rfl, rfl⟩ (by kernel_rfl) (by decide)
    (fun f fn hf hfn => by
      obtain rfl : f = 7 := Option.some.inj ((show Tryz.prog.funcNamed Rows.fnEveryExprRow.func = some 7 by kernel_rfl).symm.trans hf) |>.symm
      obtain rfl : fn = Tryz.f7 := (Option.some.inj (Tryz.func7.symm.trans hfn)).symm
      exact ⟨by kernel_rfl, fun j t ht => by
        rw [Tryz.params7] at ht
        have hm : t ∈ [42, 42] := by simpa using Array.mem_of_getElem? ht
        have hall : ([42, 42].all fun u => !Tryz.prog.wantsStandIn u) = true := by kernel_rfl
        exact (show Tryz.prog.wantsStandIn t = false by simpa using List.all_eq_true.1 hall t hm)⟩)
    (by kernel_rfl)
theorem proved : Rows.FnEveryExprCardSaid := card
#print axioms proved
end row_FnEveryExpr
end Go.Proofs.YtfjnckjkpkhbdaaGreatDoorB
namespace Go.Proofs.YtfjnckjkpkhbdaaGreatDoor
/-- The row, under a short name, for the claim. -/
theorem fnEveryExpr_holds : Rows.FnEveryExprCardSaid := YtfjnckjkpkhbdaaGreatDoorB.row_FnEveryExpr.proved
end Go.Proofs.YtfjnckjkpkhbdaaGreatDoor
