/- laws.FnExactWriteModel returns true for every argument, and each argument reads behind the call as it read before. No condition. -/
import Derived.Test.YtfjnckjkpkhbdaaGreatDoorRows
import Derived.Test.YtfjnckjkpkhbdaaGreatDoorPureWriteModel
import Derived.Test.YtfjnckjkpkhbdaaGreatDoorB30
import Derived.WalkKit
import Derived.ProofKit
import Derived.OpenShut
import Derived.ShutString
import Derived.ChangeOld
import Derived.Below
import Derived.SizedLaws
import Derived.Test.YtfjnckjkpkhbdaaGreatDoorTie
import Derived.Test.YtfjnckjkpkhbdaaGreatDoorCards
import Derived.Test.YtfjnckjkpkhbdaaGreatDoorB35
import Derived.LaidMore
import Derived.SevenTiedAt
import Derived.Lib.LaidU8
import Derived.MakeChecks
import Derived.Handed
import Derived.Lay
namespace Go.Proofs.YtfjnckjkpkhbdaaGreatDoorB
open Go Go.Proofs.YtfjnckjkpkhbdaaGreatDoor
open Go.ChangeShapes Go.WideShapes Go.ChangeAt Go.RowKit
set_option linter.unusedVariables false
namespace row_FnExactWriteModel
theorem own : ownKnob Tryz.prog.godebug = none := by kernel_rfl
abbrev ty0 : Ty := (.prod (.sl .str) (.prod (.prod (.sl (.prod (.int .i64) (.prod (.int .i64) (.last (.int .i64))))) (.last (.sl (.prod (.sl (.prod (.int .i64) (.prod (.int .i64) (.prod (.int .i64) (.last (.int .i64)))))) (.prod (.sl (.int .i64)) (.last (.sl (.sl (.prod (.int .i64) (.prod (.int .i64) (.prod (.int .i64) (.last (.int .i64))))))))))))) (.last (.sl (.sl (.prod (.int .i64) (.prod (.int .i64) (.prod (.int .i64) (.last (.int .i64))))))))))
theorem law (y0 : ty0.den) (h0 : ty0.wf y0) : laws_FnExactWriteModel.impl (y0, ()) = some (true, ()) := laws_FnExactWriteModel.law y0 h0
/-- the door's own heap meets the condition -/
theorem door_met (os : Os) (args : Array Value) : laidMetH Tryz.prog Rows.fnExactWriteModelRow.laid ((World.laidAll Tryz.prog os Rows.fnExactWriteModelRow.laid).forCall (fun _ _ => 0) ⟨#[], args, []⟩).memory := by
  rw [MakeChecks.laidMetH_plain _ _ _ (by kernel_rfl)]
  exact laidMet_laidAll _ (by kernel_rfl) (by kernel_rfl)
/-- the blocks of the tables -/
def tabOfW (W : World) : Nat → Option Obj := fun k => bif Nat.beq k 0 then W.heap[k]? else none
theorem tabOfW_at {W : World} {k : Nat} {o : Obj} (h : tabOfW W k = some o) : W.heap[k]? = some o := by
  unfold tabOfW at h
  exact (cond_some h).2
theorem tabs_of {W : World} (hL : laidMetH Tryz.prog Rows.fnExactWriteModelRow.laid W) (hsh : W.ShapedOpen Tryz.prog) : Tabs (tabOfW W) := by
  intro w hw
  rw [MakeChecks.laidMetH_plain _ _ _ (by kernel_rfl)] at hL
  obtain ⟨g, t, cs, fuel, p, hg, ht, hv, hd⟩ := Lib.laidMet.reads hL (n := powName) (d := Lib.tabData .u64 Lib.pow10Tab) (List.mem_of_getElem? (i := 2) (by kernel_rfl))
  have hg0 : Tryz.prog.globalNamed powName = some 0 := by kernel_rfl
  obtain rfl := Option.some.inj (hg0.symm.trans hg)
  obtain rfl := Option.some.inj ((show (Tryz.prog.globals[0]?).map (·.type) = some 221 by kernel_rfl).symm.trans ht)
  have hcs := Lib.cells_of_tab Tryz.underlying221 Tryz.underlying202 (by kernel_rfl) (by kernel_rfl) hd
  unfold World.var? at hv ⊢
  rw [hg0, Option.bind_some] at hv ⊢
  cases ho : W.heap[0]? with
  | none => rw [ho] at hv; cases hv
  | some o =>
    rw [hw 0 o ho]
    rw [ho] at hv
    rw [hv]
    exact congrArg some (Array.toList_inj.1 hcs)
/-- nothing of the caller's is lent -/
def noOwn (W : World) : Own := { o := fun _ => False, s := Old W, tb := tabOfW W }
set_option maxRecDepth 100000 in
theorem lifted (os : Os) (started : os.Started) (H : Type) (enc : TypeId × Value → H) :
    ReturnsInHanded {} Tryz.checked os 3 .any (fun w args => (Rows.fnExactWriteModelSpec.pre enc Tryz.prog Tryz.f3 Rows.fnExactWriteModelRow.domain false w args ∧ laidMetH Tryz.prog Rows.fnExactWriteModelRow.laid w) ∧ sizedMet enc Tryz.prog Tryz.f3 (OpenSpec.ofChange Rows.fnExactWriteModelSpec) false w args) (Rows.fnExactWriteModelSpec.post enc Tryz.prog Tryz.f3 false true false false) := by
  refine handed_all (C := Tryz.checked) (X := fun w _ => laidMetH Tryz.prog Rows.fnExactWriteModelRow.laid w) (fun _ _ _ hh h => h.of_heap hh) own started (by kernel_rfl) Tryz.func3
    (ChangeSpec.witness_shaped (enc := enc) (C := Tryz.checked) (os := os) (X := fun w _ => laidMetH Tryz.prog Rows.fnExactWriteModelRow.laid w) false (World.laidAll Tryz.prog os Rows.fnExactWriteModelRow.laid) #[.agg #[.slice none 0 0, .slice none 0 0, .slice none 0 0, .slice none 0 0]] 8 rfl (World.shaped_of_ZipB (by kernel_rfl) (by kernel_rfl)) (by kernel_rfl) (by kernel_rfl) (by kernel_rfl) (door_met os _)) ?_
  intro W base args ds gs before hval0 hW hcnd hsz0 hL hsh
  have htabs := tabs_of hL hsh
  have hval : ∀ (j : Nat) t v, Tryz.f3.params[j]? = some t → args[j]? = some v → Value.okWide Tryz.prog W .any base t v := hval0
  have hW' := hW
  obtain ⟨p, q, hA0, hV, rfl, hfz, hnd⟩ := hW
  have hA : DataW.TrodAll enc Tryz.prog W 0 (fun _ => true) true Tryz.f3.params.toList args.toList ds p := hA0
  rw [Tryz.params3] at hA hval
  obtain ⟨v0, vs0, d0, ds0, p0, q0, hargs, rfl, rfl, h0, r0⟩ := trodAll_cons hA
  obtain ⟨rfl, rfl, rfl⟩ := trodAll_nil r0
  obtain rfl : args = #[v0] := by cases args; simp_all
  obtain ⟨rfl, rfl⟩ := trodVars_none hV
  obtain ⟨fuel0, h0⟩ := h0
  have hty0 : tyB Tryz.prog ty0 (.inl 29) = true := by kernel_rfl
  obtain ⟨y0, hy0, hwf0⟩ := trod_reads ty0 _ hty0 _ _ _ h0
  have hagg0 : ∃ cs, v0 = .agg cs := by
    have := hval 0 29 v0 rfl rfl
    unfold Value.okWide at this
    split at this
    · obtain ⟨cs, e, _⟩ := this; exact ⟨cs, e⟩
    · obtain ⟨cs, e, _⟩ := this; exact ⟨cs, e⟩
    · rename_i h1 h2
      exact (h1 _ Tryz.underlying29).elim
  obtain ⟨cs0, rfl⟩ := hagg0
  have hrel : Rel 1 W (noOwn W) (fun _ => none) (Old W) (mk laws_FnExactWriteModel.pin (y0, ())) ⟨#[.agg cs0], []⟩ W := by
    refine ⟨fun t => ?_, rfl, rfl, fun _ _ => rfl, fun id b hb => ?_, fun id id' hv hv' k h1 => ?_, fun k hk => ⟨hk, fun id hv h1 => ?_⟩, fun id hv k h1 => ?_, rfl, rfl, rfl, Nat.le_refl _, fun _ _ _ => rfl, fun k hk => .inl hk, fun i hi => absurd hi (Nat.not_lt_zero i), fun _ _ h => (by cases h), fun k o hk => ⟨tabOfW_at hk, fun id hv h => (by cases h)⟩, htabs⟩
    · by_cases ht0 : t = 0
      · subst ht0
        intro _
        refine ⟨cs0, rfl, ?_⟩
        have := cellsOf_rel (μ := fun _ => none) hy0
        show All2 _ (cellsOf ty0 y0 ++ []) cs0.toList
        rw [List.append_nil]
        exact this
      · have : (mk laws_FnExactWriteModel.pin (y0, ())).env t = undefA := by
          show upd (fun _ => undefA) 0 _ t = undefA
          rw [upd_other _ _ _ _ ht0]
        rw [this]
        exact fun hk => by cases hk
    · cases hb
    · cases h1
    · cases h1
    · cases h1
  have hcall := laws_FnExactWriteModel.con.calls W (noOwn W) #[.agg cs0] (fun _ => none) (Old W) (y0, ()) (true, ()) rfl rfl hrel (law y0 hwf0)
  refine hcall.mono fun e W' ⟨us, hus, he, μ', S', hout⟩ => ?_
  subst he
  have hold : Again W W' := fun k hk => hout.frame k hk (fun h => h)
  have hbel : Below W.heap.size W W' := ⟨hout.os, hout.tape, hout.output, hout.grow, hold⟩
  have hres : retV us = .bool true := by
    have h0 := bool_of (b := true) (hout.env 0)
    have hus : us.size = 1 := hus
    unfold retV
    rw [dif_pos hus]
    rw [Array.getD_eq_getD_getElem?, Array.getElem?_append_left (by omega), Array.getElem?_eq_getElem (by omega)] at h0
    exact h0
  rw [hres]
  exact ⟨_, rfl, _, _, _, [], _, [], hW', trodAll_mk1 (shut_bool Tryz.underlying4 _), (trodAll_cons_mk ⟨fuel0, trod_again hold ty0 _ hty0 _ _ _ h0⟩ trodAll_mk0), rfl, hbel.frame _, fun h => by cases h⟩
theorem over : Rows.fnExactWriteModelRow.holds Tryz.pinned (OpenSpec.ofChange Rows.fnExactWriteModelSpec) :=
  OpenClaim.holds_of_wide 3 Tryz.f3 rfl rfl rfl rfl rfl rfl rfl ⟨rfl, rfl, rfl, rfl, rfl⟩ rfl rfl rfl rfl rfl (by kernel_rfl) Tryz.func3 (by kernel_rfl)
    (of_decide_eq_true (by kernel_rfl)) (by unfold Func.isWrapper; first | (rw [if_pos (by decide +kernel)]; kernel_rfl) | (rw [if_neg (by decide +kernel)]; exact ⟨rfl, rfl⟩))
    (fun os started H enc _ => lifted os started H enc)
theorem card : Rows.FnExactWriteModelCardSaid :=
  Claim7.holds_tied_plain_at .later [] [.data,.data,.data,.data,.pinned] true Rows.fnExactWriteModelCard.stood.harness Rows.fnExactWriteModelCard.stood.looks over (fun _ h => by cases h) (by kernel_rfl) (fun _ h => by cases h) fnExactWriteModel_row_tie rfl ⟨rfl, rfl⟩ (by kernel_rfl) (by decide)
    (fun f fn hf hfn => by
      obtain rfl : f = 3 := Option.some.inj ((show Tryz.prog.funcNamed Rows.fnExactWriteModelRow.func = some 3 by kernel_rfl).symm.trans hf) |>.symm
      obtain rfl : fn = Tryz.f3 := (Option.some.inj (Tryz.func3.symm.trans hfn)).symm
      exact ⟨by kernel_rfl, fun j t ht => by
        rw [Tryz.params3] at ht
        have hm : t ∈ [29] := by simpa using Array.mem_of_getElem? ht
        have hall : ([29].all fun u => !Tryz.prog.wantsStandIn u) = true := by kernel_rfl
        exact (show Tryz.prog.wantsStandIn t = false by simpa using List.all_eq_true.1 hall t hm)⟩)
    (by kernel_rfl)
theorem proved : Rows.FnExactWriteModelCardSaid := card
#print axioms proved
end row_FnExactWriteModel
end Go.Proofs.YtfjnckjkpkhbdaaGreatDoorB
namespace Go.Proofs.YtfjnckjkpkhbdaaGreatDoor
/-- The row, under a short name, for the claim. -/
theorem fnExactWriteModel_holds : Rows.FnExactWriteModelCardSaid := YtfjnckjkpkhbdaaGreatDoorB.row_FnExactWriteModel.proved
end Go.Proofs.YtfjnckjkpkhbdaaGreatDoor
