/- laws.FnContrary returns true for every argument, and each argument reads behind the call as it read before. No condition. -/
import Derived.Test.YtjjepjfjikefiaaRows
import Derived.Test.YtjjepjfjikefiaaPureFnContrary
import Derived.Test.YtjjepjfjikefiaaB30
import Derived.WalkKit
import Derived.ProofKit
import Derived.OpenShut
import Derived.ShutString
import Derived.ChangeOld
import Derived.Below
import Derived.SizedLaws
namespace Go.Proofs.YtjjepjfjikefiaaB
open Go Go.Proofs.Ytjjepjfjikefiaa
open Go.ChangeShapes Go.WideShapes Go.ChangeAt Go.RowKit
set_option linter.unusedVariables false
namespace row_FnContrary
theorem own : ownKnob Try.prog.godebug = none := by kernel_rfl
abbrev ty0 : Ty := (.sl (.int .u8))
theorem law (y0 : ty0.den) (h0 : ty0.wf y0) : laws_FnContrary.impl (y0, ()) = some (true, ()) := laws_FnContrary.law y0 (fun x hx => u8_wf (h0.2 x hx))
/-- nothing of the caller's is lent -/
def noOwn (W : World) : Own := { o := fun _ => False, s := Old W }
set_option maxRecDepth 100000 in
theorem lifted (os : Os) (started : os.Started) (H : Type) (enc : TypeId × Value → H) :
    ReturnsInHanded {} Try.checked os 3 .any (Rows.fnContrarySpec.pre6 enc Try.prog Try.f3 Rows.fnContraryRow.domain false) (Rows.fnContrarySpec.post enc Try.prog Try.f3 false true false false) := by
  refine returnsInHanded_of_change_sized (C := Try.checked) own started (by kernel_rfl) Try.func3
    (ChangeSpec.witness6 (enc := enc) (C := Try.checked) false ⟨#[], #[.slice none 0 0], []⟩ 8 (by kernel_rfl) (by kernel_rfl) (by kernel_rfl) (by kernel_rfl)) ?_
  intro W base args ds gs before hval0 hW hcnd hsz0 _
  have hval : ∀ (j : Nat) t v, Try.f3.params[j]? = some t → args[j]? = some v → Value.okWide Try.prog W .any base t v := hval0
  have hW' := hW
  obtain ⟨p, q, hA0, hV, rfl, hfz, hnd⟩ := hW
  have hA : DataW.TrodAll enc Try.prog W 0 (fun _ => true) true Try.f3.params.toList args.toList ds p := hA0
  rw [Try.params3] at hA hval
  obtain ⟨v0, vs0, d0, ds0, p0, q0, hargs, rfl, rfl, h0, r0⟩ := trodAll_cons hA
  obtain ⟨rfl, rfl, rfl⟩ := trodAll_nil r0
  obtain rfl : args = #[v0] := by cases args; simp_all
  obtain ⟨rfl, rfl⟩ := trodVars_none hV
  obtain ⟨fuel0, h0⟩ := h0
  have hty0 : tyB Try.prog ty0 (.inl 22) = true := by kernel_rfl
  obtain ⟨y0, hy0, hwf0⟩ := trod_reads ty0 _ hty0 _ _ _ h0
  have hy0 := reads_plain (cells_plain (.inl ⟨_, Try.underlying22⟩) (hval 0 22 _ rfl rfl)) hy0
  have hrel : Rel 1 W (noOwn W) (fun _ => none) (Old W) (mk laws_FnContrary.pin (y0, ())) ⟨#[v0], []⟩ W := by
    refine ⟨fun t => ?_, rfl, rfl, fun _ _ => rfl, fun id b hb => ?_, fun id id' hv hv' k h1 => ?_, fun k hk => ⟨hk, fun id hv h1 => ?_⟩, fun id hv k h1 => ?_, rfl, rfl, rfl, Nat.le_refl _, fun _ _ _ => rfl, fun k hk => .inl hk, fun i hi => absurd hi (Nat.not_lt_zero i), fun _ _ h => (by cases h), fun _ _ h => (by cases h), trivial⟩
    · by_cases ht0 : t = 0
      · subst ht0
        intro _
        have := cellsOf_rel (μ := fun _ => none) hy0
        exact this.1
      · have : (mk laws_FnContrary.pin (y0, ())).env t = undefA := by
          show upd (fun _ => undefA) 0 _ t = undefA
          rw [upd_other _ _ _ _ ht0]
        rw [this]
        exact fun hk => by cases hk
    · cases hb
    · cases h1
    · cases h1
    · cases h1
  have hcall := laws_FnContrary.con.calls W (noOwn W) #[v0] (fun _ => none) (Old W) (y0, ()) (true, ()) rfl rfl hrel (law y0 hwf0)
  refine hcall.mono fun e W' ⟨us, hus, he, μ', S', hout⟩ => ?_
  subst he
  have hold : Again W W' := fun k hk => hout.frame k hk (fun h => h)
  have hbel : Below W.heap.size W W' := ⟨hout.os, hout.tape, hout.output, hout.grow, hold⟩
  have hres : retV us = .bool true := by
    have h0 := bool_of (b := true) (hout.env 0)
    have hus : us.size = 1 := hus
    unfold retV
    rw [dif_pos hus]
    rw [Array.getD_eq_getD_getElem?, Array.getElem?_append_left (by omega), Array.getElem?_eq_getElem (by omega)] at h0
    exact h0
  rw [hres]
  exact ⟨_, rfl, _, _, _, [], _, [], hW', trodAll_mk1 (shut_bool Try.underlying4 _), (trodAll_cons_mk ⟨fuel0, trod_again hold ty0 _ hty0 _ _ _ h0⟩ trodAll_mk0), rfl, hbel.frame _, fun h => by cases h⟩
theorem over : Rows.fnContraryRow.holds Try.pinned (OpenSpec.ofChange Rows.fnContrarySpec) :=
  OpenClaim.holds_of_wide 3 Try.f3 rfl rfl rfl rfl rfl rfl rfl ⟨rfl, rfl, rfl, rfl, rfl⟩ rfl rfl rfl rfl rfl (by kernel_rfl) Try.func3 (by kernel_rfl)
    (of_decide_eq_true (by kernel_rfl)) (by unfold Func.isWrapper; first | (rw [if_pos (by decide +kernel)]; kernel_rfl) | (rw [if_neg (by decide +kernel)]; exact ⟨rfl, rfl⟩))
    (fun os started H enc _ => lifted os started H enc)
theorem proved : Rows.FnContrarySaid := over
#print axioms proved
end row_FnContrary
end Go.Proofs.YtjjepjfjikefiaaB
namespace Go.Proofs.Ytjjepjfjikefiaa
/-- The row, under a short name, for the claim. -/
theorem fnContrary_holds : Rows.FnContrarySaid := YtjjepjfjikefiaaB.row_FnContrary.proved
end Go.Proofs.Ytjjepjfjikefiaa
