/- laws.FnExactTrimmed returns true for every argument, and each argument reads behind the call as it read before. No condition. -/
import Derived.Test.YtgagmcbeobkfoaaRows
import Derived.Test.YtgagmcbeobkfoaaPureTrimmed
import Derived.Test.YtgagmcbeobkfoaaB30
import Derived.WalkKit
import Derived.ProofKit
import Derived.OpenShut
import Derived.ShutString
import Derived.ChangeOld
import Derived.Below
import Derived.SizedLaws
namespace Go.Proofs.YtgagmcbeobkfoaaB
open Go Go.Proofs.Ytgagmcbeobkfoaa
open Go.ChangeShapes Go.WideShapes Go.ChangeAt Go.RowKit
set_option linter.unusedVariables false
namespace row_FnExactTrimmed
theorem own : ownKnob Try.prog.godebug = none := by kernel_rfl
abbrev ty0 : Ty := (.sl (.prod (.int .i64) (.prod (.int .i64) (.prod (.int .i64) (.last (.int .i64))))))
abbrev ty1 : Ty := (.int .i64)
theorem law (y0 : ty0.den) (y1 : ty1.den) (h0 : ty0.wf y0) (h1 : ty1.wf y1) : laws_FnExactTrimmed.impl (y0, y1, ()) = some (true, ()) := laws_FnExactTrimmed.law y0 y1 h0.1
/-- nothing of the caller's is lent -/
def noOwn (W : World) : Own := { o := fun _ => False, s := Old W }
set_option maxRecDepth 100000 in
theorem lifted (os : Os) (started : os.Started) (H : Type) (enc : TypeId × Value → H) :
    ReturnsInHanded {} Try.checked os 7 .any (Rows.fnExactTrimmedSpec.pre6 enc Try.prog Try.f7 Rows.fnExactTrimmedRow.domain false) (Rows.fnExactTrimmedSpec.post enc Try.prog Try.f7 false true false false) := by
  refine returnsInHanded_of_change_sized (C := Try.checked) own started (by kernel_rfl) Try.func7
    (ChangeSpec.witness6 (enc := enc) (C := Try.checked) false ⟨#[], #[.slice none 0 0, .int .i64 0], []⟩ 8 (by kernel_rfl) (by kernel_rfl) (by kernel_rfl) (by kernel_rfl)) ?_
  intro W base args ds gs before hval0 hW hcnd hsz0 _
  have hval : ∀ (j : Nat) t v, Try.f7.params[j]? = some t → args[j]? = some v → Value.okWide Try.prog W .any base t v := hval0
  have hW' := hW
  obtain ⟨p, q, hA0, hV, rfl, hfz, hnd⟩ := hW
  have hA : DataW.TrodAll enc Try.prog W 0 (fun _ => true) true Try.f7.params.toList args.toList ds p := hA0
  rw [Try.params7] at hA hval
  obtain ⟨v0, vs0, d0, ds0, p0, q0, hargs, rfl, rfl, h0, r0⟩ := trodAll_cons hA
  obtain ⟨v1, vs1, d1, ds1, p1, q1, rfl, rfl, rfl, h1, r1⟩ := trodAll_cons r0
  obtain ⟨rfl, rfl, rfl⟩ := trodAll_nil r1
  obtain rfl : args = #[v0, v1] := by cases args; simp_all
  obtain ⟨rfl, rfl⟩ := trodVars_none hV
  obtain ⟨fuel0, h0⟩ := h0
  have hty0 : tyB Try.prog ty0 (.inl 54) = true := by kernel_rfl
  obtain ⟨y0, hy0, hwf0⟩ := trod_reads ty0 _ hty0 _ _ _ h0
  have hy0 := reads_plain (cells_plain (.inl ⟨_, Try.underlying54⟩) (hval 0 54 _ rfl rfl)) hy0
  obtain ⟨fuel1, h1⟩ := h1
  have hty1 : tyB Try.prog ty1 (.inl 3) = true := by kernel_rfl
  obtain ⟨y1, hy1, hwf1⟩ := trod_reads ty1 _ hty1 _ _ _ h1
  have hy1 := reads_plain (cells_plain (.inr (.inl ⟨_, Try.underlying3⟩)) (hval 1 3 _ rfl rfl)) hy1
  have hrel : Rel 2 W (noOwn W) (fun _ => none) (Old W) (mk laws_FnExactTrimmed.pin (y0, y1, ())) ⟨#[v0, v1], []⟩ W := by
    refine ⟨fun t => ?_, rfl, rfl, fun _ _ => rfl, fun id b hb => ?_, fun id id' hv hv' k h1 => ?_, fun k hk => ⟨hk, fun id hv h1 => ?_⟩, fun id hv k h1 => ?_, rfl, rfl, rfl, Nat.le_refl _, fun _ _ _ => rfl, fun k hk => .inl hk, fun i hi => absurd hi (Nat.not_lt_zero i), fun _ _ h => (by cases h), fun _ _ h => (by cases h), trivial⟩
    · by_cases ht0 : t = 0
      · subst ht0
        intro _
        have := cellsOf_rel (μ := fun _ => none) hy0
        exact this.1
      · by_cases ht1 : t = 1
        · subst ht1
          intro _
          have := cellsOf_rel (μ := fun _ => none) hy1
          exact this.1
        · have : (mk laws_FnExactTrimmed.pin (y0, y1, ())).env t = undefA := by
            show upd (upd (fun _ => undefA) 1 _) 0 _ t = undefA
            rw [upd_other _ _ _ _ ht0, upd_other _ _ _ _ ht1]
          rw [this]
          exact fun hk => by cases hk
    · cases hb
    · cases h1
    · cases h1
    · cases h1
  have hcall := laws_FnExactTrimmed.con.calls W (noOwn W) #[v0, v1] (fun _ => none) (Old W) (y0, y1, ()) (true, ()) rfl rfl hrel (law y0 y1 hwf0 hwf1)
  refine hcall.mono fun e W' ⟨us, hus, he, μ', S', hout⟩ => ?_
  subst he
  have hold : Again W W' := fun k hk => hout.frame k hk (fun h => h)
  have hbel : Below W.heap.size W W' := ⟨hout.os, hout.tape, hout.output, hout.grow, hold⟩
  have hres : retV us = .bool true := by
    have h0 := bool_of (b := true) (hout.env 0)
    have hus : us.size = 1 := hus
    unfold retV
    rw [dif_pos hus]
    rw [Array.getD_eq_getD_getElem?, Array.getElem?_append_left (by omega), Array.getElem?_eq_getElem (by omega)] at h0
    exact h0
  rw [hres]
  exact ⟨_, rfl, _, _, _, [], _, [], hW', trodAll_mk1 (shut_bool Try.underlying4 _), (trodAll_cons_mk ⟨fuel0, trod_again hold ty0 _ hty0 _ _ _ h0⟩ (trodAll_cons_mk ⟨fuel1, trod_again hold ty1 _ hty1 _ _ _ h1⟩ trodAll_mk0)), rfl, hbel.frame _, fun h => by cases h⟩
theorem over : Rows.fnExactTrimmedRow.holds Try.pinned (OpenSpec.ofChange Rows.fnExactTrimmedSpec) :=
  OpenClaim.holds_of_wide 7 Try.f7 rfl rfl rfl rfl rfl rfl rfl ⟨rfl, rfl, rfl, rfl, rfl⟩ rfl rfl rfl rfl rfl (by kernel_rfl) Try.func7 (by kernel_rfl)
    (of_decide_eq_true (by kernel_rfl)) (by unfold Func.isWrapper; first | (rw [if_pos (by decide +kernel)]; kernel_rfl) | (rw [if_neg (by decide +kernel)]; exact ⟨rfl, rfl⟩))
    (fun os started H enc _ => lifted os started H enc)
theorem proved : Rows.FnExactTrimmedSaid := over
#print axioms proved
end row_FnExactTrimmed
end Go.Proofs.YtgagmcbeobkfoaaB
namespace Go.Proofs.Ytgagmcbeobkfoaa
/-- The row, under a short name, for the claim. -/
theorem fnExactTrimmed_holds : Rows.FnExactTrimmedSaid := YtgagmcbeobkfoaaB.row_FnExactTrimmed.proved
end Go.Proofs.Ytgagmcbeobkfoaa
