/- laws.FnExactPaperSays returns true for every argument, and the argument reads behind the call as it read before. No condition. -/
import Derived.Test.YtgagmcbeobkfoaaRows
import Derived.Test.YtgagmcbeobkfoaaPurePaperSays
import Derived.Test.YtgagmcbeobkfoaaB28
import Derived.WalkKit
import Derived.ProofKit
import Derived.OpenShut
import Derived.ShutString
import Derived.ChangeOld
import Derived.Below
import Derived.SizedLaws
namespace Go.Proofs.YtgagmcbeobkfoaaB
open Go Go.Proofs.Ytgagmcbeobkfoaa
open Go.ChangeShapes Go.WideShapes Go.ChangeAt Go.RowKit
set_option linter.unusedVariables false
theorem own : ownKnob Try.prog.godebug = none := by kernel_rfl

abbrev tyPaper : Ty := (.prod (.int .i64) (.prod (.sl (.int .i64)) (.prod (.int .i64) (.last (.prod (.sl (.sl (.int .i64))) (.last (.sl (.int .i64))))))))
theorem law (y : tyPaper.den) (hy : tyPaper.wf y) : laws_FnExactPaperSays.impl (y, ()) = some (true, ()) :=
  paperSays_law y hy.2.1.1 hy.2.2.2.1.1 (fun z hz => (hy.2.2.2.1.2 z hz).1) hy.2.2.2.2.1

/-- nothing of the caller's is lent -/
def noOwn (W : World) : Own := { o := fun _ => False, s := Old W }

set_option maxRecDepth 100000 in
theorem lifted (os : Os) (started : os.Started) (H : Type) (enc : TypeId × Value → H) :
    ReturnsInHanded {} Try.checked os 4 .any (Rows.fnExactPaperSaysSpec.pre6 enc Try.prog Try.f4 Rows.fnExactPaperSaysRow.domain false) (Rows.fnExactPaperSaysSpec.post enc Try.prog Try.f4 false true false false) := by
  refine returnsInHanded_of_change_sized (C := Try.checked) own started (by kernel_rfl) Try.func4
    (ChangeSpec.witness6 (enc := enc) (C := Try.checked) false ⟨#[], #[.agg #[.int .i64 0, .slice none 0 0, .int .i64 0, .slice none 0 0, .slice none 0 0]], []⟩ 8 (by kernel_rfl) (by kernel_rfl) (by kernel_rfl) (by kernel_rfl)) ?_
  intro W base args ds gs before hval0 hW hcnd hsz0 _
  have hval : ∀ (j : Nat) t v, Try.f4.params[j]? = some t → args[j]? = some v → Value.okWide Try.prog W .any base t v := hval0
  have hW' := hW
  obtain ⟨p, q, hA0, hV, rfl, hfz, hnd⟩ := hW
  have hA : DataW.TrodAll enc Try.prog W 0 (fun _ => true) true Try.f4.params.toList args.toList ds p := hA0
  rw [Try.params4] at hA hval
  obtain ⟨v0, vs0, d0, ds0, p0, q0, hargs, rfl, rfl, h0, r0⟩ := trodAll_cons hA
  obtain ⟨rfl, rfl, rfl⟩ := trodAll_nil r0
  obtain rfl : args = #[v0] := by cases args; simp_all
  obtain ⟨rfl, rfl⟩ := trodVars_none hV
  obtain ⟨fuel, h0⟩ := h0
  have hty : tyB Try.prog tyPaper (.inl 29) = true := by kernel_rfl
  obtain ⟨y, hy, hwf⟩ := trod_reads tyPaper _ hty _ _ _ h0
  have hagg : ∃ cs, v0 = .agg cs := by
    have := hval 0 29 v0 rfl rfl
    unfold Value.okWide at this
    split at this
    · obtain ⟨cs, e, _⟩ := this; exact ⟨cs, e⟩
    · obtain ⟨cs, e, _⟩ := this; exact ⟨cs, e⟩
    · rename_i h1 h2
      exact (h1 _ Try.underlying29).elim
  obtain ⟨cs, rfl⟩ := hagg
  have hrel : Rel 1 W (noOwn W) (fun _ => none) (Old W) (mk laws_FnExactPaperSays.pin (y, ())) ⟨#[.agg cs], []⟩ W := by
    refine ⟨fun t => ?_, rfl, rfl, fun _ _ => rfl, fun id b hb => ?_, fun id id' hv hv' k h1 => ?_, fun k hk => ⟨hk, fun id hv h1 => ?_⟩, fun id hv k h1 => ?_, rfl, rfl, rfl, Nat.le_refl _, fun _ _ _ => rfl, fun k hk => .inl hk, fun i hi => absurd hi (Nat.not_lt_zero i)⟩
    · by_cases ht : t = 0
      · subst ht
        intro _
        refine ⟨cs, rfl, ?_⟩
        have := cellsOf_rel (μ := fun _ => none) hy
        show All2 _ (cellsOf tyPaper y ++ []) cs.toList
        rw [List.append_nil]
        exact this
      · have : (mk laws_FnExactPaperSays.pin (y, ())).env t = undefA := by
          show upd (fun _ => undefA) 0 _ t = undefA
          exact upd_other _ _ _ _ ht
        rw [this]
        exact fun hk => by cases hk
    · cases hb
    · cases h1
    · cases h1
    · cases h1
  have hcall := laws_FnExactPaperSays.con.calls W (noOwn W) #[.agg cs] (fun _ => none) (Old W) (y, ()) (true, ()) rfl rfl hrel (law y hwf)
  refine hcall.mono fun e W' ⟨us, hus, he, μ', S', hout⟩ => ?_
  subst he
  have hold : Again W W' := fun k hk => hout.frame k hk (fun h => h)
  have hbel : Below W.heap.size W W' := ⟨hout.os, hout.tape, hout.output, hout.grow, hold⟩
  have hres : retV us = .bool true := by
    have h0 := bool_of (b := true) (hout.env 0)
    have hus : us.size = 1 := hus
    unfold retV
    rw [dif_pos hus]
    rw [Array.getD_eq_getD_getElem?, Array.getElem?_append_left (by omega), Array.getElem?_eq_getElem (by omega)] at h0
    exact h0
  rw [hres]
  exact ⟨_, rfl, _, _, _, [], _, [], hW', trodAll_mk1 (shut_bool Try.underlying4 _), trodAll_cons_mk ⟨fuel, trod_again hold tyPaper _ hty _ _ _ h0⟩ trodAll_mk0, rfl, hbel.frame _, fun h => by cases h⟩
theorem over : Rows.fnExactPaperSaysRow.holds Try.pinned (OpenSpec.ofChange Rows.fnExactPaperSaysSpec) :=
  OpenClaim.holds_of_wide 4 Try.f4 rfl rfl rfl rfl rfl rfl rfl ⟨rfl, rfl, rfl, rfl, rfl⟩ rfl rfl rfl rfl rfl (by kernel_rfl) Try.func4 (by kernel_rfl)
    (of_decide_eq_true (by kernel_rfl)) (by unfold Func.isWrapper; first | (rw [if_pos (by decide +kernel)]; kernel_rfl) | (rw [if_neg (by decide +kernel)]; exact ⟨rfl, rfl⟩))
    (fun os started H enc _ => lifted os started H enc)
theorem proved : Rows.FnExactPaperSaysSaid := over
#print axioms proved
end Go.Proofs.YtgagmcbeobkfoaaB
namespace Go.Proofs.Ytgagmcbeobkfoaa
/-- The row, under a short name, for the claim. -/
theorem fnExactPaperSays_holds : Rows.FnExactPaperSaysSaid := YtgagmcbeobkfoaaB.proved
end Go.Proofs.Ytgagmcbeobkfoaa
