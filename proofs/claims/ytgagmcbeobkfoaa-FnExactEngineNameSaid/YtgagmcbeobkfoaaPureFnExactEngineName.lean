/- The program's EngineName returns what the reference's returns, for every argument. -/
import Derived.Test.YtgagmcbeobkfoaaPFnExactEngineNamex1
namespace Go.Proofs.Ytgagmcbeobkfoaa.Pure
open Go.RowKit Go.Proofs.Ytgagmcbeobkfoaa.PFnExactEngineName Go.Proofs.YtgagmcbeobkfoaaW.PrintWords Go.Proofs.YtgagmcbeobkfoaaW.PrintLast

theorem names_same (a0 : Int) : impl_EngineName.f a0 = spec_EngineName.f a0 := rfl

theorem names_some (a0 : Int) : ∃ s, spec_EngineName.f a0 = some s := by
  unfold spec_EngineName.f spec_l1In.f
  by_cases h1 : a0 ≥ 0
  · rw [if_pos h1]
    by_cases h2 : a0 ≤ 9
    · have hd : decide (a0 ≤ 9) = true := by simpa using h2
      simp only [Option.bind_some, hd, if_true]
      rw [if_pos (by omega), if_pos (by simp; omega)]
      exact ⟨_, rfl⟩
    · have hd : decide (a0 ≤ 9) = false := by simpa using h2
      simp only [Option.bind_some, hd]
      exact ⟨_, rfl⟩
  · rw [if_neg h1]
    exact ⟨_, rfl⟩

theorem FnExactEngineName : laws_FnExactEngineName.Pure := by
  intro a0 _
  unfold laws_FnExactEngineName.f
  obtain ⟨s, hs⟩ := names_some a0
  rw [names_same, hs]
  simp

end Go.Proofs.Ytgagmcbeobkfoaa.Pure
