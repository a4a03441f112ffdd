/- The core, part 37: strings.Trim at a cutset of ASCII, told from data to data. -/
import Derived.Test.YtfjnckjkpkhbdaaGreatDoorB36
import Derived.Shelf.Strings.SlTrimAscii
set_option linter.unusedVariables false
namespace Go.Proofs.YtfjnckjkpkhbdaaGreatDoorB
open Go Go.Shelf Go.RowKit

def trimI : Tpl.T ⟨[slotD 0 .str, slotD 1 .str], []⟩ → Option (Tpl.T ⟨[slotD 0 .str], []⟩) := fun x =>
  bif decide ((x.1 : List UInt8).length ≤ 9223372036854775807) && decide ((x.2.1 : List UInt8).length < 4294967281) && (x.2.1 : List UInt8).all (fun b => decide (b.toNat < 128)) then some (Lib.trimS x.1 x.2.1, ()) else none
section
variable {P : Program} {ρ : Ren}
theorem con_trim {f : FuncId} (henter : ∀ args w, (callFunc f args).run P w = .ok (.enter f args) w) (L : Lays.n160 P ρ) (h116 : (P.info? (ρ.t 116)).map (fun i => (i.zero, i.size)) = some (some (.agg (Array.replicate 256 (.bool false))), 256)) (hf : ρ.f 160 = f) :
    Con P f 2 1 0 ⟨[slotD 0 .str, slotD 1 .str], []⟩ ⟨[slotD 0 .str], []⟩ trimI := by
  subst hf
  refine con_flat henter fun w tb vals S x y hk ht hw hS henv hy => ?_
  rw [arr2 hk, arg_str (henv 0), arg_str (henv 1)]
  unfold trimI at hy
  have hc := (cond_some hy).1
  replace hy := (cond_some hy).2
  simp only [Bool.and_eq_true, decide_eq_true_eq] at hc
  simp only [Option.some.injEq] at hy
  subst hy
  obtain ⟨s, cs, ⟨⟩⟩ := x
  have h := Any.strings_Trim_laid L h116 ⟨s.toArray⟩ ⟨cs.toArray⟩ w (by rw [size_mk]; exact hc.1.1) (by rw [size_mk]; exact hc.1.2) (by simpa using Go.Proofs.ascii_of_all hc.2)
  exact h.mono fun e w' ⟨he, hb⟩ => flat_str (by simpa using he) hb

end
end Go.Proofs.YtfjnckjkpkhbdaaGreatDoorB
