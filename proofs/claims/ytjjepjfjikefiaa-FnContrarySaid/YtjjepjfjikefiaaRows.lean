/-
  No cell of these rows narrows 'for every input' (looked for: loops, veiled, ifaces, maps, wideKeys, modest, calm, conditions, laid).
  DERIVED. THE GIVEN ROWS OF THIS SEAT. 4 by the template 'for every input the law returns true; each argument reads behind the call as it read before'; 0 by the template 'total and deterministic' (their statements: YtjjepjfjikefiaaTotals.lean).
  GIVEN WITH THE SEED: the statements are not yours to turn. If you find one false, say at which input.
  Laid BY PROGRAM, IN A SANDBOX (cutbox-rows.mjs): the forced cells as the released guide's own fill.sh prints them over the translation 5270f61634198876… (all of the seat's roots in one cut). By AI agents, Wed Nov 11 2026. No macro, syntax, notation, axiom, sorry.
-/
import Derived.Test.YtjjepjfjikefiaaChecked
import GoSem.Claim
import GoSem.ClaimJoined
import GoSem.ClaimMapViews
import Derived.JoinedTies
import Derived.KernelRfl
namespace Go.Proofs.Ytjjepjfjikefiaa
/- THE CELL 'sum', in the pinned program and in every row, IS THE sha256 OF THE DUMP (.gsa) THAT YtjjepjfjikefiaaProg.lean LOADS. Nothing in Lean hashes anything: it is a label: what it is worth is what the hold of that sum in a sandbox is worth. -/
noncomputable def Try.pinned : Pinned := { name := "ytjjepjfjikefiaa", sum := "5270f6163419887623a6c6c5de100d4bb6e11153850e278013931611c64c65c4", checked := Try.checked }
namespace Rows
def none {H : Type} : Left H := { results := [], args := [] }

/-- 'laws.FnContrary': WHATEVER THE INPUT: true; the input reads as it did. -/
def fnContrarySpec : ChangeSpec := { name := "fnContrary", fn := fun _ => fun
  | [d] => { results := [.lit (.bool true)], args := [d] }
  | _ => none }
def fnContraryRow : OpenClaim := { program := "ytjjepjfjikefiaa", sum := "5270f6163419887623a6c6c5de100d4bb6e11153850e278013931611c64c65c4", func := "loop.example/wholecheck/laws.FnContrary", spec := "fnContrary", unfollowed := true, recurses := true, apart := false }
def FnContrarySaid : Prop := fnContraryRow.holds Try.pinned (OpenSpec.ofChange fnContrarySpec)

/-- ITS FALSE NEIGHBOUR: 'it returns false'. Refute it at one input. -/
def fnContraryWrong : ChangeSpec := { name := "fnContrary", fn := fun _ => fun
  | [d] => { results := [.lit (.bool false)], args := [d] }
  | _ => none }
def FnContraryWrongFalsely : Prop := fnContraryRow.holds Try.pinned (OpenSpec.ofChange fnContraryWrong)

/-- 'laws.FnExactTellApart': WHATEVER THE INPUT: true; the input reads as it did. -/
def fnExactTellApartSpec : ChangeSpec := { name := "fnExactTellApart", fn := fun _ => fun
  | [d1, d2, d3, d4] => { results := [.lit (.bool true)], args := [d1, d2, d3, d4] }
  | _ => none }
def fnExactTellApartRow : OpenClaim := { program := "ytjjepjfjikefiaa", sum := "5270f6163419887623a6c6c5de100d4bb6e11153850e278013931611c64c65c4", func := "loop.example/wholecheck/laws.FnExactTellApart", spec := "fnExactTellApart", unfollowed := true, recurses := true, apart := false }
def FnExactTellApartSaid : Prop := fnExactTellApartRow.holds Try.pinned (OpenSpec.ofChange fnExactTellApartSpec)

/-- ITS FALSE NEIGHBOUR: 'it returns false'. Refute it at one input. -/
def fnExactTellApartWrong : ChangeSpec := { name := "fnExactTellApart", fn := fun _ => fun
  | [d1, d2, d3, d4] => { results := [.lit (.bool false)], args := [d1, d2, d3, d4] }
  | _ => none }
def FnExactTellApartWrongFalsely : Prop := fnExactTellApartRow.holds Try.pinned (OpenSpec.ofChange fnExactTellApartWrong)

/-- 'laws.FnExactChainsOf': WHATEVER THE INPUT: true; the input reads as it did. -/
def fnExactChainsOfSpec : ChangeSpec := { name := "fnExactChainsOf", fn := fun _ => fun
  | [d] => { results := [.lit (.bool true)], args := [d] }
  | _ => none }
def fnExactChainsOfRow : OpenClaim := { program := "ytjjepjfjikefiaa", sum := "5270f6163419887623a6c6c5de100d4bb6e11153850e278013931611c64c65c4", func := "loop.example/wholecheck/laws.FnExactChainsOf", spec := "fnExactChainsOf", unfollowed := true, recurses := true, apart := false }
def FnExactChainsOfSaid : Prop := fnExactChainsOfRow.holds Try.pinned (OpenSpec.ofChange fnExactChainsOfSpec)

/-- ITS FALSE NEIGHBOUR: 'it returns false'. Refute it at one input. -/
def fnExactChainsOfWrong : ChangeSpec := { name := "fnExactChainsOf", fn := fun _ => fun
  | [d] => { results := [.lit (.bool false)], args := [d] }
  | _ => none }
def FnExactChainsOfWrongFalsely : Prop := fnExactChainsOfRow.holds Try.pinned (OpenSpec.ofChange fnExactChainsOfWrong)

/-- 'laws.FnChainsOf': WHATEVER THE INPUT: true; the input reads as it did. -/
def fnChainsOfSpec : ChangeSpec := { name := "fnChainsOf", fn := fun _ => fun
  | [d] => { results := [.lit (.bool true)], args := [d] }
  | _ => none }
def fnChainsOfRow : OpenClaim := { program := "ytjjepjfjikefiaa", sum := "5270f6163419887623a6c6c5de100d4bb6e11153850e278013931611c64c65c4", func := "loop.example/wholecheck/laws.FnChainsOf", spec := "fnChainsOf", unfollowed := true, recurses := true, apart := false }
def FnChainsOfSaid : Prop := fnChainsOfRow.holds Try.pinned (OpenSpec.ofChange fnChainsOfSpec)

/-- ITS FALSE NEIGHBOUR: 'it returns false'. Refute it at one input. -/
def fnChainsOfWrong : ChangeSpec := { name := "fnChainsOf", fn := fun _ => fun
  | [d] => { results := [.lit (.bool false)], args := [d] }
  | _ => none }
def FnChainsOfWrongFalsely : Prop := fnChainsOfRow.holds Try.pinned (OpenSpec.ofChange fnChainsOfWrong)

/- THE SECOND FORM. 'bulk': how many values and letters a reading holds, each counted each time it is reached (what is shared counts as often as it is met; a slice's spare places count too). A statement '..UptoSaid' is the law's where the arguments, and the package variables that the reading takes, are together of bulk at most 1048576: NARROWER than '..Said'. Prove '..Said' where nothing that the law and all that it calls make is longer than what came in: it says more and counts as full. Else prove '..UptoSaid'. A law counts once. -/
mutual
def uptoBulk {H : Type} : DataW H → Nat
  | .lit (.string bytes) => bytes.length + 1
  | .lit _ => 1
  | .nil => 1
  | .ptr d => uptoBulk d + 1
  | .slice elems spare => uptoBulkAll elems + uptoBulkAll spare + 1
  | .agg parts => uptoBulkAll parts + 1
  | .iface _ d => uptoBulk d + 1
  | .map entries => uptoBulkEntries entries + 1
  | .held _ => 1
def uptoBulkAll {H : Type} : List (DataW H) → Nat
  | [] => 0
  | d :: r => uptoBulk d + uptoBulkAll r
def uptoBulkEntries {H : Type} : List (Lit × DataW H) → Nat
  | [] => 0
  | x :: r => uptoBulkEntry x + uptoBulkEntries r
def uptoBulkEntry {H : Type} : Lit × DataW H → Nat
  | (.string bytes, d) => bytes.length + uptoBulk d + 1
  | (_, d) => uptoBulk d + 1
 end
def uptoSmall : (H : Type) → List (DataW H) → Bool := fun _ ds => decide (uptoBulkAll ds ≤ 1048576)
def OpenSpec.upto (s : _root_.Go.ChangeSpec) : _root_.Go.OpenSpec := { _root_.Go.OpenSpec.ofChange s with cond := some uptoSmall }

/-- 'laws.FnContrary', WHERE WHAT IT READS IS OF BULK AT MOST 1048576: true; the input reads as it did. -/
def fnContraryUptoRow : OpenClaim := { program := "ytjjepjfjikefiaa", sum := "5270f6163419887623a6c6c5de100d4bb6e11153850e278013931611c64c65c4", func := "loop.example/wholecheck/laws.FnContrary", spec := "fnContrary", unfollowed := true, recurses := true, apart := false, narrowed := true }
def FnContraryUptoSaid : Prop := fnContraryUptoRow.holds Try.pinned (OpenSpec.upto fnContrarySpec)

/-- 'laws.FnExactTellApart', WHERE WHAT IT READS IS OF BULK AT MOST 1048576: true; the input reads as it did. -/
def fnExactTellApartUptoRow : OpenClaim := { program := "ytjjepjfjikefiaa", sum := "5270f6163419887623a6c6c5de100d4bb6e11153850e278013931611c64c65c4", func := "loop.example/wholecheck/laws.FnExactTellApart", spec := "fnExactTellApart", unfollowed := true, recurses := true, apart := false, narrowed := true }
def FnExactTellApartUptoSaid : Prop := fnExactTellApartUptoRow.holds Try.pinned (OpenSpec.upto fnExactTellApartSpec)

/-- 'laws.FnExactChainsOf', WHERE WHAT IT READS IS OF BULK AT MOST 1048576: true; the input reads as it did. -/
def fnExactChainsOfUptoRow : OpenClaim := { program := "ytjjepjfjikefiaa", sum := "5270f6163419887623a6c6c5de100d4bb6e11153850e278013931611c64c65c4", func := "loop.example/wholecheck/laws.FnExactChainsOf", spec := "fnExactChainsOf", unfollowed := true, recurses := true, apart := false, narrowed := true }
def FnExactChainsOfUptoSaid : Prop := fnExactChainsOfUptoRow.holds Try.pinned (OpenSpec.upto fnExactChainsOfSpec)

/-- 'laws.FnChainsOf', WHERE WHAT IT READS IS OF BULK AT MOST 1048576: true; the input reads as it did. -/
def fnChainsOfUptoRow : OpenClaim := { program := "ytjjepjfjikefiaa", sum := "5270f6163419887623a6c6c5de100d4bb6e11153850e278013931611c64c65c4", func := "loop.example/wholecheck/laws.FnChainsOf", spec := "fnChainsOf", unfollowed := true, recurses := true, apart := false, narrowed := true }
def FnChainsOfUptoSaid : Prop := fnChainsOfUptoRow.holds Try.pinned (OpenSpec.upto fnChainsOfSpec)

end Rows
end Go.Proofs.Ytjjepjfjikefiaa
