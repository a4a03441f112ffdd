/-
  No cell of these rows narrows 'for every input' (looked for: loops, veiled, ifaces, maps, wideKeys, modest, calm, conditions, laid).
  DERIVED. THE GIVEN ROWS OF THIS SEAT. 5 by the template 'for every input the law returns true; each argument reads behind the call as it read before'; 0 by the template 'total and deterministic' (their statements: YtgagmcbeobkfoaaTotals.lean).
  GIVEN WITH THE SEED: the statements are not yours to turn. If you find one false, say at which input.
  Laid BY PROGRAM, IN A SANDBOX (cutbox-rows.mjs): the forced cells as the released guide's own fill.sh prints them over the translation 153660cf91622a3b… (all of the seat's roots in one cut). By AI agents, Wed Nov 11 2026. No macro, syntax, notation, axiom, sorry.
-/
import Derived.Test.YtgagmcbeobkfoaaChecked
import GoSem.Claim
import GoSem.ClaimJoined
import GoSem.ClaimMapViews
import Derived.JoinedTies
import Derived.KernelRfl
namespace Go.Proofs.Ytgagmcbeobkfoaa
/- THE CELL 'sum', in the pinned program and in every row, IS THE sha256 OF THE DUMP (.gsa) THAT YtgagmcbeobkfoaaProg.lean LOADS. Nothing in Lean hashes anything: it is a label: what it is worth is what the hold of that sum in a sandbox is worth. -/
noncomputable def Try.pinned : Pinned := { name := "ytgagmcbeobkfoaa", sum := "153660cf91622a3b0eabcf55d4cc08fa504d88e1ba6e4b8a7b0902d44a9ea37e", checked := Try.checked }
namespace Rows
def none {H : Type} : Left H := { results := [], args := [] }

/-- 'laws.FnExactEngineName': WHATEVER THE INPUT: true; the input reads as it did. -/
def fnExactEngineNameSpec : ChangeSpec := { name := "fnExactEngineName", fn := fun _ => fun
  | [d] => { results := [.lit (.bool true)], args := [d] }
  | _ => none }
def fnExactEngineNameRow : OpenClaim := { program := "ytgagmcbeobkfoaa", sum := "153660cf91622a3b0eabcf55d4cc08fa504d88e1ba6e4b8a7b0902d44a9ea37e", func := "loop.example/wholecheck/laws.FnExactEngineName", spec := "fnExactEngineName", apart := false }
def FnExactEngineNameSaid : Prop := fnExactEngineNameRow.holds Try.pinned (OpenSpec.ofChange fnExactEngineNameSpec)

/-- ITS FALSE NEIGHBOUR: 'it returns false'. Refute it at one input. -/
def fnExactEngineNameWrong : ChangeSpec := { name := "fnExactEngineName", fn := fun _ => fun
  | [d] => { results := [.lit (.bool false)], args := [d] }
  | _ => none }
def FnExactEngineNameWrongFalsely : Prop := fnExactEngineNameRow.holds Try.pinned (OpenSpec.ofChange fnExactEngineNameWrong)

/-- 'laws.FnExactPaperSays': WHATEVER THE INPUT: true; the input reads as it did. -/
def fnExactPaperSaysSpec : ChangeSpec := { name := "fnExactPaperSays", fn := fun _ => fun
  | [d] => { results := [.lit (.bool true)], args := [d] }
  | _ => none }
def fnExactPaperSaysRow : OpenClaim := { program := "ytgagmcbeobkfoaa", sum := "153660cf91622a3b0eabcf55d4cc08fa504d88e1ba6e4b8a7b0902d44a9ea37e", func := "loop.example/wholecheck/laws.FnExactPaperSays", spec := "fnExactPaperSays", apart := false }
def FnExactPaperSaysSaid : Prop := fnExactPaperSaysRow.holds Try.pinned (OpenSpec.ofChange fnExactPaperSaysSpec)

/-- ITS FALSE NEIGHBOUR: 'it returns false'. Refute it at one input. -/
def fnExactPaperSaysWrong : ChangeSpec := { name := "fnExactPaperSays", fn := fun _ => fun
  | [d] => { results := [.lit (.bool false)], args := [d] }
  | _ => none }
def FnExactPaperSaysWrongFalsely : Prop := fnExactPaperSaysRow.holds Try.pinned (OpenSpec.ofChange fnExactPaperSaysWrong)

/-- 'laws.FnExactPushed': WHATEVER THE INPUT: true; the input reads as it did. -/
def fnExactPushedSpec : ChangeSpec := { name := "fnExactPushed", fn := fun _ => fun
  | [d1, d2] => { results := [.lit (.bool true)], args := [d1, d2] }
  | _ => none }
def fnExactPushedRow : OpenClaim := { program := "ytgagmcbeobkfoaa", sum := "153660cf91622a3b0eabcf55d4cc08fa504d88e1ba6e4b8a7b0902d44a9ea37e", func := "loop.example/wholecheck/laws.FnExactPushed", spec := "fnExactPushed", recurses := true, apart := false }
def FnExactPushedSaid : Prop := fnExactPushedRow.holds Try.pinned (OpenSpec.ofChange fnExactPushedSpec)

/-- ITS FALSE NEIGHBOUR: 'it returns false'. Refute it at one input. -/
def fnExactPushedWrong : ChangeSpec := { name := "fnExactPushed", fn := fun _ => fun
  | [d1, d2] => { results := [.lit (.bool false)], args := [d1, d2] }
  | _ => none }
def FnExactPushedWrongFalsely : Prop := fnExactPushedRow.holds Try.pinned (OpenSpec.ofChange fnExactPushedWrong)

/-- 'laws.FnExactWithSome': WHATEVER THE INPUT: true; the input reads as it did. -/
def fnExactWithSomeSpec : ChangeSpec := { name := "fnExactWithSome", fn := fun _ => fun
  | [d1, d2] => { results := [.lit (.bool true)], args := [d1, d2] }
  | _ => none }
def fnExactWithSomeRow : OpenClaim := { program := "ytgagmcbeobkfoaa", sum := "153660cf91622a3b0eabcf55d4cc08fa504d88e1ba6e4b8a7b0902d44a9ea37e", func := "loop.example/wholecheck/laws.FnExactWithSome", spec := "fnExactWithSome", unfollowed := true, recurses := true, apart := false }
def FnExactWithSomeSaid : Prop := fnExactWithSomeRow.holds Try.pinned (OpenSpec.ofChange fnExactWithSomeSpec)

/-- ITS FALSE NEIGHBOUR: 'it returns false'. Refute it at one input. -/
def fnExactWithSomeWrong : ChangeSpec := { name := "fnExactWithSome", fn := fun _ => fun
  | [d1, d2] => { results := [.lit (.bool false)], args := [d1, d2] }
  | _ => none }
def FnExactWithSomeWrongFalsely : Prop := fnExactWithSomeRow.holds Try.pinned (OpenSpec.ofChange fnExactWithSomeWrong)

/-- 'laws.FnExactTrimmed': WHATEVER THE INPUT: true; the input reads as it did. -/
def fnExactTrimmedSpec : ChangeSpec := { name := "fnExactTrimmed", fn := fun _ => fun
  | [d1, d2] => { results := [.lit (.bool true)], args := [d1, d2] }
  | _ => none }
def fnExactTrimmedRow : OpenClaim := { program := "ytgagmcbeobkfoaa", sum := "153660cf91622a3b0eabcf55d4cc08fa504d88e1ba6e4b8a7b0902d44a9ea37e", func := "loop.example/wholecheck/laws.FnExactTrimmed", spec := "fnExactTrimmed", unfollowed := true, recurses := true, apart := false }
def FnExactTrimmedSaid : Prop := fnExactTrimmedRow.holds Try.pinned (OpenSpec.ofChange fnExactTrimmedSpec)

/-- ITS FALSE NEIGHBOUR: 'it returns false'. Refute it at one input. -/
def fnExactTrimmedWrong : ChangeSpec := { name := "fnExactTrimmed", fn := fun _ => fun
  | [d1, d2] => { results := [.lit (.bool false)], args := [d1, d2] }
  | _ => none }
def FnExactTrimmedWrongFalsely : Prop := fnExactTrimmedRow.holds Try.pinned (OpenSpec.ofChange fnExactTrimmedWrong)

/- THE SECOND FORM. 'bulk': how many values and letters a reading holds, each counted each time it is reached (what is shared counts as often as it is met; a slice's spare places count too). A statement '..UptoSaid' is the law's where the arguments, and the package variables that the reading takes, are together of bulk at most 1048576: NARROWER than '..Said'. Prove '..Said' where nothing that the law and all that it calls make is longer than what came in: it says more and counts as full. Else prove '..UptoSaid'. A law counts once. -/
mutual
def uptoBulk {H : Type} : DataW H → Nat
  | .lit (.string bytes) => bytes.length + 1
  | .lit _ => 1
  | .nil => 1
  | .ptr d => uptoBulk d + 1
  | .slice elems spare => uptoBulkAll elems + uptoBulkAll spare + 1
  | .agg parts => uptoBulkAll parts + 1
  | .iface _ d => uptoBulk d + 1
  | .map entries => uptoBulkEntries entries + 1
  | .held _ => 1
def uptoBulkAll {H : Type} : List (DataW H) → Nat
  | [] => 0
  | d :: r => uptoBulk d + uptoBulkAll r
def uptoBulkEntries {H : Type} : List (Lit × DataW H) → Nat
  | [] => 0
  | x :: r => uptoBulkEntry x + uptoBulkEntries r
def uptoBulkEntry {H : Type} : Lit × DataW H → Nat
  | (.string bytes, d) => bytes.length + uptoBulk d + 1
  | (_, d) => uptoBulk d + 1
 end
def uptoSmall : (H : Type) → List (DataW H) → Bool := fun _ ds => decide (uptoBulkAll ds ≤ 1048576)
def OpenSpec.upto (s : _root_.Go.ChangeSpec) : _root_.Go.OpenSpec := { _root_.Go.OpenSpec.ofChange s with cond := some uptoSmall }

/-- 'laws.FnExactEngineName', WHERE WHAT IT READS IS OF BULK AT MOST 1048576: true; the input reads as it did. -/
def fnExactEngineNameUptoRow : OpenClaim := { program := "ytgagmcbeobkfoaa", sum := "153660cf91622a3b0eabcf55d4cc08fa504d88e1ba6e4b8a7b0902d44a9ea37e", func := "loop.example/wholecheck/laws.FnExactEngineName", spec := "fnExactEngineName", apart := false, narrowed := true }
def FnExactEngineNameUptoSaid : Prop := fnExactEngineNameUptoRow.holds Try.pinned (OpenSpec.upto fnExactEngineNameSpec)

/-- 'laws.FnExactPaperSays', WHERE WHAT IT READS IS OF BULK AT MOST 1048576: true; the input reads as it did. -/
def fnExactPaperSaysUptoRow : OpenClaim := { program := "ytgagmcbeobkfoaa", sum := "153660cf91622a3b0eabcf55d4cc08fa504d88e1ba6e4b8a7b0902d44a9ea37e", func := "loop.example/wholecheck/laws.FnExactPaperSays", spec := "fnExactPaperSays", apart := false, narrowed := true }
def FnExactPaperSaysUptoSaid : Prop := fnExactPaperSaysUptoRow.holds Try.pinned (OpenSpec.upto fnExactPaperSaysSpec)

/-- 'laws.FnExactPushed', WHERE WHAT IT READS IS OF BULK AT MOST 1048576: true; the input reads as it did. -/
def fnExactPushedUptoRow : OpenClaim := { program := "ytgagmcbeobkfoaa", sum := "153660cf91622a3b0eabcf55d4cc08fa504d88e1ba6e4b8a7b0902d44a9ea37e", func := "loop.example/wholecheck/laws.FnExactPushed", spec := "fnExactPushed", recurses := true, apart := false, narrowed := true }
def FnExactPushedUptoSaid : Prop := fnExactPushedUptoRow.holds Try.pinned (OpenSpec.upto fnExactPushedSpec)

/-- 'laws.FnExactWithSome', WHERE WHAT IT READS IS OF BULK AT MOST 1048576: true; the input reads as it did. -/
def fnExactWithSomeUptoRow : OpenClaim := { program := "ytgagmcbeobkfoaa", sum := "153660cf91622a3b0eabcf55d4cc08fa504d88e1ba6e4b8a7b0902d44a9ea37e", func := "loop.example/wholecheck/laws.FnExactWithSome", spec := "fnExactWithSome", unfollowed := true, recurses := true, apart := false, narrowed := true }
def FnExactWithSomeUptoSaid : Prop := fnExactWithSomeUptoRow.holds Try.pinned (OpenSpec.upto fnExactWithSomeSpec)

/-- 'laws.FnExactTrimmed', WHERE WHAT IT READS IS OF BULK AT MOST 1048576: true; the input reads as it did. -/
def fnExactTrimmedUptoRow : OpenClaim := { program := "ytgagmcbeobkfoaa", sum := "153660cf91622a3b0eabcf55d4cc08fa504d88e1ba6e4b8a7b0902d44a9ea37e", func := "loop.example/wholecheck/laws.FnExactTrimmed", spec := "fnExactTrimmed", unfollowed := true, recurses := true, apart := false, narrowed := true }
def FnExactTrimmedUptoSaid : Prop := fnExactTrimmedUptoRow.holds Try.pinned (OpenSpec.upto fnExactTrimmedSpec)

end Rows
end Go.Proofs.Ytgagmcbeobkfoaa
