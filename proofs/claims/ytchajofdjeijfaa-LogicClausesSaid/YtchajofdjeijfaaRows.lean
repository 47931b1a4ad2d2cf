/-
  No cell of these rows narrows 'for every input' (looked for: loops, veiled, ifaces, maps, wideKeys, modest, calm, conditions, laid).
  DERIVED. THE GIVEN ROWS OF THIS SEAT. 10 by the template 'for every input the law returns true; each argument reads behind the call as it read before'; 0 by the template 'total and deterministic' (their statements: YtchajofdjeijfaaTotals.lean).
  GIVEN WITH THE SEED: the statements are not yours to turn. If you find one false, say at which input.
  Laid BY PROGRAM, IN A SANDBOX (cutbox-rows.mjs): the forced cells as the released guide's own fill.sh prints them over the translation 5ecf39d07dea5b86… (all of the seat's roots in one cut). By AI agents, Wed Nov 11 2026. No macro, syntax, notation, axiom, sorry.
-/
import Derived.Test.YtchajofdjeijfaaChecked
import GoSem.Claim
import GoSem.ClaimJoined
import GoSem.ClaimMapViews
import Derived.JoinedTies
import Derived.KernelRfl
namespace Go.Proofs.Ytchajofdjeijfaa
/- THE CELL 'sum', in the pinned program and in every row, IS THE sha256 OF THE DUMP (.gsa) THAT YtchajofdjeijfaaProg.lean LOADS. Nothing in Lean hashes anything: it is a label: what it is worth is what the hold of that sum in a sandbox is worth. -/
noncomputable def Try.pinned : Pinned := { name := "ytchajofdjeijfaa", sum := "5ecf39d07dea5b862073f6e1d0e6661eed3f2f8a9eeb79cb0e014634602ef9d0", checked := Try.checked }
namespace Rows
def none {H : Type} : Left H := { results := [], args := [] }

/-- 'secateurlaw07.LinearPrunes': WHATEVER THE INPUT: true; the input reads as it did. -/
def linearPrunesSpec : ChangeSpec := { name := "linearPrunes", fn := fun _ => fun
  | [d] => { results := [.lit (.bool true)], args := [d] }
  | _ => none }
def linearPrunesRow : OpenClaim := { program := "ytchajofdjeijfaa", sum := "5ecf39d07dea5b862073f6e1d0e6661eed3f2f8a9eeb79cb0e014634602ef9d0", func := "secateur/secateurlaw07.LinearPrunes", spec := "linearPrunes", apart := false }
def LinearPrunesSaid : Prop := linearPrunesRow.holds Try.pinned (OpenSpec.ofChange linearPrunesSpec)

/-- ITS FALSE NEIGHBOUR: 'it returns false'. Refute it at one input. -/
def linearPrunesWrong : ChangeSpec := { name := "linearPrunes", fn := fun _ => fun
  | [d] => { results := [.lit (.bool false)], args := [d] }
  | _ => none }
def LinearPrunesWrongFalsely : Prop := linearPrunesRow.holds Try.pinned (OpenSpec.ofChange linearPrunesWrong)

/-- 'secateurlaw07.LinearKnows': WHATEVER THE INPUT: true; the input reads as it did. -/
def linearKnowsSpec : ChangeSpec := { name := "linearKnows", fn := fun _ => fun
  | [d] => { results := [.lit (.bool true)], args := [d] }
  | _ => none }
def linearKnowsRow : OpenClaim := { program := "ytchajofdjeijfaa", sum := "5ecf39d07dea5b862073f6e1d0e6661eed3f2f8a9eeb79cb0e014634602ef9d0", func := "secateur/secateurlaw07.LinearKnows", spec := "linearKnows", apart := false }
def LinearKnowsSaid : Prop := linearKnowsRow.holds Try.pinned (OpenSpec.ofChange linearKnowsSpec)

/-- ITS FALSE NEIGHBOUR: 'it returns false'. Refute it at one input. -/
def linearKnowsWrong : ChangeSpec := { name := "linearKnows", fn := fun _ => fun
  | [d] => { results := [.lit (.bool false)], args := [d] }
  | _ => none }
def LinearKnowsWrongFalsely : Prop := linearKnowsRow.holds Try.pinned (OpenSpec.ofChange linearKnowsWrong)

/-- 'secateurlaw07.LinearSound': WHATEVER THE INPUT: true; the input reads as it did. -/
def linearSoundSpec : ChangeSpec := { name := "linearSound", fn := fun _ => fun
  | [d] => { results := [.lit (.bool true)], args := [d] }
  | _ => none }
def linearSoundRow : OpenClaim := { program := "ytchajofdjeijfaa", sum := "5ecf39d07dea5b862073f6e1d0e6661eed3f2f8a9eeb79cb0e014634602ef9d0", func := "secateur/secateurlaw07.LinearSound", spec := "linearSound", apart := false }
def LinearSoundSaid : Prop := linearSoundRow.holds Try.pinned (OpenSpec.ofChange linearSoundSpec)

/-- ITS FALSE NEIGHBOUR: 'it returns false'. Refute it at one input. -/
def linearSoundWrong : ChangeSpec := { name := "linearSound", fn := fun _ => fun
  | [d] => { results := [.lit (.bool false)], args := [d] }
  | _ => none }
def LinearSoundWrongFalsely : Prop := linearSoundRow.holds Try.pinned (OpenSpec.ofChange linearSoundWrong)

/-- 'secateurlaw07.LinearOnes': WHATEVER THE INPUT: true; the input reads as it did. -/
def linearOnesSpec : ChangeSpec := { name := "linearOnes", fn := fun _ => fun
  | [d1, d2] => { results := [.lit (.bool true)], args := [d1, d2] }
  | _ => none }
def linearOnesRow : OpenClaim := { program := "ytchajofdjeijfaa", sum := "5ecf39d07dea5b862073f6e1d0e6661eed3f2f8a9eeb79cb0e014634602ef9d0", func := "secateur/secateurlaw07.LinearOnes", spec := "linearOnes", apart := false }
def LinearOnesSaid : Prop := linearOnesRow.holds Try.pinned (OpenSpec.ofChange linearOnesSpec)

/-- ITS FALSE NEIGHBOUR: 'it returns false'. Refute it at one input. -/
def linearOnesWrong : ChangeSpec := { name := "linearOnes", fn := fun _ => fun
  | [d1, d2] => { results := [.lit (.bool false)], args := [d1, d2] }
  | _ => none }
def LinearOnesWrongFalsely : Prop := linearOnesRow.holds Try.pinned (OpenSpec.ofChange linearOnesWrong)

/-- 'secateurlaw11.LogicClauses': WHATEVER THE INPUT: true; the input reads as it did. -/
def logicClausesSpec : ChangeSpec := { name := "logicClauses", fn := fun _ => fun
  | [d] => { results := [.lit (.bool true)], args := [d] }
  | _ => none }
def logicClausesRow : OpenClaim := { program := "ytchajofdjeijfaa", sum := "5ecf39d07dea5b862073f6e1d0e6661eed3f2f8a9eeb79cb0e014634602ef9d0", func := "secateur/secateurlaw11.LogicClauses", spec := "logicClauses", unfollowed := true, recurses := true, apart := false }
def LogicClausesSaid : Prop := logicClausesRow.holds Try.pinned (OpenSpec.ofChange logicClausesSpec)

/-- ITS FALSE NEIGHBOUR: 'it returns false'. Refute it at one input. -/
def logicClausesWrong : ChangeSpec := { name := "logicClauses", fn := fun _ => fun
  | [d] => { results := [.lit (.bool false)], args := [d] }
  | _ => none }
def LogicClausesWrongFalsely : Prop := logicClausesRow.holds Try.pinned (OpenSpec.ofChange logicClausesWrong)

/-- 'secateurlaw11.LogicReifs': WHATEVER THE INPUT: true; the input reads as it did. -/
def logicReifsSpec : ChangeSpec := { name := "logicReifs", fn := fun _ => fun
  | [d] => { results := [.lit (.bool true)], args := [d] }
  | _ => none }
def logicReifsRow : OpenClaim := { program := "ytchajofdjeijfaa", sum := "5ecf39d07dea5b862073f6e1d0e6661eed3f2f8a9eeb79cb0e014634602ef9d0", func := "secateur/secateurlaw11.LogicReifs", spec := "logicReifs", unfollowed := true, recurses := true, apart := false }
def LogicReifsSaid : Prop := logicReifsRow.holds Try.pinned (OpenSpec.ofChange logicReifsSpec)

/-- ITS FALSE NEIGHBOUR: 'it returns false'. Refute it at one input. -/
def logicReifsWrong : ChangeSpec := { name := "logicReifs", fn := fun _ => fun
  | [d] => { results := [.lit (.bool false)], args := [d] }
  | _ => none }
def LogicReifsWrongFalsely : Prop := logicReifsRow.holds Try.pinned (OpenSpec.ofChange logicReifsWrong)

/-- 'secateurlaw11.LogicDecides': WHATEVER THE INPUT: true; the input reads as it did. -/
def logicDecidesSpec : ChangeSpec := { name := "logicDecides", fn := fun _ => fun
  | [d1, d2] => { results := [.lit (.bool true)], args := [d1, d2] }
  | _ => none }
def logicDecidesRow : OpenClaim := { program := "ytchajofdjeijfaa", sum := "5ecf39d07dea5b862073f6e1d0e6661eed3f2f8a9eeb79cb0e014634602ef9d0", func := "secateur/secateurlaw11.LogicDecides", spec := "logicDecides", unfollowed := true, recurses := true, apart := false }
def LogicDecidesSaid : Prop := logicDecidesRow.holds Try.pinned (OpenSpec.ofChange logicDecidesSpec)

/-- ITS FALSE NEIGHBOUR: 'it returns false'. Refute it at one input. -/
def logicDecidesWrong : ChangeSpec := { name := "logicDecides", fn := fun _ => fun
  | [d1, d2] => { results := [.lit (.bool false)], args := [d1, d2] }
  | _ => none }
def LogicDecidesWrongFalsely : Prop := logicDecidesRow.holds Try.pinned (OpenSpec.ofChange logicDecidesWrong)

/-- 'secateurlaw11.LogicWays': WHATEVER THE INPUT: true; the input reads as it did. -/
def logicWaysSpec : ChangeSpec := { name := "logicWays", fn := fun _ => fun
  | [d1, d2] => { results := [.lit (.bool true)], args := [d1, d2] }
  | _ => none }
def logicWaysRow : OpenClaim := { program := "ytchajofdjeijfaa", sum := "5ecf39d07dea5b862073f6e1d0e6661eed3f2f8a9eeb79cb0e014634602ef9d0", func := "secateur/secateurlaw11.LogicWays", spec := "logicWays", unfollowed := true, recurses := true, apart := false }
def LogicWaysSaid : Prop := logicWaysRow.holds Try.pinned (OpenSpec.ofChange logicWaysSpec)

/-- ITS FALSE NEIGHBOUR: 'it returns false'. Refute it at one input. -/
def logicWaysWrong : ChangeSpec := { name := "logicWays", fn := fun _ => fun
  | [d1, d2] => { results := [.lit (.bool false)], args := [d1, d2] }
  | _ => none }
def LogicWaysWrongFalsely : Prop := logicWaysRow.holds Try.pinned (OpenSpec.ofChange logicWaysWrong)

/-- 'secateurlaw11.LogicTurns': WHATEVER THE INPUT: true; the input reads as it did. -/
def logicTurnsSpec : ChangeSpec := { name := "logicTurns", fn := fun _ => fun
  | [d] => { results := [.lit (.bool true)], args := [d] }
  | _ => none }
def logicTurnsRow : OpenClaim := { program := "ytchajofdjeijfaa", sum := "5ecf39d07dea5b862073f6e1d0e6661eed3f2f8a9eeb79cb0e014634602ef9d0", func := "secateur/secateurlaw11.LogicTurns", spec := "logicTurns", unfollowed := true, recurses := true, apart := false }
def LogicTurnsSaid : Prop := logicTurnsRow.holds Try.pinned (OpenSpec.ofChange logicTurnsSpec)

/-- ITS FALSE NEIGHBOUR: 'it returns false'. Refute it at one input. -/
def logicTurnsWrong : ChangeSpec := { name := "logicTurns", fn := fun _ => fun
  | [d] => { results := [.lit (.bool false)], args := [d] }
  | _ => none }
def LogicTurnsWrongFalsely : Prop := logicTurnsRow.holds Try.pinned (OpenSpec.ofChange logicTurnsWrong)

/-- 'secateurlaw11.LogicLast': WHATEVER THE INPUT: true; the input reads as it did. -/
def logicLastSpec : ChangeSpec := { name := "logicLast", fn := fun _ => fun
  | [d1, d2] => { results := [.lit (.bool true)], args := [d1, d2] }
  | _ => none }
def logicLastRow : OpenClaim := { program := "ytchajofdjeijfaa", sum := "5ecf39d07dea5b862073f6e1d0e6661eed3f2f8a9eeb79cb0e014634602ef9d0", func := "secateur/secateurlaw11.LogicLast", spec := "logicLast", unfollowed := true, recurses := true, apart := false }
def LogicLastSaid : Prop := logicLastRow.holds Try.pinned (OpenSpec.ofChange logicLastSpec)

/-- ITS FALSE NEIGHBOUR: 'it returns false'. Refute it at one input. -/
def logicLastWrong : ChangeSpec := { name := "logicLast", fn := fun _ => fun
  | [d1, d2] => { results := [.lit (.bool false)], args := [d1, d2] }
  | _ => none }
def LogicLastWrongFalsely : Prop := logicLastRow.holds Try.pinned (OpenSpec.ofChange logicLastWrong)

/- THE SECOND FORM. 'bulk': how many values and letters a reading holds, each counted each time it is reached (what is shared counts as often as it is met; a slice's spare places count too). A statement '..UptoSaid' is the law's where the arguments, and the package variables that the reading takes, are together of bulk at most 1048576: NARROWER than '..Said'. Prove '..Said' where nothing that the law and all that it calls make is longer than what came in: it says more and counts as full. Else prove '..UptoSaid'. A law counts once. -/
mutual
def uptoBulk {H : Type} : DataW H → Nat
  | .lit (.string bytes) => bytes.length + 1
  | .lit _ => 1
  | .nil => 1
  | .ptr d => uptoBulk d + 1
  | .slice elems spare => uptoBulkAll elems + uptoBulkAll spare + 1
  | .agg parts => uptoBulkAll parts + 1
  | .iface _ d => uptoBulk d + 1
  | .map entries => uptoBulkEntries entries + 1
  | .held _ => 1
def uptoBulkAll {H : Type} : List (DataW H) → Nat
  | [] => 0
  | d :: r => uptoBulk d + uptoBulkAll r
def uptoBulkEntries {H : Type} : List (Lit × DataW H) → Nat
  | [] => 0
  | x :: r => uptoBulkEntry x + uptoBulkEntries r
def uptoBulkEntry {H : Type} : Lit × DataW H → Nat
  | (.string bytes, d) => bytes.length + uptoBulk d + 1
  | (_, d) => uptoBulk d + 1
 end
def uptoSmall : (H : Type) → List (DataW H) → Bool := fun _ ds => decide (uptoBulkAll ds ≤ 1048576)
def OpenSpec.upto (s : _root_.Go.ChangeSpec) : _root_.Go.OpenSpec := { _root_.Go.OpenSpec.ofChange s with cond := some uptoSmall }

/-- 'secateurlaw07.LinearPrunes', WHERE WHAT IT READS IS OF BULK AT MOST 1048576: true; the input reads as it did. -/
def linearPrunesUptoRow : OpenClaim := { program := "ytchajofdjeijfaa", sum := "5ecf39d07dea5b862073f6e1d0e6661eed3f2f8a9eeb79cb0e014634602ef9d0", func := "secateur/secateurlaw07.LinearPrunes", spec := "linearPrunes", apart := false, narrowed := true }
def LinearPrunesUptoSaid : Prop := linearPrunesUptoRow.holds Try.pinned (OpenSpec.upto linearPrunesSpec)

/-- 'secateurlaw07.LinearKnows', WHERE WHAT IT READS IS OF BULK AT MOST 1048576: true; the input reads as it did. -/
def linearKnowsUptoRow : OpenClaim := { program := "ytchajofdjeijfaa", sum := "5ecf39d07dea5b862073f6e1d0e6661eed3f2f8a9eeb79cb0e014634602ef9d0", func := "secateur/secateurlaw07.LinearKnows", spec := "linearKnows", apart := false, narrowed := true }
def LinearKnowsUptoSaid : Prop := linearKnowsUptoRow.holds Try.pinned (OpenSpec.upto linearKnowsSpec)

/-- 'secateurlaw07.LinearSound', WHERE WHAT IT READS IS OF BULK AT MOST 1048576: true; the input reads as it did. -/
def linearSoundUptoRow : OpenClaim := { program := "ytchajofdjeijfaa", sum := "5ecf39d07dea5b862073f6e1d0e6661eed3f2f8a9eeb79cb0e014634602ef9d0", func := "secateur/secateurlaw07.LinearSound", spec := "linearSound", apart := false, narrowed := true }
def LinearSoundUptoSaid : Prop := linearSoundUptoRow.holds Try.pinned (OpenSpec.upto linearSoundSpec)

/-- 'secateurlaw07.LinearOnes', WHERE WHAT IT READS IS OF BULK AT MOST 1048576: true; the input reads as it did. -/
def linearOnesUptoRow : OpenClaim := { program := "ytchajofdjeijfaa", sum := "5ecf39d07dea5b862073f6e1d0e6661eed3f2f8a9eeb79cb0e014634602ef9d0", func := "secateur/secateurlaw07.LinearOnes", spec := "linearOnes", apart := false, narrowed := true }
def LinearOnesUptoSaid : Prop := linearOnesUptoRow.holds Try.pinned (OpenSpec.upto linearOnesSpec)

/-- 'secateurlaw11.LogicClauses', WHERE WHAT IT READS IS OF BULK AT MOST 1048576: true; the input reads as it did. -/
def logicClausesUptoRow : OpenClaim := { program := "ytchajofdjeijfaa", sum := "5ecf39d07dea5b862073f6e1d0e6661eed3f2f8a9eeb79cb0e014634602ef9d0", func := "secateur/secateurlaw11.LogicClauses", spec := "logicClauses", unfollowed := true, recurses := true, apart := false, narrowed := true }
def LogicClausesUptoSaid : Prop := logicClausesUptoRow.holds Try.pinned (OpenSpec.upto logicClausesSpec)

/-- 'secateurlaw11.LogicReifs', WHERE WHAT IT READS IS OF BULK AT MOST 1048576: true; the input reads as it did. -/
def logicReifsUptoRow : OpenClaim := { program := "ytchajofdjeijfaa", sum := "5ecf39d07dea5b862073f6e1d0e6661eed3f2f8a9eeb79cb0e014634602ef9d0", func := "secateur/secateurlaw11.LogicReifs", spec := "logicReifs", unfollowed := true, recurses := true, apart := false, narrowed := true }
def LogicReifsUptoSaid : Prop := logicReifsUptoRow.holds Try.pinned (OpenSpec.upto logicReifsSpec)

/-- 'secateurlaw11.LogicDecides', WHERE WHAT IT READS IS OF BULK AT MOST 1048576: true; the input reads as it did. -/
def logicDecidesUptoRow : OpenClaim := { program := "ytchajofdjeijfaa", sum := "5ecf39d07dea5b862073f6e1d0e6661eed3f2f8a9eeb79cb0e014634602ef9d0", func := "secateur/secateurlaw11.LogicDecides", spec := "logicDecides", unfollowed := true, recurses := true, apart := false, narrowed := true }
def LogicDecidesUptoSaid : Prop := logicDecidesUptoRow.holds Try.pinned (OpenSpec.upto logicDecidesSpec)

/-- 'secateurlaw11.LogicWays', WHERE WHAT IT READS IS OF BULK AT MOST 1048576: true; the input reads as it did. -/
def logicWaysUptoRow : OpenClaim := { program := "ytchajofdjeijfaa", sum := "5ecf39d07dea5b862073f6e1d0e6661eed3f2f8a9eeb79cb0e014634602ef9d0", func := "secateur/secateurlaw11.LogicWays", spec := "logicWays", unfollowed := true, recurses := true, apart := false, narrowed := true }
def LogicWaysUptoSaid : Prop := logicWaysUptoRow.holds Try.pinned (OpenSpec.upto logicWaysSpec)

/-- 'secateurlaw11.LogicTurns', WHERE WHAT IT READS IS OF BULK AT MOST 1048576: true; the input reads as it did. -/
def logicTurnsUptoRow : OpenClaim := { program := "ytchajofdjeijfaa", sum := "5ecf39d07dea5b862073f6e1d0e6661eed3f2f8a9eeb79cb0e014634602ef9d0", func := "secateur/secateurlaw11.LogicTurns", spec := "logicTurns", unfollowed := true, recurses := true, apart := false, narrowed := true }
def LogicTurnsUptoSaid : Prop := logicTurnsUptoRow.holds Try.pinned (OpenSpec.upto logicTurnsSpec)

/-- 'secateurlaw11.LogicLast', WHERE WHAT IT READS IS OF BULK AT MOST 1048576: true; the input reads as it did. -/
def logicLastUptoRow : OpenClaim := { program := "ytchajofdjeijfaa", sum := "5ecf39d07dea5b862073f6e1d0e6661eed3f2f8a9eeb79cb0e014634602ef9d0", func := "secateur/secateurlaw11.LogicLast", spec := "logicLast", unfollowed := true, recurses := true, apart := false, narrowed := true }
def LogicLastUptoSaid : Prop := logicLastUptoRow.holds Try.pinned (OpenSpec.upto logicLastSpec)

end Rows
end Go.Proofs.Ytchajofdjeijfaa
