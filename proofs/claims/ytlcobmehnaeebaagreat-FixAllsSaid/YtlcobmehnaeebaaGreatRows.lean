/-
  No cell of these rows narrows 'for every input' (looked for: loops, veiled, ifaces, maps, wideKeys, modest, calm, conditions, laid).
  DERIVED. THE GIVEN ROWS OF THIS SEAT. 7 by the template 'for every input the law returns true; each argument reads behind the call as it read before'; 0 by the template 'total and deterministic' (their statements: YtlcobmehnaeebaaGreatTotals.lean).
  GIVEN WITH THE SEED: the statements are not yours to turn. If you find one false, say at which input.
  Laid BY PROGRAM, IN A SANDBOX (cutbox-rows.mjs): the forced cells as the released guide's own fill.sh prints them over the translation 9111f1ba2b4f7547… (all of the seat's roots in one cut). By AI agents, Wed Nov 11 2026. No macro, syntax, notation, axiom, sorry.
-/
import Derived.Test.YtlcobmehnaeebaaGreatChecked
import GoSem.Claim
import GoSem.ClaimJoined
import GoSem.ClaimMapViews
import Derived.JoinedTies
import Derived.KernelRfl
namespace Go.Proofs.YtlcobmehnaeebaaGreat
/- THE CELL 'sum', in the pinned program and in every row, IS THE sha256 OF THE DUMP (.gsa) THAT YtlcobmehnaeebaaGreatProg.lean LOADS. Nothing in Lean hashes anything: it is a label: what it is worth is what the hold of that sum in a sandbox is worth. -/
noncomputable def Tryz.pinned : Pinned := { name := "ytlcobmehnaeebaagreat", sum := "9111f1ba2b4f75476685a47ec7a1e95d3641a1a02b44c38bb98423b30670942a", checked := Tryz.checked }
namespace Rows
def none {H : Type} : Left H := { results := [], args := [] }

/-- 'secateurlaw13.FixOnes': WHATEVER THE INPUT: true; the input reads as it did. -/
def fixOnesSpec : ChangeSpec := { name := "fixOnes", fn := fun _ => fun
  | [d] => { results := [.lit (.bool true)], args := [d] }
  | _ => none }
def fixOnesRow : OpenClaim := { program := "ytlcobmehnaeebaagreat", sum := "9111f1ba2b4f75476685a47ec7a1e95d3641a1a02b44c38bb98423b30670942a", func := "secateur/secateurlaw13.FixOnes", spec := "fixOnes", unfollowed := true, recurses := true, apart := false }
def FixOnesSaid : Prop := fixOnesRow.holds Tryz.pinned (OpenSpec.ofChange fixOnesSpec)

/-- ITS FALSE NEIGHBOUR: 'it returns false'. Refute it at one input. -/
def fixOnesWrong : ChangeSpec := { name := "fixOnes", fn := fun _ => fun
  | [d] => { results := [.lit (.bool false)], args := [d] }
  | _ => none }
def FixOnesWrongFalsely : Prop := fixOnesRow.holds Tryz.pinned (OpenSpec.ofChange fixOnesWrong)

/-- 'secateurlaw13.FixAlls': WHATEVER THE INPUT: true; the input reads as it did. -/
def fixAllsSpec : ChangeSpec := { name := "fixAlls", fn := fun _ => fun
  | [d] => { results := [.lit (.bool true)], args := [d] }
  | _ => none }
def fixAllsRow : OpenClaim := { program := "ytlcobmehnaeebaagreat", sum := "9111f1ba2b4f75476685a47ec7a1e95d3641a1a02b44c38bb98423b30670942a", func := "secateur/secateurlaw13.FixAlls", spec := "fixAlls", unfollowed := true, recurses := true, apart := false }
def FixAllsSaid : Prop := fixAllsRow.holds Tryz.pinned (OpenSpec.ofChange fixAllsSpec)

/-- ITS FALSE NEIGHBOUR: 'it returns false'. Refute it at one input. -/
def fixAllsWrong : ChangeSpec := { name := "fixAlls", fn := fun _ => fun
  | [d] => { results := [.lit (.bool false)], args := [d] }
  | _ => none }
def FixAllsWrongFalsely : Prop := fixAllsRow.holds Tryz.pinned (OpenSpec.ofChange fixAllsWrong)

/-- 'secateurlaw13.FixSound': WHATEVER THE INPUT: true; the input reads as it did. -/
def fixSoundSpec : ChangeSpec := { name := "fixSound", fn := fun _ => fun
  | [d1, d2] => { results := [.lit (.bool true)], args := [d1, d2] }
  | _ => none }
def fixSoundRow : OpenClaim := { program := "ytlcobmehnaeebaagreat", sum := "9111f1ba2b4f75476685a47ec7a1e95d3641a1a02b44c38bb98423b30670942a", func := "secateur/secateurlaw13.FixSound", spec := "fixSound", unfollowed := true, recurses := true, apart := false }
def FixSoundSaid : Prop := fixSoundRow.holds Tryz.pinned (OpenSpec.ofChange fixSoundSpec)

/-- ITS FALSE NEIGHBOUR: 'it returns false'. Refute it at one input. -/
def fixSoundWrong : ChangeSpec := { name := "fixSound", fn := fun _ => fun
  | [d1, d2] => { results := [.lit (.bool false)], args := [d1, d2] }
  | _ => none }
def FixSoundWrongFalsely : Prop := fixSoundRow.holds Tryz.pinned (OpenSpec.ofChange fixSoundWrong)

/-- 'secateurlaw13.FixLess': WHATEVER THE INPUT: true; the input reads as it did. -/
def fixLessSpec : ChangeSpec := { name := "fixLess", fn := fun _ => fun
  | [d1, d2, d3] => { results := [.lit (.bool true)], args := [d1, d2, d3] }
  | _ => none }
def fixLessRow : OpenClaim := { program := "ytlcobmehnaeebaagreat", sum := "9111f1ba2b4f75476685a47ec7a1e95d3641a1a02b44c38bb98423b30670942a", func := "secateur/secateurlaw13.FixLess", spec := "fixLess", unfollowed := true, recurses := true, apart := false }
def FixLessSaid : Prop := fixLessRow.holds Tryz.pinned (OpenSpec.ofChange fixLessSpec)

/-- ITS FALSE NEIGHBOUR: 'it returns false'. Refute it at one input. -/
def fixLessWrong : ChangeSpec := { name := "fixLess", fn := fun _ => fun
  | [d1, d2, d3] => { results := [.lit (.bool false)], args := [d1, d2, d3] }
  | _ => none }
def FixLessWrongFalsely : Prop := fixLessRow.holds Tryz.pinned (OpenSpec.ofChange fixLessWrong)

/-- 'secateurlaw13.FixTwice': WHATEVER THE INPUT: true; the input reads as it did. -/
def fixTwiceSpec : ChangeSpec := { name := "fixTwice", fn := fun _ => fun
  | [d] => { results := [.lit (.bool true)], args := [d] }
  | _ => none }
def fixTwiceRow : OpenClaim := { program := "ytlcobmehnaeebaagreat", sum := "9111f1ba2b4f75476685a47ec7a1e95d3641a1a02b44c38bb98423b30670942a", func := "secateur/secateurlaw13.FixTwice", spec := "fixTwice", unfollowed := true, recurses := true, apart := false }
def FixTwiceSaid : Prop := fixTwiceRow.holds Tryz.pinned (OpenSpec.ofChange fixTwiceSpec)

/-- ITS FALSE NEIGHBOUR: 'it returns false'. Refute it at one input. -/
def fixTwiceWrong : ChangeSpec := { name := "fixTwice", fn := fun _ => fun
  | [d] => { results := [.lit (.bool false)], args := [d] }
  | _ => none }
def FixTwiceWrongFalsely : Prop := fixTwiceRow.holds Tryz.pinned (OpenSpec.ofChange fixTwiceWrong)

/-- 'secateurlaw13.FixEach': WHATEVER THE INPUT: true; the input reads as it did. -/
def fixEachSpec : ChangeSpec := { name := "fixEach", fn := fun _ => fun
  | [d] => { results := [.lit (.bool true)], args := [d] }
  | _ => none }
def fixEachRow : OpenClaim := { program := "ytlcobmehnaeebaagreat", sum := "9111f1ba2b4f75476685a47ec7a1e95d3641a1a02b44c38bb98423b30670942a", func := "secateur/secateurlaw13.FixEach", spec := "fixEach", unfollowed := true, recurses := true, apart := false }
def FixEachSaid : Prop := fixEachRow.holds Tryz.pinned (OpenSpec.ofChange fixEachSpec)

/-- ITS FALSE NEIGHBOUR: 'it returns false'. Refute it at one input. -/
def fixEachWrong : ChangeSpec := { name := "fixEach", fn := fun _ => fun
  | [d] => { results := [.lit (.bool false)], args := [d] }
  | _ => none }
def FixEachWrongFalsely : Prop := fixEachRow.holds Tryz.pinned (OpenSpec.ofChange fixEachWrong)

/-- 'secateurlaw13.FixSolved': WHATEVER THE INPUT: true; the input reads as it did. -/
def fixSolvedSpec : ChangeSpec := { name := "fixSolved", fn := fun _ => fun
  | [d1, d2] => { results := [.lit (.bool true)], args := [d1, d2] }
  | _ => none }
def fixSolvedRow : OpenClaim := { program := "ytlcobmehnaeebaagreat", sum := "9111f1ba2b4f75476685a47ec7a1e95d3641a1a02b44c38bb98423b30670942a", func := "secateur/secateurlaw13.FixSolved", spec := "fixSolved", unfollowed := true, recurses := true, apart := false }
def FixSolvedSaid : Prop := fixSolvedRow.holds Tryz.pinned (OpenSpec.ofChange fixSolvedSpec)

/-- ITS FALSE NEIGHBOUR: 'it returns false'. Refute it at one input. -/
def fixSolvedWrong : ChangeSpec := { name := "fixSolved", fn := fun _ => fun
  | [d1, d2] => { results := [.lit (.bool false)], args := [d1, d2] }
  | _ => none }
def FixSolvedWrongFalsely : Prop := fixSolvedRow.holds Tryz.pinned (OpenSpec.ofChange fixSolvedWrong)

/- THE SECOND FORM. 'bulk': how many values and letters a reading holds, each counted each time it is reached (what is shared counts as often as it is met; a slice's spare places count too). A statement '..UptoSaid' is the law's where the arguments, and the package variables that the reading takes, are together of bulk at most 1048576: NARROWER than '..Said'. Prove '..Said' where nothing that the law and all that it calls make is longer than what came in: it says more and counts as full. Else prove '..UptoSaid'. A law counts once. -/
mutual
def uptoBulk {H : Type} : DataW H → Nat
  | .lit (.string bytes) => bytes.length + 1
  | .lit _ => 1
  | .nil => 1
  | .ptr d => uptoBulk d + 1
  | .slice elems spare => uptoBulkAll elems + uptoBulkAll spare + 1
  | .agg parts => uptoBulkAll parts + 1
  | .iface _ d => uptoBulk d + 1
  | .map entries => uptoBulkEntries entries + 1
  | .held _ => 1
def uptoBulkAll {H : Type} : List (DataW H) → Nat
  | [] => 0
  | d :: r => uptoBulk d + uptoBulkAll r
def uptoBulkEntries {H : Type} : List (Lit × DataW H) → Nat
  | [] => 0
  | x :: r => uptoBulkEntry x + uptoBulkEntries r
def uptoBulkEntry {H : Type} : Lit × DataW H → Nat
  | (.string bytes, d) => bytes.length + uptoBulk d + 1
  | (_, d) => uptoBulk d + 1
 end
def uptoSmall : (H : Type) → List (DataW H) → Bool := fun _ ds => decide (uptoBulkAll ds ≤ 1048576)
def OpenSpec.upto (s : _root_.Go.ChangeSpec) : _root_.Go.OpenSpec := { _root_.Go.OpenSpec.ofChange s with cond := some uptoSmall }

/-- 'secateurlaw13.FixOnes', WHERE WHAT IT READS IS OF BULK AT MOST 1048576: true; the input reads as it did. -/
def fixOnesUptoRow : OpenClaim := { program := "ytlcobmehnaeebaagreat", sum := "9111f1ba2b4f75476685a47ec7a1e95d3641a1a02b44c38bb98423b30670942a", func := "secateur/secateurlaw13.FixOnes", spec := "fixOnes", unfollowed := true, recurses := true, apart := false, narrowed := true }
def FixOnesUptoSaid : Prop := fixOnesUptoRow.holds Tryz.pinned (OpenSpec.upto fixOnesSpec)

/-- 'secateurlaw13.FixAlls', WHERE WHAT IT READS IS OF BULK AT MOST 1048576: true; the input reads as it did. -/
def fixAllsUptoRow : OpenClaim := { program := "ytlcobmehnaeebaagreat", sum := "9111f1ba2b4f75476685a47ec7a1e95d3641a1a02b44c38bb98423b30670942a", func := "secateur/secateurlaw13.FixAlls", spec := "fixAlls", unfollowed := true, recurses := true, apart := false, narrowed := true }
def FixAllsUptoSaid : Prop := fixAllsUptoRow.holds Tryz.pinned (OpenSpec.upto fixAllsSpec)

/-- 'secateurlaw13.FixSound', WHERE WHAT IT READS IS OF BULK AT MOST 1048576: true; the input reads as it did. -/
def fixSoundUptoRow : OpenClaim := { program := "ytlcobmehnaeebaagreat", sum := "9111f1ba2b4f75476685a47ec7a1e95d3641a1a02b44c38bb98423b30670942a", func := "secateur/secateurlaw13.FixSound", spec := "fixSound", unfollowed := true, recurses := true, apart := false, narrowed := true }
def FixSoundUptoSaid : Prop := fixSoundUptoRow.holds Tryz.pinned (OpenSpec.upto fixSoundSpec)

/-- 'secateurlaw13.FixLess', WHERE WHAT IT READS IS OF BULK AT MOST 1048576: true; the input reads as it did. -/
def fixLessUptoRow : OpenClaim := { program := "ytlcobmehnaeebaagreat", sum := "9111f1ba2b4f75476685a47ec7a1e95d3641a1a02b44c38bb98423b30670942a", func := "secateur/secateurlaw13.FixLess", spec := "fixLess", unfollowed := true, recurses := true, apart := false, narrowed := true }
def FixLessUptoSaid : Prop := fixLessUptoRow.holds Tryz.pinned (OpenSpec.upto fixLessSpec)

/-- 'secateurlaw13.FixTwice', WHERE WHAT IT READS IS OF BULK AT MOST 1048576: true; the input reads as it did. -/
def fixTwiceUptoRow : OpenClaim := { program := "ytlcobmehnaeebaagreat", sum := "9111f1ba2b4f75476685a47ec7a1e95d3641a1a02b44c38bb98423b30670942a", func := "secateur/secateurlaw13.FixTwice", spec := "fixTwice", unfollowed := true, recurses := true, apart := false, narrowed := true }
def FixTwiceUptoSaid : Prop := fixTwiceUptoRow.holds Tryz.pinned (OpenSpec.upto fixTwiceSpec)

/-- 'secateurlaw13.FixEach', WHERE WHAT IT READS IS OF BULK AT MOST 1048576: true; the input reads as it did. -/
def fixEachUptoRow : OpenClaim := { program := "ytlcobmehnaeebaagreat", sum := "9111f1ba2b4f75476685a47ec7a1e95d3641a1a02b44c38bb98423b30670942a", func := "secateur/secateurlaw13.FixEach", spec := "fixEach", unfollowed := true, recurses := true, apart := false, narrowed := true }
def FixEachUptoSaid : Prop := fixEachUptoRow.holds Tryz.pinned (OpenSpec.upto fixEachSpec)

/-- 'secateurlaw13.FixSolved', WHERE WHAT IT READS IS OF BULK AT MOST 1048576: true; the input reads as it did. -/
def fixSolvedUptoRow : OpenClaim := { program := "ytlcobmehnaeebaagreat", sum := "9111f1ba2b4f75476685a47ec7a1e95d3641a1a02b44c38bb98423b30670942a", func := "secateur/secateurlaw13.FixSolved", spec := "fixSolved", unfollowed := true, recurses := true, apart := false, narrowed := true }
def FixSolvedUptoSaid : Prop := fixSolvedUptoRow.holds Tryz.pinned (OpenSpec.upto fixSolvedSpec)

end Rows
end Go.Proofs.YtlcobmehnaeebaaGreat
