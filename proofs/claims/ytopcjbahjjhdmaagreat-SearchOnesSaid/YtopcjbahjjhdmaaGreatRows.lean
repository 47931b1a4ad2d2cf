/-
  No cell of these rows narrows 'for every input' (looked for: loops, veiled, ifaces, maps, wideKeys, modest, calm, conditions, laid).
  DERIVED. THE GIVEN ROWS OF THIS SEAT. 7 by the template 'for every input the law returns true; each argument reads behind the call as it read before'; 0 by the template 'total and deterministic' (their statements: YtopcjbahjjhdmaaGreatTotals.lean).
  GIVEN WITH THE SEED: the statements are not yours to turn. If you find one false, say at which input.
  Laid BY PROGRAM, IN A SANDBOX (cutbox-rows.mjs): the forced cells as the released guide's own fill.sh prints them over the translation 6197407fdb8a6975… (all of the seat's roots in one cut). By AI agents, Wed Nov 11 2026. No macro, syntax, notation, axiom, sorry.
-/
import Derived.Test.YtopcjbahjjhdmaaGreatChecked
import GoSem.Claim
import GoSem.ClaimJoined
import GoSem.ClaimMapViews
import Derived.JoinedTies
import Derived.KernelRfl
namespace Go.Proofs.YtopcjbahjjhdmaaGreat
/- THE CELL 'sum', in the pinned program and in every row, IS THE sha256 OF THE DUMP (.gsa) THAT YtopcjbahjjhdmaaGreatProg.lean LOADS. Nothing in Lean hashes anything: it is a label: what it is worth is what the hold of that sum in a sandbox is worth. -/
noncomputable def Tryz.pinned : Pinned := { name := "ytopcjbahjjhdmaagreat", sum := "6197407fdb8a69750c6ab3e6847cb8e9beed56e118cf5274faff17f95d9fe884", checked := Tryz.checked }
namespace Rows
def none {H : Type} : Left H := { results := [], args := [] }

/-- 'secateurlaw14.SearchAlls': WHATEVER THE INPUT: true; the input reads as it did. -/
def searchAllsSpec : ChangeSpec := { name := "searchAlls", fn := fun _ => fun
  | [d1, d2] => { results := [.lit (.bool true)], args := [d1, d2] }
  | _ => none }
def searchAllsRow : OpenClaim := { program := "ytopcjbahjjhdmaagreat", sum := "6197407fdb8a69750c6ab3e6847cb8e9beed56e118cf5274faff17f95d9fe884", func := "secateur/secateurlaw14.SearchAlls", spec := "searchAlls", unfollowed := true, recurses := true, apart := false }
def SearchAllsSaid : Prop := searchAllsRow.holds Tryz.pinned (OpenSpec.ofChange searchAllsSpec)

/-- ITS FALSE NEIGHBOUR: 'it returns false'. Refute it at one input. -/
def searchAllsWrong : ChangeSpec := { name := "searchAlls", fn := fun _ => fun
  | [d1, d2] => { results := [.lit (.bool false)], args := [d1, d2] }
  | _ => none }
def SearchAllsWrongFalsely : Prop := searchAllsRow.holds Tryz.pinned (OpenSpec.ofChange searchAllsWrong)

/-- 'secateurlaw14.SearchBests': WHATEVER THE INPUT: true; the input reads as it did. -/
def searchBestsSpec : ChangeSpec := { name := "searchBests", fn := fun _ => fun
  | [d1, d2] => { results := [.lit (.bool true)], args := [d1, d2] }
  | _ => none }
def searchBestsRow : OpenClaim := { program := "ytopcjbahjjhdmaagreat", sum := "6197407fdb8a69750c6ab3e6847cb8e9beed56e118cf5274faff17f95d9fe884", func := "secateur/secateurlaw14.SearchBests", spec := "searchBests", unfollowed := true, recurses := true, apart := false }
def SearchBestsSaid : Prop := searchBestsRow.holds Tryz.pinned (OpenSpec.ofChange searchBestsSpec)

/-- ITS FALSE NEIGHBOUR: 'it returns false'. Refute it at one input. -/
def searchBestsWrong : ChangeSpec := { name := "searchBests", fn := fun _ => fun
  | [d1, d2] => { results := [.lit (.bool false)], args := [d1, d2] }
  | _ => none }
def SearchBestsWrongFalsely : Prop := searchBestsRow.holds Tryz.pinned (OpenSpec.ofChange searchBestsWrong)

/-- 'secateurlaw14.SearchWhole': WHATEVER THE INPUT: true; the input reads as it did. -/
def searchWholeSpec : ChangeSpec := { name := "searchWhole", fn := fun _ => fun
  | [d1, d2] => { results := [.lit (.bool true)], args := [d1, d2] }
  | _ => none }
def searchWholeRow : OpenClaim := { program := "ytopcjbahjjhdmaagreat", sum := "6197407fdb8a69750c6ab3e6847cb8e9beed56e118cf5274faff17f95d9fe884", func := "secateur/secateurlaw14.SearchWhole", spec := "searchWhole", unfollowed := true, recurses := true, apart := false }
def SearchWholeSaid : Prop := searchWholeRow.holds Tryz.pinned (OpenSpec.ofChange searchWholeSpec)

/-- ITS FALSE NEIGHBOUR: 'it returns false'. Refute it at one input. -/
def searchWholeWrong : ChangeSpec := { name := "searchWhole", fn := fun _ => fun
  | [d1, d2] => { results := [.lit (.bool false)], args := [d1, d2] }
  | _ => none }
def SearchWholeWrongFalsely : Prop := searchWholeRow.holds Tryz.pinned (OpenSpec.ofChange searchWholeWrong)

/-- 'secateurlaw14.SearchLess': WHATEVER THE INPUT: true; the input reads as it did. -/
def searchLessSpec : ChangeSpec := { name := "searchLess", fn := fun _ => fun
  | [d1, d2] => { results := [.lit (.bool true)], args := [d1, d2] }
  | _ => none }
def searchLessRow : OpenClaim := { program := "ytopcjbahjjhdmaagreat", sum := "6197407fdb8a69750c6ab3e6847cb8e9beed56e118cf5274faff17f95d9fe884", func := "secateur/secateurlaw14.SearchLess", spec := "searchLess", unfollowed := true, recurses := true, apart := false }
def SearchLessSaid : Prop := searchLessRow.holds Tryz.pinned (OpenSpec.ofChange searchLessSpec)

/-- ITS FALSE NEIGHBOUR: 'it returns false'. Refute it at one input. -/
def searchLessWrong : ChangeSpec := { name := "searchLess", fn := fun _ => fun
  | [d1, d2] => { results := [.lit (.bool false)], args := [d1, d2] }
  | _ => none }
def SearchLessWrongFalsely : Prop := searchLessRow.holds Tryz.pinned (OpenSpec.ofChange searchLessWrong)

/-- 'secateurlaw14.SearchTurns': WHATEVER THE INPUT: true; the input reads as it did. -/
def searchTurnsSpec : ChangeSpec := { name := "searchTurns", fn := fun _ => fun
  | [d1, d2] => { results := [.lit (.bool true)], args := [d1, d2] }
  | _ => none }
def searchTurnsRow : OpenClaim := { program := "ytopcjbahjjhdmaagreat", sum := "6197407fdb8a69750c6ab3e6847cb8e9beed56e118cf5274faff17f95d9fe884", func := "secateur/secateurlaw14.SearchTurns", spec := "searchTurns", unfollowed := true, recurses := true, apart := false }
def SearchTurnsSaid : Prop := searchTurnsRow.holds Tryz.pinned (OpenSpec.ofChange searchTurnsSpec)

/-- ITS FALSE NEIGHBOUR: 'it returns false'. Refute it at one input. -/
def searchTurnsWrong : ChangeSpec := { name := "searchTurns", fn := fun _ => fun
  | [d1, d2] => { results := [.lit (.bool false)], args := [d1, d2] }
  | _ => none }
def SearchTurnsWrongFalsely : Prop := searchTurnsRow.holds Tryz.pinned (OpenSpec.ofChange searchTurnsWrong)

/-- 'secateurlaw14.SearchOnes': WHATEVER THE INPUT: true; the input reads as it did. -/
def searchOnesSpec : ChangeSpec := { name := "searchOnes", fn := fun _ => fun
  | [d1, d2] => { results := [.lit (.bool true)], args := [d1, d2] }
  | _ => none }
def searchOnesRow : OpenClaim := { program := "ytopcjbahjjhdmaagreat", sum := "6197407fdb8a69750c6ab3e6847cb8e9beed56e118cf5274faff17f95d9fe884", func := "secateur/secateurlaw14.SearchOnes", spec := "searchOnes", unfollowed := true, recurses := true, apart := false }
def SearchOnesSaid : Prop := searchOnesRow.holds Tryz.pinned (OpenSpec.ofChange searchOnesSpec)

/-- ITS FALSE NEIGHBOUR: 'it returns false'. Refute it at one input. -/
def searchOnesWrong : ChangeSpec := { name := "searchOnes", fn := fun _ => fun
  | [d1, d2] => { results := [.lit (.bool false)], args := [d1, d2] }
  | _ => none }
def SearchOnesWrongFalsely : Prop := searchOnesRow.holds Tryz.pinned (OpenSpec.ofChange searchOnesWrong)

/-- 'secateurlaw14.SearchMore': WHATEVER THE INPUT: true; the input reads as it did. -/
def searchMoreSpec : ChangeSpec := { name := "searchMore", fn := fun _ => fun
  | [d1, d2, d3] => { results := [.lit (.bool true)], args := [d1, d2, d3] }
  | _ => none }
def searchMoreRow : OpenClaim := { program := "ytopcjbahjjhdmaagreat", sum := "6197407fdb8a69750c6ab3e6847cb8e9beed56e118cf5274faff17f95d9fe884", func := "secateur/secateurlaw14.SearchMore", spec := "searchMore", unfollowed := true, recurses := true, apart := false }
def SearchMoreSaid : Prop := searchMoreRow.holds Tryz.pinned (OpenSpec.ofChange searchMoreSpec)

/-- ITS FALSE NEIGHBOUR: 'it returns false'. Refute it at one input. -/
def searchMoreWrong : ChangeSpec := { name := "searchMore", fn := fun _ => fun
  | [d1, d2, d3] => { results := [.lit (.bool false)], args := [d1, d2, d3] }
  | _ => none }
def SearchMoreWrongFalsely : Prop := searchMoreRow.holds Tryz.pinned (OpenSpec.ofChange searchMoreWrong)

/- THE SECOND FORM. 'bulk': how many values and letters a reading holds, each counted each time it is reached (what is shared counts as often as it is met; a slice's spare places count too). A statement '..UptoSaid' is the law's where the arguments, and the package variables that the reading takes, are together of bulk at most 1048576: NARROWER than '..Said'. Prove '..Said' where nothing that the law and all that it calls make is longer than what came in: it says more and counts as full. Else prove '..UptoSaid'. A law counts once. -/
mutual
def uptoBulk {H : Type} : DataW H → Nat
  | .lit (.string bytes) => bytes.length + 1
  | .lit _ => 1
  | .nil => 1
  | .ptr d => uptoBulk d + 1
  | .slice elems spare => uptoBulkAll elems + uptoBulkAll spare + 1
  | .agg parts => uptoBulkAll parts + 1
  | .iface _ d => uptoBulk d + 1
  | .map entries => uptoBulkEntries entries + 1
  | .held _ => 1
def uptoBulkAll {H : Type} : List (DataW H) → Nat
  | [] => 0
  | d :: r => uptoBulk d + uptoBulkAll r
def uptoBulkEntries {H : Type} : List (Lit × DataW H) → Nat
  | [] => 0
  | x :: r => uptoBulkEntry x + uptoBulkEntries r
def uptoBulkEntry {H : Type} : Lit × DataW H → Nat
  | (.string bytes, d) => bytes.length + uptoBulk d + 1
  | (_, d) => uptoBulk d + 1
 end
def uptoSmall : (H : Type) → List (DataW H) → Bool := fun _ ds => decide (uptoBulkAll ds ≤ 1048576)
def OpenSpec.upto (s : _root_.Go.ChangeSpec) : _root_.Go.OpenSpec := { _root_.Go.OpenSpec.ofChange s with cond := some uptoSmall }

/-- 'secateurlaw14.SearchAlls', WHERE WHAT IT READS IS OF BULK AT MOST 1048576: true; the input reads as it did. -/
def searchAllsUptoRow : OpenClaim := { program := "ytopcjbahjjhdmaagreat", sum := "6197407fdb8a69750c6ab3e6847cb8e9beed56e118cf5274faff17f95d9fe884", func := "secateur/secateurlaw14.SearchAlls", spec := "searchAlls", unfollowed := true, recurses := true, apart := false, narrowed := true }
def SearchAllsUptoSaid : Prop := searchAllsUptoRow.holds Tryz.pinned (OpenSpec.upto searchAllsSpec)

/-- 'secateurlaw14.SearchBests', WHERE WHAT IT READS IS OF BULK AT MOST 1048576: true; the input reads as it did. -/
def searchBestsUptoRow : OpenClaim := { program := "ytopcjbahjjhdmaagreat", sum := "6197407fdb8a69750c6ab3e6847cb8e9beed56e118cf5274faff17f95d9fe884", func := "secateur/secateurlaw14.SearchBests", spec := "searchBests", unfollowed := true, recurses := true, apart := false, narrowed := true }
def SearchBestsUptoSaid : Prop := searchBestsUptoRow.holds Tryz.pinned (OpenSpec.upto searchBestsSpec)

/-- 'secateurlaw14.SearchWhole', WHERE WHAT IT READS IS OF BULK AT MOST 1048576: true; the input reads as it did. -/
def searchWholeUptoRow : OpenClaim := { program := "ytopcjbahjjhdmaagreat", sum := "6197407fdb8a69750c6ab3e6847cb8e9beed56e118cf5274faff17f95d9fe884", func := "secateur/secateurlaw14.SearchWhole", spec := "searchWhole", unfollowed := true, recurses := true, apart := false, narrowed := true }
def SearchWholeUptoSaid : Prop := searchWholeUptoRow.holds Tryz.pinned (OpenSpec.upto searchWholeSpec)

/-- 'secateurlaw14.SearchLess', WHERE WHAT IT READS IS OF BULK AT MOST 1048576: true; the input reads as it did. -/
def searchLessUptoRow : OpenClaim := { program := "ytopcjbahjjhdmaagreat", sum := "6197407fdb8a69750c6ab3e6847cb8e9beed56e118cf5274faff17f95d9fe884", func := "secateur/secateurlaw14.SearchLess", spec := "searchLess", unfollowed := true, recurses := true, apart := false, narrowed := true }
def SearchLessUptoSaid : Prop := searchLessUptoRow.holds Tryz.pinned (OpenSpec.upto searchLessSpec)

/-- 'secateurlaw14.SearchTurns', WHERE WHAT IT READS IS OF BULK AT MOST 1048576: true; the input reads as it did. -/
def searchTurnsUptoRow : OpenClaim := { program := "ytopcjbahjjhdmaagreat", sum := "6197407fdb8a69750c6ab3e6847cb8e9beed56e118cf5274faff17f95d9fe884", func := "secateur/secateurlaw14.SearchTurns", spec := "searchTurns", unfollowed := true, recurses := true, apart := false, narrowed := true }
def SearchTurnsUptoSaid : Prop := searchTurnsUptoRow.holds Tryz.pinned (OpenSpec.upto searchTurnsSpec)

/-- 'secateurlaw14.SearchOnes', WHERE WHAT IT READS IS OF BULK AT MOST 1048576: true; the input reads as it did. -/
def searchOnesUptoRow : OpenClaim := { program := "ytopcjbahjjhdmaagreat", sum := "6197407fdb8a69750c6ab3e6847cb8e9beed56e118cf5274faff17f95d9fe884", func := "secateur/secateurlaw14.SearchOnes", spec := "searchOnes", unfollowed := true, recurses := true, apart := false, narrowed := true }
def SearchOnesUptoSaid : Prop := searchOnesUptoRow.holds Tryz.pinned (OpenSpec.upto searchOnesSpec)

/-- 'secateurlaw14.SearchMore', WHERE WHAT IT READS IS OF BULK AT MOST 1048576: true; the input reads as it did. -/
def searchMoreUptoRow : OpenClaim := { program := "ytopcjbahjjhdmaagreat", sum := "6197407fdb8a69750c6ab3e6847cb8e9beed56e118cf5274faff17f95d9fe884", func := "secateur/secateurlaw14.SearchMore", spec := "searchMore", unfollowed := true, recurses := true, apart := false, narrowed := true }
def SearchMoreUptoSaid : Prop := searchMoreUptoRow.holds Tryz.pinned (OpenSpec.upto searchMoreSpec)

end Rows
end Go.Proofs.YtopcjbahjjhdmaaGreat
