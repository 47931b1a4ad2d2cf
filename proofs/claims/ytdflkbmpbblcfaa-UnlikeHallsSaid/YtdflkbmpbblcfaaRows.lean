/-
  No cell of these rows narrows 'for every input' (looked for: loops, veiled, ifaces, maps, wideKeys, modest, calm, conditions, laid).
  DERIVED. THE GIVEN ROWS OF THIS SEAT. 6 by the template 'for every input the law returns true; each argument reads behind the call as it read before'; 0 by the template 'total and deterministic' (their statements: YtdflkbmpbblcfaaTotals.lean).
  GIVEN WITH THE SEED: the statements are not yours to turn. If you find one false, say at which input.
  Laid BY PROGRAM, IN A SANDBOX (cutbox-rows.mjs): the forced cells as the released guide's own fill.sh prints them over the translation 541bc102a99b1cfc… (all of the seat's roots in one cut). By AI agents, Wed Nov 11 2026. No macro, syntax, notation, axiom, sorry.
-/
import Derived.Test.YtdflkbmpbblcfaaChecked
import GoSem.Claim
import GoSem.ClaimJoined
import GoSem.ClaimMapViews
import Derived.JoinedTies
import Derived.KernelRfl
namespace Go.Proofs.Ytdflkbmpbblcfaa
/- THE CELL 'sum', in the pinned program and in every row, IS THE sha256 OF THE DUMP (.gsa) THAT YtdflkbmpbblcfaaProg.lean LOADS. Nothing in Lean hashes anything: it is a label: what it is worth is what the hold of that sum in a sandbox is worth. -/
noncomputable def Try.pinned : Pinned := { name := "ytdflkbmpbblcfaa", sum := "541bc102a99b1cfcec058b67eccaf79c281c6382e77259fc75e757f28cbfa894", checked := Try.checked }
namespace Rows
def none {H : Type} : Left H := { results := [], args := [] }

/-- 'secateurlaw08.UnlikePrunes': WHATEVER THE INPUT: true; the input reads as it did. -/
def unlikePrunesSpec : ChangeSpec := { name := "unlikePrunes", fn := fun _ => fun
  | [d] => { results := [.lit (.bool true)], args := [d] }
  | _ => none }
def unlikePrunesRow : OpenClaim := { program := "ytdflkbmpbblcfaa", sum := "541bc102a99b1cfcec058b67eccaf79c281c6382e77259fc75e757f28cbfa894", func := "secateur/secateurlaw08.UnlikePrunes", spec := "unlikePrunes", unfollowed := true, recurses := true, apart := false }
def UnlikePrunesSaid : Prop := unlikePrunesRow.holds Try.pinned (OpenSpec.ofChange unlikePrunesSpec)

/-- ITS FALSE NEIGHBOUR: 'it returns false'. Refute it at one input. -/
def unlikePrunesWrong : ChangeSpec := { name := "unlikePrunes", fn := fun _ => fun
  | [d] => { results := [.lit (.bool false)], args := [d] }
  | _ => none }
def UnlikePrunesWrongFalsely : Prop := unlikePrunesRow.holds Try.pinned (OpenSpec.ofChange unlikePrunesWrong)

/-- 'secateurlaw08.UnlikeMatches': WHATEVER THE INPUT: true; the input reads as it did. -/
def unlikeMatchesSpec : ChangeSpec := { name := "unlikeMatches", fn := fun _ => fun
  | [d] => { results := [.lit (.bool true)], args := [d] }
  | _ => none }
def unlikeMatchesRow : OpenClaim := { program := "ytdflkbmpbblcfaa", sum := "541bc102a99b1cfcec058b67eccaf79c281c6382e77259fc75e757f28cbfa894", func := "secateur/secateurlaw08.UnlikeMatches", spec := "unlikeMatches", unfollowed := true, recurses := true, apart := false }
def UnlikeMatchesSaid : Prop := unlikeMatchesRow.holds Try.pinned (OpenSpec.ofChange unlikeMatchesSpec)

/-- ITS FALSE NEIGHBOUR: 'it returns false'. Refute it at one input. -/
def unlikeMatchesWrong : ChangeSpec := { name := "unlikeMatches", fn := fun _ => fun
  | [d] => { results := [.lit (.bool false)], args := [d] }
  | _ => none }
def UnlikeMatchesWrongFalsely : Prop := unlikeMatchesRow.holds Try.pinned (OpenSpec.ofChange unlikeMatchesWrong)

/-- 'secateurlaw08.UnlikeHalls': WHATEVER THE INPUT: true; the input reads as it did. -/
def unlikeHallsSpec : ChangeSpec := { name := "unlikeHalls", fn := fun _ => fun
  | [d1, d2] => { results := [.lit (.bool true)], args := [d1, d2] }
  | _ => none }
def unlikeHallsRow : OpenClaim := { program := "ytdflkbmpbblcfaa", sum := "541bc102a99b1cfcec058b67eccaf79c281c6382e77259fc75e757f28cbfa894", func := "secateur/secateurlaw08.UnlikeHalls", spec := "unlikeHalls", unfollowed := true, recurses := true, apart := false }
def UnlikeHallsSaid : Prop := unlikeHallsRow.holds Try.pinned (OpenSpec.ofChange unlikeHallsSpec)

/-- ITS FALSE NEIGHBOUR: 'it returns false'. Refute it at one input. -/
def unlikeHallsWrong : ChangeSpec := { name := "unlikeHalls", fn := fun _ => fun
  | [d1, d2] => { results := [.lit (.bool false)], args := [d1, d2] }
  | _ => none }
def UnlikeHallsWrongFalsely : Prop := unlikeHallsRow.holds Try.pinned (OpenSpec.ofChange unlikeHallsWrong)

/-- 'secateurlaw08.UnlikeOrder': WHATEVER THE INPUT: true; the input reads as it did. -/
def unlikeOrderSpec : ChangeSpec := { name := "unlikeOrder", fn := fun _ => fun
  | [d] => { results := [.lit (.bool true)], args := [d] }
  | _ => none }
def unlikeOrderRow : OpenClaim := { program := "ytdflkbmpbblcfaa", sum := "541bc102a99b1cfcec058b67eccaf79c281c6382e77259fc75e757f28cbfa894", func := "secateur/secateurlaw08.UnlikeOrder", spec := "unlikeOrder", unfollowed := true, recurses := true, apart := false }
def UnlikeOrderSaid : Prop := unlikeOrderRow.holds Try.pinned (OpenSpec.ofChange unlikeOrderSpec)

/-- ITS FALSE NEIGHBOUR: 'it returns false'. Refute it at one input. -/
def unlikeOrderWrong : ChangeSpec := { name := "unlikeOrder", fn := fun _ => fun
  | [d] => { results := [.lit (.bool false)], args := [d] }
  | _ => none }
def UnlikeOrderWrongFalsely : Prop := unlikeOrderRow.holds Try.pinned (OpenSpec.ofChange unlikeOrderWrong)

/-- 'secateurlaw08.UnlikeKnown': WHATEVER THE INPUT: true; the input reads as it did. -/
def unlikeKnownSpec : ChangeSpec := { name := "unlikeKnown", fn := fun _ => fun
  | [d] => { results := [.lit (.bool true)], args := [d] }
  | _ => none }
def unlikeKnownRow : OpenClaim := { program := "ytdflkbmpbblcfaa", sum := "541bc102a99b1cfcec058b67eccaf79c281c6382e77259fc75e757f28cbfa894", func := "secateur/secateurlaw08.UnlikeKnown", spec := "unlikeKnown", unfollowed := true, recurses := true, apart := false }
def UnlikeKnownSaid : Prop := unlikeKnownRow.holds Try.pinned (OpenSpec.ofChange unlikeKnownSpec)

/-- ITS FALSE NEIGHBOUR: 'it returns false'. Refute it at one input. -/
def unlikeKnownWrong : ChangeSpec := { name := "unlikeKnown", fn := fun _ => fun
  | [d] => { results := [.lit (.bool false)], args := [d] }
  | _ => none }
def UnlikeKnownWrongFalsely : Prop := unlikeKnownRow.holds Try.pinned (OpenSpec.ofChange unlikeKnownWrong)

/-- 'secateurlaw08.UnlikeOne': WHATEVER THE INPUT: true; the input reads as it did. -/
def unlikeOneSpec : ChangeSpec := { name := "unlikeOne", fn := fun _ => fun
  | [d1, d2] => { results := [.lit (.bool true)], args := [d1, d2] }
  | _ => none }
def unlikeOneRow : OpenClaim := { program := "ytdflkbmpbblcfaa", sum := "541bc102a99b1cfcec058b67eccaf79c281c6382e77259fc75e757f28cbfa894", func := "secateur/secateurlaw08.UnlikeOne", spec := "unlikeOne", unfollowed := true, recurses := true, apart := false }
def UnlikeOneSaid : Prop := unlikeOneRow.holds Try.pinned (OpenSpec.ofChange unlikeOneSpec)

/-- ITS FALSE NEIGHBOUR: 'it returns false'. Refute it at one input. -/
def unlikeOneWrong : ChangeSpec := { name := "unlikeOne", fn := fun _ => fun
  | [d1, d2] => { results := [.lit (.bool false)], args := [d1, d2] }
  | _ => none }
def UnlikeOneWrongFalsely : Prop := unlikeOneRow.holds Try.pinned (OpenSpec.ofChange unlikeOneWrong)

/- THE SECOND FORM. 'bulk': how many values and letters a reading holds, each counted each time it is reached (what is shared counts as often as it is met; a slice's spare places count too). A statement '..UptoSaid' is the law's where the arguments, and the package variables that the reading takes, are together of bulk at most 1048576: NARROWER than '..Said'. Prove '..Said' where nothing that the law and all that it calls make is longer than what came in: it says more and counts as full. Else prove '..UptoSaid'. A law counts once. -/
mutual
def uptoBulk {H : Type} : DataW H → Nat
  | .lit (.string bytes) => bytes.length + 1
  | .lit _ => 1
  | .nil => 1
  | .ptr d => uptoBulk d + 1
  | .slice elems spare => uptoBulkAll elems + uptoBulkAll spare + 1
  | .agg parts => uptoBulkAll parts + 1
  | .iface _ d => uptoBulk d + 1
  | .map entries => uptoBulkEntries entries + 1
  | .held _ => 1
def uptoBulkAll {H : Type} : List (DataW H) → Nat
  | [] => 0
  | d :: r => uptoBulk d + uptoBulkAll r
def uptoBulkEntries {H : Type} : List (Lit × DataW H) → Nat
  | [] => 0
  | x :: r => uptoBulkEntry x + uptoBulkEntries r
def uptoBulkEntry {H : Type} : Lit × DataW H → Nat
  | (.string bytes, d) => bytes.length + uptoBulk d + 1
  | (_, d) => uptoBulk d + 1
 end
def uptoSmall : (H : Type) → List (DataW H) → Bool := fun _ ds => decide (uptoBulkAll ds ≤ 1048576)
def OpenSpec.upto (s : _root_.Go.ChangeSpec) : _root_.Go.OpenSpec := { _root_.Go.OpenSpec.ofChange s with cond := some uptoSmall }

/-- 'secateurlaw08.UnlikePrunes', WHERE WHAT IT READS IS OF BULK AT MOST 1048576: true; the input reads as it did. -/
def unlikePrunesUptoRow : OpenClaim := { program := "ytdflkbmpbblcfaa", sum := "541bc102a99b1cfcec058b67eccaf79c281c6382e77259fc75e757f28cbfa894", func := "secateur/secateurlaw08.UnlikePrunes", spec := "unlikePrunes", unfollowed := true, recurses := true, apart := false, narrowed := true }
def UnlikePrunesUptoSaid : Prop := unlikePrunesUptoRow.holds Try.pinned (OpenSpec.upto unlikePrunesSpec)

/-- 'secateurlaw08.UnlikeMatches', WHERE WHAT IT READS IS OF BULK AT MOST 1048576: true; the input reads as it did. -/
def unlikeMatchesUptoRow : OpenClaim := { program := "ytdflkbmpbblcfaa", sum := "541bc102a99b1cfcec058b67eccaf79c281c6382e77259fc75e757f28cbfa894", func := "secateur/secateurlaw08.UnlikeMatches", spec := "unlikeMatches", unfollowed := true, recurses := true, apart := false, narrowed := true }
def UnlikeMatchesUptoSaid : Prop := unlikeMatchesUptoRow.holds Try.pinned (OpenSpec.upto unlikeMatchesSpec)

/-- 'secateurlaw08.UnlikeHalls', WHERE WHAT IT READS IS OF BULK AT MOST 1048576: true; the input reads as it did. -/
def unlikeHallsUptoRow : OpenClaim := { program := "ytdflkbmpbblcfaa", sum := "541bc102a99b1cfcec058b67eccaf79c281c6382e77259fc75e757f28cbfa894", func := "secateur/secateurlaw08.UnlikeHalls", spec := "unlikeHalls", unfollowed := true, recurses := true, apart := false, narrowed := true }
def UnlikeHallsUptoSaid : Prop := unlikeHallsUptoRow.holds Try.pinned (OpenSpec.upto unlikeHallsSpec)

/-- 'secateurlaw08.UnlikeOrder', WHERE WHAT IT READS IS OF BULK AT MOST 1048576: true; the input reads as it did. -/
def unlikeOrderUptoRow : OpenClaim := { program := "ytdflkbmpbblcfaa", sum := "541bc102a99b1cfcec058b67eccaf79c281c6382e77259fc75e757f28cbfa894", func := "secateur/secateurlaw08.UnlikeOrder", spec := "unlikeOrder", unfollowed := true, recurses := true, apart := false, narrowed := true }
def UnlikeOrderUptoSaid : Prop := unlikeOrderUptoRow.holds Try.pinned (OpenSpec.upto unlikeOrderSpec)

/-- 'secateurlaw08.UnlikeKnown', WHERE WHAT IT READS IS OF BULK AT MOST 1048576: true; the input reads as it did. -/
def unlikeKnownUptoRow : OpenClaim := { program := "ytdflkbmpbblcfaa", sum := "541bc102a99b1cfcec058b67eccaf79c281c6382e77259fc75e757f28cbfa894", func := "secateur/secateurlaw08.UnlikeKnown", spec := "unlikeKnown", unfollowed := true, recurses := true, apart := false, narrowed := true }
def UnlikeKnownUptoSaid : Prop := unlikeKnownUptoRow.holds Try.pinned (OpenSpec.upto unlikeKnownSpec)

/-- 'secateurlaw08.UnlikeOne', WHERE WHAT IT READS IS OF BULK AT MOST 1048576: true; the input reads as it did. -/
def unlikeOneUptoRow : OpenClaim := { program := "ytdflkbmpbblcfaa", sum := "541bc102a99b1cfcec058b67eccaf79c281c6382e77259fc75e757f28cbfa894", func := "secateur/secateurlaw08.UnlikeOne", spec := "unlikeOne", unfollowed := true, recurses := true, apart := false, narrowed := true }
def UnlikeOneUptoSaid : Prop := unlikeOneUptoRow.holds Try.pinned (OpenSpec.upto unlikeOneSpec)

end Rows
end Go.Proofs.Ytdflkbmpbblcfaa
