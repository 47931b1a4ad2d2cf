/-
  No cell of these rows narrows 'for every input' (looked for: loops, veiled, ifaces, maps, wideKeys, modest, calm, conditions, laid).
  DERIVED. THE GIVEN ROWS OF THIS SEAT. 6 by the template 'for every input the law returns true; each argument reads behind the call as it read before'; 0 by the template 'total and deterministic' (their statements: YtgkblgddpldpeaaTotals.lean).
  GIVEN WITH THE SEED: the statements are not yours to turn. If you find one false, say at which input.
  Laid BY PROGRAM, IN A SANDBOX (cutbox-rows.mjs): the forced cells as the released guide's own fill.sh prints them over the translation 9329e4f0e1885e36… (all of the seat's roots in one cut). By AI agents, Wed Nov 11 2026. No macro, syntax, notation, axiom, sorry.
-/
import Derived.Test.YtgkblgddpldpeaaChecked
import GoSem.Claim
import GoSem.ClaimJoined
import GoSem.ClaimMapViews
import Derived.JoinedTies
import Derived.KernelRfl
namespace Go.Proofs.Ytgkblgddpldpeaa
/- THE CELL 'sum', in the pinned program and in every row, IS THE sha256 OF THE DUMP (.gsa) THAT YtgkblgddpldpeaaProg.lean LOADS. Nothing in Lean hashes anything: it is a label: what it is worth is what the hold of that sum in a sandbox is worth. -/
noncomputable def Try.pinned : Pinned := { name := "ytgkblgddpldpeaa", sum := "9329e4f0e1885e367d9f9822bdf01481e9f93c0f452b7c69f0162daed14490a3", checked := Try.checked }
namespace Rows
def none {H : Type} : Left H := { results := [], args := [] }

/-- 'secateurlaw12.OrderPrunes': WHATEVER THE INPUT: true; the input reads as it did. -/
def orderPrunesSpec : ChangeSpec := { name := "orderPrunes", fn := fun _ => fun
  | [d] => { results := [.lit (.bool true)], args := [d] }
  | _ => none }
def orderPrunesRow : OpenClaim := { program := "ytgkblgddpldpeaa", sum := "9329e4f0e1885e367d9f9822bdf01481e9f93c0f452b7c69f0162daed14490a3", func := "secateur/secateurlaw12.OrderPrunes", spec := "orderPrunes", apart := false }
def OrderPrunesSaid : Prop := orderPrunesRow.holds Try.pinned (OpenSpec.ofChange orderPrunesSpec)

/-- ITS FALSE NEIGHBOUR: 'it returns false'. Refute it at one input. -/
def orderPrunesWrong : ChangeSpec := { name := "orderPrunes", fn := fun _ => fun
  | [d] => { results := [.lit (.bool false)], args := [d] }
  | _ => none }
def OrderPrunesWrongFalsely : Prop := orderPrunesRow.holds Try.pinned (OpenSpec.ofChange orderPrunesWrong)

/-- 'secateurlaw12.OrderDecides': WHATEVER THE INPUT: true; the input reads as it did. -/
def orderDecidesSpec : ChangeSpec := { name := "orderDecides", fn := fun _ => fun
  | [d] => { results := [.lit (.bool true)], args := [d] }
  | _ => none }
def orderDecidesRow : OpenClaim := { program := "ytgkblgddpldpeaa", sum := "9329e4f0e1885e367d9f9822bdf01481e9f93c0f452b7c69f0162daed14490a3", func := "secateur/secateurlaw12.OrderDecides", spec := "orderDecides", apart := false }
def OrderDecidesSaid : Prop := orderDecidesRow.holds Try.pinned (OpenSpec.ofChange orderDecidesSpec)

/-- ITS FALSE NEIGHBOUR: 'it returns false'. Refute it at one input. -/
def orderDecidesWrong : ChangeSpec := { name := "orderDecides", fn := fun _ => fun
  | [d] => { results := [.lit (.bool false)], args := [d] }
  | _ => none }
def OrderDecidesWrongFalsely : Prop := orderDecidesRow.holds Try.pinned (OpenSpec.ofChange orderDecidesWrong)

/-- 'secateurlaw12.OrderFirst': WHATEVER THE INPUT: true; the input reads as it did. -/
def orderFirstSpec : ChangeSpec := { name := "orderFirst", fn := fun _ => fun
  | [d] => { results := [.lit (.bool true)], args := [d] }
  | _ => none }
def orderFirstRow : OpenClaim := { program := "ytgkblgddpldpeaa", sum := "9329e4f0e1885e367d9f9822bdf01481e9f93c0f452b7c69f0162daed14490a3", func := "secateur/secateurlaw12.OrderFirst", spec := "orderFirst", apart := false }
def OrderFirstSaid : Prop := orderFirstRow.holds Try.pinned (OpenSpec.ofChange orderFirstSpec)

/-- ITS FALSE NEIGHBOUR: 'it returns false'. Refute it at one input. -/
def orderFirstWrong : ChangeSpec := { name := "orderFirst", fn := fun _ => fun
  | [d] => { results := [.lit (.bool false)], args := [d] }
  | _ => none }
def OrderFirstWrongFalsely : Prop := orderFirstRow.holds Try.pinned (OpenSpec.ofChange orderFirstWrong)

/-- 'secateurlaw12.OrderLonger': WHATEVER THE INPUT: true; the input reads as it did. -/
def orderLongerSpec : ChangeSpec := { name := "orderLonger", fn := fun _ => fun
  | [d] => { results := [.lit (.bool true)], args := [d] }
  | _ => none }
def orderLongerRow : OpenClaim := { program := "ytgkblgddpldpeaa", sum := "9329e4f0e1885e367d9f9822bdf01481e9f93c0f452b7c69f0162daed14490a3", func := "secateur/secateurlaw12.OrderLonger", spec := "orderLonger", apart := false }
def OrderLongerSaid : Prop := orderLongerRow.holds Try.pinned (OpenSpec.ofChange orderLongerSpec)

/-- ITS FALSE NEIGHBOUR: 'it returns false'. Refute it at one input. -/
def orderLongerWrong : ChangeSpec := { name := "orderLonger", fn := fun _ => fun
  | [d] => { results := [.lit (.bool false)], args := [d] }
  | _ => none }
def OrderLongerWrongFalsely : Prop := orderLongerRow.holds Try.pinned (OpenSpec.ofChange orderLongerWrong)

/-- 'secateurlaw12.OrderPlace': WHATEVER THE INPUT: true; the input reads as it did. -/
def orderPlaceSpec : ChangeSpec := { name := "orderPlace", fn := fun _ => fun
  | [d] => { results := [.lit (.bool true)], args := [d] }
  | _ => none }
def orderPlaceRow : OpenClaim := { program := "ytgkblgddpldpeaa", sum := "9329e4f0e1885e367d9f9822bdf01481e9f93c0f452b7c69f0162daed14490a3", func := "secateur/secateurlaw12.OrderPlace", spec := "orderPlace", apart := false }
def OrderPlaceSaid : Prop := orderPlaceRow.holds Try.pinned (OpenSpec.ofChange orderPlaceSpec)

/-- ITS FALSE NEIGHBOUR: 'it returns false'. Refute it at one input. -/
def orderPlaceWrong : ChangeSpec := { name := "orderPlace", fn := fun _ => fun
  | [d] => { results := [.lit (.bool false)], args := [d] }
  | _ => none }
def OrderPlaceWrongFalsely : Prop := orderPlaceRow.holds Try.pinned (OpenSpec.ofChange orderPlaceWrong)

/-- 'secateurlaw12.OrderFree': WHATEVER THE INPUT: true; the input reads as it did. -/
def orderFreeSpec : ChangeSpec := { name := "orderFree", fn := fun _ => fun
  | [d1, d2] => { results := [.lit (.bool true)], args := [d1, d2] }
  | _ => none }
def orderFreeRow : OpenClaim := { program := "ytgkblgddpldpeaa", sum := "9329e4f0e1885e367d9f9822bdf01481e9f93c0f452b7c69f0162daed14490a3", func := "secateur/secateurlaw12.OrderFree", spec := "orderFree", apart := false }
def OrderFreeSaid : Prop := orderFreeRow.holds Try.pinned (OpenSpec.ofChange orderFreeSpec)

/-- ITS FALSE NEIGHBOUR: 'it returns false'. Refute it at one input. -/
def orderFreeWrong : ChangeSpec := { name := "orderFree", fn := fun _ => fun
  | [d1, d2] => { results := [.lit (.bool false)], args := [d1, d2] }
  | _ => none }
def OrderFreeWrongFalsely : Prop := orderFreeRow.holds Try.pinned (OpenSpec.ofChange orderFreeWrong)

/- THE SECOND FORM. 'bulk': how many values and letters a reading holds, each counted each time it is reached (what is shared counts as often as it is met; a slice's spare places count too). A statement '..UptoSaid' is the law's where the arguments, and the package variables that the reading takes, are together of bulk at most 1048576: NARROWER than '..Said'. Prove '..Said' where nothing that the law and all that it calls make is longer than what came in: it says more and counts as full. Else prove '..UptoSaid'. A law counts once. -/
mutual
def uptoBulk {H : Type} : DataW H → Nat
  | .lit (.string bytes) => bytes.length + 1
  | .lit _ => 1
  | .nil => 1
  | .ptr d => uptoBulk d + 1
  | .slice elems spare => uptoBulkAll elems + uptoBulkAll spare + 1
  | .agg parts => uptoBulkAll parts + 1
  | .iface _ d => uptoBulk d + 1
  | .map entries => uptoBulkEntries entries + 1
  | .held _ => 1
def uptoBulkAll {H : Type} : List (DataW H) → Nat
  | [] => 0
  | d :: r => uptoBulk d + uptoBulkAll r
def uptoBulkEntries {H : Type} : List (Lit × DataW H) → Nat
  | [] => 0
  | x :: r => uptoBulkEntry x + uptoBulkEntries r
def uptoBulkEntry {H : Type} : Lit × DataW H → Nat
  | (.string bytes, d) => bytes.length + uptoBulk d + 1
  | (_, d) => uptoBulk d + 1
 end
def uptoSmall : (H : Type) → List (DataW H) → Bool := fun _ ds => decide (uptoBulkAll ds ≤ 1048576)
def OpenSpec.upto (s : _root_.Go.ChangeSpec) : _root_.Go.OpenSpec := { _root_.Go.OpenSpec.ofChange s with cond := some uptoSmall }

/-- 'secateurlaw12.OrderPrunes', WHERE WHAT IT READS IS OF BULK AT MOST 1048576: true; the input reads as it did. -/
def orderPrunesUptoRow : OpenClaim := { program := "ytgkblgddpldpeaa", sum := "9329e4f0e1885e367d9f9822bdf01481e9f93c0f452b7c69f0162daed14490a3", func := "secateur/secateurlaw12.OrderPrunes", spec := "orderPrunes", apart := false, narrowed := true }
def OrderPrunesUptoSaid : Prop := orderPrunesUptoRow.holds Try.pinned (OpenSpec.upto orderPrunesSpec)

/-- 'secateurlaw12.OrderDecides', WHERE WHAT IT READS IS OF BULK AT MOST 1048576: true; the input reads as it did. -/
def orderDecidesUptoRow : OpenClaim := { program := "ytgkblgddpldpeaa", sum := "9329e4f0e1885e367d9f9822bdf01481e9f93c0f452b7c69f0162daed14490a3", func := "secateur/secateurlaw12.OrderDecides", spec := "orderDecides", apart := false, narrowed := true }
def OrderDecidesUptoSaid : Prop := orderDecidesUptoRow.holds Try.pinned (OpenSpec.upto orderDecidesSpec)

/-- 'secateurlaw12.OrderFirst', WHERE WHAT IT READS IS OF BULK AT MOST 1048576: true; the input reads as it did. -/
def orderFirstUptoRow : OpenClaim := { program := "ytgkblgddpldpeaa", sum := "9329e4f0e1885e367d9f9822bdf01481e9f93c0f452b7c69f0162daed14490a3", func := "secateur/secateurlaw12.OrderFirst", spec := "orderFirst", apart := false, narrowed := true }
def OrderFirstUptoSaid : Prop := orderFirstUptoRow.holds Try.pinned (OpenSpec.upto orderFirstSpec)

/-- 'secateurlaw12.OrderLonger', WHERE WHAT IT READS IS OF BULK AT MOST 1048576: true; the input reads as it did. -/
def orderLongerUptoRow : OpenClaim := { program := "ytgkblgddpldpeaa", sum := "9329e4f0e1885e367d9f9822bdf01481e9f93c0f452b7c69f0162daed14490a3", func := "secateur/secateurlaw12.OrderLonger", spec := "orderLonger", apart := false, narrowed := true }
def OrderLongerUptoSaid : Prop := orderLongerUptoRow.holds Try.pinned (OpenSpec.upto orderLongerSpec)

/-- 'secateurlaw12.OrderPlace', WHERE WHAT IT READS IS OF BULK AT MOST 1048576: true; the input reads as it did. -/
def orderPlaceUptoRow : OpenClaim := { program := "ytgkblgddpldpeaa", sum := "9329e4f0e1885e367d9f9822bdf01481e9f93c0f452b7c69f0162daed14490a3", func := "secateur/secateurlaw12.OrderPlace", spec := "orderPlace", apart := false, narrowed := true }
def OrderPlaceUptoSaid : Prop := orderPlaceUptoRow.holds Try.pinned (OpenSpec.upto orderPlaceSpec)

/-- 'secateurlaw12.OrderFree', WHERE WHAT IT READS IS OF BULK AT MOST 1048576: true; the input reads as it did. -/
def orderFreeUptoRow : OpenClaim := { program := "ytgkblgddpldpeaa", sum := "9329e4f0e1885e367d9f9822bdf01481e9f93c0f452b7c69f0162daed14490a3", func := "secateur/secateurlaw12.OrderFree", spec := "orderFree", apart := false, narrowed := true }
def OrderFreeUptoSaid : Prop := orderFreeUptoRow.holds Try.pinned (OpenSpec.upto orderFreeSpec)

end Rows
end Go.Proofs.Ytgkblgddpldpeaa
