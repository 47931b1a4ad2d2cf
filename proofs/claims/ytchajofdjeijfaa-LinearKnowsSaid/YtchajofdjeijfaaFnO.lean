/- Contracts: the calls whose answers the document fixes. -/
import Derived.Test.YtchajofdjeijfaaFnN
namespace Go.Proofs.Ytchajofdjeijfaa
open Go Go.RowKit
set_option linter.unusedVariables false
set_option maxRecDepth 8000

def cLex (vars : List Int) : Con := ⟨6, vars, [], 0, 0, [], 0⟩
def fxD : Doms := [[(1, 1)], [(2, 3)], [(1, 1)], [(0, 2)]]
theorem fx1 : iter (stepO (cLex [0, 1, 2, 3])) 5 fxD = some (some [[(1, 1)], [(2, 2)], [(1, 1)], [(2, 2)]]) := by decide
theorem fx2 : iter (stepO (cLex [0, 1])) 5 [[(0, 3)], [(1, 2)]] = some (some [[(0, 2)], [(1, 2)]]) := by decide
theorem fx3 : iter (stepO (cLex [0, 1])) 5 [[(3, 4)], [(1, 2)]] = some none := by decide
theorem fx4 : placeO fxD (cLex [0, 1, 2, 3]) = 1 := by decide
theorem fx5 : placeO fxD (cLex [0, 1, 2, 1]) = 2 := by decide

end Go.Proofs.Ytchajofdjeijfaa
