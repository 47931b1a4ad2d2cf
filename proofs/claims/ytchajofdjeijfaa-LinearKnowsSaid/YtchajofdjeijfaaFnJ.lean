/- Contracts: two lists in order, pruned by the document. -/
import Derived.Test.YtchajofdjeijfaaFnI
namespace Go.Proofs.Ytchajofdjeijfaa
open Go Go.RowKit
set_option linter.unusedVariables false
set_option maxRecDepth 4000

theorem packF_length : ∀ (l : List Int) (lo x : Int), (packF lo x l).length ≤ l.length + 1
  | [], lo, x => by simp [packF]
  | y :: l, lo, x => by
    have h1 := packF_length l lo y
    have h2 := packF_length l y y
    simp only [packF]; split <;> simp only [List.length_cons] <;> omega
theorem pack_length (l : List Int) : (pack l).length ≤ l.length := by
  cases l with
  | nil => simp [pack]
  | cons x l => have := packF_length l x x; simpa [pack] using this
theorem cutR_length {d : List (Int × Int)} (h : DomB d) (lo hi : Int) : ((cutR d lo hi).length) * 16 ≤ 140737488355328 := by
  have h1 := pack_length ((vals d).filter fun v => decide (lo ≤ v) && decide (v ≤ hi))
  have h2 := List.length_filter_le (fun v => decide (lo ≤ v) && decide (v ≤ hi)) (vals d)
  have h3 := h.2.1
  unfold cutR; omega

end Go.Proofs.Ytchajofdjeijfaa
