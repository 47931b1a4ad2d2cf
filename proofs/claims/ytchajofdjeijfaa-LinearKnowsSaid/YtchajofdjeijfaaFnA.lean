/- Contracts: numbers in lists. -/
import Derived.Test.YtchajofdjeijfaaCoreP
import Derived.Test.YtchajofdjeijfaaProg
namespace Go.Proofs.Ytchajofdjeijfaa
open Go Go.RowKit
set_option linter.unusedVariables false
set_option maxRecDepth 4000

def valueB (v : Int) : Bool := decide (-1048576 ≤ v ∧ v ≤ 1048576)
theorem value_spec (v : Int) : Spec Try.prog 93 false [.int .i64 v] [.val (.bool (valueB v))] := by
  refine Spec.body Try.func93 rfl rfl rfl fun w0 Z0 => ?_
  repeat' first | refine T.seq ?_ | refine T.block ?_ | refine T.r ?_ | refine J.e rfl rfl rfl rfl ?_ | refine J.nil ?_ | refine J.skip rfl rfl rfl ?_ | refine T.skip ?_ | refine T.exit ?_ | refine T.ret ?_ | refine T.rd rfl (by kernel_rfl) ?_ | refine J.bx rfl rfl rfl rfl rfl rfl ?_
  refine J.g rfl rfl rfl (fun h => ?_) (fun h => ?_)
  · repeat' first | refine T.seq ?_ | refine T.block ?_ | refine T.r ?_ | refine J.e rfl rfl rfl rfl ?_ | refine J.nil ?_ | refine J.skip rfl rfl rfl ?_ | refine T.skip ?_ | refine T.exit ?_ | refine T.ret ?_ | refine T.rd rfl (by kernel_rfl) ?_ | refine J.bx rfl rfl rfl rfl rfl rfl ?_
    exact ⟨_, .v rfl rfl (by simp [valueB, show -1048576 ≤ v from h]) (fun _ => rfl) .nil⟩
  · repeat' first | refine T.seq ?_ | refine T.block ?_ | refine T.r ?_ | refine J.e rfl rfl rfl rfl ?_ | refine J.nil ?_ | refine J.skip rfl rfl rfl ?_ | refine T.skip ?_ | refine T.exit ?_ | refine T.ret ?_ | refine T.rd rfl (by kernel_rfl) ?_ | refine J.bx rfl rfl rfl rfl rfl rfl ?_
    exact ⟨_, .v rfl rfl (by simp [valueB, show ¬ -1048576 ≤ v from h]) (fun _ => rfl) .nil⟩

theorem has_spec (l : List Int) (v : Int) (hl : l.length ≤ 9223372036854775806) : Spec Try.prog 28 false [ints l, .int .i64 v] [.val (.bool (decide (v ∈ l)))] := by
  refine Spec.body Try.func28 rfl rfl rfl fun w0 Z0 => ?_
  repeat' first | refine T.seq ?_ | refine T.block ?_ | refine T.r ?_ | refine J.e rfl rfl rfl rfl ?_ | refine J.nil ?_ | refine J.skip rfl rfl rfl ?_ | refine T.skip ?_ | refine T.exit ?_ | refine T.ret ?_ | refine T.rd rfl (by kernel_rfl) ?_ | refine J.bx rfl rfl rfl rfl rfl rfl ?_
  · refine T.canon (keep := [0, 1, 5]) (os := []) rfl (T.ind (fun i : Nat => ⟨[(0, .val false (ints l)), (1, .val false (.int .i64 v)), (5, .val true (.int .i64 i))], [], 0⟩) (fun i => i ≤ l.length ∧ ∀ x ∈ l.take i, x ≠ v) (fun i => l.length - i) 0 (by simp) (fun _ _ h => h) ?_)
    rintro i ⟨hi, hx⟩ ih
    repeat' first | refine T.seq ?_ | refine T.block ?_ | refine T.r ?_ | refine J.e rfl rfl rfl rfl ?_ | refine J.nil ?_ | refine J.skip rfl rfl rfl ?_ | refine T.skip ?_ | refine T.exit ?_ | refine T.ret ?_ | refine T.rd rfl (by kernel_rfl) ?_ | refine J.bx rfl rfl rfl rfl rfl rfl ?_
    refine T.cd rfl (fun h => ?_) (fun h => ?_)
    · simp at h
      repeat' first | refine T.seq ?_ | refine T.block ?_ | refine T.r ?_ | refine J.e rfl rfl rfl rfl ?_ | refine J.nil ?_ | refine J.skip rfl rfl rfl ?_ | refine T.skip ?_ | refine T.exit ?_ | refine T.ret ?_ | refine T.rd rfl (by kernel_rfl) ?_ | refine J.bx rfl rfl rfl rfl rfl rfl ?_
      refine J.i rfl rfl rfl rfl rfl rfl rfl rfl rfl (r := cI l[i]) (by omega) (by simp [h]) rfl ?_
      repeat' first | refine T.seq ?_ | refine T.block ?_ | refine T.r ?_ | refine J.e rfl rfl rfl rfl ?_ | refine J.nil ?_ | refine J.skip rfl rfl rfl ?_ | refine T.skip ?_ | refine T.exit ?_ | refine T.ret ?_ | refine T.rd rfl (by kernel_rfl) ?_ | refine J.bx rfl rfl rfl rfl rfl rfl ?_
      refine T.cd rfl (fun h2 => ?_) (fun h2 => ?_)
      · repeat' first | refine T.seq ?_ | refine T.block ?_ | refine T.r ?_ | refine J.e rfl rfl rfl rfl ?_ | refine J.nil ?_ | refine J.skip rfl rfl rfl ?_ | refine T.skip ?_ | refine T.exit ?_ | refine T.ret ?_ | refine T.rd rfl (by kernel_rfl) ?_ | refine J.bx rfl rfl rfl rfl rfl rfl ?_
        exact ⟨_, .v rfl rfl (by rw [← h2]; simp) (fun _ => rfl) .nil⟩
      · repeat' first | refine T.seq ?_ | refine T.block ?_ | refine T.r ?_ | refine J.e rfl rfl rfl rfl ?_ | refine J.nil ?_ | refine J.skip rfl rfl rfl ?_ | refine T.skip ?_ | refine T.exit ?_ | refine T.ret ?_ | refine T.rd rfl (by kernel_rfl) ?_ | refine J.bx rfl rfl rfl rfl rfl rfl ?_
        rw [wrap_id (by omega) (by omega)]
        refine T.canon (keep := [0, 1, 5]) (os := []) rfl (ih (i + 1) ⟨by omega, ?_⟩ (by omega))
        intro x hm
        rw [List.take_succ_eq_append_getElem h] at hm
        simp only [List.mem_append, List.mem_singleton] at hm
        rcases hm with hm | hm
        · exact hx x hm
        · rw [hm]; exact h2
    · simp at h
      repeat' first | refine T.seq ?_ | refine T.block ?_ | refine T.r ?_ | refine J.e rfl rfl rfl rfl ?_ | refine J.nil ?_ | refine J.skip rfl rfl rfl ?_ | refine T.skip ?_ | refine T.exit ?_ | refine T.ret ?_ | refine T.rd rfl (by kernel_rfl) ?_ | refine J.bx rfl rfl rfl rfl rfl rfl ?_
      refine ⟨_, .v rfl rfl ?_ (fun _ => rfl) .nil⟩
      rw [List.take_of_length_le h] at hx
      simp only [PV.bool.injEq, Bool.false_eq, decide_eq_false_iff_not]
      exact fun hm => hx v hm rfl

/-- Put into its place. -/
def insS (v : Int) : List Int → List Int
  | [] => [v]
  | x :: xs => if v < x then v :: x :: xs else x :: insS v xs
def insU (v : Int) (l : List Int) : List Int := if v ∈ l then l else insS v l
def sortU (l : List Int) : List Int := l.foldl (fun out v => insU v out) []
theorem insS_length (v : Int) : ∀ l, (insS v l).length = l.length + 1
  | [] => rfl
  | x :: xs => by simp only [insS]; split <;> simp [insS_length v xs]
theorem insU_length (v : Int) (l : List Int) : (insU v l).length ≤ l.length + 1 := by
  unfold insU; split
  · omega
  · rw [insS_length]; omega
theorem sortU_length' : ∀ (l out : List Int), (l.foldl (fun out v => insU v out) out).length ≤ out.length + l.length
  | [], out => by simp
  | v :: l, out => by
    have h1 := sortU_length' l (insU v out)
    have h2 := insU_length v out
    simp only [List.foldl_cons, List.length_cons]
    omega
theorem sortU_length (l : List Int) : (sortU l).length ≤ l.length := by have := sortU_length' l []; simpa [sortU] using this
end Go.Proofs.Ytchajofdjeijfaa
