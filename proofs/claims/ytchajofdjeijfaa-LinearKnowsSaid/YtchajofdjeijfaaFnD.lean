/- Contracts: packed values, what is cut out of them. -/
import Derived.Test.YtchajofdjeijfaaFnC
namespace Go.Proofs.Ytchajofdjeijfaa
open Go Go.RowKit
set_option linter.unusedVariables false
set_option maxRecDepth 4000

def packF (lo : Int) : Int → List Int → List (Int × Int)
  | x, [] => [(lo, x)]
  | x, y :: ys => if y = x + 1 then packF lo y ys else (lo, x) :: packF y y ys
def pack : List Int → List (Int × Int)
  | [] => []
  | x :: xs => packF x x xs

theorem pack_spec (l : List Int) (hv : ∀ v ∈ l, -4611686018427387904 ≤ v ∧ v ≤ 4611686018427387904) (hl : l.length * 16 ≤ 140737488355328) : Spec Try.prog 85 false [ints l] [.own 40 2 ((pack l).map cR)] := by
  refine Spec.body Try.func85 rfl rfl rfl fun w0 Z0 => ?_
  repeat' first | refine T.seq ?_ | refine T.block ?_ | refine T.r ?_ | refine J.e rfl rfl rfl rfl ?_ | refine J.nil ?_ | refine J.skip rfl rfl rfl ?_ | refine T.skip ?_ | refine T.exit ?_ | refine T.ret ?_ | refine T.rd rfl (by kernel_rfl) ?_ | refine J.bx rfl rfl rfl rfl rfl rfl ?_
  refine J.bo rfl rfl rfl rfl rfl rfl rfl rfl rfl rfl rfl rfl ?_
  repeat' first | refine T.seq ?_ | refine T.block ?_ | refine T.r ?_ | refine J.e rfl rfl rfl rfl ?_ | refine J.nil ?_ | refine J.skip rfl rfl rfl ?_ | refine T.skip ?_ | refine T.exit ?_ | refine T.ret ?_ | refine T.rd rfl (by kernel_rfl) ?_ | refine J.bx rfl rfl rfl rfl rfl rfl ?_
  refine T.canon (keep := [0, 3, 4, 5]) (os := [3]) rfl (T.ind (fun (s : Nat × Nat × List (Int × Int)) => ⟨[(0, .val false (ints l)), (3, .ref 0), (4, .val true (.int .i64 s.2.1)), (5, .val true (.int .i64 s.1))], [(0, some (.sl 40 2 true (s.2.2.map cR)))], 1⟩)
    (fun s => s.1 ≤ l.length ∧ s.2.1 ≤ s.1 ∧ s.2.2.length ≤ s.1 ∧ (s.1 = l.length → s.2.2 = pack l) ∧ ∀ x y, l[s.1]? = some x → l[s.2.1]? = some y → s.2.2 ++ packF y x (l.drop (s.1 + 1)) = pack l) (fun s => l.length - s.1) (0, 0, []) ⟨by simp, by simp, by simp, ?_, ?_⟩ (fun _ _ h => h) ?_)
  · intro h; cases l with
    | nil => rfl
    | cons x l => simp at h
  · intro x y h1 h2
    cases l with
    | nil => simp at h1
    | cons z l => simp at h1 h2; subst h1 h2; simp [pack]
  · rintro ⟨i, f, out⟩ ⟨hi, hf, hol, he, hp⟩ ih
    simp only at hi hf hol he hp ih
    dsimp only
    repeat' first | refine T.seq ?_ | refine T.block ?_ | refine T.r ?_ | refine J.e rfl rfl rfl rfl ?_ | refine J.nil ?_ | refine J.skip rfl rfl rfl ?_ | refine T.skip ?_ | refine T.exit ?_ | refine T.ret ?_ | refine T.rd rfl (by kernel_rfl) ?_ | refine J.bx rfl rfl rfl rfl rfl rfl ?_
    refine T.cd rfl (fun h => ?_) (fun h => ?_)
    · simp at h
      have hx := hp l[i] l[f] (by simp) (by simp)
      have hv1 := hv l[i] (by simp)
      repeat' first | refine T.seq ?_ | refine T.block ?_ | refine T.r ?_ | refine J.e rfl rfl rfl rfl ?_ | refine J.nil ?_ | refine J.skip rfl rfl rfl ?_ | refine T.skip ?_ | refine T.exit ?_ | refine T.ret ?_ | refine T.rd rfl (by kernel_rfl) ?_ | refine J.bx rfl rfl rfl rfl rfl rfl ?_
      rw [wrap1 h (by omega)]
      refine J.g rfl rfl rfl (fun h2 => ?_) (fun h2 => ?_)
      · simp at h2
        repeat' first | refine T.seq ?_ | refine T.block ?_ | refine T.r ?_ | refine J.e rfl rfl rfl rfl ?_ | refine J.nil ?_ | refine J.skip rfl rfl rfl ?_ | refine T.skip ?_ | refine T.exit ?_ | refine T.ret ?_ | refine J.bx rfl rfl rfl rfl rfl rfl ?_
        refine T.ct rfl ?_
        repeat' first | refine T.seq ?_ | refine T.block ?_ | refine T.r ?_ | refine J.e rfl rfl rfl rfl ?_ | refine J.nil ?_ | refine J.skip rfl rfl rfl ?_ | refine T.skip ?_ | refine T.exit ?_ | refine T.ret ?_ | refine J.bx rfl rfl rfl rfl rfl rfl ?_
        refine T.rdm 11 rfl (by kernel_rfl) rfl ?_
        repeat' first | refine T.seq ?_ | refine T.block ?_ | refine T.r ?_ | refine J.e rfl rfl rfl rfl ?_ | refine J.nil ?_ | refine J.skip rfl rfl rfl ?_ | refine T.skip ?_ | refine T.exit ?_ | refine T.ret ?_ | refine T.rd rfl (by kernel_rfl) ?_ | refine J.bx rfl rfl rfl rfl rfl rfl ?_
        refine J.i rfl rfl rfl rfl rfl rfl rfl rfl rfl (r := cI l[f]) (by omega) (row_i (by omega)) rfl ?_
        repeat' first | refine T.seq ?_ | refine T.block ?_ | refine T.r ?_ | refine J.e rfl rfl rfl rfl ?_ | refine J.nil ?_ | refine J.skip rfl rfl rfl ?_ | refine T.skip ?_ | refine T.exit ?_ | refine T.ret ?_ | refine T.rd rfl (by kernel_rfl) ?_ | refine J.bx rfl rfl rfl rfl rfl rfl ?_
        refine J.i rfl rfl rfl rfl rfl rfl rfl rfl rfl (r := cI l[i]) (by omega) (row_i h) rfl ?_
        repeat' first | refine T.seq ?_ | refine T.block ?_ | refine T.r ?_ | refine J.e rfl rfl rfl rfl ?_ | refine J.nil ?_ | refine J.skip rfl rfl rfl ?_ | refine T.skip ?_ | refine T.exit ?_ | refine T.ret ?_ | refine T.rd rfl (by kernel_rfl) ?_ | refine J.bx rfl rfl rfl rfl rfl rfl ?_
        refine J.bv rfl rfl rfl rfl rfl rfl rfl rfl rfl rfl rfl rfl ?_
        repeat' first | refine T.seq ?_ | refine T.block ?_ | refine T.r ?_ | refine J.e rfl rfl rfl rfl ?_ | refine J.nil ?_ | refine J.skip rfl rfl rfl ?_ | refine T.skip ?_ | refine T.exit ?_ | refine T.ret ?_ | refine T.rd rfl (by kernel_rfl) ?_ | refine J.bx rfl rfl rfl rfl rfl rfl ?_
        refine J.aR rfl rfl rfl rfl rfl rfl rfl rfl rfl rfl rfl rfl rfl rfl rfl rfl rfl rfl rfl (by omega) ?_
        repeat' first | refine T.seq ?_ | refine T.block ?_ | refine T.r ?_ | refine J.e rfl rfl rfl rfl ?_ | refine J.nil ?_ | refine J.skip rfl rfl rfl ?_ | refine T.skip ?_ | refine T.exit ?_ | refine T.ret ?_ | refine T.rd rfl (by kernel_rfl) ?_ | refine J.bx rfl rfl rfl rfl rfl rfl ?_
        rw [wrap1 h (by omega)]
        refine T.canon (keep := [0, 3, 4, 5]) (os := [3]) rfl (ih (i + 1, i + 1, out ++ [(l[f], l[i])]) ⟨by simp only; omega, by simp only; omega, by simp; omega, fun _ => ?_, fun x y hx1 _ => ?_⟩ (by simp only; omega))
        · rw [List.drop_of_length_le (by omega)] at hx
          exact hx
        · simp only at hx1
          rw [List.getElem?_eq_none (by omega)] at hx1
          cases hx1
      · simp at h2
        repeat' first | refine T.seq ?_ | refine T.block ?_ | refine T.r ?_ | refine J.e rfl rfl rfl rfl ?_ | refine J.nil ?_ | refine J.skip rfl rfl rfl ?_ | refine T.skip ?_ | refine T.exit ?_ | refine T.ret ?_ | refine T.rd rfl (by kernel_rfl) ?_ | refine J.bx rfl rfl rfl rfl rfl rfl ?_
        rw [wrap1 h (by omega)]
        have h3 : i + 1 < l.length := by omega
        refine J.i rfl rfl rfl rfl rfl rfl rfl rfl rfl (r := cI l[i + 1]) (by omega) (row_i h3) rfl ?_
        repeat' first | refine T.seq ?_ | refine T.block ?_ | refine T.r ?_ | refine J.e rfl rfl rfl rfl ?_ | refine J.nil ?_ | refine J.skip rfl rfl rfl ?_ | refine T.skip ?_ | refine T.exit ?_ | refine T.ret ?_ | refine T.rd rfl (by kernel_rfl) ?_ | refine J.bx rfl rfl rfl rfl rfl rfl ?_
        refine J.i rfl rfl rfl rfl rfl rfl rfl rfl rfl (r := cI l[i]) (by omega) (row_i h) rfl ?_
        repeat' first | refine T.seq ?_ | refine T.block ?_ | refine T.r ?_ | refine J.e rfl rfl rfl rfl ?_ | refine J.nil ?_ | refine J.skip rfl rfl rfl ?_ | refine T.skip ?_ | refine T.exit ?_ | refine T.ret ?_ | refine J.bx rfl rfl rfl rfl rfl rfl ?_
        rw [List.drop_eq_getElem_cons h3, packF] at hx
        have hv2 := hv l[i + 1] (by simp)
        refine T.cd rfl (fun h4 => ?_) (fun h4 => ?_)
        · rw [wrap_id (by omega) (by omega)] at h4
          rw [if_neg h4] at hx
          repeat' first | refine T.seq ?_ | refine T.block ?_ | refine T.r ?_ | refine J.e rfl rfl rfl rfl ?_ | refine J.nil ?_ | refine J.skip rfl rfl rfl ?_ | refine T.skip ?_ | refine T.exit ?_ | refine T.ret ?_ | refine J.bx rfl rfl rfl rfl rfl rfl ?_
          refine T.rdm 11 rfl (by kernel_rfl) rfl ?_
          repeat' first | refine T.seq ?_ | refine T.block ?_ | refine T.r ?_ | refine J.e rfl rfl rfl rfl ?_ | refine J.nil ?_ | refine J.skip rfl rfl rfl ?_ | refine T.skip ?_ | refine T.exit ?_ | refine T.ret ?_ | refine T.rd rfl (by kernel_rfl) ?_ | refine J.bx rfl rfl rfl rfl rfl rfl ?_
          refine J.i rfl rfl rfl rfl rfl rfl rfl rfl rfl (r := cI l[f]) (by omega) (row_i (by omega)) rfl ?_
          repeat' first | refine T.seq ?_ | refine T.block ?_ | refine T.r ?_ | refine J.e rfl rfl rfl rfl ?_ | refine J.nil ?_ | refine J.skip rfl rfl rfl ?_ | refine T.skip ?_ | refine T.exit ?_ | refine T.ret ?_ | refine T.rd rfl (by kernel_rfl) ?_ | refine J.bx rfl rfl rfl rfl rfl rfl ?_
          refine J.i rfl rfl rfl rfl rfl rfl rfl rfl rfl (r := cI l[i]) (by omega) (row_i h) rfl ?_
          repeat' first | refine T.seq ?_ | refine T.block ?_ | refine T.r ?_ | refine J.e rfl rfl rfl rfl ?_ | refine J.nil ?_ | refine J.skip rfl rfl rfl ?_ | refine T.skip ?_ | refine T.exit ?_ | refine T.ret ?_ | refine T.rd rfl (by kernel_rfl) ?_ | refine J.bx rfl rfl rfl rfl rfl rfl ?_
          refine J.bv rfl rfl rfl rfl rfl rfl rfl rfl rfl rfl rfl rfl ?_
          repeat' first | refine T.seq ?_ | refine T.block ?_ | refine T.r ?_ | refine J.e rfl rfl rfl rfl ?_ | refine J.nil ?_ | refine J.skip rfl rfl rfl ?_ | refine T.skip ?_ | refine T.exit ?_ | refine T.ret ?_ | refine T.rd rfl (by kernel_rfl) ?_ | refine J.bx rfl rfl rfl rfl rfl rfl ?_
          refine J.aR rfl rfl rfl rfl rfl rfl rfl rfl rfl rfl rfl rfl rfl rfl rfl rfl rfl rfl rfl (by omega) ?_
          repeat' first | refine T.seq ?_ | refine T.block ?_ | refine T.r ?_ | refine J.e rfl rfl rfl rfl ?_ | refine J.nil ?_ | refine J.skip rfl rfl rfl ?_ | refine T.skip ?_ | refine T.exit ?_ | refine T.ret ?_ | refine T.rd rfl (by kernel_rfl) ?_ | refine J.bx rfl rfl rfl rfl rfl rfl ?_
          rw [wrap1 h (by omega)]
          refine T.canon (keep := [0, 3, 4, 5]) (os := [3]) rfl (ih (i + 1, i + 1, out ++ [(l[f], l[i])]) ⟨by simp only; omega, by simp only; omega, by simp; omega, fun h5 => ?_, fun x y hx1 hy1 => ?_⟩ (by simp only; omega))
          · simp only at h5; omega
          · simp only [List.getElem?_eq_getElem h3, Option.some.injEq] at hx1 hy1 ⊢
            subst hx1 hy1
            rw [List.append_assoc]
            exact hx
        · rw [wrap_id (by omega) (by omega)] at h4
          have h4 : l[i + 1] = l[i] + 1 := Classical.not_not.1 h4
          rw [if_pos h4] at hx
          repeat' first | refine T.seq ?_ | refine T.block ?_ | refine T.r ?_ | refine J.e rfl rfl rfl rfl ?_ | refine J.nil ?_ | refine J.skip rfl rfl rfl ?_ | refine T.skip ?_ | refine T.exit ?_ | refine T.ret ?_ | refine T.rd rfl (by kernel_rfl) ?_ | refine J.bx rfl rfl rfl rfl rfl rfl ?_
          rw [wrap1 h (by omega)]
          refine T.canon (keep := [0, 3, 4, 5]) (os := [3]) rfl (ih (i + 1, f, out) ⟨by simp only; omega, by simp only; omega, by simp only; omega, fun h5 => ?_, fun x y hx1 hy1 => ?_⟩ (by simp only; omega))
          · simp only at h5; omega
          · simp only [List.getElem?_eq_getElem h3, Option.some.injEq] at hx1 hy1 ⊢
            have : f < l.length := by omega
            rw [List.getElem?_eq_getElem this, Option.some.injEq] at hy1
            subst hx1 hy1
            exact hx
    · simp at h
      repeat' first | refine T.seq ?_ | refine T.block ?_ | refine T.r ?_ | refine J.e rfl rfl rfl rfl ?_ | refine J.nil ?_ | refine J.skip rfl rfl rfl ?_ | refine T.skip ?_ | refine T.exit ?_ | refine T.ret ?_ | refine T.rd rfl (by kernel_rfl) ?_ | refine J.bx rfl rfl rfl rfl rfl rfl ?_
      exact ⟨_, .o rfl rfl (by rw [he (by omega)]) (fun _ => .inl rfl) (by simp) .nil⟩
end Go.Proofs.Ytchajofdjeijfaa
