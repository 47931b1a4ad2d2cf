/- Contracts: two lists in order, pruned: the program's, the document's. -/
import Derived.Test.YtchajofdjeijfaaFnH
namespace Go.Proofs.Ytchajofdjeijfaa
open Go Go.RowKit
set_option linter.unusedVariables false
set_option maxRecDepth 4000

abbrev Doms := List (List (Int × Int))
/-- A step again and again, till it tells. -/
def iter {α β : Type} (step : α → β ⊕ α) : Nat → α → Option β
  | 0, _ => none
  | n + 1, x => match step x with
    | .inl b => some b
    | .inr y => iter step n y
theorem iter_inl {α β : Type} {step : α → β ⊕ α} {n : Nat} {x : α} {b r : β} (h : iter step n x = some r) (e : step x = .inl b) : b = r := by
  cases n with
  | zero => cases h
  | succ n => simp only [iter, e, Option.some.injEq] at h; exact h
theorem iter_inr {α β : Type} {step : α → β ⊕ α} {n : Nat} {x y : α} {r : β} (h : iter step n x = some r) (e : step x = .inr y) : ∃ m, m < n ∧ iter step m y = some r := by
  cases n with
  | zero => cases h
  | succ n => simp only [iter, e] at h; exact ⟨n, Nat.lt_succ_self n, h⟩

def stepO (c : Con) (out : Doms) : Option Doms ⊕ Doms :=
  if placeO out c = halfOf c then .inl (some out) else
  let a := varAt c (placeO out c)
  let b := varAt c (halfOf c + placeO out c)
  let x := domCut (domAt out a) (-1048576) (lastR (domAt out b))
  let y := domCut (domAt out b) (leastR (domAt out a)) 1048576
  if x = [] ∨ y = [] then .inl none else
  if x = domAt out a ∧ y = domAt out b then .inl (some out) else .inr ((out.set a.toNat x).set b.toNat y)
def stepR (c : Con) (out : Doms) : Option Doms ⊕ Doms :=
  if placeR out c = halfOf c then .inl (some out) else
  let a := varAt c (placeR out c)
  let b := varAt c (halfOf c + placeR out c)
  let low := (endsR (domAt out a)).1
  let high := (endsR (domAt out b)).2.1
  let next := (out.set a.toNat (cutR (domAt out a) low high)).set b.toNat (cutR (domAt out b) low (max low 1048576))
  if [] ∈ next then .inl none else
  if next = out then .inl (some out) else .inr next
def pruneRes (R : Option Doms) : List RV := [.own 38 1 ((R.getD []).map cD), .val (.bool R.isSome)]

theorem meet1_length (r : Int × Int) : ∀ a, (meetR a [r]).length ≤ a.length
  | [] => by simp [meetR_l]
  | x :: xs => by
    have := meet1_length r xs
    rw [meetR_cons]
    simp only [List.length_append, List.length_cons]
    have h2 : (meetR (x :: xs) []).length = 0 := by simp [meetR_r]
    split <;> split <;> simp only [List.length_cons, List.length_nil] <;> omega
theorem domCut_length (d : List (Int × Int)) (lo hi : Int) : (domCut d lo hi).length ≤ d.length := by
  unfold domCut; split
  · simp
  · exact meet1_length _ _

theorem placeF_le (p : Nat → Bool) (h : Nat) : placeF p h ≤ h := by
  unfold placeF
  cases hf : (List.range h).find? (fun k => !p k) with
  | none => simp
  | some k =>
    have := List.mem_range.1 (List.mem_of_find?_eq_some hf)
    simp; omega

/-- Domains that a pruner may be given. -/
def SmallD (d : Doms) : Prop := d.length * 24 ≤ 140737488355328 ∧ ∀ x ∈ d, (x.length + 1) * 16 ≤ 140737488355328
theorem SmallD.set {d : Doms} (h : SmallD d) (i : Nat) {x : List (Int × Int)} (hx : (x.length + 1) * 16 ≤ 140737488355328) : SmallD (d.set i x) := by
  refine ⟨by simpa using h.1, fun y hy => ?_⟩
  rcases List.mem_or_eq_of_mem_set hy with hy | rfl
  · exact h.2 y hy
  · exact hx
theorem VarsIn.set {d : Doms} {c : Con} (h : VarsIn d c) (i : Nat) (x : List (Int × Int)) : VarsIn (d.set i x) c := by
  refine ⟨h.1, fun v hv => ?_⟩
  rw [List.length_set]
  exact h.2 v hv

end Go.Proofs.Ytchajofdjeijfaa
