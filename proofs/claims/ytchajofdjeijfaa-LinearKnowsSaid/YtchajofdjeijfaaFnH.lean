/- Contracts: the place at which two lists in order are looked at. -/
import Derived.Test.YtchajofdjeijfaaFnG
namespace Go.Proofs.Ytchajofdjeijfaa
open Go Go.RowKit
set_option linter.unusedVariables false
set_option maxRecDepth 4000

def ofD (d : List (Int × Int)) : Int × Int := (leastR d, lastR d)
def knownB (a b : Int) (da db : List (Int × Int)) : Bool := decide (a = b) || (decide (0 < da.length) && decide (0 < db.length) && decide (leastR da = lastR da) && decide (ofD da = ofD db))
/-- The first place at which something does not hold. -/
def placeF (p : Nat → Bool) (h : Nat) : Nat := ((List.range h).find? fun k => !p k).getD h
theorem placeF_at {p : Nat → Bool} {h k : Nat} (hk : k < h) (ha : ∀ j, j < k → p j = true) (hn : p k = false) : placeF p h = k := by
  unfold placeF
  have : (List.range h).find? (fun k => !p k) = some k := by
    rw [List.find?_range_eq_some]
    exact ⟨by simp [hn], by simpa using hk, fun j hj => by simp [ha j hj]⟩
  rw [this]; rfl
theorem placeF_all {p : Nat → Bool} {h : Nat} (ha : ∀ j, j < h → p j = true) : placeF p h = h := by
  unfold placeF
  have : (List.range h).find? (fun k => !p k) = none := by
    rw [List.find?_eq_none]
    intro x hx
    simp [ha x (List.mem_range.1 hx)]
  rw [this]; rfl

def halfOf (c : Con) : Nat := c.vars.length / 2
def varAt (c : Con) (k : Nat) : Int := c.vars.getD k 0
def domAt (d : List (List (Int × Int))) (v : Int) : List (Int × Int) := d.getD v.toNat []
/-- The variables of a constraint are ones of these domains. -/
def VarsIn (d : List (List (Int × Int))) (c : Con) : Prop := c.vars.length * 8 ≤ 140737488355328 ∧ ∀ v ∈ c.vars, 0 ≤ v ∧ v.toNat < d.length
def pairO (d : List (List (Int × Int))) (c : Con) (k : Nat) : Bool := knownB (varAt c k) (varAt c (halfOf c + k)) (domAt d (varAt c k)) (domAt d (varAt c (halfOf c + k)))
def placeO (d : List (List (Int × Int))) (c : Con) : Nat := placeF (pairO d c) (halfOf c)

theorem varAt_row {c : Con} {k : Nat} (h : k < c.vars.length) : (c.vars.map cI)[((k : Nat) : Int).toNat]? = some (cI (varAt c k)) := by
  simp [varAt, h]
theorem varAt_mem {c : Con} {k : Nat} (h : k < c.vars.length) : varAt c k ∈ c.vars := by
  simp [varAt, h]
theorem domAt_some {d : List (List (Int × Int))} {v : Int} (h : v.toNat < d.length) : d[v.toNat]? = some (domAt d v) := by
  simp [domAt, h]
theorem domAt_mem {d : List (List (Int × Int))} {v : Int} (h : v.toNat < d.length) : domAt d v ∈ d := by
  simp [domAt, h]
theorem half_le (c : Con) : halfOf c + halfOf c ≤ c.vars.length := by unfold halfOf; omega

def knownR (a b : Int) (da db : List (Int × Int)) : Bool := decide (a = b) || (decide ((vals da).length = 1) && decide (vals da = vals db))
def pairR (d : List (List (Int × Int))) (c : Con) (k : Nat) : Bool := knownR (varAt c k) (varAt c (halfOf c + k)) (domAt d (varAt c k)) (domAt d (varAt c (halfOf c + k)))
def placeR (d : List (List (Int × Int))) (c : Con) : Nat := placeF (pairR d c) (halfOf c)
end Go.Proofs.Ytchajofdjeijfaa
