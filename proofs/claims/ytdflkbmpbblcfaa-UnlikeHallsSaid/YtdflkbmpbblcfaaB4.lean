/- The texts FnH, FnI, FnJ, FnK, FnL, FnM, FnN, FnO of the workplace, joined. -/
import Derived.Test.YtdflkbmpbblcfaaB3
/-! Contracts: the place at which two lists in order are looked at. -/
namespace Go.Proofs.Ytdflkbmpbblcfaa
open Go Go.RowKit
set_option linter.unusedVariables false
set_option maxRecDepth 4000

def ofD (d : List (Int × Int)) : Int × Int := (leastR d, lastR d)
def knownB (a b : Int) (da db : List (Int × Int)) : Bool := decide (a = b) || (decide (0 < da.length) && decide (0 < db.length) && decide (leastR da = lastR da) && decide (ofD da = ofD db))
/-- The first place at which something does not hold. -/
def placeF (p : Nat → Bool) (h : Nat) : Nat := ((List.range h).find? fun k => !p k).getD h
theorem placeF_at {p : Nat → Bool} {h k : Nat} (hk : k < h) (ha : ∀ j, j < k → p j = true) (hn : p k = false) : placeF p h = k := by
  unfold placeF
  have : (List.range h).find? (fun k => !p k) = some k := by
    rw [List.find?_range_eq_some]
    exact ⟨by simp [hn], by simpa using hk, fun j hj => by simp [ha j hj]⟩
  rw [this]; rfl
theorem placeF_all {p : Nat → Bool} {h : Nat} (ha : ∀ j, j < h → p j = true) : placeF p h = h := by
  unfold placeF
  have : (List.range h).find? (fun k => !p k) = none := by
    rw [List.find?_eq_none]
    intro x hx
    simp [ha x (List.mem_range.1 hx)]
  rw [this]; rfl

def halfOf (c : Con) : Nat := c.vars.length / 2
def varAt (c : Con) (k : Nat) : Int := c.vars.getD k 0
def domAt (d : List (List (Int × Int))) (v : Int) : List (Int × Int) := d.getD v.toNat []
/-- The variables of a constraint are ones of these domains. -/
def VarsIn (d : List (List (Int × Int))) (c : Con) : Prop := c.vars.length * 8 ≤ 140737488355328 ∧ ∀ v ∈ c.vars, 0 ≤ v ∧ v.toNat < d.length
def pairO (d : List (List (Int × Int))) (c : Con) (k : Nat) : Bool := knownB (varAt c k) (varAt c (halfOf c + k)) (domAt d (varAt c k)) (domAt d (varAt c (halfOf c + k)))
def placeO (d : List (List (Int × Int))) (c : Con) : Nat := placeF (pairO d c) (halfOf c)

theorem varAt_row {c : Con} {k : Nat} (h : k < c.vars.length) : (c.vars.map cI)[((k : Nat) : Int).toNat]? = some (cI (varAt c k)) := by
  simp [varAt, h]
theorem varAt_mem {c : Con} {k : Nat} (h : k < c.vars.length) : varAt c k ∈ c.vars := by
  simp [varAt, h]
theorem domAt_some {d : List (List (Int × Int))} {v : Int} (h : v.toNat < d.length) : d[v.toNat]? = some (domAt d v) := by
  simp [domAt, h]
theorem domAt_mem {d : List (List (Int × Int))} {v : Int} (h : v.toNat < d.length) : domAt d v ∈ d := by
  simp [domAt, h]
theorem half_le (c : Con) : halfOf c + halfOf c ≤ c.vars.length := by unfold halfOf; omega

def knownR (a b : Int) (da db : List (Int × Int)) : Bool := decide (a = b) || (decide ((vals da).length = 1) && decide (vals da = vals db))
def pairR (d : List (List (Int × Int))) (c : Con) (k : Nat) : Bool := knownR (varAt c k) (varAt c (halfOf c + k)) (domAt d (varAt c k)) (domAt d (varAt c (halfOf c + k)))
def placeR (d : List (List (Int × Int))) (c : Con) : Nat := placeF (pairR d c) (halfOf c)
end Go.Proofs.Ytdflkbmpbblcfaa
/-! Contracts: two lists in order, pruned: the program's, the document's. -/
namespace Go.Proofs.Ytdflkbmpbblcfaa
open Go Go.RowKit
set_option linter.unusedVariables false
set_option maxRecDepth 4000

abbrev Doms := List (List (Int × Int))
/-- A step again and again, till it tells. -/
def iter {α β : Type} (step : α → β ⊕ α) : Nat → α → Option β
  | 0, _ => none
  | n + 1, x => match step x with
    | .inl b => some b
    | .inr y => iter step n y
theorem iter_inl {α β : Type} {step : α → β ⊕ α} {n : Nat} {x : α} {b r : β} (h : iter step n x = some r) (e : step x = .inl b) : b = r := by
  cases n with
  | zero => cases h
  | succ n => simp only [iter, e, Option.some.injEq] at h; exact h
theorem iter_inr {α β : Type} {step : α → β ⊕ α} {n : Nat} {x y : α} {r : β} (h : iter step n x = some r) (e : step x = .inr y) : ∃ m, m < n ∧ iter step m y = some r := by
  cases n with
  | zero => cases h
  | succ n => simp only [iter, e] at h; exact ⟨n, Nat.lt_succ_self n, h⟩

def stepO (c : Con) (out : Doms) : Option Doms ⊕ Doms :=
  if placeO out c = halfOf c then .inl (some out) else
  let a := varAt c (placeO out c)
  let b := varAt c (halfOf c + placeO out c)
  let x := domCut (domAt out a) (-1048576) (lastR (domAt out b))
  let y := domCut (domAt out b) (leastR (domAt out a)) 1048576
  if x = [] ∨ y = [] then .inl none else
  if x = domAt out a ∧ y = domAt out b then .inl (some out) else .inr ((out.set a.toNat x).set b.toNat y)
def stepR (c : Con) (out : Doms) : Option Doms ⊕ Doms :=
  if placeR out c = halfOf c then .inl (some out) else
  let a := varAt c (placeR out c)
  let b := varAt c (halfOf c + placeR out c)
  let low := (endsR (domAt out a)).1
  let high := (endsR (domAt out b)).2.1
  let next := (out.set a.toNat (cutR (domAt out a) low high)).set b.toNat (cutR (domAt out b) low (max low 1048576))
  if [] ∈ next then .inl none else
  if next = out then .inl (some out) else .inr next
def pruneRes (R : Option Doms) : List RV := [.own 36 1 ((R.getD []).map cD), .val (.bool R.isSome)]

theorem meet1_length (r : Int × Int) : ∀ a, (meetR a [r]).length ≤ a.length
  | [] => by simp [meetR_l]
  | x :: xs => by
    have := meet1_length r xs
    rw [meetR_cons]
    simp only [List.length_append, List.length_cons]
    have h2 : (meetR (x :: xs) []).length = 0 := by simp [meetR_r]
    split <;> split <;> simp only [List.length_cons, List.length_nil] <;> omega
theorem domCut_length (d : List (Int × Int)) (lo hi : Int) : (domCut d lo hi).length ≤ d.length := by
  unfold domCut; split
  · simp
  · exact meet1_length _ _

theorem placeF_le (p : Nat → Bool) (h : Nat) : placeF p h ≤ h := by
  unfold placeF
  cases hf : (List.range h).find? (fun k => !p k) with
  | none => simp
  | some k =>
    have := List.mem_range.1 (List.mem_of_find?_eq_some hf)
    simp; omega

/-- Domains that a pruner may be given. -/
def SmallD (d : Doms) : Prop := d.length * 24 ≤ 140737488355328 ∧ ∀ x ∈ d, (x.length + 1) * 16 ≤ 140737488355328
theorem SmallD.set {d : Doms} (h : SmallD d) (i : Nat) {x : List (Int × Int)} (hx : (x.length + 1) * 16 ≤ 140737488355328) : SmallD (d.set i x) := by
  refine ⟨by simpa using h.1, fun y hy => ?_⟩
  rcases List.mem_or_eq_of_mem_set hy with hy | rfl
  · exact h.2 y hy
  · exact hx
theorem VarsIn.set {d : Doms} {c : Con} (h : VarsIn d c) (i : Nat) (x : List (Int × Int)) : VarsIn (d.set i x) c := by
  refine ⟨h.1, fun v hv => ?_⟩
  rw [List.length_set]
  exact h.2 v hv

end Go.Proofs.Ytdflkbmpbblcfaa
/-! Contracts: two lists in order, pruned by the document. -/
namespace Go.Proofs.Ytdflkbmpbblcfaa
open Go Go.RowKit
set_option linter.unusedVariables false
set_option maxRecDepth 4000

theorem packF_length : ∀ (l : List Int) (lo x : Int), (packF lo x l).length ≤ l.length + 1
  | [], lo, x => by simp [packF]
  | y :: l, lo, x => by
    have h1 := packF_length l lo y
    have h2 := packF_length l y y
    simp only [packF]; split <;> simp only [List.length_cons] <;> omega
theorem pack_length (l : List Int) : (pack l).length ≤ l.length := by
  cases l with
  | nil => simp [pack]
  | cons x l => have := packF_length l x x; simpa [pack] using this
theorem cutR_length {d : List (Int × Int)} (h : DomB d) (lo hi : Int) : ((cutR d lo hi).length) * 16 ≤ 140737488355328 := by
  have h1 := pack_length ((vals d).filter fun v => decide (lo ≤ v) && decide (v ≤ hi))
  have h2 := List.length_filter_le (fun v => decide (lo ≤ v) && decide (v ≤ hi)) (vals d)
  have h3 := h.2.1
  unfold cutR; omega

end Go.Proofs.Ytdflkbmpbblcfaa
/-! Contracts: a constraint of one's own; what its parts may be. -/
namespace Go.Proofs.Ytdflkbmpbblcfaa
open Go Go.RowKit
set_option linter.unusedVariables false
set_option maxRecDepth 4000

def smallR (l : List Int) : List (Int × Int) := (ofR ((l.take 30).map fun v => v.tmod 201)).1
theorem small_spec (l : List Int) (hl : l.length * 8 ≤ 140737488355328) : Spec Try.prog 22 false [ints l] [.own 38 2 ((smallR l).map cR)] := by
  refine Spec.body Try.func22 rfl rfl rfl fun w0 Z0 => ?_
  repeat' first | refine T.seq ?_ | refine T.block ?_ | refine T.r ?_ | refine J.e rfl rfl rfl rfl ?_ | refine J.nil ?_ | refine J.skip rfl rfl rfl ?_ | refine T.skip ?_ | refine T.exit ?_ | refine T.ret ?_ | refine T.rd rfl (by kernel_rfl) ?_ | refine J.bx rfl rfl rfl rfl rfl rfl ?_
  refine J.bo rfl rfl rfl rfl rfl rfl rfl rfl rfl rfl rfl rfl ?_
  repeat' first | refine T.seq ?_ | refine T.block ?_ | refine T.r ?_ | refine J.e rfl rfl rfl rfl ?_ | refine J.nil ?_ | refine J.skip rfl rfl rfl ?_ | refine T.skip ?_ | refine T.exit ?_ | refine T.ret ?_ | refine T.rd rfl (by kernel_rfl) ?_ | refine J.bx rfl rfl rfl rfl rfl rfl ?_
  refine T.canon (keep := [0, 3, 4]) (os := [3]) rfl (T.ind (fun (n : Nat) => ⟨[(0, .val false (ints l)), (3, .ref 0), (4, .val true (.int .i64 n))], [(0, some (.sl 3 1 true (((l.take n).map fun v => v.tmod 201).map cI)))], 1⟩) (fun n => n ≤ l.length ∧ n ≤ 30) (fun n => 30 - n) 0 (by simp) (fun _ _ h => h) ?_)
  rintro n ⟨hn, hn2⟩ ih
  have fin : ¬ (n < l.length ∧ n < 30) → l.take n = l.take 30 := by
    intro h
    by_cases h1 : n = 30
    · rw [h1]
    · have : n = l.length := by omega
      subst this
      rw [List.take_of_length_le (Nat.le_refl _), List.take_of_length_le (by omega)]
  have ho := of_spec ((l.take n).map fun v => v.tmod 201) (by simp; omega)
  repeat' first | refine T.seq ?_ | refine T.block ?_ | refine T.r ?_ | refine J.e rfl rfl rfl rfl ?_ | refine J.nil ?_ | refine J.skip rfl rfl rfl ?_ | refine T.skip ?_ | refine T.exit ?_ | refine T.ret ?_ | refine T.rd rfl (by kernel_rfl) ?_ | refine J.bx rfl rfl rfl rfl rfl rfl ?_
  refine J.g rfl rfl rfl (fun h1 => ?_) (fun h1 => ?_)
  · have h1 : n < l.length := by simpa using h1
    repeat' first | refine T.seq ?_ | refine T.block ?_ | refine T.r ?_ | refine J.e rfl rfl rfl rfl ?_ | refine J.nil ?_ | refine J.skip rfl rfl rfl ?_ | refine T.skip ?_ | refine T.exit ?_ | refine T.ret ?_ | refine T.rd rfl (by kernel_rfl) ?_ | refine J.bx rfl rfl rfl rfl rfl rfl ?_
    refine T.cd rfl (fun h2 => ?_) (fun h2 => ?_)
    · have h2 : n < 30 := by omega
      repeat' first | refine T.seq ?_ | refine T.block ?_ | refine T.r ?_ | refine J.e rfl rfl rfl rfl ?_ | refine J.nil ?_ | refine J.skip rfl rfl rfl ?_ | refine T.skip ?_ | refine T.exit ?_ | refine T.ret ?_ | refine T.rd rfl (by kernel_rfl) ?_ | refine J.bx rfl rfl rfl rfl rfl rfl ?_
      refine J.i rfl rfl rfl rfl rfl rfl rfl rfl rfl (r := cI l[n]) (by omega) (row_i h1) rfl ?_
      repeat' first | refine T.seq ?_ | refine T.block ?_ | refine T.r ?_ | refine J.e rfl rfl rfl rfl ?_ | refine J.nil ?_ | refine J.skip rfl rfl rfl ?_ | refine T.skip ?_ | refine T.exit ?_ | refine T.ret ?_ | refine T.rd rfl (by kernel_rfl) ?_ | refine J.bx rfl rfl rfl rfl rfl rfl ?_
      refine J.bv rfl rfl rfl rfl rfl rfl rfl rfl rfl rfl rfl rfl ?_
      repeat' first | refine T.seq ?_ | refine T.block ?_ | refine T.r ?_ | refine J.e rfl rfl rfl rfl ?_ | refine J.nil ?_ | refine J.skip rfl rfl rfl ?_ | refine T.skip ?_ | refine T.exit ?_ | refine T.ret ?_ | refine T.rd rfl (by kernel_rfl) ?_ | refine J.bx rfl rfl rfl rfl rfl rfl ?_
      refine J.aI rfl rfl rfl rfl rfl rfl rfl rfl rfl rfl rfl rfl rfl rfl rfl rfl rfl rfl rfl (by simp; omega) ?_
      repeat' first | refine T.seq ?_ | refine T.block ?_ | refine T.r ?_ | refine J.e rfl rfl rfl rfl ?_ | refine J.nil ?_ | refine J.skip rfl rfl rfl ?_ | refine T.skip ?_ | refine T.exit ?_ | refine T.ret ?_ | refine T.rd rfl (by kernel_rfl) ?_ | refine J.bx rfl rfl rfl rfl rfl rfl ?_
      rw [wrap1 h1 (by omega)]
      refine T.canon (keep := [0, 3, 4]) (os := [3]) rfl ?_
      have := ih (n + 1) ⟨by omega, by omega⟩ (by omega)
      rw [List.take_succ_eq_append_getElem h1, List.map_append] at this
      exact this
    · have h2 : ¬ n < 30 := by omega
      rw [fin (by omega)] at ho ⊢
      repeat' first | refine T.seq ?_ | refine T.block ?_ | refine T.r ?_ | refine J.e rfl rfl rfl rfl ?_ | refine J.nil ?_ | refine J.skip rfl rfl rfl ?_ | refine T.skip ?_ | refine T.exit ?_ | refine T.ret ?_ | refine T.rd rfl (by kernel_rfl) ?_ | refine J.bx rfl rfl rfl rfl rfl rfl ?_
      refine J.cc rfl rfl rfl rfl rfl ho rfl rfl ?_
      repeat' first | refine T.seq ?_ | refine T.block ?_ | refine T.r ?_ | refine J.e rfl rfl rfl rfl ?_ | refine J.nil ?_ | refine J.skip rfl rfl rfl ?_ | refine T.skip ?_ | refine T.exit ?_ | refine T.ret ?_ | refine T.rd rfl (by kernel_rfl) ?_ | refine J.bx rfl rfl rfl rfl rfl rfl ?_
      exact ⟨_, .o rfl rfl rfl (fun _ => .inl rfl) (by simp) .nil⟩
  · have h1 : ¬ n < l.length := by simpa using h1
    rw [fin (by omega)] at ho ⊢
    repeat' first | refine T.seq ?_ | refine T.block ?_ | refine T.r ?_ | refine J.e rfl rfl rfl rfl ?_ | refine J.nil ?_ | refine J.skip rfl rfl rfl ?_ | refine T.skip ?_ | refine T.exit ?_ | refine T.ret ?_ | refine T.rd rfl (by kernel_rfl) ?_ | refine J.bx rfl rfl rfl rfl rfl rfl ?_
    refine T.cf rfl ?_
    repeat' first | refine T.seq ?_ | refine T.block ?_ | refine T.r ?_ | refine J.e rfl rfl rfl rfl ?_ | refine J.nil ?_ | refine J.skip rfl rfl rfl ?_ | refine T.skip ?_ | refine T.exit ?_ | refine T.ret ?_ | refine T.rd rfl (by kernel_rfl) ?_ | refine J.bx rfl rfl rfl rfl rfl rfl ?_
    refine J.cc rfl rfl rfl rfl rfl ho rfl rfl ?_
    repeat' first | refine T.seq ?_ | refine T.block ?_ | refine T.r ?_ | refine J.e rfl rfl rfl rfl ?_ | refine J.nil ?_ | refine J.skip rfl rfl rfl ?_ | refine T.skip ?_ | refine T.exit ?_ | refine T.ret ?_ | refine T.rd rfl (by kernel_rfl) ?_ | refine J.bx rfl rfl rfl rfl rfl rfl ?_
    exact ⟨_, .o rfl rfl rfl (fun _ => .inl rfl) (by simp) .nil⟩

/-- A constraint that may be in memory. -/
def ConB (c : Con) : Prop := (c.vars.length + 1) * 8 ≤ 140737488355328 ∧ c.coefs.length * 8 ≤ 140737488355328 ∧ c.rows.length * 24 ≤ 140737488355328 ∧ ∀ x ∈ c.rows, x.length * 8 ≤ 140737488355328
def usesR (c : Con) : List Int := sortU (if c.kind = 4 then c.vars ++ [c.b] else c.vars)
theorem uses_spec (c : Con) (hc : ConB c) : Spec Try.prog 34 false [.agg (cC c)] [.own 3 1 ((usesR c).map cI)] := by
  refine Spec.body Try.func34 rfl rfl rfl fun w0 Z0 => ?_
  obtain ⟨h1, h2, h3, h4⟩ := hc
  repeat' first | refine T.seq ?_ | refine T.block ?_ | refine T.r ?_ | refine J.e rfl rfl rfl rfl ?_ | refine J.nil ?_ | refine J.skip rfl rfl rfl ?_ | refine T.skip ?_ | refine T.exit ?_ | refine T.ret ?_ | refine T.rd rfl (by kernel_rfl) ?_ | refine J.bx rfl rfl rfl rfl rfl rfl ?_
  refine J.bo rfl rfl rfl rfl rfl rfl rfl rfl rfl rfl rfl rfl ?_
  repeat' first | refine T.seq ?_ | refine T.block ?_ | refine T.r ?_ | refine J.e rfl rfl rfl rfl ?_ | refine J.nil ?_ | refine J.skip rfl rfl rfl ?_ | refine T.skip ?_ | refine T.exit ?_ | refine T.ret ?_ | refine T.rd rfl (by kernel_rfl) ?_ | refine J.bx rfl rfl rfl rfl rfl rfl ?_
  refine J.a rfl rfl rfl rfl rfl rfl rfl rfl rfl rfl rfl rfl rfl rfl rfl rfl rfl len_I (by show (0 + List.length _) * 8 ≤ _; simp; omega) ?_
  refine J.sub (Rel.flat (o := 2) rfl flat_I) ?_
  repeat' first | refine T.seq ?_ | refine T.block ?_ | refine T.r ?_ | refine J.e rfl rfl rfl rfl ?_ | refine J.nil ?_ | refine J.skip rfl rfl rfl ?_ | refine T.skip ?_ | refine T.exit ?_ | refine T.ret ?_ | refine T.rd rfl (by kernel_rfl) ?_ | refine J.bx rfl rfl rfl rfl rfl rfl ?_
  refine T.cd rfl (fun h => ?_) (fun h => ?_)
  · have e : usesR c = sortU (c.vars ++ [c.b]) := by unfold usesR; rw [if_pos (show c.kind = 4 from h)]
    rw [e]
    repeat' first | refine T.seq ?_ | refine T.block ?_ | refine T.r ?_ | refine J.e rfl rfl rfl rfl ?_ | refine J.nil ?_ | refine J.skip rfl rfl rfl ?_ | refine T.skip ?_ | refine T.exit ?_ | refine T.ret ?_ | refine T.rd rfl (by kernel_rfl) ?_ | refine J.bx rfl rfl rfl rfl rfl rfl ?_
    refine J.bv rfl rfl rfl rfl rfl rfl rfl rfl rfl rfl rfl rfl ?_
    repeat' first | refine T.seq ?_ | refine T.block ?_ | refine T.r ?_ | refine J.e rfl rfl rfl rfl ?_ | refine J.nil ?_ | refine J.skip rfl rfl rfl ?_ | refine T.skip ?_ | refine T.exit ?_ | refine T.ret ?_ | refine T.rd rfl (by kernel_rfl) ?_ | refine J.bx rfl rfl rfl rfl rfl rfl ?_
    refine J.aI rfl rfl rfl rfl rfl rfl rfl rfl rfl rfl rfl rfl rfl rfl rfl rfl rfl rfl rfl (l := c.vars) (by omega) ?_
    repeat' first | refine T.seq ?_ | refine T.block ?_ | refine T.r ?_ | refine J.e rfl rfl rfl rfl ?_ | refine J.nil ?_ | refine J.skip rfl rfl rfl ?_ | refine T.skip ?_ | refine T.exit ?_ | refine T.ret ?_ | refine T.rd rfl (by kernel_rfl) ?_ | refine J.bx rfl rfl rfl rfl rfl rfl ?_
    refine J.cc rfl rfl rfl rfl rfl (sorted_spec (c.vars ++ [c.b]) (by simp; omega)) rfl rfl ?_
    repeat' first | refine T.seq ?_ | refine T.block ?_ | refine T.r ?_ | refine J.e rfl rfl rfl rfl ?_ | refine J.nil ?_ | refine J.skip rfl rfl rfl ?_ | refine T.skip ?_ | refine T.exit ?_ | refine T.ret ?_ | refine T.rd rfl (by kernel_rfl) ?_ | refine J.bx rfl rfl rfl rfl rfl rfl ?_
    exact ⟨_, .o rfl rfl rfl (fun _ => .inl rfl) (by simp) .nil⟩
  · have e : usesR c = sortU c.vars := by unfold usesR; rw [if_neg (show ¬ c.kind = 4 from h)]
    rw [e]
    repeat' first | refine T.seq ?_ | refine T.block ?_ | refine T.r ?_ | refine J.e rfl rfl rfl rfl ?_ | refine J.nil ?_ | refine J.skip rfl rfl rfl ?_ | refine T.skip ?_ | refine T.exit ?_ | refine T.ret ?_ | refine T.rd rfl (by kernel_rfl) ?_ | refine J.bx rfl rfl rfl rfl rfl rfl ?_
    refine J.cc rfl rfl rfl rfl rfl (sorted_spec c.vars (by omega)) rfl rfl ?_
    repeat' first | refine T.seq ?_ | refine T.block ?_ | refine T.r ?_ | refine J.e rfl rfl rfl rfl ?_ | refine J.nil ?_ | refine J.skip rfl rfl rfl ?_ | refine T.skip ?_ | refine T.exit ?_ | refine T.ret ?_ | refine T.rd rfl (by kernel_rfl) ?_ | refine J.bx rfl rfl rfl rfl rfl rfl ?_
    exact ⟨_, .o rfl rfl rfl (fun _ => .inl rfl) (by simp) .nil⟩
end Go.Proofs.Ytdflkbmpbblcfaa
/-! Contracts: what the parts of a constraint may be. -/
namespace Go.Proofs.Ytdflkbmpbblcfaa
open Go Go.RowKit
set_option linter.unusedVariables false
set_option maxRecDepth 4000

theorem others_spec (l : List Int) (hl : l.length * 8 ≤ 140737488355328) : Spec Try.prog 47 false [ints l] [.val (.bool (decide l.Nodup))] := by
  refine Spec.body Try.func47 rfl rfl rfl fun w0 Z0 => ?_
  repeat' first | refine T.seq ?_ | refine T.block ?_ | refine T.r ?_ | refine J.e rfl rfl rfl rfl ?_ | refine J.nil ?_ | refine J.skip rfl rfl rfl ?_ | refine T.skip ?_ | refine T.exit ?_ | refine T.ret ?_ | refine T.rd rfl (by kernel_rfl) ?_ | refine J.bx rfl rfl rfl rfl rfl rfl ?_
  refine T.canon (keep := [0, 3]) (os := []) rfl (T.ind (fun i : Nat => ⟨[(0, .val false (ints l)), (3, .val true (.int .i64 i))], [], 0⟩) (fun i => i ≤ l.length ∧ (l.take i).Nodup) (fun i => l.length - i) 0 (by simp) (fun _ _ h => h) ?_)
  rintro i ⟨hi, hd⟩ ih
  repeat' first | refine T.seq ?_ | refine T.block ?_ | refine T.r ?_ | refine J.e rfl rfl rfl rfl ?_ | refine J.nil ?_ | refine J.skip rfl rfl rfl ?_ | refine T.skip ?_ | refine T.exit ?_ | refine T.ret ?_ | refine T.rd rfl (by kernel_rfl) ?_ | refine J.bx rfl rfl rfl rfl rfl rfl ?_
  refine T.cd rfl (fun h1 => ?_) (fun h1 => ?_)
  · have h1 : i < l.length := by simpa using h1
    repeat' first | refine T.seq ?_ | refine T.block ?_ | refine T.r ?_ | refine J.e rfl rfl rfl rfl ?_ | refine J.nil ?_ | refine J.skip rfl rfl rfl ?_ | refine T.skip ?_ | refine T.exit ?_ | refine T.ret ?_ | refine T.rd rfl (by kernel_rfl) ?_ | refine J.bx rfl rfl rfl rfl rfl rfl ?_
    refine T.canon (keep := [0, 3, 4]) (os := []) rfl (T.ind (fun k : Nat => ⟨[(0, .val false (ints l)), (3, .val true (.int .i64 i)), (4, .val true (.int .i64 k))], [], 0⟩) (fun k => k ≤ i ∧ l[i] ∉ l.take k) (fun k => i - k) 0 (by simp) (fun _ _ h => h) ?_)
    rintro k ⟨hk, hn⟩ ih2
    repeat' first | refine T.seq ?_ | refine T.block ?_ | refine T.r ?_ | refine J.e rfl rfl rfl rfl ?_ | refine J.nil ?_ | refine J.skip rfl rfl rfl ?_ | refine T.skip ?_ | refine T.exit ?_ | refine T.ret ?_ | refine T.rd rfl (by kernel_rfl) ?_ | refine J.bx rfl rfl rfl rfl rfl rfl ?_
    refine T.cd rfl (fun h2 => ?_) (fun h2 => ?_)
    · have h2 : k < i := by omega
      repeat' first | refine T.seq ?_ | refine T.block ?_ | refine T.r ?_ | refine J.e rfl rfl rfl rfl ?_ | refine J.nil ?_ | refine J.skip rfl rfl rfl ?_ | refine T.skip ?_ | refine T.exit ?_ | refine T.ret ?_ | refine T.rd rfl (by kernel_rfl) ?_ | refine J.bx rfl rfl rfl rfl rfl rfl ?_
      refine J.i rfl rfl rfl rfl rfl rfl rfl rfl rfl (r := cI l[i]) (by omega) (row_i h1) rfl ?_
      repeat' first | refine T.seq ?_ | refine T.block ?_ | refine T.r ?_ | refine J.e rfl rfl rfl rfl ?_ | refine J.nil ?_ | refine J.skip rfl rfl rfl ?_ | refine T.skip ?_ | refine T.exit ?_ | refine T.ret ?_ | refine T.rd rfl (by kernel_rfl) ?_ | refine J.bx rfl rfl rfl rfl rfl rfl ?_
      refine J.i rfl rfl rfl rfl rfl rfl rfl rfl rfl (r := cI l[k]) (by omega) (row_i (by omega)) rfl ?_
      repeat' first | refine T.seq ?_ | refine T.block ?_ | refine T.r ?_ | refine J.e rfl rfl rfl rfl ?_ | refine J.nil ?_ | refine J.skip rfl rfl rfl ?_ | refine T.skip ?_ | refine T.exit ?_ | refine T.ret ?_ | refine T.rd rfl (by kernel_rfl) ?_ | refine J.bx rfl rfl rfl rfl rfl rfl ?_
      refine T.cd rfl (fun h3 => ?_) (fun h3 => ?_)
      · repeat' first | refine T.seq ?_ | refine T.block ?_ | refine T.r ?_ | refine J.e rfl rfl rfl rfl ?_ | refine J.nil ?_ | refine J.skip rfl rfl rfl ?_ | refine T.skip ?_ | refine T.exit ?_ | refine T.ret ?_ | refine T.rd rfl (by kernel_rfl) ?_ | refine J.bx rfl rfl rfl rfl rfl rfl ?_
        refine ⟨_, .v rfl rfl ?_ (fun _ => rfl) .nil⟩
        rw [decide_eq_false]
        intro h
        have := List.pairwise_iff_getElem.1 h k i (by omega) h1 h2
        exact this (Eq.symm h3)
      · repeat' first | refine T.seq ?_ | refine T.block ?_ | refine T.r ?_ | refine J.e rfl rfl rfl rfl ?_ | refine J.nil ?_ | refine J.skip rfl rfl rfl ?_ | refine T.skip ?_ | refine T.exit ?_ | refine T.ret ?_ | refine T.rd rfl (by kernel_rfl) ?_ | refine J.bx rfl rfl rfl rfl rfl rfl ?_
        rw [wrap1 (l := l.length) (by omega) (by omega)]
        refine T.canon (keep := [0, 3, 4]) (os := []) rfl (ih2 (k + 1) ⟨by omega, ?_⟩ (by omega))
        rw [List.take_succ_eq_append_getElem (by omega)]
        simp only [List.mem_append, List.mem_singleton, not_or]
        exact ⟨hn, h3⟩
    · have h2 : k = i := by omega
      subst h2
      repeat' first | refine T.seq ?_ | refine T.block ?_ | refine T.r ?_ | refine J.e rfl rfl rfl rfl ?_ | refine J.nil ?_ | refine J.skip rfl rfl rfl ?_ | refine T.skip ?_ | refine T.exit ?_ | refine T.ret ?_ | refine T.rd rfl (by kernel_rfl) ?_ | refine J.bx rfl rfl rfl rfl rfl rfl ?_
      rw [wrap1 (l := l.length) (by omega) (by omega)]
      refine T.canon (keep := [0, 3]) (os := []) rfl (ih (k + 1) ⟨by omega, ?_⟩ (by omega))
      rw [List.take_succ_eq_append_getElem (by omega), List.nodup_append]
      refine ⟨hd, by simp, ?_⟩
      intro a ha b hb e
      simp only [List.mem_singleton] at hb
      subst hb e
      exact hn ha
  · have h1 : i = l.length := by simp at h1; omega
    repeat' first | refine T.seq ?_ | refine T.block ?_ | refine T.r ?_ | refine J.e rfl rfl rfl rfl ?_ | refine J.nil ?_ | refine J.skip rfl rfl rfl ?_ | refine T.skip ?_ | refine T.exit ?_ | refine T.ret ?_ | refine T.rd rfl (by kernel_rfl) ?_ | refine J.bx rfl rfl rfl rfl rfl rfl ?_
    refine ⟨_, .v rfl rfl ?_ (fun _ => rfl) .nil⟩
    rw [h1, List.take_length] at hd
    simp [hd]

def sumR (c : Con) : Bool := decide c.vars.Nodup && decide (0 < c.vars.length) && decide (c.vars.length = c.coefs.length) && !decide (0 ∈ c.coefs)
theorem sum_spec (c : Con) (hc : ConB c) : Spec Try.prog 48 false [.agg (cC c)] [.val (.bool (sumR c))] := by
  refine Spec.body Try.func48 rfl rfl rfl fun w0 Z0 => ?_
  obtain ⟨h1, h2, h3, h4⟩ := hc
  unfold sumR
  have ho := others_spec c.vars (by omega)
  generalize decide c.vars.Nodup = b1 at *
  repeat' first | refine T.seq ?_ | refine T.block ?_ | refine T.r ?_ | refine J.e rfl rfl rfl rfl ?_ | refine J.nil ?_ | refine J.skip rfl rfl rfl ?_ | refine T.skip ?_ | refine T.exit ?_ | refine T.ret ?_ | refine T.rd rfl (by kernel_rfl) ?_ | refine J.bx rfl rfl rfl rfl rfl rfl ?_
  refine J.cc rfl rfl rfl rfl rfl ho rfl rfl ?_
  repeat' first | refine T.seq ?_ | refine T.block ?_ | refine T.r ?_ | refine J.e rfl rfl rfl rfl ?_ | refine J.nil ?_ | refine J.skip rfl rfl rfl ?_ | refine T.skip ?_ | refine T.exit ?_ | refine T.ret ?_ | refine T.rd rfl (by kernel_rfl) ?_ | refine J.bx rfl rfl rfl rfl rfl rfl ?_
  refine J.gb rfl rfl rfl (fun h => ?_) (fun h => ?_)
  · subst h
    repeat' first | refine T.seq ?_ | refine T.block ?_ | refine T.r ?_ | refine J.e rfl rfl rfl rfl ?_ | refine J.nil ?_ | refine J.skip rfl rfl rfl ?_ | refine T.skip ?_ | refine T.exit ?_ | refine T.ret ?_ | refine T.rd rfl (by kernel_rfl) ?_ | refine J.bx rfl rfl rfl rfl rfl rfl ?_
    refine J.g rfl rfl rfl (fun h => ?_) (fun h => ?_)
    · have h : 0 < c.vars.length := by simpa using h
      repeat' first | refine T.seq ?_ | refine T.block ?_ | refine T.r ?_ | refine J.e rfl rfl rfl rfl ?_ | refine J.nil ?_ | refine J.skip rfl rfl rfl ?_ | refine T.skip ?_ | refine T.exit ?_ | refine T.ret ?_ | refine T.rd rfl (by kernel_rfl) ?_ | refine J.bx rfl rfl rfl rfl rfl rfl ?_
      refine J.g rfl rfl rfl (fun h5 => ?_) (fun h5 => ?_)
      · have h5 : c.vars.length = c.coefs.length := by simp only [List.length_map] at h5; omega
        repeat' first | refine T.seq ?_ | refine T.block ?_ | refine T.r ?_ | refine J.e rfl rfl rfl rfl ?_ | refine J.nil ?_ | refine J.skip rfl rfl rfl ?_ | refine T.skip ?_ | refine T.exit ?_ | refine T.ret ?_ | refine T.rd rfl (by kernel_rfl) ?_ | refine J.bx rfl rfl rfl rfl rfl rfl ?_
        refine J.cc rfl rfl rfl rfl rfl (has_spec c.coefs 0 (by omega)) rfl rfl ?_
        repeat' first | refine T.seq ?_ | refine T.block ?_ | refine T.r ?_ | refine J.e rfl rfl rfl rfl ?_ | refine J.nil ?_ | refine J.skip rfl rfl rfl ?_ | refine T.skip ?_ | refine T.exit ?_ | refine T.ret ?_ | refine T.rd rfl (by kernel_rfl) ?_ | refine J.bx rfl rfl rfl rfl rfl rfl ?_
        exact ⟨_, .v rfl rfl (by simp [h5]; intro hh; omega) (fun _ => rfl) .nil⟩
      · have h5 : ¬ c.vars.length = c.coefs.length := by simp only [List.length_map] at h5; omega
        repeat' first | refine T.seq ?_ | refine T.block ?_ | refine T.r ?_ | refine J.e rfl rfl rfl rfl ?_ | refine J.nil ?_ | refine J.skip rfl rfl rfl ?_ | refine T.skip ?_ | refine T.exit ?_ | refine T.ret ?_ | refine T.rd rfl (by kernel_rfl) ?_ | refine J.bx rfl rfl rfl rfl rfl rfl ?_
        exact ⟨_, .v rfl rfl (by simp [h5]) (fun _ => rfl) .nil⟩
    · have h : ¬ 0 < c.vars.length := by simpa using h
      repeat' first | refine T.seq ?_ | refine T.block ?_ | refine T.r ?_ | refine J.e rfl rfl rfl rfl ?_ | refine J.nil ?_ | refine J.skip rfl rfl rfl ?_ | refine T.skip ?_ | refine T.exit ?_ | refine T.ret ?_ | refine T.rd rfl (by kernel_rfl) ?_ | refine J.bx rfl rfl rfl rfl rfl rfl ?_
      exact ⟨_, .v rfl rfl (by simp [h]) (fun _ => rfl) .nil⟩
  · subst h
    repeat' first | refine T.seq ?_ | refine T.block ?_ | refine T.r ?_ | refine J.e rfl rfl rfl rfl ?_ | refine J.nil ?_ | refine J.skip rfl rfl rfl ?_ | refine T.skip ?_ | refine T.exit ?_ | refine T.ret ?_ | refine T.rd rfl (by kernel_rfl) ?_ | refine J.bx rfl rfl rfl rfl rfl rfl ?_
    exact ⟨_, .v rfl rfl (by simp) (fun _ => rfl) .nil⟩

def rowOK (c : Con) (r : List Int) : Bool := decide (r.length = c.vars.length) && r.all valueB
def rowsR (c : Con) : Bool := c.rows.all (rowOK c) && decide (c.rows.length ≤ 1024)
theorem rows_spec (c : Con) (hc : ConB c) : Spec Try.prog 49 false [.agg (cC c)] [.val (.bool (rowsR c))] := by
  refine Spec.body Try.func49 rfl rfl rfl fun w0 Z0 => ?_
  obtain ⟨h1, h2, h3, h4⟩ := hc
  repeat' first | refine T.seq ?_ | refine T.block ?_ | refine T.r ?_ | refine J.e rfl rfl rfl rfl ?_ | refine J.nil ?_ | refine J.skip rfl rfl rfl ?_ | refine T.skip ?_ | refine T.exit ?_ | refine T.ret ?_ | refine T.rd rfl (by kernel_rfl) ?_ | refine J.bx rfl rfl rfl rfl rfl rfl ?_
  refine T.canon (keep := [1, 3]) (os := [1]) rfl (T.listI c.rows (fun pre => pre.all (rowOK c) = true) (fun n pre post => ⟨[(1, .optr 0 0 0 0), (3, .val true (.int .i64 n))], [(0, some (.box false (cC c)))], 1⟩) (fun _ _ h => h) rfl ?_ ?_)
  · rintro n pre x post h hn hi ih
    have hlt := at_lt h hn
    have hxl := h4 x (by rw [h]; simp)
    have hra := row_at (enc := cL) h hn
    have bad : rowOK c x = false → rowsR c = false := fun e => by rw [rowsR, h]; simp [e]
    repeat' first | refine T.seq ?_ | refine T.block ?_ | refine T.r ?_ | refine J.e rfl rfl rfl rfl ?_ | refine J.nil ?_ | refine J.skip rfl rfl rfl ?_ | refine T.skip ?_ | refine T.exit ?_ | refine T.ret ?_ | refine T.rd rfl (by kernel_rfl) ?_ | refine J.bx rfl rfl rfl rfl rfl rfl ?_
    refine T.ct2 rfl (lt_at h hn) ?_
    repeat' first | refine T.seq ?_ | refine T.block ?_ | refine T.r ?_ | refine J.e rfl rfl rfl rfl ?_ | refine J.nil ?_ | refine J.skip rfl rfl rfl ?_ | refine T.skip ?_ | refine T.exit ?_ | refine T.ret ?_ | refine T.rd rfl (by kernel_rfl) ?_ | refine J.bx rfl rfl rfl rfl rfl rfl ?_
    refine J.i rfl rfl rfl rfl rfl rfl rfl rfl rfl (r := cL x) (by omega) hra rfl ?_
    repeat' first | refine T.seq ?_ | refine T.block ?_ | refine T.r ?_ | refine J.e rfl rfl rfl rfl ?_ | refine J.nil ?_ | refine J.skip rfl rfl rfl ?_ | refine T.skip ?_ | refine T.exit ?_ | refine T.ret ?_ | refine T.rd rfl (by kernel_rfl) ?_ | refine J.bx rfl rfl rfl rfl rfl rfl ?_
    refine T.cd rfl (fun h5 => ?_) (fun h5 => ?_)
    · have h5 : ¬ x.length = c.vars.length := by simp only [List.length_map] at h5; omega
      rw [bad (by simp [rowOK, h5])]
      repeat' first | refine T.seq ?_ | refine T.block ?_ | refine T.r ?_ | refine J.e rfl rfl rfl rfl ?_ | refine J.nil ?_ | refine J.skip rfl rfl rfl ?_ | refine T.skip ?_ | refine T.exit ?_ | refine T.ret ?_ | refine T.rd rfl (by kernel_rfl) ?_ | refine J.bx rfl rfl rfl rfl rfl rfl ?_
      exact ⟨_, .v rfl rfl rfl (fun _ => rfl) .nil⟩
    · have h5 : x.length = c.vars.length := by simp only [List.length_map] at h5; omega
      repeat' first | refine T.seq ?_ | refine T.block ?_ | refine T.r ?_ | refine J.e rfl rfl rfl rfl ?_ | refine J.nil ?_ | refine J.skip rfl rfl rfl ?_ | refine T.skip ?_ | refine T.exit ?_ | refine T.ret ?_ | refine T.rd rfl (by kernel_rfl) ?_ | refine J.bx rfl rfl rfl rfl rfl rfl ?_
      refine T.canon (keep := [1, 3, 4]) (os := [1]) rfl (T.listI x (fun pre => pre.all valueB = true) (fun k pre post => ⟨[(1, .optr 0 0 0 0), (3, .val true (.int .i64 n)), (4, .val true (.int .i64 k))], [(0, some (.box false (cC c)))], 1⟩) (fun _ _ h => h) rfl ?_ ?_)
      · rintro k pre2 y post2 h6 hk hi2 ih2
        have hlt2 := at_lt h6 hk
        repeat' first | refine T.seq ?_ | refine T.block ?_ | refine T.r ?_ | refine J.e rfl rfl rfl rfl ?_ | refine J.nil ?_ | refine J.skip rfl rfl rfl ?_ | refine T.skip ?_ | refine T.exit ?_ | refine T.ret ?_ | refine T.rd rfl (by kernel_rfl) ?_ | refine J.bx rfl rfl rfl rfl rfl rfl ?_
        refine J.i rfl rfl rfl rfl rfl rfl rfl rfl rfl (r := cL x) (by omega) hra rfl ?_
        repeat' first | refine T.seq ?_ | refine T.block ?_ | refine T.r ?_ | refine J.e rfl rfl rfl rfl ?_ | refine J.nil ?_ | refine J.skip rfl rfl rfl ?_ | refine T.skip ?_ | refine T.exit ?_ | refine T.ret ?_ | refine T.rd rfl (by kernel_rfl) ?_ | refine J.bx rfl rfl rfl rfl rfl rfl ?_
        refine T.ct2 rfl (lt_at h6 hk) ?_
        repeat' first | refine T.seq ?_ | refine T.block ?_ | refine T.r ?_ | refine J.e rfl rfl rfl rfl ?_ | refine J.nil ?_ | refine J.skip rfl rfl rfl ?_ | refine T.skip ?_ | refine T.exit ?_ | refine T.ret ?_ | refine T.rd rfl (by kernel_rfl) ?_ | refine J.bx rfl rfl rfl rfl rfl rfl ?_
        refine J.i rfl rfl rfl rfl rfl rfl rfl rfl rfl (r := cL x) (by omega) hra rfl ?_
        repeat' first | refine T.seq ?_ | refine T.block ?_ | refine T.r ?_ | refine J.e rfl rfl rfl rfl ?_ | refine J.nil ?_ | refine J.skip rfl rfl rfl ?_ | refine T.skip ?_ | refine T.exit ?_ | refine T.ret ?_ | refine T.rd rfl (by kernel_rfl) ?_ | refine J.bx rfl rfl rfl rfl rfl rfl ?_
        refine J.i rfl rfl rfl rfl rfl rfl rfl rfl rfl (r := cI y) (by omega) (row_at h6 hk) rfl ?_
        repeat' first | refine T.seq ?_ | refine T.block ?_ | refine T.r ?_ | refine J.e rfl rfl rfl rfl ?_ | refine J.nil ?_ | refine J.skip rfl rfl rfl ?_ | refine T.skip ?_ | refine T.exit ?_ | refine T.ret ?_ | refine T.rd rfl (by kernel_rfl) ?_ | refine J.bx rfl rfl rfl rfl rfl rfl ?_
        refine J.cc rfl rfl rfl rfl rfl (value_spec y) rfl rfl ?_
        repeat' first | refine T.seq ?_ | refine T.block ?_ | refine T.r ?_ | refine J.e rfl rfl rfl rfl ?_ | refine J.nil ?_ | refine J.skip rfl rfl rfl ?_ | refine T.skip ?_ | refine T.exit ?_ | refine T.ret ?_ | refine T.rd rfl (by kernel_rfl) ?_ | refine J.bx rfl rfl rfl rfl rfl rfl ?_
        refine T.cond rfl (fun h7 => ?_) (fun h7 => ?_)
        · rw [bad (by simp only [Bool.not_eq_true'] at h7; simp only [rowOK]; rw [h6]; simp [h7])]
          repeat' first | refine T.seq ?_ | refine T.block ?_ | refine T.r ?_ | refine J.e rfl rfl rfl rfl ?_ | refine J.nil ?_ | refine J.skip rfl rfl rfl ?_ | refine T.skip ?_ | refine T.exit ?_ | refine T.ret ?_ | refine T.rd rfl (by kernel_rfl) ?_ | refine J.bx rfl rfl rfl rfl rfl rfl ?_
          exact ⟨_, .v rfl rfl rfl (fun _ => rfl) .nil⟩
        · repeat' first | refine T.seq ?_ | refine T.block ?_ | refine T.r ?_ | refine J.e rfl rfl rfl rfl ?_ | refine J.nil ?_ | refine J.skip rfl rfl rfl ?_ | refine T.skip ?_ | refine T.exit ?_ | refine T.ret ?_ | refine T.rd rfl (by kernel_rfl) ?_ | refine J.bx rfl rfl rfl rfl rfl rfl ?_
          rw [wrap1 hlt2 (by omega)]
          exact T.canon (keep := [1, 3, 4]) (os := [1]) rfl (ih2 (by simp only [Bool.not_eq_false'] at h7; simp [List.all_append, hi2, h7]))
      · intro hi2
        repeat' first | refine T.seq ?_ | refine T.block ?_ | refine T.r ?_ | refine J.e rfl rfl rfl rfl ?_ | refine J.nil ?_ | refine J.skip rfl rfl rfl ?_ | refine T.skip ?_ | refine T.exit ?_ | refine T.ret ?_ | refine T.rd rfl (by kernel_rfl) ?_ | refine J.bx rfl rfl rfl rfl rfl rfl ?_
        refine J.i rfl rfl rfl rfl rfl rfl rfl rfl rfl (r := cL x) (by omega) hra rfl ?_
        repeat' first | refine T.seq ?_ | refine T.block ?_ | refine T.r ?_ | refine J.e rfl rfl rfl rfl ?_ | refine J.nil ?_ | refine J.skip rfl rfl rfl ?_ | refine T.skip ?_ | refine T.exit ?_ | refine T.ret ?_ | refine T.rd rfl (by kernel_rfl) ?_ | refine J.bx rfl rfl rfl rfl rfl rfl ?_
        refine T.cf2 rfl lt_end ?_
        repeat' first | refine T.seq ?_ | refine T.block ?_ | refine T.r ?_ | refine J.e rfl rfl rfl rfl ?_ | refine J.nil ?_ | refine J.skip rfl rfl rfl ?_ | refine T.skip ?_ | refine T.exit ?_ | refine T.ret ?_ | refine T.rd rfl (by kernel_rfl) ?_ | refine J.bx rfl rfl rfl rfl rfl rfl ?_
        rw [wrap1 hlt (by omega)]
        exact T.canon (keep := [1, 3]) (os := [1]) rfl (ih (by rw [List.all_append, hi]; simp [rowOK, h5, hi2]))
  · intro hi
    repeat' first | refine T.seq ?_ | refine T.block ?_ | refine T.r ?_ | refine J.e rfl rfl rfl rfl ?_ | refine J.nil ?_ | refine J.skip rfl rfl rfl ?_ | refine T.skip ?_ | refine T.exit ?_ | refine T.ret ?_ | refine T.rd rfl (by kernel_rfl) ?_ | refine J.bx rfl rfl rfl rfl rfl rfl ?_
    refine T.cf2 rfl lt_end ?_
    repeat' first | refine T.seq ?_ | refine T.block ?_ | refine T.r ?_ | refine J.e rfl rfl rfl rfl ?_ | refine J.nil ?_ | refine J.skip rfl rfl rfl ?_ | refine T.skip ?_ | refine T.exit ?_ | refine T.ret ?_ | refine T.rd rfl (by kernel_rfl) ?_ | refine J.bx rfl rfl rfl rfl rfl rfl ?_
    exact ⟨_, .v rfl rfl (by rw [rowsR, hi]; simp; omega) (fun _ => rfl) .nil⟩

def truthR (d : List (Int × Int)) : Bool := d.all fun r => !(decide (r.1 < 0) || decide (1 < r.2))
theorem truth_spec (d : List (Int × Int)) (hd : d.length * 8 ≤ 140737488355328) : Spec Try.prog 50 false [dm d] [.val (.bool (truthR d))] := by
  refine Spec.body Try.func50 rfl rfl rfl fun w0 Z0 => ?_
  repeat' first | refine T.seq ?_ | refine T.block ?_ | refine T.r ?_ | refine J.e rfl rfl rfl rfl ?_ | refine J.nil ?_ | refine J.skip rfl rfl rfl ?_ | refine T.skip ?_ | refine T.exit ?_ | refine T.ret ?_ | refine T.rd rfl (by kernel_rfl) ?_ | refine J.bx rfl rfl rfl rfl rfl rfl ?_
  refine T.canon (keep := [0, 3]) (os := []) rfl (T.listI d (fun pre => truthR pre = true) (fun n pre post => ⟨[(0, .val false (dm d)), (3, .val true (.int .i64 n))], [], 0⟩) (fun _ _ h => h) rfl ?_ ?_)
  · rintro n pre x post h hn hi ih
    have hlt := at_lt h hn
    have hra := row_at (enc := cR) h hn
    have bad : (decide (x.1 < 0) || decide (1 < x.2)) = true → truthR d = false := fun e => by
      rw [truthR, h, List.all_append, List.all_cons, e]
      simp
    repeat' first | refine T.seq ?_ | refine T.block ?_ | refine T.r ?_ | refine J.e rfl rfl rfl rfl ?_ | refine J.nil ?_ | refine J.skip rfl rfl rfl ?_ | refine T.skip ?_ | refine T.exit ?_ | refine T.ret ?_ | refine T.rd rfl (by kernel_rfl) ?_ | refine J.bx rfl rfl rfl rfl rfl rfl ?_
    refine T.ct2 rfl (lt_at h hn) ?_
    repeat' first | refine T.seq ?_ | refine T.block ?_ | refine T.r ?_ | refine J.e rfl rfl rfl rfl ?_ | refine J.nil ?_ | refine J.skip rfl rfl rfl ?_ | refine T.skip ?_ | refine T.exit ?_ | refine T.ret ?_ | refine T.rd rfl (by kernel_rfl) ?_ | refine J.bx rfl rfl rfl rfl rfl rfl ?_
    refine J.i rfl rfl rfl rfl rfl rfl rfl rfl rfl (r := cR x) (by omega) hra rfl ?_
    repeat' first | refine T.seq ?_ | refine T.block ?_ | refine T.r ?_ | refine J.e rfl rfl rfl rfl ?_ | refine J.nil ?_ | refine J.skip rfl rfl rfl ?_ | refine T.skip ?_ | refine T.exit ?_ | refine T.ret ?_ | refine T.rd rfl (by kernel_rfl) ?_ | refine J.bx rfl rfl rfl rfl rfl rfl ?_
    refine J.g rfl rfl rfl (fun h1 => ?_) (fun h1 => ?_)
    · rw [bad (by simp [show x.1 < 0 from h1])]
      repeat' first | refine T.seq ?_ | refine T.block ?_ | refine T.r ?_ | refine J.e rfl rfl rfl rfl ?_ | refine J.nil ?_ | refine J.skip rfl rfl rfl ?_ | refine T.skip ?_ | refine T.exit ?_ | refine T.ret ?_ | refine T.rd rfl (by kernel_rfl) ?_ | refine J.bx rfl rfl rfl rfl rfl rfl ?_
      refine T.ct rfl ?_
      repeat' first | refine T.seq ?_ | refine T.block ?_ | refine T.r ?_ | refine J.e rfl rfl rfl rfl ?_ | refine J.nil ?_ | refine J.skip rfl rfl rfl ?_ | refine T.skip ?_ | refine T.exit ?_ | refine T.ret ?_ | refine T.rd rfl (by kernel_rfl) ?_ | refine J.bx rfl rfl rfl rfl rfl rfl ?_
      exact ⟨_, .v rfl rfl rfl (fun _ => rfl) .nil⟩
    · repeat' first | refine T.seq ?_ | refine T.block ?_ | refine T.r ?_ | refine J.e rfl rfl rfl rfl ?_ | refine J.nil ?_ | refine J.skip rfl rfl rfl ?_ | refine T.skip ?_ | refine T.exit ?_ | refine T.ret ?_ | refine T.rd rfl (by kernel_rfl) ?_ | refine J.bx rfl rfl rfl rfl rfl rfl ?_
      refine J.i rfl rfl rfl rfl rfl rfl rfl rfl rfl (r := cR x) (by omega) hra rfl ?_
      repeat' first | refine T.seq ?_ | refine T.block ?_ | refine T.r ?_ | refine J.e rfl rfl rfl rfl ?_ | refine J.nil ?_ | refine J.skip rfl rfl rfl ?_ | refine T.skip ?_ | refine T.exit ?_ | refine T.ret ?_ | refine T.rd rfl (by kernel_rfl) ?_ | refine J.bx rfl rfl rfl rfl rfl rfl ?_
      refine T.cd rfl (fun h2 => ?_) (fun h2 => ?_)
      · rw [bad (by simp [show x.2 > 1 from h2])]
        repeat' first | refine T.seq ?_ | refine T.block ?_ | refine T.r ?_ | refine J.e rfl rfl rfl rfl ?_ | refine J.nil ?_ | refine J.skip rfl rfl rfl ?_ | refine T.skip ?_ | refine T.exit ?_ | refine T.ret ?_ | refine T.rd rfl (by kernel_rfl) ?_ | refine J.bx rfl rfl rfl rfl rfl rfl ?_
        exact ⟨_, .v rfl rfl rfl (fun _ => rfl) .nil⟩
      · repeat' first | refine T.seq ?_ | refine T.block ?_ | refine T.r ?_ | refine J.e rfl rfl rfl rfl ?_ | refine J.nil ?_ | refine J.skip rfl rfl rfl ?_ | refine T.skip ?_ | refine T.exit ?_ | refine T.ret ?_ | refine T.rd rfl (by kernel_rfl) ?_ | refine J.bx rfl rfl rfl rfl rfl rfl ?_
        rw [wrap1 hlt (by omega)]
        refine T.canon (keep := [0, 3]) (os := []) rfl (ih ?_)
        simp only [truthR, List.all_append, Bool.and_eq_true] at hi ⊢
        refine ⟨hi, ?_⟩
        simp [show ¬ x.1 < 0 from h1, show ¬ 1 < x.2 from h2]
  · intro hi
    repeat' first | refine T.seq ?_ | refine T.block ?_ | refine T.r ?_ | refine J.e rfl rfl rfl rfl ?_ | refine J.nil ?_ | refine J.skip rfl rfl rfl ?_ | refine T.skip ?_ | refine T.exit ?_ | refine T.ret ?_ | refine T.rd rfl (by kernel_rfl) ?_ | refine J.bx rfl rfl rfl rfl rfl rfl ?_
    refine T.cf2 rfl lt_end ?_
    repeat' first | refine T.seq ?_ | refine T.block ?_ | refine T.r ?_ | refine J.e rfl rfl rfl rfl ?_ | refine J.nil ?_ | refine J.skip rfl rfl rfl ?_ | refine T.skip ?_ | refine T.exit ?_ | refine T.ret ?_ | refine T.rd rfl (by kernel_rfl) ?_ | refine J.bx rfl rfl rfl rfl rfl rfl ?_
    exact ⟨_, .v rfl rfl (by rw [hi]) (fun _ => rfl) .nil⟩

def bigGo (room : Int) : List Int → Bool
  | [] => false
  | x :: xs => if 4398046511104 < x ∨ x < -4398046511104 then true else if room - max x (-x) * 1048576 < 0 then true else bigGo (room - max x (-x) * 1048576) xs
def bigR (l : List Int) (rhs : Int) : Bool := if 4611686018427387904 < rhs ∨ rhs < -4611686018427387904 then true else bigGo (4611686018427387904 - max rhs (-rhs)) l
theorem big_spec (l : List Int) (rhs : Int) (hl : l.length * 8 ≤ 140737488355328) : Spec Try.prog 36 false [ints l, .int .i64 rhs] [.val (.bool (bigR l rhs))] := by
  refine Spec.body Try.func36 rfl rfl rfl fun w0 Z0 => ?_
  unfold bigR
  repeat' first | refine T.seq ?_ | refine T.block ?_ | refine T.r ?_ | refine J.e rfl rfl rfl rfl ?_ | refine J.nil ?_ | refine J.skip rfl rfl rfl ?_ | refine T.skip ?_ | refine T.exit ?_ | refine T.ret ?_ | refine T.rd rfl (by kernel_rfl) ?_ | refine J.bx rfl rfl rfl rfl rfl rfl ?_
  refine J.g rfl rfl rfl (fun h1 => ?_) (fun h1 => ?_)
  · rw [if_pos (.inl h1)]
    repeat' first | refine T.seq ?_ | refine T.block ?_ | refine T.r ?_ | refine J.e rfl rfl rfl rfl ?_ | refine J.nil ?_ | refine J.skip rfl rfl rfl ?_ | refine T.skip ?_ | refine T.exit ?_ | refine T.ret ?_ | refine T.rd rfl (by kernel_rfl) ?_ | refine J.bx rfl rfl rfl rfl rfl rfl ?_
    refine T.ct rfl ?_
    repeat' first | refine T.seq ?_ | refine T.block ?_ | refine T.r ?_ | refine J.e rfl rfl rfl rfl ?_ | refine J.nil ?_ | refine J.skip rfl rfl rfl ?_ | refine T.skip ?_ | refine T.exit ?_ | refine T.ret ?_ | refine T.rd rfl (by kernel_rfl) ?_ | refine J.bx rfl rfl rfl rfl rfl rfl ?_
    exact ⟨_, .v rfl rfl rfl (fun _ => rfl) .nil⟩
  · have h1 : ¬ 4611686018427387904 < rhs := h1
    repeat' first | refine T.seq ?_ | refine T.block ?_ | refine T.r ?_ | refine J.e rfl rfl rfl rfl ?_ | refine J.nil ?_ | refine J.skip rfl rfl rfl ?_ | refine T.skip ?_ | refine T.exit ?_ | refine T.ret ?_ | refine T.rd rfl (by kernel_rfl) ?_ | refine J.bx rfl rfl rfl rfl rfl rfl ?_
    rw [show IntKind.i64.wrap (0 - 4611686018427387904) = -4611686018427387904 by rfl]
    refine T.cd rfl (fun h2 => ?_) (fun h2 => ?_)
    · rw [if_pos (.inr h2)]
      repeat' first | refine T.seq ?_ | refine T.block ?_ | refine T.r ?_ | refine J.e rfl rfl rfl rfl ?_ | refine J.nil ?_ | refine J.skip rfl rfl rfl ?_ | refine T.skip ?_ | refine T.exit ?_ | refine T.ret ?_ | refine T.rd rfl (by kernel_rfl) ?_ | refine J.bx rfl rfl rfl rfl rfl rfl ?_
      exact ⟨_, .v rfl rfl rfl (fun _ => rfl) .nil⟩
    · rw [if_neg (by omega)]
      repeat' first | refine T.seq ?_ | refine T.block ?_ | refine T.r ?_ | refine J.e rfl rfl rfl rfl ?_ | refine J.nil ?_ | refine J.skip rfl rfl rfl ?_ | refine T.skip ?_ | refine T.exit ?_ | refine T.ret ?_ | refine T.rd rfl (by kernel_rfl) ?_ | refine J.bx rfl rfl rfl rfl rfl rfl ?_
      rw [wrap_id (n := 0 - rhs) (by omega) (by omega), show (0 : Int) - rhs = -rhs by omega, wrap_id (n := 4611686018427387904 - max rhs (-rhs)) (by omega) (by omega)]
      refine T.canon (keep := [0, 5, 6]) (os := []) rfl (T.ind (fun (s : Nat × Int) => ⟨[(0, .val false (ints l)), (5, .val true (.int .i64 s.2)), (6, .val true (.int .i64 s.1))], [], 0⟩)
        (fun s => s.1 ≤ l.length ∧ 0 ≤ s.2 ∧ s.2 ≤ 4611686018427387904 ∧ bigGo s.2 (l.drop s.1) = bigGo (4611686018427387904 - max rhs (-rhs)) l) (fun s => l.length - s.1) (0, 4611686018427387904 - max rhs (-rhs)) ⟨by simp, by simp only; omega, by simp only; omega, by simp⟩ (fun _ _ h => h) ?_)
      rintro ⟨i, room⟩ ⟨hi, hr0, hr1, he⟩ ih
      simp only at hi hr0 hr1 he ih
      rw [← he]
      dsimp only
      repeat' first | refine T.seq ?_ | refine T.block ?_ | refine T.r ?_ | refine J.e rfl rfl rfl rfl ?_ | refine J.nil ?_ | refine J.skip rfl rfl rfl ?_ | refine T.skip ?_ | refine T.exit ?_ | refine T.ret ?_ | refine T.rd rfl (by kernel_rfl) ?_ | refine J.bx rfl rfl rfl rfl rfl rfl ?_
      refine T.cd rfl (fun h3 => ?_) (fun h3 => ?_)
      · have h3 : i < l.length := by simpa using h3
        rw [List.drop_eq_getElem_cons h3, bigGo] at he ⊢
        repeat' first | refine T.seq ?_ | refine T.block ?_ | refine T.r ?_ | refine J.e rfl rfl rfl rfl ?_ | refine J.nil ?_ | refine J.skip rfl rfl rfl ?_ | refine T.skip ?_ | refine T.exit ?_ | refine T.ret ?_ | refine T.rd rfl (by kernel_rfl) ?_ | refine J.bx rfl rfl rfl rfl rfl rfl ?_
        refine J.i rfl rfl rfl rfl rfl rfl rfl rfl rfl (r := cI l[i]) (by omega) (row_i h3) rfl ?_
        repeat' first | refine T.seq ?_ | refine T.block ?_ | refine T.r ?_ | refine J.e rfl rfl rfl rfl ?_ | refine J.nil ?_ | refine J.skip rfl rfl rfl ?_ | refine T.skip ?_ | refine T.exit ?_ | refine T.ret ?_ | refine T.rd rfl (by kernel_rfl) ?_ | refine J.bx rfl rfl rfl rfl rfl rfl ?_
        refine J.g rfl rfl rfl (fun h4 => ?_) (fun h4 => ?_)
        · rw [if_pos (.inl h4)]
          repeat' first | refine T.seq ?_ | refine T.block ?_ | refine T.r ?_ | refine J.e rfl rfl rfl rfl ?_ | refine J.nil ?_ | refine J.skip rfl rfl rfl ?_ | refine T.skip ?_ | refine T.exit ?_ | refine T.ret ?_ | refine T.rd rfl (by kernel_rfl) ?_ | refine J.bx rfl rfl rfl rfl rfl rfl ?_
          refine T.ct rfl ?_
          repeat' first | refine T.seq ?_ | refine T.block ?_ | refine T.r ?_ | refine J.e rfl rfl rfl rfl ?_ | refine J.nil ?_ | refine J.skip rfl rfl rfl ?_ | refine T.skip ?_ | refine T.exit ?_ | refine T.ret ?_ | refine T.rd rfl (by kernel_rfl) ?_ | refine J.bx rfl rfl rfl rfl rfl rfl ?_
          exact ⟨_, .v rfl rfl rfl (fun _ => rfl) .nil⟩
        · have h4 : ¬ l[i] > 4398046511104 := h4
          repeat' first | refine T.seq ?_ | refine T.block ?_ | refine T.r ?_ | refine J.e rfl rfl rfl rfl ?_ | refine J.nil ?_ | refine J.skip rfl rfl rfl ?_ | refine T.skip ?_ | refine T.exit ?_ | refine T.ret ?_ | refine T.rd rfl (by kernel_rfl) ?_ | refine J.bx rfl rfl rfl rfl rfl rfl ?_
          refine J.i rfl rfl rfl rfl rfl rfl rfl rfl rfl (r := cI l[i]) (by omega) (row_i h3) rfl ?_
          repeat' first | refine T.seq ?_ | refine T.block ?_ | refine T.r ?_ | refine J.e rfl rfl rfl rfl ?_ | refine J.nil ?_ | refine J.skip rfl rfl rfl ?_ | refine T.skip ?_ | refine T.exit ?_ | refine T.ret ?_ | refine T.rd rfl (by kernel_rfl) ?_ | refine J.bx rfl rfl rfl rfl rfl rfl ?_
          refine T.cd rfl (fun h5 => ?_) (fun h5 => ?_)
          · rw [if_pos (.inr h5)]
            repeat' first | refine T.seq ?_ | refine T.block ?_ | refine T.r ?_ | refine J.e rfl rfl rfl rfl ?_ | refine J.nil ?_ | refine J.skip rfl rfl rfl ?_ | refine T.skip ?_ | refine T.exit ?_ | refine T.ret ?_ | refine T.rd rfl (by kernel_rfl) ?_ | refine J.bx rfl rfl rfl rfl rfl rfl ?_
            exact ⟨_, .v rfl rfl rfl (fun _ => rfl) .nil⟩
          · have h5 : ¬ l[i] < -4398046511104 := h5
            rw [if_neg (by omega)] at he ⊢
            repeat' first | refine T.seq ?_ | refine T.block ?_ | refine T.r ?_ | refine J.e rfl rfl rfl rfl ?_ | refine J.nil ?_ | refine J.skip rfl rfl rfl ?_ | refine T.skip ?_ | refine T.exit ?_ | refine T.ret ?_ | refine T.rd rfl (by kernel_rfl) ?_ | refine J.bx rfl rfl rfl rfl rfl rfl ?_
            refine J.i rfl rfl rfl rfl rfl rfl rfl rfl rfl (r := cI l[i]) (by omega) (row_i h3) rfl ?_
            repeat' first | refine T.seq ?_ | refine T.block ?_ | refine T.r ?_ | refine J.e rfl rfl rfl rfl ?_ | refine J.nil ?_ | refine J.skip rfl rfl rfl ?_ | refine T.skip ?_ | refine T.exit ?_ | refine T.ret ?_ | refine T.rd rfl (by kernel_rfl) ?_ | refine J.bx rfl rfl rfl rfl rfl rfl ?_
            refine J.i rfl rfl rfl rfl rfl rfl rfl rfl rfl (r := cI l[i]) (by omega) (row_i h3) rfl ?_
            repeat' first | refine T.seq ?_ | refine T.block ?_ | refine T.r ?_ | refine J.e rfl rfl rfl rfl ?_ | refine J.nil ?_ | refine J.skip rfl rfl rfl ?_ | refine T.skip ?_ | refine T.exit ?_ | refine T.ret ?_ | refine T.rd rfl (by kernel_rfl) ?_ | refine J.bx rfl rfl rfl rfl rfl rfl ?_
            rw [wrap_id (n := 0 - l[i]) (by omega) (by omega), show (0 : Int) - l[i] = -l[i] by omega, wrap_id (n := max l[i] (-l[i]) * 1048576) (by omega) (by omega), wrap_id (n := room - max l[i] (-l[i]) * 1048576) (by omega) (by omega)]
            refine T.cd rfl (fun h6 => ?_) (fun h6 => ?_)
            · rw [if_pos h6]
              repeat' first | refine T.seq ?_ | refine T.block ?_ | refine T.r ?_ | refine J.e rfl rfl rfl rfl ?_ | refine J.nil ?_ | refine J.skip rfl rfl rfl ?_ | refine T.skip ?_ | refine T.exit ?_ | refine T.ret ?_ | refine T.rd rfl (by kernel_rfl) ?_ | refine J.bx rfl rfl rfl rfl rfl rfl ?_
              exact ⟨_, .v rfl rfl rfl (fun _ => rfl) .nil⟩
            · have h6 : ¬ room - max l[i] (-l[i]) * 1048576 < 0 := h6
              rw [if_neg h6] at he ⊢
              repeat' first | refine T.seq ?_ | refine T.block ?_ | refine T.r ?_ | refine J.e rfl rfl rfl rfl ?_ | refine J.nil ?_ | refine J.skip rfl rfl rfl ?_ | refine T.skip ?_ | refine T.exit ?_ | refine T.ret ?_ | refine T.rd rfl (by kernel_rfl) ?_ | refine J.bx rfl rfl rfl rfl rfl rfl ?_
              rw [wrap1 h3 (by omega), he]
              exact T.canon (keep := [0, 5, 6]) (os := []) rfl (ih (i + 1, room - max l[i] (-l[i]) * 1048576) ⟨by simp only; omega, by simp only; omega, by simp only; omega, by simp only; exact he⟩ (by simp only; omega))
      · have h3 : ¬ i < l.length := by simpa using h3
        repeat' first | refine T.seq ?_ | refine T.block ?_ | refine T.r ?_ | refine J.e rfl rfl rfl rfl ?_ | refine J.nil ?_ | refine J.skip rfl rfl rfl ?_ | refine T.skip ?_ | refine T.exit ?_ | refine T.ret ?_ | refine T.rd rfl (by kernel_rfl) ?_ | refine J.bx rfl rfl rfl rfl rfl rfl ?_
        exact ⟨_, .v rfl rfl (by rw [List.drop_of_length_le (by omega)]; rfl) (fun _ => rfl) .nil⟩
end Go.Proofs.Ytdflkbmpbblcfaa
/-! Contracts: whether a constraint may be. -/
namespace Go.Proofs.Ytdflkbmpbblcfaa
open Go Go.RowKit
set_option linter.unusedVariables false
set_option maxRecDepth 4000

def coefAt (c : Con) (k : Nat) : Int := c.coefs.getD k 0
def unitAt (d : Doms) (c : Con) (i : Nat) : Bool := truthR (domAt d (varAt c i)) && (decide (coefAt c i = 1) || decide (coefAt c i = -1))
def unitsR (d : Doms) (c : Con) : Bool := (List.range c.vars.length).all (unitAt d c)
theorem coefAt_row {c : Con} {k : Nat} (h : k < c.coefs.length) : (c.coefs.map cI)[((k : Nat) : Int).toNat]? = some (cI (coefAt c k)) := by
  simp [coefAt, h]
theorem units_spec (d : Doms) (c : Con) (hc : VarsIn d c) (hl : c.vars.length = c.coefs.length) (hd : ∀ x ∈ d, x.length * 8 ≤ 140737488355328) : Spec Try.prog 51 false [doms d, .agg (cC c)] [.val (.bool (unitsR d c))] := by
  refine Spec.body Try.func51 rfl rfl rfl fun w0 Z0 => ?_
  obtain ⟨h1, h2⟩ := hc
  repeat' first | refine T.seq ?_ | refine T.block ?_ | refine T.r ?_ | refine J.e rfl rfl rfl rfl ?_ | refine J.nil ?_ | refine J.skip rfl rfl rfl ?_ | refine T.skip ?_ | refine T.exit ?_ | refine T.ret ?_ | refine T.rd rfl (by kernel_rfl) ?_ | refine J.bx rfl rfl rfl rfl rfl rfl ?_
  refine T.canon (keep := [0, 3, 5]) (os := [3]) rfl (T.ind (fun i : Nat => ⟨[(0, .val false (doms d)), (3, .optr 0 0 0 0), (5, .val true (.int .i64 i))], [(0, some (.box false (cC c)))], 1⟩) (fun i => i ≤ c.vars.length ∧ ∀ j, j < i → unitAt d c j = true) (fun i => c.vars.length - i) 0 (by simp) (fun _ _ h => h) ?_)
  rintro i ⟨hi, hp⟩ ih
  repeat' first | refine T.seq ?_ | refine T.block ?_ | refine T.r ?_ | refine J.e rfl rfl rfl rfl ?_ | refine J.nil ?_ | refine J.skip rfl rfl rfl ?_ | refine T.skip ?_ | refine T.exit ?_ | refine T.ret ?_ | refine T.rd rfl (by kernel_rfl) ?_ | refine J.bx rfl rfl rfl rfl rfl rfl ?_
  refine T.cd rfl (fun h3 => ?_) (fun h3 => ?_)
  · have h3 : i < c.vars.length := by simpa using h3
    have hv := h2 _ (varAt_mem h3)
    have ra : (d.map cD)[(varAt c i).toNat]? = some (cD (domAt d (varAt c i))) := by simp [domAt_some hv.2]
    have hu : unitAt d c i = (truthR (domAt d (varAt c i)) && (decide (coefAt c i = 1) || decide (coefAt c i = -1))) := rfl
    have ht := truth_spec (domAt d (varAt c i)) (hd _ (domAt_mem hv.2))
    have bad : unitAt d c i = false → unitsR d c = false := fun e => by
      rw [unitsR, List.all_eq_false]
      exact ⟨i, List.mem_range.2 h3, by simp [e]⟩
    have good : unitAt d c i = true → T _ _ _ _ := fun e => ih (i + 1) ⟨by omega, fun j hj => by
      by_cases e2 : j = i
      · rw [e2]; exact e
      · exact hp j (by omega)⟩ (by omega)
    repeat' first | refine T.seq ?_ | refine T.block ?_ | refine T.r ?_ | refine J.e rfl rfl rfl rfl ?_ | refine J.nil ?_ | refine J.skip rfl rfl rfl ?_ | refine T.skip ?_ | refine T.exit ?_ | refine T.ret ?_ | refine T.rd rfl (by kernel_rfl) ?_ | refine J.bx rfl rfl rfl rfl rfl rfl ?_
    refine J.i rfl rfl rfl rfl rfl rfl rfl rfl rfl (r := cI (varAt c i)) (by omega) (varAt_row h3) rfl ?_
    repeat' first | refine T.seq ?_ | refine T.block ?_ | refine T.r ?_ | refine J.e rfl rfl rfl rfl ?_ | refine J.nil ?_ | refine J.skip rfl rfl rfl ?_ | refine T.skip ?_ | refine T.exit ?_ | refine T.ret ?_ | refine T.rd rfl (by kernel_rfl) ?_ | refine J.bx rfl rfl rfl rfl rfl rfl ?_
    refine J.i rfl rfl rfl rfl rfl rfl rfl rfl rfl (r := cD (domAt d (varAt c i))) hv.1 ra rfl ?_
    repeat' first | refine T.seq ?_ | refine T.block ?_ | refine T.r ?_ | refine J.e rfl rfl rfl rfl ?_ | refine J.nil ?_ | refine J.skip rfl rfl rfl ?_ | refine T.skip ?_ | refine T.exit ?_ | refine T.ret ?_ | refine T.rd rfl (by kernel_rfl) ?_ | refine J.bx rfl rfl rfl rfl rfl rfl ?_
    refine J.cc rfl rfl rfl rfl rfl ht rfl rfl ?_
    generalize truthR (domAt d (varAt c i)) = tr at *
    cases tr
    · rw [bad hu]
      repeat' first | refine T.seq ?_ | refine T.block ?_ | refine T.r ?_ | refine J.e rfl rfl rfl rfl ?_ | refine J.nil ?_ | refine J.skip rfl rfl rfl ?_ | refine T.skip ?_ | refine T.exit ?_ | refine T.ret ?_ | refine T.rd rfl (by kernel_rfl) ?_ | refine J.bx rfl rfl rfl rfl rfl rfl ?_
      refine T.ct rfl ?_
      repeat' first | refine T.seq ?_ | refine T.block ?_ | refine T.r ?_ | refine J.e rfl rfl rfl rfl ?_ | refine J.nil ?_ | refine J.skip rfl rfl rfl ?_ | refine T.skip ?_ | refine T.exit ?_ | refine T.ret ?_ | refine T.rd rfl (by kernel_rfl) ?_ | refine J.bx rfl rfl rfl rfl rfl rfl ?_
      exact ⟨_, .v rfl rfl rfl (fun _ => rfl) .nil⟩
    · rw [Bool.true_and] at hu
      repeat' first | refine T.seq ?_ | refine T.block ?_ | refine T.r ?_ | refine J.e rfl rfl rfl rfl ?_ | refine J.nil ?_ | refine J.skip rfl rfl rfl ?_ | refine T.skip ?_ | refine T.exit ?_ | refine T.ret ?_ | refine T.rd rfl (by kernel_rfl) ?_ | refine J.bx rfl rfl rfl rfl rfl rfl ?_
      refine J.i rfl rfl rfl rfl rfl rfl rfl rfl rfl (r := cI (coefAt c i)) (by omega) (coefAt_row (by omega)) rfl ?_
      repeat' first | refine T.seq ?_ | refine T.block ?_ | refine T.r ?_ | refine J.e rfl rfl rfl rfl ?_ | refine J.nil ?_ | refine J.skip rfl rfl rfl ?_ | refine T.skip ?_ | refine T.exit ?_ | refine T.ret ?_ | refine T.rd rfl (by kernel_rfl) ?_ | refine J.bx rfl rfl rfl rfl rfl rfl ?_
      refine J.g rfl rfl rfl (fun h4 => ?_) (fun h4 => ?_)
      · have h4 : ¬ coefAt c i = 1 := h4
        repeat' first | refine T.seq ?_ | refine T.block ?_ | refine T.r ?_ | refine J.e rfl rfl rfl rfl ?_ | refine J.nil ?_ | refine J.skip rfl rfl rfl ?_ | refine T.skip ?_ | refine T.exit ?_ | refine T.ret ?_ | refine T.rd rfl (by kernel_rfl) ?_ | refine J.bx rfl rfl rfl rfl rfl rfl ?_
        refine J.i rfl rfl rfl rfl rfl rfl rfl rfl rfl (r := cI (coefAt c i)) (by omega) (coefAt_row (by omega)) rfl ?_
        repeat' first | refine T.seq ?_ | refine T.block ?_ | refine T.r ?_ | refine J.e rfl rfl rfl rfl ?_ | refine J.nil ?_ | refine J.skip rfl rfl rfl ?_ | refine T.skip ?_ | refine T.exit ?_ | refine T.ret ?_ | refine T.rd rfl (by kernel_rfl) ?_ | refine J.bx rfl rfl rfl rfl rfl rfl ?_
        refine T.cd rfl (fun h5 => ?_) (fun h5 => ?_)
        · have h5 : ¬ coefAt c i = -1 := h5
          rw [bad (by rw [hu]; simp [h4, h5])]
          repeat' first | refine T.seq ?_ | refine T.block ?_ | refine T.r ?_ | refine J.e rfl rfl rfl rfl ?_ | refine J.nil ?_ | refine J.skip rfl rfl rfl ?_ | refine T.skip ?_ | refine T.exit ?_ | refine T.ret ?_ | refine T.rd rfl (by kernel_rfl) ?_ | refine J.bx rfl rfl rfl rfl rfl rfl ?_
          exact ⟨_, .v rfl rfl rfl (fun _ => rfl) .nil⟩
        · have h5 : coefAt c i = -1 := Classical.not_not.1 h5
          repeat' first | refine T.seq ?_ | refine T.block ?_ | refine T.r ?_ | refine J.e rfl rfl rfl rfl ?_ | refine J.nil ?_ | refine J.skip rfl rfl rfl ?_ | refine T.skip ?_ | refine T.exit ?_ | refine T.ret ?_ | refine T.rd rfl (by kernel_rfl) ?_ | refine J.bx rfl rfl rfl rfl rfl rfl ?_
          rw [wrap1 h3 (by omega)]
          exact T.canon (keep := [0, 3, 5]) (os := [3]) rfl (good (by rw [hu]; simp [h5]))
      · have h4 : coefAt c i = 1 := Classical.not_not.1 h4
        repeat' first | refine T.seq ?_ | refine T.block ?_ | refine T.r ?_ | refine J.e rfl rfl rfl rfl ?_ | refine J.nil ?_ | refine J.skip rfl rfl rfl ?_ | refine T.skip ?_ | refine T.exit ?_ | refine T.ret ?_ | refine T.rd rfl (by kernel_rfl) ?_ | refine J.bx rfl rfl rfl rfl rfl rfl ?_
        refine T.cf rfl ?_
        repeat' first | refine T.seq ?_ | refine T.block ?_ | refine T.r ?_ | refine J.e rfl rfl rfl rfl ?_ | refine J.nil ?_ | refine J.skip rfl rfl rfl ?_ | refine T.skip ?_ | refine T.exit ?_ | refine T.ret ?_ | refine T.rd rfl (by kernel_rfl) ?_ | refine J.bx rfl rfl rfl rfl rfl rfl ?_
        rw [wrap1 h3 (by omega)]
        exact T.canon (keep := [0, 3, 5]) (os := [3]) rfl (good (by rw [hu]; simp [h4]))
  · have h3 : i = c.vars.length := by simp at h3; omega
    repeat' first | refine T.seq ?_ | refine T.block ?_ | refine T.r ?_ | refine J.e rfl rfl rfl rfl ?_ | refine J.nil ?_ | refine J.skip rfl rfl rfl ?_ | refine T.skip ?_ | refine T.exit ?_ | refine T.ret ?_ | refine T.rd rfl (by kernel_rfl) ?_ | refine J.bx rfl rfl rfl rfl rfl rfl ?_
    refine ⟨_, .v rfl rfl ?_ (fun _ => rfl) .nil⟩
    simp only [PV.bool.injEq]
    rw [eq_comm, unitsR, List.all_eq_true]
    intro j hj
    exact hp j (by have := List.mem_range.1 hj; omega)

def bareR (c : Con) : Bool := decide (c.op = 0) && decide (c.rhs = 0) && decide (c.b = 0)
def opR (c : Con) : Bool := decide (0 ≤ c.op) && decide (c.op ≤ 2)
def manyR (c : Con) : Bool := decide (0 < c.vars.length) && decide c.vars.Nodup
def noneR (c : Con) : Bool := decide (c.rows.length = 0)
def plainR (c : Con) : Bool := bareR c && decide (c.coefs.length = 0)
def rightR (d : Doms) (c : Con) : Bool :=
  if c.kind = 0 then noneR c && sumR c && opR c && decide (c.b = 0) else
  if c.kind = 1 then noneR c && plainR c && manyR c else
  if c.kind = 2 then plainR c && manyR c && rowsR c else
  if c.kind = 3 then noneR c && plainR c && manyR c && decide (3 ≤ c.vars.length) else
  if c.kind = 4 then noneR c && sumR c && opR c && truthR (domAt d c.b) && !decide (c.b ∈ c.vars) else
  if c.kind = 5 then noneR c && bareR c && sumR c && unitsR d c else
  noneR c && plainR c && decide (2 ≤ c.vars.length) && decide (c.vars.length % 2 = 0)
theorem right_spec (d : Doms) (c : Con) (hc : ConB c) (hv : VarsIn d c) (hb : c.kind = 4 → 0 ≤ c.b ∧ c.b.toNat < d.length) (hd : ∀ x ∈ d, x.length * 8 ≤ 140737488355328) : Spec Try.prog 35 false [doms d, .agg (cC c)] [.val (.bool (rightR d c))] := by
  refine Spec.body Try.func35 rfl rfl rfl fun w0 Z0 => ?_
  have hsum := sum_spec c hc
  have hrows := rows_spec c hc
  have hunits : sumR c = true → Spec Try.prog 51 false [doms d, .agg (cC c)] [.val (.bool (unitsR d c))] := fun h => units_spec d c hv (by simp [sumR] at h; omega) hd
  have hoth := others_spec c.vars (by have := hc.1; omega)
  have hbm := has_spec c.vars c.b (by have := hc.1; omega)
  refine T.seq ?_
  refine T.r ?_
  repeat' first | refine J.e rfl rfl rfl rfl ?_ | refine J.skip rfl rfl rfl ?_ | refine J.bx rfl rfl rfl rfl rfl rfl ?_
  refine J.nil ?_
  refine T.mid ⟨[(0, .val false (doms d)), (3, .optr 0 0 0 0), (5, .val true (.bool (bareR c)))], [(0, some (.box false (cC c)))], 1⟩ ?_ ?_
  · repeat' first | refine T.seq ?_ | refine T.block ?_ | refine T.r ?_ | refine J.e rfl rfl rfl rfl ?_ | refine J.nil ?_ | refine J.skip rfl rfl rfl ?_ | refine T.skip ?_ | refine T.exit ?_ | refine T.ret ?_ | refine T.rd rfl (by kernel_rfl) ?_ | refine J.bx rfl rfl rfl rfl rfl rfl ?_
    refine J.g rfl rfl rfl (fun h1 => ?_) (fun h1 => ?_)
    · repeat' first | refine T.seq ?_ | refine T.block ?_ | refine T.r ?_ | refine J.e rfl rfl rfl rfl ?_ | refine J.nil ?_ | refine J.skip rfl rfl rfl ?_ | refine T.skip ?_ | refine T.exit ?_ | refine T.ret ?_ | refine T.rd rfl (by kernel_rfl) ?_ | refine J.bx rfl rfl rfl rfl rfl rfl ?_
      refine J.g rfl rfl rfl (fun h2 => ?_) (fun h2 => ?_)
      · rw [show bareR c = decide (c.b = 0) by simp [bareR, show c.op = 0 from h1, show c.rhs = 0 from h2]]
        repeat' first | refine T.seq ?_ | refine T.block ?_ | refine T.r ?_ | refine J.e rfl rfl rfl rfl ?_ | refine J.nil ?_ | refine J.skip rfl rfl rfl ?_ | refine T.skip ?_ | refine T.exit ?_ | refine T.ret ?_ | refine T.rd rfl (by kernel_rfl) ?_ | refine J.bx rfl rfl rfl rfl rfl rfl ?_
        exact ⟨rfl, [0, 3, 5], [3], rfl, rfl⟩
      · rw [show bareR c = false by simp [bareR, show ¬ c.rhs = 0 from h2]]
        repeat' first | refine T.seq ?_ | refine T.block ?_ | refine T.r ?_ | refine J.e rfl rfl rfl rfl ?_ | refine J.nil ?_ | refine J.skip rfl rfl rfl ?_ | refine T.skip ?_ | refine T.exit ?_ | refine T.ret ?_ | refine T.rd rfl (by kernel_rfl) ?_ | refine J.bx rfl rfl rfl rfl rfl rfl ?_
        exact ⟨rfl, [0, 3, 5], [3], rfl, rfl⟩
    · rw [show bareR c = false by simp [bareR, show ¬ c.op = 0 from h1]]
      repeat' first | refine T.seq ?_ | refine T.block ?_ | refine T.r ?_ | refine J.e rfl rfl rfl rfl ?_ | refine J.nil ?_ | refine J.skip rfl rfl rfl ?_ | refine T.skip ?_ | refine T.exit ?_ | refine T.ret ?_ | refine T.rd rfl (by kernel_rfl) ?_ | refine J.bx rfl rfl rfl rfl rfl rfl ?_
      exact ⟨rfl, [0, 3, 5], [3], rfl, rfl⟩
  refine T.mid ⟨[(0, .val false (doms d)), (3, .optr 0 0 0 0), (5, .val true (.bool (bareR c))), (6, .val true (.bool (plainR c)))], [(0, some (.box false (cC c)))], 1⟩ ?_ ?_
  · rw [show plainR c = (bareR c && decide (((c.coefs.map cI).length : Int) = 0)) by simp [plainR]]
    generalize bareR c = bb
    cases bb
    · repeat' first | refine T.seq ?_ | refine T.block ?_ | refine T.r ?_ | refine J.e rfl rfl rfl rfl ?_ | refine J.nil ?_ | refine J.skip rfl rfl rfl ?_ | refine T.skip ?_ | refine T.exit ?_ | refine T.ret ?_ | refine T.rd rfl (by kernel_rfl) ?_ | refine J.bx rfl rfl rfl rfl rfl rfl ?_
      exact ⟨rfl, [0, 3, 5, 6], [3], rfl, rfl⟩
    · repeat' first | refine T.seq ?_ | refine T.block ?_ | refine T.r ?_ | refine J.e rfl rfl rfl rfl ?_ | refine J.nil ?_ | refine J.skip rfl rfl rfl ?_ | refine T.skip ?_ | refine T.exit ?_ | refine T.ret ?_ | refine T.rd rfl (by kernel_rfl) ?_ | refine J.bx rfl rfl rfl rfl rfl rfl ?_
      exact ⟨rfl, [0, 3, 5, 6], [3], rfl, rfl⟩
  refine T.mid ⟨[(0, .val false (doms d)), (3, .optr 0 0 0 0), (5, .val true (.bool (bareR c))), (6, .val true (.bool (plainR c))), (7, .val true (.bool (opR c)))], [(0, some (.box false (cC c)))], 1⟩ ?_ ?_
  · repeat' first | refine T.seq ?_ | refine T.block ?_ | refine T.r ?_ | refine J.e rfl rfl rfl rfl ?_ | refine J.nil ?_ | refine J.skip rfl rfl rfl ?_ | refine T.skip ?_ | refine T.exit ?_ | refine T.ret ?_ | refine T.rd rfl (by kernel_rfl) ?_ | refine J.bx rfl rfl rfl rfl rfl rfl ?_
    refine J.g rfl rfl rfl (fun h1 => ?_) (fun h1 => ?_)
    · rw [show opR c = decide (c.op ≤ 2) by simp [opR, show c.op ≥ 0 from h1]]
      repeat' first | refine T.seq ?_ | refine T.block ?_ | refine T.r ?_ | refine J.e rfl rfl rfl rfl ?_ | refine J.nil ?_ | refine J.skip rfl rfl rfl ?_ | refine T.skip ?_ | refine T.exit ?_ | refine T.ret ?_ | refine T.rd rfl (by kernel_rfl) ?_ | refine J.bx rfl rfl rfl rfl rfl rfl ?_
      exact ⟨rfl, [0, 3, 5, 6, 7], [3], rfl, rfl⟩
    · rw [show opR c = false by simp [opR, show ¬ 0 ≤ c.op from h1]]
      repeat' first | refine T.seq ?_ | refine T.block ?_ | refine T.r ?_ | refine J.e rfl rfl rfl rfl ?_ | refine J.nil ?_ | refine J.skip rfl rfl rfl ?_ | refine T.skip ?_ | refine T.exit ?_ | refine T.ret ?_ | refine T.rd rfl (by kernel_rfl) ?_ | refine J.bx rfl rfl rfl rfl rfl rfl ?_
      exact ⟨rfl, [0, 3, 5, 6, 7], [3], rfl, rfl⟩
  refine T.mid ⟨[(0, .val false (doms d)), (3, .optr 0 0 0 0), (5, .val true (.bool (bareR c))), (6, .val true (.bool (plainR c))), (7, .val true (.bool (opR c))), (8, .val true (.bool (manyR c)))], [(0, some (.box false (cC c)))], 1⟩ ?_ ?_
  · repeat' first | refine T.seq ?_ | refine T.block ?_ | refine T.r ?_ | refine J.e rfl rfl rfl rfl ?_ | refine J.nil ?_ | refine J.skip rfl rfl rfl ?_ | refine T.skip ?_ | refine T.exit ?_ | refine T.ret ?_ | refine T.rd rfl (by kernel_rfl) ?_ | refine J.bx rfl rfl rfl rfl rfl rfl ?_
    refine J.g rfl rfl rfl (fun h1 => ?_) (fun h1 => ?_)
    · rw [show manyR c = decide c.vars.Nodup by simp only [List.length_map] at h1; simp [manyR]; omega]
      repeat' first | refine T.seq ?_ | refine T.block ?_ | refine T.r ?_ | refine J.e rfl rfl rfl rfl ?_ | refine J.nil ?_ | refine J.skip rfl rfl rfl ?_ | refine T.skip ?_ | refine T.exit ?_ | refine T.ret ?_ | refine T.rd rfl (by kernel_rfl) ?_ | refine J.bx rfl rfl rfl rfl rfl rfl ?_
      refine J.cc rfl rfl rfl rfl rfl hoth rfl rfl ?_
      repeat' first | refine T.seq ?_ | refine T.block ?_ | refine T.r ?_ | refine J.e rfl rfl rfl rfl ?_ | refine J.nil ?_ | refine J.skip rfl rfl rfl ?_ | refine T.skip ?_ | refine T.exit ?_ | refine T.ret ?_ | refine T.rd rfl (by kernel_rfl) ?_ | refine J.bx rfl rfl rfl rfl rfl rfl ?_
      exact ⟨rfl, [0, 3, 5, 6, 7, 8], [3], rfl, rfl⟩
    · rw [show manyR c = false by simp only [List.length_map] at h1; simp [manyR]; omega]
      repeat' first | refine T.seq ?_ | refine T.block ?_ | refine T.r ?_ | refine J.e rfl rfl rfl rfl ?_ | refine J.nil ?_ | refine J.skip rfl rfl rfl ?_ | refine T.skip ?_ | refine T.exit ?_ | refine T.ret ?_ | refine T.rd rfl (by kernel_rfl) ?_ | refine J.bx rfl rfl rfl rfl rfl rfl ?_
      exact ⟨rfl, [0, 3, 5, 6, 7, 8], [3], rfl, rfl⟩
  refine T.mid ⟨[(0, .val false (doms d)), (3, .optr 0 0 0 0), (5, .val true (.bool (bareR c))), (6, .val true (.bool (plainR c))), (7, .val true (.bool (opR c))), (8, .val true (.bool (manyR c))), (9, .val true (.bool (noneR c)))], [(0, some (.box false (cC c)))], 1⟩ ?_ ?_
  · rw [show noneR c = decide (((c.rows.map cL).length : Int) = 0) by simp [noneR]]
    repeat' first | refine T.seq ?_ | refine T.block ?_ | refine T.r ?_ | refine J.e rfl rfl rfl rfl ?_ | refine J.nil ?_ | refine J.skip rfl rfl rfl ?_ | refine T.skip ?_ | refine T.exit ?_ | refine T.ret ?_ | refine T.rd rfl (by kernel_rfl) ?_ | refine J.bx rfl rfl rfl rfl rfl rfl ?_
    exact ⟨rfl, [0, 3, 5, 6, 7, 8, 9], [3], rfl, rfl⟩
  repeat' first | refine T.seq ?_ | refine T.block ?_ | refine T.r ?_ | refine J.e rfl rfl rfl rfl ?_ | refine J.nil ?_ | refine J.skip rfl rfl rfl ?_ | refine T.skip ?_ | refine T.exit ?_ | refine T.ret ?_ | refine T.rd rfl (by kernel_rfl) ?_ | refine J.bx rfl rfl rfl rfl rfl rfl ?_
  -- the switch
  by_cases hk0 : c.kind = 0
  · rw [show rightR d c = (noneR c && sumR c && opR c && decide (c.b = 0)) by simp [rightR, hk0]]
    refine T.ct2 rfl (by simp [hk0]) ?_
    repeat' first | refine T.seq ?_ | refine T.block ?_ | refine T.r ?_ | refine J.e rfl rfl rfl rfl ?_ | refine J.nil ?_ | refine J.skip rfl rfl rfl ?_ | refine T.skip ?_ | refine T.exit ?_ | refine T.ret ?_ | refine T.rd rfl (by kernel_rfl) ?_ | refine J.bx rfl rfl rfl rfl rfl rfl ?_
    generalize noneR c = bn at *
    cases bn
    · repeat' first | refine T.seq ?_ | refine T.block ?_ | refine T.r ?_ | refine J.e rfl rfl rfl rfl ?_ | refine J.nil ?_ | refine J.skip rfl rfl rfl ?_ | refine T.skip ?_ | refine T.exit ?_ | refine T.ret ?_ | refine T.rd rfl (by kernel_rfl) ?_ | refine J.bx rfl rfl rfl rfl rfl rfl ?_
      exact ⟨_, .v rfl rfl rfl (fun _ => rfl) .nil⟩
    · repeat' first | refine T.seq ?_ | refine T.block ?_ | refine T.r ?_ | refine J.e rfl rfl rfl rfl ?_ | refine J.nil ?_ | refine J.skip rfl rfl rfl ?_ | refine T.skip ?_ | refine T.exit ?_ | refine T.ret ?_ | refine T.rd rfl (by kernel_rfl) ?_ | refine J.bx rfl rfl rfl rfl rfl rfl ?_
      refine J.cc rfl rfl rfl rfl rfl hsum rfl rfl ?_
      generalize sumR c = bs at *
      cases bs
      · repeat' first | refine T.seq ?_ | refine T.block ?_ | refine T.r ?_ | refine J.e rfl rfl rfl rfl ?_ | refine J.nil ?_ | refine J.skip rfl rfl rfl ?_ | refine T.skip ?_ | refine T.exit ?_ | refine T.ret ?_ | refine T.rd rfl (by kernel_rfl) ?_ | refine J.bx rfl rfl rfl rfl rfl rfl ?_
        exact ⟨_, .v rfl rfl rfl (fun _ => rfl) .nil⟩
      · repeat' first | refine T.seq ?_ | refine T.block ?_ | refine T.r ?_ | refine J.e rfl rfl rfl rfl ?_ | refine J.nil ?_ | refine J.skip rfl rfl rfl ?_ | refine T.skip ?_ | refine T.exit ?_ | refine T.ret ?_ | refine T.rd rfl (by kernel_rfl) ?_ | refine J.bx rfl rfl rfl rfl rfl rfl ?_
        generalize opR c = bo at *
        cases bo
        · repeat' first | refine T.seq ?_ | refine T.block ?_ | refine T.r ?_ | refine J.e rfl rfl rfl rfl ?_ | refine J.nil ?_ | refine J.skip rfl rfl rfl ?_ | refine T.skip ?_ | refine T.exit ?_ | refine T.ret ?_ | refine T.rd rfl (by kernel_rfl) ?_ | refine J.bx rfl rfl rfl rfl rfl rfl ?_
          exact ⟨_, .v rfl rfl rfl (fun _ => rfl) .nil⟩
        · repeat' first | refine T.seq ?_ | refine T.block ?_ | refine T.r ?_ | refine J.e rfl rfl rfl rfl ?_ | refine J.nil ?_ | refine J.skip rfl rfl rfl ?_ | refine T.skip ?_ | refine T.exit ?_ | refine T.ret ?_ | refine T.rd rfl (by kernel_rfl) ?_ | refine J.bx rfl rfl rfl rfl rfl rfl ?_
          exact ⟨_, .v rfl rfl (by simp <;> omega) (fun _ => rfl) .nil⟩
  refine T.cf2 rfl (by simp [hk0]) ?_
  repeat' first | refine T.seq ?_ | refine T.block ?_ | refine T.r ?_ | refine J.e rfl rfl rfl rfl ?_ | refine J.nil ?_ | refine J.skip rfl rfl rfl ?_ | refine T.skip ?_ | refine T.exit ?_ | refine T.ret ?_ | refine T.rd rfl (by kernel_rfl) ?_ | refine J.bx rfl rfl rfl rfl rfl rfl ?_
  by_cases hk1 : c.kind = 1
  · rw [show rightR d c = (noneR c && plainR c && manyR c) by simp [rightR, hk1]]
    refine T.ct2 rfl (by simp [hk1]) ?_
    repeat' first | refine T.seq ?_ | refine T.block ?_ | refine T.r ?_ | refine J.e rfl rfl rfl rfl ?_ | refine J.nil ?_ | refine J.skip rfl rfl rfl ?_ | refine T.skip ?_ | refine T.exit ?_ | refine T.ret ?_ | refine T.rd rfl (by kernel_rfl) ?_ | refine J.bx rfl rfl rfl rfl rfl rfl ?_
    generalize noneR c = bn at *
    cases bn
    · repeat' first | refine T.seq ?_ | refine T.block ?_ | refine T.r ?_ | refine J.e rfl rfl rfl rfl ?_ | refine J.nil ?_ | refine J.skip rfl rfl rfl ?_ | refine T.skip ?_ | refine T.exit ?_ | refine T.ret ?_ | refine T.rd rfl (by kernel_rfl) ?_ | refine J.bx rfl rfl rfl rfl rfl rfl ?_
      exact ⟨_, .v rfl rfl rfl (fun _ => rfl) .nil⟩
    · repeat' first | refine T.seq ?_ | refine T.block ?_ | refine T.r ?_ | refine J.e rfl rfl rfl rfl ?_ | refine J.nil ?_ | refine J.skip rfl rfl rfl ?_ | refine T.skip ?_ | refine T.exit ?_ | refine T.ret ?_ | refine T.rd rfl (by kernel_rfl) ?_ | refine J.bx rfl rfl rfl rfl rfl rfl ?_
      generalize plainR c = bp at *
      cases bp
      · repeat' first | refine T.seq ?_ | refine T.block ?_ | refine T.r ?_ | refine J.e rfl rfl rfl rfl ?_ | refine J.nil ?_ | refine J.skip rfl rfl rfl ?_ | refine T.skip ?_ | refine T.exit ?_ | refine T.ret ?_ | refine T.rd rfl (by kernel_rfl) ?_ | refine J.bx rfl rfl rfl rfl rfl rfl ?_
        exact ⟨_, .v rfl rfl rfl (fun _ => rfl) .nil⟩
      · repeat' first | refine T.seq ?_ | refine T.block ?_ | refine T.r ?_ | refine J.e rfl rfl rfl rfl ?_ | refine J.nil ?_ | refine J.skip rfl rfl rfl ?_ | refine T.skip ?_ | refine T.exit ?_ | refine T.ret ?_ | refine T.rd rfl (by kernel_rfl) ?_ | refine J.bx rfl rfl rfl rfl rfl rfl ?_
        exact ⟨_, .v rfl rfl (by simp <;> omega) (fun _ => rfl) .nil⟩
  refine T.cf2 rfl (by simp [hk1]) ?_
  repeat' first | refine T.seq ?_ | refine T.block ?_ | refine T.r ?_ | refine J.e rfl rfl rfl rfl ?_ | refine J.nil ?_ | refine J.skip rfl rfl rfl ?_ | refine T.skip ?_ | refine T.exit ?_ | refine T.ret ?_ | refine T.rd rfl (by kernel_rfl) ?_ | refine J.bx rfl rfl rfl rfl rfl rfl ?_
  by_cases hk2 : c.kind = 2
  · rw [show rightR d c = (plainR c && manyR c && rowsR c) by simp [rightR, hk2]]
    refine T.ct2 rfl (by simp [hk2]) ?_
    repeat' first | refine T.seq ?_ | refine T.block ?_ | refine T.r ?_ | refine J.e rfl rfl rfl rfl ?_ | refine J.nil ?_ | refine J.skip rfl rfl rfl ?_ | refine T.skip ?_ | refine T.exit ?_ | refine T.ret ?_ | refine T.rd rfl (by kernel_rfl) ?_ | refine J.bx rfl rfl rfl rfl rfl rfl ?_
    generalize plainR c = bp at *
    cases bp
    · repeat' first | refine T.seq ?_ | refine T.block ?_ | refine T.r ?_ | refine J.e rfl rfl rfl rfl ?_ | refine J.nil ?_ | refine J.skip rfl rfl rfl ?_ | refine T.skip ?_ | refine T.exit ?_ | refine T.ret ?_ | refine T.rd rfl (by kernel_rfl) ?_ | refine J.bx rfl rfl rfl rfl rfl rfl ?_
      exact ⟨_, .v rfl rfl rfl (fun _ => rfl) .nil⟩
    · repeat' first | refine T.seq ?_ | refine T.block ?_ | refine T.r ?_ | refine J.e rfl rfl rfl rfl ?_ | refine J.nil ?_ | refine J.skip rfl rfl rfl ?_ | refine T.skip ?_ | refine T.exit ?_ | refine T.ret ?_ | refine T.rd rfl (by kernel_rfl) ?_ | refine J.bx rfl rfl rfl rfl rfl rfl ?_
      generalize manyR c = bm at *
      cases bm
      · repeat' first | refine T.seq ?_ | refine T.block ?_ | refine T.r ?_ | refine J.e rfl rfl rfl rfl ?_ | refine J.nil ?_ | refine J.skip rfl rfl rfl ?_ | refine T.skip ?_ | refine T.exit ?_ | refine T.ret ?_ | refine T.rd rfl (by kernel_rfl) ?_ | refine J.bx rfl rfl rfl rfl rfl rfl ?_
        exact ⟨_, .v rfl rfl rfl (fun _ => rfl) .nil⟩
      · repeat' first | refine T.seq ?_ | refine T.block ?_ | refine T.r ?_ | refine J.e rfl rfl rfl rfl ?_ | refine J.nil ?_ | refine J.skip rfl rfl rfl ?_ | refine T.skip ?_ | refine T.exit ?_ | refine T.ret ?_ | refine T.rd rfl (by kernel_rfl) ?_ | refine J.bx rfl rfl rfl rfl rfl rfl ?_
        refine J.cc rfl rfl rfl rfl rfl hrows rfl rfl ?_
        repeat' first | refine T.seq ?_ | refine T.block ?_ | refine T.r ?_ | refine J.e rfl rfl rfl rfl ?_ | refine J.nil ?_ | refine J.skip rfl rfl rfl ?_ | refine T.skip ?_ | refine T.exit ?_ | refine T.ret ?_ | refine T.rd rfl (by kernel_rfl) ?_ | refine J.bx rfl rfl rfl rfl rfl rfl ?_
        exact ⟨_, .v rfl rfl (by simp <;> omega) (fun _ => rfl) .nil⟩
  refine T.cf2 rfl (by simp [hk2]) ?_
  repeat' first | refine T.seq ?_ | refine T.block ?_ | refine T.r ?_ | refine J.e rfl rfl rfl rfl ?_ | refine J.nil ?_ | refine J.skip rfl rfl rfl ?_ | refine T.skip ?_ | refine T.exit ?_ | refine T.ret ?_ | refine T.rd rfl (by kernel_rfl) ?_ | refine J.bx rfl rfl rfl rfl rfl rfl ?_
  by_cases hk3 : c.kind = 3
  · rw [show rightR d c = (noneR c && plainR c && manyR c && decide (3 ≤ c.vars.length)) by simp [rightR, hk3]]
    refine T.ct2 rfl (by simp [hk3]) ?_
    repeat' first | refine T.seq ?_ | refine T.block ?_ | refine T.r ?_ | refine J.e rfl rfl rfl rfl ?_ | refine J.nil ?_ | refine J.skip rfl rfl rfl ?_ | refine T.skip ?_ | refine T.exit ?_ | refine T.ret ?_ | refine T.rd rfl (by kernel_rfl) ?_ | refine J.bx rfl rfl rfl rfl rfl rfl ?_
    generalize noneR c = bn at *
    cases bn
    · repeat' first | refine T.seq ?_ | refine T.block ?_ | refine T.r ?_ | refine J.e rfl rfl rfl rfl ?_ | refine J.nil ?_ | refine J.skip rfl rfl rfl ?_ | refine T.skip ?_ | refine T.exit ?_ | refine T.ret ?_ | refine T.rd rfl (by kernel_rfl) ?_ | refine J.bx rfl rfl rfl rfl rfl rfl ?_
      exact ⟨_, .v rfl rfl rfl (fun _ => rfl) .nil⟩
    · repeat' first | refine T.seq ?_ | refine T.block ?_ | refine T.r ?_ | refine J.e rfl rfl rfl rfl ?_ | refine J.nil ?_ | refine J.skip rfl rfl rfl ?_ | refine T.skip ?_ | refine T.exit ?_ | refine T.ret ?_ | refine T.rd rfl (by kernel_rfl) ?_ | refine J.bx rfl rfl rfl rfl rfl rfl ?_
      generalize plainR c = bp at *
      cases bp
      · repeat' first | refine T.seq ?_ | refine T.block ?_ | refine T.r ?_ | refine J.e rfl rfl rfl rfl ?_ | refine J.nil ?_ | refine J.skip rfl rfl rfl ?_ | refine T.skip ?_ | refine T.exit ?_ | refine T.ret ?_ | refine T.rd rfl (by kernel_rfl) ?_ | refine J.bx rfl rfl rfl rfl rfl rfl ?_
        exact ⟨_, .v rfl rfl rfl (fun _ => rfl) .nil⟩
      · repeat' first | refine T.seq ?_ | refine T.block ?_ | refine T.r ?_ | refine J.e rfl rfl rfl rfl ?_ | refine J.nil ?_ | refine J.skip rfl rfl rfl ?_ | refine T.skip ?_ | refine T.exit ?_ | refine T.ret ?_ | refine T.rd rfl (by kernel_rfl) ?_ | refine J.bx rfl rfl rfl rfl rfl rfl ?_
        generalize manyR c = bm at *
        cases bm
        · repeat' first | refine T.seq ?_ | refine T.block ?_ | refine T.r ?_ | refine J.e rfl rfl rfl rfl ?_ | refine J.nil ?_ | refine J.skip rfl rfl rfl ?_ | refine T.skip ?_ | refine T.exit ?_ | refine T.ret ?_ | refine T.rd rfl (by kernel_rfl) ?_ | refine J.bx rfl rfl rfl rfl rfl rfl ?_
          exact ⟨_, .v rfl rfl rfl (fun _ => rfl) .nil⟩
        · repeat' first | refine T.seq ?_ | refine T.block ?_ | refine T.r ?_ | refine J.e rfl rfl rfl rfl ?_ | refine J.nil ?_ | refine J.skip rfl rfl rfl ?_ | refine T.skip ?_ | refine T.exit ?_ | refine T.ret ?_ | refine T.rd rfl (by kernel_rfl) ?_ | refine J.bx rfl rfl rfl rfl rfl rfl ?_
          exact ⟨_, .v rfl rfl (by simp <;> omega) (fun _ => rfl) .nil⟩
  refine T.cf2 rfl (by simp [hk3]) ?_
  repeat' first | refine T.seq ?_ | refine T.block ?_ | refine T.r ?_ | refine J.e rfl rfl rfl rfl ?_ | refine J.nil ?_ | refine J.skip rfl rfl rfl ?_ | refine T.skip ?_ | refine T.exit ?_ | refine T.ret ?_ | refine T.rd rfl (by kernel_rfl) ?_ | refine J.bx rfl rfl rfl rfl rfl rfl ?_
  by_cases hk4 : c.kind = 4
  · rw [show rightR d c = (noneR c && sumR c && opR c && truthR (domAt d c.b) && !decide (c.b ∈ c.vars)) by simp [rightR, hk4]]
    refine T.ct2 rfl (by simp [hk4]) ?_
    repeat' first | refine T.seq ?_ | refine T.block ?_ | refine T.r ?_ | refine J.e rfl rfl rfl rfl ?_ | refine J.nil ?_ | refine J.skip rfl rfl rfl ?_ | refine T.skip ?_ | refine T.exit ?_ | refine T.ret ?_ | refine T.rd rfl (by kernel_rfl) ?_ | refine J.bx rfl rfl rfl rfl rfl rfl ?_
    generalize noneR c = bn at *
    cases bn
    · repeat' first | refine T.seq ?_ | refine T.block ?_ | refine T.r ?_ | refine J.e rfl rfl rfl rfl ?_ | refine J.nil ?_ | refine J.skip rfl rfl rfl ?_ | refine T.skip ?_ | refine T.exit ?_ | refine T.ret ?_ | refine T.rd rfl (by kernel_rfl) ?_ | refine J.bx rfl rfl rfl rfl rfl rfl ?_
      exact ⟨_, .v rfl rfl rfl (fun _ => rfl) .nil⟩
    · repeat' first | refine T.seq ?_ | refine T.block ?_ | refine T.r ?_ | refine J.e rfl rfl rfl rfl ?_ | refine J.nil ?_ | refine J.skip rfl rfl rfl ?_ | refine T.skip ?_ | refine T.exit ?_ | refine T.ret ?_ | refine T.rd rfl (by kernel_rfl) ?_ | refine J.bx rfl rfl rfl rfl rfl rfl ?_
      refine J.cc rfl rfl rfl rfl rfl hsum rfl rfl ?_
      generalize sumR c = bs at *
      cases bs
      · repeat' first | refine T.seq ?_ | refine T.block ?_ | refine T.r ?_ | refine J.e rfl rfl rfl rfl ?_ | refine J.nil ?_ | refine J.skip rfl rfl rfl ?_ | refine T.skip ?_ | refine T.exit ?_ | refine T.ret ?_ | refine T.rd rfl (by kernel_rfl) ?_ | refine J.bx rfl rfl rfl rfl rfl rfl ?_
        exact ⟨_, .v rfl rfl rfl (fun _ => rfl) .nil⟩
      · repeat' first | refine T.seq ?_ | refine T.block ?_ | refine T.r ?_ | refine J.e rfl rfl rfl rfl ?_ | refine J.nil ?_ | refine J.skip rfl rfl rfl ?_ | refine T.skip ?_ | refine T.exit ?_ | refine T.ret ?_ | refine T.rd rfl (by kernel_rfl) ?_ | refine J.bx rfl rfl rfl rfl rfl rfl ?_
        generalize opR c = bo at *
        cases bo
        · repeat' first | refine T.seq ?_ | refine T.block ?_ | refine T.r ?_ | refine J.e rfl rfl rfl rfl ?_ | refine J.nil ?_ | refine J.skip rfl rfl rfl ?_ | refine T.skip ?_ | refine T.exit ?_ | refine T.ret ?_ | refine T.rd rfl (by kernel_rfl) ?_ | refine J.bx rfl rfl rfl rfl rfl rfl ?_
          exact ⟨_, .v rfl rfl rfl (fun _ => rfl) .nil⟩
        · repeat' first | refine T.seq ?_ | refine T.block ?_ | refine T.r ?_ | refine J.e rfl rfl rfl rfl ?_ | refine J.nil ?_ | refine J.skip rfl rfl rfl ?_ | refine T.skip ?_ | refine T.exit ?_ | refine T.ret ?_ | refine T.rd rfl (by kernel_rfl) ?_ | refine J.bx rfl rfl rfl rfl rfl rfl ?_
          have hb2 := hb hk4
          refine J.i rfl rfl rfl rfl rfl rfl rfl rfl rfl (r := cD (domAt d c.b)) hb2.1 (by simp [domAt_some hb2.2]) rfl ?_
          repeat' first | refine T.seq ?_ | refine T.block ?_ | refine T.r ?_ | refine J.e rfl rfl rfl rfl ?_ | refine J.nil ?_ | refine J.skip rfl rfl rfl ?_ | refine T.skip ?_ | refine T.exit ?_ | refine T.ret ?_ | refine T.rd rfl (by kernel_rfl) ?_ | refine J.bx rfl rfl rfl rfl rfl rfl ?_
          have htr := truth_spec (domAt d c.b) (hd _ (domAt_mem hb2.2))
          refine J.cc rfl rfl rfl rfl rfl htr rfl rfl ?_
          generalize truthR (domAt d c.b) = bt at *
          cases bt
          · repeat' first | refine T.seq ?_ | refine T.block ?_ | refine T.r ?_ | refine J.e rfl rfl rfl rfl ?_ | refine J.nil ?_ | refine J.skip rfl rfl rfl ?_ | refine T.skip ?_ | refine T.exit ?_ | refine T.ret ?_ | refine T.rd rfl (by kernel_rfl) ?_ | refine J.bx rfl rfl rfl rfl rfl rfl ?_
            exact ⟨_, .v rfl rfl rfl (fun _ => rfl) .nil⟩
          · repeat' first | refine T.seq ?_ | refine T.block ?_ | refine T.r ?_ | refine J.e rfl rfl rfl rfl ?_ | refine J.nil ?_ | refine J.skip rfl rfl rfl ?_ | refine T.skip ?_ | refine T.exit ?_ | refine T.ret ?_ | refine T.rd rfl (by kernel_rfl) ?_ | refine J.bx rfl rfl rfl rfl rfl rfl ?_
            refine J.cc rfl rfl rfl rfl rfl hbm rfl rfl ?_
            repeat' first | refine T.seq ?_ | refine T.block ?_ | refine T.r ?_ | refine J.e rfl rfl rfl rfl ?_ | refine J.nil ?_ | refine J.skip rfl rfl rfl ?_ | refine T.skip ?_ | refine T.exit ?_ | refine T.ret ?_ | refine T.rd rfl (by kernel_rfl) ?_ | refine J.bx rfl rfl rfl rfl rfl rfl ?_
            exact ⟨_, .v rfl rfl (by simp <;> omega) (fun _ => rfl) .nil⟩
  refine T.cf2 rfl (by simp [hk4]) ?_
  repeat' first | refine T.seq ?_ | refine T.block ?_ | refine T.r ?_ | refine J.e rfl rfl rfl rfl ?_ | refine J.nil ?_ | refine J.skip rfl rfl rfl ?_ | refine T.skip ?_ | refine T.exit ?_ | refine T.ret ?_ | refine T.rd rfl (by kernel_rfl) ?_ | refine J.bx rfl rfl rfl rfl rfl rfl ?_
  by_cases hk5 : c.kind = 5
  · rw [show rightR d c = (noneR c && bareR c && sumR c && unitsR d c) by simp [rightR, hk5]]
    refine T.ct2 rfl (by simp [hk5]) ?_
    repeat' first | refine T.seq ?_ | refine T.block ?_ | refine T.r ?_ | refine J.e rfl rfl rfl rfl ?_ | refine J.nil ?_ | refine J.skip rfl rfl rfl ?_ | refine T.skip ?_ | refine T.exit ?_ | refine T.ret ?_ | refine T.rd rfl (by kernel_rfl) ?_ | refine J.bx rfl rfl rfl rfl rfl rfl ?_
    generalize noneR c = bn at *
    cases bn
    · repeat' first | refine T.seq ?_ | refine T.block ?_ | refine T.r ?_ | refine J.e rfl rfl rfl rfl ?_ | refine J.nil ?_ | refine J.skip rfl rfl rfl ?_ | refine T.skip ?_ | refine T.exit ?_ | refine T.ret ?_ | refine T.rd rfl (by kernel_rfl) ?_ | refine J.bx rfl rfl rfl rfl rfl rfl ?_
      exact ⟨_, .v rfl rfl rfl (fun _ => rfl) .nil⟩
    · repeat' first | refine T.seq ?_ | refine T.block ?_ | refine T.r ?_ | refine J.e rfl rfl rfl rfl ?_ | refine J.nil ?_ | refine J.skip rfl rfl rfl ?_ | refine T.skip ?_ | refine T.exit ?_ | refine T.ret ?_ | refine T.rd rfl (by kernel_rfl) ?_ | refine J.bx rfl rfl rfl rfl rfl rfl ?_
      generalize bareR c = bb at *
      cases bb
      · repeat' first | refine T.seq ?_ | refine T.block ?_ | refine T.r ?_ | refine J.e rfl rfl rfl rfl ?_ | refine J.nil ?_ | refine J.skip rfl rfl rfl ?_ | refine T.skip ?_ | refine T.exit ?_ | refine T.ret ?_ | refine T.rd rfl (by kernel_rfl) ?_ | refine J.bx rfl rfl rfl rfl rfl rfl ?_
        exact ⟨_, .v rfl rfl rfl (fun _ => rfl) .nil⟩
      · repeat' first | refine T.seq ?_ | refine T.block ?_ | refine T.r ?_ | refine J.e rfl rfl rfl rfl ?_ | refine J.nil ?_ | refine J.skip rfl rfl rfl ?_ | refine T.skip ?_ | refine T.exit ?_ | refine T.ret ?_ | refine T.rd rfl (by kernel_rfl) ?_ | refine J.bx rfl rfl rfl rfl rfl rfl ?_
        refine J.cc rfl rfl rfl rfl rfl hsum rfl rfl ?_
        generalize sumR c = bs at *
        cases bs
        · repeat' first | refine T.seq ?_ | refine T.block ?_ | refine T.r ?_ | refine J.e rfl rfl rfl rfl ?_ | refine J.nil ?_ | refine J.skip rfl rfl rfl ?_ | refine T.skip ?_ | refine T.exit ?_ | refine T.ret ?_ | refine T.rd rfl (by kernel_rfl) ?_ | refine J.bx rfl rfl rfl rfl rfl rfl ?_
          exact ⟨_, .v rfl rfl rfl (fun _ => rfl) .nil⟩
        · repeat' first | refine T.seq ?_ | refine T.block ?_ | refine T.r ?_ | refine J.e rfl rfl rfl rfl ?_ | refine J.nil ?_ | refine J.skip rfl rfl rfl ?_ | refine T.skip ?_ | refine T.exit ?_ | refine T.ret ?_ | refine T.rd rfl (by kernel_rfl) ?_ | refine J.bx rfl rfl rfl rfl rfl rfl ?_
          refine J.cc rfl rfl rfl rfl rfl (hunits rfl) rfl rfl ?_
          repeat' first | refine T.seq ?_ | refine T.block ?_ | refine T.r ?_ | refine J.e rfl rfl rfl rfl ?_ | refine J.nil ?_ | refine J.skip rfl rfl rfl ?_ | refine T.skip ?_ | refine T.exit ?_ | refine T.ret ?_ | refine T.rd rfl (by kernel_rfl) ?_ | refine J.bx rfl rfl rfl rfl rfl rfl ?_
          exact ⟨_, .v rfl rfl (by simp <;> omega) (fun _ => rfl) .nil⟩
  refine T.cf2 rfl (by simp [hk5]) ?_
  repeat' first | refine T.seq ?_ | refine T.block ?_ | refine T.r ?_ | refine J.e rfl rfl rfl rfl ?_ | refine J.nil ?_ | refine J.skip rfl rfl rfl ?_ | refine T.skip ?_ | refine T.exit ?_ | refine T.ret ?_ | refine T.rd rfl (by kernel_rfl) ?_ | refine J.bx rfl rfl rfl rfl rfl rfl ?_
  rw [show rightR d c = (noneR c && plainR c && decide (2 ≤ c.vars.length) && decide (c.vars.length % 2 = 0)) by simp [rightR, hk0, hk1, hk2, hk3, hk4, hk5]]
  generalize noneR c = bn at *
  cases bn
  · repeat' first | refine T.seq ?_ | refine T.block ?_ | refine T.r ?_ | refine J.e rfl rfl rfl rfl ?_ | refine J.nil ?_ | refine J.skip rfl rfl rfl ?_ | refine T.skip ?_ | refine T.exit ?_ | refine T.ret ?_ | refine T.rd rfl (by kernel_rfl) ?_ | refine J.bx rfl rfl rfl rfl rfl rfl ?_
    exact ⟨_, .v rfl rfl rfl (fun _ => rfl) .nil⟩
  · repeat' first | refine T.seq ?_ | refine T.block ?_ | refine T.r ?_ | refine J.e rfl rfl rfl rfl ?_ | refine J.nil ?_ | refine J.skip rfl rfl rfl ?_ | refine T.skip ?_ | refine T.exit ?_ | refine T.ret ?_ | refine T.rd rfl (by kernel_rfl) ?_ | refine J.bx rfl rfl rfl rfl rfl rfl ?_
    generalize plainR c = bp at *
    cases bp
    · repeat' first | refine T.seq ?_ | refine T.block ?_ | refine T.r ?_ | refine J.e rfl rfl rfl rfl ?_ | refine J.nil ?_ | refine J.skip rfl rfl rfl ?_ | refine T.skip ?_ | refine T.exit ?_ | refine T.ret ?_ | refine T.rd rfl (by kernel_rfl) ?_ | refine J.bx rfl rfl rfl rfl rfl rfl ?_
      exact ⟨_, .v rfl rfl rfl (fun _ => rfl) .nil⟩
    · repeat' first | refine T.seq ?_ | refine T.block ?_ | refine T.r ?_ | refine J.e rfl rfl rfl rfl ?_ | refine J.nil ?_ | refine J.skip rfl rfl rfl ?_ | refine T.skip ?_ | refine T.exit ?_ | refine T.ret ?_ | refine T.rd rfl (by kernel_rfl) ?_ | refine J.bx rfl rfl rfl rfl rfl rfl ?_
      refine J.g rfl rfl rfl (fun h1 => ?_) (fun h1 => ?_)
      · have h1 : 2 ≤ c.vars.length := by simp only [List.length_map] at h1; omega
        repeat' first | refine T.seq ?_ | refine T.block ?_ | refine T.r ?_ | refine J.e rfl rfl rfl rfl ?_ | refine J.nil ?_ | refine J.skip rfl rfl rfl ?_ | refine T.skip ?_ | refine T.exit ?_ | refine T.ret ?_ | refine T.rd rfl (by kernel_rfl) ?_ | refine J.bx rfl rfl rfl rfl rfl rfl ?_
        refine ⟨_, .v rfl rfl ?_ (fun _ => rfl) .nil⟩
        simp only [List.length_map, Bool.true_and, h1, decide_true, PV.bool.injEq, decide_eq_decide]
        rw [Int.tmod_eq_emod_of_nonneg (by omega)]
        omega
      · have h1 : ¬ 2 ≤ c.vars.length := by simp only [List.length_map] at h1; omega
        repeat' first | refine T.seq ?_ | refine T.block ?_ | refine T.r ?_ | refine J.e rfl rfl rfl rfl ?_ | refine J.nil ?_ | refine J.skip rfl rfl rfl ?_ | refine T.skip ?_ | refine T.exit ?_ | refine T.ret ?_ | refine T.rd rfl (by kernel_rfl) ?_ | refine J.bx rfl rfl rfl rfl rfl rfl ?_
        exact ⟨_, .v rfl rfl (by simp [h1]) (fun _ => rfl) .nil⟩
end Go.Proofs.Ytdflkbmpbblcfaa
/-! Contracts: whether a constraint may be; what a statement is laid from. -/
namespace Go.Proofs.Ytdflkbmpbblcfaa
open Go Go.RowKit
set_option linter.unusedVariables false
set_option maxRecDepth 4000

def inD (d : Doms) (v : Int) : Bool := !(decide (v < 0) || decide ((d.length : Int) ≤ v))
def conR (d : Doms) (c : Con) : Int :=
  if c.kind < 0 ∨ 6 < c.kind then 44 else
  if (usesR c).all (inD d) = false then 43 else
  if rightR d c = false then 44 else
  if bigR c.coefs c.rhs = true then 45 else 0
theorem inD_iff {d : Doms} {v : Int} : inD d v = true ↔ 0 ≤ v ∧ v.toNat < d.length := by
  simp [inD]; omega
theorem uses_in {d : Doms} {c : Con} (hc : ConB c) (h : (usesR c).all (inD d) = true) : VarsIn d c ∧ (c.kind = 4 → 0 ≤ c.b ∧ c.b.toNat < d.length) := by
  have h1 : ∀ v, v ∈ (if c.kind = 4 then c.vars ++ [c.b] else c.vars) → 0 ≤ v ∧ v.toNat < d.length := fun v hv => inD_iff.1 (List.all_eq_true.1 h v ((sortU_mem v _).2 hv))
  refine ⟨⟨by have := hc.1; omega, fun v hv => h1 v ?_⟩, fun hk => h1 c.b ?_⟩
  · split
    · exact List.mem_append_left _ hv
    · exact hv
  · rw [if_pos hk]; simp

theorem con_spec (d : Doms) (c : Con) (hc : ConB c) (hl : d.length * 8 ≤ 140737488355328) (hd : ∀ x ∈ d, x.length * 8 ≤ 140737488355328) : Spec Try.prog 23 false [doms d, .agg (cC c)] [.val (.int .i64 (conR d c))] := by
  refine Spec.body Try.func23 rfl rfl rfl fun w0 Z0 => ?_
  have hu := (uses_spec c hc).frz
  have hul : (usesR c).length * 8 ≤ 140737488355328 := by
    have h1 := sortU_length (if c.kind = 4 then c.vars ++ [c.b] else c.vars)
    have h2 : (if c.kind = 4 then c.vars ++ [c.b] else c.vars).length ≤ c.vars.length + 1 := by split <;> simp
    have := hc.1
    unfold usesR; omega
  have hin := uses_in (d := d) hc
  have hcon : conR d c = if c.kind < 0 ∨ 6 < c.kind then 44 else if (usesR c).all (inD d) = false then 43 else if rightR d c = false then 44 else if bigR c.coefs c.rhs = true then 45 else 0 := rfl
  generalize usesR c = u at *
  repeat' first | refine T.seq ?_ | refine T.block ?_ | refine T.r ?_ | refine J.e rfl rfl rfl rfl ?_ | refine J.nil ?_ | refine J.skip rfl rfl rfl ?_ | refine T.skip ?_ | refine T.exit ?_ | refine T.ret ?_ | refine T.rd rfl (by kernel_rfl) ?_ | refine J.bx rfl rfl rfl rfl rfl rfl ?_
  refine J.g rfl rfl rfl (fun h1 => ?_) (fun h1 => ?_)
  · rw [hcon, if_pos (.inl h1)]
    repeat' first | refine T.seq ?_ | refine T.block ?_ | refine T.r ?_ | refine J.e rfl rfl rfl rfl ?_ | refine J.nil ?_ | refine J.skip rfl rfl rfl ?_ | refine T.skip ?_ | refine T.exit ?_ | refine T.ret ?_ | refine T.rd rfl (by kernel_rfl) ?_ | refine J.bx rfl rfl rfl rfl rfl rfl ?_
    refine T.ct rfl ?_
    repeat' first | refine T.seq ?_ | refine T.block ?_ | refine T.r ?_ | refine J.e rfl rfl rfl rfl ?_ | refine J.nil ?_ | refine J.skip rfl rfl rfl ?_ | refine T.skip ?_ | refine T.exit ?_ | refine T.ret ?_ | refine T.rd rfl (by kernel_rfl) ?_ | refine J.bx rfl rfl rfl rfl rfl rfl ?_
    exact ⟨_, .v rfl rfl rfl (fun _ => rfl) .nil⟩
  · repeat' first | refine T.seq ?_ | refine T.block ?_ | refine T.r ?_ | refine J.e rfl rfl rfl rfl ?_ | refine J.nil ?_ | refine J.skip rfl rfl rfl ?_ | refine T.skip ?_ | refine T.exit ?_ | refine T.ret ?_ | refine T.rd rfl (by kernel_rfl) ?_ | refine J.bx rfl rfl rfl rfl rfl rfl ?_
    refine T.cd rfl (fun h2 => ?_) (fun h2 => ?_)
    · rw [hcon, if_pos (.inr h2)]
      repeat' first | refine T.seq ?_ | refine T.block ?_ | refine T.r ?_ | refine J.e rfl rfl rfl rfl ?_ | refine J.nil ?_ | refine J.skip rfl rfl rfl ?_ | refine T.skip ?_ | refine T.exit ?_ | refine T.ret ?_ | refine T.rd rfl (by kernel_rfl) ?_ | refine J.bx rfl rfl rfl rfl rfl rfl ?_
      exact ⟨_, .v rfl rfl rfl (fun _ => rfl) .nil⟩
    · rw [if_neg (fun h => h.elim h1 h2)] at hcon
      repeat' first | refine T.seq ?_ | refine T.block ?_ | refine T.r ?_ | refine J.e rfl rfl rfl rfl ?_ | refine J.nil ?_ | refine J.skip rfl rfl rfl ?_ | refine T.skip ?_ | refine T.exit ?_ | refine T.ret ?_ | refine T.rd rfl (by kernel_rfl) ?_ | refine J.bx rfl rfl rfl rfl rfl rfl ?_
      refine J.cc rfl rfl rfl rfl rfl hu rfl rfl ?_
      repeat' first | refine T.seq ?_ | refine T.block ?_ | refine T.r ?_ | refine J.e rfl rfl rfl rfl ?_ | refine J.nil ?_ | refine J.skip rfl rfl rfl ?_ | refine T.skip ?_ | refine T.exit ?_ | refine T.ret ?_ | refine T.rd rfl (by kernel_rfl) ?_ | refine J.bx rfl rfl rfl rfl rfl rfl ?_
      refine T.canon (keep := [0, 3, 5, 6]) (os := [3]) rfl (T.listI u (fun pre => pre.all (inD d) = true) (fun n pre post => ⟨[(0, .val false (doms d)), (3, .optr 0 0 0 0), (5, .val true (ints u)), (6, .val true (.int .i64 n))], [(0, some (.box false (cC c)))], 1⟩) (fun _ _ h => h) rfl ?_ ?_)
      · rintro n pre x post h hn hi ih
        have hlt := at_lt h hn
        have hra := row_at (enc := cI) h hn
        have bad : (decide (x < 0) || decide ((d.length : Int) ≤ x)) = true → conR d c = 43 := fun e => by
          rw [hcon, if_pos]
          rw [h, List.all_append, List.all_cons, inD, e]
          simp
        repeat' first | refine T.seq ?_ | refine T.block ?_ | refine T.r ?_ | refine J.e rfl rfl rfl rfl ?_ | refine J.nil ?_ | refine J.skip rfl rfl rfl ?_ | refine T.skip ?_ | refine T.exit ?_ | refine T.ret ?_ | refine T.rd rfl (by kernel_rfl) ?_ | refine J.bx rfl rfl rfl rfl rfl rfl ?_
        refine T.ct2 rfl (lt_at h hn) ?_
        repeat' first | refine T.seq ?_ | refine T.block ?_ | refine T.r ?_ | refine J.e rfl rfl rfl rfl ?_ | refine J.nil ?_ | refine J.skip rfl rfl rfl ?_ | refine T.skip ?_ | refine T.exit ?_ | refine T.ret ?_ | refine T.rd rfl (by kernel_rfl) ?_ | refine J.bx rfl rfl rfl rfl rfl rfl ?_
        refine J.i rfl rfl rfl rfl rfl rfl rfl rfl rfl (r := cI x) (by omega) hra rfl ?_
        repeat' first | refine T.seq ?_ | refine T.block ?_ | refine T.r ?_ | refine J.e rfl rfl rfl rfl ?_ | refine J.nil ?_ | refine J.skip rfl rfl rfl ?_ | refine T.skip ?_ | refine T.exit ?_ | refine T.ret ?_ | refine T.rd rfl (by kernel_rfl) ?_ | refine J.bx rfl rfl rfl rfl rfl rfl ?_
        refine J.g rfl rfl rfl (fun h3 => ?_) (fun h3 => ?_)
        · rw [bad (by simp [show x < 0 from h3])]
          repeat' first | refine T.seq ?_ | refine T.block ?_ | refine T.r ?_ | refine J.e rfl rfl rfl rfl ?_ | refine J.nil ?_ | refine J.skip rfl rfl rfl ?_ | refine T.skip ?_ | refine T.exit ?_ | refine T.ret ?_ | refine T.rd rfl (by kernel_rfl) ?_ | refine J.bx rfl rfl rfl rfl rfl rfl ?_
          refine T.ct rfl ?_
          repeat' first | refine T.seq ?_ | refine T.block ?_ | refine T.r ?_ | refine J.e rfl rfl rfl rfl ?_ | refine J.nil ?_ | refine J.skip rfl rfl rfl ?_ | refine T.skip ?_ | refine T.exit ?_ | refine T.ret ?_ | refine T.rd rfl (by kernel_rfl) ?_ | refine J.bx rfl rfl rfl rfl rfl rfl ?_
          exact ⟨_, .v rfl rfl rfl (fun _ => rfl) .nil⟩
        · repeat' first | refine T.seq ?_ | refine T.block ?_ | refine T.r ?_ | refine J.e rfl rfl rfl rfl ?_ | refine J.nil ?_ | refine J.skip rfl rfl rfl ?_ | refine T.skip ?_ | refine T.exit ?_ | refine T.ret ?_ | refine T.rd rfl (by kernel_rfl) ?_ | refine J.bx rfl rfl rfl rfl rfl rfl ?_
          refine J.i rfl rfl rfl rfl rfl rfl rfl rfl rfl (r := cI x) (by omega) hra rfl ?_
          repeat' first | refine T.seq ?_ | refine T.block ?_ | refine T.r ?_ | refine J.e rfl rfl rfl rfl ?_ | refine J.nil ?_ | refine J.skip rfl rfl rfl ?_ | refine T.skip ?_ | refine T.exit ?_ | refine T.ret ?_ | refine T.rd rfl (by kernel_rfl) ?_ | refine J.bx rfl rfl rfl rfl rfl rfl ?_
          refine T.cd rfl (fun h4 => ?_) (fun h4 => ?_)
          · have h4 : (d.length : Int) ≤ x := by simp only [List.length_map] at h4; omega
            rw [bad (by simp [h4])]
            repeat' first | refine T.seq ?_ | refine T.block ?_ | refine T.r ?_ | refine J.e rfl rfl rfl rfl ?_ | refine J.nil ?_ | refine J.skip rfl rfl rfl ?_ | refine T.skip ?_ | refine T.exit ?_ | refine T.ret ?_ | refine T.rd rfl (by kernel_rfl) ?_ | refine J.bx rfl rfl rfl rfl rfl rfl ?_
            exact ⟨_, .v rfl rfl rfl (fun _ => rfl) .nil⟩
          · have h4 : ¬ (d.length : Int) ≤ x := by simp only [List.length_map] at h4; omega
            repeat' first | refine T.seq ?_ | refine T.block ?_ | refine T.r ?_ | refine J.e rfl rfl rfl rfl ?_ | refine J.nil ?_ | refine J.skip rfl rfl rfl ?_ | refine T.skip ?_ | refine T.exit ?_ | refine T.ret ?_ | refine T.rd rfl (by kernel_rfl) ?_ | refine J.bx rfl rfl rfl rfl rfl rfl ?_
            rw [wrap1 hlt (by omega)]
            refine T.canon (keep := [0, 3, 5, 6]) (os := [3]) rfl (ih ?_)
            rw [List.all_append, hi]
            simp [inD, show ¬ x < 0 from h3, h4]
      · intro hi
        obtain ⟨hv, hb⟩ := hin hi
        rw [if_neg (by simp [hi])] at hcon
        repeat' first | refine T.seq ?_ | refine T.block ?_ | refine T.r ?_ | refine J.e rfl rfl rfl rfl ?_ | refine J.nil ?_ | refine J.skip rfl rfl rfl ?_ | refine T.skip ?_ | refine T.exit ?_ | refine T.ret ?_ | refine T.rd rfl (by kernel_rfl) ?_ | refine J.bx rfl rfl rfl rfl rfl rfl ?_
        refine T.cf2 rfl lt_end ?_
        repeat' first | refine T.seq ?_ | refine T.block ?_ | refine T.r ?_ | refine J.e rfl rfl rfl rfl ?_ | refine J.nil ?_ | refine J.skip rfl rfl rfl ?_ | refine T.skip ?_ | refine T.exit ?_ | refine T.ret ?_ | refine T.rd rfl (by kernel_rfl) ?_ | refine J.bx rfl rfl rfl rfl rfl rfl ?_
        refine J.cc rfl rfl rfl rfl rfl (right_spec d c hc hv hb hd) rfl rfl ?_
        repeat' first | refine T.seq ?_ | refine T.block ?_ | refine T.r ?_ | refine J.e rfl rfl rfl rfl ?_ | refine J.nil ?_ | refine J.skip rfl rfl rfl ?_ | refine T.skip ?_ | refine T.exit ?_ | refine T.ret ?_ | refine T.rd rfl (by kernel_rfl) ?_ | refine J.bx rfl rfl rfl rfl rfl rfl ?_
        refine T.cond rfl (fun h3 => ?_) (fun h3 => ?_)
        · rw [hcon, if_pos (by simpa using h3)]
          repeat' first | refine T.seq ?_ | refine T.block ?_ | refine T.r ?_ | refine J.e rfl rfl rfl rfl ?_ | refine J.nil ?_ | refine J.skip rfl rfl rfl ?_ | refine T.skip ?_ | refine T.exit ?_ | refine T.ret ?_ | refine T.rd rfl (by kernel_rfl) ?_ | refine J.bx rfl rfl rfl rfl rfl rfl ?_
          exact ⟨_, .v rfl rfl rfl (fun _ => rfl) .nil⟩
        · rw [if_neg (by simpa using h3)] at hcon
          repeat' first | refine T.seq ?_ | refine T.block ?_ | refine T.r ?_ | refine J.e rfl rfl rfl rfl ?_ | refine J.nil ?_ | refine J.skip rfl rfl rfl ?_ | refine T.skip ?_ | refine T.exit ?_ | refine T.ret ?_ | refine T.rd rfl (by kernel_rfl) ?_ | refine J.bx rfl rfl rfl rfl rfl rfl ?_
          refine J.cc rfl rfl rfl rfl rfl (big_spec c.coefs c.rhs hc.2.1) rfl rfl ?_
          repeat' first | refine T.seq ?_ | refine T.block ?_ | refine T.r ?_ | refine J.e rfl rfl rfl rfl ?_ | refine J.nil ?_ | refine J.skip rfl rfl rfl ?_ | refine T.skip ?_ | refine T.exit ?_ | refine T.ret ?_ | refine T.rd rfl (by kernel_rfl) ?_ | refine J.bx rfl rfl rfl rfl rfl rfl ?_
          refine T.cond rfl (fun h4 => ?_) (fun h4 => ?_)
          · rw [hcon, if_pos h4]
            repeat' first | refine T.seq ?_ | refine T.block ?_ | refine T.r ?_ | refine J.e rfl rfl rfl rfl ?_ | refine J.nil ?_ | refine J.skip rfl rfl rfl ?_ | refine T.skip ?_ | refine T.exit ?_ | refine T.ret ?_ | refine T.rd rfl (by kernel_rfl) ?_ | refine J.bx rfl rfl rfl rfl rfl rfl ?_
            exact ⟨_, .v rfl rfl rfl (fun _ => rfl) .nil⟩
          · rw [hcon, if_neg (by simp [h4])]
            repeat' first | refine T.seq ?_ | refine T.block ?_ | refine T.r ?_ | refine J.e rfl rfl rfl rfl ?_ | refine J.nil ?_ | refine J.skip rfl rfl rfl ?_ | refine T.skip ?_ | refine T.exit ?_ | refine T.ret ?_ | refine T.rd rfl (by kernel_rfl) ?_ | refine J.bx rfl rfl rfl rfl rfl rfl ?_
            exact ⟨_, .v rfl rfl rfl (fun _ => rfl) .nil⟩

structure Case where
  d : List (List Int)
  c : Con
  a : List Int
  take : List Int
def cCase (o : Case) : List PV := lists o.d :: cC o.c ++ [ints o.a, ints o.take]
def laidD (o : Case) : Doms := (o.d.take 4).map fun x => smallR (x.take 6)
def laidC (o : Case) (kind : Int) : Con := { o.c with kind := kind, rows := o.c.rows.take 20 }
def laidOK (o : Case) (kind : Int) : Bool := decide (conR (laidD o) (laidC o kind) = 0)
/-- A case that may be in memory. -/
def CaseB (o : Case) : Prop := ConB o.c ∧ o.d.length * 24 ≤ 140737488355328 ∧ (∀ x ∈ o.d, x.length * 8 ≤ 140737488355328)

theorem smallR_length (l : List Int) : (smallR l).length ≤ 30 := by
  have h0 : ((l.take 30).map fun v => v.tmod 201).length ≤ 30 := by simp; omega
  have h1 := sortU_length ((l.take 30).map fun v => v.tmod 201)
  have h2 := pack_length (sortU ((l.take 30).map fun v => v.tmod 201))
  unfold smallR ofR
  split
  · split
    · simp
    · simp only; omega
  · simp

end Go.Proofs.Ytdflkbmpbblcfaa
/-! Contracts: the calls whose answers the document fixes. -/
namespace Go.Proofs.Ytdflkbmpbblcfaa
open Go Go.RowKit
set_option linter.unusedVariables false
set_option maxRecDepth 8000

def cLex (vars : List Int) : Con := ⟨6, vars, [], 0, 0, [], 0⟩
def fxD : Doms := [[(1, 1)], [(2, 3)], [(1, 1)], [(0, 2)]]
theorem fx1 : iter (stepO (cLex [0, 1, 2, 3])) 5 fxD = some (some [[(1, 1)], [(2, 2)], [(1, 1)], [(2, 2)]]) := by decide
theorem fx2 : iter (stepO (cLex [0, 1])) 5 [[(0, 3)], [(1, 2)]] = some (some [[(0, 2)], [(1, 2)]]) := by decide
theorem fx3 : iter (stepO (cLex [0, 1])) 5 [[(3, 4)], [(1, 2)]] = some none := by decide
theorem fx4 : placeO fxD (cLex [0, 1, 2, 3]) = 1 := by decide
theorem fx5 : placeO fxD (cLex [0, 1, 2, 1]) = 2 := by decide

end Go.Proofs.Ytdflkbmpbblcfaa
