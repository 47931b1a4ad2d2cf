/- Contracts: a constraint of one's own; what its parts may be. -/
import Derived.Test.YtchajofdjeijfaaFnJ
namespace Go.Proofs.Ytchajofdjeijfaa
open Go Go.RowKit
set_option linter.unusedVariables false
set_option maxRecDepth 4000

def smallR (l : List Int) : List (Int × Int) := (ofR ((l.take 30).map fun v => v.tmod 201)).1
theorem small_spec (l : List Int) (hl : l.length * 8 ≤ 140737488355328) : Spec Try.prog 42 false [ints l] [.own 40 2 ((smallR l).map cR)] := by
  refine Spec.body Try.func42 rfl rfl rfl fun w0 Z0 => ?_
  repeat' first | refine T.seq ?_ | refine T.block ?_ | refine T.r ?_ | refine J.e rfl rfl rfl rfl ?_ | refine J.nil ?_ | refine J.skip rfl rfl rfl ?_ | refine T.skip ?_ | refine T.exit ?_ | refine T.ret ?_ | refine T.rd rfl (by kernel_rfl) ?_ | refine J.bx rfl rfl rfl rfl rfl rfl ?_
  refine J.bo rfl rfl rfl rfl rfl rfl rfl rfl rfl rfl rfl rfl ?_
  repeat' first | refine T.seq ?_ | refine T.block ?_ | refine T.r ?_ | refine J.e rfl rfl rfl rfl ?_ | refine J.nil ?_ | refine J.skip rfl rfl rfl ?_ | refine T.skip ?_ | refine T.exit ?_ | refine T.ret ?_ | refine T.rd rfl (by kernel_rfl) ?_ | refine J.bx rfl rfl rfl rfl rfl rfl ?_
  refine T.canon (keep := [0, 3, 4]) (os := [3]) rfl (T.ind (fun (n : Nat) => ⟨[(0, .val false (ints l)), (3, .ref 0), (4, .val true (.int .i64 n))], [(0, some (.sl 3 1 true (((l.take n).map fun v => v.tmod 201).map cI)))], 1⟩) (fun n => n ≤ l.length ∧ n ≤ 30) (fun n => 30 - n) 0 (by simp) (fun _ _ h => h) ?_)
  rintro n ⟨hn, hn2⟩ ih
  have fin : ¬ (n < l.length ∧ n < 30) → l.take n = l.take 30 := by
    intro h
    by_cases h1 : n = 30
    · rw [h1]
    · have : n = l.length := by omega
      subst this
      rw [List.take_of_length_le (Nat.le_refl _), List.take_of_length_le (by omega)]
  have ho := of_spec ((l.take n).map fun v => v.tmod 201) (by simp; omega)
  repeat' first | refine T.seq ?_ | refine T.block ?_ | refine T.r ?_ | refine J.e rfl rfl rfl rfl ?_ | refine J.nil ?_ | refine J.skip rfl rfl rfl ?_ | refine T.skip ?_ | refine T.exit ?_ | refine T.ret ?_ | refine T.rd rfl (by kernel_rfl) ?_ | refine J.bx rfl rfl rfl rfl rfl rfl ?_
  refine J.g rfl rfl rfl (fun h1 => ?_) (fun h1 => ?_)
  · have h1 : n < l.length := by simpa using h1
    repeat' first | refine T.seq ?_ | refine T.block ?_ | refine T.r ?_ | refine J.e rfl rfl rfl rfl ?_ | refine J.nil ?_ | refine J.skip rfl rfl rfl ?_ | refine T.skip ?_ | refine T.exit ?_ | refine T.ret ?_ | refine T.rd rfl (by kernel_rfl) ?_ | refine J.bx rfl rfl rfl rfl rfl rfl ?_
    refine T.cd rfl (fun h2 => ?_) (fun h2 => ?_)
    · have h2 : n < 30 := by omega
      repeat' first | refine T.seq ?_ | refine T.block ?_ | refine T.r ?_ | refine J.e rfl rfl rfl rfl ?_ | refine J.nil ?_ | refine J.skip rfl rfl rfl ?_ | refine T.skip ?_ | refine T.exit ?_ | refine T.ret ?_ | refine T.rd rfl (by kernel_rfl) ?_ | refine J.bx rfl rfl rfl rfl rfl rfl ?_
      refine J.i rfl rfl rfl rfl rfl rfl rfl rfl rfl (r := cI l[n]) (by omega) (row_i h1) rfl ?_
      repeat' first | refine T.seq ?_ | refine T.block ?_ | refine T.r ?_ | refine J.e rfl rfl rfl rfl ?_ | refine J.nil ?_ | refine J.skip rfl rfl rfl ?_ | refine T.skip ?_ | refine T.exit ?_ | refine T.ret ?_ | refine T.rd rfl (by kernel_rfl) ?_ | refine J.bx rfl rfl rfl rfl rfl rfl ?_
      refine J.bv rfl rfl rfl rfl rfl rfl rfl rfl rfl rfl rfl rfl ?_
      repeat' first | refine T.seq ?_ | refine T.block ?_ | refine T.r ?_ | refine J.e rfl rfl rfl rfl ?_ | refine J.nil ?_ | refine J.skip rfl rfl rfl ?_ | refine T.skip ?_ | refine T.exit ?_ | refine T.ret ?_ | refine T.rd rfl (by kernel_rfl) ?_ | refine J.bx rfl rfl rfl rfl rfl rfl ?_
      refine J.aI rfl rfl rfl rfl rfl rfl rfl rfl rfl rfl rfl rfl rfl rfl rfl rfl rfl rfl rfl (by simp; omega) ?_
      repeat' first | refine T.seq ?_ | refine T.block ?_ | refine T.r ?_ | refine J.e rfl rfl rfl rfl ?_ | refine J.nil ?_ | refine J.skip rfl rfl rfl ?_ | refine T.skip ?_ | refine T.exit ?_ | refine T.ret ?_ | refine T.rd rfl (by kernel_rfl) ?_ | refine J.bx rfl rfl rfl rfl rfl rfl ?_
      rw [wrap1 h1 (by omega)]
      refine T.canon (keep := [0, 3, 4]) (os := [3]) rfl ?_
      have := ih (n + 1) ⟨by omega, by omega⟩ (by omega)
      rw [List.take_succ_eq_append_getElem h1, List.map_append] at this
      exact this
    · have h2 : ¬ n < 30 := by omega
      rw [fin (by omega)] at ho ⊢
      repeat' first | refine T.seq ?_ | refine T.block ?_ | refine T.r ?_ | refine J.e rfl rfl rfl rfl ?_ | refine J.nil ?_ | refine J.skip rfl rfl rfl ?_ | refine T.skip ?_ | refine T.exit ?_ | refine T.ret ?_ | refine T.rd rfl (by kernel_rfl) ?_ | refine J.bx rfl rfl rfl rfl rfl rfl ?_
      refine J.cc rfl rfl rfl rfl rfl ho rfl rfl ?_
      repeat' first | refine T.seq ?_ | refine T.block ?_ | refine T.r ?_ | refine J.e rfl rfl rfl rfl ?_ | refine J.nil ?_ | refine J.skip rfl rfl rfl ?_ | refine T.skip ?_ | refine T.exit ?_ | refine T.ret ?_ | refine T.rd rfl (by kernel_rfl) ?_ | refine J.bx rfl rfl rfl rfl rfl rfl ?_
      exact ⟨_, .o rfl rfl rfl (fun _ => .inl rfl) (by simp) .nil⟩
  · have h1 : ¬ n < l.length := by simpa using h1
    rw [fin (by omega)] at ho ⊢
    repeat' first | refine T.seq ?_ | refine T.block ?_ | refine T.r ?_ | refine J.e rfl rfl rfl rfl ?_ | refine J.nil ?_ | refine J.skip rfl rfl rfl ?_ | refine T.skip ?_ | refine T.exit ?_ | refine T.ret ?_ | refine T.rd rfl (by kernel_rfl) ?_ | refine J.bx rfl rfl rfl rfl rfl rfl ?_
    refine T.cf rfl ?_
    repeat' first | refine T.seq ?_ | refine T.block ?_ | refine T.r ?_ | refine J.e rfl rfl rfl rfl ?_ | refine J.nil ?_ | refine J.skip rfl rfl rfl ?_ | refine T.skip ?_ | refine T.exit ?_ | refine T.ret ?_ | refine T.rd rfl (by kernel_rfl) ?_ | refine J.bx rfl rfl rfl rfl rfl rfl ?_
    refine J.cc rfl rfl rfl rfl rfl ho rfl rfl ?_
    repeat' first | refine T.seq ?_ | refine T.block ?_ | refine T.r ?_ | refine J.e rfl rfl rfl rfl ?_ | refine J.nil ?_ | refine J.skip rfl rfl rfl ?_ | refine T.skip ?_ | refine T.exit ?_ | refine T.ret ?_ | refine T.rd rfl (by kernel_rfl) ?_ | refine J.bx rfl rfl rfl rfl rfl rfl ?_
    exact ⟨_, .o rfl rfl rfl (fun _ => .inl rfl) (by simp) .nil⟩

theorem numss_spec (d : List (List Int)) (hl : d.length * 24 ≤ 140737488355328) (hx : ∀ x ∈ d, x.length * 8 ≤ 140737488355328) : Spec Try.prog 73 false [lists d] [.own 23 1 (d.map cL)] := by
  refine Spec.body Try.func73 rfl rfl rfl fun w0 Z0 => ?_
  repeat' first | refine T.seq ?_ | refine T.block ?_ | refine T.r ?_ | refine J.e rfl rfl rfl rfl ?_ | refine J.nil ?_ | refine J.skip rfl rfl rfl ?_ | refine T.skip ?_ | refine T.exit ?_ | refine T.ret ?_ | refine T.rd rfl (by kernel_rfl) ?_ | refine J.bx rfl rfl rfl rfl rfl rfl ?_
  refine J.bo rfl rfl rfl rfl rfl rfl rfl rfl rfl rfl rfl rfl ?_
  repeat' first | refine T.seq ?_ | refine T.block ?_ | refine T.r ?_ | refine J.e rfl rfl rfl rfl ?_ | refine J.nil ?_ | refine J.skip rfl rfl rfl ?_ | refine T.skip ?_ | refine T.exit ?_ | refine T.ret ?_ | refine T.rd rfl (by kernel_rfl) ?_ | refine J.bx rfl rfl rfl rfl rfl rfl ?_
  refine T.canon (keep := [0, 3, 4]) (os := [3]) rfl (T.list d (fun n pre post => ⟨[(0, .val false (lists d)), (3, .ref 0), (4, .val true (.int .i64 n))], [(0, some (.sl 23 1 true (pre.map cL)))], 1⟩) (fun _ _ h => h) ?_ ?_)
  · rintro n pre x post h hn ih
    have hlt := at_lt h hn
    have hxl := hx x (by rw [h]; simp)
    repeat' first | refine T.seq ?_ | refine T.block ?_ | refine T.r ?_ | refine J.e rfl rfl rfl rfl ?_ | refine J.nil ?_ | refine J.skip rfl rfl rfl ?_ | refine T.skip ?_ | refine T.exit ?_ | refine T.ret ?_ | refine T.rd rfl (by kernel_rfl) ?_ | refine J.bx rfl rfl rfl rfl rfl rfl ?_
    refine T.ct2 rfl (lt_at h hn) ?_
    repeat' first | refine T.seq ?_ | refine T.block ?_ | refine T.r ?_ | refine J.e rfl rfl rfl rfl ?_ | refine J.nil ?_ | refine J.skip rfl rfl rfl ?_ | refine T.skip ?_ | refine T.exit ?_ | refine T.ret ?_ | refine T.rd rfl (by kernel_rfl) ?_ | refine J.bx rfl rfl rfl rfl rfl rfl ?_
    refine J.bo rfl rfl rfl rfl rfl rfl rfl rfl rfl rfl rfl rfl ?_
    repeat' first | refine T.seq ?_ | refine T.block ?_ | refine T.r ?_ | refine J.e rfl rfl rfl rfl ?_ | refine J.nil ?_ | refine J.skip rfl rfl rfl ?_ | refine T.skip ?_ | refine T.exit ?_ | refine T.ret ?_ | refine T.rd rfl (by kernel_rfl) ?_ | refine J.bx rfl rfl rfl rfl rfl rfl ?_
    refine J.i rfl rfl rfl rfl rfl rfl rfl rfl rfl (r := cL x) (by omega) (row_at h hn) rfl ?_
    repeat' first | refine T.seq ?_ | refine T.block ?_ | refine T.r ?_ | refine J.e rfl rfl rfl rfl ?_ | refine J.nil ?_ | refine J.skip rfl rfl rfl ?_ | refine T.skip ?_ | refine T.exit ?_ | refine T.ret ?_ | refine T.rd rfl (by kernel_rfl) ?_ | refine J.bx rfl rfl rfl rfl rfl rfl ?_
    refine J.a rfl rfl rfl rfl rfl rfl rfl rfl rfl rfl rfl rfl rfl rfl rfl rfl rfl len_I (by show (0 + List.length _) * 8 ≤ _; simp; omega) ?_
    repeat' first | refine T.seq ?_ | refine T.block ?_ | refine T.r ?_ | refine J.e rfl rfl rfl rfl ?_ | refine J.nil ?_ | refine J.skip rfl rfl rfl ?_ | refine T.skip ?_ | refine T.exit ?_ | refine T.ret ?_ | refine T.rd rfl (by kernel_rfl) ?_ | refine J.bx rfl rfl rfl rfl rfl rfl ?_
    refine J.sub (Rel.flat (o := 2) rfl flat_I) ?_
    refine J.sub (Rel.frz (s := 18) (fun _ h => h) rfl rfl) ?_
    refine J.bv rfl rfl rfl rfl rfl rfl rfl rfl rfl rfl rfl rfl ?_
    repeat' first | refine T.seq ?_ | refine T.block ?_ | refine T.r ?_ | refine J.e rfl rfl rfl rfl ?_ | refine J.nil ?_ | refine J.skip rfl rfl rfl ?_ | refine T.skip ?_ | refine T.exit ?_ | refine T.ret ?_ | refine T.rd rfl (by kernel_rfl) ?_ | refine J.bx rfl rfl rfl rfl rfl rfl ?_
    refine J.a1 (enc := cL) (x := x) (B := 24) rfl rfl rfl rfl rfl rfl rfl rfl rfl rfl rfl rfl rfl rfl rfl rfl rfl rfl rfl rfl (by omega) ?_
    repeat' first | refine T.seq ?_ | refine T.block ?_ | refine T.r ?_ | refine J.e rfl rfl rfl rfl ?_ | refine J.nil ?_ | refine J.skip rfl rfl rfl ?_ | refine T.skip ?_ | refine T.exit ?_ | refine T.ret ?_ | refine T.rd rfl (by kernel_rfl) ?_ | refine J.bx rfl rfl rfl rfl rfl rfl ?_
    rw [wrap1 hlt (by omega)]
    exact T.canon (keep := [0, 3, 4]) (os := [3]) rfl ih
  · repeat' first | refine T.seq ?_ | refine T.block ?_ | refine T.r ?_ | refine J.e rfl rfl rfl rfl ?_ | refine J.nil ?_ | refine J.skip rfl rfl rfl ?_ | refine T.skip ?_ | refine T.exit ?_ | refine T.ret ?_ | refine T.rd rfl (by kernel_rfl) ?_ | refine J.bx rfl rfl rfl rfl rfl rfl ?_
    refine T.cf2 rfl lt_end ?_
    repeat' first | refine T.seq ?_ | refine T.block ?_ | refine T.r ?_ | refine J.e rfl rfl rfl rfl ?_ | refine J.nil ?_ | refine J.skip rfl rfl rfl ?_ | refine T.skip ?_ | refine T.exit ?_ | refine T.ret ?_ | refine T.rd rfl (by kernel_rfl) ?_ | refine J.bx rfl rfl rfl rfl rfl rfl ?_
    exact ⟨_, .o rfl rfl rfl (fun _ => .inl rfl) (by simp) .nil⟩

/-- A constraint that may be in memory. -/
def ConB (c : Con) : Prop := (c.vars.length + 1) * 8 ≤ 140737488355328 ∧ c.coefs.length * 8 ≤ 140737488355328 ∧ c.rows.length * 24 ≤ 140737488355328 ∧ ∀ x ∈ c.rows, x.length * 8 ≤ 140737488355328
theorem own_spec (c : Con) (hc : ConB c) : Spec Try.prog 40 true [.agg (cC c)] [.val (.agg (cC c))] := by
  refine Spec.body Try.func40 rfl rfl rfl fun w0 Z0 => ?_
  obtain ⟨h1, h2, h3, h4⟩ := hc
  repeat' first | refine T.seq ?_ | refine T.block ?_ | refine T.r ?_ | refine J.e rfl rfl rfl rfl ?_ | refine J.nil ?_ | refine J.skip rfl rfl rfl ?_ | refine T.skip ?_ | refine T.exit ?_ | refine T.ret ?_ | refine T.rd rfl (by kernel_rfl) ?_ | refine J.bx rfl rfl rfl rfl rfl rfl ?_
  refine J.al rfl rfl rfl rfl rfl rfl rfl ?_
  repeat' first | refine T.seq ?_ | refine T.block ?_ | refine T.r ?_ | refine J.e rfl rfl rfl rfl ?_ | refine J.nil ?_ | refine J.skip rfl rfl rfl ?_ | refine T.skip ?_ | refine T.exit ?_ | refine T.ret ?_ | refine T.rd rfl (by kernel_rfl) ?_ | refine J.bx rfl rfl rfl rfl rfl rfl ?_
  refine J.bo rfl rfl rfl rfl rfl rfl rfl rfl rfl rfl rfl rfl ?_
  repeat' first | refine T.seq ?_ | refine T.block ?_ | refine T.r ?_ | refine J.e rfl rfl rfl rfl ?_ | refine J.nil ?_ | refine J.skip rfl rfl rfl ?_ | refine T.skip ?_ | refine T.exit ?_ | refine T.ret ?_ | refine T.rd rfl (by kernel_rfl) ?_ | refine J.bx rfl rfl rfl rfl rfl rfl ?_
  refine J.a rfl rfl rfl rfl rfl rfl rfl rfl rfl rfl rfl rfl rfl rfl rfl rfl rfl len_I (by show (0 + List.length _) * 8 ≤ _; simp; omega) ?_
  refine J.sub (Rel.frz (s := 6) (fun _ h => h) rfl rfl) ?_
  repeat' first | refine T.seq ?_ | refine T.block ?_ | refine T.r ?_ | refine J.e rfl rfl rfl rfl ?_ | refine J.nil ?_ | refine J.skip rfl rfl rfl ?_ | refine T.skip ?_ | refine T.exit ?_ | refine T.ret ?_ | refine T.rd rfl (by kernel_rfl) ?_ | refine J.bx rfl rfl rfl rfl rfl rfl ?_
  refine J.w rfl rfl rfl rfl rfl rfl rfl rfl rfl rfl ?_
  repeat' first | refine T.seq ?_ | refine T.block ?_ | refine T.r ?_ | refine J.e rfl rfl rfl rfl ?_ | refine J.nil ?_ | refine J.skip rfl rfl rfl ?_ | refine T.skip ?_ | refine T.exit ?_ | refine T.ret ?_ | refine T.rd rfl (by kernel_rfl) ?_ | refine J.bx rfl rfl rfl rfl rfl rfl ?_
  refine J.bo rfl rfl rfl rfl rfl rfl rfl rfl rfl rfl rfl rfl ?_
  repeat' first | refine T.seq ?_ | refine T.block ?_ | refine T.r ?_ | refine J.e rfl rfl rfl rfl ?_ | refine J.nil ?_ | refine J.skip rfl rfl rfl ?_ | refine T.skip ?_ | refine T.exit ?_ | refine T.ret ?_ | refine T.rd rfl (by kernel_rfl) ?_ | refine J.bx rfl rfl rfl rfl rfl rfl ?_
  refine J.a rfl rfl rfl rfl rfl rfl rfl rfl rfl rfl rfl rfl rfl rfl rfl rfl rfl len_I (by show (0 + List.length _) * 8 ≤ _; simp; omega) ?_
  refine J.sub (Rel.frz (s := 11) (fun _ h => h) rfl rfl) ?_
  repeat' first | refine T.seq ?_ | refine T.block ?_ | refine T.r ?_ | refine J.e rfl rfl rfl rfl ?_ | refine J.nil ?_ | refine J.skip rfl rfl rfl ?_ | refine T.skip ?_ | refine T.exit ?_ | refine T.ret ?_ | refine T.rd rfl (by kernel_rfl) ?_ | refine J.bx rfl rfl rfl rfl rfl rfl ?_
  refine J.w rfl rfl rfl rfl rfl rfl rfl rfl rfl rfl ?_
  repeat' first | refine T.seq ?_ | refine T.block ?_ | refine T.r ?_ | refine J.e rfl rfl rfl rfl ?_ | refine J.nil ?_ | refine J.skip rfl rfl rfl ?_ | refine T.skip ?_ | refine T.exit ?_ | refine T.ret ?_ | refine T.rd rfl (by kernel_rfl) ?_ | refine J.bx rfl rfl rfl rfl rfl rfl ?_
  refine J.cc rfl rfl rfl rfl rfl (numss_spec c.rows h3 h4).frz rfl rfl ?_
  repeat' first | refine T.seq ?_ | refine T.block ?_ | refine T.r ?_ | refine J.e rfl rfl rfl rfl ?_ | refine J.nil ?_ | refine J.skip rfl rfl rfl ?_ | refine T.skip ?_ | refine T.exit ?_ | refine T.ret ?_ | refine T.rd rfl (by kernel_rfl) ?_ | refine J.bx rfl rfl rfl rfl rfl rfl ?_
  refine J.w rfl rfl rfl rfl rfl rfl rfl rfl rfl rfl ?_
  repeat' first | refine T.seq ?_ | refine T.block ?_ | refine T.r ?_ | refine J.e rfl rfl rfl rfl ?_ | refine J.nil ?_ | refine J.skip rfl rfl rfl ?_ | refine T.skip ?_ | refine T.exit ?_ | refine T.ret ?_ | refine T.rd rfl (by kernel_rfl) ?_ | refine J.bx rfl rfl rfl rfl rfl rfl ?_
  refine J.w rfl rfl rfl rfl rfl rfl rfl rfl rfl rfl ?_
  repeat' first | refine T.seq ?_ | refine T.block ?_ | refine T.r ?_ | refine J.e rfl rfl rfl rfl ?_ | refine J.nil ?_ | refine J.skip rfl rfl rfl ?_ | refine T.skip ?_ | refine T.exit ?_ | refine T.ret ?_ | refine T.rd rfl (by kernel_rfl) ?_ | refine J.bx rfl rfl rfl rfl rfl rfl ?_
  exact ⟨_, .c rfl rfl rfl rfl (fun h => by cases h) .nil⟩

def usesR (c : Con) : List Int := sortU (if c.kind = 4 then c.vars ++ [c.b] else c.vars)
theorem uses_spec (c : Con) (hc : ConB c) : Spec Try.prog 76 false [.agg (cC c)] [.own 3 1 ((usesR c).map cI)] := by
  refine Spec.body Try.func76 rfl rfl rfl fun w0 Z0 => ?_
  obtain ⟨h1, h2, h3, h4⟩ := hc
  repeat' first | refine T.seq ?_ | refine T.block ?_ | refine T.r ?_ | refine J.e rfl rfl rfl rfl ?_ | refine J.nil ?_ | refine J.skip rfl rfl rfl ?_ | refine T.skip ?_ | refine T.exit ?_ | refine T.ret ?_ | refine T.rd rfl (by kernel_rfl) ?_ | refine J.bx rfl rfl rfl rfl rfl rfl ?_
  refine J.bo rfl rfl rfl rfl rfl rfl rfl rfl rfl rfl rfl rfl ?_
  repeat' first | refine T.seq ?_ | refine T.block ?_ | refine T.r ?_ | refine J.e rfl rfl rfl rfl ?_ | refine J.nil ?_ | refine J.skip rfl rfl rfl ?_ | refine T.skip ?_ | refine T.exit ?_ | refine T.ret ?_ | refine T.rd rfl (by kernel_rfl) ?_ | refine J.bx rfl rfl rfl rfl rfl rfl ?_
  refine J.a rfl rfl rfl rfl rfl rfl rfl rfl rfl rfl rfl rfl rfl rfl rfl rfl rfl len_I (by show (0 + List.length _) * 8 ≤ _; simp; omega) ?_
  refine J.sub (Rel.flat (o := 2) rfl flat_I) ?_
  repeat' first | refine T.seq ?_ | refine T.block ?_ | refine T.r ?_ | refine J.e rfl rfl rfl rfl ?_ | refine J.nil ?_ | refine J.skip rfl rfl rfl ?_ | refine T.skip ?_ | refine T.exit ?_ | refine T.ret ?_ | refine T.rd rfl (by kernel_rfl) ?_ | refine J.bx rfl rfl rfl rfl rfl rfl ?_
  refine T.cd rfl (fun h => ?_) (fun h => ?_)
  · have e : usesR c = sortU (c.vars ++ [c.b]) := by unfold usesR; rw [if_pos (show c.kind = 4 from h)]
    rw [e]
    repeat' first | refine T.seq ?_ | refine T.block ?_ | refine T.r ?_ | refine J.e rfl rfl rfl rfl ?_ | refine J.nil ?_ | refine J.skip rfl rfl rfl ?_ | refine T.skip ?_ | refine T.exit ?_ | refine T.ret ?_ | refine T.rd rfl (by kernel_rfl) ?_ | refine J.bx rfl rfl rfl rfl rfl rfl ?_
    refine J.bv rfl rfl rfl rfl rfl rfl rfl rfl rfl rfl rfl rfl ?_
    repeat' first | refine T.seq ?_ | refine T.block ?_ | refine T.r ?_ | refine J.e rfl rfl rfl rfl ?_ | refine J.nil ?_ | refine J.skip rfl rfl rfl ?_ | refine T.skip ?_ | refine T.exit ?_ | refine T.ret ?_ | refine T.rd rfl (by kernel_rfl) ?_ | refine J.bx rfl rfl rfl rfl rfl rfl ?_
    refine J.aI rfl rfl rfl rfl rfl rfl rfl rfl rfl rfl rfl rfl rfl rfl rfl rfl rfl rfl rfl (l := c.vars) (by omega) ?_
    repeat' first | refine T.seq ?_ | refine T.block ?_ | refine T.r ?_ | refine J.e rfl rfl rfl rfl ?_ | refine J.nil ?_ | refine J.skip rfl rfl rfl ?_ | refine T.skip ?_ | refine T.exit ?_ | refine T.ret ?_ | refine T.rd rfl (by kernel_rfl) ?_ | refine J.bx rfl rfl rfl rfl rfl rfl ?_
    refine J.cc rfl rfl rfl rfl rfl (sorted_spec (c.vars ++ [c.b]) (by simp; omega)) rfl rfl ?_
    repeat' first | refine T.seq ?_ | refine T.block ?_ | refine T.r ?_ | refine J.e rfl rfl rfl rfl ?_ | refine J.nil ?_ | refine J.skip rfl rfl rfl ?_ | refine T.skip ?_ | refine T.exit ?_ | refine T.ret ?_ | refine T.rd rfl (by kernel_rfl) ?_ | refine J.bx rfl rfl rfl rfl rfl rfl ?_
    exact ⟨_, .o rfl rfl rfl (fun _ => .inl rfl) (by simp) .nil⟩
  · have e : usesR c = sortU c.vars := by unfold usesR; rw [if_neg (show ¬ c.kind = 4 from h)]
    rw [e]
    repeat' first | refine T.seq ?_ | refine T.block ?_ | refine T.r ?_ | refine J.e rfl rfl rfl rfl ?_ | refine J.nil ?_ | refine J.skip rfl rfl rfl ?_ | refine T.skip ?_ | refine T.exit ?_ | refine T.ret ?_ | refine T.rd rfl (by kernel_rfl) ?_ | refine J.bx rfl rfl rfl rfl rfl rfl ?_
    refine J.cc rfl rfl rfl rfl rfl (sorted_spec c.vars (by omega)) rfl rfl ?_
    repeat' first | refine T.seq ?_ | refine T.block ?_ | refine T.r ?_ | refine J.e rfl rfl rfl rfl ?_ | refine J.nil ?_ | refine J.skip rfl rfl rfl ?_ | refine T.skip ?_ | refine T.exit ?_ | refine T.ret ?_ | refine T.rd rfl (by kernel_rfl) ?_ | refine J.bx rfl rfl rfl rfl rfl rfl ?_
    exact ⟨_, .o rfl rfl rfl (fun _ => .inl rfl) (by simp) .nil⟩
end Go.Proofs.Ytchajofdjeijfaa
