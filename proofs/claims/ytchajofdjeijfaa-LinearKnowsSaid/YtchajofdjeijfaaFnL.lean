/- Contracts: what the parts of a constraint may be. -/
import Derived.Test.YtchajofdjeijfaaFnK
namespace Go.Proofs.Ytchajofdjeijfaa
open Go Go.RowKit
set_option linter.unusedVariables false
set_option maxRecDepth 4000

theorem others_spec (l : List Int) (hl : l.length * 8 ≤ 140737488355328) : Spec Try.prog 94 false [ints l] [.val (.bool (decide l.Nodup))] := by
  refine Spec.body Try.func94 rfl rfl rfl fun w0 Z0 => ?_
  repeat' first | refine T.seq ?_ | refine T.block ?_ | refine T.r ?_ | refine J.e rfl rfl rfl rfl ?_ | refine J.nil ?_ | refine J.skip rfl rfl rfl ?_ | refine T.skip ?_ | refine T.exit ?_ | refine T.ret ?_ | refine T.rd rfl (by kernel_rfl) ?_ | refine J.bx rfl rfl rfl rfl rfl rfl ?_
  refine T.canon (keep := [0, 3]) (os := []) rfl (T.ind (fun i : Nat => ⟨[(0, .val false (ints l)), (3, .val true (.int .i64 i))], [], 0⟩) (fun i => i ≤ l.length ∧ (l.take i).Nodup) (fun i => l.length - i) 0 (by simp) (fun _ _ h => h) ?_)
  rintro i ⟨hi, hd⟩ ih
  repeat' first | refine T.seq ?_ | refine T.block ?_ | refine T.r ?_ | refine J.e rfl rfl rfl rfl ?_ | refine J.nil ?_ | refine J.skip rfl rfl rfl ?_ | refine T.skip ?_ | refine T.exit ?_ | refine T.ret ?_ | refine T.rd rfl (by kernel_rfl) ?_ | refine J.bx rfl rfl rfl rfl rfl rfl ?_
  refine T.cd rfl (fun h1 => ?_) (fun h1 => ?_)
  · have h1 : i < l.length := by simpa using h1
    repeat' first | refine T.seq ?_ | refine T.block ?_ | refine T.r ?_ | refine J.e rfl rfl rfl rfl ?_ | refine J.nil ?_ | refine J.skip rfl rfl rfl ?_ | refine T.skip ?_ | refine T.exit ?_ | refine T.ret ?_ | refine T.rd rfl (by kernel_rfl) ?_ | refine J.bx rfl rfl rfl rfl rfl rfl ?_
    refine T.canon (keep := [0, 3, 4]) (os := []) rfl (T.ind (fun k : Nat => ⟨[(0, .val false (ints l)), (3, .val true (.int .i64 i)), (4, .val true (.int .i64 k))], [], 0⟩) (fun k => k ≤ i ∧ l[i] ∉ l.take k) (fun k => i - k) 0 (by simp) (fun _ _ h => h) ?_)
    rintro k ⟨hk, hn⟩ ih2
    repeat' first | refine T.seq ?_ | refine T.block ?_ | refine T.r ?_ | refine J.e rfl rfl rfl rfl ?_ | refine J.nil ?_ | refine J.skip rfl rfl rfl ?_ | refine T.skip ?_ | refine T.exit ?_ | refine T.ret ?_ | refine T.rd rfl (by kernel_rfl) ?_ | refine J.bx rfl rfl rfl rfl rfl rfl ?_
    refine T.cd rfl (fun h2 => ?_) (fun h2 => ?_)
    · have h2 : k < i := by omega
      repeat' first | refine T.seq ?_ | refine T.block ?_ | refine T.r ?_ | refine J.e rfl rfl rfl rfl ?_ | refine J.nil ?_ | refine J.skip rfl rfl rfl ?_ | refine T.skip ?_ | refine T.exit ?_ | refine T.ret ?_ | refine T.rd rfl (by kernel_rfl) ?_ | refine J.bx rfl rfl rfl rfl rfl rfl ?_
      refine J.i rfl rfl rfl rfl rfl rfl rfl rfl rfl (r := cI l[i]) (by omega) (row_i h1) rfl ?_
      repeat' first | refine T.seq ?_ | refine T.block ?_ | refine T.r ?_ | refine J.e rfl rfl rfl rfl ?_ | refine J.nil ?_ | refine J.skip rfl rfl rfl ?_ | refine T.skip ?_ | refine T.exit ?_ | refine T.ret ?_ | refine T.rd rfl (by kernel_rfl) ?_ | refine J.bx rfl rfl rfl rfl rfl rfl ?_
      refine J.i rfl rfl rfl rfl rfl rfl rfl rfl rfl (r := cI l[k]) (by omega) (row_i (by omega)) rfl ?_
      repeat' first | refine T.seq ?_ | refine T.block ?_ | refine T.r ?_ | refine J.e rfl rfl rfl rfl ?_ | refine J.nil ?_ | refine J.skip rfl rfl rfl ?_ | refine T.skip ?_ | refine T.exit ?_ | refine T.ret ?_ | refine T.rd rfl (by kernel_rfl) ?_ | refine J.bx rfl rfl rfl rfl rfl rfl ?_
      refine T.cd rfl (fun h3 => ?_) (fun h3 => ?_)
      · repeat' first | refine T.seq ?_ | refine T.block ?_ | refine T.r ?_ | refine J.e rfl rfl rfl rfl ?_ | refine J.nil ?_ | refine J.skip rfl rfl rfl ?_ | refine T.skip ?_ | refine T.exit ?_ | refine T.ret ?_ | refine T.rd rfl (by kernel_rfl) ?_ | refine J.bx rfl rfl rfl rfl rfl rfl ?_
        refine ⟨_, .v rfl rfl ?_ (fun _ => rfl) .nil⟩
        rw [decide_eq_false]
        intro h
        have := List.pairwise_iff_getElem.1 h k i (by omega) h1 h2
        exact this (Eq.symm h3)
      · repeat' first | refine T.seq ?_ | refine T.block ?_ | refine T.r ?_ | refine J.e rfl rfl rfl rfl ?_ | refine J.nil ?_ | refine J.skip rfl rfl rfl ?_ | refine T.skip ?_ | refine T.exit ?_ | refine T.ret ?_ | refine T.rd rfl (by kernel_rfl) ?_ | refine J.bx rfl rfl rfl rfl rfl rfl ?_
        rw [wrap1 (l := l.length) (by omega) (by omega)]
        refine T.canon (keep := [0, 3, 4]) (os := []) rfl (ih2 (k + 1) ⟨by omega, ?_⟩ (by omega))
        rw [List.take_succ_eq_append_getElem (by omega)]
        simp only [List.mem_append, List.mem_singleton, not_or]
        exact ⟨hn, h3⟩
    · have h2 : k = i := by omega
      subst h2
      repeat' first | refine T.seq ?_ | refine T.block ?_ | refine T.r ?_ | refine J.e rfl rfl rfl rfl ?_ | refine J.nil ?_ | refine J.skip rfl rfl rfl ?_ | refine T.skip ?_ | refine T.exit ?_ | refine T.ret ?_ | refine T.rd rfl (by kernel_rfl) ?_ | refine J.bx rfl rfl rfl rfl rfl rfl ?_
      rw [wrap1 (l := l.length) (by omega) (by omega)]
      refine T.canon (keep := [0, 3]) (os := []) rfl (ih (k + 1) ⟨by omega, ?_⟩ (by omega))
      rw [List.take_succ_eq_append_getElem (by omega), List.nodup_append]
      refine ⟨hd, by simp, ?_⟩
      intro a ha b hb e
      simp only [List.mem_singleton] at hb
      subst hb e
      exact hn ha
  · have h1 : i = l.length := by simp at h1; omega
    repeat' first | refine T.seq ?_ | refine T.block ?_ | refine T.r ?_ | refine J.e rfl rfl rfl rfl ?_ | refine J.nil ?_ | refine J.skip rfl rfl rfl ?_ | refine T.skip ?_ | refine T.exit ?_ | refine T.ret ?_ | refine T.rd rfl (by kernel_rfl) ?_ | refine J.bx rfl rfl rfl rfl rfl rfl ?_
    refine ⟨_, .v rfl rfl ?_ (fun _ => rfl) .nil⟩
    rw [h1, List.take_length] at hd
    simp [hd]

def sumR (c : Con) : Bool := decide c.vars.Nodup && decide (0 < c.vars.length) && decide (c.vars.length = c.coefs.length) && !decide (0 ∈ c.coefs)
theorem sum_spec (c : Con) (hc : ConB c) : Spec Try.prog 95 false [.agg (cC c)] [.val (.bool (sumR c))] := by
  refine Spec.body Try.func95 rfl rfl rfl fun w0 Z0 => ?_
  obtain ⟨h1, h2, h3, h4⟩ := hc
  unfold sumR
  have ho := others_spec c.vars (by omega)
  generalize decide c.vars.Nodup = b1 at *
  repeat' first | refine T.seq ?_ | refine T.block ?_ | refine T.r ?_ | refine J.e rfl rfl rfl rfl ?_ | refine J.nil ?_ | refine J.skip rfl rfl rfl ?_ | refine T.skip ?_ | refine T.exit ?_ | refine T.ret ?_ | refine T.rd rfl (by kernel_rfl) ?_ | refine J.bx rfl rfl rfl rfl rfl rfl ?_
  refine J.cc rfl rfl rfl rfl rfl ho rfl rfl ?_
  repeat' first | refine T.seq ?_ | refine T.block ?_ | refine T.r ?_ | refine J.e rfl rfl rfl rfl ?_ | refine J.nil ?_ | refine J.skip rfl rfl rfl ?_ | refine T.skip ?_ | refine T.exit ?_ | refine T.ret ?_ | refine T.rd rfl (by kernel_rfl) ?_ | refine J.bx rfl rfl rfl rfl rfl rfl ?_
  refine J.gb rfl rfl rfl (fun h => ?_) (fun h => ?_)
  · subst h
    repeat' first | refine T.seq ?_ | refine T.block ?_ | refine T.r ?_ | refine J.e rfl rfl rfl rfl ?_ | refine J.nil ?_ | refine J.skip rfl rfl rfl ?_ | refine T.skip ?_ | refine T.exit ?_ | refine T.ret ?_ | refine T.rd rfl (by kernel_rfl) ?_ | refine J.bx rfl rfl rfl rfl rfl rfl ?_
    refine J.g rfl rfl rfl (fun h => ?_) (fun h => ?_)
    · have h : 0 < c.vars.length := by simpa using h
      repeat' first | refine T.seq ?_ | refine T.block ?_ | refine T.r ?_ | refine J.e rfl rfl rfl rfl ?_ | refine J.nil ?_ | refine J.skip rfl rfl rfl ?_ | refine T.skip ?_ | refine T.exit ?_ | refine T.ret ?_ | refine T.rd rfl (by kernel_rfl) ?_ | refine J.bx rfl rfl rfl rfl rfl rfl ?_
      refine J.g rfl rfl rfl (fun h5 => ?_) (fun h5 => ?_)
      · have h5 : c.vars.length = c.coefs.length := by simp only [List.length_map] at h5; omega
        repeat' first | refine T.seq ?_ | refine T.block ?_ | refine T.r ?_ | refine J.e rfl rfl rfl rfl ?_ | refine J.nil ?_ | refine J.skip rfl rfl rfl ?_ | refine T.skip ?_ | refine T.exit ?_ | refine T.ret ?_ | refine T.rd rfl (by kernel_rfl) ?_ | refine J.bx rfl rfl rfl rfl rfl rfl ?_
        refine J.cc rfl rfl rfl rfl rfl (has_spec c.coefs 0 (by omega)) rfl rfl ?_
        repeat' first | refine T.seq ?_ | refine T.block ?_ | refine T.r ?_ | refine J.e rfl rfl rfl rfl ?_ | refine J.nil ?_ | refine J.skip rfl rfl rfl ?_ | refine T.skip ?_ | refine T.exit ?_ | refine T.ret ?_ | refine T.rd rfl (by kernel_rfl) ?_ | refine J.bx rfl rfl rfl rfl rfl rfl ?_
        exact ⟨_, .v rfl rfl (by simp [h5]; intro hh; omega) (fun _ => rfl) .nil⟩
      · have h5 : ¬ c.vars.length = c.coefs.length := by simp only [List.length_map] at h5; omega
        repeat' first | refine T.seq ?_ | refine T.block ?_ | refine T.r ?_ | refine J.e rfl rfl rfl rfl ?_ | refine J.nil ?_ | refine J.skip rfl rfl rfl ?_ | refine T.skip ?_ | refine T.exit ?_ | refine T.ret ?_ | refine T.rd rfl (by kernel_rfl) ?_ | refine J.bx rfl rfl rfl rfl rfl rfl ?_
        exact ⟨_, .v rfl rfl (by simp [h5]) (fun _ => rfl) .nil⟩
    · have h : ¬ 0 < c.vars.length := by simpa using h
      repeat' first | refine T.seq ?_ | refine T.block ?_ | refine T.r ?_ | refine J.e rfl rfl rfl rfl ?_ | refine J.nil ?_ | refine J.skip rfl rfl rfl ?_ | refine T.skip ?_ | refine T.exit ?_ | refine T.ret ?_ | refine T.rd rfl (by kernel_rfl) ?_ | refine J.bx rfl rfl rfl rfl rfl rfl ?_
      exact ⟨_, .v rfl rfl (by simp [h]) (fun _ => rfl) .nil⟩
  · subst h
    repeat' first | refine T.seq ?_ | refine T.block ?_ | refine T.r ?_ | refine J.e rfl rfl rfl rfl ?_ | refine J.nil ?_ | refine J.skip rfl rfl rfl ?_ | refine T.skip ?_ | refine T.exit ?_ | refine T.ret ?_ | refine T.rd rfl (by kernel_rfl) ?_ | refine J.bx rfl rfl rfl rfl rfl rfl ?_
    exact ⟨_, .v rfl rfl (by simp) (fun _ => rfl) .nil⟩

def rowOK (c : Con) (r : List Int) : Bool := decide (r.length = c.vars.length) && r.all valueB
def rowsR (c : Con) : Bool := c.rows.all (rowOK c) && decide (c.rows.length ≤ 1024)
theorem rows_spec (c : Con) (hc : ConB c) : Spec Try.prog 96 false [.agg (cC c)] [.val (.bool (rowsR c))] := by
  refine Spec.body Try.func96 rfl rfl rfl fun w0 Z0 => ?_
  obtain ⟨h1, h2, h3, h4⟩ := hc
  repeat' first | refine T.seq ?_ | refine T.block ?_ | refine T.r ?_ | refine J.e rfl rfl rfl rfl ?_ | refine J.nil ?_ | refine J.skip rfl rfl rfl ?_ | refine T.skip ?_ | refine T.exit ?_ | refine T.ret ?_ | refine T.rd rfl (by kernel_rfl) ?_ | refine J.bx rfl rfl rfl rfl rfl rfl ?_
  refine T.canon (keep := [1, 3]) (os := [1]) rfl (T.listI c.rows (fun pre => pre.all (rowOK c) = true) (fun n pre post => ⟨[(1, .optr 0 0 0 0), (3, .val true (.int .i64 n))], [(0, some (.box false (cC c)))], 1⟩) (fun _ _ h => h) rfl ?_ ?_)
  · rintro n pre x post h hn hi ih
    have hlt := at_lt h hn
    have hxl := h4 x (by rw [h]; simp)
    have hra := row_at (enc := cL) h hn
    have bad : rowOK c x = false → rowsR c = false := fun e => by rw [rowsR, h]; simp [e]
    repeat' first | refine T.seq ?_ | refine T.block ?_ | refine T.r ?_ | refine J.e rfl rfl rfl rfl ?_ | refine J.nil ?_ | refine J.skip rfl rfl rfl ?_ | refine T.skip ?_ | refine T.exit ?_ | refine T.ret ?_ | refine T.rd rfl (by kernel_rfl) ?_ | refine J.bx rfl rfl rfl rfl rfl rfl ?_
    refine T.ct2 rfl (lt_at h hn) ?_
    repeat' first | refine T.seq ?_ | refine T.block ?_ | refine T.r ?_ | refine J.e rfl rfl rfl rfl ?_ | refine J.nil ?_ | refine J.skip rfl rfl rfl ?_ | refine T.skip ?_ | refine T.exit ?_ | refine T.ret ?_ | refine T.rd rfl (by kernel_rfl) ?_ | refine J.bx rfl rfl rfl rfl rfl rfl ?_
    refine J.i rfl rfl rfl rfl rfl rfl rfl rfl rfl (r := cL x) (by omega) hra rfl ?_
    repeat' first | refine T.seq ?_ | refine T.block ?_ | refine T.r ?_ | refine J.e rfl rfl rfl rfl ?_ | refine J.nil ?_ | refine J.skip rfl rfl rfl ?_ | refine T.skip ?_ | refine T.exit ?_ | refine T.ret ?_ | refine T.rd rfl (by kernel_rfl) ?_ | refine J.bx rfl rfl rfl rfl rfl rfl ?_
    refine T.cd rfl (fun h5 => ?_) (fun h5 => ?_)
    · have h5 : ¬ x.length = c.vars.length := by simp only [List.length_map] at h5; omega
      rw [bad (by simp [rowOK, h5])]
      repeat' first | refine T.seq ?_ | refine T.block ?_ | refine T.r ?_ | refine J.e rfl rfl rfl rfl ?_ | refine J.nil ?_ | refine J.skip rfl rfl rfl ?_ | refine T.skip ?_ | refine T.exit ?_ | refine T.ret ?_ | refine T.rd rfl (by kernel_rfl) ?_ | refine J.bx rfl rfl rfl rfl rfl rfl ?_
      exact ⟨_, .v rfl rfl rfl (fun _ => rfl) .nil⟩
    · have h5 : x.length = c.vars.length := by simp only [List.length_map] at h5; omega
      repeat' first | refine T.seq ?_ | refine T.block ?_ | refine T.r ?_ | refine J.e rfl rfl rfl rfl ?_ | refine J.nil ?_ | refine J.skip rfl rfl rfl ?_ | refine T.skip ?_ | refine T.exit ?_ | refine T.ret ?_ | refine T.rd rfl (by kernel_rfl) ?_ | refine J.bx rfl rfl rfl rfl rfl rfl ?_
      refine T.canon (keep := [1, 3, 4]) (os := [1]) rfl (T.listI x (fun pre => pre.all valueB = true) (fun k pre post => ⟨[(1, .optr 0 0 0 0), (3, .val true (.int .i64 n)), (4, .val true (.int .i64 k))], [(0, some (.box false (cC c)))], 1⟩) (fun _ _ h => h) rfl ?_ ?_)
      · rintro k pre2 y post2 h6 hk hi2 ih2
        have hlt2 := at_lt h6 hk
        repeat' first | refine T.seq ?_ | refine T.block ?_ | refine T.r ?_ | refine J.e rfl rfl rfl rfl ?_ | refine J.nil ?_ | refine J.skip rfl rfl rfl ?_ | refine T.skip ?_ | refine T.exit ?_ | refine T.ret ?_ | refine T.rd rfl (by kernel_rfl) ?_ | refine J.bx rfl rfl rfl rfl rfl rfl ?_
        refine J.i rfl rfl rfl rfl rfl rfl rfl rfl rfl (r := cL x) (by omega) hra rfl ?_
        repeat' first | refine T.seq ?_ | refine T.block ?_ | refine T.r ?_ | refine J.e rfl rfl rfl rfl ?_ | refine J.nil ?_ | refine J.skip rfl rfl rfl ?_ | refine T.skip ?_ | refine T.exit ?_ | refine T.ret ?_ | refine T.rd rfl (by kernel_rfl) ?_ | refine J.bx rfl rfl rfl rfl rfl rfl ?_
        refine T.ct2 rfl (lt_at h6 hk) ?_
        repeat' first | refine T.seq ?_ | refine T.block ?_ | refine T.r ?_ | refine J.e rfl rfl rfl rfl ?_ | refine J.nil ?_ | refine J.skip rfl rfl rfl ?_ | refine T.skip ?_ | refine T.exit ?_ | refine T.ret ?_ | refine T.rd rfl (by kernel_rfl) ?_ | refine J.bx rfl rfl rfl rfl rfl rfl ?_
        refine J.i rfl rfl rfl rfl rfl rfl rfl rfl rfl (r := cL x) (by omega) hra rfl ?_
        repeat' first | refine T.seq ?_ | refine T.block ?_ | refine T.r ?_ | refine J.e rfl rfl rfl rfl ?_ | refine J.nil ?_ | refine J.skip rfl rfl rfl ?_ | refine T.skip ?_ | refine T.exit ?_ | refine T.ret ?_ | refine T.rd rfl (by kernel_rfl) ?_ | refine J.bx rfl rfl rfl rfl rfl rfl ?_
        refine J.i rfl rfl rfl rfl rfl rfl rfl rfl rfl (r := cI y) (by omega) (row_at h6 hk) rfl ?_
        repeat' first | refine T.seq ?_ | refine T.block ?_ | refine T.r ?_ | refine J.e rfl rfl rfl rfl ?_ | refine J.nil ?_ | refine J.skip rfl rfl rfl ?_ | refine T.skip ?_ | refine T.exit ?_ | refine T.ret ?_ | refine T.rd rfl (by kernel_rfl) ?_ | refine J.bx rfl rfl rfl rfl rfl rfl ?_
        refine J.cc rfl rfl rfl rfl rfl (value_spec y) rfl rfl ?_
        repeat' first | refine T.seq ?_ | refine T.block ?_ | refine T.r ?_ | refine J.e rfl rfl rfl rfl ?_ | refine J.nil ?_ | refine J.skip rfl rfl rfl ?_ | refine T.skip ?_ | refine T.exit ?_ | refine T.ret ?_ | refine T.rd rfl (by kernel_rfl) ?_ | refine J.bx rfl rfl rfl rfl rfl rfl ?_
        refine T.cond rfl (fun h7 => ?_) (fun h7 => ?_)
        · rw [bad (by simp only [Bool.not_eq_true'] at h7; simp only [rowOK]; rw [h6]; simp [h7])]
          repeat' first | refine T.seq ?_ | refine T.block ?_ | refine T.r ?_ | refine J.e rfl rfl rfl rfl ?_ | refine J.nil ?_ | refine J.skip rfl rfl rfl ?_ | refine T.skip ?_ | refine T.exit ?_ | refine T.ret ?_ | refine T.rd rfl (by kernel_rfl) ?_ | refine J.bx rfl rfl rfl rfl rfl rfl ?_
          exact ⟨_, .v rfl rfl rfl (fun _ => rfl) .nil⟩
        · repeat' first | refine T.seq ?_ | refine T.block ?_ | refine T.r ?_ | refine J.e rfl rfl rfl rfl ?_ | refine J.nil ?_ | refine J.skip rfl rfl rfl ?_ | refine T.skip ?_ | refine T.exit ?_ | refine T.ret ?_ | refine T.rd rfl (by kernel_rfl) ?_ | refine J.bx rfl rfl rfl rfl rfl rfl ?_
          rw [wrap1 hlt2 (by omega)]
          exact T.canon (keep := [1, 3, 4]) (os := [1]) rfl (ih2 (by simp only [Bool.not_eq_false'] at h7; simp [List.all_append, hi2, h7]))
      · intro hi2
        repeat' first | refine T.seq ?_ | refine T.block ?_ | refine T.r ?_ | refine J.e rfl rfl rfl rfl ?_ | refine J.nil ?_ | refine J.skip rfl rfl rfl ?_ | refine T.skip ?_ | refine T.exit ?_ | refine T.ret ?_ | refine T.rd rfl (by kernel_rfl) ?_ | refine J.bx rfl rfl rfl rfl rfl rfl ?_
        refine J.i rfl rfl rfl rfl rfl rfl rfl rfl rfl (r := cL x) (by omega) hra rfl ?_
        repeat' first | refine T.seq ?_ | refine T.block ?_ | refine T.r ?_ | refine J.e rfl rfl rfl rfl ?_ | refine J.nil ?_ | refine J.skip rfl rfl rfl ?_ | refine T.skip ?_ | refine T.exit ?_ | refine T.ret ?_ | refine T.rd rfl (by kernel_rfl) ?_ | refine J.bx rfl rfl rfl rfl rfl rfl ?_
        refine T.cf2 rfl lt_end ?_
        repeat' first | refine T.seq ?_ | refine T.block ?_ | refine T.r ?_ | refine J.e rfl rfl rfl rfl ?_ | refine J.nil ?_ | refine J.skip rfl rfl rfl ?_ | refine T.skip ?_ | refine T.exit ?_ | refine T.ret ?_ | refine T.rd rfl (by kernel_rfl) ?_ | refine J.bx rfl rfl rfl rfl rfl rfl ?_
        rw [wrap1 hlt (by omega)]
        exact T.canon (keep := [1, 3]) (os := [1]) rfl (ih (by rw [List.all_append, hi]; simp [rowOK, h5, hi2]))
  · intro hi
    repeat' first | refine T.seq ?_ | refine T.block ?_ | refine T.r ?_ | refine J.e rfl rfl rfl rfl ?_ | refine J.nil ?_ | refine J.skip rfl rfl rfl ?_ | refine T.skip ?_ | refine T.exit ?_ | refine T.ret ?_ | refine T.rd rfl (by kernel_rfl) ?_ | refine J.bx rfl rfl rfl rfl rfl rfl ?_
    refine T.cf2 rfl lt_end ?_
    repeat' first | refine T.seq ?_ | refine T.block ?_ | refine T.r ?_ | refine J.e rfl rfl rfl rfl ?_ | refine J.nil ?_ | refine J.skip rfl rfl rfl ?_ | refine T.skip ?_ | refine T.exit ?_ | refine T.ret ?_ | refine T.rd rfl (by kernel_rfl) ?_ | refine J.bx rfl rfl rfl rfl rfl rfl ?_
    exact ⟨_, .v rfl rfl (by rw [rowsR, hi]; simp; omega) (fun _ => rfl) .nil⟩

def truthR (d : List (Int × Int)) : Bool := d.all fun r => !(decide (r.1 < 0) || decide (1 < r.2))
theorem truth_spec (d : List (Int × Int)) (hd : d.length * 8 ≤ 140737488355328) : Spec Try.prog 97 false [dm d] [.val (.bool (truthR d))] := by
  refine Spec.body Try.func97 rfl rfl rfl fun w0 Z0 => ?_
  repeat' first | refine T.seq ?_ | refine T.block ?_ | refine T.r ?_ | refine J.e rfl rfl rfl rfl ?_ | refine J.nil ?_ | refine J.skip rfl rfl rfl ?_ | refine T.skip ?_ | refine T.exit ?_ | refine T.ret ?_ | refine T.rd rfl (by kernel_rfl) ?_ | refine J.bx rfl rfl rfl rfl rfl rfl ?_
  refine T.canon (keep := [0, 3]) (os := []) rfl (T.listI d (fun pre => truthR pre = true) (fun n pre post => ⟨[(0, .val false (dm d)), (3, .val true (.int .i64 n))], [], 0⟩) (fun _ _ h => h) rfl ?_ ?_)
  · rintro n pre x post h hn hi ih
    have hlt := at_lt h hn
    have hra := row_at (enc := cR) h hn
    have bad : (decide (x.1 < 0) || decide (1 < x.2)) = true → truthR d = false := fun e => by
      rw [truthR, h, List.all_append, List.all_cons, e]
      simp
    repeat' first | refine T.seq ?_ | refine T.block ?_ | refine T.r ?_ | refine J.e rfl rfl rfl rfl ?_ | refine J.nil ?_ | refine J.skip rfl rfl rfl ?_ | refine T.skip ?_ | refine T.exit ?_ | refine T.ret ?_ | refine T.rd rfl (by kernel_rfl) ?_ | refine J.bx rfl rfl rfl rfl rfl rfl ?_
    refine T.ct2 rfl (lt_at h hn) ?_
    repeat' first | refine T.seq ?_ | refine T.block ?_ | refine T.r ?_ | refine J.e rfl rfl rfl rfl ?_ | refine J.nil ?_ | refine J.skip rfl rfl rfl ?_ | refine T.skip ?_ | refine T.exit ?_ | refine T.ret ?_ | refine T.rd rfl (by kernel_rfl) ?_ | refine J.bx rfl rfl rfl rfl rfl rfl ?_
    refine J.i rfl rfl rfl rfl rfl rfl rfl rfl rfl (r := cR x) (by omega) hra rfl ?_
    repeat' first | refine T.seq ?_ | refine T.block ?_ | refine T.r ?_ | refine J.e rfl rfl rfl rfl ?_ | refine J.nil ?_ | refine J.skip rfl rfl rfl ?_ | refine T.skip ?_ | refine T.exit ?_ | refine T.ret ?_ | refine T.rd rfl (by kernel_rfl) ?_ | refine J.bx rfl rfl rfl rfl rfl rfl ?_
    refine J.g rfl rfl rfl (fun h1 => ?_) (fun h1 => ?_)
    · rw [bad (by simp [show x.1 < 0 from h1])]
      repeat' first | refine T.seq ?_ | refine T.block ?_ | refine T.r ?_ | refine J.e rfl rfl rfl rfl ?_ | refine J.nil ?_ | refine J.skip rfl rfl rfl ?_ | refine T.skip ?_ | refine T.exit ?_ | refine T.ret ?_ | refine T.rd rfl (by kernel_rfl) ?_ | refine J.bx rfl rfl rfl rfl rfl rfl ?_
      refine T.ct rfl ?_
      repeat' first | refine T.seq ?_ | refine T.block ?_ | refine T.r ?_ | refine J.e rfl rfl rfl rfl ?_ | refine J.nil ?_ | refine J.skip rfl rfl rfl ?_ | refine T.skip ?_ | refine T.exit ?_ | refine T.ret ?_ | refine T.rd rfl (by kernel_rfl) ?_ | refine J.bx rfl rfl rfl rfl rfl rfl ?_
      exact ⟨_, .v rfl rfl rfl (fun _ => rfl) .nil⟩
    · repeat' first | refine T.seq ?_ | refine T.block ?_ | refine T.r ?_ | refine J.e rfl rfl rfl rfl ?_ | refine J.nil ?_ | refine J.skip rfl rfl rfl ?_ | refine T.skip ?_ | refine T.exit ?_ | refine T.ret ?_ | refine T.rd rfl (by kernel_rfl) ?_ | refine J.bx rfl rfl rfl rfl rfl rfl ?_
      refine J.i rfl rfl rfl rfl rfl rfl rfl rfl rfl (r := cR x) (by omega) hra rfl ?_
      repeat' first | refine T.seq ?_ | refine T.block ?_ | refine T.r ?_ | refine J.e rfl rfl rfl rfl ?_ | refine J.nil ?_ | refine J.skip rfl rfl rfl ?_ | refine T.skip ?_ | refine T.exit ?_ | refine T.ret ?_ | refine T.rd rfl (by kernel_rfl) ?_ | refine J.bx rfl rfl rfl rfl rfl rfl ?_
      refine T.cd rfl (fun h2 => ?_) (fun h2 => ?_)
      · rw [bad (by simp [show x.2 > 1 from h2])]
        repeat' first | refine T.seq ?_ | refine T.block ?_ | refine T.r ?_ | refine J.e rfl rfl rfl rfl ?_ | refine J.nil ?_ | refine J.skip rfl rfl rfl ?_ | refine T.skip ?_ | refine T.exit ?_ | refine T.ret ?_ | refine T.rd rfl (by kernel_rfl) ?_ | refine J.bx rfl rfl rfl rfl rfl rfl ?_
        exact ⟨_, .v rfl rfl rfl (fun _ => rfl) .nil⟩
      · repeat' first | refine T.seq ?_ | refine T.block ?_ | refine T.r ?_ | refine J.e rfl rfl rfl rfl ?_ | refine J.nil ?_ | refine J.skip rfl rfl rfl ?_ | refine T.skip ?_ | refine T.exit ?_ | refine T.ret ?_ | refine T.rd rfl (by kernel_rfl) ?_ | refine J.bx rfl rfl rfl rfl rfl rfl ?_
        rw [wrap1 hlt (by omega)]
        refine T.canon (keep := [0, 3]) (os := []) rfl (ih ?_)
        simp only [truthR, List.all_append, Bool.and_eq_true] at hi ⊢
        refine ⟨hi, ?_⟩
        simp [show ¬ x.1 < 0 from h1, show ¬ 1 < x.2 from h2]
  · intro hi
    repeat' first | refine T.seq ?_ | refine T.block ?_ | refine T.r ?_ | refine J.e rfl rfl rfl rfl ?_ | refine J.nil ?_ | refine J.skip rfl rfl rfl ?_ | refine T.skip ?_ | refine T.exit ?_ | refine T.ret ?_ | refine T.rd rfl (by kernel_rfl) ?_ | refine J.bx rfl rfl rfl rfl rfl rfl ?_
    refine T.cf2 rfl lt_end ?_
    repeat' first | refine T.seq ?_ | refine T.block ?_ | refine T.r ?_ | refine J.e rfl rfl rfl rfl ?_ | refine J.nil ?_ | refine J.skip rfl rfl rfl ?_ | refine T.skip ?_ | refine T.exit ?_ | refine T.ret ?_ | refine T.rd rfl (by kernel_rfl) ?_ | refine J.bx rfl rfl rfl rfl rfl rfl ?_
    exact ⟨_, .v rfl rfl (by rw [hi]) (fun _ => rfl) .nil⟩

def bigGo (room : Int) : List Int → Bool
  | [] => false
  | x :: xs => if 4398046511104 < x ∨ x < -4398046511104 then true else if room - max x (-x) * 1048576 < 0 then true else bigGo (room - max x (-x) * 1048576) xs
def bigR (l : List Int) (rhs : Int) : Bool := if 4611686018427387904 < rhs ∨ rhs < -4611686018427387904 then true else bigGo (4611686018427387904 - max rhs (-rhs)) l
theorem big_spec (l : List Int) (rhs : Int) (hl : l.length * 8 ≤ 140737488355328) : Spec Try.prog 78 false [ints l, .int .i64 rhs] [.val (.bool (bigR l rhs))] := by
  refine Spec.body Try.func78 rfl rfl rfl fun w0 Z0 => ?_
  unfold bigR
  repeat' first | refine T.seq ?_ | refine T.block ?_ | refine T.r ?_ | refine J.e rfl rfl rfl rfl ?_ | refine J.nil ?_ | refine J.skip rfl rfl rfl ?_ | refine T.skip ?_ | refine T.exit ?_ | refine T.ret ?_ | refine T.rd rfl (by kernel_rfl) ?_ | refine J.bx rfl rfl rfl rfl rfl rfl ?_
  refine J.g rfl rfl rfl (fun h1 => ?_) (fun h1 => ?_)
  · rw [if_pos (.inl h1)]
    repeat' first | refine T.seq ?_ | refine T.block ?_ | refine T.r ?_ | refine J.e rfl rfl rfl rfl ?_ | refine J.nil ?_ | refine J.skip rfl rfl rfl ?_ | refine T.skip ?_ | refine T.exit ?_ | refine T.ret ?_ | refine T.rd rfl (by kernel_rfl) ?_ | refine J.bx rfl rfl rfl rfl rfl rfl ?_
    refine T.ct rfl ?_
    repeat' first | refine T.seq ?_ | refine T.block ?_ | refine T.r ?_ | refine J.e rfl rfl rfl rfl ?_ | refine J.nil ?_ | refine J.skip rfl rfl rfl ?_ | refine T.skip ?_ | refine T.exit ?_ | refine T.ret ?_ | refine T.rd rfl (by kernel_rfl) ?_ | refine J.bx rfl rfl rfl rfl rfl rfl ?_
    exact ⟨_, .v rfl rfl rfl (fun _ => rfl) .nil⟩
  · have h1 : ¬ 4611686018427387904 < rhs := h1
    repeat' first | refine T.seq ?_ | refine T.block ?_ | refine T.r ?_ | refine J.e rfl rfl rfl rfl ?_ | refine J.nil ?_ | refine J.skip rfl rfl rfl ?_ | refine T.skip ?_ | refine T.exit ?_ | refine T.ret ?_ | refine T.rd rfl (by kernel_rfl) ?_ | refine J.bx rfl rfl rfl rfl rfl rfl ?_
    rw [show IntKind.i64.wrap (0 - 4611686018427387904) = -4611686018427387904 by rfl]
    refine T.cd rfl (fun h2 => ?_) (fun h2 => ?_)
    · rw [if_pos (.inr h2)]
      repeat' first | refine T.seq ?_ | refine T.block ?_ | refine T.r ?_ | refine J.e rfl rfl rfl rfl ?_ | refine J.nil ?_ | refine J.skip rfl rfl rfl ?_ | refine T.skip ?_ | refine T.exit ?_ | refine T.ret ?_ | refine T.rd rfl (by kernel_rfl) ?_ | refine J.bx rfl rfl rfl rfl rfl rfl ?_
      exact ⟨_, .v rfl rfl rfl (fun _ => rfl) .nil⟩
    · rw [if_neg (by omega)]
      repeat' first | refine T.seq ?_ | refine T.block ?_ | refine T.r ?_ | refine J.e rfl rfl rfl rfl ?_ | refine J.nil ?_ | refine J.skip rfl rfl rfl ?_ | refine T.skip ?_ | refine T.exit ?_ | refine T.ret ?_ | refine T.rd rfl (by kernel_rfl) ?_ | refine J.bx rfl rfl rfl rfl rfl rfl ?_
      rw [wrap_id (n := 0 - rhs) (by omega) (by omega), show (0 : Int) - rhs = -rhs by omega, wrap_id (n := 4611686018427387904 - max rhs (-rhs)) (by omega) (by omega)]
      refine T.canon (keep := [0, 5, 6]) (os := []) rfl (T.ind (fun (s : Nat × Int) => ⟨[(0, .val false (ints l)), (5, .val true (.int .i64 s.2)), (6, .val true (.int .i64 s.1))], [], 0⟩)
        (fun s => s.1 ≤ l.length ∧ 0 ≤ s.2 ∧ s.2 ≤ 4611686018427387904 ∧ bigGo s.2 (l.drop s.1) = bigGo (4611686018427387904 - max rhs (-rhs)) l) (fun s => l.length - s.1) (0, 4611686018427387904 - max rhs (-rhs)) ⟨by simp, by simp only; omega, by simp only; omega, by simp⟩ (fun _ _ h => h) ?_)
      rintro ⟨i, room⟩ ⟨hi, hr0, hr1, he⟩ ih
      simp only at hi hr0 hr1 he ih
      rw [← he]
      dsimp only
      repeat' first | refine T.seq ?_ | refine T.block ?_ | refine T.r ?_ | refine J.e rfl rfl rfl rfl ?_ | refine J.nil ?_ | refine J.skip rfl rfl rfl ?_ | refine T.skip ?_ | refine T.exit ?_ | refine T.ret ?_ | refine T.rd rfl (by kernel_rfl) ?_ | refine J.bx rfl rfl rfl rfl rfl rfl ?_
      refine T.cd rfl (fun h3 => ?_) (fun h3 => ?_)
      · have h3 : i < l.length := by simpa using h3
        rw [List.drop_eq_getElem_cons h3, bigGo] at he ⊢
        repeat' first | refine T.seq ?_ | refine T.block ?_ | refine T.r ?_ | refine J.e rfl rfl rfl rfl ?_ | refine J.nil ?_ | refine J.skip rfl rfl rfl ?_ | refine T.skip ?_ | refine T.exit ?_ | refine T.ret ?_ | refine T.rd rfl (by kernel_rfl) ?_ | refine J.bx rfl rfl rfl rfl rfl rfl ?_
        refine J.i rfl rfl rfl rfl rfl rfl rfl rfl rfl (r := cI l[i]) (by omega) (row_i h3) rfl ?_
        repeat' first | refine T.seq ?_ | refine T.block ?_ | refine T.r ?_ | refine J.e rfl rfl rfl rfl ?_ | refine J.nil ?_ | refine J.skip rfl rfl rfl ?_ | refine T.skip ?_ | refine T.exit ?_ | refine T.ret ?_ | refine T.rd rfl (by kernel_rfl) ?_ | refine J.bx rfl rfl rfl rfl rfl rfl ?_
        refine J.g rfl rfl rfl (fun h4 => ?_) (fun h4 => ?_)
        · rw [if_pos (.inl h4)]
          repeat' first | refine T.seq ?_ | refine T.block ?_ | refine T.r ?_ | refine J.e rfl rfl rfl rfl ?_ | refine J.nil ?_ | refine J.skip rfl rfl rfl ?_ | refine T.skip ?_ | refine T.exit ?_ | refine T.ret ?_ | refine T.rd rfl (by kernel_rfl) ?_ | refine J.bx rfl rfl rfl rfl rfl rfl ?_
          refine T.ct rfl ?_
          repeat' first | refine T.seq ?_ | refine T.block ?_ | refine T.r ?_ | refine J.e rfl rfl rfl rfl ?_ | refine J.nil ?_ | refine J.skip rfl rfl rfl ?_ | refine T.skip ?_ | refine T.exit ?_ | refine T.ret ?_ | refine T.rd rfl (by kernel_rfl) ?_ | refine J.bx rfl rfl rfl rfl rfl rfl ?_
          exact ⟨_, .v rfl rfl rfl (fun _ => rfl) .nil⟩
        · have h4 : ¬ l[i] > 4398046511104 := h4
          repeat' first | refine T.seq ?_ | refine T.block ?_ | refine T.r ?_ | refine J.e rfl rfl rfl rfl ?_ | refine J.nil ?_ | refine J.skip rfl rfl rfl ?_ | refine T.skip ?_ | refine T.exit ?_ | refine T.ret ?_ | refine T.rd rfl (by kernel_rfl) ?_ | refine J.bx rfl rfl rfl rfl rfl rfl ?_
          refine J.i rfl rfl rfl rfl rfl rfl rfl rfl rfl (r := cI l[i]) (by omega) (row_i h3) rfl ?_
          repeat' first | refine T.seq ?_ | refine T.block ?_ | refine T.r ?_ | refine J.e rfl rfl rfl rfl ?_ | refine J.nil ?_ | refine J.skip rfl rfl rfl ?_ | refine T.skip ?_ | refine T.exit ?_ | refine T.ret ?_ | refine T.rd rfl (by kernel_rfl) ?_ | refine J.bx rfl rfl rfl rfl rfl rfl ?_
          refine T.cd rfl (fun h5 => ?_) (fun h5 => ?_)
          · rw [if_pos (.inr h5)]
            repeat' first | refine T.seq ?_ | refine T.block ?_ | refine T.r ?_ | refine J.e rfl rfl rfl rfl ?_ | refine J.nil ?_ | refine J.skip rfl rfl rfl ?_ | refine T.skip ?_ | refine T.exit ?_ | refine T.ret ?_ | refine T.rd rfl (by kernel_rfl) ?_ | refine J.bx rfl rfl rfl rfl rfl rfl ?_
            exact ⟨_, .v rfl rfl rfl (fun _ => rfl) .nil⟩
          · have h5 : ¬ l[i] < -4398046511104 := h5
            rw [if_neg (by omega)] at he ⊢
            repeat' first | refine T.seq ?_ | refine T.block ?_ | refine T.r ?_ | refine J.e rfl rfl rfl rfl ?_ | refine J.nil ?_ | refine J.skip rfl rfl rfl ?_ | refine T.skip ?_ | refine T.exit ?_ | refine T.ret ?_ | refine T.rd rfl (by kernel_rfl) ?_ | refine J.bx rfl rfl rfl rfl rfl rfl ?_
            refine J.i rfl rfl rfl rfl rfl rfl rfl rfl rfl (r := cI l[i]) (by omega) (row_i h3) rfl ?_
            repeat' first | refine T.seq ?_ | refine T.block ?_ | refine T.r ?_ | refine J.e rfl rfl rfl rfl ?_ | refine J.nil ?_ | refine J.skip rfl rfl rfl ?_ | refine T.skip ?_ | refine T.exit ?_ | refine T.ret ?_ | refine T.rd rfl (by kernel_rfl) ?_ | refine J.bx rfl rfl rfl rfl rfl rfl ?_
            refine J.i rfl rfl rfl rfl rfl rfl rfl rfl rfl (r := cI l[i]) (by omega) (row_i h3) rfl ?_
            repeat' first | refine T.seq ?_ | refine T.block ?_ | refine T.r ?_ | refine J.e rfl rfl rfl rfl ?_ | refine J.nil ?_ | refine J.skip rfl rfl rfl ?_ | refine T.skip ?_ | refine T.exit ?_ | refine T.ret ?_ | refine T.rd rfl (by kernel_rfl) ?_ | refine J.bx rfl rfl rfl rfl rfl rfl ?_
            rw [wrap_id (n := 0 - l[i]) (by omega) (by omega), show (0 : Int) - l[i] = -l[i] by omega, wrap_id (n := max l[i] (-l[i]) * 1048576) (by omega) (by omega), wrap_id (n := room - max l[i] (-l[i]) * 1048576) (by omega) (by omega)]
            refine T.cd rfl (fun h6 => ?_) (fun h6 => ?_)
            · rw [if_pos h6]
              repeat' first | refine T.seq ?_ | refine T.block ?_ | refine T.r ?_ | refine J.e rfl rfl rfl rfl ?_ | refine J.nil ?_ | refine J.skip rfl rfl rfl ?_ | refine T.skip ?_ | refine T.exit ?_ | refine T.ret ?_ | refine T.rd rfl (by kernel_rfl) ?_ | refine J.bx rfl rfl rfl rfl rfl rfl ?_
              exact ⟨_, .v rfl rfl rfl (fun _ => rfl) .nil⟩
            · have h6 : ¬ room - max l[i] (-l[i]) * 1048576 < 0 := h6
              rw [if_neg h6] at he ⊢
              repeat' first | refine T.seq ?_ | refine T.block ?_ | refine T.r ?_ | refine J.e rfl rfl rfl rfl ?_ | refine J.nil ?_ | refine J.skip rfl rfl rfl ?_ | refine T.skip ?_ | refine T.exit ?_ | refine T.ret ?_ | refine T.rd rfl (by kernel_rfl) ?_ | refine J.bx rfl rfl rfl rfl rfl rfl ?_
              rw [wrap1 h3 (by omega), he]
              exact T.canon (keep := [0, 5, 6]) (os := []) rfl (ih (i + 1, room - max l[i] (-l[i]) * 1048576) ⟨by simp only; omega, by simp only; omega, by simp only; omega, by simp only; exact he⟩ (by simp only; omega))
      · have h3 : ¬ i < l.length := by simpa using h3
        repeat' first | refine T.seq ?_ | refine T.block ?_ | refine T.r ?_ | refine J.e rfl rfl rfl rfl ?_ | refine J.nil ?_ | refine J.skip rfl rfl rfl ?_ | refine T.skip ?_ | refine T.exit ?_ | refine T.ret ?_ | refine T.rd rfl (by kernel_rfl) ?_ | refine J.bx rfl rfl rfl rfl rfl rfl ?_
        exact ⟨_, .v rfl rfl (by rw [List.drop_of_length_le (by omega)]; rfl) (fun _ => rfl) .nil⟩
end Go.Proofs.Ytchajofdjeijfaa
