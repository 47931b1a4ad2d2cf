/- The statement LinearKnows: what its function answers. -/
import Derived.Test.YtchajofdjeijfaaLiB
namespace Go.Proofs.Ytchajofdjeijfaa
open Go Go.RowKit
set_option linter.unusedVariables false
set_option maxRecDepth 8000

theorem laidS_fine (o : Case) : (∀ x ∈ laidS o, Fine x) ∧ (laidS o).length ≤ 5 ∧ ∀ x ∈ laidS o, x.length ≤ 30 := by
  refine ⟨fun x hx => ?_, by simp [laidS]; omega, fun x hx => ?_⟩
  · obtain ⟨y, _, rfl⟩ := List.mem_map.1 hx
    exact small_fine y
  · obtain ⟨y, _, rfl⟩ := List.mem_map.1 hx
    exact smallR_length y
theorem SumOk.not {d : Doms} {c : Con} (h : SumOk d c) : SumFine d (notW c).vars (notW c).coefs ∧ weightK (notW c).coefs ≤ 4611686018427387904 := by
  have hb := h.big
  have hp := weightK_pos c.coefs
  have ha := absK_pos c.rhs
  have e : weightK c.coefs ≤ 4611686018427387904 := by omega
  unfold notW
  split
  · exact ⟨h.fine.back, by simp only; rw [weightK_turned _ h.fine.ck]; exact e⟩
  · split
    · exact ⟨h.fine, e⟩
    · split <;> exact ⟨h.fine, e⟩

theorem law_lknows (o : Case) (ho : CaseB o) : Spec Try.prog 4 true [.agg (cCase o)] [.val (.bool true)] := by
  refine Spec.body Try.func4 rfl rfl rfl fun w0 Z0 => ?_
  have hlaid := slaid_spec o ho
  have hcb : ConB (laidSC o) := ho.1
  obtain ⟨hf, hdl, hsm⟩ := laidS_fine o
  have hin := fun h => sum_in (d := laidS o) (c := laidSC o) hcb h rfl hf (by omega)
  have hok : laidSOK o = decide (conR (laidS o) (laidSC o) = 0) := rfl
  generalize laidS o = d at *
  generalize laidSC o = c at *
  generalize laidSOK o = ok at *
  repeat' first | refine T.seq ?_ | refine T.block ?_ | refine T.r ?_ | refine J.e rfl rfl rfl rfl ?_ | refine J.nil ?_ | refine J.skip rfl rfl rfl ?_ | refine T.skip ?_ | refine T.exit ?_ | refine T.ret ?_ | refine T.rd rfl (by kernel_rfl) ?_ | refine J.bx rfl rfl rfl rfl rfl rfl ?_
  refine J.cc rfl rfl rfl rfl rfl hlaid rfl rfl ?_
  repeat' first | refine T.seq ?_ | refine T.block ?_ | refine T.r ?_ | refine J.e rfl rfl rfl rfl ?_ | refine J.nil ?_ | refine J.skip rfl rfl rfl ?_ | refine T.skip ?_ | refine T.exit ?_ | refine T.ret ?_ | refine T.rd rfl (by kernel_rfl) ?_ | refine J.bx rfl rfl rfl rfl rfl rfl ?_
  refine J.al rfl rfl rfl rfl rfl rfl rfl ?_
  repeat' first | refine T.seq ?_ | refine T.block ?_ | refine T.r ?_ | refine J.e rfl rfl rfl rfl ?_ | refine J.nil ?_ | refine J.skip rfl rfl rfl ?_ | refine T.skip ?_ | refine T.exit ?_ | refine T.ret ?_ | refine T.rd rfl (by kernel_rfl) ?_ | refine J.bx rfl rfl rfl rfl rfl rfl ?_
  refine J.w rfl rfl rfl rfl rfl rfl rfl rfl rfl rfl ?_
  repeat' first | refine T.seq ?_ | refine T.block ?_ | refine T.r ?_ | refine J.e rfl rfl rfl rfl ?_ | refine J.nil ?_ | refine J.skip rfl rfl rfl ?_ | refine T.skip ?_ | refine T.exit ?_ | refine T.ret ?_ | refine T.rd rfl (by kernel_rfl) ?_ | refine J.bx rfl rfl rfl rfl rfl rfl ?_
  cases ok
  · refine T.ct rfl ?_
    repeat' first | refine T.seq ?_ | refine T.block ?_ | refine T.r ?_ | refine J.e rfl rfl rfl rfl ?_ | refine J.nil ?_ | refine J.skip rfl rfl rfl ?_ | refine T.skip ?_ | refine T.exit ?_ | refine T.ret ?_ | refine T.rd rfl (by kernel_rfl) ?_ | refine J.bx rfl rfl rfl rfl rfl rfl ?_
    refine J.cc rfl rfl rfl rfl rfl lfixed_spec rfl rfl ?_
    repeat' first | refine T.seq ?_ | refine T.block ?_ | refine T.r ?_ | refine J.e rfl rfl rfl rfl ?_ | refine J.nil ?_ | refine J.skip rfl rfl rfl ?_ | refine T.skip ?_ | refine T.exit ?_ | refine T.ret ?_ | refine T.rd rfl (by kernel_rfl) ?_ | refine J.bx rfl rfl rfl rfl rfl rfl ?_
    exact ⟨_, .v rfl rfl rfl (fun h => by cases h) .nil⟩
  · refine T.cf rfl ?_
    have hs := hin (by simpa using hok.symm)
    have hk1 := lknown_spec d c hcb hs.fine.in_
    have hk2 := rknown_spec d c hcb hs.fine.in_
    have hb := hs.big
    have ha := absK_pos c.rhs
    rw [← so_same hs.fine (by omega), ← so_same hs.not.1 hs.not.2] at hk2
    generalize soW (endsW d c.vars c.coefs) c = b1 at *
    generalize soW (endsW d (notW c).vars (notW c).coefs) (notW c) = b2 at *
    have hn1 := lnot_spec c hcb
    have hn2 := rnot_spec c hcb
    have hal := alike_spec (notW c) (notW_B hcb)
    repeat' first | refine T.seq ?_ | refine T.block ?_ | refine T.r ?_ | refine J.e rfl rfl rfl rfl ?_ | refine J.nil ?_ | refine J.skip rfl rfl rfl ?_ | refine T.skip ?_ | refine T.exit ?_ | refine T.ret ?_ | refine T.rd rfl (by kernel_rfl) ?_ | refine J.bx rfl rfl rfl rfl rfl rfl ?_
    refine J.cc rfl rfl rfl rfl rfl hk1 rfl rfl ?_
    repeat' first | refine T.seq ?_ | refine T.block ?_ | refine T.r ?_ | refine J.e rfl rfl rfl rfl ?_ | refine J.nil ?_ | refine J.skip rfl rfl rfl ?_ | refine T.skip ?_ | refine T.exit ?_ | refine T.ret ?_ | refine T.rd rfl (by kernel_rfl) ?_ | refine J.bx rfl rfl rfl rfl rfl rfl ?_
    refine J.cc rfl rfl rfl rfl rfl hk2 rfl rfl ?_
    repeat' first | refine T.seq ?_ | refine T.block ?_ | refine T.r ?_ | refine J.e rfl rfl rfl rfl ?_ | refine J.nil ?_ | refine J.skip rfl rfl rfl ?_ | refine T.skip ?_ | refine T.exit ?_ | refine T.ret ?_ | refine J.bx rfl rfl rfl rfl rfl rfl ?_
    refine T.canon (keep := [4, 6, 7, 8, 9]) (os := [4]) rfl ?_
    cases b1 <;> cases b2
    all_goals
      refine T.rd rfl (by kernel_rfl) ?_
      repeat' first | refine J.e rfl rfl rfl rfl ?_ | refine J.skip rfl rfl rfl ?_ | refine J.bx rfl rfl rfl rfl rfl rfl ?_
      refine J.cc rfl rfl rfl rfl rfl hn1 rfl rfl ?_
      repeat' first | refine J.e rfl rfl rfl rfl ?_ | refine J.skip rfl rfl rfl ?_ | refine J.bx rfl rfl rfl rfl rfl rfl ?_
      refine J.cc rfl rfl rfl rfl rfl hn2 rfl rfl ?_
      refine J.cc rfl rfl rfl rfl rfl hal rfl rfl ?_
      repeat' first | refine J.e rfl rfl rfl rfl ?_ | refine J.skip rfl rfl rfl ?_ | refine J.bx rfl rfl rfl rfl rfl rfl ?_
      refine J.cc rfl rfl rfl rfl rfl lfixed_spec rfl rfl ?_
      repeat' first | refine T.seq ?_ | refine T.block ?_ | refine T.r ?_ | refine J.e rfl rfl rfl rfl ?_ | refine J.nil ?_ | refine J.skip rfl rfl rfl ?_ | refine T.skip ?_ | refine T.exit ?_ | refine T.ret ?_ | refine T.rd rfl (by kernel_rfl) ?_ | refine J.bx rfl rfl rfl rfl rfl rfl ?_
      exact ⟨_, .v rfl rfl rfl (fun h => by cases h) .nil⟩
end Go.Proofs.Ytchajofdjeijfaa
