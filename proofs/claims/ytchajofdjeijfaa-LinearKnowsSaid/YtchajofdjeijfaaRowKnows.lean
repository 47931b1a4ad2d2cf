/- The row of LinearKnows. -/
import Derived.Test.YtchajofdjeijfaaLwKnows
import Derived.Test.YtchajofdjeijfaaRowA
import Derived.Test.YtchajofdjeijfaaRows
import Derived.WalkKit
import Derived.ProofKit
import Derived.OpenShut
import Derived.ShutString
import Derived.ChangeOld
import Derived.Below
import Derived.SizedLaws
namespace Go.Proofs.Ytchajofdjeijfaa.linearKnows
open Go.ChangeShapes Go.WideShapes Go.ChangeAt Go.RowKit
set_option linter.unusedVariables false
theorem own : ownKnob Try.prog.godebug = none := by kernel_rfl
theorem laidOut : laidOutB Try.prog = true := by kernel_rfl
set_option maxRecDepth 100000 in
theorem lifted (os : Os) (started : os.Started) (H : Type) (enc : TypeId × Value → H) :
    ReturnsInHanded {} Try.checked os 4 .any (Rows.linearKnowsSpec.pre6 enc Try.prog Try.f4 Rows.linearKnowsRow.domain false) (Rows.linearKnowsSpec.post enc Try.prog Try.f4 false true false false) := by
  refine returnsInHanded_of_change_sized (C := Try.checked) own started (by kernel_rfl) Try.func4
    (ChangeSpec.witness6 (enc := enc) (C := Try.checked) false ⟨#[], #[.agg #[.slice none 0 0, .int .i64 0, .slice none 0 0, .slice none 0 0, .int .i64 0, .int .i64 0, .slice none 0 0, .int .i64 0, .slice none 0 0, .slice none 0 0]], []⟩ 8 (by kernel_rfl) (by kernel_rfl) (by kernel_rfl) (by kernel_rfl)) ?_
  intro W base args ds gs before hval0 hW hcnd hsz0 _
  have hsz : (DataW.weightsEach Try.prog (Try.f4.params.toList ++ Rows.linearKnowsSpec.plain.varTypes Try.prog) (ds ++ gs)).all (· ≤ reachBytes) = true := hsz0
  have hval : ∀ (j : Nat) t v, Try.f4.params[j]? = some t → args[j]? = some v → Value.okWide Try.prog W .any base t v := hval0
  have hW' := hW
  obtain ⟨p, q, hA0, hV, rfl, hfz, hnd⟩ := hW
  have hA : DataW.TrodAll enc Try.prog W 0 (fun _ => true) true Try.f4.params.toList args.toList ds p := hA0
  rw [Try.params4] at hA hval hsz
  obtain ⟨v0, vs0, d0, ds0, p0, q0, hargs, rfl, rfl, h0, r0⟩ := trodAll_cons hA
  obtain ⟨rfl, rfl, rfl⟩ := trodAll_nil r0
  obtain rfl : args = #[v0] := by cases args; simp_all
  obtain ⟨rfl, rfl⟩ := trodVars_none hV
  have hv := hval 0 27 v0 rfl rfl
  obtain ⟨cs, rfl, _, _⟩ : ∃ cs, v0 = .agg cs ∧ cs.size = Try.prog.cellsOf 27 ∧ Row.okWide Try.prog W .any base 27 cs := by
    unfold Value.okWide at hv
    rw [Try.underlying27] at hv
    exact hv
  have k0 := h0
  have lt0 : ∀ x ∈ p0, x.block < W.heap.size := by obtain ⟨m, hm⟩ := k0; exact DataW.trod_lt m _ _ _ hm
  obtain ⟨fuel, hf⟩ := h0
  have hw : (DataW.weights Try.prog 27 d0).all (· ≤ reachBytes) = true := by
    have e : DataW.weightsEach Try.prog (([27] : List TypeId) ++ Rows.linearKnowsSpec.plain.varTypes Try.prog) ([d0] ++ []) = DataW.weights Try.prog 27 d0 ++ [] := by
      have e0 : ∀ l : List TypeId, DataW.weightsEach (H := H) Try.prog l [] = [] := by intro l; cases l <;> rfl
      simp only [List.append_nil, List.singleton_append, DataW.weightsEach, e0]
    have h2 : (DataW.weightsEach Try.prog (([27] : List TypeId) ++ Rows.linearKnowsSpec.plain.varTypes Try.prog) ([d0] ++ [])).all (· ≤ reachBytes) = true := hsz
    rw [e, List.append_nil] at h2
    exact h2
  obtain ⟨o, hrep, ho⟩ := opens_sum fuel _ (d0, p0) hf hw (nf hfz fun p hp => by simp [hp])
  clear hA0 hval0 hsz0 hsz
  have hcs : (Value.agg cs).cells.toList = cs.toList := rfl
  rw [hcs] at hrep
  have harg : Rep W (fun _ => True) (.agg cs) (.agg (cCase o)) := by
    have := Rep.agg (w := W) (Z := fun _ => True) cs.toList (cCase o) hrep (case_one o)
    simpa using this
  refine ((law_lknows o ho.1).out W (fun _ => True) [.agg cs] (.cons harg .nil)).mono fun e W' ⟨rs, he, bel, hret⟩ => ?_
  have hrs : rs = [.bool true] := by
    have h := hret.each
    cases h with
    | cons h1 h2 => cases h2; cases h1; rfl
  subst hrs
  subst he
  exact ⟨_, rfl, _, _, _, [], _, [], hW', trodAll_mk1 (shut_bool Try.underlying4 _), trodAll_cons_mk (Below.trod laidOut (by kernel_rfl) (of_decide_eq_true (by kernel_rfl)) k0 bel lt0) trodAll_mk0, rfl, bel.frame _, fun h => by cases h⟩
theorem over : Rows.linearKnowsRow.holds Try.pinned (OpenSpec.ofChange Rows.linearKnowsSpec) :=
  OpenClaim.holds_of_wide 4 Try.f4 rfl rfl rfl rfl rfl rfl rfl ⟨rfl, rfl, rfl, rfl, rfl⟩ rfl rfl rfl rfl rfl (by kernel_rfl) Try.func4 (by kernel_rfl)
    (of_decide_eq_true (by kernel_rfl)) (by unfold Func.isWrapper; first | (rw [if_pos (by decide +kernel)]; kernel_rfl) | (rw [if_neg (by decide +kernel)]; exact ⟨rfl, rfl⟩))
    (fun os started H enc _ => lifted os started H enc)
theorem proved : Rows.LinearKnowsSaid := over
#print axioms proved
end Go.Proofs.Ytchajofdjeijfaa.linearKnows
namespace Go.Proofs.Ytchajofdjeijfaa
/-- The row, under a short name, for the claim. -/
theorem linearKnows_holds : Rows.LinearKnowsSaid := linearKnows.proved
end Go.Proofs.Ytchajofdjeijfaa
