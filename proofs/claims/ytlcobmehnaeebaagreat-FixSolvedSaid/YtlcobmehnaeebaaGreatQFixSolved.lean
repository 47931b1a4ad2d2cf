/- The statement FixSolved: the law, and its row; ahead of it what it needs (RowFSolved). -/
import Derived.Test.YtlcobmehnaeebaaGreatB7
import Derived.Test.YtlcobmehnaeebaaGreatRows
import Derived.WalkKit
import Derived.ProofKit
import Derived.OpenShut
import Derived.ShutString
import Derived.ChangeOld
import Derived.Below
import Derived.SizedLaws
namespace Go.Proofs.YtlcobmehnaeebaaGreat.fixSolved
open Go.ChangeShapes Go.WideShapes Go.ChangeAt Go.RowKit
set_option linter.unusedVariables false
theorem own : ownKnob Tryz.prog.godebug = none := by kernel_rfl
theorem laidOut : laidOutB Tryz.prog = true := by kernel_rfl
set_option maxRecDepth 100000 in
theorem lifted (os : Os) (started : os.Started) (H : Type) (enc : TypeId × Value → H) :
    ReturnsInHanded {} Tryz.checked os 9 .any (Rows.fixSolvedSpec.pre6 enc Tryz.prog Tryz.f9 Rows.fixSolvedRow.domain false) (Rows.fixSolvedSpec.post enc Tryz.prog Tryz.f9 false true false false) := by
  refine returnsInHanded_of_change_sized (C := Tryz.checked) own started (by kernel_rfl) Tryz.func9
    (ChangeSpec.witness6 (enc := enc) (C := Tryz.checked) false ⟨#[], #[.slice none 0 0, .bool false], []⟩ 8 (by kernel_rfl) (by kernel_rfl) (by kernel_rfl) (by kernel_rfl)) ?_
  intro W base args ds gs before hval0 hW hcnd hsz0 _
  have hsz : (DataW.weightsEach Tryz.prog (Tryz.f9.params.toList ++ Rows.fixSolvedSpec.plain.varTypes Tryz.prog) (ds ++ gs)).all (· ≤ reachBytes) = true := hsz0
  have hval : ∀ (j : Nat) t v, Tryz.f9.params[j]? = some t → args[j]? = some v → Value.okWide Tryz.prog W .any base t v := hval0
  have hW' := hW
  obtain ⟨p, q, hA0, hV, rfl, hfz, hnd⟩ := hW
  have hA : DataW.TrodAll enc Tryz.prog W 0 (fun _ => true) true Tryz.f9.params.toList args.toList ds p := hA0
  rw [Tryz.params9] at hA hval hsz
  obtain ⟨v0, vs0, d0, ds0, p0, q0, hargs, rfl, rfl, h0, r0⟩ := trodAll_cons hA
  obtain ⟨v1, vs1, d1, ds1, p1, q1, rfl, rfl, rfl, h1, r1⟩ := trodAll_cons r0
  obtain ⟨rfl, rfl, rfl⟩ := trodAll_nil r1
  obtain rfl : args = #[v0, v1] := by cases args; simp_all
  obtain ⟨rfl, rfl⟩ := trodVars_none hV
  obtain ⟨sa, sn, sc, rfl, _⟩ := okWide_slice Tryz.underlying24 (hval 0 24 v0 rfl rfl)
  obtain ⟨a1, rfl, rfl, rfl⟩ := open_bool Tryz.underlying4 (hval 1 4 v1 rfl rfl) h1
  have k0 := h0
  have lt0 : ∀ x ∈ p0, x.block < W.heap.size := by obtain ⟨m, hm⟩ := k0; exact DataW.trod_lt m _ _ _ hm
  obtain ⟨fuel, hf⟩ := h0
  have hw : (DataW.weights Tryz.prog 24 d0).all (· ≤ reachBytes) = true := by
    have h2 : (DataW.weightsEach Tryz.prog (24 :: 4 :: Rows.fixSolvedSpec.plain.varTypes Tryz.prog) (d0 :: .lit (.bool a1) :: [])).all (· ≤ reachBytes) = true := hsz
    rw [DataW.weightsEach, List.all_append, Bool.and_eq_true] at h2
    exact h2.1
  obtain ⟨o, hrep, ho⟩ := opens_IL fuel _ (d0, p0) hf hw (nf hfz fun p hp => by simp [hp])
  clear hA0 hval0 hsz0 hsz
  have harg : Rep W (fun _ => True) (.slice sa sn sc) (ints o) := by
    have h : L2 (Rep W fun _ => True) [.slice sa sn sc] [ints o] := hrep
    cases h with
    | cons h1 _ => exact h1
  refine ((law_fsolved o a1 (by have e : reachBytes = 140737488351232 := rfl; have : o.length * 8 ≤ reachBytes := ho; omega)).out W (fun _ => True) [.slice sa sn sc, .bool a1] (.cons harg (.cons (.bool _) .nil))).mono fun e W' ⟨rs, he, bel, hret⟩ => ?_
  have hrs : rs = [.bool true] := by
    have h := hret.each
    cases h with
    | cons h1 h2 => cases h2; cases h1; rfl
  subst hrs
  subst he
  exact ⟨_, rfl, _, _, _, [], _, [], hW', trodAll_mk1 (shut_bool Tryz.underlying4 _), trodAll_cons_mk (Below.trod laidOut (by kernel_rfl) (of_decide_eq_true (by kernel_rfl)) k0 bel lt0) (trodAll_cons_mk (shut_bool Tryz.underlying4 _) trodAll_mk0), rfl, bel.frame _, fun h => by cases h⟩
theorem over : Rows.fixSolvedRow.holds Tryz.pinned (OpenSpec.ofChange Rows.fixSolvedSpec) :=
  OpenClaim.holds_of_wide 9 Tryz.f9 rfl rfl rfl rfl rfl rfl rfl ⟨rfl, rfl, rfl, rfl, rfl⟩ rfl rfl rfl rfl rfl (by kernel_rfl) Tryz.func9 (by kernel_rfl)
    (of_decide_eq_true (by kernel_rfl)) (by unfold Func.isWrapper; first | (rw [if_pos (by decide +kernel)]; kernel_rfl) | (rw [if_neg (by decide +kernel)]; exact ⟨rfl, rfl⟩))
    (fun os started H enc _ => lifted os started H enc)
theorem proved : Rows.FixSolvedSaid := over
#print axioms proved
end Go.Proofs.YtlcobmehnaeebaaGreat.fixSolved
namespace Go.Proofs.YtlcobmehnaeebaaGreat
theorem fixSolved_holds : Rows.FixSolvedSaid := fixSolved.proved
end Go.Proofs.YtlcobmehnaeebaaGreat
