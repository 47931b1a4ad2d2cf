/- The statement LinearOnes: the law, and its row. -/
import Derived.Test.YtchajofdjeijfaaB8
import Derived.Test.YtchajofdjeijfaaRows
import Derived.WalkKit
import Derived.ProofKit
import Derived.OpenShut
import Derived.ShutString
import Derived.ChangeOld
import Derived.Below
import Derived.SizedLaws
/-! The statement LinearKnows: what its function answers. -/
namespace Go.Proofs.Ytchajofdjeijfaa
open Go Go.RowKit
set_option linter.unusedVariables false
set_option maxRecDepth 8000

theorem laidS_fine (o : Case) : (∀ x ∈ laidS o, Fine x) ∧ (laidS o).length ≤ 5 ∧ ∀ x ∈ laidS o, x.length ≤ 30 := by
  refine ⟨fun x hx => ?_, by simp [laidS]; omega, fun x hx => ?_⟩
  · obtain ⟨y, _, rfl⟩ := List.mem_map.1 hx
    exact small_fine y
  · obtain ⟨y, _, rfl⟩ := List.mem_map.1 hx
    exact smallR_length y
theorem SumOk.not {d : Doms} {c : Con} (h : SumOk d c) : SumFine d (notW c).vars (notW c).coefs ∧ weightK (notW c).coefs ≤ 4611686018427387904 := by
  have hb := h.big
  have hp := weightK_pos c.coefs
  have ha := absK_pos c.rhs
  have e : weightK c.coefs ≤ 4611686018427387904 := by omega
  unfold notW
  split
  · exact ⟨h.fine.back, by simp only; rw [weightK_turned _ h.fine.ck]; exact e⟩
  · split
    · exact ⟨h.fine, e⟩
    · split <;> exact ⟨h.fine, e⟩

theorem law_lknows (o : Case) (ho : CaseB o) : Spec Try.prog 4 true [.agg (cCase o)] [.val (.bool true)] := by
  refine Spec.body Try.func4 rfl rfl rfl fun w0 Z0 => ?_
  have hlaid := slaid_spec o ho
  have hcb : ConB (laidSC o) := ho.1
  obtain ⟨hf, hdl, hsm⟩ := laidS_fine o
  have hin := fun h => sum_in (d := laidS o) (c := laidSC o) hcb h rfl hf (by omega)
  have hok : laidSOK o = decide (conR (laidS o) (laidSC o) = 0) := rfl
  generalize laidS o = d at *
  generalize laidSC o = c at *
  generalize laidSOK o = ok at *
  repeat' first | refine T.seq ?_ | refine T.block ?_ | refine T.r ?_ | refine J.e rfl rfl rfl rfl ?_ | refine J.nil ?_ | refine J.skip rfl rfl rfl ?_ | refine T.skip ?_ | refine T.exit ?_ | refine T.ret ?_ | refine T.rd rfl (by kernel_rfl) ?_ | refine J.bx rfl rfl rfl rfl rfl rfl ?_
  refine J.cc rfl rfl rfl rfl rfl hlaid rfl rfl ?_
  repeat' first | refine T.seq ?_ | refine T.block ?_ | refine T.r ?_ | refine J.e rfl rfl rfl rfl ?_ | refine J.nil ?_ | refine J.skip rfl rfl rfl ?_ | refine T.skip ?_ | refine T.exit ?_ | refine T.ret ?_ | refine T.rd rfl (by kernel_rfl) ?_ | refine J.bx rfl rfl rfl rfl rfl rfl ?_
  refine J.al rfl rfl rfl rfl rfl rfl rfl ?_
  repeat' first | refine T.seq ?_ | refine T.block ?_ | refine T.r ?_ | refine J.e rfl rfl rfl rfl ?_ | refine J.nil ?_ | refine J.skip rfl rfl rfl ?_ | refine T.skip ?_ | refine T.exit ?_ | refine T.ret ?_ | refine T.rd rfl (by kernel_rfl) ?_ | refine J.bx rfl rfl rfl rfl rfl rfl ?_
  refine J.w rfl rfl rfl rfl rfl rfl rfl rfl rfl rfl ?_
  repeat' first | refine T.seq ?_ | refine T.block ?_ | refine T.r ?_ | refine J.e rfl rfl rfl rfl ?_ | refine J.nil ?_ | refine J.skip rfl rfl rfl ?_ | refine T.skip ?_ | refine T.exit ?_ | refine T.ret ?_ | refine T.rd rfl (by kernel_rfl) ?_ | refine J.bx rfl rfl rfl rfl rfl rfl ?_
  cases ok
  · refine T.ct rfl ?_
    repeat' first | refine T.seq ?_ | refine T.block ?_ | refine T.r ?_ | refine J.e rfl rfl rfl rfl ?_ | refine J.nil ?_ | refine J.skip rfl rfl rfl ?_ | refine T.skip ?_ | refine T.exit ?_ | refine T.ret ?_ | refine T.rd rfl (by kernel_rfl) ?_ | refine J.bx rfl rfl rfl rfl rfl rfl ?_
    refine J.cc rfl rfl rfl rfl rfl lfixed_spec rfl rfl ?_
    repeat' first | refine T.seq ?_ | refine T.block ?_ | refine T.r ?_ | refine J.e rfl rfl rfl rfl ?_ | refine J.nil ?_ | refine J.skip rfl rfl rfl ?_ | refine T.skip ?_ | refine T.exit ?_ | refine T.ret ?_ | refine T.rd rfl (by kernel_rfl) ?_ | refine J.bx rfl rfl rfl rfl rfl rfl ?_
    exact ⟨_, .v rfl rfl rfl (fun h => by cases h) .nil⟩
  · refine T.cf rfl ?_
    have hs := hin (by simpa using hok.symm)
    have hk1 := lknown_spec d c hcb hs.fine.in_
    have hk2 := rknown_spec d c hcb hs.fine.in_
    have hb := hs.big
    have ha := absK_pos c.rhs
    rw [← so_same hs.fine (by omega), ← so_same hs.not.1 hs.not.2] at hk2
    generalize soW (endsW d c.vars c.coefs) c = b1 at *
    generalize soW (endsW d (notW c).vars (notW c).coefs) (notW c) = b2 at *
    have hn1 := lnot_spec c hcb
    have hn2 := rnot_spec c hcb
    have hal := alike_spec (notW c) (notW_B hcb)
    repeat' first | refine T.seq ?_ | refine T.block ?_ | refine T.r ?_ | refine J.e rfl rfl rfl rfl ?_ | refine J.nil ?_ | refine J.skip rfl rfl rfl ?_ | refine T.skip ?_ | refine T.exit ?_ | refine T.ret ?_ | refine T.rd rfl (by kernel_rfl) ?_ | refine J.bx rfl rfl rfl rfl rfl rfl ?_
    refine J.cc rfl rfl rfl rfl rfl hk1 rfl rfl ?_
    repeat' first | refine T.seq ?_ | refine T.block ?_ | refine T.r ?_ | refine J.e rfl rfl rfl rfl ?_ | refine J.nil ?_ | refine J.skip rfl rfl rfl ?_ | refine T.skip ?_ | refine T.exit ?_ | refine T.ret ?_ | refine T.rd rfl (by kernel_rfl) ?_ | refine J.bx rfl rfl rfl rfl rfl rfl ?_
    refine J.cc rfl rfl rfl rfl rfl hk2 rfl rfl ?_
    repeat' first | refine T.seq ?_ | refine T.block ?_ | refine T.r ?_ | refine J.e rfl rfl rfl rfl ?_ | refine J.nil ?_ | refine J.skip rfl rfl rfl ?_ | refine T.skip ?_ | refine T.exit ?_ | refine T.ret ?_ | refine J.bx rfl rfl rfl rfl rfl rfl ?_
    refine T.canon (keep := [4, 6, 7, 8, 9]) (os := [4]) rfl ?_
    cases b1 <;> cases b2
    all_goals
      refine T.rd rfl (by kernel_rfl) ?_
      repeat' first | refine J.e rfl rfl rfl rfl ?_ | refine J.skip rfl rfl rfl ?_ | refine J.bx rfl rfl rfl rfl rfl rfl ?_
      refine J.cc rfl rfl rfl rfl rfl hn1 rfl rfl ?_
      repeat' first | refine J.e rfl rfl rfl rfl ?_ | refine J.skip rfl rfl rfl ?_ | refine J.bx rfl rfl rfl rfl rfl rfl ?_
      refine J.cc rfl rfl rfl rfl rfl hn2 rfl rfl ?_
      refine J.cc rfl rfl rfl rfl rfl hal rfl rfl ?_
      repeat' first | refine J.e rfl rfl rfl rfl ?_ | refine J.skip rfl rfl rfl ?_ | refine J.bx rfl rfl rfl rfl rfl rfl ?_
      refine J.cc rfl rfl rfl rfl rfl lfixed_spec rfl rfl ?_
      repeat' first | refine T.seq ?_ | refine T.block ?_ | refine T.r ?_ | refine J.e rfl rfl rfl rfl ?_ | refine J.nil ?_ | refine J.skip rfl rfl rfl ?_ | refine T.skip ?_ | refine T.exit ?_ | refine T.ret ?_ | refine T.rd rfl (by kernel_rfl) ?_ | refine J.bx rfl rfl rfl rfl rfl rfl ?_
      exact ⟨_, .v rfl rfl rfl (fun h => by cases h) .nil⟩
end Go.Proofs.Ytchajofdjeijfaa
/-! The statement LinearOnes: what its function answers. -/
namespace Go.Proofs.Ytchajofdjeijfaa
open Go Go.RowKit
set_option linter.unusedVariables false
set_option maxRecDepth 8000

/-- A sum of one term. -/
def oneC (c : Con) (r : Int) : Con := ⟨0, c.vars.take 1, c.coefs.take 1, 0, r, [], 0⟩
theorem take1 {l : List Int} (h : 0 < l.length) : l.take 1 = [l.getD 0 0] := by
  cases l with
  | nil => simp at h
  | cons x l => simp
theorem oneC_ok {d : Doms} {c : Con} {r : Int} (h : SumOk d c) (h1 : ¬ coefAt c 0 > 1099511627776) (h2 : ¬ coefAt c 0 < -1099511627776) (hr : -1000 < r ∧ r < 1000) : SumOk d (oneC c r) := by
  have hp := h.pos
  have hpc : 0 < c.coefs.length := by have := h.fine.len; omega
  have ev : (oneC c r).vars = [c.vars.getD 0 0] := take1 hp
  have ek : (oneC c r).coefs = [c.coefs.getD 0 0] := take1 hpc
  have hvm : c.vars.getD 0 0 ∈ c.vars := by rw [getD_at hp]; exact List.getElem_mem _
  have hkm : c.coefs.getD 0 0 ∈ c.coefs := by rw [getD_at hpc]; exact List.getElem_mem _
  refine ⟨⟨by rw [ev, ek]; rfl, by rw [ev]; simp, fun v hv => ?_, fun k hk => ?_, h.fine.dom, h.fine.dl⟩, by rw [ev]; simp, by rw [ev]; simp, ⟨Int.le_refl _, by show (0 : Int) ≤ 2; omega⟩, ?_⟩
  · rw [ev, List.mem_singleton] at hv
    exact hv ▸ h.fine.vin _ hvm
  · rw [ek, List.mem_singleton] at hk
    exact hk ▸ h.fine.ck _ hkm
  · have e : weightK (oneC c r).coefs = absK (coefAt c 0) * 1048576 := by rw [ek]; simp [weightK, coefAt]
    have e2 : (oneC c r).rhs = r := rfl
    rw [e, e2]
    unfold absK
    omega
theorem oneC_M1 {d : Doms} {c : Con} {r : Int} (h : SumOk d c) : M1 (oneC c r) d = d.set (varAt c 0).toNat (cutP (domAt d (varAt c 0)) (coefAt c 0) r) := by
  have hpc : 0 < c.coefs.length := by have := h.fine.len; have := h.pos; omega
  unfold M1 MO cuts oneC
  simp only [take1 h.pos, take1 hpc, List.zip_cons_cons, List.zip_nil_right, List.map_cons, List.map_nil, setAll, termsOf, lowS, List.sum_cons, List.sum_nil, cutAt]
  congr 2
  omega
theorem pack_nil {l : List Int} : pack l = [] ↔ l = [] := by
  cases l with
  | nil => simp [pack]
  | cons x l =>
    have : ∀ (l : List Int) (lo x : Int), packF lo x l ≠ [] := by
      intro l
      induction l with
      | nil => intro lo x; simp [packF]
      | cons y l ih =>
        intro lo x
        rw [packF]
        split
        · exact ih _ _
        · simp
    simp [pack, this]

theorem law_lones (o : Case) (k : Int) (ho : CaseB o) : Spec Try.prog 6 true [.agg (cCase o), .int .i64 k] [.val (.bool true)] := by
  refine Spec.body Try.func6 rfl rfl rfl fun w0 Z0 => ?_
  have hlaid := slaid_spec o ho
  have hcb : ConB (laidSC o) := ho.1
  obtain ⟨hf, hdl, hsm⟩ := laidS_fine o
  have hin := fun h => sum_in (d := laidS o) (c := laidSC o) hcb h rfl hf (by omega)
  have hok : laidSOK o = decide (conR (laidS o) (laidSC o) = 0) := rfl
  generalize laidS o = d at *
  generalize laidSC o = c at *
  generalize laidSOK o = ok at *
  repeat' first | refine T.seq ?_ | refine T.block ?_ | refine T.r ?_ | refine J.e rfl rfl rfl rfl ?_ | refine J.nil ?_ | refine J.skip rfl rfl rfl ?_ | refine T.skip ?_ | refine T.exit ?_ | refine T.ret ?_ | refine T.rd rfl (by kernel_rfl) ?_ | refine J.bx rfl rfl rfl rfl rfl rfl ?_
  refine J.cc rfl rfl rfl rfl rfl hlaid rfl rfl ?_
  repeat' first | refine T.seq ?_ | refine T.block ?_ | refine T.r ?_ | refine J.e rfl rfl rfl rfl ?_ | refine J.nil ?_ | refine J.skip rfl rfl rfl ?_ | refine T.skip ?_ | refine T.exit ?_ | refine T.ret ?_ | refine T.rd rfl (by kernel_rfl) ?_ | refine J.bx rfl rfl rfl rfl rfl rfl ?_
  refine J.al rfl rfl rfl rfl rfl rfl rfl ?_
  repeat' first | refine T.seq ?_ | refine T.block ?_ | refine T.r ?_ | refine J.e rfl rfl rfl rfl ?_ | refine J.nil ?_ | refine J.skip rfl rfl rfl ?_ | refine T.skip ?_ | refine T.exit ?_ | refine T.ret ?_ | refine T.rd rfl (by kernel_rfl) ?_ | refine J.bx rfl rfl rfl rfl rfl rfl ?_
  refine J.w rfl rfl rfl rfl rfl rfl rfl rfl rfl rfl ?_
  cases ok
  · repeat' first | refine T.seq ?_ | refine T.block ?_ | refine T.r ?_ | refine J.e rfl rfl rfl rfl ?_ | refine J.nil ?_ | refine J.skip rfl rfl rfl ?_ | refine T.skip ?_ | refine T.exit ?_ | refine T.ret ?_ | refine T.rd rfl (by kernel_rfl) ?_ | refine J.bx rfl rfl rfl rfl rfl rfl ?_
    refine T.ct rfl ?_
    repeat' first | refine T.seq ?_ | refine T.block ?_ | refine T.r ?_ | refine J.e rfl rfl rfl rfl ?_ | refine J.nil ?_ | refine J.skip rfl rfl rfl ?_ | refine T.skip ?_ | refine T.exit ?_ | refine T.ret ?_ | refine T.rd rfl (by kernel_rfl) ?_ | refine J.bx rfl rfl rfl rfl rfl rfl ?_
    refine J.cc rfl rfl rfl rfl rfl lfixed_spec rfl rfl ?_
    repeat' first | refine T.seq ?_ | refine T.block ?_ | refine T.r ?_ | refine J.e rfl rfl rfl rfl ?_ | refine J.nil ?_ | refine J.skip rfl rfl rfl ?_ | refine T.skip ?_ | refine T.exit ?_ | refine T.ret ?_ | refine T.rd rfl (by kernel_rfl) ?_ | refine J.bx rfl rfl rfl rfl rfl rfl ?_
    exact ⟨_, .v rfl rfl rfl (fun h => by cases h) .nil⟩
  · have hs := hin (by simpa using hok.symm)
    have hp := hs.pos
    have hpc : 0 < c.coefs.length := by have := hs.fine.len; omega
    have hkr := coefAt_row (c := c) (k := 0) hpc
    have hvr := varAt_row (c := c) (k := 0) hp
    have hkm : coefAt c 0 ∈ c.coefs := by unfold coefAt; rw [getD_at hpc]; exact List.getElem_mem _
    have hv := hs.fine.vin _ (varAt_mem (c := c) (k := 0) hp)
    have hk := hs.fine.ck _ hkm
    have hx := hf _ (domAt_mem hv.2)
    have hrow : (d.map cD)[(varAt c 0).toNat]? = some (cD (domAt d (varAt c 0))) := by simp [domAt_some hv.2]
    repeat' first | refine J.e rfl rfl rfl rfl ?_ | refine J.skip rfl rfl rfl ?_ | refine J.bx rfl rfl rfl rfl rfl rfl ?_
    refine J.nil ?_
    by_cases h1 : coefAt c 0 > 1099511627776
    · repeat' first | refine T.seq ?_ | refine T.block ?_ | refine T.r ?_ | refine J.e rfl rfl rfl rfl ?_ | refine J.nil ?_ | refine J.skip rfl rfl rfl ?_ | refine T.skip ?_ | refine T.exit ?_ | refine T.ret ?_ | refine T.rd rfl (by kernel_rfl) ?_ | refine J.bx rfl rfl rfl rfl rfl rfl ?_
      refine J.i rfl rfl rfl rfl rfl rfl rfl rfl rfl (r := cI (coefAt c 0)) (by omega) hkr rfl ?_
      repeat' first | refine T.seq ?_ | refine T.block ?_ | refine T.r ?_ | refine J.e rfl rfl rfl rfl ?_ | refine J.nil ?_ | refine J.skip rfl rfl rfl ?_ | refine T.skip ?_ | refine T.exit ?_ | refine T.ret ?_ | refine T.rd rfl (by kernel_rfl) ?_ | refine J.bx rfl rfl rfl rfl rfl rfl ?_
      refine J.g rfl rfl rfl (fun _ => ?_) (fun h => absurd h1 h)
      repeat' first | refine T.seq ?_ | refine T.block ?_ | refine T.r ?_ | refine J.e rfl rfl rfl rfl ?_ | refine J.nil ?_ | refine J.skip rfl rfl rfl ?_ | refine T.skip ?_ | refine T.exit ?_ | refine T.ret ?_ | refine T.rd rfl (by kernel_rfl) ?_ | refine J.bx rfl rfl rfl rfl rfl rfl ?_
      refine T.ct rfl ?_
      repeat' first | refine T.seq ?_ | refine T.block ?_ | refine T.r ?_ | refine J.e rfl rfl rfl rfl ?_ | refine J.nil ?_ | refine J.skip rfl rfl rfl ?_ | refine T.skip ?_ | refine T.exit ?_ | refine T.ret ?_ | refine T.rd rfl (by kernel_rfl) ?_ | refine J.bx rfl rfl rfl rfl rfl rfl ?_
      refine J.cc rfl rfl rfl rfl rfl lfixed_spec rfl rfl ?_
      repeat' first | refine T.seq ?_ | refine T.block ?_ | refine T.r ?_ | refine J.e rfl rfl rfl rfl ?_ | refine J.nil ?_ | refine J.skip rfl rfl rfl ?_ | refine T.skip ?_ | refine T.exit ?_ | refine T.ret ?_ | refine T.rd rfl (by kernel_rfl) ?_ | refine J.bx rfl rfl rfl rfl rfl rfl ?_
      exact ⟨_, .v rfl rfl rfl (fun h => by cases h) .nil⟩
    by_cases h2 : coefAt c 0 < -1099511627776
    · repeat' first | refine T.seq ?_ | refine T.block ?_ | refine T.r ?_ | refine J.e rfl rfl rfl rfl ?_ | refine J.nil ?_ | refine J.skip rfl rfl rfl ?_ | refine T.skip ?_ | refine T.exit ?_ | refine T.ret ?_ | refine T.rd rfl (by kernel_rfl) ?_ | refine J.bx rfl rfl rfl rfl rfl rfl ?_
      refine J.i rfl rfl rfl rfl rfl rfl rfl rfl rfl (r := cI (coefAt c 0)) (by omega) hkr rfl ?_
      repeat' first | refine T.seq ?_ | refine T.block ?_ | refine T.r ?_ | refine J.e rfl rfl rfl rfl ?_ | refine J.nil ?_ | refine J.skip rfl rfl rfl ?_ | refine T.skip ?_ | refine T.exit ?_ | refine T.ret ?_ | refine T.rd rfl (by kernel_rfl) ?_ | refine J.bx rfl rfl rfl rfl rfl rfl ?_
      refine J.g rfl rfl rfl (fun h => absurd h h1) (fun _ => ?_)
      repeat' first | refine T.seq ?_ | refine T.block ?_ | refine T.r ?_ | refine J.e rfl rfl rfl rfl ?_ | refine J.nil ?_ | refine J.skip rfl rfl rfl ?_ | refine T.skip ?_ | refine T.exit ?_ | refine T.ret ?_ | refine T.rd rfl (by kernel_rfl) ?_ | refine J.bx rfl rfl rfl rfl rfl rfl ?_
      refine J.i rfl rfl rfl rfl rfl rfl rfl rfl rfl (r := cI (coefAt c 0)) (by omega) hkr rfl ?_
      repeat' first | refine T.seq ?_ | refine T.block ?_ | refine T.r ?_ | refine J.e rfl rfl rfl rfl ?_ | refine J.nil ?_ | refine J.skip rfl rfl rfl ?_ | refine T.skip ?_ | refine T.exit ?_ | refine T.ret ?_ | refine T.rd rfl (by kernel_rfl) ?_ | refine J.bx rfl rfl rfl rfl rfl rfl ?_
      refine J.g rfl rfl rfl (fun _ => ?_) (fun h => absurd h2 h)
      repeat' first | refine T.seq ?_ | refine T.block ?_ | refine T.r ?_ | refine J.e rfl rfl rfl rfl ?_ | refine J.nil ?_ | refine J.skip rfl rfl rfl ?_ | refine T.skip ?_ | refine T.exit ?_ | refine T.ret ?_ | refine T.rd rfl (by kernel_rfl) ?_ | refine J.bx rfl rfl rfl rfl rfl rfl ?_
      refine T.ct rfl ?_
      repeat' first | refine T.seq ?_ | refine T.block ?_ | refine T.r ?_ | refine J.e rfl rfl rfl rfl ?_ | refine J.nil ?_ | refine J.skip rfl rfl rfl ?_ | refine T.skip ?_ | refine T.exit ?_ | refine T.ret ?_ | refine T.rd rfl (by kernel_rfl) ?_ | refine J.bx rfl rfl rfl rfl rfl rfl ?_
      refine J.cc rfl rfl rfl rfl rfl lfixed_spec rfl rfl ?_
      repeat' first | refine T.seq ?_ | refine T.block ?_ | refine T.r ?_ | refine J.e rfl rfl rfl rfl ?_ | refine J.nil ?_ | refine J.skip rfl rfl rfl ?_ | refine T.skip ?_ | refine T.exit ?_ | refine T.ret ?_ | refine T.rd rfl (by kernel_rfl) ?_ | refine J.bx rfl rfl rfl rfl rfl rfl ?_
      exact ⟨_, .v rfl rfl rfl (fun h => by cases h) .nil⟩
    refine T.midr ⟨[(1, .val false (.int .i64 k)), (5, .ref 0), (6, .optr 1 0 0 0)], [(0, some (.sl 38 1 false (d.map cD))), (1, some (.box false (cC c)))], 2⟩ ?_ ?_
    · repeat' first | refine T.seq ?_ | refine T.block ?_ | refine T.r ?_ | refine J.e rfl rfl rfl rfl ?_ | refine J.nil ?_ | refine J.skip rfl rfl rfl ?_ | refine T.skip ?_ | refine T.exit ?_ | refine T.ret ?_ | refine T.rd rfl (by kernel_rfl) ?_ | refine J.bx rfl rfl rfl rfl rfl rfl ?_
      refine J.i rfl rfl rfl rfl rfl rfl rfl rfl rfl (r := cI (coefAt c 0)) (by omega) hkr rfl ?_
      repeat' first | refine T.seq ?_ | refine T.block ?_ | refine T.r ?_ | refine J.e rfl rfl rfl rfl ?_ | refine J.nil ?_ | refine J.skip rfl rfl rfl ?_ | refine T.skip ?_ | refine T.exit ?_ | refine T.ret ?_ | refine T.rd rfl (by kernel_rfl) ?_ | refine J.bx rfl rfl rfl rfl rfl rfl ?_
      refine J.g rfl rfl rfl (fun h => absurd h h1) (fun _ => ?_)
      repeat' first | refine T.seq ?_ | refine T.block ?_ | refine T.r ?_ | refine J.e rfl rfl rfl rfl ?_ | refine J.nil ?_ | refine J.skip rfl rfl rfl ?_ | refine T.skip ?_ | refine T.exit ?_ | refine T.ret ?_ | refine T.rd rfl (by kernel_rfl) ?_ | refine J.bx rfl rfl rfl rfl rfl rfl ?_
      refine J.i rfl rfl rfl rfl rfl rfl rfl rfl rfl (r := cI (coefAt c 0)) (by omega) hkr rfl ?_
      repeat' first | refine T.seq ?_ | refine T.block ?_ | refine T.r ?_ | refine J.e rfl rfl rfl rfl ?_ | refine J.nil ?_ | refine J.skip rfl rfl rfl ?_ | refine T.skip ?_ | refine T.exit ?_ | refine T.ret ?_ | refine T.rd rfl (by kernel_rfl) ?_ | refine J.bx rfl rfl rfl rfl rfl rfl ?_
      refine J.g rfl rfl rfl (fun h => absurd h h2) (fun _ => ?_)
      repeat' first | refine T.seq ?_ | refine T.block ?_ | refine T.r ?_ | refine J.e rfl rfl rfl rfl ?_ | refine J.nil ?_ | refine J.skip rfl rfl rfl ?_ | refine T.skip ?_ | refine T.exit ?_ | refine T.ret ?_ | refine T.rd rfl (by kernel_rfl) ?_ | refine J.bx rfl rfl rfl rfl rfl rfl ?_
      refine J.g rfl rfl rfl (fun _ => ?_) (fun _ => ?_)
      · repeat' first | refine T.seq ?_ | refine T.block ?_ | refine T.r ?_ | refine J.e rfl rfl rfl rfl ?_ | refine J.nil ?_ | refine J.skip rfl rfl rfl ?_ | refine T.skip ?_ | refine T.exit ?_ | refine T.ret ?_ | refine T.rd rfl (by kernel_rfl) ?_ | refine J.bx rfl rfl rfl rfl rfl rfl ?_
        refine T.cd rfl (fun _ => ?_) (fun _ => ?_)
        · repeat' first | refine T.seq ?_ | refine T.block ?_ | refine T.r ?_ | refine J.e rfl rfl rfl rfl ?_ | refine J.nil ?_ | refine J.skip rfl rfl rfl ?_ | refine T.skip ?_ | refine T.exit ?_ | refine T.ret ?_ | refine T.rd rfl (by kernel_rfl) ?_ | refine J.bx rfl rfl rfl rfl rfl rfl ?_
          refine J.cc rfl rfl rfl rfl rfl lfixed_spec rfl rfl ?_
          repeat' first | refine T.seq ?_ | refine T.block ?_ | refine T.r ?_ | refine J.e rfl rfl rfl rfl ?_ | refine J.nil ?_ | refine J.skip rfl rfl rfl ?_ | refine T.skip ?_ | refine T.exit ?_ | refine T.ret ?_ | refine T.rd rfl (by kernel_rfl) ?_ | refine J.bx rfl rfl rfl rfl rfl rfl ?_
          exact ⟨_, .v rfl rfl rfl (fun h => by cases h) .nil⟩
        · repeat' first | refine T.seq ?_ | refine T.block ?_ | refine T.r ?_ | refine J.e rfl rfl rfl rfl ?_ | refine J.nil ?_ | refine J.skip rfl rfl rfl ?_ | refine T.skip ?_ | refine T.exit ?_ | refine T.ret ?_ | refine T.rd rfl (by kernel_rfl) ?_ | refine J.bx rfl rfl rfl rfl rfl rfl ?_
          exact ⟨[1, 5, 6], [5, 6], rfl, rfl⟩
      · repeat' first | refine T.seq ?_ | refine T.block ?_ | refine T.r ?_ | refine J.e rfl rfl rfl rfl ?_ | refine J.nil ?_ | refine J.skip rfl rfl rfl ?_ | refine T.skip ?_ | refine T.exit ?_ | refine T.ret ?_ | refine T.rd rfl (by kernel_rfl) ?_ | refine J.bx rfl rfl rfl rfl rfl rfl ?_
        refine T.cf rfl ?_
        repeat' first | refine T.seq ?_ | refine T.block ?_ | refine T.r ?_ | refine J.e rfl rfl rfl rfl ?_ | refine J.nil ?_ | refine J.skip rfl rfl rfl ?_ | refine T.skip ?_ | refine T.exit ?_ | refine T.ret ?_ | refine T.rd rfl (by kernel_rfl) ?_ | refine J.bx rfl rfl rfl rfl rfl rfl ?_
        exact ⟨[1, 5, 6], [5, 6], rfl, rfl⟩
    · have hr : -1000 < k.tmod 1000 ∧ k.tmod 1000 < 1000 := by
        have a1 := Int.tmod_lt_of_pos k (show (0 : Int) < 1000 by decide)
        have a2 := Int.lt_tmod_of_pos k (show (0 : Int) < 1000 by decide)
        omega
      have hone := oneC_ok (r := k.tmod 1000) hs h1 h2 hr
      obtain ⟨R, N, _, hR, _, hres⟩ := lin_ans hone
      have hpr : Spec Try.prog 16 false [doms d, .agg (cC (oneC c (k.tmod 1000)))] [.val (doms (R.getD [])), .val (.bool R.isSome)] := (lprune_spec d (oneC c (k.tmod 1000)) hone.fine (fun x hx => by have := hsm x hx; omega) R N hR).frz
      have hRe : R = if [] ∈ d ∨ cutP (domAt d (varAt c 0)) (coefAt c 0) (k.tmod 1000) = [] then none else some (d.set (varAt c 0).toNat (cutP (domAt d (varAt c 0)) (coefAt c 0) (k.tmod 1000))) := by
        unfold LinAns at hR
        by_cases he : [] ∈ d
        · rw [if_pos he] at hR; rw [if_pos (.inl he)]; exact hR
        · rw [if_neg he, if_neg (by simp [oneC])] at hR
          have hst := stepL_eq (hone.whole he)
          rw [oneC_M1 hs, if_pos (show (oneC c (k.tmod 1000)).op = 0 from rfl)] at hst
          by_cases hx0 : cutP (domAt d (varAt c 0)) (coefAt c 0) (k.tmod 1000) = []
          · rw [if_pos ((set_empty hv.2 he).2 hx0)] at hst
            rw [if_pos (.inr hx0)]
            exact (iter_inl hR hst).symm
          · rw [if_neg (fun hm => hx0 ((set_empty hv.2 he).1 hm))] at hst
            rw [if_neg (by rintro (h | h); exact he h; exact hx0 h)]
            exact (iter_inl hR hst).symm
      have hcut := cutP_ok hx.ok (coefAt c 0) (k.tmod 1000)
      have hxc : Fine (cutP (domAt d (varAt c 0)) (coefAt c 0) (k.tmod 1000)) := hx.cut hcut.1 fun v hv => ((hcut.2 v).1 hv).1
      have hu := filter_up (p := fun v => decide (coefAt c 0 * v ≤ k.tmod 1000)) (vals_up hx.ok)
      have hvx : vals (cutP (domAt d (varAt c 0)) (coefAt c 0) (k.tmod 1000)) = (vals (domAt d (varAt c 0))).filter fun v => decide (coefAt c 0 * v ≤ k.tmod 1000) := vals_pack hu
      have hxn : cutP (domAt d (varAt c 0)) (coefAt c 0) (k.tmod 1000) = [] ↔ (vals (domAt d (varAt c 0))).filter (fun v => decide (coefAt c 0 * v ≤ k.tmod 1000)) = [] := pack_nil
      have hdb := hx.domB
      have hvs := values_spec (domAt d (varAt c 0)) hdb.1 (by have := hdb.2.1; omega) hdb.2.2
      have hdb2 := hxc.domB
      have hvs2 := values_spec (cutP (domAt d (varAt c 0)) (coefAt c 0) (k.tmod 1000)) hdb2.1 (by have := hdb2.2.1; omega) hdb2.2.2
      rw [hvx] at hvs2
      have hwr : ∀ v ∈ vals (domAt d (varAt c 0)), wr (coefAt c 0 * v) = coefAt c 0 * v := fun v hv => by
        have b := hx.val v hv
        have m := mul_in (coefAt c 0) v b.1 b.2
        have := hk.2
        rw [wr, wrap_id (by omega) (by omega)]
      have hvl := hdb.2.1
      have hnums := nums_spec ((vals (domAt d (varAt c 0))).filter fun v => decide (coefAt c 0 * v ≤ k.tmod 1000)) ((vals (domAt d (varAt c 0))).filter fun v => decide (coefAt c 0 * v ≤ k.tmod 1000)) (by
        have := List.length_filter_le (fun v => decide (coefAt c 0 * v ≤ k.tmod 1000)) (vals (domAt d (varAt c 0)))
        omega)
      rw [decide_eq_true rfl] at hnums
      generalize cutP (domAt d (varAt c 0)) (coefAt c 0) (k.tmod 1000) = x at *
      generalize vals (domAt d (varAt c 0)) = l at *
      generalize hvv : varAt c 0 = v at *
      generalize hkk : coefAt c 0 = kk at *
      repeat' first | refine T.seq ?_ | refine T.block ?_ | refine T.r ?_ | refine J.e rfl rfl rfl rfl ?_ | refine J.nil ?_ | refine J.skip rfl rfl rfl ?_ | refine T.skip ?_ | refine T.exit ?_ | refine T.ret ?_ | refine J.bx rfl rfl rfl rfl rfl rfl ?_
      refine T.rdm 10 rfl (by kernel_rfl) rfl ?_
      repeat' first | refine J.e rfl rfl rfl rfl ?_ | refine J.skip rfl rfl rfl ?_ | refine J.bx rfl rfl rfl rfl rfl rfl ?_
      refine J.s1 (enc := cI) 1 rfl rfl rfl rfl rfl rfl rfl rfl rfl (fun _ => rfl) rfl (by omega) ?_
      repeat' first | refine J.e rfl rfl rfl rfl ?_ | refine J.skip rfl rfl rfl ?_ | refine J.bx rfl rfl rfl rfl rfl rfl ?_
      refine J.s1 (enc := cI) 1 rfl rfl rfl rfl rfl rfl rfl rfl rfl (fun _ => rfl) rfl (by omega) ?_
      repeat' first | refine J.e rfl rfl rfl rfl ?_ | refine J.skip rfl rfl rfl ?_ | refine J.bx rfl rfl rfl rfl rfl rfl ?_
      refine J.al rfl rfl rfl rfl rfl rfl rfl ?_
      refine J.nil ?_
      refine J.w rfl rfl rfl rfl rfl rfl rfl rfl rfl rfl ?_
      repeat' first | refine T.seq ?_ | refine T.block ?_ | refine T.r ?_ | refine J.e rfl rfl rfl rfl ?_ | refine J.nil ?_ | refine J.skip rfl rfl rfl ?_ | refine T.skip ?_ | refine T.exit ?_ | refine T.ret ?_ | refine T.rd rfl (by kernel_rfl) ?_ | refine J.bx rfl rfl rfl rfl rfl rfl ?_
      refine J.cc rfl rfl rfl rfl rfl hpr rfl rfl ?_
      repeat' first | refine T.seq ?_ | refine T.block ?_ | refine T.r ?_ | refine J.e rfl rfl rfl rfl ?_ | refine J.nil ?_ | refine J.skip rfl rfl rfl ?_ | refine T.skip ?_ | refine T.exit ?_ | refine T.ret ?_ | refine T.rd rfl (by kernel_rfl) ?_ | refine J.bx rfl rfl rfl rfl rfl rfl ?_
      refine J.i rfl rfl rfl rfl rfl rfl rfl rfl rfl (r := cI v) (by omega) hvr rfl ?_
      repeat' first | refine T.seq ?_ | refine T.block ?_ | refine T.r ?_ | refine J.e rfl rfl rfl rfl ?_ | refine J.nil ?_ | refine J.skip rfl rfl rfl ?_ | refine T.skip ?_ | refine T.exit ?_ | refine T.ret ?_ | refine T.rd rfl (by kernel_rfl) ?_ | refine J.bx rfl rfl rfl rfl rfl rfl ?_
      refine J.io rfl rfl rfl rfl rfl rfl rfl rfl rfl hv.1 (by simpa using hv.2) rfl ?_
      refine J.lo rfl rfl rfl rfl rfl rfl (r := cD (domAt d v)) hrow rfl ?_
      repeat' first | refine T.seq ?_ | refine T.block ?_ | refine T.r ?_ | refine J.e rfl rfl rfl rfl ?_ | refine J.nil ?_ | refine J.skip rfl rfl rfl ?_ | refine T.skip ?_ | refine T.exit ?_ | refine T.ret ?_ | refine T.rd rfl (by kernel_rfl) ?_ | refine J.bx rfl rfl rfl rfl rfl rfl ?_
      refine J.cc rfl rfl rfl rfl rfl hvs rfl rfl ?_
      repeat' first | refine T.seq ?_ | refine T.block ?_ | refine T.r ?_ | refine J.e rfl rfl rfl rfl ?_ | refine J.nil ?_ | refine J.skip rfl rfl rfl ?_ | refine T.skip ?_ | refine T.exit ?_ | refine T.ret ?_ | refine T.rd rfl (by kernel_rfl) ?_ | refine J.bx rfl rfl rfl rfl rfl rfl ?_
      refine J.bo rfl rfl rfl rfl rfl rfl rfl rfl rfl rfl rfl rfl ?_
      repeat' first | refine T.seq ?_ | refine T.block ?_ | refine T.r ?_ | refine J.e rfl rfl rfl rfl ?_ | refine J.nil ?_ | refine J.skip rfl rfl rfl ?_ | refine T.skip ?_ | refine T.exit ?_ | refine T.ret ?_ | refine T.rd rfl (by kernel_rfl) ?_ | refine J.bx rfl rfl rfl rfl rfl rfl ?_
      refine T.canon (keep := [5, 6, 8, 9, 10, 11, 12, 13, 14]) (os := [5, 6, 8, 11, 12]) rfl (T.ind (fun n : Nat => ⟨[(5, .ref 0), (6, .optr 1 0 0 0), (8, .optr 2 0 0 0), (9, .val true (doms (R.getD []))), (10, .val true (.bool R.isSome)), (11, .ref 3), (12, .ref 4), (13, .val true (.bool true)), (14, .val true (.int .i64 n))], [(0, some (.sl 38 1 false (d.map cD))), (1, some (.box false (cC c))), (2, some (.box false (cC (oneC c (k.tmod 1000))))), (3, some (.sl 3 1 true (l.map cI))), (4, some (.sl 3 1 true (((l.take n).filter fun v => decide (kk * v ≤ k.tmod 1000)).map cI)))], 5⟩)
        (fun n => n ≤ l.length) (fun n => l.length - n) 0 (by simp) (fun _ _ h => h) ?_)
      rintro n hn ih
      repeat' first | refine T.seq ?_ | refine T.block ?_ | refine T.r ?_ | refine J.e rfl rfl rfl rfl ?_ | refine J.nil ?_ | refine J.skip rfl rfl rfl ?_ | refine T.skip ?_ | refine T.exit ?_ | refine T.ret ?_ | refine T.rd rfl (by kernel_rfl) ?_ | refine J.bx rfl rfl rfl rfl rfl rfl ?_
      refine T.cd rfl (fun h5 => ?_) (fun h5 => ?_)
      · have h5 : n < l.length := by simpa using h5
        have hfl : ((l.take n).filter fun v => decide (kk * v ≤ k.tmod 1000)).length ≤ n := by
          refine Nat.le_trans (List.length_filter_le _ _) ?_
          simp; omega
        have e : (l.take (n + 1)).filter (fun v => decide (kk * v ≤ k.tmod 1000)) = (l.take n).filter (fun v => decide (kk * v ≤ k.tmod 1000)) ++ if wr (kk * l[n]) ≤ k.tmod 1000 then [l[n]] else [] := by
          rw [hwr _ (List.getElem_mem h5), List.take_succ_eq_append_getElem h5, List.filter_append]
          congr 1
          by_cases hc : kk * l[n] ≤ k.tmod 1000
          · simp [hc]
          · simp [hc]
        repeat' first | refine T.seq ?_ | refine T.block ?_ | refine T.r ?_ | refine J.e rfl rfl rfl rfl ?_ | refine J.nil ?_ | refine J.skip rfl rfl rfl ?_ | refine T.skip ?_ | refine T.exit ?_ | refine T.ret ?_ | refine T.rd rfl (by kernel_rfl) ?_ | refine J.bx rfl rfl rfl rfl rfl rfl ?_
        refine J.i rfl rfl rfl rfl rfl rfl rfl rfl rfl (r := cI kk) (by omega) hkr rfl ?_
        repeat' first | refine T.seq ?_ | refine T.block ?_ | refine T.r ?_ | refine J.e rfl rfl rfl rfl ?_ | refine J.nil ?_ | refine J.skip rfl rfl rfl ?_ | refine T.skip ?_ | refine T.exit ?_ | refine T.ret ?_ | refine T.rd rfl (by kernel_rfl) ?_ | refine J.bx rfl rfl rfl rfl rfl rfl ?_
        refine J.io rfl rfl rfl rfl rfl rfl rfl rfl rfl (by omega) (by simpa using h5) rfl ?_
        refine J.lo rfl rfl rfl rfl rfl rfl (r := cI l[n]) (row_i h5) rfl ?_
        repeat' first | refine T.seq ?_ | refine T.block ?_ | refine T.r ?_ | refine J.e rfl rfl rfl rfl ?_ | refine J.nil ?_ | refine J.skip rfl rfl rfl ?_ | refine T.skip ?_ | refine T.exit ?_ | refine T.ret ?_ | refine T.rd rfl (by kernel_rfl) ?_ | refine J.bx rfl rfl rfl rfl rfl rfl ?_
        refine T.cd rfl (fun h6 => ?_) (fun h6 => ?_)
        · have h6 : wr (kk * l[n]) ≤ k.tmod 1000 := h6
          rw [if_pos h6] at e
          repeat' first | refine T.seq ?_ | refine T.block ?_ | refine T.r ?_ | refine J.e rfl rfl rfl rfl ?_ | refine J.nil ?_ | refine J.skip rfl rfl rfl ?_ | refine T.skip ?_ | refine T.exit ?_ | refine T.ret ?_ | refine T.rd rfl (by kernel_rfl) ?_ | refine J.bx rfl rfl rfl rfl rfl rfl ?_
          refine J.io rfl rfl rfl rfl rfl rfl rfl rfl rfl (by omega) (by simpa using h5) rfl ?_
          refine J.lo rfl rfl rfl rfl rfl rfl (r := cI l[n]) (row_i h5) rfl ?_
          repeat' first | refine T.seq ?_ | refine T.block ?_ | refine T.r ?_ | refine J.e rfl rfl rfl rfl ?_ | refine J.nil ?_ | refine J.skip rfl rfl rfl ?_ | refine T.skip ?_ | refine T.exit ?_ | refine T.ret ?_ | refine T.rd rfl (by kernel_rfl) ?_ | refine J.bx rfl rfl rfl rfl rfl rfl ?_
          refine J.bv rfl rfl rfl rfl rfl rfl rfl rfl rfl rfl rfl rfl ?_
          refine J.aI rfl rfl rfl rfl rfl rfl rfl rfl rfl rfl rfl rfl rfl rfl rfl rfl rfl rfl rfl (by omega) ?_
          repeat' first | refine T.seq ?_ | refine T.block ?_ | refine T.r ?_ | refine J.e rfl rfl rfl rfl ?_ | refine J.nil ?_ | refine J.skip rfl rfl rfl ?_ | refine T.skip ?_ | refine T.exit ?_ | refine T.ret ?_ | refine T.rd rfl (by kernel_rfl) ?_ | refine J.bx rfl rfl rfl rfl rfl rfl ?_
          rw [wrap1 (l := l.length) (by omega) (by omega), ← e]
          exact T.canon (keep := [5, 6, 8, 9, 10, 11, 12, 13, 14]) (os := [5, 6, 8, 11, 12]) rfl (ih (n + 1) (by omega) (by omega))
        · have h6 : ¬ wr (kk * l[n]) ≤ k.tmod 1000 := h6
          rw [if_neg h6, List.append_nil] at e
          repeat' first | refine T.seq ?_ | refine T.block ?_ | refine T.r ?_ | refine J.e rfl rfl rfl rfl ?_ | refine J.nil ?_ | refine J.skip rfl rfl rfl ?_ | refine T.skip ?_ | refine T.exit ?_ | refine T.ret ?_ | refine T.rd rfl (by kernel_rfl) ?_ | refine J.bx rfl rfl rfl rfl rfl rfl ?_
          rw [wrap1 (l := l.length) (by omega) (by omega), ← e]
          exact T.canon (keep := [5, 6, 8, 9, 10, 11, 12, 13, 14]) (os := [5, 6, 8, 11, 12]) rfl (ih (n + 1) (by omega) (by omega))
      · have h5 : n = l.length := by simp at h5; omega
        subst h5
        clear ih
        rw [List.take_length]
        generalize hleft : (l.filter fun v => decide (kk * v ≤ k.tmod 1000)) = left at *
        repeat' first | refine T.seq ?_ | refine T.block ?_ | refine T.r ?_ | refine J.e rfl rfl rfl rfl ?_ | refine J.nil ?_ | refine J.skip rfl rfl rfl ?_ | refine T.skip ?_ | refine T.exit ?_ | refine T.ret ?_ | refine T.rd rfl (by kernel_rfl) ?_ | refine J.bx rfl rfl rfl rfl rfl rfl ?_
        refine T.canon (keep := [5, 6, 9, 10, 12, 13, 15]) (os := [5, 6, 12]) rfl (T.ind (fun n : Nat => ⟨[(5, .ref 0), (6, .optr 1 0 0 0), (9, .val true (doms (R.getD []))), (10, .val true (.bool R.isSome)), (12, .ref 2), (13, .val true (.bool ((d.take n).all fun x => !x.isEmpty))), (15, .val true (.int .i64 n))], [(0, some (.sl 38 1 false (d.map cD))), (1, some (.box false (cC c))), (2, some (.sl 3 1 true (left.map cI)))], 3⟩)
          (fun n => n ≤ d.length) (fun n => d.length - n) 0 (by simp) (fun _ _ h => h) ?_)
        rintro n hn ih
        repeat' first | refine T.seq ?_ | refine T.block ?_ | refine T.r ?_ | refine J.e rfl rfl rfl rfl ?_ | refine J.nil ?_ | refine J.skip rfl rfl rfl ?_ | refine T.skip ?_ | refine T.exit ?_ | refine T.ret ?_ | refine T.rd rfl (by kernel_rfl) ?_ | refine J.bx rfl rfl rfl rfl rfl rfl ?_
        refine T.cd rfl (fun h5 => ?_) (fun h5 => ?_)
        · have h5 : n < d.length := by simpa using h5
          have e : (d.take (n + 1)).all (fun x => !x.isEmpty) = ((d.take n).all (fun x => !x.isEmpty) && !d[n].isEmpty) := by
            rw [List.take_succ_eq_append_getElem h5, List.all_append]; simp
          repeat' first | refine T.seq ?_ | refine T.block ?_ | refine T.r ?_ | refine J.e rfl rfl rfl rfl ?_ | refine J.nil ?_ | refine J.skip rfl rfl rfl ?_ | refine T.skip ?_ | refine T.exit ?_ | refine T.ret ?_ | refine T.rd rfl (by kernel_rfl) ?_ | refine J.bx rfl rfl rfl rfl rfl rfl ?_
          refine J.gb rfl rfl rfl (fun h6 => ?_) (fun h6 => ?_)
          · repeat' first | refine T.seq ?_ | refine T.block ?_ | refine T.r ?_ | refine J.e rfl rfl rfl rfl ?_ | refine J.nil ?_ | refine J.skip rfl rfl rfl ?_ | refine T.skip ?_ | refine T.exit ?_ | refine T.ret ?_ | refine T.rd rfl (by kernel_rfl) ?_ | refine J.bx rfl rfl rfl rfl rfl rfl ?_
            refine J.io rfl rfl rfl rfl rfl rfl rfl rfl rfl (by omega) (by simpa using h5) rfl ?_
            refine J.lo rfl rfl rfl rfl rfl rfl (r := cD d[n]) (row_i h5) rfl ?_
            repeat' first | refine T.seq ?_ | refine T.block ?_ | refine T.r ?_ | refine J.e rfl rfl rfl rfl ?_ | refine J.nil ?_ | refine J.skip rfl rfl rfl ?_ | refine T.skip ?_ | refine T.exit ?_ | refine T.ret ?_ | refine T.rd rfl (by kernel_rfl) ?_ | refine J.bx rfl rfl rfl rfl rfl rfl ?_
            have e2 : decide (((d[n].map cR).length : Int) > 0) = (d.take (n + 1)).all (fun x => !x.isEmpty) := by
              rw [e, h6]
              cases d[n] with
              | nil => rfl
              | cons r l =>
                simp only [List.map_cons, List.length_cons, List.isEmpty_cons, Bool.not_false, Bool.true_and, decide_eq_true_eq]
                omega
            rw [wrap1 (l := d.length) (by omega) (by omega), e2]
            exact T.canon (keep := [5, 6, 9, 10, 12, 13, 15]) (os := [5, 6, 12]) rfl (ih (n + 1) (by omega) (by omega))
          · repeat' first | refine T.seq ?_ | refine T.block ?_ | refine T.r ?_ | refine J.e rfl rfl rfl rfl ?_ | refine J.nil ?_ | refine J.skip rfl rfl rfl ?_ | refine T.skip ?_ | refine T.exit ?_ | refine T.ret ?_ | refine T.rd rfl (by kernel_rfl) ?_ | refine J.bx rfl rfl rfl rfl rfl rfl ?_
            have e2 : (d.take (n + 1)).all (fun x => !x.isEmpty) = false := by rw [e, h6]; rfl
            rw [wrap1 (l := d.length) (by omega) (by omega)]
            have := ih (n + 1) (by omega) (by omega)
            rw [e2] at this
            exact T.canon (keep := [5, 6, 9, 10, 12, 13, 15]) (os := [5, 6, 12]) rfl this
        · have h5 : n = d.length := by simp at h5; omega
          subst h5
          clear ih
          rw [List.take_length]
          have hall : (d.all fun x => !x.isEmpty) = !decide ([] ∈ d) := by
            rw [Bool.eq_iff_iff]
            simp only [List.all_eq_true, Bool.not_eq_true', decide_eq_false_iff_not]
            constructor
            · intro h hm
              have := h _ hm
              simp at this
            · intro h y hy
              cases y with
              | nil => exact absurd hy h
              | cons _ _ => rfl
          rw [hall]
          by_cases he : [] ∈ d
          · rw [if_pos (.inl he)] at hRe
            subst hRe
            rw [decide_eq_true he]
            repeat' first | refine T.seq ?_ | refine T.block ?_ | refine T.r ?_ | refine J.e rfl rfl rfl rfl ?_ | refine J.nil ?_ | refine J.skip rfl rfl rfl ?_ | refine T.skip ?_ | refine T.exit ?_ | refine T.ret ?_ | refine T.rd rfl (by kernel_rfl) ?_ | refine J.bx rfl rfl rfl rfl rfl rfl ?_
            refine T.ct rfl ?_
            repeat' first | refine T.seq ?_ | refine T.block ?_ | refine T.r ?_ | refine J.e rfl rfl rfl rfl ?_ | refine J.nil ?_ | refine J.skip rfl rfl rfl ?_ | refine T.skip ?_ | refine T.exit ?_ | refine T.ret ?_ | refine T.rd rfl (by kernel_rfl) ?_ | refine J.bx rfl rfl rfl rfl rfl rfl ?_
            refine J.g rfl rfl rfl (fun _ => ?_) (fun h => absurd rfl h)
            repeat' first | refine T.seq ?_ | refine T.block ?_ | refine T.r ?_ | refine J.e rfl rfl rfl rfl ?_ | refine J.nil ?_ | refine J.skip rfl rfl rfl ?_ | refine T.skip ?_ | refine T.exit ?_ | refine T.ret ?_ | refine T.rd rfl (by kernel_rfl) ?_ | refine J.bx rfl rfl rfl rfl rfl rfl ?_
            refine J.cc rfl rfl rfl rfl rfl lfixed_spec rfl rfl ?_
            repeat' first | refine T.seq ?_ | refine T.block ?_ | refine T.r ?_ | refine J.e rfl rfl rfl rfl ?_ | refine J.nil ?_ | refine J.skip rfl rfl rfl ?_ | refine T.skip ?_ | refine T.exit ?_ | refine T.ret ?_ | refine T.rd rfl (by kernel_rfl) ?_ | refine J.bx rfl rfl rfl rfl rfl rfl ?_
            exact ⟨_, .v rfl rfl rfl (fun h => by cases h) .nil⟩
          · rw [decide_eq_false he]
            by_cases hl0 : left = []
            · rw [if_pos (.inr (hxn.2 hl0))] at hRe
              subst hRe
              repeat' first | refine T.seq ?_ | refine T.block ?_ | refine T.r ?_ | refine J.e rfl rfl rfl rfl ?_ | refine J.nil ?_ | refine J.skip rfl rfl rfl ?_ | refine T.skip ?_ | refine T.exit ?_ | refine T.ret ?_ | refine T.rd rfl (by kernel_rfl) ?_ | refine J.bx rfl rfl rfl rfl rfl rfl ?_
              refine T.ct2 rfl (by simp [hl0]) ?_
              repeat' first | refine T.seq ?_ | refine T.block ?_ | refine T.r ?_ | refine J.e rfl rfl rfl rfl ?_ | refine J.nil ?_ | refine J.skip rfl rfl rfl ?_ | refine T.skip ?_ | refine T.exit ?_ | refine T.ret ?_ | refine T.rd rfl (by kernel_rfl) ?_ | refine J.bx rfl rfl rfl rfl rfl rfl ?_
              refine J.g rfl rfl rfl (fun _ => ?_) (fun h => absurd rfl h)
              repeat' first | refine T.seq ?_ | refine T.block ?_ | refine T.r ?_ | refine J.e rfl rfl rfl rfl ?_ | refine J.nil ?_ | refine J.skip rfl rfl rfl ?_ | refine T.skip ?_ | refine T.exit ?_ | refine T.ret ?_ | refine T.rd rfl (by kernel_rfl) ?_ | refine J.bx rfl rfl rfl rfl rfl rfl ?_
              refine J.cc rfl rfl rfl rfl rfl lfixed_spec rfl rfl ?_
              repeat' first | refine T.seq ?_ | refine T.block ?_ | refine T.r ?_ | refine J.e rfl rfl rfl rfl ?_ | refine J.nil ?_ | refine J.skip rfl rfl rfl ?_ | refine T.skip ?_ | refine T.exit ?_ | refine T.ret ?_ | refine T.rd rfl (by kernel_rfl) ?_ | refine J.bx rfl rfl rfl rfl rfl rfl ?_
              exact ⟨_, .v rfl rfl rfl (fun h => by cases h) .nil⟩
            · rw [if_neg (by rintro (h | h); exact he h; exact hl0 (hxn.1 h))] at hRe
              subst hRe
              have hsl : v.toNat < (d.set v.toNat x).length := by simpa using hv.2
              repeat' first | refine T.seq ?_ | refine T.block ?_ | refine T.r ?_ | refine J.e rfl rfl rfl rfl ?_ | refine J.nil ?_ | refine J.skip rfl rfl rfl ?_ | refine T.skip ?_ | refine T.exit ?_ | refine T.ret ?_ | refine T.rd rfl (by kernel_rfl) ?_ | refine J.bx rfl rfl rfl rfl rfl rfl ?_
              refine T.cf2 rfl (by simpa using hl0) ?_
              repeat' first | refine T.seq ?_ | refine T.block ?_ | refine T.r ?_ | refine J.e rfl rfl rfl rfl ?_ | refine J.nil ?_ | refine J.skip rfl rfl rfl ?_ | refine T.skip ?_ | refine T.exit ?_ | refine T.ret ?_ | refine T.rd rfl (by kernel_rfl) ?_ | refine J.bx rfl rfl rfl rfl rfl rfl ?_
              refine J.g rfl rfl rfl (fun _ => ?_) (fun h => absurd (by simp) h)
              repeat' first | refine T.seq ?_ | refine T.block ?_ | refine T.r ?_ | refine J.e rfl rfl rfl rfl ?_ | refine J.nil ?_ | refine J.skip rfl rfl rfl ?_ | refine T.skip ?_ | refine T.exit ?_ | refine T.ret ?_ | refine T.rd rfl (by kernel_rfl) ?_ | refine J.bx rfl rfl rfl rfl rfl rfl ?_
              refine J.i rfl rfl rfl rfl rfl rfl rfl rfl rfl (r := cI v) (by omega) hvr rfl ?_
              repeat' first | refine T.seq ?_ | refine T.block ?_ | refine T.r ?_ | refine J.e rfl rfl rfl rfl ?_ | refine J.nil ?_ | refine J.skip rfl rfl rfl ?_ | refine T.skip ?_ | refine T.exit ?_ | refine T.ret ?_ | refine T.rd rfl (by kernel_rfl) ?_ | refine J.bx rfl rfl rfl rfl rfl rfl ?_
              refine J.i rfl rfl rfl rfl rfl rfl rfl rfl rfl (r := cD x) hv.1 (by simp only [Option.getD_some, List.getElem?_map, List.getElem?_set_self hv.2, Option.map_some]) rfl ?_
              repeat' first | refine T.seq ?_ | refine T.block ?_ | refine T.r ?_ | refine J.e rfl rfl rfl rfl ?_ | refine J.nil ?_ | refine J.skip rfl rfl rfl ?_ | refine T.skip ?_ | refine T.exit ?_ | refine T.ret ?_ | refine T.rd rfl (by kernel_rfl) ?_ | refine J.bx rfl rfl rfl rfl rfl rfl ?_
              refine J.cc rfl rfl rfl rfl rfl hvs2 rfl rfl ?_
              repeat' first | refine T.seq ?_ | refine T.block ?_ | refine T.r ?_ | refine J.e rfl rfl rfl rfl ?_ | refine J.nil ?_ | refine J.skip rfl rfl rfl ?_ | refine T.skip ?_ | refine T.exit ?_ | refine T.ret ?_ | refine T.rd rfl (by kernel_rfl) ?_ | refine J.bx rfl rfl rfl rfl rfl rfl ?_
              refine J.cc rfl rfl rfl rfl rfl hnums rfl rfl ?_
              repeat' first | refine T.seq ?_ | refine T.block ?_ | refine T.r ?_ | refine J.e rfl rfl rfl rfl ?_ | refine J.nil ?_ | refine J.skip rfl rfl rfl ?_ | refine T.skip ?_ | refine T.exit ?_ | refine T.ret ?_ | refine T.rd rfl (by kernel_rfl) ?_ | refine J.bx rfl rfl rfl rfl rfl rfl ?_
              refine J.cc rfl rfl rfl rfl rfl lfixed_spec rfl rfl ?_
              repeat' first | refine T.seq ?_ | refine T.block ?_ | refine T.r ?_ | refine J.e rfl rfl rfl rfl ?_ | refine J.nil ?_ | refine J.skip rfl rfl rfl ?_ | refine T.skip ?_ | refine T.exit ?_ | refine T.ret ?_ | refine T.rd rfl (by kernel_rfl) ?_ | refine J.bx rfl rfl rfl rfl rfl rfl ?_
              exact ⟨_, .v rfl rfl rfl (fun h => by cases h) .nil⟩
end Go.Proofs.Ytchajofdjeijfaa
/-! The row of LinearOnes. -/
namespace Go.Proofs.Ytchajofdjeijfaa.linearOnes
open Go.ChangeShapes Go.WideShapes Go.ChangeAt Go.RowKit
set_option linter.unusedVariables false
theorem own : ownKnob Try.prog.godebug = none := by kernel_rfl
theorem laidOut : laidOutB Try.prog = true := by kernel_rfl
set_option maxRecDepth 100000 in
theorem lifted (os : Os) (started : os.Started) (H : Type) (enc : TypeId × Value → H) :
    ReturnsInHanded {} Try.checked os 6 .any (Rows.linearOnesSpec.pre6 enc Try.prog Try.f6 Rows.linearOnesRow.domain false) (Rows.linearOnesSpec.post enc Try.prog Try.f6 false true false false) := by
  refine returnsInHanded_of_change_sized (C := Try.checked) own started (by kernel_rfl) Try.func6
    (ChangeSpec.witness6 (enc := enc) (C := Try.checked) false ⟨#[], #[.agg #[.slice none 0 0, .int .i64 0, .slice none 0 0, .slice none 0 0, .int .i64 0, .int .i64 0, .slice none 0 0, .int .i64 0, .slice none 0 0, .slice none 0 0], .int .i64 0], []⟩ 8 (by kernel_rfl) (by kernel_rfl) (by kernel_rfl) (by kernel_rfl)) ?_
  intro W base args ds gs before hval0 hW hcnd hsz0 _
  have hsz : (DataW.weightsEach Try.prog (Try.f6.params.toList ++ Rows.linearOnesSpec.plain.varTypes Try.prog) (ds ++ gs)).all (· ≤ reachBytes) = true := hsz0
  have hval : ∀ (j : Nat) t v, Try.f6.params[j]? = some t → args[j]? = some v → Value.okWide Try.prog W .any base t v := hval0
  have hW' := hW
  obtain ⟨p, q, hA0, hV, rfl, hfz, hnd⟩ := hW
  have hA : DataW.TrodAll enc Try.prog W 0 (fun _ => true) true Try.f6.params.toList args.toList ds p := hA0
  rw [Try.params6] at hA hval hsz
  obtain ⟨v0, vs0, d0, ds0, p0, q0, hargs, rfl, rfl, h0, r0⟩ := trodAll_cons hA
  obtain ⟨v1, vs1, d1, ds1, p1, q1, rfl, rfl, rfl, h1, r1⟩ := trodAll_cons r0
  obtain ⟨rfl, rfl, rfl⟩ := trodAll_nil r1
  obtain rfl : args = #[v0, v1] := by cases args; simp_all
  obtain ⟨rfl, rfl⟩ := trodVars_none hV
  have hv := hval 0 27 v0 rfl rfl
  obtain ⟨cs, rfl, _, _⟩ : ∃ cs, v0 = .agg cs ∧ cs.size = Try.prog.cellsOf 27 ∧ Row.okWide Try.prog W .any base 27 cs := by
    unfold Value.okWide at hv
    rw [Try.underlying27] at hv
    exact hv
  obtain ⟨a1, rfl, rfl, rfl, w1⟩ := open_int Try.underlying3 (hval 1 3 v1 rfl rfl) h1
  have k0 := h0
  have lt0 : ∀ x ∈ p0, x.block < W.heap.size := by obtain ⟨m, hm⟩ := k0; exact DataW.trod_lt m _ _ _ hm
  obtain ⟨fuel, hf⟩ := h0
  have hw : (DataW.weights Try.prog 27 d0).all (· ≤ reachBytes) = true := by
    have h2 : (DataW.weightsEach Try.prog (27 :: 3 :: Rows.linearOnesSpec.plain.varTypes Try.prog) (d0 :: .lit (.int .i64 a1) :: [])).all (· ≤ reachBytes) = true := hsz
    rw [DataW.weightsEach, List.all_append, Bool.and_eq_true] at h2
    exact h2.1
  obtain ⟨o, hrep, ho⟩ := opens_sum fuel _ (d0, p0) hf hw (nf hfz fun p hp => by simp [hp])
  clear hA0 hval0 hsz0 hsz
  have hcs : (Value.agg cs).cells.toList = cs.toList := rfl
  rw [hcs] at hrep
  have harg : Rep W (fun _ => True) (.agg cs) (.agg (cCase o)) := by
    have := Rep.agg (w := W) (Z := fun _ => True) cs.toList (cCase o) hrep (case_one o)
    simpa using this
  refine ((law_lones o a1 ho.1).out W (fun _ => True) [.agg cs, .int .i64 a1] (.cons harg (.cons (.int _ _) .nil))).mono fun e W' ⟨rs, he, bel, hret⟩ => ?_
  have hrs : rs = [.bool true] := by
    have h := hret.each
    cases h with
    | cons h1 h2 => cases h2; cases h1; rfl
  subst hrs
  subst he
  exact ⟨_, rfl, _, _, _, [], _, [], hW', trodAll_mk1 (shut_bool Try.underlying4 _), trodAll_cons_mk (Below.trod laidOut (by kernel_rfl) (of_decide_eq_true (by kernel_rfl)) k0 bel lt0) (trodAll_cons_mk (shut_int Try.underlying3 w1) trodAll_mk0), rfl, bel.frame _, fun h => by cases h⟩
theorem over : Rows.linearOnesRow.holds Try.pinned (OpenSpec.ofChange Rows.linearOnesSpec) :=
  OpenClaim.holds_of_wide 6 Try.f6 rfl rfl rfl rfl rfl rfl rfl ⟨rfl, rfl, rfl, rfl, rfl⟩ rfl rfl rfl rfl rfl (by kernel_rfl) Try.func6 (by kernel_rfl)
    (of_decide_eq_true (by kernel_rfl)) (by unfold Func.isWrapper; first | (rw [if_pos (by decide +kernel)]; kernel_rfl) | (rw [if_neg (by decide +kernel)]; exact ⟨rfl, rfl⟩))
    (fun os started H enc _ => lifted os started H enc)
theorem proved : Rows.LinearOnesSaid := over
#print axioms proved
end Go.Proofs.Ytchajofdjeijfaa.linearOnes
namespace Go.Proofs.Ytchajofdjeijfaa
/-- The row, under a short name, for the claim. -/
theorem linearOnes_holds : Rows.LinearOnesSaid := linearOnes.proved
end Go.Proofs.Ytchajofdjeijfaa
