/- The statement LogicReifs: the law, and its row. -/
import Derived.Test.YtchajofdjeijfaaB9
import Derived.Test.YtchajofdjeijfaaRows
import Derived.WalkKit
import Derived.ProofKit
import Derived.OpenShut
import Derived.ShutString
import Derived.ChangeOld
import Derived.Below
import Derived.SizedLaws
/-! The statement LogicReifs: what its function answers. -/
namespace Go.Proofs.Ytchajofdjeijfaa
open Go Go.RowKit
set_option linter.unusedVariables false
set_option maxRecDepth 8000

/-- The contracts of both pruners of what tells of a sum. -/
theorem reif_specs {d : Doms} {c : Con} (h : ReifOk d c) (hsm : ∀ x ∈ d, x.length * 64 + 1048576 ≤ 140737488355328) : ∃ R : Option Doms, (∀ out, R = some out → out.length = d.length ∧ [] ∉ out ∧ ∀ x ∈ out, Fine x) ∧
    Spec Try.prog 36 false [doms d, .agg (cC c)] (pruneRes R) ∧ Spec Try.prog 37 false [doms d, .agg (cC c)] [.val (doms (R.getD [])), .val (.bool R.isSome)] := by
  obtain ⟨RS, hrs, hs1, hs2⟩ := lin_specs0 h.sum hsm
  obtain ⟨RN, hrn, hn1, hn2⟩ := lin_specs0 h.sumN hsm
  have hsf : SumFine d c.vars c.coefs := h.sum.fine
  have hsi := hsf.in_
  have hb := h.sum.big
  have hb2 := h.sumN.big
  have ha := absK_pos (sumOf c).rhs
  have ha2 := absK_pos (notW (sumOf c)).rhs
  have hy : soW (endsRW d c.vars c.coefs) (sumOf c) = yesW d c := by rw [← so_same hsf (by show weightK (sumOf c).coefs ≤ _; omega)]; rfl
  have hz : soW (endsRW d (notW (sumOf c)).vars (notW (sumOf c)).coefs) (notW (sumOf c)) = noW d c := by rw [← so_same h.sumN.fine (by omega)]; rfl
  refine ⟨reifW d c RS RN, ?_, lreif_spec d c hsi h.con h.b (fun x hx => by have := hsm x hx; omega) RS RN (fun _ _ _ _ => hs1) (fun _ _ _ _ _ => hn1), ?_⟩
  · intro out ho
    have hm : [] ∉ d := by
      intro hm
      unfold reifW at ho
      rw [if_pos hm] at ho
      cases ho
    have hk : ∀ v, keepO d c.b v = some out → out.length = d.length ∧ [] ∉ out ∧ ∀ x ∈ out, Fine x := by
      intro v hv
      unfold keepO at hv
      split at hv
      · cases hv
      · rename_i hne
        cases hv
        have hx := hsf.dom _ (domAt_mem h.b.2)
        obtain ⟨h1, h2⟩ := domCut_ok hx.ok v v
        exact ⟨by simp, fun hc => hne ((set_empty h.b.2 hm).1 hc), mem_set hsf.dom (hx.cut h1 fun w hw => ((h2 w).1 hw).1)⟩
    unfold reifW at ho
    rw [if_neg hm] at ho
    split at ho
    · exact hk _ ho
    · split at ho
      · exact hk _ ho
      · split at ho
        · exact hrs out ho
        · split at ho
          · exact hrn out ho
          · cases ho
            exact ⟨rfl, hm, hsf.dom⟩
  · rw [← reif_same h.b hsf.dom h.truth RS RN]
    exact rreif_spec d c hsi h.con h.b _ _ hy hz RS RN (fun _ => hs2) (fun _ => hn2)
theorem law_reifs (o : Case) (ho : CaseB o) : Spec Try.prog 8 true [.agg (cCase o)] [.val (.bool true)] := by
  refine Spec.body Try.func8 rfl rfl rfl fun w0 Z0 => ?_
  have hlaid := laid_spec o 4 ho
  have hcb := laid_conB ho 4
  have hf := laid_fine o
  have hlen := laid_len o
  have hin := fun h => reif_in (d := laidD o) (c := laidC o 4) hcb h rfl hf (by omega)
  have hok : laidOK o 4 = decide (conR (laidD o) (laidC o 4) = 0) := rfl
  have hsmall : ∀ x ∈ laidD o, x.length * 64 + 1048576 ≤ 140737488355328 := by
    intro x hx
    obtain ⟨y, _, rfl⟩ := List.mem_map.1 hx
    have := smallR_length (y.take 6)
    omega
  generalize laidD o = d at *
  generalize laidC o 4 = c at *
  generalize laidOK o 4 = ok at *
  repeat' first | refine T.seq ?_ | refine T.block ?_ | refine T.r ?_ | refine J.e rfl rfl rfl rfl ?_ | refine J.nil ?_ | refine J.skip rfl rfl rfl ?_ | refine T.skip ?_ | refine T.exit ?_ | refine T.ret ?_ | refine T.rd rfl (by kernel_rfl) ?_ | refine J.bx rfl rfl rfl rfl rfl rfl ?_
  refine J.cc rfl rfl rfl rfl rfl hlaid rfl rfl ?_
  repeat' first | refine T.seq ?_ | refine T.block ?_ | refine T.r ?_ | refine J.e rfl rfl rfl rfl ?_ | refine J.nil ?_ | refine J.skip rfl rfl rfl ?_ | refine T.skip ?_ | refine T.exit ?_ | refine T.ret ?_ | refine T.rd rfl (by kernel_rfl) ?_ | refine J.bx rfl rfl rfl rfl rfl rfl ?_
  refine J.al rfl rfl rfl rfl rfl rfl rfl ?_
  repeat' first | refine T.seq ?_ | refine T.block ?_ | refine T.r ?_ | refine J.e rfl rfl rfl rfl ?_ | refine J.nil ?_ | refine J.skip rfl rfl rfl ?_ | refine T.skip ?_ | refine T.exit ?_ | refine T.ret ?_ | refine T.rd rfl (by kernel_rfl) ?_ | refine J.bx rfl rfl rfl rfl rfl rfl ?_
  refine J.w rfl rfl rfl rfl rfl rfl rfl rfl rfl rfl ?_
  repeat' first | refine T.seq ?_ | refine T.block ?_ | refine T.r ?_ | refine J.e rfl rfl rfl rfl ?_ | refine J.nil ?_ | refine J.skip rfl rfl rfl ?_ | refine T.skip ?_ | refine T.exit ?_ | refine T.ret ?_ | refine T.rd rfl (by kernel_rfl) ?_ | refine J.bx rfl rfl rfl rfl rfl rfl ?_
  cases ok
  · refine T.ct rfl ?_
    repeat' first | refine T.seq ?_ | refine T.block ?_ | refine T.r ?_ | refine J.e rfl rfl rfl rfl ?_ | refine J.nil ?_ | refine J.skip rfl rfl rfl ?_ | refine T.skip ?_ | refine T.exit ?_ | refine T.ret ?_ | refine T.rd rfl (by kernel_rfl) ?_ | refine J.bx rfl rfl rfl rfl rfl rfl ?_
    refine J.cc rfl rfl rfl rfl rfl gfixed_spec rfl rfl ?_
    repeat' first | refine T.seq ?_ | refine T.block ?_ | refine T.r ?_ | refine J.e rfl rfl rfl rfl ?_ | refine J.nil ?_ | refine J.skip rfl rfl rfl ?_ | refine T.skip ?_ | refine T.exit ?_ | refine T.ret ?_ | refine T.rd rfl (by kernel_rfl) ?_ | refine J.bx rfl rfl rfl rfl rfl rfl ?_
    exact ⟨_, .v rfl rfl rfl (fun h => by cases h) .nil⟩
  · refine T.cf rfl ?_
    obtain ⟨R, hres, hpr, hpr2⟩ := reif_specs (hin (by simpa using hok.symm)) hsmall
    have hpr : Spec Try.prog 36 false [doms d, .agg (cC c)] [.val (doms (R.getD [])), .val (.bool R.isSome)] := hpr.frz
    have hsd := sames_spec d d (by omega) (fun x hx => by have := (hf x hx).len; omega)
    rw [decide_eq_true rfl] at hsd
    have hRl : (R.getD []).length ≤ 4 ∧ ∀ x ∈ R.getD [], x.length * 16 + 1048576 ≤ 140737488355328 := by
      cases R with
      | none => exact ⟨by simp, by simp⟩
      | some out => exact ⟨by simp only [Option.getD_some]; rw [(hres out rfl).1]; omega, fun x hx => ((hres out rfl).2.2 x hx).len⟩
    have hsr := sames_spec (R.getD []) (R.getD []) (by omega) (fun x hx => by have := hRl.2 x hx; omega)
    rw [decide_eq_true rfl] at hsr
    refine T.skip ?_
    refine T.seq ?_
    refine T.r ?_
    repeat' first | refine J.e rfl rfl rfl rfl ?_ | refine J.skip rfl rfl rfl ?_ | refine J.bx rfl rfl rfl rfl rfl rfl ?_
    refine J.cc rfl rfl rfl rfl rfl (lists_spec d (by omega) (fun x hx => by have := (hf x hx).len; omega)) rfl rfl ?_
    repeat' first | refine J.e rfl rfl rfl rfl ?_ | refine J.skip rfl rfl rfl ?_ | refine J.bx rfl rfl rfl rfl rfl rfl ?_
    refine J.nil ?_
    refine T.sub (Rel.frz (s := 3) (fun _ h => h) rfl rfl) ?_
    refine T.sub (Rel.frz (s := 6) (fun _ h => h) rfl rfl) ?_
    refine T.sub (Rel.unbx (s := 4) (fun _ h => h) rfl rfl) ?_
    refine T.canon (keep := [3, 4, 6]) (os := []) rfl ?_
    refine T.snap [3, 6] [4] fun w1 vs hfx => ?_
    have hfx3 := hfx 3 _ _ rfl
    have hfx6 := hfx 6 _ _ rfl
    clear hfx
    generalize R.getD [] = D at *
    generalize R.isSome = bs at *
    repeat' first | refine T.seq ?_ | refine T.block ?_ | refine T.r ?_ | refine J.e rfl rfl rfl rfl ?_ | refine J.nil ?_ | refine J.skip rfl rfl rfl ?_ | refine T.skip ?_ | refine T.exit ?_ | refine T.ret ?_ | refine T.rd rfl (by kernel_rfl) ?_ | refine J.bx rfl rfl rfl rfl rfl rfl ?_
    refine J.cc rfl rfl rfl rfl rfl hpr rfl rfl ?_
    repeat' first | refine T.seq ?_ | refine T.block ?_ | refine T.r ?_ | refine J.e rfl rfl rfl rfl ?_ | refine J.nil ?_ | refine J.skip rfl rfl rfl ?_ | refine T.skip ?_ | refine T.exit ?_ | refine T.ret ?_ | refine T.rd rfl (by kernel_rfl) ?_ | refine J.bx rfl rfl rfl rfl rfl rfl ?_
    refine J.cc rfl rfl rfl rfl rfl hpr2 rfl rfl ?_
    repeat' first | refine T.seq ?_ | refine T.block ?_ | refine T.r ?_ | refine J.e rfl rfl rfl rfl ?_ | refine J.nil ?_ | refine J.skip rfl rfl rfl ?_ | refine T.skip ?_ | refine T.exit ?_ | refine T.ret ?_ | refine T.rd rfl (by kernel_rfl) ?_ | refine J.bx rfl rfl rfl rfl rfl rfl ?_
    cases bs
    all_goals
      repeat' first | refine T.seq ?_ | refine T.block ?_ | refine T.r ?_ | refine J.e rfl rfl rfl rfl ?_ | refine J.nil ?_ | refine J.skip rfl rfl rfl ?_ | refine T.skip ?_ | refine T.exit ?_ | refine T.ret ?_ | refine T.rd rfl (by kernel_rfl) ?_ | refine J.bx rfl rfl rfl rfl rfl rfl ?_
      refine J.cc rfl rfl rfl rfl rfl hsr rfl rfl ?_
      repeat' first | refine T.seq ?_ | refine T.block ?_ | refine T.r ?_ | refine J.e rfl rfl rfl rfl ?_ | refine J.nil ?_ | refine J.skip rfl rfl rfl ?_ | refine T.skip ?_ | refine T.exit ?_ | refine T.ret ?_ | refine T.rd rfl (by kernel_rfl) ?_ | refine J.bx rfl rfl rfl rfl rfl rfl ?_
      refine T.cf rfl ?_
      repeat' first | refine T.seq ?_ | refine T.block ?_ | refine T.r ?_ | refine J.e rfl rfl rfl rfl ?_ | refine J.nil ?_ | refine J.skip rfl rfl rfl ?_ | refine T.skip ?_ | refine T.exit ?_ | refine T.ret ?_ | refine T.rd rfl (by kernel_rfl) ?_ | refine J.bx rfl rfl rfl rfl rfl rfl ?_
      refine T.canon (keep := [3, 6, 7, 11]) (os := []) rfl (T.ind (fun s : Nat × Doms => ⟨[(3, .fix (vs 3) (doms d)), (6, .fix (vs 6) (doms d)), (7, .val true (doms s.2)), (11, .val true (.int .i64 s.1))], [], 0⟩) (fun s => s.1 ≤ D.length ∧ s.2.map List.length = D.map List.length) (fun s => D.length - s.1) (0, D) ⟨by simp, rfl⟩ (fun _ _ h => h) ?_)
      rintro ⟨i, D1⟩ ⟨hi, hD1⟩ ih
      have hl1 : D1.length = D.length := by have := congrArg List.length hD1; simpa using this
      repeat' first | refine T.seq ?_ | refine T.block ?_ | refine T.r ?_ | refine J.e rfl rfl rfl rfl ?_ | refine J.nil ?_ | refine J.skip rfl rfl rfl ?_ | refine T.skip ?_ | refine T.exit ?_ | refine T.ret ?_ | refine T.rd rfl (by kernel_rfl) ?_ | refine J.bx rfl rfl rfl rfl rfl rfl ?_
      refine T.cd rfl (fun h4 => ?_) (fun h4 => ?_)
      · have h4 : i < D1.length := by simpa using h4
        repeat' first | refine T.seq ?_ | refine T.block ?_ | refine T.r ?_ | refine J.e rfl rfl rfl rfl ?_ | refine J.nil ?_ | refine J.skip rfl rfl rfl ?_ | refine T.skip ?_ | refine T.exit ?_ | refine T.ret ?_ | refine T.rd rfl (by kernel_rfl) ?_ | refine J.bx rfl rfl rfl rfl rfl rfl ?_
        refine T.canon (keep := [3, 6, 7, 11, 12]) (os := []) rfl (T.ind (fun s : Nat × Doms => ⟨[(3, .fix (vs 3) (doms d)), (6, .fix (vs 6) (doms d)), (7, .val true (doms s.2)), (11, .val true (.int .i64 i)), (12, .val true (.int .i64 s.1))], [], 0⟩) (fun s => s.1 ≤ D1[i].length ∧ s.2.map List.length = D.map List.length) (fun s => D1[i].length - s.1) (0, D1) ⟨by simp, hD1⟩ (fun _ _ h => h) ?_)
        rintro ⟨k, D2⟩ ⟨hk, hD2⟩ ih2
        have hl2 : D2.length = D.length := by have := congrArg List.length hD2; simpa using this
        have hi2 : i < D2.length := by omega
        have hle : D2[i].length = D1[i].length := by
          have e := hD2.trans hD1.symm
          have e2 : (D2.map List.length)[i]? = (D1.map List.length)[i]? := by rw [e]
          simpa [List.getElem?_eq_getElem hi2, List.getElem?_eq_getElem h4] using e2
        have hsz : D1[i].length * 16 ≤ 140737488355328 := by
          have e2 : (D1.map List.length)[i]? = (D.map List.length)[i]? := by rw [hD1]
          have hi3 : i < D.length := by omega
          simp only [List.getElem?_map, List.getElem?_eq_getElem h4, List.getElem?_eq_getElem hi3, Option.map_some, Option.some.injEq] at e2
          have := hRl.2 D[i] (List.getElem_mem hi3)
          omega
        repeat' first | refine T.seq ?_ | refine T.block ?_ | refine T.r ?_ | refine J.e rfl rfl rfl rfl ?_ | refine J.nil ?_ | refine J.skip rfl rfl rfl ?_ | refine T.skip ?_ | refine T.exit ?_ | refine T.ret ?_ | refine T.rd rfl (by kernel_rfl) ?_ | refine J.bx rfl rfl rfl rfl rfl rfl ?_
        refine J.i rfl rfl rfl rfl rfl rfl rfl rfl rfl (r := cD D2[i]) (by omega) (row_i hi2) rfl ?_
        repeat' first | refine T.seq ?_ | refine T.block ?_ | refine T.r ?_ | refine J.e rfl rfl rfl rfl ?_ | refine J.nil ?_ | refine J.skip rfl rfl rfl ?_ | refine T.skip ?_ | refine T.exit ?_ | refine T.ret ?_ | refine T.rd rfl (by kernel_rfl) ?_ | refine J.bx rfl rfl rfl rfl rfl rfl ?_
        refine T.cd rfl (fun h5 => ?_) (fun h5 => ?_)
        · have h5 : k < D2[i].length := by simpa using h5
          repeat' first | refine T.seq ?_ | refine T.block ?_ | refine T.r ?_ | refine J.e rfl rfl rfl rfl ?_ | refine J.nil ?_ | refine J.skip rfl rfl rfl ?_ | refine T.skip ?_ | refine T.exit ?_ | refine T.ret ?_ | refine T.rd rfl (by kernel_rfl) ?_ | refine J.bx rfl rfl rfl rfl rfl rfl ?_
          refine J.i rfl rfl rfl rfl rfl rfl rfl rfl rfl (r := cD D2[i]) (by omega) (row_i hi2) rfl ?_
          repeat' first | refine T.seq ?_ | refine T.block ?_ | refine T.r ?_ | refine J.e rfl rfl rfl rfl ?_ | refine J.nil ?_ | refine J.skip rfl rfl rfl ?_ | refine T.skip ?_ | refine T.exit ?_ | refine T.ret ?_ | refine T.rd rfl (by kernel_rfl) ?_ | refine J.bx rfl rfl rfl rfl rfl rfl ?_
          refine J.i rfl rfl rfl rfl rfl rfl rfl rfl rfl (r := cR D2[i][k]) (by omega) (row_i h5) rfl ?_
          repeat' first | refine T.seq ?_ | refine T.block ?_ | refine T.r ?_ | refine J.e rfl rfl rfl rfl ?_ | refine J.nil ?_ | refine J.skip rfl rfl rfl ?_ | refine T.skip ?_ | refine T.exit ?_ | refine T.ret ?_ | refine T.rd rfl (by kernel_rfl) ?_ | refine J.bx rfl rfl rfl rfl rfl rfl ?_
          refine J.tr (s := 7) (D := doms D2) [3, 6] [11, 12] (fun _ h => h) (fun _ h => h) rfl rfl rfl rfl rfl rfl rfl rfl (fun q u p hq h => by
            simp only [List.mem_cons, List.not_mem_nil, or_false] at hq
            rcases hq with rfl | rfl
            · cases h; exact hfx3
            · cases h; exact hfx6) fun D3 hsh => ?_
          obtain ⟨D3, rfl, e3⟩ := sh_doms hsh
          repeat' first | refine T.seq ?_ | refine T.block ?_ | refine T.r ?_ | refine J.e rfl rfl rfl rfl ?_ | refine J.nil ?_ | refine J.skip rfl rfl rfl ?_ | refine T.skip ?_ | refine T.exit ?_ | refine T.ret ?_ | refine T.rd rfl (by kernel_rfl) ?_ | refine J.bx rfl rfl rfl rfl rfl rfl ?_
          rw [wrap1 (l := D1[i].length) (by omega) (by omega)]
          exact T.canon (keep := [3, 6, 7, 11, 12]) (os := []) rfl (ih2 (k + 1, D3) ⟨by omega, e3.trans hD2⟩ (by simp only; omega))
        · have h5 : k = D2[i].length := by simp at h5; omega
          repeat' first | refine T.seq ?_ | refine T.block ?_ | refine T.r ?_ | refine J.e rfl rfl rfl rfl ?_ | refine J.nil ?_ | refine J.skip rfl rfl rfl ?_ | refine T.skip ?_ | refine T.exit ?_ | refine T.ret ?_ | refine T.rd rfl (by kernel_rfl) ?_ | refine J.bx rfl rfl rfl rfl rfl rfl ?_
          rw [wrap1 (l := D.length) (by omega) (by omega)]
          exact T.canon (keep := [3, 6, 7, 11]) (os := []) rfl (ih (i + 1, D2) ⟨by omega, hD2⟩ (by simp only; omega))
      · repeat' first | refine T.seq ?_ | refine T.block ?_ | refine T.r ?_ | refine J.e rfl rfl rfl rfl ?_ | refine J.nil ?_ | refine J.skip rfl rfl rfl ?_ | refine T.skip ?_ | refine T.exit ?_ | refine T.ret ?_ | refine T.rd rfl (by kernel_rfl) ?_ | refine J.bx rfl rfl rfl rfl rfl rfl ?_
        refine J.cc rfl rfl rfl rfl rfl hsd rfl rfl ?_
        repeat' first | refine T.seq ?_ | refine T.block ?_ | refine T.r ?_ | refine J.e rfl rfl rfl rfl ?_ | refine J.nil ?_ | refine J.skip rfl rfl rfl ?_ | refine T.skip ?_ | refine T.exit ?_ | refine T.ret ?_ | refine T.rd rfl (by kernel_rfl) ?_ | refine J.bx rfl rfl rfl rfl rfl rfl ?_
        refine J.cc rfl rfl rfl rfl rfl gfixed_spec rfl rfl ?_
        repeat' first | refine T.seq ?_ | refine T.block ?_ | refine T.r ?_ | refine J.e rfl rfl rfl rfl ?_ | refine J.nil ?_ | refine J.skip rfl rfl rfl ?_ | refine T.skip ?_ | refine T.exit ?_ | refine T.ret ?_ | refine T.rd rfl (by kernel_rfl) ?_ | refine J.bx rfl rfl rfl rfl rfl rfl ?_
        exact ⟨_, .v rfl rfl rfl (fun h => by cases h) .nil⟩
end Go.Proofs.Ytchajofdjeijfaa
/-! The row of LogicReifs. -/
namespace Go.Proofs.Ytchajofdjeijfaa.logicReifs
open Go.ChangeShapes Go.WideShapes Go.ChangeAt Go.RowKit
set_option linter.unusedVariables false
theorem own : ownKnob Try.prog.godebug = none := by kernel_rfl
theorem laidOut : laidOutB Try.prog = true := by kernel_rfl
set_option maxRecDepth 100000 in
theorem lifted (os : Os) (started : os.Started) (H : Type) (enc : TypeId × Value → H) :
    ReturnsInHanded {} Try.checked os 8 .any (Rows.logicReifsSpec.pre6 enc Try.prog Try.f8 Rows.logicReifsRow.domain false) (Rows.logicReifsSpec.post enc Try.prog Try.f8 false true false false) := by
  refine returnsInHanded_of_change_sized (C := Try.checked) own started (by kernel_rfl) Try.func8
    (ChangeSpec.witness6 (enc := enc) (C := Try.checked) false ⟨#[], #[.agg #[.slice none 0 0, .int .i64 0, .slice none 0 0, .slice none 0 0, .int .i64 0, .int .i64 0, .slice none 0 0, .int .i64 0, .slice none 0 0, .slice none 0 0]], []⟩ 8 (by kernel_rfl) (by kernel_rfl) (by kernel_rfl) (by kernel_rfl)) ?_
  intro W base args ds gs before hval0 hW hcnd hsz0 _
  have hsz : (DataW.weightsEach Try.prog (Try.f8.params.toList ++ Rows.logicReifsSpec.plain.varTypes Try.prog) (ds ++ gs)).all (· ≤ reachBytes) = true := hsz0
  have hval : ∀ (j : Nat) t v, Try.f8.params[j]? = some t → args[j]? = some v → Value.okWide Try.prog W .any base t v := hval0
  have hW' := hW
  obtain ⟨p, q, hA0, hV, rfl, hfz, hnd⟩ := hW
  have hA : DataW.TrodAll enc Try.prog W 0 (fun _ => true) true Try.f8.params.toList args.toList ds p := hA0
  rw [Try.params8] at hA hval hsz
  obtain ⟨v0, vs0, d0, ds0, p0, q0, hargs, rfl, rfl, h0, r0⟩ := trodAll_cons hA
  obtain ⟨rfl, rfl, rfl⟩ := trodAll_nil r0
  obtain rfl : args = #[v0] := by cases args; simp_all
  obtain ⟨rfl, rfl⟩ := trodVars_none hV
  have hv := hval 0 53 v0 rfl rfl
  obtain ⟨cs, rfl, _, _⟩ : ∃ cs, v0 = .agg cs ∧ cs.size = Try.prog.cellsOf 53 ∧ Row.okWide Try.prog W .any base 53 cs := by
    unfold Value.okWide at hv
    rw [Try.underlying53] at hv
    exact hv
  have k0 := h0
  have lt0 : ∀ x ∈ p0, x.block < W.heap.size := by obtain ⟨m, hm⟩ := k0; exact DataW.trod_lt m _ _ _ hm
  obtain ⟨fuel, hf⟩ := h0
  have hw : (DataW.weights Try.prog 53 d0).all (· ≤ reachBytes) = true := by
    have e : DataW.weightsEach Try.prog (([53] : List TypeId) ++ Rows.logicReifsSpec.plain.varTypes Try.prog) ([d0] ++ []) = DataW.weights Try.prog 53 d0 ++ [] := by
      have e0 : ∀ l : List TypeId, DataW.weightsEach (H := H) Try.prog l [] = [] := by intro l; cases l <;> rfl
      simp only [List.append_nil, List.singleton_append, DataW.weightsEach, e0]
    have h2 : (DataW.weightsEach Try.prog (([53] : List TypeId) ++ Rows.logicReifsSpec.plain.varTypes Try.prog) ([d0] ++ [])).all (· ≤ reachBytes) = true := hsz
    rw [e, List.append_nil] at h2
    exact h2
  obtain ⟨o, hrep, ho⟩ := opens_case fuel _ (d0, p0) hf hw (nf hfz fun p hp => by simp [hp])
  clear hA0 hval0 hsz0 hsz
  have hcs : (Value.agg cs).cells.toList = cs.toList := rfl
  rw [hcs] at hrep
  have harg : Rep W (fun _ => True) (.agg cs) (.agg (cCase o)) := by
    have := Rep.agg (w := W) (Z := fun _ => True) cs.toList (cCase o) hrep (case_one o)
    simpa using this
  refine ((law_reifs o ho).out W (fun _ => True) [.agg cs] (.cons harg .nil)).mono fun e W' ⟨rs, he, bel, hret⟩ => ?_
  have hrs : rs = [.bool true] := by
    have h := hret.each
    cases h with
    | cons h1 h2 => cases h2; cases h1; rfl
  subst hrs
  subst he
  exact ⟨_, rfl, _, _, _, [], _, [], hW', trodAll_mk1 (shut_bool Try.underlying4 _), trodAll_cons_mk (Below.trod laidOut (by kernel_rfl) (of_decide_eq_true (by kernel_rfl)) k0 bel lt0) trodAll_mk0, rfl, bel.frame _, fun h => by cases h⟩
theorem over : Rows.logicReifsRow.holds Try.pinned (OpenSpec.ofChange Rows.logicReifsSpec) :=
  OpenClaim.holds_of_wide 8 Try.f8 rfl rfl rfl rfl rfl rfl rfl ⟨rfl, rfl, rfl, rfl, rfl⟩ rfl rfl rfl rfl rfl (by kernel_rfl) Try.func8 (by kernel_rfl)
    (of_decide_eq_true (by kernel_rfl)) (by unfold Func.isWrapper; first | (rw [if_pos (by decide +kernel)]; kernel_rfl) | (rw [if_neg (by decide +kernel)]; exact ⟨rfl, rfl⟩))
    (fun os started H enc _ => lifted os started H enc)
theorem proved : Rows.LogicReifsSaid := over
#print axioms proved
end Go.Proofs.Ytchajofdjeijfaa.logicReifs
namespace Go.Proofs.Ytchajofdjeijfaa
/-- The row, under a short name, for the claim. -/
theorem logicReifs_holds : Rows.LogicReifsSaid := logicReifs.proved
end Go.Proofs.Ytchajofdjeijfaa
