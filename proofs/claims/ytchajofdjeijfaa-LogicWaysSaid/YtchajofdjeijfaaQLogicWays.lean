/- The statement LogicWays: the law, and its row. -/
import Derived.Test.YtchajofdjeijfaaB10
import Derived.Test.YtchajofdjeijfaaRows
import Derived.WalkKit
import Derived.ProofKit
import Derived.OpenShut
import Derived.ShutString
import Derived.ChangeOld
import Derived.Below
import Derived.SizedLaws
/-! The statement LogicWays: what its function answers. -/
namespace Go.Proofs.Ytchajofdjeijfaa
open Go Go.RowKit
set_option linter.unusedVariables false
set_option linter.unusedSimpArgs false
set_option maxRecDepth 8000

theorem SumOk.set {d : Doms} {c : Con} (h : SumOk d c) (i : Nat) {x : List (Int × Int)} (hx : Fine x) : SumOk (d.set i x) c :=
  ⟨⟨h.fine.len, h.fine.vl, fun v hv => by rw [List.length_set]; exact h.fine.vin v hv, h.fine.ck, mem_set h.fine.dom hx, by rw [List.length_set]; exact h.fine.dl⟩, h.nod, h.pos, h.op, h.big⟩
theorem ways_same {d : Doms} {c : Con} (h : ReifOk d c) (hd : d.length ≤ 4) {RS RN : Option Doms} {N M : Nat} (hS : LinAns d (sumOf c) RS N) (hN : LinAns d (notW (sumOf c)) RN M)
    (fS : ∀ out, RS = some out → out.length = d.length ∧ [] ∉ out ∧ ∀ x ∈ out, Fine x) (fN : ∀ out, RN = some out → out.length = d.length ∧ [] ∉ out ∧ ∀ x ∈ out, Fine x) :
    (domAt d c.b = [(1, 1)] → reifW d c RS RN = RS) ∧ (domAt d c.b = [(0, 0)] → reifW d c RS RN = RN) := by
  have hnn : notW (notW (sumOf c)) = sumOf c := not_not h.sum.fine.ck h.sum.op (by
    have := h.sum.big
    have := weightK_pos (sumOf c).coefs
    omega)
  by_cases hne : [] ∈ d
  · have e : reifW d c RS RN = none := by unfold reifW; rw [if_pos hne]
    unfold LinAns at hS hN
    rw [if_pos hne] at hS hN
    rw [e, hS, hN]
    exact ⟨fun _ => rfl, fun _ => rfl⟩
  · have hset : ∀ x, domAt d c.b = x → d.set c.b.toNat x = d := fun x hx => by rw [← hx]; exact set_self h.b.2
    have hyS : yesW d c = true → RS = some d := fun hy => lin_stay h.sum hne hS fS hy
    have hyN : yesW d c = true → RN = none := fun hy => lin_det hN (lin_gone h.sumN hne (by rw [hnn]; exact hy))
    have hnS : noW d c = true → RS = none := fun hy => lin_det hS (lin_gone h.sum hne hy)
    have hnN : noW d c = true → RN = some d := fun hy => lin_stay h.sumN hne hN fN hy
    unfold reifW
    rw [if_neg hne]
    constructor
    · intro hx
      unfold keepO
      rw [hx, show domCut [(1, 1)] 1 1 = [(1, 1)] by decide +kernel, show domCut [(1, 1)] 0 0 = [] by decide +kernel, hset _ hx]
      cases hy : yesW d c
      · cases hn : noW d c
        · simp [show hasV [(1, 1)] 0 = false by decide]
        · simp [hnS hn]
      · simp [hyS hy]
    · intro hx
      unfold keepO
      rw [hx, show domCut [(0, 0)] 1 1 = [] by decide +kernel, show domCut [(0, 0)] 0 0 = [(0, 0)] by decide +kernel, hset _ hx]
      cases hy : yesW d c
      · cases hn : noW d c
        · simp [show hasV [(0, 0)] 0 = true by decide, show hasV [(0, 0)] 1 = false by decide]
        · simp [hnN hn]
      · simp [hyN hy]
theorem ways_specs {d : Doms} {c : Con} (h : ReifOk d c) (hd : d.length ≤ 4) (hsm : ∀ x ∈ d, x.length * 64 + 1048576 ≤ 140737488355328) (yes : Bool) (hx : domAt d c.b = [(if yes then 1 else 0, if yes then 1 else 0)]) : ∃ R : Option Doms, (R.getD []).length ≤ 4 ∧ (∀ x ∈ R.getD [], x.length * 8 ≤ 140737488355328) ∧
    Spec Try.prog 36 false [doms d, .agg (cC c)] [.val (doms (R.getD [])), .val (.bool R.isSome)] ∧ Spec Try.prog 17 false [doms d, .agg (cC (if yes then sumOf c else notW (sumOf c)))] [.val (doms (R.getD [])), .val (.bool R.isSome)] := by
  obtain ⟨RS, N, N', s1, s2, s3⟩ := lin_ans h.sum
  obtain ⟨RN, M, M', n1, n2, n3⟩ := lin_ans h.sumN
  obtain ⟨sp1, sp2⟩ := lin_specs1 h.sum s1 s2 hsm
  obtain ⟨np1, np2⟩ := lin_specs1 h.sumN n1 n2 hsm
  obtain ⟨w1, w0⟩ := ways_same h hd s1 n1 s3 n3
  have hre := (lreif_spec d c h.sum.fine.in_ h.con h.b (fun x hx => by have := hsm x hx; omega) RS RN (fun _ _ _ _ => sp1) (fun _ _ _ _ _ => np1)).frz
  have hsz : ∀ R : Option Doms, (∀ out, R = some out → out.length = d.length ∧ [] ∉ out ∧ ∀ x ∈ out, Fine x) → (R.getD []).length ≤ 4 ∧ (∀ x ∈ R.getD [], x.length * 8 ≤ 140737488355328) := by
    intro R hR
    cases R with
    | none => exact ⟨by simp, by simp⟩
    | some out => exact ⟨by simp only [Option.getD_some]; rw [(hR out rfl).1]; omega, fun x hx => by have := ((hR out rfl).2.2 x hx).len; omega⟩
  cases yes
  · rw [w0 hx] at hre
    exact ⟨RN, (hsz RN n3).1, (hsz RN n3).2, hre, np2⟩
  · rw [w1 hx] at hre
    exact ⟨RS, (hsz RS s3).1, (hsz RS s3).2, hre, sp2⟩
theorem law_ways (o : Case) (yes : Bool) (ho : CaseB o) : Spec Try.prog 10 true [.agg (cCase o), .bool yes] [.val (.bool true)] := by
  refine Spec.body Try.func10 rfl rfl rfl fun w0 Z0 => ?_
  have hlaid := laid_spec o 4 ho
  have hcb := laid_conB ho 4
  have hf := laid_fine o
  have hlen := laid_len o
  have hin := fun h => reif_in (d := laidD o) (c := laidC o 4) hcb h rfl hf (by omega)
  have hok : laidOK o 4 = decide (conR (laidD o) (laidC o 4) = 0) := rfl
  have hsmall := laid_small o
  generalize laidD o = d at *
  generalize laidC o 4 = c at *
  generalize laidOK o 4 = ok at *
  repeat' first | refine T.seq ?_ | refine T.block ?_ | refine T.r ?_ | refine J.e rfl rfl rfl rfl ?_ | refine J.nil ?_ | refine J.skip rfl rfl rfl ?_ | refine T.skip ?_ | refine T.exit ?_ | refine T.ret ?_ | refine T.rd rfl (by kernel_rfl) ?_ | refine J.bx rfl rfl rfl rfl rfl rfl ?_
  refine J.cc rfl rfl rfl rfl rfl hlaid rfl rfl ?_
  repeat' first | refine T.seq ?_ | refine T.block ?_ | refine T.r ?_ | refine J.e rfl rfl rfl rfl ?_ | refine J.nil ?_ | refine J.skip rfl rfl rfl ?_ | refine T.skip ?_ | refine T.exit ?_ | refine T.ret ?_ | refine T.rd rfl (by kernel_rfl) ?_ | refine J.bx rfl rfl rfl rfl rfl rfl ?_
  refine J.al rfl rfl rfl rfl rfl rfl rfl ?_
  repeat' first | refine T.seq ?_ | refine T.block ?_ | refine T.r ?_ | refine J.e rfl rfl rfl rfl ?_ | refine J.nil ?_ | refine J.skip rfl rfl rfl ?_ | refine T.skip ?_ | refine T.exit ?_ | refine T.ret ?_ | refine T.rd rfl (by kernel_rfl) ?_ | refine J.bx rfl rfl rfl rfl rfl rfl ?_
  refine J.w rfl rfl rfl rfl rfl rfl rfl rfl rfl rfl ?_
  repeat' first | refine T.seq ?_ | refine T.block ?_ | refine T.r ?_ | refine J.e rfl rfl rfl rfl ?_ | refine J.nil ?_ | refine J.skip rfl rfl rfl ?_ | refine T.skip ?_ | refine T.exit ?_ | refine T.ret ?_ | refine T.rd rfl (by kernel_rfl) ?_ | refine J.bx rfl rfl rfl rfl rfl rfl ?_
  cases ok
  · refine T.ct rfl ?_
    repeat' first | refine T.seq ?_ | refine T.block ?_ | refine T.r ?_ | refine J.e rfl rfl rfl rfl ?_ | refine J.nil ?_ | refine J.skip rfl rfl rfl ?_ | refine T.skip ?_ | refine T.exit ?_ | refine T.ret ?_ | refine T.rd rfl (by kernel_rfl) ?_ | refine J.bx rfl rfl rfl rfl rfl rfl ?_
    refine J.cc rfl rfl rfl rfl rfl gfixed_spec rfl rfl ?_
    repeat' first | refine T.seq ?_ | refine T.block ?_ | refine T.r ?_ | refine J.e rfl rfl rfl rfl ?_ | refine J.nil ?_ | refine J.skip rfl rfl rfl ?_ | refine T.skip ?_ | refine T.exit ?_ | refine T.ret ?_ | refine T.rd rfl (by kernel_rfl) ?_ | refine J.bx rfl rfl rfl rfl rfl rfl ?_
    exact ⟨_, .v rfl rfl rfl (fun h => by cases h) .nil⟩
  · refine T.cf rfl ?_
    have hre := hin (by simpa using hok.symm)
    have hb := hre.b
    have hnot := rnot_spec (sumOf c) hre.con
    have hx : Fine [(if yes then 1 else 0, if yes then 1 else 0)] := by cases yes <;> exact fine_one _ _ (by decide) (by decide) (by decide)
    have hre2 : ReifOk (d.set c.b.toNat [(if yes then 1 else 0, if yes then 1 else 0)]) c :=
      ⟨hre.sum.set _ hx, hre.sumN.set _ hx, hre.con, ⟨hb.1, by rw [List.length_set]; exact hb.2⟩, by rw [domAt_set hb.2, if_pos rfl]; cases yes <;> decide, hre.apart⟩
    obtain ⟨R, hRl, hRx, hpr, hpr2⟩ := ways_specs hre2 (by rw [List.length_set]; exact hlen) (mem_set hsmall (by simp)) yes (by rw [domAt_set hb.2, if_pos rfl])
    have hsr := sames_spec (R.getD []) (R.getD []) (by omega) hRx
    rw [decide_eq_true rfl] at hsr
    generalize R.getD [] = D at *
    generalize R.isSome = bs at *
    repeat' first | refine T.seq ?_ | refine T.block ?_ | refine T.r ?_ | refine J.e rfl rfl rfl rfl ?_ | refine J.nil ?_ | refine J.skip rfl rfl rfl ?_ | refine T.skip ?_ | refine T.exit ?_ | refine T.ret ?_ | refine T.rd rfl (by kernel_rfl) ?_ | refine J.bx rfl rfl rfl rfl rfl rfl ?_
    refine J.al rfl rfl rfl rfl rfl rfl rfl ?_
    refine J.w rfl rfl rfl rfl rfl rfl rfl rfl rfl rfl ?_
    repeat' first | refine T.seq ?_ | refine T.block ?_ | refine T.r ?_ | refine J.e rfl rfl rfl rfl ?_ | refine J.nil ?_ | refine J.skip rfl rfl rfl ?_ | refine T.skip ?_ | refine T.exit ?_ | refine T.ret ?_ | refine T.rd rfl (by kernel_rfl) ?_ | refine J.bx rfl rfl rfl rfl rfl rfl ?_
    cases yes
    · refine T.cf rfl ?_
      repeat' first | refine T.seq ?_ | refine T.block ?_ | refine T.r ?_ | refine J.e rfl rfl rfl rfl ?_ | refine J.nil ?_ | refine J.skip rfl rfl rfl ?_ | refine T.skip ?_ | refine T.exit ?_ | refine T.ret ?_ | refine T.rd rfl (by kernel_rfl) ?_ | refine J.bx rfl rfl rfl rfl rfl rfl ?_
      refine J.cc rfl rfl rfl rfl rfl hnot rfl rfl ?_
      refine J.w rfl rfl rfl rfl rfl rfl rfl rfl rfl rfl ?_
      repeat' first | refine T.seq ?_ | refine T.block ?_ | refine T.r ?_ | refine J.e rfl rfl rfl rfl ?_ | refine J.nil ?_ | refine J.skip rfl rfl rfl ?_ | refine T.skip ?_ | refine T.exit ?_ | refine T.ret ?_ | refine T.rd rfl (by kernel_rfl) ?_ | refine J.bx rfl rfl rfl rfl rfl rfl ?_
      refine J.bv rfl rfl rfl rfl rfl rfl rfl rfl rfl rfl rfl rfl ?_
      refine J.io rfl rfl rfl rfl rfl rfl rfl rfl rfl hb.1 (by simpa using hb.2) rfl ?_
      refine J.w1 rfl rfl rfl rfl rfl rfl rfl rfl rfl rfl rfl (z := [(0, 0)]) (fun _ => rfl) hb.2 ?_
      repeat' first | refine T.seq ?_ | refine T.block ?_ | refine T.r ?_ | refine J.e rfl rfl rfl rfl ?_ | refine J.nil ?_ | refine J.skip rfl rfl rfl ?_ | refine T.skip ?_ | refine T.exit ?_ | refine T.ret ?_ | refine T.rd rfl (by kernel_rfl) ?_ | refine J.bx rfl rfl rfl rfl rfl rfl ?_
      refine J.cc rfl rfl rfl rfl rfl hpr rfl rfl ?_
      repeat' first | refine T.seq ?_ | refine T.block ?_ | refine T.r ?_ | refine J.e rfl rfl rfl rfl ?_ | refine J.nil ?_ | refine J.skip rfl rfl rfl ?_ | refine T.skip ?_ | refine T.exit ?_ | refine T.ret ?_ | refine T.rd rfl (by kernel_rfl) ?_ | refine J.bx rfl rfl rfl rfl rfl rfl ?_
      refine J.cc rfl rfl rfl rfl rfl hpr2 rfl rfl ?_
      repeat' first | refine T.seq ?_ | refine T.block ?_ | refine T.r ?_ | refine J.e rfl rfl rfl rfl ?_ | refine J.nil ?_ | refine J.skip rfl rfl rfl ?_ | refine T.skip ?_ | refine T.exit ?_ | refine T.ret ?_ | refine T.rd rfl (by kernel_rfl) ?_ | refine J.bx rfl rfl rfl rfl rfl rfl ?_
      cases bs
      all_goals
        repeat' first | refine T.seq ?_ | refine T.block ?_ | refine T.r ?_ | refine J.e rfl rfl rfl rfl ?_ | refine J.nil ?_ | refine J.skip rfl rfl rfl ?_ | refine T.skip ?_ | refine T.exit ?_ | refine T.ret ?_ | refine T.rd rfl (by kernel_rfl) ?_ | refine J.bx rfl rfl rfl rfl rfl rfl ?_
        refine J.cc rfl rfl rfl rfl rfl hsr rfl rfl ?_
        repeat' first | refine T.seq ?_ | refine T.block ?_ | refine T.r ?_ | refine J.e rfl rfl rfl rfl ?_ | refine J.nil ?_ | refine J.skip rfl rfl rfl ?_ | refine T.skip ?_ | refine T.exit ?_ | refine T.ret ?_ | refine T.rd rfl (by kernel_rfl) ?_ | refine J.bx rfl rfl rfl rfl rfl rfl ?_
        refine J.cc rfl rfl rfl rfl rfl gfixed_spec rfl rfl ?_
        repeat' first | refine T.seq ?_ | refine T.block ?_ | refine T.r ?_ | refine J.e rfl rfl rfl rfl ?_ | refine J.nil ?_ | refine J.skip rfl rfl rfl ?_ | refine T.skip ?_ | refine T.exit ?_ | refine T.ret ?_ | refine T.rd rfl (by kernel_rfl) ?_ | refine J.bx rfl rfl rfl rfl rfl rfl ?_
        exact ⟨_, .v rfl rfl rfl (fun h => by cases h) .nil⟩
    · refine T.ct rfl ?_
      repeat' first | refine T.seq ?_ | refine T.block ?_ | refine T.r ?_ | refine J.e rfl rfl rfl rfl ?_ | refine J.nil ?_ | refine J.skip rfl rfl rfl ?_ | refine T.skip ?_ | refine T.exit ?_ | refine T.ret ?_ | refine T.rd rfl (by kernel_rfl) ?_ | refine J.bx rfl rfl rfl rfl rfl rfl ?_
      refine J.bv rfl rfl rfl rfl rfl rfl rfl rfl rfl rfl rfl rfl ?_
      refine J.io rfl rfl rfl rfl rfl rfl rfl rfl rfl hb.1 (by simpa using hb.2) rfl ?_
      refine J.w1 rfl rfl rfl rfl rfl rfl rfl rfl rfl rfl rfl (z := [(1, 1)]) (fun _ => rfl) hb.2 ?_
      repeat' first | refine T.seq ?_ | refine T.block ?_ | refine T.r ?_ | refine J.e rfl rfl rfl rfl ?_ | refine J.nil ?_ | refine J.skip rfl rfl rfl ?_ | refine T.skip ?_ | refine T.exit ?_ | refine T.ret ?_ | refine T.rd rfl (by kernel_rfl) ?_ | refine J.bx rfl rfl rfl rfl rfl rfl ?_
      refine J.cc rfl rfl rfl rfl rfl hpr rfl rfl ?_
      repeat' first | refine T.seq ?_ | refine T.block ?_ | refine T.r ?_ | refine J.e rfl rfl rfl rfl ?_ | refine J.nil ?_ | refine J.skip rfl rfl rfl ?_ | refine T.skip ?_ | refine T.exit ?_ | refine T.ret ?_ | refine T.rd rfl (by kernel_rfl) ?_ | refine J.bx rfl rfl rfl rfl rfl rfl ?_
      refine J.cc rfl rfl rfl rfl rfl hpr2 rfl rfl ?_
      repeat' first | refine T.seq ?_ | refine T.block ?_ | refine T.r ?_ | refine J.e rfl rfl rfl rfl ?_ | refine J.nil ?_ | refine J.skip rfl rfl rfl ?_ | refine T.skip ?_ | refine T.exit ?_ | refine T.ret ?_ | refine T.rd rfl (by kernel_rfl) ?_ | refine J.bx rfl rfl rfl rfl rfl rfl ?_
      cases bs
      all_goals
        repeat' first | refine T.seq ?_ | refine T.block ?_ | refine T.r ?_ | refine J.e rfl rfl rfl rfl ?_ | refine J.nil ?_ | refine J.skip rfl rfl rfl ?_ | refine T.skip ?_ | refine T.exit ?_ | refine T.ret ?_ | refine T.rd rfl (by kernel_rfl) ?_ | refine J.bx rfl rfl rfl rfl rfl rfl ?_
        refine J.cc rfl rfl rfl rfl rfl hsr rfl rfl ?_
        repeat' first | refine T.seq ?_ | refine T.block ?_ | refine T.r ?_ | refine J.e rfl rfl rfl rfl ?_ | refine J.nil ?_ | refine J.skip rfl rfl rfl ?_ | refine T.skip ?_ | refine T.exit ?_ | refine T.ret ?_ | refine T.rd rfl (by kernel_rfl) ?_ | refine J.bx rfl rfl rfl rfl rfl rfl ?_
        refine J.cc rfl rfl rfl rfl rfl gfixed_spec rfl rfl ?_
        repeat' first | refine T.seq ?_ | refine T.block ?_ | refine T.r ?_ | refine J.e rfl rfl rfl rfl ?_ | refine J.nil ?_ | refine J.skip rfl rfl rfl ?_ | refine T.skip ?_ | refine T.exit ?_ | refine T.ret ?_ | refine T.rd rfl (by kernel_rfl) ?_ | refine J.bx rfl rfl rfl rfl rfl rfl ?_
        exact ⟨_, .v rfl rfl rfl (fun h => by cases h) .nil⟩
end Go.Proofs.Ytchajofdjeijfaa
/-! The row of LogicWays. -/
namespace Go.Proofs.Ytchajofdjeijfaa.logicWays
open Go.ChangeShapes Go.WideShapes Go.ChangeAt Go.RowKit
set_option linter.unusedVariables false
theorem own : ownKnob Try.prog.godebug = none := by kernel_rfl
theorem laidOut : laidOutB Try.prog = true := by kernel_rfl
set_option maxRecDepth 100000 in
theorem lifted (os : Os) (started : os.Started) (H : Type) (enc : TypeId × Value → H) :
    ReturnsInHanded {} Try.checked os 10 .any (Rows.logicWaysSpec.pre6 enc Try.prog Try.f10 Rows.logicWaysRow.domain false) (Rows.logicWaysSpec.post enc Try.prog Try.f10 false true false false) := by
  refine returnsInHanded_of_change_sized (C := Try.checked) own started (by kernel_rfl) Try.func10
    (ChangeSpec.witness6 (enc := enc) (C := Try.checked) false ⟨#[], #[.agg #[.slice none 0 0, .int .i64 0, .slice none 0 0, .slice none 0 0, .int .i64 0, .int .i64 0, .slice none 0 0, .int .i64 0, .slice none 0 0, .slice none 0 0], .bool false], []⟩ 8 (by kernel_rfl) (by kernel_rfl) (by kernel_rfl) (by kernel_rfl)) ?_
  intro W base args ds gs before hval0 hW hcnd hsz0 _
  have hsz : (DataW.weightsEach Try.prog (Try.f10.params.toList ++ Rows.logicWaysSpec.plain.varTypes Try.prog) (ds ++ gs)).all (· ≤ reachBytes) = true := hsz0
  have hval : ∀ (j : Nat) t v, Try.f10.params[j]? = some t → args[j]? = some v → Value.okWide Try.prog W .any base t v := hval0
  have hW' := hW
  obtain ⟨p, q, hA0, hV, rfl, hfz, hnd⟩ := hW
  have hA : DataW.TrodAll enc Try.prog W 0 (fun _ => true) true Try.f10.params.toList args.toList ds p := hA0
  rw [Try.params10] at hA hval hsz
  obtain ⟨v0, vs0, d0, ds0, p0, q0, hargs, rfl, rfl, h0, r0⟩ := trodAll_cons hA
  obtain ⟨v1, vs1, d1, ds1, p1, q1, rfl, rfl, rfl, h1, r1⟩ := trodAll_cons r0
  obtain ⟨rfl, rfl, rfl⟩ := trodAll_nil r1
  obtain rfl : args = #[v0, v1] := by cases args; simp_all
  obtain ⟨rfl, rfl⟩ := trodVars_none hV
  have hv0 := hval 0 53 v0 rfl rfl
  obtain ⟨cs0, rfl, _, _⟩ : ∃ cs, v0 = .agg cs ∧ cs.size = Try.prog.cellsOf 53 ∧ Row.okWide Try.prog W .any base 53 cs := by
    unfold Value.okWide at hv0
    rw [Try.underlying53] at hv0
    exact hv0
  have k0 := h0
  have lt0 : ∀ x ∈ p0, x.block < W.heap.size := by obtain ⟨m, hm⟩ := k0; exact DataW.trod_lt m _ _ _ hm
  obtain ⟨fuel0, hf0⟩ := h0
  obtain ⟨a1, rfl, rfl, rfl⟩ := open_bool Try.underlying4 (hval 1 4 v1 rfl rfl) h1
  have hw : (DataW.weightsEach Try.prog (53 :: 4 :: Rows.logicWaysSpec.plain.varTypes Try.prog) (d0 :: .lit (.bool a1) :: [])).all (· ≤ reachBytes) = true := hsz
  rw [DataW.weightsEach, List.all_append, Bool.and_eq_true] at hw
  obtain ⟨hw0, hw⟩ := hw
  rw [DataW.weightsEach, List.all_append, Bool.and_eq_true] at hw
  obtain ⟨hw1, hw⟩ := hw
  obtain ⟨o, hrep0, ho⟩ := opens_case fuel0 _ (d0, p0) hf0 hw0 (nf hfz fun p hp => by simp [hp])
  clear hA0 hval0 hsz0 hsz hw
  have hcs0 : (Value.agg cs0).cells.toList = cs0.toList := rfl
  rw [hcs0] at hrep0
  have harg0 : Rep W (fun _ => True) (.agg cs0) (.agg (cCase o)) := by
    have := Rep.agg (w := W) (Z := fun _ => True) cs0.toList (cCase o) hrep0 (case_one o)
    simpa using this
  refine ((law_ways o a1 ho).out W (fun _ => True) [.agg cs0, .bool a1] (.cons harg0 (.cons (.bool _) .nil))).mono fun e W' ⟨rs, he, bel, hret⟩ => ?_
  have hrs : rs = [.bool true] := by
    have h := hret.each
    cases h with
    | cons h1 h2 => cases h2; cases h1; rfl
  subst hrs
  subst he
  exact ⟨_, rfl, _, _, _, [], _, [], hW', trodAll_mk1 (shut_bool Try.underlying4 _), trodAll_cons_mk (Below.trod laidOut (by kernel_rfl) (of_decide_eq_true (by kernel_rfl)) k0 bel lt0) (trodAll_cons_mk (shut_bool Try.underlying4 _) trodAll_mk0), rfl, bel.frame _, fun h => by cases h⟩
theorem over : Rows.logicWaysRow.holds Try.pinned (OpenSpec.ofChange Rows.logicWaysSpec) :=
  OpenClaim.holds_of_wide 10 Try.f10 rfl rfl rfl rfl rfl rfl rfl ⟨rfl, rfl, rfl, rfl, rfl⟩ rfl rfl rfl rfl rfl (by kernel_rfl) Try.func10 (by kernel_rfl)
    (of_decide_eq_true (by kernel_rfl)) (by unfold Func.isWrapper; first | (rw [if_pos (by decide +kernel)]; kernel_rfl) | (rw [if_neg (by decide +kernel)]; exact ⟨rfl, rfl⟩))
    (fun os started H enc _ => lifted os started H enc)
theorem proved : Rows.LogicWaysSaid := over
#print axioms proved
end Go.Proofs.Ytchajofdjeijfaa.logicWays
namespace Go.Proofs.Ytchajofdjeijfaa
/-- The row, under a short name, for the claim. -/
theorem logicWays_holds : Rows.LogicWaysSaid := logicWays.proved
end Go.Proofs.Ytchajofdjeijfaa
