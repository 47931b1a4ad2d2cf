/- The statement UnlikeMatches: the law, and its row. -/
import Derived.Test.YtdflkbmpbblcfaaB8
import Derived.Test.YtdflkbmpbblcfaaRows
import Derived.WalkKit
import Derived.ProofKit
import Derived.OpenShut
import Derived.ShutString
import Derived.ChangeOld
import Derived.Below
import Derived.SizedLaws
/-! The statement UnlikePrunes: what its function answers. -/
namespace Go.Proofs.Ytdflkbmpbblcfaa
open Go Go.RowKit
set_option linter.unusedVariables false
set_option maxRecDepth 8000

theorem laidU_few (o : Few) : FewD (laidU o) ∧ (laidU o).length ≤ 5 := by
  have h5 : (laidU o).length ≤ 5 := by simp [laidU]; omega
  refine ⟨⟨by omega, fun x hx => ?_, fun x hx => ?_⟩, h5⟩
  · obtain ⟨y, _, rfl⟩ := List.mem_map.1 hx
    exact small_fine _
  · obtain ⟨y, _, rfl⟩ := List.mem_map.1 hx
    have := (smallR_ok (y.take 8)).2.2
    omega
theorem okU_vars {d : Doms} {vars : List Int} (hb : (vars.length + 1) * 8 ≤ 140737488355328) (h : conR d (conU vars) = 0) : VarsU d vars ∧ vars ≠ [] := by
  unfold conR at h
  rw [if_neg (by simp [conU])] at h
  split at h
  · cases h
  · rename_i h2
    split at h
    · cases h
    · rename_i h3
      have h2 := by simpa using h2
      have hu := (uses_in (conU_B hb) (List.all_eq_true.2 h2)).1.2
      have h3 : rightR d (conU vars) = true := by simpa using h3
      rw [show rightR d (conU vars) = (noneR (conU vars) && plainR (conU vars) && manyR (conU vars)) from rfl] at h3
      simp only [Bool.and_eq_true] at h3
      have h4 := h3.2
      simp only [manyR, Bool.and_eq_true, decide_eq_true_eq] at h4
      refine ⟨⟨h4.2, hu⟩, fun e => ?_⟩
      have h5 : 0 < vars.length := h4.1
      rw [e] at h5
      cases h5
theorem law_uprunes (o : Few) (ho : FewB o) : Spec Try.prog 3 true [.agg (cFew o)] [.val (.bool true)] := by
  refine Spec.body Try.func3 rfl rfl rfl fun w0 Z0 => ?_
  have hlaid := laid8_spec o ho
  have hok : okU o = decide (conR (laidU o) (conU o.vars) = 0) := rfl
  obtain ⟨hf, hlen⟩ := laidU_few o
  have hvb := ho.2.2.1
  generalize laidU o = d at *
  generalize o.vars = vars at *
  generalize okU o = ok at *
  repeat' first | refine T.seq ?_ | refine T.block ?_ | refine T.r ?_ | refine J.e rfl rfl rfl rfl ?_ | refine J.nil ?_ | refine J.skip rfl rfl rfl ?_ | refine T.skip ?_ | refine T.exit ?_ | refine T.ret ?_ | refine T.rd rfl (by kernel_rfl) ?_ | refine J.bx rfl rfl rfl rfl rfl rfl ?_
  refine J.cc rfl rfl rfl rfl rfl hlaid rfl rfl ?_
  repeat' first | refine T.seq ?_ | refine T.block ?_ | refine T.r ?_ | refine J.e rfl rfl rfl rfl ?_ | refine J.nil ?_ | refine J.skip rfl rfl rfl ?_ | refine T.skip ?_ | refine T.exit ?_ | refine T.ret ?_ | refine T.rd rfl (by kernel_rfl) ?_ | refine J.bx rfl rfl rfl rfl rfl rfl ?_
  refine J.al rfl rfl rfl rfl rfl rfl rfl ?_
  repeat' first | refine T.seq ?_ | refine T.block ?_ | refine T.r ?_ | refine J.e rfl rfl rfl rfl ?_ | refine J.nil ?_ | refine J.skip rfl rfl rfl ?_ | refine T.skip ?_ | refine T.exit ?_ | refine T.ret ?_ | refine T.rd rfl (by kernel_rfl) ?_ | refine J.bx rfl rfl rfl rfl rfl rfl ?_
  refine J.w rfl rfl rfl rfl rfl rfl rfl rfl rfl rfl ?_
  repeat' first | refine T.seq ?_ | refine T.block ?_ | refine T.r ?_ | refine J.e rfl rfl rfl rfl ?_ | refine J.nil ?_ | refine J.skip rfl rfl rfl ?_ | refine T.skip ?_ | refine T.exit ?_ | refine T.ret ?_ | refine T.rd rfl (by kernel_rfl) ?_ | refine J.bx rfl rfl rfl rfl rfl rfl ?_
  cases ok
  · refine T.ct rfl ?_
    repeat' first | refine T.seq ?_ | refine T.block ?_ | refine T.r ?_ | refine J.e rfl rfl rfl rfl ?_ | refine J.nil ?_ | refine J.skip rfl rfl rfl ?_ | refine T.skip ?_ | refine T.exit ?_ | refine T.ret ?_ | refine T.rd rfl (by kernel_rfl) ?_ | refine J.bx rfl rfl rfl rfl rfl rfl ?_
    refine J.cc rfl rfl rfl rfl rfl fixed8_spec rfl rfl ?_
    repeat' first | refine T.seq ?_ | refine T.block ?_ | refine T.r ?_ | refine J.e rfl rfl rfl rfl ?_ | refine J.nil ?_ | refine J.skip rfl rfl rfl ?_ | refine T.skip ?_ | refine T.exit ?_ | refine T.ret ?_ | refine T.rd rfl (by kernel_rfl) ?_ | refine J.bx rfl rfl rfl rfl rfl rfl ?_
    exact ⟨_, .v rfl rfl rfl (fun h => by cases h) .nil⟩
  · refine T.cf rfl ?_
    obtain ⟨hv, hne⟩ := okU_vars hvb (by simpa using hok.symm)
    have hpr := (uprune_few d vars hf hv hne).frz
    have hpr2 := prune8_few d vars hf hv
    have hsd := sames_spec d d hf.len8.1 hf.len8.2
    rw [decide_eq_true rfl] at hsd
    have hRl : ((prune8 d vars).getD []).length ≤ 5 ∧ ∀ x ∈ (prune8 d vars).getD [], x.length * 16 + 1048576 ≤ 140737488355328 := by
      have hsl := step8_len d vars vars d
      unfold prune8
      split
      · simp
      · split
        · simp
        · simp only [Option.getD_some]
          refine ⟨by omega, fun x hx => ?_⟩
          obtain ⟨j, hj⟩ := List.getElem?_of_mem hx
          rw [step8_at j hv.1 hv.2] at hj
          split at hj
          · obtain ⟨h1, h2, h3⟩ := left8_up hf vars (j : Int)
            obtain rfl := Option.some.inj hj
            exact (pack_fine h1 h3 h2).len
          · exact (hf.fine x (List.mem_of_getElem? hj)).len
    have hsr := sames_spec ((prune8 d vars).getD []) ((prune8 d vars).getD []) (by omega) (fun x hx => by have := hRl.2 x hx; omega)
    rw [decide_eq_true rfl] at hsr
    unfold pruneRes at hpr
    refine T.skip ?_
    refine T.seq ?_
    refine T.r ?_
    repeat' first | refine J.e rfl rfl rfl rfl ?_ | refine J.skip rfl rfl rfl ?_ | refine J.bx rfl rfl rfl rfl rfl rfl ?_
    refine J.cc rfl rfl rfl rfl rfl (lists_spec d hf.small (fun x hx => by have := (hf.fine x hx).len; omega)) rfl rfl ?_
    repeat' first | refine J.e rfl rfl rfl rfl ?_ | refine J.skip rfl rfl rfl ?_ | refine J.bx rfl rfl rfl rfl rfl rfl ?_
    refine J.nil ?_
    refine T.sub (Rel.frz (s := 3) (fun _ h => h) rfl rfl) ?_
    refine T.sub (Rel.frz (s := 6) (fun _ h => h) rfl rfl) ?_
    refine T.sub (Rel.unbx (s := 4) (fun _ h => h) rfl rfl) ?_
    refine T.canon (keep := [3, 4, 6]) (os := []) rfl ?_
    refine T.snap [3, 6] [4] fun w1 vs hfx => ?_
    have hfx3 := hfx 3 _ _ rfl
    have hfx6 := hfx 6 _ _ rfl
    clear hfx
    generalize (prune8 d vars).getD [] = D at *
    generalize (prune8 d vars).isSome = bs at *
    repeat' first | refine T.seq ?_ | refine T.block ?_ | refine T.r ?_ | refine J.e rfl rfl rfl rfl ?_ | refine J.nil ?_ | refine J.skip rfl rfl rfl ?_ | refine T.skip ?_ | refine T.exit ?_ | refine T.ret ?_ | refine T.rd rfl (by kernel_rfl) ?_ | refine J.bx rfl rfl rfl rfl rfl rfl ?_
    refine J.cc rfl rfl rfl rfl rfl hpr rfl rfl ?_
    repeat' first | refine T.seq ?_ | refine T.block ?_ | refine T.r ?_ | refine J.e rfl rfl rfl rfl ?_ | refine J.nil ?_ | refine J.skip rfl rfl rfl ?_ | refine T.skip ?_ | refine T.exit ?_ | refine T.ret ?_ | refine T.rd rfl (by kernel_rfl) ?_ | refine J.bx rfl rfl rfl rfl rfl rfl ?_
    refine J.cc rfl rfl rfl rfl rfl hpr2 rfl rfl ?_
    repeat' first | refine T.seq ?_ | refine T.block ?_ | refine T.r ?_ | refine J.e rfl rfl rfl rfl ?_ | refine J.nil ?_ | refine J.skip rfl rfl rfl ?_ | refine T.skip ?_ | refine T.exit ?_ | refine T.ret ?_ | refine J.bx rfl rfl rfl rfl rfl rfl ?_
    cases bs
    all_goals
      repeat' first | refine T.seq ?_ | refine T.block ?_ | refine T.r ?_ | refine J.e rfl rfl rfl rfl ?_ | refine J.nil ?_ | refine J.skip rfl rfl rfl ?_ | refine T.skip ?_ | refine T.exit ?_ | refine T.ret ?_ | refine T.rd rfl (by kernel_rfl) ?_ | refine J.bx rfl rfl rfl rfl rfl rfl ?_
      refine J.cc rfl rfl rfl rfl rfl hsr rfl rfl ?_
      repeat' first | refine T.seq ?_ | refine T.block ?_ | refine T.r ?_ | refine J.e rfl rfl rfl rfl ?_ | refine J.nil ?_ | refine J.skip rfl rfl rfl ?_ | refine T.skip ?_ | refine T.exit ?_ | refine T.ret ?_ | refine T.rd rfl (by kernel_rfl) ?_ | refine J.bx rfl rfl rfl rfl rfl rfl ?_
      refine T.cf2 rfl (by simp) ?_
      repeat' first | refine T.seq ?_ | refine T.block ?_ | refine T.r ?_ | refine J.e rfl rfl rfl rfl ?_ | refine J.nil ?_ | refine J.skip rfl rfl rfl ?_ | refine T.skip ?_ | refine T.exit ?_ | refine T.ret ?_ | refine T.rd rfl (by kernel_rfl) ?_ | refine J.bx rfl rfl rfl rfl rfl rfl ?_
      refine T.canon (keep := [3, 6, 7, 11]) (os := []) rfl (T.ind (fun s : Nat × Doms => ⟨[(3, .fix (vs 3) (doms d)), (6, .fix (vs 6) (doms d)), (7, .val true (doms s.2)), (11, .val true (.int .i64 s.1))], [], 0⟩) (fun s => s.1 ≤ D.length ∧ s.2.map List.length = D.map List.length) (fun s => D.length - s.1) (0, D) ⟨by simp, rfl⟩ (fun _ _ h => h) ?_)
      rintro ⟨i, D1⟩ ⟨hi, hD1⟩ ih
      have hl1 : D1.length = D.length := by have := congrArg List.length hD1; simpa using this
      repeat' first | refine T.seq ?_ | refine T.block ?_ | refine T.r ?_ | refine J.e rfl rfl rfl rfl ?_ | refine J.nil ?_ | refine J.skip rfl rfl rfl ?_ | refine T.skip ?_ | refine T.exit ?_ | refine T.ret ?_ | refine T.rd rfl (by kernel_rfl) ?_ | refine J.bx rfl rfl rfl rfl rfl rfl ?_
      refine T.cd rfl (fun h4 => ?_) (fun h4 => ?_)
      · have h4 : i < D1.length := by simpa using h4
        repeat' first | refine T.seq ?_ | refine T.block ?_ | refine T.r ?_ | refine J.e rfl rfl rfl rfl ?_ | refine J.nil ?_ | refine J.skip rfl rfl rfl ?_ | refine T.skip ?_ | refine T.exit ?_ | refine T.ret ?_ | refine T.rd rfl (by kernel_rfl) ?_ | refine J.bx rfl rfl rfl rfl rfl rfl ?_
        refine T.canon (keep := [3, 6, 7, 11, 12]) (os := []) rfl (T.ind (fun s : Nat × Doms => ⟨[(3, .fix (vs 3) (doms d)), (6, .fix (vs 6) (doms d)), (7, .val true (doms s.2)), (11, .val true (.int .i64 i)), (12, .val true (.int .i64 s.1))], [], 0⟩) (fun s => s.1 ≤ D1[i].length ∧ s.2.map List.length = D.map List.length) (fun s => D1[i].length - s.1) (0, D1) ⟨by simp, hD1⟩ (fun _ _ h => h) ?_)
        rintro ⟨k, D2⟩ ⟨hk, hD2⟩ ih2
        have hl2 : D2.length = D.length := by have := congrArg List.length hD2; simpa using this
        have hi2 : i < D2.length := by omega
        have hle : D2[i].length = D1[i].length := by
          have e := hD2.trans hD1.symm
          have e2 : (D2.map List.length)[i]? = (D1.map List.length)[i]? := by rw [e]
          simpa [List.getElem?_eq_getElem hi2, List.getElem?_eq_getElem h4] using e2
        have hsz : D1[i].length * 16 ≤ 140737488355328 := by
          have e2 : (D1.map List.length)[i]? = (D.map List.length)[i]? := by rw [hD1]
          have hi3 : i < D.length := by omega
          simp only [List.getElem?_map, List.getElem?_eq_getElem h4, List.getElem?_eq_getElem hi3, Option.map_some, Option.some.injEq] at e2
          have := hRl.2 D[i] (List.getElem_mem hi3)
          omega
        repeat' first | refine T.seq ?_ | refine T.block ?_ | refine T.r ?_ | refine J.e rfl rfl rfl rfl ?_ | refine J.nil ?_ | refine J.skip rfl rfl rfl ?_ | refine T.skip ?_ | refine T.exit ?_ | refine T.ret ?_ | refine T.rd rfl (by kernel_rfl) ?_ | refine J.bx rfl rfl rfl rfl rfl rfl ?_
        refine J.i rfl rfl rfl rfl rfl rfl rfl rfl rfl (r := cD D2[i]) (by omega) (row_i hi2) rfl ?_
        repeat' first | refine T.seq ?_ | refine T.block ?_ | refine T.r ?_ | refine J.e rfl rfl rfl rfl ?_ | refine J.nil ?_ | refine J.skip rfl rfl rfl ?_ | refine T.skip ?_ | refine T.exit ?_ | refine T.ret ?_ | refine T.rd rfl (by kernel_rfl) ?_ | refine J.bx rfl rfl rfl rfl rfl rfl ?_
        refine T.cd rfl (fun h5 => ?_) (fun h5 => ?_)
        · have h5 : k < D2[i].length := by simpa using h5
          repeat' first | refine T.seq ?_ | refine T.block ?_ | refine T.r ?_ | refine J.e rfl rfl rfl rfl ?_ | refine J.nil ?_ | refine J.skip rfl rfl rfl ?_ | refine T.skip ?_ | refine T.exit ?_ | refine T.ret ?_ | refine T.rd rfl (by kernel_rfl) ?_ | refine J.bx rfl rfl rfl rfl rfl rfl ?_
          refine J.i rfl rfl rfl rfl rfl rfl rfl rfl rfl (r := cD D2[i]) (by omega) (row_i hi2) rfl ?_
          repeat' first | refine T.seq ?_ | refine T.block ?_ | refine T.r ?_ | refine J.e rfl rfl rfl rfl ?_ | refine J.nil ?_ | refine J.skip rfl rfl rfl ?_ | refine T.skip ?_ | refine T.exit ?_ | refine T.ret ?_ | refine T.rd rfl (by kernel_rfl) ?_ | refine J.bx rfl rfl rfl rfl rfl rfl ?_
          refine J.i rfl rfl rfl rfl rfl rfl rfl rfl rfl (r := cR D2[i][k]) (by omega) (row_i h5) rfl ?_
          repeat' first | refine T.seq ?_ | refine T.block ?_ | refine T.r ?_ | refine J.e rfl rfl rfl rfl ?_ | refine J.nil ?_ | refine J.skip rfl rfl rfl ?_ | refine T.skip ?_ | refine T.exit ?_ | refine T.ret ?_ | refine T.rd rfl (by kernel_rfl) ?_ | refine J.bx rfl rfl rfl rfl rfl rfl ?_
          refine J.tr (s := 7) (D := doms D2) [3, 6] [11, 12] (fun _ h => h) (fun _ h => h) rfl rfl rfl rfl rfl rfl rfl rfl (fun q u p hq h => by
            simp only [List.mem_cons, List.not_mem_nil, or_false] at hq
            rcases hq with rfl | rfl
            · cases h; exact hfx3
            · cases h; exact hfx6) fun D3 hsh => ?_
          obtain ⟨D3, rfl, e3⟩ := sh_doms hsh
          repeat' first | refine T.seq ?_ | refine T.block ?_ | refine T.r ?_ | refine J.e rfl rfl rfl rfl ?_ | refine J.nil ?_ | refine J.skip rfl rfl rfl ?_ | refine T.skip ?_ | refine T.exit ?_ | refine T.ret ?_ | refine T.rd rfl (by kernel_rfl) ?_ | refine J.bx rfl rfl rfl rfl rfl rfl ?_
          rw [wrap1 (l := D1[i].length) (by omega) (by omega)]
          exact T.canon (keep := [3, 6, 7, 11, 12]) (os := []) rfl (ih2 (k + 1, D3) ⟨by omega, e3.trans hD2⟩ (by simp only; omega))
        · have h5 : k = D2[i].length := by simp at h5; omega
          repeat' first | refine T.seq ?_ | refine T.block ?_ | refine T.r ?_ | refine J.e rfl rfl rfl rfl ?_ | refine J.nil ?_ | refine J.skip rfl rfl rfl ?_ | refine T.skip ?_ | refine T.exit ?_ | refine T.ret ?_ | refine T.rd rfl (by kernel_rfl) ?_ | refine J.bx rfl rfl rfl rfl rfl rfl ?_
          rw [wrap1 (l := D.length) (by omega) (by omega)]
          exact T.canon (keep := [3, 6, 7, 11]) (os := []) rfl (ih (i + 1, D2) ⟨by omega, hD2⟩ (by simp only; omega))
      · repeat' first | refine T.seq ?_ | refine T.block ?_ | refine T.r ?_ | refine J.e rfl rfl rfl rfl ?_ | refine J.nil ?_ | refine J.skip rfl rfl rfl ?_ | refine T.skip ?_ | refine T.exit ?_ | refine T.ret ?_ | refine T.rd rfl (by kernel_rfl) ?_ | refine J.bx rfl rfl rfl rfl rfl rfl ?_
        refine J.cc rfl rfl rfl rfl rfl hsd rfl rfl ?_
        repeat' first | refine T.seq ?_ | refine T.block ?_ | refine T.r ?_ | refine J.e rfl rfl rfl rfl ?_ | refine J.nil ?_ | refine J.skip rfl rfl rfl ?_ | refine T.skip ?_ | refine T.exit ?_ | refine T.ret ?_ | refine T.rd rfl (by kernel_rfl) ?_ | refine J.bx rfl rfl rfl rfl rfl rfl ?_
        refine J.cc rfl rfl rfl rfl rfl fixed8_spec rfl rfl ?_
        repeat' first | refine T.seq ?_ | refine T.block ?_ | refine T.r ?_ | refine J.e rfl rfl rfl rfl ?_ | refine J.nil ?_ | refine J.skip rfl rfl rfl ?_ | refine T.skip ?_ | refine T.exit ?_ | refine T.ret ?_ | refine T.rd rfl (by kernel_rfl) ?_ | refine J.bx rfl rfl rfl rfl rfl rfl ?_
        exact ⟨_, .v rfl rfl rfl (fun h => by cases h) .nil⟩
end Go.Proofs.Ytdflkbmpbblcfaa
/-! The statement UnlikeMatches: what its function answers. -/
namespace Go.Proofs.Ytdflkbmpbblcfaa
open Go Go.RowKit
set_option linter.unusedVariables false
set_option linter.unusedSimpArgs false
set_option maxRecDepth 8000

theorem law_umatches (o : Few) (ho : FewB o) : Spec Try.prog 4 true [.agg (cFew o)] [.val (.bool true)] := by
  refine Spec.body Try.func4 rfl rfl rfl fun w0 Z0 => ?_
  have hlaid := laid8_spec o ho
  have hok : okU o = decide (conR (laidU o) (conU o.vars) = 0) := rfl
  obtain ⟨hf, hlen⟩ := laidU_few o
  have hvb := ho.2.2.1
  generalize laidU o = d at *
  generalize o.vars = vars at *
  generalize okU o = ok at *
  repeat' ((first | refine T.G rfl ?_ | refine J.G rfl ?_ | refine J.H rfl ?_ | refine T.rd rfl (by decide +kernel) ?_ | fail); conv => whnf)
  refine J.cc rfl rfl rfl rfl rfl hlaid rfl rfl ?_
  repeat' ((first | refine T.G rfl ?_ | refine J.G rfl ?_ | refine J.H rfl ?_ | refine T.rd rfl (by decide +kernel) ?_ | fail); conv => whnf)
  refine J.al rfl rfl rfl rfl rfl rfl rfl ?_
  repeat' ((first | refine T.G rfl ?_ | refine J.G rfl ?_ | refine J.H rfl ?_ | refine T.rd rfl (by decide +kernel) ?_ | fail); conv => whnf)
  refine J.w rfl rfl rfl rfl rfl rfl rfl rfl rfl rfl ?_
  repeat' ((first | refine T.G rfl ?_ | refine J.G rfl ?_ | refine J.H rfl ?_ | refine T.rd rfl (by decide +kernel) ?_ | fail); conv => whnf)
  cases ok
  · refine T.ct rfl ?_
    repeat' ((first | refine T.G rfl ?_ | refine J.G rfl ?_ | refine J.H rfl ?_ | refine T.rd rfl (by decide +kernel) ?_ | fail); conv => whnf)
    refine J.cc rfl rfl rfl rfl rfl fixed8_spec rfl rfl ?_
    repeat' ((first | refine T.G rfl ?_ | refine J.G rfl ?_ | refine J.H rfl ?_ | refine T.rd rfl (by decide +kernel) ?_ | fail); conv => whnf)
    exact ⟨_, .v rfl rfl rfl (fun h => by cases h) .nil⟩
  refine T.cf rfl ?_
  obtain ⟨hv, hne⟩ := okU_vars hvb (by simpa using hok.symm)
  have hm := (match_few d vars hf hv).frz
  have hot := oth_spec d vars hf.valD hv.2 (by omega)
  rw [oth_eq hf] at hot
  have hvl := hv.few hf
  have hL : (listsP d vars).length = vars.length := List.length_map ..
  have hmo := matchR_ok (l := listsP d vars)
  have hmn : (matchR (listsP d vars)).2 = false → (matchR (listsP d vars)).1 = [] := fun h => by
    unfold matchR at *
    cases hb : matchP (listsP d vars) with
    | none => rfl
    | some b => rw [hb] at h; cases h
  have hget : ∀ j (hj : j < vars.length), (listsP d vars).getD j [] = vals (domAt d vars[j]) := fun j hj => by rw [listsP_eq hf]; simp [hj]
  generalize listsP d vars = L at *
  generalize (matchR L).1 = a at *
  generalize (matchR L).2 = is at *
  have hal : a.length ≤ vars.length := by
    cases is with
    | true => rw [(hmo rfl).1]; omega
    | false => rw [hmn rfl]; simp
  have hnu := nums_spec a a (by omega)
  rw [decide_eq_true rfl] at hnu
  refine T.skip ?_
  refine T.sub (Rel.frz (s := 3) (fun _ h => h) rfl rfl) ?_
  refine T.sub (Rel.unbx (s := 4) (fun _ h => h) rfl rfl) ?_
  refine T.canon (keep := [3, 4]) (os := []) rfl ?_
  repeat' ((first | refine T.G rfl ?_ | refine J.G rfl ?_ | refine J.H rfl ?_ | refine T.rd rfl (by decide +kernel) ?_ | fail); conv => whnf)
  refine J.cc rfl rfl rfl rfl rfl hm rfl rfl ?_
  repeat' ((first | refine T.G rfl ?_ | refine J.G rfl ?_ | refine J.H rfl ?_ | refine T.rd rfl (by decide +kernel) ?_ | fail); conv => whnf)
  refine J.cc rfl rfl rfl rfl rfl hm rfl rfl ?_
  repeat' ((first | refine T.G rfl ?_ | refine J.G rfl ?_ | refine J.H rfl ?_ | refine T.rd rfl (by decide +kernel) ?_ | fail); conv => whnf)
  refine J.cc rfl rfl rfl rfl rfl hot rfl rfl ?_
  cases is with
  | false =>
    obtain rfl := hmn rfl
    repeat' ((first | refine T.G rfl ?_ | refine J.G rfl ?_ | refine J.H rfl ?_ | refine T.rd rfl (by decide +kernel) ?_ | fail); conv => whnf)
    have hnu0 : Spec Try.prog 17 false [ints [], ints []] [.val (.bool true)] := hnu
    refine J.cc rfl rfl rfl rfl rfl hnu0 rfl rfl ?_
    repeat' ((first | refine T.G rfl ?_ | refine J.G rfl ?_ | refine J.H rfl ?_ | refine T.rd rfl (by decide +kernel) ?_ | fail); conv => whnf)
    refine T.cf rfl ?_
    repeat' ((first | refine T.G rfl ?_ | refine J.G rfl ?_ | refine J.H rfl ?_ | refine T.rd rfl (by decide +kernel) ?_ | fail); conv => whnf)
    refine T.ct rfl ?_
    repeat' ((first | refine T.G rfl ?_ | refine J.G rfl ?_ | refine J.H rfl ?_ | refine T.rd rfl (by decide +kernel) ?_ | fail); conv => whnf)
    refine J.cc rfl rfl rfl rfl rfl fixed8_spec rfl rfl ?_
    repeat' ((first | refine T.G rfl ?_ | refine J.G rfl ?_ | refine J.H rfl ?_ | refine T.rd rfl (by decide +kernel) ?_ | fail); conv => whnf)
    exact ⟨_, .v rfl rfl rfl (fun h => by cases h) .nil⟩
  | true =>
    obtain ⟨h1, h2, h3⟩ := hmo rfl
    rw [hL] at h1 h2 h3
    repeat' ((first | refine T.G rfl ?_ | refine J.G rfl ?_ | refine J.H rfl ?_ | refine T.rd rfl (by decide +kernel) ?_ | fail); conv => whnf)
    refine J.cc rfl rfl rfl rfl rfl hnu rfl rfl ?_
    repeat' ((first | refine T.G rfl ?_ | refine J.G rfl ?_ | refine J.H rfl ?_ | refine T.rd rfl (by decide +kernel) ?_ | fail); conv => whnf)
    refine T.cf rfl ?_
    repeat' ((first | refine T.G rfl ?_ | refine J.G rfl ?_ | refine J.H rfl ?_ | refine T.rd rfl (by decide +kernel) ?_ | fail); conv => whnf)
    refine T.cf rfl ?_
    repeat' ((first | refine T.G rfl ?_ | refine J.G rfl ?_ | refine J.H rfl ?_ | refine T.rd rfl (by decide +kernel) ?_ | fail); conv => whnf)
    have han : a.Nodup := by
      rw [List.nodup_iff_pairwise_ne, List.pairwise_iff_getElem]
      intro i j hi hj hij e
      have := h3 i j (by omega) (by omega) (by show a.getD i 0 = a.getD j 0; rw [List.getD_eq_getElem?_getD, List.getD_eq_getElem?_getD, List.getElem?_eq_getElem hi, List.getElem?_eq_getElem hj, e])
      omega
    have hsl : (sortU a).length = a.length := by
      have h4 := sortU_length a
      have h5 := nodup_sub han (b := sortU a) fun x hx => (sortU_mem x a).2 hx
      omega
    refine J.g rfl rfl rfl (fun h5 => ?_) (fun h5 => ?_)
    · exact absurd (by simp [h1, conU]) h5
    repeat' ((first | refine T.G rfl ?_ | refine J.G rfl ?_ | refine J.H rfl ?_ | refine T.rd rfl (by decide +kernel) ?_ | fail); conv => whnf)
    refine J.cc rfl rfl rfl rfl rfl (sorted_spec a (by omega)) rfl rfl ?_
    repeat' ((first | refine T.G rfl ?_ | refine J.G rfl ?_ | refine J.H rfl ?_ | refine T.rd rfl (by decide +kernel) ?_ | fail); conv => whnf)
    refine T.cf2 rfl (by simp [hsl]) ?_
    repeat' ((first | refine T.G rfl ?_ | refine J.G rfl ?_ | refine J.H rfl ?_ | refine T.rd rfl (by decide +kernel) ?_ | fail); conv => whnf)
    refine T.canon (keep := [3, 4, 6, 10]) (os := []) rfl (T.ind (fun i : Nat => ⟨[(3, .val false (doms d)), (4, .fptr false (cC (conU vars))), (6, .val true (ints a)), (10, .val true (.int .i64 i))], [], 0⟩) (fun i => i ≤ a.length) (fun i => a.length - i) 0 (by simp) (fun _ _ h => h) ?_)
    rintro i hi ih
    repeat' ((first | refine T.G rfl ?_ | refine J.G rfl ?_ | refine J.H rfl ?_ | refine T.rd rfl (by decide +kernel) ?_ | fail); conv => whnf)
    refine T.cd rfl (fun h5 => ?_) (fun h5 => ?_)
    · have h5 : i < a.length := by simpa using h5
      have hiv : i < vars.length := by omega
      have hvi := hv.2 _ (List.getElem_mem hiv)
      have hdm := hf.valD.dom hvi.2
      have hvs := values_spec (domAt d vars[i]) (hf.valD.inb _ hdm) (by have := hf.valD.vals _ hdm; omega) (by have := hf.valD.len _ hdm; omega)
      have hhs := has_spec (vals (domAt d vars[i])) a[i] (by have := hf.valD.vals _ hdm; omega)
      have hmem : a[i] ∈ vals (domAt d vars[i]) := by
        have h6 := h2 i hiv
        rw [hget i hiv] at h6
        have h6 : a.getD i 0 ∈ vals (domAt d vars[i]) := h6
        rw [List.getD_eq_getElem?_getD, List.getElem?_eq_getElem h5] at h6
        exact h6
      rw [decide_eq_true hmem] at hhs
      repeat' ((first | refine T.G rfl ?_ | refine J.G rfl ?_ | refine J.H rfl ?_ | refine T.rd rfl (by decide +kernel) ?_ | fail); conv => whnf)
      refine J.i rfl rfl rfl rfl rfl rfl rfl rfl rfl (r := cI vars[i]) (by omega) (row_i hiv) rfl ?_
      repeat' ((first | refine T.G rfl ?_ | refine J.G rfl ?_ | refine J.H rfl ?_ | refine T.rd rfl (by decide +kernel) ?_ | fail); conv => whnf)
      refine J.i rfl rfl rfl rfl rfl rfl rfl rfl rfl (r := cD (domAt d vars[i])) hvi.1 (dom_row hvi.2) rfl ?_
      repeat' ((first | refine T.G rfl ?_ | refine J.G rfl ?_ | refine J.H rfl ?_ | refine T.rd rfl (by decide +kernel) ?_ | fail); conv => whnf)
      refine J.cc rfl rfl rfl rfl rfl hvs rfl rfl ?_
      repeat' ((first | refine T.G rfl ?_ | refine J.G rfl ?_ | refine J.H rfl ?_ | refine T.rd rfl (by decide +kernel) ?_ | fail); conv => whnf)
      refine J.i rfl rfl rfl rfl rfl rfl rfl rfl rfl (r := cI a[i]) (by omega) (row_i h5) rfl ?_
      repeat' ((first | refine T.G rfl ?_ | refine J.G rfl ?_ | refine J.H rfl ?_ | refine T.rd rfl (by decide +kernel) ?_ | fail); conv => whnf)
      refine J.cc rfl rfl rfl rfl rfl hhs rfl rfl ?_
      repeat' ((first | refine T.G rfl ?_ | refine J.G rfl ?_ | refine J.H rfl ?_ | refine T.rd rfl (by decide +kernel) ?_ | fail); conv => whnf)
      refine T.cf rfl ?_
      repeat' ((first | refine T.G rfl ?_ | refine J.G rfl ?_ | refine J.H rfl ?_ | refine T.rd rfl (by decide +kernel) ?_ | fail); conv => whnf)
      rw [wrap1 (l := a.length) h5 (by omega)]
      exact T.canon (keep := [3, 4, 6, 10]) (os := []) rfl (ih (i + 1) (by omega) (by omega))
    · repeat' ((first | refine T.G rfl ?_ | refine J.G rfl ?_ | refine J.H rfl ?_ | refine T.rd rfl (by decide +kernel) ?_ | fail); conv => whnf)
      refine J.cc rfl rfl rfl rfl rfl fixed8_spec rfl rfl ?_
      repeat' ((first | refine T.G rfl ?_ | refine J.G rfl ?_ | refine J.H rfl ?_ | refine T.rd rfl (by decide +kernel) ?_ | fail); conv => whnf)
      exact ⟨_, .v rfl rfl rfl (fun h => by cases h) .nil⟩
end Go.Proofs.Ytdflkbmpbblcfaa
/-! The row of UnlikeMatches. -/
namespace Go.Proofs.Ytdflkbmpbblcfaa.unlikeMatches
open Go.ChangeShapes Go.WideShapes Go.ChangeAt Go.RowKit
set_option linter.unusedVariables false
theorem own : ownKnob Try.prog.godebug = none := by kernel_rfl
theorem laidOut : laidOutB Try.prog = true := by kernel_rfl
set_option maxRecDepth 100000 in
theorem lifted (os : Os) (started : os.Started) (H : Type) (enc : TypeId × Value → H) :
    ReturnsInHanded {} Try.checked os 4 .any (Rows.unlikeMatchesSpec.pre6 enc Try.prog Try.f4 Rows.unlikeMatchesRow.domain false) (Rows.unlikeMatchesSpec.post enc Try.prog Try.f4 false true false false) := by
  refine returnsInHanded_of_change_sized (C := Try.checked) own started (by kernel_rfl) Try.func4
    (ChangeSpec.witness6 (enc := enc) (C := Try.checked) false ⟨#[], #[.agg #[.slice none 0 0, .slice none 0 0, .slice none 0 0, .slice none 0 0]], []⟩ 8 (by kernel_rfl) (by kernel_rfl) (by kernel_rfl) (by kernel_rfl)) ?_
  intro W base args ds gs before hval0 hW hcnd hsz0 _
  have hsz : (DataW.weightsEach Try.prog (Try.f4.params.toList ++ Rows.unlikeMatchesSpec.plain.varTypes Try.prog) (ds ++ gs)).all (· ≤ reachBytes) = true := hsz0
  have hval : ∀ (j : Nat) t v, Try.f4.params[j]? = some t → args[j]? = some v → Value.okWide Try.prog W .any base t v := hval0
  have hW' := hW
  obtain ⟨p, q, hA0, hV, rfl, hfz, hnd⟩ := hW
  have hA : DataW.TrodAll enc Try.prog W 0 (fun _ => true) true Try.f4.params.toList args.toList ds p := hA0
  rw [Try.params4] at hA hval hsz
  obtain ⟨v0, vs0, d0, ds0, p0, q0, hargs, rfl, rfl, h0, r0⟩ := trodAll_cons hA
  obtain ⟨rfl, rfl, rfl⟩ := trodAll_nil r0
  obtain rfl : args = #[v0] := by cases args; simp_all
  obtain ⟨rfl, rfl⟩ := trodVars_none hV
  have hv := hval 0 25 v0 rfl rfl
  obtain ⟨cs, rfl, _, _⟩ : ∃ cs, v0 = .agg cs ∧ cs.size = Try.prog.cellsOf 25 ∧ Row.okWide Try.prog W .any base 25 cs := by
    unfold Value.okWide at hv
    rw [Try.underlying25] at hv
    exact hv
  have k0 := h0
  have lt0 : ∀ x ∈ p0, x.block < W.heap.size := by obtain ⟨m, hm⟩ := k0; exact DataW.trod_lt m _ _ _ hm
  obtain ⟨fuel, hf⟩ := h0
  have hw : (DataW.weights Try.prog 25 d0).all (· ≤ reachBytes) = true := by
    have e : DataW.weightsEach Try.prog (([25] : List TypeId) ++ Rows.unlikeMatchesSpec.plain.varTypes Try.prog) ([d0] ++ []) = DataW.weights Try.prog 25 d0 ++ [] := by
      have e0 : ∀ l : List TypeId, DataW.weightsEach (H := H) Try.prog l [] = [] := by intro l; cases l <;> rfl
      simp only [List.append_nil, List.singleton_append, DataW.weightsEach, e0]
    have h2 : (DataW.weightsEach Try.prog (([25] : List TypeId) ++ Rows.unlikeMatchesSpec.plain.varTypes Try.prog) ([d0] ++ [])).all (· ≤ reachBytes) = true := hsz
    rw [e, List.append_nil] at h2
    exact h2
  obtain ⟨o, hrep, ho⟩ := opens_few fuel _ (d0, p0) hf hw (nf hfz fun p hp => by simp [hp])
  clear hA0 hval0 hsz0 hsz
  have hcs : (Value.agg cs).cells.toList = cs.toList := rfl
  rw [hcs] at hrep
  have harg : Rep W (fun _ => True) (.agg cs) (.agg (cFew o)) := by
    have := Rep.agg (w := W) (Z := fun _ => True) cs.toList (cFew o) hrep (few_one o)
    simpa using this
  refine ((law_umatches o ho).out W (fun _ => True) [.agg cs] (.cons harg .nil)).mono fun e W' ⟨rs, he, bel, hret⟩ => ?_
  have hrs : rs = [.bool true] := by
    have h := hret.each
    cases h with
    | cons h1 h2 => cases h2; cases h1; rfl
  subst hrs
  subst he
  exact ⟨_, rfl, _, _, _, [], _, [], hW', trodAll_mk1 (shut_bool Try.underlying4 _), trodAll_cons_mk (Below.trod laidOut (by kernel_rfl) (of_decide_eq_true (by kernel_rfl)) k0 bel lt0) trodAll_mk0, rfl, bel.frame _, fun h => by cases h⟩
theorem over : Rows.unlikeMatchesRow.holds Try.pinned (OpenSpec.ofChange Rows.unlikeMatchesSpec) :=
  OpenClaim.holds_of_wide 4 Try.f4 rfl rfl rfl rfl rfl rfl rfl ⟨rfl, rfl, rfl, rfl, rfl⟩ rfl rfl rfl rfl rfl (by kernel_rfl) Try.func4 (by kernel_rfl)
    (of_decide_eq_true (by kernel_rfl)) (by unfold Func.isWrapper; first | (rw [if_pos (by decide +kernel)]; kernel_rfl) | (rw [if_neg (by decide +kernel)]; exact ⟨rfl, rfl⟩))
    (fun os started H enc _ => lifted os started H enc)
theorem proved : Rows.UnlikeMatchesSaid := over
#print axioms proved
end Go.Proofs.Ytdflkbmpbblcfaa.unlikeMatches
namespace Go.Proofs.Ytdflkbmpbblcfaa
/-- The row, under a short name, for the claim. -/
theorem unlikeMatches_holds : Rows.UnlikeMatchesSaid := unlikeMatches.proved
end Go.Proofs.Ytdflkbmpbblcfaa
