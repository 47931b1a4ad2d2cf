/- The statement UnlikeKnown: the law, and its row. -/
import Derived.Test.YtdflkbmpbblcfaaB8
import Derived.Test.YtdflkbmpbblcfaaRows
import Derived.WalkKit
import Derived.ProofKit
import Derived.OpenShut
import Derived.ShutString
import Derived.ChangeOld
import Derived.Below
import Derived.SizedLaws
/-! The statement UnlikePrunes: what its function answers. -/
namespace Go.Proofs.Ytdflkbmpbblcfaa
open Go Go.RowKit
set_option linter.unusedVariables false
set_option maxRecDepth 8000

theorem laidU_few (o : Few) : FewD (laidU o) ∧ (laidU o).length ≤ 5 := by
  have h5 : (laidU o).length ≤ 5 := by simp [laidU]; omega
  refine ⟨⟨by omega, fun x hx => ?_, fun x hx => ?_⟩, h5⟩
  · obtain ⟨y, _, rfl⟩ := List.mem_map.1 hx
    exact small_fine _
  · obtain ⟨y, _, rfl⟩ := List.mem_map.1 hx
    have := (smallR_ok (y.take 8)).2.2
    omega
theorem okU_vars {d : Doms} {vars : List Int} (hb : (vars.length + 1) * 8 ≤ 140737488355328) (h : conR d (conU vars) = 0) : VarsU d vars ∧ vars ≠ [] := by
  unfold conR at h
  rw [if_neg (by simp [conU])] at h
  split at h
  · cases h
  · rename_i h2
    split at h
    · cases h
    · rename_i h3
      have h2 := by simpa using h2
      have hu := (uses_in (conU_B hb) (List.all_eq_true.2 h2)).1.2
      have h3 : rightR d (conU vars) = true := by simpa using h3
      rw [show rightR d (conU vars) = (noneR (conU vars) && plainR (conU vars) && manyR (conU vars)) from rfl] at h3
      simp only [Bool.and_eq_true] at h3
      have h4 := h3.2
      simp only [manyR, Bool.and_eq_true, decide_eq_true_eq] at h4
      refine ⟨⟨h4.2, hu⟩, fun e => ?_⟩
      have h5 : 0 < vars.length := h4.1
      rw [e] at h5
      cases h5
theorem law_uprunes (o : Few) (ho : FewB o) : Spec Try.prog 3 true [.agg (cFew o)] [.val (.bool true)] := by
  refine Spec.body Try.func3 rfl rfl rfl fun w0 Z0 => ?_
  have hlaid := laid8_spec o ho
  have hok : okU o = decide (conR (laidU o) (conU o.vars) = 0) := rfl
  obtain ⟨hf, hlen⟩ := laidU_few o
  have hvb := ho.2.2.1
  generalize laidU o = d at *
  generalize o.vars = vars at *
  generalize okU o = ok at *
  repeat' first | refine T.seq ?_ | refine T.block ?_ | refine T.r ?_ | refine J.e rfl rfl rfl rfl ?_ | refine J.nil ?_ | refine J.skip rfl rfl rfl ?_ | refine T.skip ?_ | refine T.exit ?_ | refine T.ret ?_ | refine T.rd rfl (by kernel_rfl) ?_ | refine J.bx rfl rfl rfl rfl rfl rfl ?_
  refine J.cc rfl rfl rfl rfl rfl hlaid rfl rfl ?_
  repeat' first | refine T.seq ?_ | refine T.block ?_ | refine T.r ?_ | refine J.e rfl rfl rfl rfl ?_ | refine J.nil ?_ | refine J.skip rfl rfl rfl ?_ | refine T.skip ?_ | refine T.exit ?_ | refine T.ret ?_ | refine T.rd rfl (by kernel_rfl) ?_ | refine J.bx rfl rfl rfl rfl rfl rfl ?_
  refine J.al rfl rfl rfl rfl rfl rfl rfl ?_
  repeat' first | refine T.seq ?_ | refine T.block ?_ | refine T.r ?_ | refine J.e rfl rfl rfl rfl ?_ | refine J.nil ?_ | refine J.skip rfl rfl rfl ?_ | refine T.skip ?_ | refine T.exit ?_ | refine T.ret ?_ | refine T.rd rfl (by kernel_rfl) ?_ | refine J.bx rfl rfl rfl rfl rfl rfl ?_
  refine J.w rfl rfl rfl rfl rfl rfl rfl rfl rfl rfl ?_
  repeat' first | refine T.seq ?_ | refine T.block ?_ | refine T.r ?_ | refine J.e rfl rfl rfl rfl ?_ | refine J.nil ?_ | refine J.skip rfl rfl rfl ?_ | refine T.skip ?_ | refine T.exit ?_ | refine T.ret ?_ | refine T.rd rfl (by kernel_rfl) ?_ | refine J.bx rfl rfl rfl rfl rfl rfl ?_
  cases ok
  · refine T.ct rfl ?_
    repeat' first | refine T.seq ?_ | refine T.block ?_ | refine T.r ?_ | refine J.e rfl rfl rfl rfl ?_ | refine J.nil ?_ | refine J.skip rfl rfl rfl ?_ | refine T.skip ?_ | refine T.exit ?_ | refine T.ret ?_ | refine T.rd rfl (by kernel_rfl) ?_ | refine J.bx rfl rfl rfl rfl rfl rfl ?_
    refine J.cc rfl rfl rfl rfl rfl fixed8_spec rfl rfl ?_
    repeat' first | refine T.seq ?_ | refine T.block ?_ | refine T.r ?_ | refine J.e rfl rfl rfl rfl ?_ | refine J.nil ?_ | refine J.skip rfl rfl rfl ?_ | refine T.skip ?_ | refine T.exit ?_ | refine T.ret ?_ | refine T.rd rfl (by kernel_rfl) ?_ | refine J.bx rfl rfl rfl rfl rfl rfl ?_
    exact ⟨_, .v rfl rfl rfl (fun h => by cases h) .nil⟩
  · refine T.cf rfl ?_
    obtain ⟨hv, hne⟩ := okU_vars hvb (by simpa using hok.symm)
    have hpr := (uprune_few d vars hf hv hne).frz
    have hpr2 := prune8_few d vars hf hv
    have hsd := sames_spec d d hf.len8.1 hf.len8.2
    rw [decide_eq_true rfl] at hsd
    have hRl : ((prune8 d vars).getD []).length ≤ 5 ∧ ∀ x ∈ (prune8 d vars).getD [], x.length * 16 + 1048576 ≤ 140737488355328 := by
      have hsl := step8_len d vars vars d
      unfold prune8
      split
      · simp
      · split
        · simp
        · simp only [Option.getD_some]
          refine ⟨by omega, fun x hx => ?_⟩
          obtain ⟨j, hj⟩ := List.getElem?_of_mem hx
          rw [step8_at j hv.1 hv.2] at hj
          split at hj
          · obtain ⟨h1, h2, h3⟩ := left8_up hf vars (j : Int)
            obtain rfl := Option.some.inj hj
            exact (pack_fine h1 h3 h2).len
          · exact (hf.fine x (List.mem_of_getElem? hj)).len
    have hsr := sames_spec ((prune8 d vars).getD []) ((prune8 d vars).getD []) (by omega) (fun x hx => by have := hRl.2 x hx; omega)
    rw [decide_eq_true rfl] at hsr
    unfold pruneRes at hpr
    refine T.skip ?_
    refine T.seq ?_
    refine T.r ?_
    repeat' first | refine J.e rfl rfl rfl rfl ?_ | refine J.skip rfl rfl rfl ?_ | refine J.bx rfl rfl rfl rfl rfl rfl ?_
    refine J.cc rfl rfl rfl rfl rfl (lists_spec d hf.small (fun x hx => by have := (hf.fine x hx).len; omega)) rfl rfl ?_
    repeat' first | refine J.e rfl rfl rfl rfl ?_ | refine J.skip rfl rfl rfl ?_ | refine J.bx rfl rfl rfl rfl rfl rfl ?_
    refine J.nil ?_
    refine T.sub (Rel.frz (s := 3) (fun _ h => h) rfl rfl) ?_
    refine T.sub (Rel.frz (s := 6) (fun _ h => h) rfl rfl) ?_
    refine T.sub (Rel.unbx (s := 4) (fun _ h => h) rfl rfl) ?_
    refine T.canon (keep := [3, 4, 6]) (os := []) rfl ?_
    refine T.snap [3, 6] [4] fun w1 vs hfx => ?_
    have hfx3 := hfx 3 _ _ rfl
    have hfx6 := hfx 6 _ _ rfl
    clear hfx
    generalize (prune8 d vars).getD [] = D at *
    generalize (prune8 d vars).isSome = bs at *
    repeat' first | refine T.seq ?_ | refine T.block ?_ | refine T.r ?_ | refine J.e rfl rfl rfl rfl ?_ | refine J.nil ?_ | refine J.skip rfl rfl rfl ?_ | refine T.skip ?_ | refine T.exit ?_ | refine T.ret ?_ | refine T.rd rfl (by kernel_rfl) ?_ | refine J.bx rfl rfl rfl rfl rfl rfl ?_
    refine J.cc rfl rfl rfl rfl rfl hpr rfl rfl ?_
    repeat' first | refine T.seq ?_ | refine T.block ?_ | refine T.r ?_ | refine J.e rfl rfl rfl rfl ?_ | refine J.nil ?_ | refine J.skip rfl rfl rfl ?_ | refine T.skip ?_ | refine T.exit ?_ | refine T.ret ?_ | refine T.rd rfl (by kernel_rfl) ?_ | refine J.bx rfl rfl rfl rfl rfl rfl ?_
    refine J.cc rfl rfl rfl rfl rfl hpr2 rfl rfl ?_
    repeat' first | refine T.seq ?_ | refine T.block ?_ | refine T.r ?_ | refine J.e rfl rfl rfl rfl ?_ | refine J.nil ?_ | refine J.skip rfl rfl rfl ?_ | refine T.skip ?_ | refine T.exit ?_ | refine T.ret ?_ | refine J.bx rfl rfl rfl rfl rfl rfl ?_
    cases bs
    all_goals
      repeat' first | refine T.seq ?_ | refine T.block ?_ | refine T.r ?_ | refine J.e rfl rfl rfl rfl ?_ | refine J.nil ?_ | refine J.skip rfl rfl rfl ?_ | refine T.skip ?_ | refine T.exit ?_ | refine T.ret ?_ | refine T.rd rfl (by kernel_rfl) ?_ | refine J.bx rfl rfl rfl rfl rfl rfl ?_
      refine J.cc rfl rfl rfl rfl rfl hsr rfl rfl ?_
      repeat' first | refine T.seq ?_ | refine T.block ?_ | refine T.r ?_ | refine J.e rfl rfl rfl rfl ?_ | refine J.nil ?_ | refine J.skip rfl rfl rfl ?_ | refine T.skip ?_ | refine T.exit ?_ | refine T.ret ?_ | refine T.rd rfl (by kernel_rfl) ?_ | refine J.bx rfl rfl rfl rfl rfl rfl ?_
      refine T.cf2 rfl (by simp) ?_
      repeat' first | refine T.seq ?_ | refine T.block ?_ | refine T.r ?_ | refine J.e rfl rfl rfl rfl ?_ | refine J.nil ?_ | refine J.skip rfl rfl rfl ?_ | refine T.skip ?_ | refine T.exit ?_ | refine T.ret ?_ | refine T.rd rfl (by kernel_rfl) ?_ | refine J.bx rfl rfl rfl rfl rfl rfl ?_
      refine T.canon (keep := [3, 6, 7, 11]) (os := []) rfl (T.ind (fun s : Nat × Doms => ⟨[(3, .fix (vs 3) (doms d)), (6, .fix (vs 6) (doms d)), (7, .val true (doms s.2)), (11, .val true (.int .i64 s.1))], [], 0⟩) (fun s => s.1 ≤ D.length ∧ s.2.map List.length = D.map List.length) (fun s => D.length - s.1) (0, D) ⟨by simp, rfl⟩ (fun _ _ h => h) ?_)
      rintro ⟨i, D1⟩ ⟨hi, hD1⟩ ih
      have hl1 : D1.length = D.length := by have := congrArg List.length hD1; simpa using this
      repeat' first | refine T.seq ?_ | refine T.block ?_ | refine T.r ?_ | refine J.e rfl rfl rfl rfl ?_ | refine J.nil ?_ | refine J.skip rfl rfl rfl ?_ | refine T.skip ?_ | refine T.exit ?_ | refine T.ret ?_ | refine T.rd rfl (by kernel_rfl) ?_ | refine J.bx rfl rfl rfl rfl rfl rfl ?_
      refine T.cd rfl (fun h4 => ?_) (fun h4 => ?_)
      · have h4 : i < D1.length := by simpa using h4
        repeat' first | refine T.seq ?_ | refine T.block ?_ | refine T.r ?_ | refine J.e rfl rfl rfl rfl ?_ | refine J.nil ?_ | refine J.skip rfl rfl rfl ?_ | refine T.skip ?_ | refine T.exit ?_ | refine T.ret ?_ | refine T.rd rfl (by kernel_rfl) ?_ | refine J.bx rfl rfl rfl rfl rfl rfl ?_
        refine T.canon (keep := [3, 6, 7, 11, 12]) (os := []) rfl (T.ind (fun s : Nat × Doms => ⟨[(3, .fix (vs 3) (doms d)), (6, .fix (vs 6) (doms d)), (7, .val true (doms s.2)), (11, .val true (.int .i64 i)), (12, .val true (.int .i64 s.1))], [], 0⟩) (fun s => s.1 ≤ D1[i].length ∧ s.2.map List.length = D.map List.length) (fun s => D1[i].length - s.1) (0, D1) ⟨by simp, hD1⟩ (fun _ _ h => h) ?_)
        rintro ⟨k, D2⟩ ⟨hk, hD2⟩ ih2
        have hl2 : D2.length = D.length := by have := congrArg List.length hD2; simpa using this
        have hi2 : i < D2.length := by omega
        have hle : D2[i].length = D1[i].length := by
          have e := hD2.trans hD1.symm
          have e2 : (D2.map List.length)[i]? = (D1.map List.length)[i]? := by rw [e]
          simpa [List.getElem?_eq_getElem hi2, List.getElem?_eq_getElem h4] using e2
        have hsz : D1[i].length * 16 ≤ 140737488355328 := by
          have e2 : (D1.map List.length)[i]? = (D.map List.length)[i]? := by rw [hD1]
          have hi3 : i < D.length := by omega
          simp only [List.getElem?_map, List.getElem?_eq_getElem h4, List.getElem?_eq_getElem hi3, Option.map_some, Option.some.injEq] at e2
          have := hRl.2 D[i] (List.getElem_mem hi3)
          omega
        repeat' first | refine T.seq ?_ | refine T.block ?_ | refine T.r ?_ | refine J.e rfl rfl rfl rfl ?_ | refine J.nil ?_ | refine J.skip rfl rfl rfl ?_ | refine T.skip ?_ | refine T.exit ?_ | refine T.ret ?_ | refine T.rd rfl (by kernel_rfl) ?_ | refine J.bx rfl rfl rfl rfl rfl rfl ?_
        refine J.i rfl rfl rfl rfl rfl rfl rfl rfl rfl (r := cD D2[i]) (by omega) (row_i hi2) rfl ?_
        repeat' first | refine T.seq ?_ | refine T.block ?_ | refine T.r ?_ | refine J.e rfl rfl rfl rfl ?_ | refine J.nil ?_ | refine J.skip rfl rfl rfl ?_ | refine T.skip ?_ | refine T.exit ?_ | refine T.ret ?_ | refine T.rd rfl (by kernel_rfl) ?_ | refine J.bx rfl rfl rfl rfl rfl rfl ?_
        refine T.cd rfl (fun h5 => ?_) (fun h5 => ?_)
        · have h5 : k < D2[i].length := by simpa using h5
          repeat' first | refine T.seq ?_ | refine T.block ?_ | refine T.r ?_ | refine J.e rfl rfl rfl rfl ?_ | refine J.nil ?_ | refine J.skip rfl rfl rfl ?_ | refine T.skip ?_ | refine T.exit ?_ | refine T.ret ?_ | refine T.rd rfl (by kernel_rfl) ?_ | refine J.bx rfl rfl rfl rfl rfl rfl ?_
          refine J.i rfl rfl rfl rfl rfl rfl rfl rfl rfl (r := cD D2[i]) (by omega) (row_i hi2) rfl ?_
          repeat' first | refine T.seq ?_ | refine T.block ?_ | refine T.r ?_ | refine J.e rfl rfl rfl rfl ?_ | refine J.nil ?_ | refine J.skip rfl rfl rfl ?_ | refine T.skip ?_ | refine T.exit ?_ | refine T.ret ?_ | refine T.rd rfl (by kernel_rfl) ?_ | refine J.bx rfl rfl rfl rfl rfl rfl ?_
          refine J.i rfl rfl rfl rfl rfl rfl rfl rfl rfl (r := cR D2[i][k]) (by omega) (row_i h5) rfl ?_
          repeat' first | refine T.seq ?_ | refine T.block ?_ | refine T.r ?_ | refine J.e rfl rfl rfl rfl ?_ | refine J.nil ?_ | refine J.skip rfl rfl rfl ?_ | refine T.skip ?_ | refine T.exit ?_ | refine T.ret ?_ | refine T.rd rfl (by kernel_rfl) ?_ | refine J.bx rfl rfl rfl rfl rfl rfl ?_
          refine J.tr (s := 7) (D := doms D2) [3, 6] [11, 12] (fun _ h => h) (fun _ h => h) rfl rfl rfl rfl rfl rfl rfl rfl (fun q u p hq h => by
            simp only [List.mem_cons, List.not_mem_nil, or_false] at hq
            rcases hq with rfl | rfl
            · cases h; exact hfx3
            · cases h; exact hfx6) fun D3 hsh => ?_
          obtain ⟨D3, rfl, e3⟩ := sh_doms hsh
          repeat' first | refine T.seq ?_ | refine T.block ?_ | refine T.r ?_ | refine J.e rfl rfl rfl rfl ?_ | refine J.nil ?_ | refine J.skip rfl rfl rfl ?_ | refine T.skip ?_ | refine T.exit ?_ | refine T.ret ?_ | refine T.rd rfl (by kernel_rfl) ?_ | refine J.bx rfl rfl rfl rfl rfl rfl ?_
          rw [wrap1 (l := D1[i].length) (by omega) (by omega)]
          exact T.canon (keep := [3, 6, 7, 11, 12]) (os := []) rfl (ih2 (k + 1, D3) ⟨by omega, e3.trans hD2⟩ (by simp only; omega))
        · have h5 : k = D2[i].length := by simp at h5; omega
          repeat' first | refine T.seq ?_ | refine T.block ?_ | refine T.r ?_ | refine J.e rfl rfl rfl rfl ?_ | refine J.nil ?_ | refine J.skip rfl rfl rfl ?_ | refine T.skip ?_ | refine T.exit ?_ | refine T.ret ?_ | refine T.rd rfl (by kernel_rfl) ?_ | refine J.bx rfl rfl rfl rfl rfl rfl ?_
          rw [wrap1 (l := D.length) (by omega) (by omega)]
          exact T.canon (keep := [3, 6, 7, 11]) (os := []) rfl (ih (i + 1, D2) ⟨by omega, hD2⟩ (by simp only; omega))
      · repeat' first | refine T.seq ?_ | refine T.block ?_ | refine T.r ?_ | refine J.e rfl rfl rfl rfl ?_ | refine J.nil ?_ | refine J.skip rfl rfl rfl ?_ | refine T.skip ?_ | refine T.exit ?_ | refine T.ret ?_ | refine T.rd rfl (by kernel_rfl) ?_ | refine J.bx rfl rfl rfl rfl rfl rfl ?_
        refine J.cc rfl rfl rfl rfl rfl hsd rfl rfl ?_
        repeat' first | refine T.seq ?_ | refine T.block ?_ | refine T.r ?_ | refine J.e rfl rfl rfl rfl ?_ | refine J.nil ?_ | refine J.skip rfl rfl rfl ?_ | refine T.skip ?_ | refine T.exit ?_ | refine T.ret ?_ | refine T.rd rfl (by kernel_rfl) ?_ | refine J.bx rfl rfl rfl rfl rfl rfl ?_
        refine J.cc rfl rfl rfl rfl rfl fixed8_spec rfl rfl ?_
        repeat' first | refine T.seq ?_ | refine T.block ?_ | refine T.r ?_ | refine J.e rfl rfl rfl rfl ?_ | refine J.nil ?_ | refine J.skip rfl rfl rfl ?_ | refine T.skip ?_ | refine T.exit ?_ | refine T.ret ?_ | refine T.rd rfl (by kernel_rfl) ?_ | refine J.bx rfl rfl rfl rfl rfl rfl ?_
        exact ⟨_, .v rfl rfl rfl (fun h => by cases h) .nil⟩
end Go.Proofs.Ytdflkbmpbblcfaa
/-! Plain: what is left by what are all others. -/
namespace Go.Proofs.Ytdflkbmpbblcfaa
open Go Go.RowKit
set_option linter.unusedVariables false
set_option linter.unusedSimpArgs false

structure Left8 (d : Doms) (vars : List Int) (out : Doms) : Prop where
  len : out.length = d.length
  few : FewD out
  at' : ∀ i (hi : i < vars.length), domAt out vars[i] = pack (left8 d vars vars[i])
  off : ∀ j : Nat, (j : Int) ∉ vars → out[j]? = d[j]?
theorem prune8_left {d : Doms} (h : FewD d) {vars : List Int} (hv : VarsU d vars) {out : Doms} (hR : prune8 d vars = some out) : Left8 d vars out := by
  unfold prune8 at hR
  split at hR
  · cases hR
  · split at hR
    · cases hR
    · obtain rfl := Option.some.inj hR
      have hat := fun j => step8_at (d := d) (vars := vars) (out := d) j hv.1 hv.2
      have hall : ∀ x ∈ step8 d vars vars d, Fine x ∧ (vals x).length ≤ 4096 := fun x hx => by
        obtain ⟨j, hj⟩ := List.getElem?_of_mem hx
        rw [hat j] at hj
        split at hj
        · obtain ⟨h1, h2, h3⟩ := left8_up h vars (j : Int)
          obtain rfl := Option.some.inj hj
          exact ⟨pack_fine h1 h3 h2, by rw [vals_pack h1]; exact h2⟩
        · exact ⟨h.fine x (List.mem_of_getElem? hj), h.few x (List.mem_of_getElem? hj)⟩
      refine ⟨step8_len _ _ _ _, ⟨by rw [step8_len]; exact h.small, fun x hx => (hall x hx).1, fun x hx => (hall x hx).2⟩, fun i hi => ?_, fun j hj => by rw [hat j, if_neg hj]⟩
      have h0 := (hv.2 _ (List.getElem_mem hi)).1
      have e : ((vars[i].toNat : Nat) : Int) = vars[i] := by omega
      have := hat vars[i].toNat
      rw [e, if_pos (List.getElem_mem hi)] at this
      unfold domAt
      rw [List.getD_eq_getElem?_getD, this]; rfl
theorem Left8.vals {d : Doms} (h : FewD d) {vars : List Int} {out : Doms} (hl : Left8 d vars out) {i : Nat} (hi : i < vars.length) : Go.Proofs.Ytdflkbmpbblcfaa.vals (domAt out vars[i]) = left8 d vars vars[i] := by
  rw [hl.at' i hi, vals_pack (left8_up h vars vars[i]).1]
theorem known8 {d : Doms} (h : FewD d) {vars : List Int} (hv : VarsU d vars) {i k : Nat} (hi : i < vars.length) (hk : k < vars.length) (hne : k ≠ i) {x : Int} (hx : left8 d vars vars[i] = [x]) : x ∉ left8 d vars vars[k] := by
  intro hm
  obtain ⟨g, hg, e⟩ := (left8_mem h hv hk x).1 hm
  have h1 := (left8_mem h hv hi (g i)).2 ⟨g, hg, rfl⟩
  rw [hx] at h1
  have h2 : g i = x := List.mem_singleton.1 h1
  have hlen : (listsP d vars).length = vars.length := List.length_map ..
  exact hne (hg.2 k i (by omega) (by omega) (e.trans h2.symm))
end Go.Proofs.Ytdflkbmpbblcfaa
/-! The statement UnlikeKnown: what its function answers. -/
namespace Go.Proofs.Ytdflkbmpbblcfaa
open Go Go.RowKit
set_option linter.unusedVariables false
set_option linter.unusedSimpArgs false
set_option maxRecDepth 8000

theorem law_uknown (o : Few) (ho : FewB o) : Spec Try.prog 7 true [.agg (cFew o)] [.val (.bool true)] := by
  refine Spec.body Try.func7 rfl rfl rfl fun w0 Z0 => ?_
  have hlaid := laid8_spec o ho
  have hok : okU o = decide (conR (laidU o) (conU o.vars) = 0) := rfl
  obtain ⟨hf, hlen⟩ := laidU_few o
  have hvb := ho.2.2.1
  generalize laidU o = d at *
  generalize o.vars = vars at *
  generalize okU o = ok at *
  repeat' ((first | refine T.G rfl ?_ | refine J.G rfl ?_ | refine J.H rfl ?_ | refine T.rd rfl (by decide +kernel) ?_ | fail); conv => whnf)
  refine J.cc rfl rfl rfl rfl rfl hlaid rfl rfl ?_
  repeat' ((first | refine T.G rfl ?_ | refine J.G rfl ?_ | refine J.H rfl ?_ | refine T.rd rfl (by decide +kernel) ?_ | fail); conv => whnf)
  refine J.al rfl rfl rfl rfl rfl rfl rfl ?_
  repeat' ((first | refine T.G rfl ?_ | refine J.G rfl ?_ | refine J.H rfl ?_ | refine T.rd rfl (by decide +kernel) ?_ | fail); conv => whnf)
  refine J.w rfl rfl rfl rfl rfl rfl rfl rfl rfl rfl ?_
  repeat' ((first | refine T.G rfl ?_ | refine J.G rfl ?_ | refine J.H rfl ?_ | refine T.rd rfl (by decide +kernel) ?_ | fail); conv => whnf)
  cases ok
  · refine T.ct rfl ?_
    repeat' ((first | refine T.G rfl ?_ | refine J.G rfl ?_ | refine J.H rfl ?_ | refine T.rd rfl (by decide +kernel) ?_ | fail); conv => whnf)
    refine J.cc rfl rfl rfl rfl rfl fixed8_spec rfl rfl ?_
    repeat' ((first | refine T.G rfl ?_ | refine J.G rfl ?_ | refine J.H rfl ?_ | refine T.rd rfl (by decide +kernel) ?_ | fail); conv => whnf)
    exact ⟨_, .v rfl rfl rfl (fun h => by cases h) .nil⟩
  refine T.cf rfl ?_
  obtain ⟨hv, hne⟩ := okU_vars hvb (by simpa using hok.symm)
  have hpr := (uprune_few d vars hf hv hne).frz
  unfold pruneRes at hpr
  have hvl := hv.few hf
  refine T.skip ?_
  refine T.sub (Rel.frz (s := 3) (fun _ h => h) rfl rfl) ?_
  refine T.sub (Rel.unbx (s := 4) (fun _ h => h) rfl rfl) ?_
  refine T.canon (keep := [3, 4]) (os := []) rfl ?_
  cases hR : prune8 d vars with
  | none =>
    rw [hR] at hpr
    simp only [Option.getD_none, Option.isSome_none] at hpr
    repeat' ((first | refine T.G rfl ?_ | refine J.G rfl ?_ | refine J.H rfl ?_ | refine T.rd rfl (by decide +kernel) ?_ | fail); conv => whnf)
    refine J.cc rfl rfl rfl rfl rfl hpr rfl rfl ?_
    repeat' ((first | refine T.G rfl ?_ | refine J.G rfl ?_ | refine J.H rfl ?_ | refine T.rd rfl (by decide +kernel) ?_ | fail); conv => whnf)
    refine T.cf rfl ?_
    repeat' ((first | refine T.G rfl ?_ | refine J.G rfl ?_ | refine J.H rfl ?_ | refine T.rd rfl (by decide +kernel) ?_ | fail); conv => whnf)
    refine T.canon (keep := [3, 4, 6, 7, 8]) (os := []) rfl (T.ind (fun _ : Nat => ⟨[(3, .val false (doms d)), (4, .fptr false (cC (conU vars))), (6, .val true (doms [])), (7, .val true (.bool false)), (8, .val true (.int .i64 0))], [], 0⟩) (fun _ => True) (fun n => n) 0 trivial (fun _ _ h => h) ?_)
    intro _ _ _
    repeat' ((first | refine T.G rfl ?_ | refine J.G rfl ?_ | refine J.H rfl ?_ | refine T.rd rfl (by decide +kernel) ?_ | fail); conv => whnf)
    have hvn : (0 : Int) < ((vars.map cI).length : Nat) := by
      cases vars with
      | nil => exact absurd rfl hne
      | cons v vs => simp
    refine J.g rfl rfl rfl (fun h2 => ?_) (fun h2 => ?_)
    rotate_left
    · exact absurd hvn h2
    repeat' ((first | refine T.G rfl ?_ | refine J.G rfl ?_ | refine J.H rfl ?_ | refine T.rd rfl (by decide +kernel) ?_ | fail); conv => whnf)
    refine T.cf rfl ?_
    repeat' ((first | refine T.G rfl ?_ | refine J.G rfl ?_ | refine J.H rfl ?_ | refine T.rd rfl (by decide +kernel) ?_ | fail); conv => whnf)
    refine J.cc rfl rfl rfl rfl rfl fixed8_spec rfl rfl ?_
    repeat' ((first | refine T.G rfl ?_ | refine J.G rfl ?_ | refine J.H rfl ?_ | refine T.rd rfl (by decide +kernel) ?_ | fail); conv => whnf)
    exact ⟨_, .v rfl rfl rfl (fun h => by cases h) .nil⟩
  | some out =>
    rw [hR] at hpr
    have hl8 := prune8_left hf hv hR
    simp only [Option.getD_some, Option.isSome_some] at hpr
    repeat' ((first | refine T.G rfl ?_ | refine J.G rfl ?_ | refine J.H rfl ?_ | refine T.rd rfl (by decide +kernel) ?_ | fail); conv => whnf)
    refine J.cc rfl rfl rfl rfl rfl hpr rfl rfl ?_
    repeat' ((first | refine T.G rfl ?_ | refine J.G rfl ?_ | refine J.H rfl ?_ | refine T.rd rfl (by decide +kernel) ?_ | fail); conv => whnf)
    refine T.cf2 rfl (by simp [hl8.len]) ?_
    repeat' ((first | refine T.G rfl ?_ | refine J.G rfl ?_ | refine J.H rfl ?_ | refine T.rd rfl (by decide +kernel) ?_ | fail); conv => whnf)
    refine T.canon (keep := [3, 4, 6, 7, 8]) (os := []) rfl (T.ind (fun i : Nat => ⟨[(3, .val false (doms d)), (4, .fptr false (cC (conU vars))), (6, .val true (doms out)), (7, .val true (.bool true)), (8, .val true (.int .i64 i))], [], 0⟩) (fun i => i ≤ vars.length) (fun i => vars.length - i) 0 (by simp) (fun _ _ h => h) ?_)
    rintro i hi ih
    repeat' ((first | refine T.G rfl ?_ | refine J.G rfl ?_ | refine J.H rfl ?_ | refine T.rd rfl (by decide +kernel) ?_ | fail); conv => whnf)
    refine J.g rfl rfl rfl (fun h5 => ?_) (fun h5 => ?_)
    rotate_left
    · repeat' ((first | refine T.G rfl ?_ | refine J.G rfl ?_ | refine J.H rfl ?_ | refine T.rd rfl (by decide +kernel) ?_ | fail); conv => whnf)
      refine T.cf rfl ?_
      repeat' ((first | refine T.G rfl ?_ | refine J.G rfl ?_ | refine J.H rfl ?_ | refine T.rd rfl (by decide +kernel) ?_ | fail); conv => whnf)
      refine J.cc rfl rfl rfl rfl rfl fixed8_spec rfl rfl ?_
      repeat' ((first | refine T.G rfl ?_ | refine J.G rfl ?_ | refine J.H rfl ?_ | refine T.rd rfl (by decide +kernel) ?_ | fail); conv => whnf)
      exact ⟨_, .v rfl rfl rfl (fun h => by cases h) .nil⟩
    have h5 : i < vars.length := by
      have h5 : (i : Int) < ((vars.map cI).length : Nat) := h5
      simpa using h5
    have vspec : ∀ j (hj : j < vars.length), Spec Try.prog 20 false [dm (domAt out vars[j])] [.own 3 1 ((left8 d vars vars[j]).map cI)] := fun j hj => by
      have hvi := hv.2 _ (List.getElem_mem hj)
      have hdm := hl8.few.valD.dom (v := vars[j]) (by rw [hl8.len]; exact hvi.2)
      have := values_spec (domAt out vars[j]) (hl8.few.valD.inb _ hdm) (by have := hl8.few.valD.vals _ hdm; omega) (by have := hl8.few.valD.len _ hdm; omega)
      rw [hl8.vals hf hj] at this
      exact this
    have drow : ∀ j (hj : j < vars.length), (out.map cD)[vars[j].toNat]? = some (cD (domAt out vars[j])) := fun j hj => dom_row (by rw [hl8.len]; exact (hv.2 _ (List.getElem_mem hj)).2)
    have hvi := hv.2 _ (List.getElem_mem h5)
    repeat' ((first | refine T.G rfl ?_ | refine J.G rfl ?_ | refine J.H rfl ?_ | refine T.rd rfl (by decide +kernel) ?_ | fail); conv => whnf)
    refine T.ct rfl ?_
    repeat' ((first | refine T.G rfl ?_ | refine J.G rfl ?_ | refine J.H rfl ?_ | refine T.rd rfl (by decide +kernel) ?_ | fail); conv => whnf)
    refine J.i rfl rfl rfl rfl rfl rfl rfl rfl rfl (r := cI vars[i]) (by omega) (row_i h5) rfl ?_
    repeat' ((first | refine T.G rfl ?_ | refine J.G rfl ?_ | refine J.H rfl ?_ | refine T.rd rfl (by decide +kernel) ?_ | fail); conv => whnf)
    refine J.i rfl rfl rfl rfl rfl rfl rfl rfl rfl (r := cD (domAt out vars[i])) hvi.1 (drow i h5) rfl ?_
    repeat' ((first | refine T.G rfl ?_ | refine J.G rfl ?_ | refine J.H rfl ?_ | refine T.rd rfl (by decide +kernel) ?_ | fail); conv => whnf)
    refine J.cc rfl rfl rfl rfl rfl (vspec i h5).frz rfl rfl ?_
    repeat' ((first | refine T.G rfl ?_ | refine J.G rfl ?_ | refine J.H rfl ?_ | refine T.rd rfl (by decide +kernel) ?_ | fail); conv => whnf)
    have hu := left8_up hf vars vars[i]
    refine T.canon (keep := [3, 4, 6, 7, 8, 9, 10]) (os := []) rfl (T.ind (fun k : Nat => ⟨[(3, .val false (doms d)), (4, .fptr false (cC (conU vars))), (6, .val true (doms out)), (7, .val true (.bool true)), (8, .val true (.int .i64 i)), (9, .val true (ints (left8 d vars vars[i]))), (10, .val true (.int .i64 k))], [], 0⟩) (fun k => k ≤ vars.length) (fun k => vars.length - k) 0 (by simp) (fun _ _ h => h) ?_)
    rintro k hk ih2
    have fin : _ := ih (i + 1) (by omega) (by omega)
    repeat' ((first | refine T.G rfl ?_ | refine J.G rfl ?_ | refine J.H rfl ?_ | refine T.rd rfl (by decide +kernel) ?_ | fail); conv => whnf)
    have hwi : IntKind.i64.wrap ((i : Int) + 1) = ((i + 1 : Nat) : Int) := wrap1 (l := vars.length) h5 (by omega)
    refine J.g rfl rfl rfl (fun h6 => ?_) (fun h6 => ?_)
    rotate_left
    · repeat' ((first | refine T.G rfl ?_ | refine J.G rfl ?_ | refine J.H rfl ?_ | refine T.rd rfl (by decide +kernel) ?_ | fail); conv => whnf)
      refine T.cf rfl ?_
      repeat' ((first | refine T.G rfl ?_ | refine J.G rfl ?_ | refine J.H rfl ?_ | refine T.rd rfl (by decide +kernel) ?_ | fail); conv => whnf)
      rw [hwi]
      exact T.canon (keep := [3, 4, 6, 7, 8]) (os := []) rfl fin
    have h6 : k < vars.length := by
      have h6 : (k : Int) < ((vars.map cI).length : Nat) := h6
      simpa using h6
    have hwk : IntKind.i64.wrap ((k : Int) + 1) = ((k + 1 : Nat) : Int) := wrap1 (l := vars.length) h6 (by omega)
    have hvk := hv.2 _ (List.getElem_mem h6)
    repeat' ((first | refine T.G rfl ?_ | refine J.G rfl ?_ | refine J.H rfl ?_ | refine T.rd rfl (by decide +kernel) ?_ | fail); conv => whnf)
    refine T.cd rfl (fun h7 => ?_) (fun h7 => ?_)
    rotate_left
    · repeat' ((first | refine T.G rfl ?_ | refine J.G rfl ?_ | refine J.H rfl ?_ | refine T.rd rfl (by decide +kernel) ?_ | fail); conv => whnf)
      rw [hwi]
      exact T.canon (keep := [3, 4, 6, 7, 8]) (os := []) rfl fin
    obtain ⟨x, hx⟩ : ∃ x, left8 d vars vars[i] = [x] := by
      have h7 : (((left8 d vars vars[i]).map cI).length : Int) = 1 := h7
      rw [List.length_map] at h7
      match hl : left8 d vars vars[i], h7 with
      | [x], _ => exact ⟨x, rfl⟩
      | [], h => simp at h
      | _ :: _ :: _, h => simp at h; omega
    have ih3 := ih2 (k + 1) (by omega) (by omega)
    repeat' ((first | refine T.G rfl ?_ | refine J.G rfl ?_ | refine J.H rfl ?_ | refine T.rd rfl (by decide +kernel) ?_ | fail); conv => whnf)
    refine J.g rfl rfl rfl (fun h8 => ?_) (fun h8 => ?_)
    · have h8 : k ≠ i := by
        have h8 : (k : Int) ≠ (i : Int) := h8
        omega
      have hhs := has_spec (left8 d vars vars[k]) x (by have := (left8_up hf vars vars[k]).2.1; omega)
      rw [decide_eq_false (known8 hf hv h5 h6 h8 hx)] at hhs
      repeat' ((first | refine T.G rfl ?_ | refine J.G rfl ?_ | refine J.H rfl ?_ | refine T.rd rfl (by decide +kernel) ?_ | fail); conv => whnf)
      refine J.i rfl rfl rfl rfl rfl rfl rfl rfl rfl (r := cI vars[k]) (by omega) (row_i h6) rfl ?_
      repeat' ((first | refine T.G rfl ?_ | refine J.G rfl ?_ | refine J.H rfl ?_ | refine T.rd rfl (by decide +kernel) ?_ | fail); conv => whnf)
      refine J.i rfl rfl rfl rfl rfl rfl rfl rfl rfl (r := cD (domAt out vars[k])) hvk.1 (drow k h6) rfl ?_
      repeat' ((first | refine T.G rfl ?_ | refine J.G rfl ?_ | refine J.H rfl ?_ | refine T.rd rfl (by decide +kernel) ?_ | fail); conv => whnf)
      refine J.cc rfl rfl rfl rfl rfl (vspec k h6) rfl rfl ?_
      repeat' ((first | refine T.G rfl ?_ | refine J.G rfl ?_ | refine J.H rfl ?_ | refine T.rd rfl (by decide +kernel) ?_ | fail); conv => whnf)
      refine J.i rfl rfl rfl rfl rfl rfl rfl rfl rfl (r := cI x) (by omega) (by rw [hx]; rfl) rfl ?_
      repeat' ((first | refine T.G rfl ?_ | refine J.G rfl ?_ | refine J.H rfl ?_ | refine T.rd rfl (by decide +kernel) ?_ | fail); conv => whnf)
      refine J.cc rfl rfl rfl rfl rfl hhs rfl rfl ?_
      repeat' ((first | refine T.G rfl ?_ | refine J.G rfl ?_ | refine J.H rfl ?_ | refine T.rd rfl (by decide +kernel) ?_ | fail); conv => whnf)
      refine T.cf rfl ?_
      repeat' ((first | refine T.G rfl ?_ | refine J.G rfl ?_ | refine J.H rfl ?_ | refine T.rd rfl (by decide +kernel) ?_ | fail); conv => whnf)
      rw [hwk]
      exact T.canon (keep := [3, 4, 6, 7, 8, 9, 10]) (os := []) rfl ih3
    · repeat' ((first | refine T.G rfl ?_ | refine J.G rfl ?_ | refine J.H rfl ?_ | refine T.rd rfl (by decide +kernel) ?_ | fail); conv => whnf)
      refine T.cf rfl ?_
      repeat' ((first | refine T.G rfl ?_ | refine J.G rfl ?_ | refine J.H rfl ?_ | refine T.rd rfl (by decide +kernel) ?_ | fail); conv => whnf)
      rw [hwk]
      exact T.canon (keep := [3, 4, 6, 7, 8, 9, 10]) (os := []) rfl ih3
end Go.Proofs.Ytdflkbmpbblcfaa
/-! The row of UnlikeKnown. -/
namespace Go.Proofs.Ytdflkbmpbblcfaa.unlikeKnown
open Go.ChangeShapes Go.WideShapes Go.ChangeAt Go.RowKit
set_option linter.unusedVariables false
theorem own : ownKnob Try.prog.godebug = none := by kernel_rfl
theorem laidOut : laidOutB Try.prog = true := by kernel_rfl
set_option maxRecDepth 100000 in
theorem lifted (os : Os) (started : os.Started) (H : Type) (enc : TypeId × Value → H) :
    ReturnsInHanded {} Try.checked os 7 .any (Rows.unlikeKnownSpec.pre6 enc Try.prog Try.f7 Rows.unlikeKnownRow.domain false) (Rows.unlikeKnownSpec.post enc Try.prog Try.f7 false true false false) := by
  refine returnsInHanded_of_change_sized (C := Try.checked) own started (by kernel_rfl) Try.func7
    (ChangeSpec.witness6 (enc := enc) (C := Try.checked) false ⟨#[], #[.agg #[.slice none 0 0, .slice none 0 0, .slice none 0 0, .slice none 0 0]], []⟩ 8 (by kernel_rfl) (by kernel_rfl) (by kernel_rfl) (by kernel_rfl)) ?_
  intro W base args ds gs before hval0 hW hcnd hsz0 _
  have hsz : (DataW.weightsEach Try.prog (Try.f7.params.toList ++ Rows.unlikeKnownSpec.plain.varTypes Try.prog) (ds ++ gs)).all (· ≤ reachBytes) = true := hsz0
  have hval : ∀ (j : Nat) t v, Try.f7.params[j]? = some t → args[j]? = some v → Value.okWide Try.prog W .any base t v := hval0
  have hW' := hW
  obtain ⟨p, q, hA0, hV, rfl, hfz, hnd⟩ := hW
  have hA : DataW.TrodAll enc Try.prog W 0 (fun _ => true) true Try.f7.params.toList args.toList ds p := hA0
  rw [Try.params7] at hA hval hsz
  obtain ⟨v0, vs0, d0, ds0, p0, q0, hargs, rfl, rfl, h0, r0⟩ := trodAll_cons hA
  obtain ⟨rfl, rfl, rfl⟩ := trodAll_nil r0
  obtain rfl : args = #[v0] := by cases args; simp_all
  obtain ⟨rfl, rfl⟩ := trodVars_none hV
  have hv := hval 0 25 v0 rfl rfl
  obtain ⟨cs, rfl, _, _⟩ : ∃ cs, v0 = .agg cs ∧ cs.size = Try.prog.cellsOf 25 ∧ Row.okWide Try.prog W .any base 25 cs := by
    unfold Value.okWide at hv
    rw [Try.underlying25] at hv
    exact hv
  have k0 := h0
  have lt0 : ∀ x ∈ p0, x.block < W.heap.size := by obtain ⟨m, hm⟩ := k0; exact DataW.trod_lt m _ _ _ hm
  obtain ⟨fuel, hf⟩ := h0
  have hw : (DataW.weights Try.prog 25 d0).all (· ≤ reachBytes) = true := by
    have e : DataW.weightsEach Try.prog (([25] : List TypeId) ++ Rows.unlikeKnownSpec.plain.varTypes Try.prog) ([d0] ++ []) = DataW.weights Try.prog 25 d0 ++ [] := by
      have e0 : ∀ l : List TypeId, DataW.weightsEach (H := H) Try.prog l [] = [] := by intro l; cases l <;> rfl
      simp only [List.append_nil, List.singleton_append, DataW.weightsEach, e0]
    have h2 : (DataW.weightsEach Try.prog (([25] : List TypeId) ++ Rows.unlikeKnownSpec.plain.varTypes Try.prog) ([d0] ++ [])).all (· ≤ reachBytes) = true := hsz
    rw [e, List.append_nil] at h2
    exact h2
  obtain ⟨o, hrep, ho⟩ := opens_few fuel _ (d0, p0) hf hw (nf hfz fun p hp => by simp [hp])
  clear hA0 hval0 hsz0 hsz
  have hcs : (Value.agg cs).cells.toList = cs.toList := rfl
  rw [hcs] at hrep
  have harg : Rep W (fun _ => True) (.agg cs) (.agg (cFew o)) := by
    have := Rep.agg (w := W) (Z := fun _ => True) cs.toList (cFew o) hrep (few_one o)
    simpa using this
  refine ((law_uknown o ho).out W (fun _ => True) [.agg cs] (.cons harg .nil)).mono fun e W' ⟨rs, he, bel, hret⟩ => ?_
  have hrs : rs = [.bool true] := by
    have h := hret.each
    cases h with
    | cons h1 h2 => cases h2; cases h1; rfl
  subst hrs
  subst he
  exact ⟨_, rfl, _, _, _, [], _, [], hW', trodAll_mk1 (shut_bool Try.underlying4 _), trodAll_cons_mk (Below.trod laidOut (by kernel_rfl) (of_decide_eq_true (by kernel_rfl)) k0 bel lt0) trodAll_mk0, rfl, bel.frame _, fun h => by cases h⟩
theorem over : Rows.unlikeKnownRow.holds Try.pinned (OpenSpec.ofChange Rows.unlikeKnownSpec) :=
  OpenClaim.holds_of_wide 7 Try.f7 rfl rfl rfl rfl rfl rfl rfl ⟨rfl, rfl, rfl, rfl, rfl⟩ rfl rfl rfl rfl rfl (by kernel_rfl) Try.func7 (by kernel_rfl)
    (of_decide_eq_true (by kernel_rfl)) (by unfold Func.isWrapper; first | (rw [if_pos (by decide +kernel)]; kernel_rfl) | (rw [if_neg (by decide +kernel)]; exact ⟨rfl, rfl⟩))
    (fun os started H enc _ => lifted os started H enc)
theorem proved : Rows.UnlikeKnownSaid := over
#print axioms proved
end Go.Proofs.Ytdflkbmpbblcfaa.unlikeKnown
namespace Go.Proofs.Ytdflkbmpbblcfaa
/-- The row, under a short name, for the claim. -/
theorem unlikeKnown_holds : Rows.UnlikeKnownSaid := unlikeKnown.proved
end Go.Proofs.Ytdflkbmpbblcfaa
