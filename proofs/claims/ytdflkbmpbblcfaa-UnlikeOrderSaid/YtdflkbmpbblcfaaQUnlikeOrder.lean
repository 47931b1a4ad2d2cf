/- The statement UnlikeOrder: the law, and its row. -/
import Derived.Test.YtdflkbmpbblcfaaB8
import Derived.Test.YtdflkbmpbblcfaaRows
import Derived.WalkKit
import Derived.ProofKit
import Derived.OpenShut
import Derived.ShutString
import Derived.ChangeOld
import Derived.Below
import Derived.SizedLaws
/-! The statement UnlikePrunes: what its function answers. -/
namespace Go.Proofs.Ytdflkbmpbblcfaa
open Go Go.RowKit
set_option linter.unusedVariables false
set_option maxRecDepth 8000

theorem laidU_few (o : Few) : FewD (laidU o) ∧ (laidU o).length ≤ 5 := by
  have h5 : (laidU o).length ≤ 5 := by simp [laidU]; omega
  refine ⟨⟨by omega, fun x hx => ?_, fun x hx => ?_⟩, h5⟩
  · obtain ⟨y, _, rfl⟩ := List.mem_map.1 hx
    exact small_fine _
  · obtain ⟨y, _, rfl⟩ := List.mem_map.1 hx
    have := (smallR_ok (y.take 8)).2.2
    omega
theorem okU_vars {d : Doms} {vars : List Int} (hb : (vars.length + 1) * 8 ≤ 140737488355328) (h : conR d (conU vars) = 0) : VarsU d vars ∧ vars ≠ [] := by
  unfold conR at h
  rw [if_neg (by simp [conU])] at h
  split at h
  · cases h
  · rename_i h2
    split at h
    · cases h
    · rename_i h3
      have h2 := by simpa using h2
      have hu := (uses_in (conU_B hb) (List.all_eq_true.2 h2)).1.2
      have h3 : rightR d (conU vars) = true := by simpa using h3
      rw [show rightR d (conU vars) = (noneR (conU vars) && plainR (conU vars) && manyR (conU vars)) from rfl] at h3
      simp only [Bool.and_eq_true] at h3
      have h4 := h3.2
      simp only [manyR, Bool.and_eq_true, decide_eq_true_eq] at h4
      refine ⟨⟨h4.2, hu⟩, fun e => ?_⟩
      have h5 : 0 < vars.length := h4.1
      rw [e] at h5
      cases h5
theorem law_uprunes (o : Few) (ho : FewB o) : Spec Try.prog 3 true [.agg (cFew o)] [.val (.bool true)] := by
  refine Spec.body Try.func3 rfl rfl rfl fun w0 Z0 => ?_
  have hlaid := laid8_spec o ho
  have hok : okU o = decide (conR (laidU o) (conU o.vars) = 0) := rfl
  obtain ⟨hf, hlen⟩ := laidU_few o
  have hvb := ho.2.2.1
  generalize laidU o = d at *
  generalize o.vars = vars at *
  generalize okU o = ok at *
  repeat' first | refine T.seq ?_ | refine T.block ?_ | refine T.r ?_ | refine J.e rfl rfl rfl rfl ?_ | refine J.nil ?_ | refine J.skip rfl rfl rfl ?_ | refine T.skip ?_ | refine T.exit ?_ | refine T.ret ?_ | refine T.rd rfl (by kernel_rfl) ?_ | refine J.bx rfl rfl rfl rfl rfl rfl ?_
  refine J.cc rfl rfl rfl rfl rfl hlaid rfl rfl ?_
  repeat' first | refine T.seq ?_ | refine T.block ?_ | refine T.r ?_ | refine J.e rfl rfl rfl rfl ?_ | refine J.nil ?_ | refine J.skip rfl rfl rfl ?_ | refine T.skip ?_ | refine T.exit ?_ | refine T.ret ?_ | refine T.rd rfl (by kernel_rfl) ?_ | refine J.bx rfl rfl rfl rfl rfl rfl ?_
  refine J.al rfl rfl rfl rfl rfl rfl rfl ?_
  repeat' first | refine T.seq ?_ | refine T.block ?_ | refine T.r ?_ | refine J.e rfl rfl rfl rfl ?_ | refine J.nil ?_ | refine J.skip rfl rfl rfl ?_ | refine T.skip ?_ | refine T.exit ?_ | refine T.ret ?_ | refine T.rd rfl (by kernel_rfl) ?_ | refine J.bx rfl rfl rfl rfl rfl rfl ?_
  refine J.w rfl rfl rfl rfl rfl rfl rfl rfl rfl rfl ?_
  repeat' first | refine T.seq ?_ | refine T.block ?_ | refine T.r ?_ | refine J.e rfl rfl rfl rfl ?_ | refine J.nil ?_ | refine J.skip rfl rfl rfl ?_ | refine T.skip ?_ | refine T.exit ?_ | refine T.ret ?_ | refine T.rd rfl (by kernel_rfl) ?_ | refine J.bx rfl rfl rfl rfl rfl rfl ?_
  cases ok
  · refine T.ct rfl ?_
    repeat' first | refine T.seq ?_ | refine T.block ?_ | refine T.r ?_ | refine J.e rfl rfl rfl rfl ?_ | refine J.nil ?_ | refine J.skip rfl rfl rfl ?_ | refine T.skip ?_ | refine T.exit ?_ | refine T.ret ?_ | refine T.rd rfl (by kernel_rfl) ?_ | refine J.bx rfl rfl rfl rfl rfl rfl ?_
    refine J.cc rfl rfl rfl rfl rfl fixed8_spec rfl rfl ?_
    repeat' first | refine T.seq ?_ | refine T.block ?_ | refine T.r ?_ | refine J.e rfl rfl rfl rfl ?_ | refine J.nil ?_ | refine J.skip rfl rfl rfl ?_ | refine T.skip ?_ | refine T.exit ?_ | refine T.ret ?_ | refine T.rd rfl (by kernel_rfl) ?_ | refine J.bx rfl rfl rfl rfl rfl rfl ?_
    exact ⟨_, .v rfl rfl rfl (fun h => by cases h) .nil⟩
  · refine T.cf rfl ?_
    obtain ⟨hv, hne⟩ := okU_vars hvb (by simpa using hok.symm)
    have hpr := (uprune_few d vars hf hv hne).frz
    have hpr2 := prune8_few d vars hf hv
    have hsd := sames_spec d d hf.len8.1 hf.len8.2
    rw [decide_eq_true rfl] at hsd
    have hRl : ((prune8 d vars).getD []).length ≤ 5 ∧ ∀ x ∈ (prune8 d vars).getD [], x.length * 16 + 1048576 ≤ 140737488355328 := by
      have hsl := step8_len d vars vars d
      unfold prune8
      split
      · simp
      · split
        · simp
        · simp only [Option.getD_some]
          refine ⟨by omega, fun x hx => ?_⟩
          obtain ⟨j, hj⟩ := List.getElem?_of_mem hx
          rw [step8_at j hv.1 hv.2] at hj
          split at hj
          · obtain ⟨h1, h2, h3⟩ := left8_up hf vars (j : Int)
            obtain rfl := Option.some.inj hj
            exact (pack_fine h1 h3 h2).len
          · exact (hf.fine x (List.mem_of_getElem? hj)).len
    have hsr := sames_spec ((prune8 d vars).getD []) ((prune8 d vars).getD []) (by omega) (fun x hx => by have := hRl.2 x hx; omega)
    rw [decide_eq_true rfl] at hsr
    unfold pruneRes at hpr
    refine T.skip ?_
    refine T.seq ?_
    refine T.r ?_
    repeat' first | refine J.e rfl rfl rfl rfl ?_ | refine J.skip rfl rfl rfl ?_ | refine J.bx rfl rfl rfl rfl rfl rfl ?_
    refine J.cc rfl rfl rfl rfl rfl (lists_spec d hf.small (fun x hx => by have := (hf.fine x hx).len; omega)) rfl rfl ?_
    repeat' first | refine J.e rfl rfl rfl rfl ?_ | refine J.skip rfl rfl rfl ?_ | refine J.bx rfl rfl rfl rfl rfl rfl ?_
    refine J.nil ?_
    refine T.sub (Rel.frz (s := 3) (fun _ h => h) rfl rfl) ?_
    refine T.sub (Rel.frz (s := 6) (fun _ h => h) rfl rfl) ?_
    refine T.sub (Rel.unbx (s := 4) (fun _ h => h) rfl rfl) ?_
    refine T.canon (keep := [3, 4, 6]) (os := []) rfl ?_
    refine T.snap [3, 6] [4] fun w1 vs hfx => ?_
    have hfx3 := hfx 3 _ _ rfl
    have hfx6 := hfx 6 _ _ rfl
    clear hfx
    generalize (prune8 d vars).getD [] = D at *
    generalize (prune8 d vars).isSome = bs at *
    repeat' first | refine T.seq ?_ | refine T.block ?_ | refine T.r ?_ | refine J.e rfl rfl rfl rfl ?_ | refine J.nil ?_ | refine J.skip rfl rfl rfl ?_ | refine T.skip ?_ | refine T.exit ?_ | refine T.ret ?_ | refine T.rd rfl (by kernel_rfl) ?_ | refine J.bx rfl rfl rfl rfl rfl rfl ?_
    refine J.cc rfl rfl rfl rfl rfl hpr rfl rfl ?_
    repeat' first | refine T.seq ?_ | refine T.block ?_ | refine T.r ?_ | refine J.e rfl rfl rfl rfl ?_ | refine J.nil ?_ | refine J.skip rfl rfl rfl ?_ | refine T.skip ?_ | refine T.exit ?_ | refine T.ret ?_ | refine T.rd rfl (by kernel_rfl) ?_ | refine J.bx rfl rfl rfl rfl rfl rfl ?_
    refine J.cc rfl rfl rfl rfl rfl hpr2 rfl rfl ?_
    repeat' first | refine T.seq ?_ | refine T.block ?_ | refine T.r ?_ | refine J.e rfl rfl rfl rfl ?_ | refine J.nil ?_ | refine J.skip rfl rfl rfl ?_ | refine T.skip ?_ | refine T.exit ?_ | refine T.ret ?_ | refine J.bx rfl rfl rfl rfl rfl rfl ?_
    cases bs
    all_goals
      repeat' first | refine T.seq ?_ | refine T.block ?_ | refine T.r ?_ | refine J.e rfl rfl rfl rfl ?_ | refine J.nil ?_ | refine J.skip rfl rfl rfl ?_ | refine T.skip ?_ | refine T.exit ?_ | refine T.ret ?_ | refine T.rd rfl (by kernel_rfl) ?_ | refine J.bx rfl rfl rfl rfl rfl rfl ?_
      refine J.cc rfl rfl rfl rfl rfl hsr rfl rfl ?_
      repeat' first | refine T.seq ?_ | refine T.block ?_ | refine T.r ?_ | refine J.e rfl rfl rfl rfl ?_ | refine J.nil ?_ | refine J.skip rfl rfl rfl ?_ | refine T.skip ?_ | refine T.exit ?_ | refine T.ret ?_ | refine T.rd rfl (by kernel_rfl) ?_ | refine J.bx rfl rfl rfl rfl rfl rfl ?_
      refine T.cf2 rfl (by simp) ?_
      repeat' first | refine T.seq ?_ | refine T.block ?_ | refine T.r ?_ | refine J.e rfl rfl rfl rfl ?_ | refine J.nil ?_ | refine J.skip rfl rfl rfl ?_ | refine T.skip ?_ | refine T.exit ?_ | refine T.ret ?_ | refine T.rd rfl (by kernel_rfl) ?_ | refine J.bx rfl rfl rfl rfl rfl rfl ?_
      refine T.canon (keep := [3, 6, 7, 11]) (os := []) rfl (T.ind (fun s : Nat × Doms => ⟨[(3, .fix (vs 3) (doms d)), (6, .fix (vs 6) (doms d)), (7, .val true (doms s.2)), (11, .val true (.int .i64 s.1))], [], 0⟩) (fun s => s.1 ≤ D.length ∧ s.2.map List.length = D.map List.length) (fun s => D.length - s.1) (0, D) ⟨by simp, rfl⟩ (fun _ _ h => h) ?_)
      rintro ⟨i, D1⟩ ⟨hi, hD1⟩ ih
      have hl1 : D1.length = D.length := by have := congrArg List.length hD1; simpa using this
      repeat' first | refine T.seq ?_ | refine T.block ?_ | refine T.r ?_ | refine J.e rfl rfl rfl rfl ?_ | refine J.nil ?_ | refine J.skip rfl rfl rfl ?_ | refine T.skip ?_ | refine T.exit ?_ | refine T.ret ?_ | refine T.rd rfl (by kernel_rfl) ?_ | refine J.bx rfl rfl rfl rfl rfl rfl ?_
      refine T.cd rfl (fun h4 => ?_) (fun h4 => ?_)
      · have h4 : i < D1.length := by simpa using h4
        repeat' first | refine T.seq ?_ | refine T.block ?_ | refine T.r ?_ | refine J.e rfl rfl rfl rfl ?_ | refine J.nil ?_ | refine J.skip rfl rfl rfl ?_ | refine T.skip ?_ | refine T.exit ?_ | refine T.ret ?_ | refine T.rd rfl (by kernel_rfl) ?_ | refine J.bx rfl rfl rfl rfl rfl rfl ?_
        refine T.canon (keep := [3, 6, 7, 11, 12]) (os := []) rfl (T.ind (fun s : Nat × Doms => ⟨[(3, .fix (vs 3) (doms d)), (6, .fix (vs 6) (doms d)), (7, .val true (doms s.2)), (11, .val true (.int .i64 i)), (12, .val true (.int .i64 s.1))], [], 0⟩) (fun s => s.1 ≤ D1[i].length ∧ s.2.map List.length = D.map List.length) (fun s => D1[i].length - s.1) (0, D1) ⟨by simp, hD1⟩ (fun _ _ h => h) ?_)
        rintro ⟨k, D2⟩ ⟨hk, hD2⟩ ih2
        have hl2 : D2.length = D.length := by have := congrArg List.length hD2; simpa using this
        have hi2 : i < D2.length := by omega
        have hle : D2[i].length = D1[i].length := by
          have e := hD2.trans hD1.symm
          have e2 : (D2.map List.length)[i]? = (D1.map List.length)[i]? := by rw [e]
          simpa [List.getElem?_eq_getElem hi2, List.getElem?_eq_getElem h4] using e2
        have hsz : D1[i].length * 16 ≤ 140737488355328 := by
          have e2 : (D1.map List.length)[i]? = (D.map List.length)[i]? := by rw [hD1]
          have hi3 : i < D.length := by omega
          simp only [List.getElem?_map, List.getElem?_eq_getElem h4, List.getElem?_eq_getElem hi3, Option.map_some, Option.some.injEq] at e2
          have := hRl.2 D[i] (List.getElem_mem hi3)
          omega
        repeat' first | refine T.seq ?_ | refine T.block ?_ | refine T.r ?_ | refine J.e rfl rfl rfl rfl ?_ | refine J.nil ?_ | refine J.skip rfl rfl rfl ?_ | refine T.skip ?_ | refine T.exit ?_ | refine T.ret ?_ | refine T.rd rfl (by kernel_rfl) ?_ | refine J.bx rfl rfl rfl rfl rfl rfl ?_
        refine J.i rfl rfl rfl rfl rfl rfl rfl rfl rfl (r := cD D2[i]) (by omega) (row_i hi2) rfl ?_
        repeat' first | refine T.seq ?_ | refine T.block ?_ | refine T.r ?_ | refine J.e rfl rfl rfl rfl ?_ | refine J.nil ?_ | refine J.skip rfl rfl rfl ?_ | refine T.skip ?_ | refine T.exit ?_ | refine T.ret ?_ | refine T.rd rfl (by kernel_rfl) ?_ | refine J.bx rfl rfl rfl rfl rfl rfl ?_
        refine T.cd rfl (fun h5 => ?_) (fun h5 => ?_)
        · have h5 : k < D2[i].length := by simpa using h5
          repeat' first | refine T.seq ?_ | refine T.block ?_ | refine T.r ?_ | refine J.e rfl rfl rfl rfl ?_ | refine J.nil ?_ | refine J.skip rfl rfl rfl ?_ | refine T.skip ?_ | refine T.exit ?_ | refine T.ret ?_ | refine T.rd rfl (by kernel_rfl) ?_ | refine J.bx rfl rfl rfl rfl rfl rfl ?_
          refine J.i rfl rfl rfl rfl rfl rfl rfl rfl rfl (r := cD D2[i]) (by omega) (row_i hi2) rfl ?_
          repeat' first | refine T.seq ?_ | refine T.block ?_ | refine T.r ?_ | refine J.e rfl rfl rfl rfl ?_ | refine J.nil ?_ | refine J.skip rfl rfl rfl ?_ | refine T.skip ?_ | refine T.exit ?_ | refine T.ret ?_ | refine T.rd rfl (by kernel_rfl) ?_ | refine J.bx rfl rfl rfl rfl rfl rfl ?_
          refine J.i rfl rfl rfl rfl rfl rfl rfl rfl rfl (r := cR D2[i][k]) (by omega) (row_i h5) rfl ?_
          repeat' first | refine T.seq ?_ | refine T.block ?_ | refine T.r ?_ | refine J.e rfl rfl rfl rfl ?_ | refine J.nil ?_ | refine J.skip rfl rfl rfl ?_ | refine T.skip ?_ | refine T.exit ?_ | refine T.ret ?_ | refine T.rd rfl (by kernel_rfl) ?_ | refine J.bx rfl rfl rfl rfl rfl rfl ?_
          refine J.tr (s := 7) (D := doms D2) [3, 6] [11, 12] (fun _ h => h) (fun _ h => h) rfl rfl rfl rfl rfl rfl rfl rfl (fun q u p hq h => by
            simp only [List.mem_cons, List.not_mem_nil, or_false] at hq
            rcases hq with rfl | rfl
            · cases h; exact hfx3
            · cases h; exact hfx6) fun D3 hsh => ?_
          obtain ⟨D3, rfl, e3⟩ := sh_doms hsh
          repeat' first | refine T.seq ?_ | refine T.block ?_ | refine T.r ?_ | refine J.e rfl rfl rfl rfl ?_ | refine J.nil ?_ | refine J.skip rfl rfl rfl ?_ | refine T.skip ?_ | refine T.exit ?_ | refine T.ret ?_ | refine T.rd rfl (by kernel_rfl) ?_ | refine J.bx rfl rfl rfl rfl rfl rfl ?_
          rw [wrap1 (l := D1[i].length) (by omega) (by omega)]
          exact T.canon (keep := [3, 6, 7, 11, 12]) (os := []) rfl (ih2 (k + 1, D3) ⟨by omega, e3.trans hD2⟩ (by simp only; omega))
        · have h5 : k = D2[i].length := by simp at h5; omega
          repeat' first | refine T.seq ?_ | refine T.block ?_ | refine T.r ?_ | refine J.e rfl rfl rfl rfl ?_ | refine J.nil ?_ | refine J.skip rfl rfl rfl ?_ | refine T.skip ?_ | refine T.exit ?_ | refine T.ret ?_ | refine T.rd rfl (by kernel_rfl) ?_ | refine J.bx rfl rfl rfl rfl rfl rfl ?_
          rw [wrap1 (l := D.length) (by omega) (by omega)]
          exact T.canon (keep := [3, 6, 7, 11]) (os := []) rfl (ih (i + 1, D2) ⟨by omega, hD2⟩ (by simp only; omega))
      · repeat' first | refine T.seq ?_ | refine T.block ?_ | refine T.r ?_ | refine J.e rfl rfl rfl rfl ?_ | refine J.nil ?_ | refine J.skip rfl rfl rfl ?_ | refine T.skip ?_ | refine T.exit ?_ | refine T.ret ?_ | refine T.rd rfl (by kernel_rfl) ?_ | refine J.bx rfl rfl rfl rfl rfl rfl ?_
        refine J.cc rfl rfl rfl rfl rfl hsd rfl rfl ?_
        repeat' first | refine T.seq ?_ | refine T.block ?_ | refine T.r ?_ | refine J.e rfl rfl rfl rfl ?_ | refine J.nil ?_ | refine J.skip rfl rfl rfl ?_ | refine T.skip ?_ | refine T.exit ?_ | refine T.ret ?_ | refine T.rd rfl (by kernel_rfl) ?_ | refine J.bx rfl rfl rfl rfl rfl rfl ?_
        refine J.cc rfl rfl rfl rfl rfl fixed8_spec rfl rfl ?_
        repeat' first | refine T.seq ?_ | refine T.block ?_ | refine T.r ?_ | refine J.e rfl rfl rfl rfl ?_ | refine J.nil ?_ | refine J.skip rfl rfl rfl ?_ | refine T.skip ?_ | refine T.exit ?_ | refine T.ret ?_ | refine T.rd rfl (by kernel_rfl) ?_ | refine J.bx rfl rfl rfl rfl rfl rfl ?_
        exact ⟨_, .v rfl rfl rfl (fun h => by cases h) .nil⟩
end Go.Proofs.Ytdflkbmpbblcfaa
/-! Plain: what is left by what are all others. -/
namespace Go.Proofs.Ytdflkbmpbblcfaa
open Go Go.RowKit
set_option linter.unusedVariables false
set_option linter.unusedSimpArgs false

structure Left8 (d : Doms) (vars : List Int) (out : Doms) : Prop where
  len : out.length = d.length
  few : FewD out
  at' : ∀ i (hi : i < vars.length), domAt out vars[i] = pack (left8 d vars vars[i])
  off : ∀ j : Nat, (j : Int) ∉ vars → out[j]? = d[j]?
theorem prune8_left {d : Doms} (h : FewD d) {vars : List Int} (hv : VarsU d vars) {out : Doms} (hR : prune8 d vars = some out) : Left8 d vars out := by
  unfold prune8 at hR
  split at hR
  · cases hR
  · split at hR
    · cases hR
    · obtain rfl := Option.some.inj hR
      have hat := fun j => step8_at (d := d) (vars := vars) (out := d) j hv.1 hv.2
      have hall : ∀ x ∈ step8 d vars vars d, Fine x ∧ (vals x).length ≤ 4096 := fun x hx => by
        obtain ⟨j, hj⟩ := List.getElem?_of_mem hx
        rw [hat j] at hj
        split at hj
        · obtain ⟨h1, h2, h3⟩ := left8_up h vars (j : Int)
          obtain rfl := Option.some.inj hj
          exact ⟨pack_fine h1 h3 h2, by rw [vals_pack h1]; exact h2⟩
        · exact ⟨h.fine x (List.mem_of_getElem? hj), h.few x (List.mem_of_getElem? hj)⟩
      refine ⟨step8_len _ _ _ _, ⟨by rw [step8_len]; exact h.small, fun x hx => (hall x hx).1, fun x hx => (hall x hx).2⟩, fun i hi => ?_, fun j hj => by rw [hat j, if_neg hj]⟩
      have h0 := (hv.2 _ (List.getElem_mem hi)).1
      have e : ((vars[i].toNat : Nat) : Int) = vars[i] := by omega
      have := hat vars[i].toNat
      rw [e, if_pos (List.getElem_mem hi)] at this
      unfold domAt
      rw [List.getD_eq_getElem?_getD, this]; rfl
theorem Left8.vals {d : Doms} (h : FewD d) {vars : List Int} {out : Doms} (hl : Left8 d vars out) {i : Nat} (hi : i < vars.length) : Go.Proofs.Ytdflkbmpbblcfaa.vals (domAt out vars[i]) = left8 d vars vars[i] := by
  rw [hl.at' i hi, vals_pack (left8_up h vars vars[i]).1]
theorem known8 {d : Doms} (h : FewD d) {vars : List Int} (hv : VarsU d vars) {i k : Nat} (hi : i < vars.length) (hk : k < vars.length) (hne : k ≠ i) {x : Int} (hx : left8 d vars vars[i] = [x]) : x ∉ left8 d vars vars[k] := by
  intro hm
  obtain ⟨g, hg, e⟩ := (left8_mem h hv hk x).1 hm
  have h1 := (left8_mem h hv hi (g i)).2 ⟨g, hg, rfl⟩
  rw [hx] at h1
  have h2 : g i = x := List.mem_singleton.1 h1
  have hlen : (listsP d vars).length = vars.length := List.length_map ..
  exact hne (hg.2 k i (by omega) (by omega) (e.trans h2.symm))
end Go.Proofs.Ytdflkbmpbblcfaa
/-! The statement UnlikeOrder: what its function answers. -/
namespace Go.Proofs.Ytdflkbmpbblcfaa
open Go Go.RowKit
set_option linter.unusedVariables false
set_option linter.unusedSimpArgs false
set_option maxRecDepth 8000

theorem others_rev {L : List (List Int)} : (∃ g, Others L g) → ∃ g, Others L.reverse g := by
  rintro ⟨g, h1, h2⟩
  refine ⟨fun j => g (L.length - 1 - j), fun j hj => ?_, fun j k hj hk e => ?_⟩
  · rw [List.length_reverse] at hj
    have := h1 (L.length - 1 - j) (by omega)
    rw [List.getD_eq_getElem?_getD, List.getElem?_reverse hj, ← List.getD_eq_getElem?_getD]
    exact this
  · rw [List.length_reverse] at hj hk
    have := h2 _ _ (by omega) (by omega) e
    omega
theorem extP_rev {d : Doms} (h : FewD d) (vars : List Int) : extP d vars.reverse vars.reverse.length [] = extP d vars vars.length [] := by
  rw [oth_eq h, oth_eq h, Bool.eq_iff_iff, matchR_iff, matchR_iff]
  have e : listsP d vars.reverse = (listsP d vars).reverse := by rw [listsP, listsP, List.map_reverse]
  rw [e]
  exact ⟨fun h => by have := others_rev h; rwa [List.reverse_reverse] at this, others_rev⟩
theorem left8_rev {d : Doms} (h : FewD d) (vars : List Int) (v : Int) : left8 d vars.reverse v = left8 d vars v := by
  unfold left8
  refine List.filter_congr fun x hx => ?_
  exact extP_rev (h.one _ ((h.at v).2.2 x hx)) vars
theorem nodup_rev {l : List Int} (h : l.Nodup) : l.reverse.Nodup := List.pairwise_reverse.2 (h.imp Ne.symm)
theorem prune8_rev {d : Doms} (h : FewD d) {vars : List Int} (hv : VarsU d vars) : prune8 d vars.reverse = prune8 d vars := by
  have hst : step8 d vars.reverse vars.reverse d = step8 d vars vars d := by
    refine List.ext_getElem? fun j => ?_
    rw [step8_at j hv.1 hv.2, step8_at j (nodup_rev hv.1) (fun v hm => hv.2 v (List.mem_reverse.1 hm)), left8_rev h]
    simp only [List.mem_reverse]
  unfold prune8
  rw [hst]
theorem VarsU.rev {d : Doms} {vars : List Int} (hv : VarsU d vars) : VarsU d vars.reverse := ⟨nodup_rev hv.1, fun v hm => hv.2 v (List.mem_reverse.1 hm)⟩
theorem law_uorder (o : Few) (ho : FewB o) : Spec Try.prog 6 true [.agg (cFew o)] [.val (.bool true)] := by
  refine Spec.body Try.func6 rfl rfl rfl fun w0 Z0 => ?_
  have hlaid := laid8_spec o ho
  have hok : okU o = decide (conR (laidU o) (conU o.vars) = 0) := rfl
  obtain ⟨hf, hlen⟩ := laidU_few o
  have hvb := ho.2.2.1
  generalize laidU o = d at *
  generalize o.vars = vars at *
  generalize okU o = ok at *
  repeat' ((first | refine T.G rfl ?_ | refine J.G rfl ?_ | refine J.H rfl ?_ | refine T.rd rfl (by decide +kernel) ?_ | fail); conv => whnf)
  refine J.cc rfl rfl rfl rfl rfl hlaid rfl rfl ?_
  repeat' ((first | refine T.G rfl ?_ | refine J.G rfl ?_ | refine J.H rfl ?_ | refine T.rd rfl (by decide +kernel) ?_ | fail); conv => whnf)
  refine J.al rfl rfl rfl rfl rfl rfl rfl ?_
  repeat' ((first | refine T.G rfl ?_ | refine J.G rfl ?_ | refine J.H rfl ?_ | refine T.rd rfl (by decide +kernel) ?_ | fail); conv => whnf)
  refine J.w rfl rfl rfl rfl rfl rfl rfl rfl rfl rfl ?_
  repeat' ((first | refine T.G rfl ?_ | refine J.G rfl ?_ | refine J.H rfl ?_ | refine T.rd rfl (by decide +kernel) ?_ | fail); conv => whnf)
  cases ok
  · refine T.ct rfl ?_
    repeat' ((first | refine T.G rfl ?_ | refine J.G rfl ?_ | refine J.H rfl ?_ | refine T.rd rfl (by decide +kernel) ?_ | fail); conv => whnf)
    refine J.cc rfl rfl rfl rfl rfl fixed8_spec rfl rfl ?_
    repeat' ((first | refine T.G rfl ?_ | refine J.G rfl ?_ | refine J.H rfl ?_ | refine T.rd rfl (by decide +kernel) ?_ | fail); conv => whnf)
    exact ⟨_, .v rfl rfl rfl (fun h => by cases h) .nil⟩
  refine T.cf rfl ?_
  obtain ⟨hv, hne⟩ := okU_vars hvb (by simpa using hok.symm)
  have hpr := (uprune_few d vars hf hv hne).frz
  have hpr2 := (uprune_few d vars.reverse hf hv.rev (by simpa using hne)).frz
  rw [prune8_rev hf hv] at hpr2
  unfold pruneRes at hpr hpr2
  have hvl := hv.few hf
  have hRl : ((prune8 d vars).getD []).length ≤ d.length ∧ ∀ (out : Doms), prune8 d vars = some out → Left8 d vars out := by
    cases hR : prune8 d vars with
    | none => exact ⟨by simp, fun out h => by cases h⟩
    | some out =>
      have := prune8_left hf hv hR
      exact ⟨by rw [Option.getD_some, this.len]; exact Nat.le_refl _, fun o2 h => by cases h; exact this⟩
  refine T.skip ?_
  refine T.sub (Rel.frz (s := 3) (fun _ h => h) rfl rfl) ?_
  refine T.sub (Rel.unbx (s := 4) (fun _ h => h) rfl rfl) ?_
  refine T.canon (keep := [3, 4]) (os := []) rfl ?_
  repeat' ((first | refine T.G rfl ?_ | refine J.G rfl ?_ | refine J.H rfl ?_ | refine T.rd rfl (by decide +kernel) ?_ | fail); conv => whnf)
  refine J.bo rfl rfl rfl rfl rfl rfl rfl rfl rfl rfl rfl rfl ?_
  repeat' ((first | refine T.G rfl ?_ | refine J.G rfl ?_ | refine J.H rfl ?_ | refine T.rd rfl (by decide +kernel) ?_ | fail); conv => whnf)
  have hw0 : IntKind.i64.wrap ((((vars.map cI).length : Nat) : Int) - 1) = (vars.length : Int) - 1 := by
    rw [List.length_map, wrap_id] <;> omega
  have hw0' : IntKind.i64.wrap (((((conU vars).vars.map cI).length : Nat) : Int) - 1) = (vars.length : Int) - 1 := hw0
  rw [hw0']
  refine T.canon (keep := [3, 4, 6, 7]) (os := [6]) rfl (?_ : T _ _ ⟨[(3, .val false (doms d)), (4, .fptr false (cC (conU vars))), (6, .ref 0), (7, .val true (.int .i64 ((vars.length : Int) - 1)))], [(0, some (.sl 3 1 true []))], 1⟩ _)
  have e0 : ([] : List (List PV)) = (vars.drop vars.length).reverse.map cI := by simp
  rw [e0]
  refine (T.ind (fun m : Nat => ⟨[(3, .val false (doms d)), (4, .fptr false (cC (conU vars))), (6, .ref 0), (7, .val true (.int .i64 ((m : Int) - 1)))], [(0, some (.sl 3 1 true ((vars.drop m).reverse.map cI)))], 1⟩) (fun m => m ≤ vars.length) (fun m => m) vars.length (Nat.le_refl _) (fun _ _ h => h) ?_)
  rintro m hm ih
  repeat' ((first | refine T.G rfl ?_ | refine J.G rfl ?_ | refine J.H rfl ?_ | refine T.rd rfl (by decide +kernel) ?_ | fail); conv => whnf)
  refine T.cd rfl (fun h5 => ?_) (fun h5 => ?_)
  · have h5 : 0 < m := by
      have h5 : (m : Int) - 1 ≥ 0 := h5
      omega
    have hmv : m - 1 < vars.length := by omega
    have hrow : (vars.map cI)[((m : Int) - 1).toNat]? = some (cI vars[m - 1]) := by
      rw [show ((m : Int) - 1).toNat = m - 1 by omega]
      simp [hmv]
    repeat' ((first | refine T.G rfl ?_ | refine J.G rfl ?_ | refine J.H rfl ?_ | refine T.rd rfl (by decide +kernel) ?_ | fail); conv => whnf)
    refine J.i rfl rfl rfl rfl rfl rfl rfl rfl rfl (r := cI vars[m - 1]) (by omega) hrow rfl ?_
    repeat' ((first | refine T.G rfl ?_ | refine J.G rfl ?_ | refine J.H rfl ?_ | refine T.rd rfl (by decide +kernel) ?_ | fail); conv => whnf)
    refine J.bv rfl rfl rfl rfl rfl rfl rfl rfl rfl rfl rfl rfl ?_
    repeat' ((first | refine T.G rfl ?_ | refine J.G rfl ?_ | refine J.H rfl ?_ | refine T.rd rfl (by decide +kernel) ?_ | fail); conv => whnf)
    refine J.aI rfl rfl rfl rfl rfl rfl rfl rfl rfl rfl rfl rfl rfl rfl rfl rfl rfl rfl rfl (by simp; omega) ?_
    have e : (vars.drop m).reverse ++ [vars[m - 1]] = (vars.drop (m - 1)).reverse := by
      rw [List.drop_eq_getElem_cons hmv, List.reverse_cons, show m - 1 + 1 = m by omega]
    rw [e]
    repeat' ((first | refine T.G rfl ?_ | refine J.G rfl ?_ | refine J.H rfl ?_ | refine T.rd rfl (by decide +kernel) ?_ | fail); conv => whnf)
    rw [show IntKind.i64.wrap ((m : Int) - 1 - 1) = ((m - 1 : Nat) : Int) - 1 by rw [wrap_id] <;> omega]
    exact T.canon (keep := [3, 4, 6, 7]) (os := [6]) rfl (ih (m - 1) (by omega) (by omega))
  · have h5 : m = 0 := by
      have h5 : ¬ (m : Int) - 1 ≥ 0 := h5
      omega
    subst h5
    rw [List.drop_zero]
    repeat' ((first | refine T.G rfl ?_ | refine J.G rfl ?_ | refine J.H rfl ?_ | refine T.rd rfl (by decide +kernel) ?_ | fail); conv => whnf)
    refine J.cc rfl rfl rfl rfl rfl hpr rfl rfl ?_
    repeat' ((first | refine T.G rfl ?_ | refine J.G rfl ?_ | refine J.H rfl ?_ | refine T.rd rfl (by decide +kernel) ?_ | fail); conv => whnf)
    refine J.sub (Rel.frz (s := 47) (fun _ h => h) rfl rfl) ?_
    repeat' ((first | refine T.G rfl ?_ | refine J.G rfl ?_ | refine J.H rfl ?_ | refine T.rd rfl (by decide +kernel) ?_ | fail); conv => whnf)
    refine J.cc rfl rfl rfl rfl rfl hpr2 rfl rfl ?_
    have hD : ∀ i (hi : i < ((prune8 d vars).getD []).length), ((i : Nat) : Int) ∉ vars → ((prune8 d vars).getD [])[i] = domAt d i := by
      have h2 := hRl.2
      cases hR : prune8 d vars with
      | none => intro i hi; simp at hi
      | some out =>
        intro i hi hni
        have hl := h2 out hR
        have := hl.off i hni
        simp only [Option.getD_some] at hi ⊢
        rw [List.getElem?_eq_getElem hi] at this
        unfold domAt
        rw [List.getD_eq_getElem?_getD, Int.toNat_natCast, ← this]; rfl
    have hDx : ∀ x ∈ (prune8 d vars).getD [], x.length * 8 ≤ 140737488355328 := by
      have h2 := hRl.2
      cases hR : prune8 d vars with
      | none => simp
      | some out => exact (h2 out hR).few.len8.2
    have hDl := hRl.1
    have hsr := sames_spec ((prune8 d vars).getD []) ((prune8 d vars).getD []) (by omega) hDx
    rw [decide_eq_true rfl] at hsr
    clear hpr hpr2 hRl
    generalize (prune8 d vars).getD [] = D at *
    generalize (prune8 d vars).isSome = bs at *
    cases bs
    all_goals
      repeat' ((first | refine T.G rfl ?_ | refine J.G rfl ?_ | refine J.H rfl ?_ | refine T.rd rfl (by decide +kernel) ?_ | fail); conv => whnf)
      refine J.cc rfl rfl rfl rfl rfl hsr rfl rfl ?_
      repeat' ((first | refine T.G rfl ?_ | refine J.G rfl ?_ | refine J.H rfl ?_ | refine T.rd rfl (by decide +kernel) ?_ | fail); conv => whnf)
      refine T.cf2 rfl (by simp; omega) ?_
      repeat' ((first | refine T.G rfl ?_ | refine J.G rfl ?_ | refine J.H rfl ?_ | refine T.rd rfl (by decide +kernel) ?_ | fail); conv => whnf)
      refine T.canon (keep := [3, 4, 8, 12]) (os := []) rfl (T.ind (fun i : Nat => ⟨[(3, .val false (doms d)), (4, .fptr false (cC (conU vars))), (8, .val true (doms D)), (12, .val true (.int .i64 i))], [], 0⟩) (fun i => i ≤ D.length) (fun i => D.length - i) 0 (by simp) (fun _ _ h => h) ?_)
      rintro i hi ih2
      repeat' ((first | refine T.G rfl ?_ | refine J.G rfl ?_ | refine J.H rfl ?_ | refine T.rd rfl (by decide +kernel) ?_ | fail); conv => whnf)
      refine T.cd rfl (fun h6 => ?_) (fun h6 => ?_)
      rotate_left
      · repeat' ((first | refine T.G rfl ?_ | refine J.G rfl ?_ | refine J.H rfl ?_ | refine T.rd rfl (by decide +kernel) ?_ | fail); conv => whnf)
        refine J.cc rfl rfl rfl rfl rfl fixed8_spec rfl rfl ?_
        repeat' ((first | refine T.G rfl ?_ | refine J.G rfl ?_ | refine J.H rfl ?_ | refine T.rd rfl (by decide +kernel) ?_ | fail); conv => whnf)
        exact ⟨_, .v rfl rfl rfl (fun h => by cases h) .nil⟩
      have h6 : i < D.length := by simpa using h6
      have hid : i < d.length := by omega
      have hhs := has_spec vars (i : Nat) (by omega)
      have hwi : IntKind.i64.wrap ((i : Int) + 1) = ((i + 1 : Nat) : Int) := wrap1 (l := D.length) h6 (by have := hf.len8.1; omega)
      have ih3 := ih2 (i + 1) (by omega) (by omega)
      by_cases hiv : (i : Int) ∈ vars
      · rw [decide_eq_true hiv] at hhs
        repeat' ((first | refine T.G rfl ?_ | refine J.G rfl ?_ | refine J.H rfl ?_ | refine T.rd rfl (by decide +kernel) ?_ | fail); conv => whnf)
        refine J.cc rfl rfl rfl rfl rfl hhs rfl rfl ?_
        repeat' ((first | refine T.G rfl ?_ | refine J.G rfl ?_ | refine J.H rfl ?_ | refine T.rd rfl (by decide +kernel) ?_ | fail); conv => whnf)
        refine T.cf rfl ?_
        repeat' ((first | refine T.G rfl ?_ | refine J.G rfl ?_ | refine J.H rfl ?_ | refine T.rd rfl (by decide +kernel) ?_ | fail); conv => whnf)
        rw [hwi]
        exact T.canon (keep := [3, 4, 8, 12]) (os := []) rfl ih3
      · rw [decide_eq_false hiv] at hhs
        have hss := same_spec D[i] d[i] (hDx _ (List.getElem_mem h6))
        have hDi : D[i] = d[i] := by
          rw [hD i h6 hiv]
          unfold domAt
          rw [List.getD_eq_getElem?_getD, Int.toNat_natCast, List.getElem?_eq_getElem hid]; rfl
        rw [decide_eq_true hDi] at hss
        repeat' ((first | refine T.G rfl ?_ | refine J.G rfl ?_ | refine J.H rfl ?_ | refine T.rd rfl (by decide +kernel) ?_ | fail); conv => whnf)
        refine J.cc rfl rfl rfl rfl rfl hhs rfl rfl ?_
        repeat' ((first | refine T.G rfl ?_ | refine J.G rfl ?_ | refine J.H rfl ?_ | refine T.rd rfl (by decide +kernel) ?_ | fail); conv => whnf)
        refine J.i rfl rfl rfl rfl rfl rfl rfl rfl rfl (r := cD D[i]) (by omega) (row_i h6) rfl ?_
        repeat' ((first | refine T.G rfl ?_ | refine J.G rfl ?_ | refine J.H rfl ?_ | refine T.rd rfl (by decide +kernel) ?_ | fail); conv => whnf)
        refine J.i rfl rfl rfl rfl rfl rfl rfl rfl rfl (r := cD d[i]) (by omega) (row_i hid) rfl ?_
        repeat' ((first | refine T.G rfl ?_ | refine J.G rfl ?_ | refine J.H rfl ?_ | refine T.rd rfl (by decide +kernel) ?_ | fail); conv => whnf)
        refine J.cc rfl rfl rfl rfl rfl hss rfl rfl ?_
        repeat' ((first | refine T.G rfl ?_ | refine J.G rfl ?_ | refine J.H rfl ?_ | refine T.rd rfl (by decide +kernel) ?_ | fail); conv => whnf)
        refine T.cf rfl ?_
        repeat' ((first | refine T.G rfl ?_ | refine J.G rfl ?_ | refine J.H rfl ?_ | refine T.rd rfl (by decide +kernel) ?_ | fail); conv => whnf)
        rw [hwi]
        exact T.canon (keep := [3, 4, 8, 12]) (os := []) rfl ih3
end Go.Proofs.Ytdflkbmpbblcfaa
/-! The row of UnlikeOrder. -/
namespace Go.Proofs.Ytdflkbmpbblcfaa.unlikeOrder
open Go.ChangeShapes Go.WideShapes Go.ChangeAt Go.RowKit
set_option linter.unusedVariables false
theorem own : ownKnob Try.prog.godebug = none := by kernel_rfl
theorem laidOut : laidOutB Try.prog = true := by kernel_rfl
set_option maxRecDepth 100000 in
theorem lifted (os : Os) (started : os.Started) (H : Type) (enc : TypeId × Value → H) :
    ReturnsInHanded {} Try.checked os 6 .any (Rows.unlikeOrderSpec.pre6 enc Try.prog Try.f6 Rows.unlikeOrderRow.domain false) (Rows.unlikeOrderSpec.post enc Try.prog Try.f6 false true false false) := by
  refine returnsInHanded_of_change_sized (C := Try.checked) own started (by kernel_rfl) Try.func6
    (ChangeSpec.witness6 (enc := enc) (C := Try.checked) false ⟨#[], #[.agg #[.slice none 0 0, .slice none 0 0, .slice none 0 0, .slice none 0 0]], []⟩ 8 (by kernel_rfl) (by kernel_rfl) (by kernel_rfl) (by kernel_rfl)) ?_
  intro W base args ds gs before hval0 hW hcnd hsz0 _
  have hsz : (DataW.weightsEach Try.prog (Try.f6.params.toList ++ Rows.unlikeOrderSpec.plain.varTypes Try.prog) (ds ++ gs)).all (· ≤ reachBytes) = true := hsz0
  have hval : ∀ (j : Nat) t v, Try.f6.params[j]? = some t → args[j]? = some v → Value.okWide Try.prog W .any base t v := hval0
  have hW' := hW
  obtain ⟨p, q, hA0, hV, rfl, hfz, hnd⟩ := hW
  have hA : DataW.TrodAll enc Try.prog W 0 (fun _ => true) true Try.f6.params.toList args.toList ds p := hA0
  rw [Try.params6] at hA hval hsz
  obtain ⟨v0, vs0, d0, ds0, p0, q0, hargs, rfl, rfl, h0, r0⟩ := trodAll_cons hA
  obtain ⟨rfl, rfl, rfl⟩ := trodAll_nil r0
  obtain rfl : args = #[v0] := by cases args; simp_all
  obtain ⟨rfl, rfl⟩ := trodVars_none hV
  have hv := hval 0 25 v0 rfl rfl
  obtain ⟨cs, rfl, _, _⟩ : ∃ cs, v0 = .agg cs ∧ cs.size = Try.prog.cellsOf 25 ∧ Row.okWide Try.prog W .any base 25 cs := by
    unfold Value.okWide at hv
    rw [Try.underlying25] at hv
    exact hv
  have k0 := h0
  have lt0 : ∀ x ∈ p0, x.block < W.heap.size := by obtain ⟨m, hm⟩ := k0; exact DataW.trod_lt m _ _ _ hm
  obtain ⟨fuel, hf⟩ := h0
  have hw : (DataW.weights Try.prog 25 d0).all (· ≤ reachBytes) = true := by
    have e : DataW.weightsEach Try.prog (([25] : List TypeId) ++ Rows.unlikeOrderSpec.plain.varTypes Try.prog) ([d0] ++ []) = DataW.weights Try.prog 25 d0 ++ [] := by
      have e0 : ∀ l : List TypeId, DataW.weightsEach (H := H) Try.prog l [] = [] := by intro l; cases l <;> rfl
      simp only [List.append_nil, List.singleton_append, DataW.weightsEach, e0]
    have h2 : (DataW.weightsEach Try.prog (([25] : List TypeId) ++ Rows.unlikeOrderSpec.plain.varTypes Try.prog) ([d0] ++ [])).all (· ≤ reachBytes) = true := hsz
    rw [e, List.append_nil] at h2
    exact h2
  obtain ⟨o, hrep, ho⟩ := opens_few fuel _ (d0, p0) hf hw (nf hfz fun p hp => by simp [hp])
  clear hA0 hval0 hsz0 hsz
  have hcs : (Value.agg cs).cells.toList = cs.toList := rfl
  rw [hcs] at hrep
  have harg : Rep W (fun _ => True) (.agg cs) (.agg (cFew o)) := by
    have := Rep.agg (w := W) (Z := fun _ => True) cs.toList (cFew o) hrep (few_one o)
    simpa using this
  refine ((law_uorder o ho).out W (fun _ => True) [.agg cs] (.cons harg .nil)).mono fun e W' ⟨rs, he, bel, hret⟩ => ?_
  have hrs : rs = [.bool true] := by
    have h := hret.each
    cases h with
    | cons h1 h2 => cases h2; cases h1; rfl
  subst hrs
  subst he
  exact ⟨_, rfl, _, _, _, [], _, [], hW', trodAll_mk1 (shut_bool Try.underlying4 _), trodAll_cons_mk (Below.trod laidOut (by kernel_rfl) (of_decide_eq_true (by kernel_rfl)) k0 bel lt0) trodAll_mk0, rfl, bel.frame _, fun h => by cases h⟩
theorem over : Rows.unlikeOrderRow.holds Try.pinned (OpenSpec.ofChange Rows.unlikeOrderSpec) :=
  OpenClaim.holds_of_wide 6 Try.f6 rfl rfl rfl rfl rfl rfl rfl ⟨rfl, rfl, rfl, rfl, rfl⟩ rfl rfl rfl rfl rfl (by kernel_rfl) Try.func6 (by kernel_rfl)
    (of_decide_eq_true (by kernel_rfl)) (by unfold Func.isWrapper; first | (rw [if_pos (by decide +kernel)]; kernel_rfl) | (rw [if_neg (by decide +kernel)]; exact ⟨rfl, rfl⟩))
    (fun os started H enc _ => lifted os started H enc)
theorem proved : Rows.UnlikeOrderSaid := over
#print axioms proved
end Go.Proofs.Ytdflkbmpbblcfaa.unlikeOrder
namespace Go.Proofs.Ytdflkbmpbblcfaa
/-- The row, under a short name, for the claim. -/
theorem unlikeOrder_holds : Rows.UnlikeOrderSaid := unlikeOrder.proved
end Go.Proofs.Ytdflkbmpbblcfaa
