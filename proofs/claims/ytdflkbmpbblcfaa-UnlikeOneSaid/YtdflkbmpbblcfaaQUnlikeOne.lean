/- The statement UnlikeOne: the law, and its row. -/
import Derived.Test.YtdflkbmpbblcfaaB8
import Derived.Test.YtdflkbmpbblcfaaRows
import Derived.WalkKit
import Derived.ProofKit
import Derived.OpenShut
import Derived.ShutString
import Derived.ChangeOld
import Derived.Below
import Derived.SizedLaws
/-! The statement UnlikePrunes: what its function answers. -/
namespace Go.Proofs.Ytdflkbmpbblcfaa
open Go Go.RowKit
set_option linter.unusedVariables false
set_option maxRecDepth 8000

theorem laidU_few (o : Few) : FewD (laidU o) ∧ (laidU o).length ≤ 5 := by
  have h5 : (laidU o).length ≤ 5 := by simp [laidU]; omega
  refine ⟨⟨by omega, fun x hx => ?_, fun x hx => ?_⟩, h5⟩
  · obtain ⟨y, _, rfl⟩ := List.mem_map.1 hx
    exact small_fine _
  · obtain ⟨y, _, rfl⟩ := List.mem_map.1 hx
    have := (smallR_ok (y.take 8)).2.2
    omega
theorem okU_vars {d : Doms} {vars : List Int} (hb : (vars.length + 1) * 8 ≤ 140737488355328) (h : conR d (conU vars) = 0) : VarsU d vars ∧ vars ≠ [] := by
  unfold conR at h
  rw [if_neg (by simp [conU])] at h
  split at h
  · cases h
  · rename_i h2
    split at h
    · cases h
    · rename_i h3
      have h2 := by simpa using h2
      have hu := (uses_in (conU_B hb) (List.all_eq_true.2 h2)).1.2
      have h3 : rightR d (conU vars) = true := by simpa using h3
      rw [show rightR d (conU vars) = (noneR (conU vars) && plainR (conU vars) && manyR (conU vars)) from rfl] at h3
      simp only [Bool.and_eq_true] at h3
      have h4 := h3.2
      simp only [manyR, Bool.and_eq_true, decide_eq_true_eq] at h4
      refine ⟨⟨h4.2, hu⟩, fun e => ?_⟩
      have h5 : 0 < vars.length := h4.1
      rw [e] at h5
      cases h5
theorem law_uprunes (o : Few) (ho : FewB o) : Spec Try.prog 3 true [.agg (cFew o)] [.val (.bool true)] := by
  refine Spec.body Try.func3 rfl rfl rfl fun w0 Z0 => ?_
  have hlaid := laid8_spec o ho
  have hok : okU o = decide (conR (laidU o) (conU o.vars) = 0) := rfl
  obtain ⟨hf, hlen⟩ := laidU_few o
  have hvb := ho.2.2.1
  generalize laidU o = d at *
  generalize o.vars = vars at *
  generalize okU o = ok at *
  repeat' first | refine T.seq ?_ | refine T.block ?_ | refine T.r ?_ | refine J.e rfl rfl rfl rfl ?_ | refine J.nil ?_ | refine J.skip rfl rfl rfl ?_ | refine T.skip ?_ | refine T.exit ?_ | refine T.ret ?_ | refine T.rd rfl (by kernel_rfl) ?_ | refine J.bx rfl rfl rfl rfl rfl rfl ?_
  refine J.cc rfl rfl rfl rfl rfl hlaid rfl rfl ?_
  repeat' first | refine T.seq ?_ | refine T.block ?_ | refine T.r ?_ | refine J.e rfl rfl rfl rfl ?_ | refine J.nil ?_ | refine J.skip rfl rfl rfl ?_ | refine T.skip ?_ | refine T.exit ?_ | refine T.ret ?_ | refine T.rd rfl (by kernel_rfl) ?_ | refine J.bx rfl rfl rfl rfl rfl rfl ?_
  refine J.al rfl rfl rfl rfl rfl rfl rfl ?_
  repeat' first | refine T.seq ?_ | refine T.block ?_ | refine T.r ?_ | refine J.e rfl rfl rfl rfl ?_ | refine J.nil ?_ | refine J.skip rfl rfl rfl ?_ | refine T.skip ?_ | refine T.exit ?_ | refine T.ret ?_ | refine T.rd rfl (by kernel_rfl) ?_ | refine J.bx rfl rfl rfl rfl rfl rfl ?_
  refine J.w rfl rfl rfl rfl rfl rfl rfl rfl rfl rfl ?_
  repeat' first | refine T.seq ?_ | refine T.block ?_ | refine T.r ?_ | refine J.e rfl rfl rfl rfl ?_ | refine J.nil ?_ | refine J.skip rfl rfl rfl ?_ | refine T.skip ?_ | refine T.exit ?_ | refine T.ret ?_ | refine T.rd rfl (by kernel_rfl) ?_ | refine J.bx rfl rfl rfl rfl rfl rfl ?_
  cases ok
  · refine T.ct rfl ?_
    repeat' first | refine T.seq ?_ | refine T.block ?_ | refine T.r ?_ | refine J.e rfl rfl rfl rfl ?_ | refine J.nil ?_ | refine J.skip rfl rfl rfl ?_ | refine T.skip ?_ | refine T.exit ?_ | refine T.ret ?_ | refine T.rd rfl (by kernel_rfl) ?_ | refine J.bx rfl rfl rfl rfl rfl rfl ?_
    refine J.cc rfl rfl rfl rfl rfl fixed8_spec rfl rfl ?_
    repeat' first | refine T.seq ?_ | refine T.block ?_ | refine T.r ?_ | refine J.e rfl rfl rfl rfl ?_ | refine J.nil ?_ | refine J.skip rfl rfl rfl ?_ | refine T.skip ?_ | refine T.exit ?_ | refine T.ret ?_ | refine T.rd rfl (by kernel_rfl) ?_ | refine J.bx rfl rfl rfl rfl rfl rfl ?_
    exact ⟨_, .v rfl rfl rfl (fun h => by cases h) .nil⟩
  · refine T.cf rfl ?_
    obtain ⟨hv, hne⟩ := okU_vars hvb (by simpa using hok.symm)
    have hpr := (uprune_few d vars hf hv hne).frz
    have hpr2 := prune8_few d vars hf hv
    have hsd := sames_spec d d hf.len8.1 hf.len8.2
    rw [decide_eq_true rfl] at hsd
    have hRl : ((prune8 d vars).getD []).length ≤ 5 ∧ ∀ x ∈ (prune8 d vars).getD [], x.length * 16 + 1048576 ≤ 140737488355328 := by
      have hsl := step8_len d vars vars d
      unfold prune8
      split
      · simp
      · split
        · simp
        · simp only [Option.getD_some]
          refine ⟨by omega, fun x hx => ?_⟩
          obtain ⟨j, hj⟩ := List.getElem?_of_mem hx
          rw [step8_at j hv.1 hv.2] at hj
          split at hj
          · obtain ⟨h1, h2, h3⟩ := left8_up hf vars (j : Int)
            obtain rfl := Option.some.inj hj
            exact (pack_fine h1 h3 h2).len
          · exact (hf.fine x (List.mem_of_getElem? hj)).len
    have hsr := sames_spec ((prune8 d vars).getD []) ((prune8 d vars).getD []) (by omega) (fun x hx => by have := hRl.2 x hx; omega)
    rw [decide_eq_true rfl] at hsr
    unfold pruneRes at hpr
    refine T.skip ?_
    refine T.seq ?_
    refine T.r ?_
    repeat' first | refine J.e rfl rfl rfl rfl ?_ | refine J.skip rfl rfl rfl ?_ | refine J.bx rfl rfl rfl rfl rfl rfl ?_
    refine J.cc rfl rfl rfl rfl rfl (lists_spec d hf.small (fun x hx => by have := (hf.fine x hx).len; omega)) rfl rfl ?_
    repeat' first | refine J.e rfl rfl rfl rfl ?_ | refine J.skip rfl rfl rfl ?_ | refine J.bx rfl rfl rfl rfl rfl rfl ?_
    refine J.nil ?_
    refine T.sub (Rel.frz (s := 3) (fun _ h => h) rfl rfl) ?_
    refine T.sub (Rel.frz (s := 6) (fun _ h => h) rfl rfl) ?_
    refine T.sub (Rel.unbx (s := 4) (fun _ h => h) rfl rfl) ?_
    refine T.canon (keep := [3, 4, 6]) (os := []) rfl ?_
    refine T.snap [3, 6] [4] fun w1 vs hfx => ?_
    have hfx3 := hfx 3 _ _ rfl
    have hfx6 := hfx 6 _ _ rfl
    clear hfx
    generalize (prune8 d vars).getD [] = D at *
    generalize (prune8 d vars).isSome = bs at *
    repeat' first | refine T.seq ?_ | refine T.block ?_ | refine T.r ?_ | refine J.e rfl rfl rfl rfl ?_ | refine J.nil ?_ | refine J.skip rfl rfl rfl ?_ | refine T.skip ?_ | refine T.exit ?_ | refine T.ret ?_ | refine T.rd rfl (by kernel_rfl) ?_ | refine J.bx rfl rfl rfl rfl rfl rfl ?_
    refine J.cc rfl rfl rfl rfl rfl hpr rfl rfl ?_
    repeat' first | refine T.seq ?_ | refine T.block ?_ | refine T.r ?_ | refine J.e rfl rfl rfl rfl ?_ | refine J.nil ?_ | refine J.skip rfl rfl rfl ?_ | refine T.skip ?_ | refine T.exit ?_ | refine T.ret ?_ | refine T.rd rfl (by kernel_rfl) ?_ | refine J.bx rfl rfl rfl rfl rfl rfl ?_
    refine J.cc rfl rfl rfl rfl rfl hpr2 rfl rfl ?_
    repeat' first | refine T.seq ?_ | refine T.block ?_ | refine T.r ?_ | refine J.e rfl rfl rfl rfl ?_ | refine J.nil ?_ | refine J.skip rfl rfl rfl ?_ | refine T.skip ?_ | refine T.exit ?_ | refine T.ret ?_ | refine J.bx rfl rfl rfl rfl rfl rfl ?_
    cases bs
    all_goals
      repeat' first | refine T.seq ?_ | refine T.block ?_ | refine T.r ?_ | refine J.e rfl rfl rfl rfl ?_ | refine J.nil ?_ | refine J.skip rfl rfl rfl ?_ | refine T.skip ?_ | refine T.exit ?_ | refine T.ret ?_ | refine T.rd rfl (by kernel_rfl) ?_ | refine J.bx rfl rfl rfl rfl rfl rfl ?_
      refine J.cc rfl rfl rfl rfl rfl hsr rfl rfl ?_
      repeat' first | refine T.seq ?_ | refine T.block ?_ | refine T.r ?_ | refine J.e rfl rfl rfl rfl ?_ | refine J.nil ?_ | refine J.skip rfl rfl rfl ?_ | refine T.skip ?_ | refine T.exit ?_ | refine T.ret ?_ | refine T.rd rfl (by kernel_rfl) ?_ | refine J.bx rfl rfl rfl rfl rfl rfl ?_
      refine T.cf2 rfl (by simp) ?_
      repeat' first | refine T.seq ?_ | refine T.block ?_ | refine T.r ?_ | refine J.e rfl rfl rfl rfl ?_ | refine J.nil ?_ | refine J.skip rfl rfl rfl ?_ | refine T.skip ?_ | refine T.exit ?_ | refine T.ret ?_ | refine T.rd rfl (by kernel_rfl) ?_ | refine J.bx rfl rfl rfl rfl rfl rfl ?_
      refine T.canon (keep := [3, 6, 7, 11]) (os := []) rfl (T.ind (fun s : Nat × Doms => ⟨[(3, .fix (vs 3) (doms d)), (6, .fix (vs 6) (doms d)), (7, .val true (doms s.2)), (11, .val true (.int .i64 s.1))], [], 0⟩) (fun s => s.1 ≤ D.length ∧ s.2.map List.length = D.map List.length) (fun s => D.length - s.1) (0, D) ⟨by simp, rfl⟩ (fun _ _ h => h) ?_)
      rintro ⟨i, D1⟩ ⟨hi, hD1⟩ ih
      have hl1 : D1.length = D.length := by have := congrArg List.length hD1; simpa using this
      repeat' first | refine T.seq ?_ | refine T.block ?_ | refine T.r ?_ | refine J.e rfl rfl rfl rfl ?_ | refine J.nil ?_ | refine J.skip rfl rfl rfl ?_ | refine T.skip ?_ | refine T.exit ?_ | refine T.ret ?_ | refine T.rd rfl (by kernel_rfl) ?_ | refine J.bx rfl rfl rfl rfl rfl rfl ?_
      refine T.cd rfl (fun h4 => ?_) (fun h4 => ?_)
      · have h4 : i < D1.length := by simpa using h4
        repeat' first | refine T.seq ?_ | refine T.block ?_ | refine T.r ?_ | refine J.e rfl rfl rfl rfl ?_ | refine J.nil ?_ | refine J.skip rfl rfl rfl ?_ | refine T.skip ?_ | refine T.exit ?_ | refine T.ret ?_ | refine T.rd rfl (by kernel_rfl) ?_ | refine J.bx rfl rfl rfl rfl rfl rfl ?_
        refine T.canon (keep := [3, 6, 7, 11, 12]) (os := []) rfl (T.ind (fun s : Nat × Doms => ⟨[(3, .fix (vs 3) (doms d)), (6, .fix (vs 6) (doms d)), (7, .val true (doms s.2)), (11, .val true (.int .i64 i)), (12, .val true (.int .i64 s.1))], [], 0⟩) (fun s => s.1 ≤ D1[i].length ∧ s.2.map List.length = D.map List.length) (fun s => D1[i].length - s.1) (0, D1) ⟨by simp, hD1⟩ (fun _ _ h => h) ?_)
        rintro ⟨k, D2⟩ ⟨hk, hD2⟩ ih2
        have hl2 : D2.length = D.length := by have := congrArg List.length hD2; simpa using this
        have hi2 : i < D2.length := by omega
        have hle : D2[i].length = D1[i].length := by
          have e := hD2.trans hD1.symm
          have e2 : (D2.map List.length)[i]? = (D1.map List.length)[i]? := by rw [e]
          simpa [List.getElem?_eq_getElem hi2, List.getElem?_eq_getElem h4] using e2
        have hsz : D1[i].length * 16 ≤ 140737488355328 := by
          have e2 : (D1.map List.length)[i]? = (D.map List.length)[i]? := by rw [hD1]
          have hi3 : i < D.length := by omega
          simp only [List.getElem?_map, List.getElem?_eq_getElem h4, List.getElem?_eq_getElem hi3, Option.map_some, Option.some.injEq] at e2
          have := hRl.2 D[i] (List.getElem_mem hi3)
          omega
        repeat' first | refine T.seq ?_ | refine T.block ?_ | refine T.r ?_ | refine J.e rfl rfl rfl rfl ?_ | refine J.nil ?_ | refine J.skip rfl rfl rfl ?_ | refine T.skip ?_ | refine T.exit ?_ | refine T.ret ?_ | refine T.rd rfl (by kernel_rfl) ?_ | refine J.bx rfl rfl rfl rfl rfl rfl ?_
        refine J.i rfl rfl rfl rfl rfl rfl rfl rfl rfl (r := cD D2[i]) (by omega) (row_i hi2) rfl ?_
        repeat' first | refine T.seq ?_ | refine T.block ?_ | refine T.r ?_ | refine J.e rfl rfl rfl rfl ?_ | refine J.nil ?_ | refine J.skip rfl rfl rfl ?_ | refine T.skip ?_ | refine T.exit ?_ | refine T.ret ?_ | refine T.rd rfl (by kernel_rfl) ?_ | refine J.bx rfl rfl rfl rfl rfl rfl ?_
        refine T.cd rfl (fun h5 => ?_) (fun h5 => ?_)
        · have h5 : k < D2[i].length := by simpa using h5
          repeat' first | refine T.seq ?_ | refine T.block ?_ | refine T.r ?_ | refine J.e rfl rfl rfl rfl ?_ | refine J.nil ?_ | refine J.skip rfl rfl rfl ?_ | refine T.skip ?_ | refine T.exit ?_ | refine T.ret ?_ | refine T.rd rfl (by kernel_rfl) ?_ | refine J.bx rfl rfl rfl rfl rfl rfl ?_
          refine J.i rfl rfl rfl rfl rfl rfl rfl rfl rfl (r := cD D2[i]) (by omega) (row_i hi2) rfl ?_
          repeat' first | refine T.seq ?_ | refine T.block ?_ | refine T.r ?_ | refine J.e rfl rfl rfl rfl ?_ | refine J.nil ?_ | refine J.skip rfl rfl rfl ?_ | refine T.skip ?_ | refine T.exit ?_ | refine T.ret ?_ | refine T.rd rfl (by kernel_rfl) ?_ | refine J.bx rfl rfl rfl rfl rfl rfl ?_
          refine J.i rfl rfl rfl rfl rfl rfl rfl rfl rfl (r := cR D2[i][k]) (by omega) (row_i h5) rfl ?_
          repeat' first | refine T.seq ?_ | refine T.block ?_ | refine T.r ?_ | refine J.e rfl rfl rfl rfl ?_ | refine J.nil ?_ | refine J.skip rfl rfl rfl ?_ | refine T.skip ?_ | refine T.exit ?_ | refine T.ret ?_ | refine T.rd rfl (by kernel_rfl) ?_ | refine J.bx rfl rfl rfl rfl rfl rfl ?_
          refine J.tr (s := 7) (D := doms D2) [3, 6] [11, 12] (fun _ h => h) (fun _ h => h) rfl rfl rfl rfl rfl rfl rfl rfl (fun q u p hq h => by
            simp only [List.mem_cons, List.not_mem_nil, or_false] at hq
            rcases hq with rfl | rfl
            · cases h; exact hfx3
            · cases h; exact hfx6) fun D3 hsh => ?_
          obtain ⟨D3, rfl, e3⟩ := sh_doms hsh
          repeat' first | refine T.seq ?_ | refine T.block ?_ | refine T.r ?_ | refine J.e rfl rfl rfl rfl ?_ | refine J.nil ?_ | refine J.skip rfl rfl rfl ?_ | refine T.skip ?_ | refine T.exit ?_ | refine T.ret ?_ | refine T.rd rfl (by kernel_rfl) ?_ | refine J.bx rfl rfl rfl rfl rfl rfl ?_
          rw [wrap1 (l := D1[i].length) (by omega) (by omega)]
          exact T.canon (keep := [3, 6, 7, 11, 12]) (os := []) rfl (ih2 (k + 1, D3) ⟨by omega, e3.trans hD2⟩ (by simp only; omega))
        · have h5 : k = D2[i].length := by simp at h5; omega
          repeat' first | refine T.seq ?_ | refine T.block ?_ | refine T.r ?_ | refine J.e rfl rfl rfl rfl ?_ | refine J.nil ?_ | refine J.skip rfl rfl rfl ?_ | refine T.skip ?_ | refine T.exit ?_ | refine T.ret ?_ | refine T.rd rfl (by kernel_rfl) ?_ | refine J.bx rfl rfl rfl rfl rfl rfl ?_
          rw [wrap1 (l := D.length) (by omega) (by omega)]
          exact T.canon (keep := [3, 6, 7, 11]) (os := []) rfl (ih (i + 1, D2) ⟨by omega, hD2⟩ (by simp only; omega))
      · repeat' first | refine T.seq ?_ | refine T.block ?_ | refine T.r ?_ | refine J.e rfl rfl rfl rfl ?_ | refine J.nil ?_ | refine J.skip rfl rfl rfl ?_ | refine T.skip ?_ | refine T.exit ?_ | refine T.ret ?_ | refine T.rd rfl (by kernel_rfl) ?_ | refine J.bx rfl rfl rfl rfl rfl rfl ?_
        refine J.cc rfl rfl rfl rfl rfl hsd rfl rfl ?_
        repeat' first | refine T.seq ?_ | refine T.block ?_ | refine T.r ?_ | refine J.e rfl rfl rfl rfl ?_ | refine J.nil ?_ | refine J.skip rfl rfl rfl ?_ | refine T.skip ?_ | refine T.exit ?_ | refine T.ret ?_ | refine T.rd rfl (by kernel_rfl) ?_ | refine J.bx rfl rfl rfl rfl rfl rfl ?_
        refine J.cc rfl rfl rfl rfl rfl fixed8_spec rfl rfl ?_
        repeat' first | refine T.seq ?_ | refine T.block ?_ | refine T.r ?_ | refine J.e rfl rfl rfl rfl ?_ | refine J.nil ?_ | refine J.skip rfl rfl rfl ?_ | refine T.skip ?_ | refine T.exit ?_ | refine T.ret ?_ | refine T.rd rfl (by kernel_rfl) ?_ | refine J.bx rfl rfl rfl rfl rfl rfl ?_
        exact ⟨_, .v rfl rfl rfl (fun h => by cases h) .nil⟩
end Go.Proofs.Ytdflkbmpbblcfaa
/-! Plain: what is left by what are all others. -/
namespace Go.Proofs.Ytdflkbmpbblcfaa
open Go Go.RowKit
set_option linter.unusedVariables false
set_option linter.unusedSimpArgs false

structure Left8 (d : Doms) (vars : List Int) (out : Doms) : Prop where
  len : out.length = d.length
  few : FewD out
  at' : ∀ i (hi : i < vars.length), domAt out vars[i] = pack (left8 d vars vars[i])
  off : ∀ j : Nat, (j : Int) ∉ vars → out[j]? = d[j]?
theorem prune8_left {d : Doms} (h : FewD d) {vars : List Int} (hv : VarsU d vars) {out : Doms} (hR : prune8 d vars = some out) : Left8 d vars out := by
  unfold prune8 at hR
  split at hR
  · cases hR
  · split at hR
    · cases hR
    · obtain rfl := Option.some.inj hR
      have hat := fun j => step8_at (d := d) (vars := vars) (out := d) j hv.1 hv.2
      have hall : ∀ x ∈ step8 d vars vars d, Fine x ∧ (vals x).length ≤ 4096 := fun x hx => by
        obtain ⟨j, hj⟩ := List.getElem?_of_mem hx
        rw [hat j] at hj
        split at hj
        · obtain ⟨h1, h2, h3⟩ := left8_up h vars (j : Int)
          obtain rfl := Option.some.inj hj
          exact ⟨pack_fine h1 h3 h2, by rw [vals_pack h1]; exact h2⟩
        · exact ⟨h.fine x (List.mem_of_getElem? hj), h.few x (List.mem_of_getElem? hj)⟩
      refine ⟨step8_len _ _ _ _, ⟨by rw [step8_len]; exact h.small, fun x hx => (hall x hx).1, fun x hx => (hall x hx).2⟩, fun i hi => ?_, fun j hj => by rw [hat j, if_neg hj]⟩
      have h0 := (hv.2 _ (List.getElem_mem hi)).1
      have e : ((vars[i].toNat : Nat) : Int) = vars[i] := by omega
      have := hat vars[i].toNat
      rw [e, if_pos (List.getElem_mem hi)] at this
      unfold domAt
      rw [List.getD_eq_getElem?_getD, this]; rfl
theorem Left8.vals {d : Doms} (h : FewD d) {vars : List Int} {out : Doms} (hl : Left8 d vars out) {i : Nat} (hi : i < vars.length) : Go.Proofs.Ytdflkbmpbblcfaa.vals (domAt out vars[i]) = left8 d vars vars[i] := by
  rw [hl.at' i hi, vals_pack (left8_up h vars vars[i]).1]
theorem known8 {d : Doms} (h : FewD d) {vars : List Int} (hv : VarsU d vars) {i k : Nat} (hi : i < vars.length) (hk : k < vars.length) (hne : k ≠ i) {x : Int} (hx : left8 d vars vars[i] = [x]) : x ∉ left8 d vars vars[k] := by
  intro hm
  obtain ⟨g, hg, e⟩ := (left8_mem h hv hk x).1 hm
  have h1 := (left8_mem h hv hi (g i)).2 ⟨g, hg, rfl⟩
  rw [hx] at h1
  have h2 : g i = x := List.mem_singleton.1 h1
  have hlen : (listsP d vars).length = vars.length := List.length_map ..
  exact hne (hg.2 k i (by omega) (by omega) (e.trans h2.symm))
end Go.Proofs.Ytdflkbmpbblcfaa
/-! The statement UnlikeOne: what its function answers. -/
namespace Go.Proofs.Ytdflkbmpbblcfaa
open Go Go.RowKit
set_option linter.unusedVariables false
set_option linter.unusedSimpArgs false
set_option maxRecDepth 8000

theorem vals1 (a : Int) : vals [(a, a)] = [a] := by
  show rng a a ++ [] = _
  rw [rng_self]; rfl
def twoD (a b : Int) : Doms := [[(a, a)], [(b, b)]]
theorem twoD_few {a b : Int} (ha : -1048576 ≤ a ∧ a ≤ 1048576) (hb : -1048576 ≤ b ∧ b ≤ 1048576) : FewD (twoD a b) := ⟨by simp [twoD], fun x hx => by
  simp only [twoD, List.mem_cons, List.not_mem_nil, or_false] at hx
  rcases hx with rfl | rfl
  · exact fine1 (Int.le_refl _) ha.1 ha.2
  · exact fine1 (Int.le_refl _) hb.1 hb.2, fun x hx => by
  simp only [twoD, List.mem_cons, List.not_mem_nil, or_false] at hx
  rcases hx with rfl | rfl <;> rw [vals1] <;> simp⟩
theorem left_full {d : Doms} (h : FewD d) {vars : List Int} (hv : VarsU d vars) {i : Nat} (hi : i < vars.length) {x : Int} (hx : vals (domAt d vars[i]) = [x]) {g : Nat → Int} (hg : Others (listsP d vars) g) : left8 d vars vars[i] = [x] := by
  have h1 := (left8_mem h hv hi (g i)).2 ⟨g, hg, rfl⟩
  have h2 : left8 d vars vars[i] = [x].filter fun x => extP (d.set vars[i].toNat [(x, x)]) vars vars.length [] := by rw [← hx]; rfl
  rw [List.filter_cons] at h2
  split at h2
  · simpa using h2
  · rw [h2] at h1; cases h1
theorem prune_two {a b : Int} (ha : -1048576 ≤ a ∧ a ≤ 1048576) (hb : -1048576 ≤ b ∧ b ≤ 1048576) {vars : List Int} (hv : VarsU (twoD a b) vars) {g : Nat → Int} (hg : Others (listsP (twoD a b) vars) g) : prune8 (twoD a b) vars = some (twoD a b) := by
  have hf := twoD_few ha hb
  have hst : step8 (twoD a b) vars vars (twoD a b) = twoD a b := by
    refine List.ext_getElem? fun j => ?_
    rw [step8_at j hv.1 hv.2]
    split
    · rename_i hm
      obtain ⟨i, hi, e⟩ := List.getElem_of_mem hm
      have hj := (hv.2 _ hm).2
      simp only [Int.toNat_natCast] at hj
      have hj2 : j < 2 := hj
      match j, hj2 with
      | 0, _ =>
        have := left_full hf hv hi (x := a) (by rw [e]; exact vals1 a) hg
        rw [e] at this
        rw [this]; rfl
      | 1, _ =>
        have := left_full hf hv hi (x := b) (by rw [e]; exact vals1 b) hg
        rw [e] at this
        rw [this]; rfl
    · rfl
  unfold prune8
  rw [hst, if_neg (by simp [twoD])]
  rw [if_neg (by simp [twoD])]
theorem prune_no {d : Doms} (h : FewD d) {vars : List Int} (hv : VarsU d vars) (hne : vars ≠ []) (hn : ¬ ∃ g, Others (listsP d vars) g) : prune8 d vars = none := by
  rw [← prune_eq h hv hne]
  unfold pruneU
  rw [if_neg (c := (matchR (listsP d vars)).2 = true) (fun h => hn ((matchR_iff _).1 h))]
  split <;> rfl
theorem lists2 {a b : Int} (ha : -1048576 ≤ a ∧ a ≤ 1048576) (hb : -1048576 ≤ b ∧ b ≤ 1048576) : listsP (twoD a b) [1] = [[b]] ∧ listsP (twoD a b) [0, 1] = [[a], [b]] ∧ listsP (twoD a b) [1, 0] = [[b], [a]] := by
  have hf := twoD_few ha hb
  have e0 : vals (domAt (twoD a b) 0) = [a] := vals1 a
  have e1 : vals (domAt (twoD a b) 1) = [b] := vals1 b
  rw [listsP_eq hf, listsP_eq hf, listsP_eq hf]
  simp only [List.map_cons, List.map_nil, e0, e1, and_self]
theorem oth_two (a b : Int) : (∃ g, Others [[a], [b]] g) ↔ a ≠ b := by
  constructor
  · rintro ⟨g, h1, h2⟩ e
    have h3 := h1 0 (by simp)
    have h4 := h1 1 (by simp)
    have h3 : g 0 = a := by simpa using h3
    have h4 : g 1 = b := by simpa using h4
    have := h2 0 1 (by simp) (by simp) (by rw [h3, h4, e])
    cases this
  · intro h
    refine ⟨fun j => if j = 0 then a else b, fun j hj => ?_, fun j k hj hk e => ?_⟩
    · match j, hj with
      | 0, _ => simp
      | 1, _ => simp
    · match j, hj, k, hk with
      | 0, _, 0, _ => rfl
      | 1, _, 1, _ => rfl
      | 0, _, 1, _ => exact absurd e h
      | 1, _, 0, _ => exact absurd e.symm h
theorem match_two (a b : Int) : matchR [[a], [b]] = if a = b then ([], false) else ([a, b], true) := by
  by_cases e : a = b
  · rw [if_pos e]
    have h : ¬ (matchR [[a], [b]]).2 = true := fun h => (oth_two a b).1 ((matchR_iff _).1 h) e
    unfold matchR at *
    cases hb : matchP [[a], [b]] with
    | none => rfl
    | some x => rw [hb] at h; exact absurd rfl h
  · rw [if_neg e]
    have h := (matchR_iff [[a], [b]]).2 ((oth_two a b).2 e)
    obtain ⟨h1, h2, _⟩ := matchR_ok h
    have h3 := h2 0 (by simp)
    have h4 := h2 1 (by simp)
    generalize matchR [[a], [b]] = M at *
    obtain ⟨l, t⟩ := M
    simp only at h h1 h3 h4
    subst h
    match l, h1 with
    | [x, y], _ =>
      have h3 : x = a := by simpa using h3
      have h4 : y = b := by simpa using h4
      rw [h3, h4]
theorem law_uone (v w : Int) : Spec Try.prog 8 true [.int .i64 v, .int .i64 w] [.val (.bool true)] := by
  refine Spec.body Try.func8 rfl rfl rfl fun w0 Z0 => ?_
  have hva : -999 ≤ v.tmod 1000 ∧ v.tmod 1000 ≤ 999 := by
    have h1 := Int.tmod_lt_of_pos v (b := 1000) (by decide)
    have h2 := Int.lt_tmod_of_pos v (b := 1000) (by decide)
    omega
  have hwb : -999 ≤ w.tmod 1000 ∧ w.tmod 1000 ≤ 999 := by
    have h1 := Int.tmod_lt_of_pos w (b := 1000) (by decide)
    have h2 := Int.lt_tmod_of_pos w (b := 1000) (by decide)
    omega
  repeat' ((first | refine T.G rfl ?_ | refine J.G rfl ?_ | refine J.H rfl ?_ | refine T.rd rfl (by decide +kernel) ?_ | fail); conv => whnf)
  generalize v.tmod 1000 = a at *
  generalize w.tmod 1000 = b at *
  have ha : -1048576 ≤ a ∧ a ≤ 1048576 := by omega
  have hb : -1048576 ≤ b ∧ b ≤ 1048576 := by omega
  have hf := twoD_few ha hb
  obtain ⟨hl1, hl2, hl3⟩ := lists2 ha hb
  have hv1 : VarsU (twoD a b) [1] := ⟨by decide, by simp [twoD]⟩
  have hv2 : VarsU (twoD a b) [0, 1] := ⟨by decide, by simp [twoD]⟩
  have hv3 : VarsU (twoD a b) [1, 0] := ⟨by decide, by simp [twoD]⟩
  have hp1 := (uprune_few (twoD a b) [1] hf hv1 (by simp)).frz
  rw [prune_two ha hb hv1 (g := fun _ => b) (by rw [hl1]; exact ⟨fun j hj => by match j, hj with | 0, _ => simp, fun j k hj hk _ => by simp at hj hk; omega⟩)] at hp1
  have hp2 := (uprune_few (twoD a b) [0, 1] hf hv2 (by simp)).frz
  have hm := (match_few (twoD a b) [1, 0] hf hv3).frz
  rw [hl3, match_two] at hm
  have hss : Spec Try.prog 14 false [doms (twoD a b), doms (twoD a b)] [.val (.bool true)] := by
    have := sames_spec (twoD a b) (twoD a b) (by simp [twoD]) (by simp [twoD])
    rw [decide_eq_true rfl] at this
    exact this
  have hnu : Spec Try.prog 17 false [ints [b, a], ints [b, a]] [.val (.bool true)] := by
    have := nums_spec [b, a] [b, a] (by simp)
    rw [decide_eq_true rfl] at this
    exact this
  refine J.bv rfl rfl rfl rfl rfl rfl rfl rfl rfl rfl rfl rfl ?_
  repeat' ((first | refine T.G rfl ?_ | refine J.G rfl ?_ | refine J.H rfl ?_ | refine T.rd rfl (by decide +kernel) ?_ | fail); conv => whnf)
  refine J.bv rfl rfl rfl rfl rfl rfl rfl rfl rfl rfl rfl rfl ?_
  repeat' ((first | refine T.G rfl ?_ | refine J.G rfl ?_ | refine J.H rfl ?_ | refine T.rd rfl (by decide +kernel) ?_ | fail); conv => whnf)
  refine J.bv rfl rfl rfl rfl rfl rfl rfl rfl rfl rfl rfl rfl ?_
  refine J.bv rfl rfl rfl rfl rfl rfl rfl rfl rfl rfl rfl rfl ?_
  repeat' ((first | refine T.G rfl ?_ | refine J.G rfl ?_ | refine J.H rfl ?_ | refine T.rd rfl (by decide +kernel) ?_ | fail); conv => whnf)
  refine J.cc rfl rfl rfl rfl rfl hp1 rfl rfl ?_
  repeat' ((first | refine T.G rfl ?_ | refine J.G rfl ?_ | refine J.H rfl ?_ | refine T.rd rfl (by decide +kernel) ?_ | fail); conv => whnf)
  refine J.bv rfl rfl rfl rfl rfl rfl rfl rfl rfl rfl rfl rfl ?_
  refine J.bv rfl rfl rfl rfl rfl rfl rfl rfl rfl rfl rfl rfl ?_
  repeat' ((first | refine T.G rfl ?_ | refine J.G rfl ?_ | refine J.H rfl ?_ | refine T.rd rfl (by decide +kernel) ?_ | fail); conv => whnf)
  by_cases e : a = b
  · rw [prune_no hf hv2 (by simp) (by rw [hl2, oth_two]; exact fun h => h e)] at hp2
    rw [if_pos e.symm] at hm
    refine J.cc rfl rfl rfl rfl rfl hp2 rfl rfl ?_
    repeat' ((first | refine T.G rfl ?_ | refine J.G rfl ?_ | refine J.H rfl ?_ | refine T.rd rfl (by decide +kernel) ?_ | fail); conv => whnf)
    refine J.bv rfl rfl rfl rfl rfl rfl rfl rfl rfl rfl rfl rfl ?_
    refine J.bv rfl rfl rfl rfl rfl rfl rfl rfl rfl rfl rfl rfl ?_
    repeat' ((first | refine T.G rfl ?_ | refine J.G rfl ?_ | refine J.H rfl ?_ | refine T.rd rfl (by decide +kernel) ?_ | fail); conv => whnf)
    refine J.cc rfl rfl rfl rfl rfl hm rfl rfl ?_
    repeat' ((first | refine T.G rfl ?_ | refine J.G rfl ?_ | refine J.H rfl ?_ | refine T.rd rfl (by decide +kernel) ?_ | fail); conv => whnf)
    have e1 : decide (a ≠ b) = false := by simp [e]
    refine J.bv rfl rfl rfl rfl rfl rfl rfl rfl rfl rfl rfl rfl ?_
    refine J.cc rfl rfl rfl rfl rfl hss rfl rfl ?_
    repeat' ((first | refine T.G rfl ?_ | refine J.G rfl ?_ | refine J.H rfl ?_ | refine T.rd rfl (by decide +kernel) ?_ | fail); conv => whnf)
    rw [e1]
    repeat' ((first | refine T.G rfl ?_ | refine J.G rfl ?_ | refine J.H rfl ?_ | refine T.rd rfl (by decide +kernel) ?_ | fail); conv => whnf)
    refine T.cf rfl ?_
    repeat' ((first | refine T.G rfl ?_ | refine J.G rfl ?_ | refine J.H rfl ?_ | refine T.rd rfl (by decide +kernel) ?_ | fail); conv => whnf)
    refine J.cc rfl rfl rfl rfl rfl fixed8_spec rfl rfl ?_
    repeat' ((first | refine T.G rfl ?_ | refine J.G rfl ?_ | refine J.H rfl ?_ | refine T.rd rfl (by decide +kernel) ?_ | fail); conv => whnf)
    exact ⟨_, .v rfl rfl rfl (fun h => by cases h) .nil⟩
  · rw [prune_two ha hb hv2 (g := fun j => if j = 0 then a else b) (by
      rw [hl2]
      refine ⟨fun j hj => ?_, fun j k hj hk h => ?_⟩
      · match j, hj with
        | 0, _ => simp
        | 1, _ => simp
      · match j, hj, k, hk with
        | 0, _, 0, _ => rfl
        | 1, _, 1, _ => rfl
        | 0, _, 1, _ => exact absurd h e
        | 1, _, 0, _ => exact absurd h.symm e)] at hp2
    rw [if_neg (Ne.symm e)] at hm
    have e1 : decide (a ≠ b) = true := by simp [e]
    refine J.cc rfl rfl rfl rfl rfl hp2 rfl rfl ?_
    repeat' ((first | refine T.G rfl ?_ | refine J.G rfl ?_ | refine J.H rfl ?_ | refine T.rd rfl (by decide +kernel) ?_ | fail); conv => whnf)
    refine J.bv rfl rfl rfl rfl rfl rfl rfl rfl rfl rfl rfl rfl ?_
    refine J.bv rfl rfl rfl rfl rfl rfl rfl rfl rfl rfl rfl rfl ?_
    repeat' ((first | refine T.G rfl ?_ | refine J.G rfl ?_ | refine J.H rfl ?_ | refine T.rd rfl (by decide +kernel) ?_ | fail); conv => whnf)
    refine J.cc rfl rfl rfl rfl rfl hm rfl rfl ?_
    repeat' ((first | refine T.G rfl ?_ | refine J.G rfl ?_ | refine J.H rfl ?_ | refine T.rd rfl (by decide +kernel) ?_ | fail); conv => whnf)
    refine J.bv rfl rfl rfl rfl rfl rfl rfl rfl rfl rfl rfl rfl ?_
    refine J.cc rfl rfl rfl rfl rfl hss rfl rfl ?_
    repeat' ((first | refine T.G rfl ?_ | refine J.G rfl ?_ | refine J.H rfl ?_ | refine T.rd rfl (by decide +kernel) ?_ | fail); conv => whnf)
    rw [e1]
    repeat' ((first | refine T.G rfl ?_ | refine J.G rfl ?_ | refine J.H rfl ?_ | refine T.rd rfl (by decide +kernel) ?_ | fail); conv => whnf)
    refine T.cf rfl ?_
    repeat' ((first | refine T.G rfl ?_ | refine J.G rfl ?_ | refine J.H rfl ?_ | refine T.rd rfl (by decide +kernel) ?_ | fail); conv => whnf)
    refine J.cc rfl rfl rfl rfl rfl hss rfl rfl ?_
    repeat' ((first | refine T.G rfl ?_ | refine J.G rfl ?_ | refine J.H rfl ?_ | refine T.rd rfl (by decide +kernel) ?_ | fail); conv => whnf)
    refine J.bv rfl rfl rfl rfl rfl rfl rfl rfl rfl rfl rfl rfl ?_
    refine J.cc rfl rfl rfl rfl rfl hnu rfl rfl ?_
    repeat' ((first | refine T.G rfl ?_ | refine J.G rfl ?_ | refine J.H rfl ?_ | refine T.rd rfl (by decide +kernel) ?_ | fail); conv => whnf)
    refine J.cc rfl rfl rfl rfl rfl fixed8_spec rfl rfl ?_
    repeat' ((first | refine T.G rfl ?_ | refine J.G rfl ?_ | refine J.H rfl ?_ | refine T.rd rfl (by decide +kernel) ?_ | fail); conv => whnf)
    exact ⟨_, .v rfl rfl rfl (fun h => by cases h) .nil⟩
end Go.Proofs.Ytdflkbmpbblcfaa
/-! The row of UnlikeOne. -/
namespace Go.Proofs.Ytdflkbmpbblcfaa.unlikeOne
open Go.ChangeShapes Go.WideShapes Go.ChangeAt Go.RowKit
set_option linter.unusedVariables false
theorem own : ownKnob Try.prog.godebug = none := by kernel_rfl
theorem laidOut : laidOutB Try.prog = true := by kernel_rfl
set_option maxRecDepth 100000 in
theorem lifted (os : Os) (started : os.Started) (H : Type) (enc : TypeId × Value → H) :
    ReturnsInHanded {} Try.checked os 8 .any (Rows.unlikeOneSpec.pre6 enc Try.prog Try.f8 Rows.unlikeOneRow.domain false) (Rows.unlikeOneSpec.post enc Try.prog Try.f8 false true false false) := by
  refine returnsInHanded_of_change_sized (C := Try.checked) own started (by kernel_rfl) Try.func8
    (ChangeSpec.witness6 (enc := enc) (C := Try.checked) false ⟨#[], #[.int .i64 0, .int .i64 0], []⟩ 8 (by kernel_rfl) (by kernel_rfl) (by kernel_rfl) (by kernel_rfl)) ?_
  intro W base args ds gs before hval0 hW hcnd hsz0 _
  have hsz : (DataW.weightsEach Try.prog (Try.f8.params.toList ++ Rows.unlikeOneSpec.plain.varTypes Try.prog) (ds ++ gs)).all (· ≤ reachBytes) = true := hsz0
  have hval : ∀ (j : Nat) t v, Try.f8.params[j]? = some t → args[j]? = some v → Value.okWide Try.prog W .any base t v := hval0
  have hW' := hW
  obtain ⟨p, q, hA0, hV, rfl, hfz, hnd⟩ := hW
  have hA : DataW.TrodAll enc Try.prog W 0 (fun _ => true) true Try.f8.params.toList args.toList ds p := hA0
  rw [Try.params8] at hA hval hsz
  obtain ⟨v0, vs0, d0, ds0, p0, q0, hargs, rfl, rfl, h0, r0⟩ := trodAll_cons hA
  obtain ⟨v1, vs1, d1, ds1, p1, q1, rfl, rfl, rfl, h1, r1⟩ := trodAll_cons r0
  obtain ⟨rfl, rfl, rfl⟩ := trodAll_nil r1
  obtain rfl : args = #[v0, v1] := by cases args; simp_all
  obtain ⟨rfl, rfl⟩ := trodVars_none hV
  obtain ⟨a0, rfl, rfl, rfl, w0⟩ := open_int Try.underlying3 (hval 0 3 v0 rfl rfl) h0
  obtain ⟨a1, rfl, rfl, rfl, w1⟩ := open_int Try.underlying3 (hval 1 3 v1 rfl rfl) h1
  clear hA0 hval0 hsz0 hsz
  refine ((law_uone a0 a1).out W (fun _ => True) [.int .i64 a0, .int .i64 a1] (.cons (.int _ _) (.cons (.int _ _) .nil))).mono fun e W' ⟨rs, he, bel, hret⟩ => ?_
  have hrs : rs = [.bool true] := by
    have h := hret.each
    cases h with
    | cons h1 h2 => cases h2; cases h1; rfl
  subst hrs
  subst he
  exact ⟨_, rfl, _, _, _, [], _, [], hW', trodAll_mk1 (shut_bool Try.underlying4 _), trodAll_cons_mk (shut_int Try.underlying3 w0) (trodAll_cons_mk (shut_int Try.underlying3 w1) trodAll_mk0), rfl, bel.frame _, fun h => by cases h⟩
theorem over : Rows.unlikeOneRow.holds Try.pinned (OpenSpec.ofChange Rows.unlikeOneSpec) :=
  OpenClaim.holds_of_wide 8 Try.f8 rfl rfl rfl rfl rfl rfl rfl ⟨rfl, rfl, rfl, rfl, rfl⟩ rfl rfl rfl rfl rfl (by kernel_rfl) Try.func8 (by kernel_rfl)
    (of_decide_eq_true (by kernel_rfl)) (by unfold Func.isWrapper; first | (rw [if_pos (by decide +kernel)]; kernel_rfl) | (rw [if_neg (by decide +kernel)]; exact ⟨rfl, rfl⟩))
    (fun os started H enc _ => lifted os started H enc)
theorem proved : Rows.UnlikeOneSaid := over
#print axioms proved
end Go.Proofs.Ytdflkbmpbblcfaa.unlikeOne
namespace Go.Proofs.Ytdflkbmpbblcfaa
/-- The row, under a short name, for the claim. -/
theorem unlikeOne_holds : Rows.UnlikeOneSaid := unlikeOne.proved
end Go.Proofs.Ytdflkbmpbblcfaa
