/- The statement UnlikeHalls: the law, and its row. -/
import Derived.Test.YtdflkbmpbblcfaaB8
import Derived.Test.YtdflkbmpbblcfaaRows
import Derived.WalkKit
import Derived.ProofKit
import Derived.OpenShut
import Derived.ShutString
import Derived.ChangeOld
import Derived.Below
import Derived.SizedLaws
/-! The statement UnlikePrunes: what its function answers. -/
namespace Go.Proofs.Ytdflkbmpbblcfaa
open Go Go.RowKit
set_option linter.unusedVariables false
set_option maxRecDepth 8000

theorem laidU_few (o : Few) : FewD (laidU o) ∧ (laidU o).length ≤ 5 := by
  have h5 : (laidU o).length ≤ 5 := by simp [laidU]; omega
  refine ⟨⟨by omega, fun x hx => ?_, fun x hx => ?_⟩, h5⟩
  · obtain ⟨y, _, rfl⟩ := List.mem_map.1 hx
    exact small_fine _
  · obtain ⟨y, _, rfl⟩ := List.mem_map.1 hx
    have := (smallR_ok (y.take 8)).2.2
    omega
theorem okU_vars {d : Doms} {vars : List Int} (hb : (vars.length + 1) * 8 ≤ 140737488355328) (h : conR d (conU vars) = 0) : VarsU d vars ∧ vars ≠ [] := by
  unfold conR at h
  rw [if_neg (by simp [conU])] at h
  split at h
  · cases h
  · rename_i h2
    split at h
    · cases h
    · rename_i h3
      have h2 := by simpa using h2
      have hu := (uses_in (conU_B hb) (List.all_eq_true.2 h2)).1.2
      have h3 : rightR d (conU vars) = true := by simpa using h3
      rw [show rightR d (conU vars) = (noneR (conU vars) && plainR (conU vars) && manyR (conU vars)) from rfl] at h3
      simp only [Bool.and_eq_true] at h3
      have h4 := h3.2
      simp only [manyR, Bool.and_eq_true, decide_eq_true_eq] at h4
      refine ⟨⟨h4.2, hu⟩, fun e => ?_⟩
      have h5 : 0 < vars.length := h4.1
      rw [e] at h5
      cases h5
theorem law_uprunes (o : Few) (ho : FewB o) : Spec Try.prog 3 true [.agg (cFew o)] [.val (.bool true)] := by
  refine Spec.body Try.func3 rfl rfl rfl fun w0 Z0 => ?_
  have hlaid := laid8_spec o ho
  have hok : okU o = decide (conR (laidU o) (conU o.vars) = 0) := rfl
  obtain ⟨hf, hlen⟩ := laidU_few o
  have hvb := ho.2.2.1
  generalize laidU o = d at *
  generalize o.vars = vars at *
  generalize okU o = ok at *
  repeat' first | refine T.seq ?_ | refine T.block ?_ | refine T.r ?_ | refine J.e rfl rfl rfl rfl ?_ | refine J.nil ?_ | refine J.skip rfl rfl rfl ?_ | refine T.skip ?_ | refine T.exit ?_ | refine T.ret ?_ | refine T.rd rfl (by kernel_rfl) ?_ | refine J.bx rfl rfl rfl rfl rfl rfl ?_
  refine J.cc rfl rfl rfl rfl rfl hlaid rfl rfl ?_
  repeat' first | refine T.seq ?_ | refine T.block ?_ | refine T.r ?_ | refine J.e rfl rfl rfl rfl ?_ | refine J.nil ?_ | refine J.skip rfl rfl rfl ?_ | refine T.skip ?_ | refine T.exit ?_ | refine T.ret ?_ | refine T.rd rfl (by kernel_rfl) ?_ | refine J.bx rfl rfl rfl rfl rfl rfl ?_
  refine J.al rfl rfl rfl rfl rfl rfl rfl ?_
  repeat' first | refine T.seq ?_ | refine T.block ?_ | refine T.r ?_ | refine J.e rfl rfl rfl rfl ?_ | refine J.nil ?_ | refine J.skip rfl rfl rfl ?_ | refine T.skip ?_ | refine T.exit ?_ | refine T.ret ?_ | refine T.rd rfl (by kernel_rfl) ?_ | refine J.bx rfl rfl rfl rfl rfl rfl ?_
  refine J.w rfl rfl rfl rfl rfl rfl rfl rfl rfl rfl ?_
  repeat' first | refine T.seq ?_ | refine T.block ?_ | refine T.r ?_ | refine J.e rfl rfl rfl rfl ?_ | refine J.nil ?_ | refine J.skip rfl rfl rfl ?_ | refine T.skip ?_ | refine T.exit ?_ | refine T.ret ?_ | refine T.rd rfl (by kernel_rfl) ?_ | refine J.bx rfl rfl rfl rfl rfl rfl ?_
  cases ok
  · refine T.ct rfl ?_
    repeat' first | refine T.seq ?_ | refine T.block ?_ | refine T.r ?_ | refine J.e rfl rfl rfl rfl ?_ | refine J.nil ?_ | refine J.skip rfl rfl rfl ?_ | refine T.skip ?_ | refine T.exit ?_ | refine T.ret ?_ | refine T.rd rfl (by kernel_rfl) ?_ | refine J.bx rfl rfl rfl rfl rfl rfl ?_
    refine J.cc rfl rfl rfl rfl rfl fixed8_spec rfl rfl ?_
    repeat' first | refine T.seq ?_ | refine T.block ?_ | refine T.r ?_ | refine J.e rfl rfl rfl rfl ?_ | refine J.nil ?_ | refine J.skip rfl rfl rfl ?_ | refine T.skip ?_ | refine T.exit ?_ | refine T.ret ?_ | refine T.rd rfl (by kernel_rfl) ?_ | refine J.bx rfl rfl rfl rfl rfl rfl ?_
    exact ⟨_, .v rfl rfl rfl (fun h => by cases h) .nil⟩
  · refine T.cf rfl ?_
    obtain ⟨hv, hne⟩ := okU_vars hvb (by simpa using hok.symm)
    have hpr := (uprune_few d vars hf hv hne).frz
    have hpr2 := prune8_few d vars hf hv
    have hsd := sames_spec d d hf.len8.1 hf.len8.2
    rw [decide_eq_true rfl] at hsd
    have hRl : ((prune8 d vars).getD []).length ≤ 5 ∧ ∀ x ∈ (prune8 d vars).getD [], x.length * 16 + 1048576 ≤ 140737488355328 := by
      have hsl := step8_len d vars vars d
      unfold prune8
      split
      · simp
      · split
        · simp
        · simp only [Option.getD_some]
          refine ⟨by omega, fun x hx => ?_⟩
          obtain ⟨j, hj⟩ := List.getElem?_of_mem hx
          rw [step8_at j hv.1 hv.2] at hj
          split at hj
          · obtain ⟨h1, h2, h3⟩ := left8_up hf vars (j : Int)
            obtain rfl := Option.some.inj hj
            exact (pack_fine h1 h3 h2).len
          · exact (hf.fine x (List.mem_of_getElem? hj)).len
    have hsr := sames_spec ((prune8 d vars).getD []) ((prune8 d vars).getD []) (by omega) (fun x hx => by have := hRl.2 x hx; omega)
    rw [decide_eq_true rfl] at hsr
    unfold pruneRes at hpr
    refine T.skip ?_
    refine T.seq ?_
    refine T.r ?_
    repeat' first | refine J.e rfl rfl rfl rfl ?_ | refine J.skip rfl rfl rfl ?_ | refine J.bx rfl rfl rfl rfl rfl rfl ?_
    refine J.cc rfl rfl rfl rfl rfl (lists_spec d hf.small (fun x hx => by have := (hf.fine x hx).len; omega)) rfl rfl ?_
    repeat' first | refine J.e rfl rfl rfl rfl ?_ | refine J.skip rfl rfl rfl ?_ | refine J.bx rfl rfl rfl rfl rfl rfl ?_
    refine J.nil ?_
    refine T.sub (Rel.frz (s := 3) (fun _ h => h) rfl rfl) ?_
    refine T.sub (Rel.frz (s := 6) (fun _ h => h) rfl rfl) ?_
    refine T.sub (Rel.unbx (s := 4) (fun _ h => h) rfl rfl) ?_
    refine T.canon (keep := [3, 4, 6]) (os := []) rfl ?_
    refine T.snap [3, 6] [4] fun w1 vs hfx => ?_
    have hfx3 := hfx 3 _ _ rfl
    have hfx6 := hfx 6 _ _ rfl
    clear hfx
    generalize (prune8 d vars).getD [] = D at *
    generalize (prune8 d vars).isSome = bs at *
    repeat' first | refine T.seq ?_ | refine T.block ?_ | refine T.r ?_ | refine J.e rfl rfl rfl rfl ?_ | refine J.nil ?_ | refine J.skip rfl rfl rfl ?_ | refine T.skip ?_ | refine T.exit ?_ | refine T.ret ?_ | refine T.rd rfl (by kernel_rfl) ?_ | refine J.bx rfl rfl rfl rfl rfl rfl ?_
    refine J.cc rfl rfl rfl rfl rfl hpr rfl rfl ?_
    repeat' first | refine T.seq ?_ | refine T.block ?_ | refine T.r ?_ | refine J.e rfl rfl rfl rfl ?_ | refine J.nil ?_ | refine J.skip rfl rfl rfl ?_ | refine T.skip ?_ | refine T.exit ?_ | refine T.ret ?_ | refine T.rd rfl (by kernel_rfl) ?_ | refine J.bx rfl rfl rfl rfl rfl rfl ?_
    refine J.cc rfl rfl rfl rfl rfl hpr2 rfl rfl ?_
    repeat' first | refine T.seq ?_ | refine T.block ?_ | refine T.r ?_ | refine J.e rfl rfl rfl rfl ?_ | refine J.nil ?_ | refine J.skip rfl rfl rfl ?_ | refine T.skip ?_ | refine T.exit ?_ | refine T.ret ?_ | refine J.bx rfl rfl rfl rfl rfl rfl ?_
    cases bs
    all_goals
      repeat' first | refine T.seq ?_ | refine T.block ?_ | refine T.r ?_ | refine J.e rfl rfl rfl rfl ?_ | refine J.nil ?_ | refine J.skip rfl rfl rfl ?_ | refine T.skip ?_ | refine T.exit ?_ | refine T.ret ?_ | refine T.rd rfl (by kernel_rfl) ?_ | refine J.bx rfl rfl rfl rfl rfl rfl ?_
      refine J.cc rfl rfl rfl rfl rfl hsr rfl rfl ?_
      repeat' first | refine T.seq ?_ | refine T.block ?_ | refine T.r ?_ | refine J.e rfl rfl rfl rfl ?_ | refine J.nil ?_ | refine J.skip rfl rfl rfl ?_ | refine T.skip ?_ | refine T.exit ?_ | refine T.ret ?_ | refine T.rd rfl (by kernel_rfl) ?_ | refine J.bx rfl rfl rfl rfl rfl rfl ?_
      refine T.cf2 rfl (by simp) ?_
      repeat' first | refine T.seq ?_ | refine T.block ?_ | refine T.r ?_ | refine J.e rfl rfl rfl rfl ?_ | refine J.nil ?_ | refine J.skip rfl rfl rfl ?_ | refine T.skip ?_ | refine T.exit ?_ | refine T.ret ?_ | refine T.rd rfl (by kernel_rfl) ?_ | refine J.bx rfl rfl rfl rfl rfl rfl ?_
      refine T.canon (keep := [3, 6, 7, 11]) (os := []) rfl (T.ind (fun s : Nat × Doms => ⟨[(3, .fix (vs 3) (doms d)), (6, .fix (vs 6) (doms d)), (7, .val true (doms s.2)), (11, .val true (.int .i64 s.1))], [], 0⟩) (fun s => s.1 ≤ D.length ∧ s.2.map List.length = D.map List.length) (fun s => D.length - s.1) (0, D) ⟨by simp, rfl⟩ (fun _ _ h => h) ?_)
      rintro ⟨i, D1⟩ ⟨hi, hD1⟩ ih
      have hl1 : D1.length = D.length := by have := congrArg List.length hD1; simpa using this
      repeat' first | refine T.seq ?_ | refine T.block ?_ | refine T.r ?_ | refine J.e rfl rfl rfl rfl ?_ | refine J.nil ?_ | refine J.skip rfl rfl rfl ?_ | refine T.skip ?_ | refine T.exit ?_ | refine T.ret ?_ | refine T.rd rfl (by kernel_rfl) ?_ | refine J.bx rfl rfl rfl rfl rfl rfl ?_
      refine T.cd rfl (fun h4 => ?_) (fun h4 => ?_)
      · have h4 : i < D1.length := by simpa using h4
        repeat' first | refine T.seq ?_ | refine T.block ?_ | refine T.r ?_ | refine J.e rfl rfl rfl rfl ?_ | refine J.nil ?_ | refine J.skip rfl rfl rfl ?_ | refine T.skip ?_ | refine T.exit ?_ | refine T.ret ?_ | refine T.rd rfl (by kernel_rfl) ?_ | refine J.bx rfl rfl rfl rfl rfl rfl ?_
        refine T.canon (keep := [3, 6, 7, 11, 12]) (os := []) rfl (T.ind (fun s : Nat × Doms => ⟨[(3, .fix (vs 3) (doms d)), (6, .fix (vs 6) (doms d)), (7, .val true (doms s.2)), (11, .val true (.int .i64 i)), (12, .val true (.int .i64 s.1))], [], 0⟩) (fun s => s.1 ≤ D1[i].length ∧ s.2.map List.length = D.map List.length) (fun s => D1[i].length - s.1) (0, D1) ⟨by simp, hD1⟩ (fun _ _ h => h) ?_)
        rintro ⟨k, D2⟩ ⟨hk, hD2⟩ ih2
        have hl2 : D2.length = D.length := by have := congrArg List.length hD2; simpa using this
        have hi2 : i < D2.length := by omega
        have hle : D2[i].length = D1[i].length := by
          have e := hD2.trans hD1.symm
          have e2 : (D2.map List.length)[i]? = (D1.map List.length)[i]? := by rw [e]
          simpa [List.getElem?_eq_getElem hi2, List.getElem?_eq_getElem h4] using e2
        have hsz : D1[i].length * 16 ≤ 140737488355328 := by
          have e2 : (D1.map List.length)[i]? = (D.map List.length)[i]? := by rw [hD1]
          have hi3 : i < D.length := by omega
          simp only [List.getElem?_map, List.getElem?_eq_getElem h4, List.getElem?_eq_getElem hi3, Option.map_some, Option.some.injEq] at e2
          have := hRl.2 D[i] (List.getElem_mem hi3)
          omega
        repeat' first | refine T.seq ?_ | refine T.block ?_ | refine T.r ?_ | refine J.e rfl rfl rfl rfl ?_ | refine J.nil ?_ | refine J.skip rfl rfl rfl ?_ | refine T.skip ?_ | refine T.exit ?_ | refine T.ret ?_ | refine T.rd rfl (by kernel_rfl) ?_ | refine J.bx rfl rfl rfl rfl rfl rfl ?_
        refine J.i rfl rfl rfl rfl rfl rfl rfl rfl rfl (r := cD D2[i]) (by omega) (row_i hi2) rfl ?_
        repeat' first | refine T.seq ?_ | refine T.block ?_ | refine T.r ?_ | refine J.e rfl rfl rfl rfl ?_ | refine J.nil ?_ | refine J.skip rfl rfl rfl ?_ | refine T.skip ?_ | refine T.exit ?_ | refine T.ret ?_ | refine T.rd rfl (by kernel_rfl) ?_ | refine J.bx rfl rfl rfl rfl rfl rfl ?_
        refine T.cd rfl (fun h5 => ?_) (fun h5 => ?_)
        · have h5 : k < D2[i].length := by simpa using h5
          repeat' first | refine T.seq ?_ | refine T.block ?_ | refine T.r ?_ | refine J.e rfl rfl rfl rfl ?_ | refine J.nil ?_ | refine J.skip rfl rfl rfl ?_ | refine T.skip ?_ | refine T.exit ?_ | refine T.ret ?_ | refine T.rd rfl (by kernel_rfl) ?_ | refine J.bx rfl rfl rfl rfl rfl rfl ?_
          refine J.i rfl rfl rfl rfl rfl rfl rfl rfl rfl (r := cD D2[i]) (by omega) (row_i hi2) rfl ?_
          repeat' first | refine T.seq ?_ | refine T.block ?_ | refine T.r ?_ | refine J.e rfl rfl rfl rfl ?_ | refine J.nil ?_ | refine J.skip rfl rfl rfl ?_ | refine T.skip ?_ | refine T.exit ?_ | refine T.ret ?_ | refine T.rd rfl (by kernel_rfl) ?_ | refine J.bx rfl rfl rfl rfl rfl rfl ?_
          refine J.i rfl rfl rfl rfl rfl rfl rfl rfl rfl (r := cR D2[i][k]) (by omega) (row_i h5) rfl ?_
          repeat' first | refine T.seq ?_ | refine T.block ?_ | refine T.r ?_ | refine J.e rfl rfl rfl rfl ?_ | refine J.nil ?_ | refine J.skip rfl rfl rfl ?_ | refine T.skip ?_ | refine T.exit ?_ | refine T.ret ?_ | refine T.rd rfl (by kernel_rfl) ?_ | refine J.bx rfl rfl rfl rfl rfl rfl ?_
          refine J.tr (s := 7) (D := doms D2) [3, 6] [11, 12] (fun _ h => h) (fun _ h => h) rfl rfl rfl rfl rfl rfl rfl rfl (fun q u p hq h => by
            simp only [List.mem_cons, List.not_mem_nil, or_false] at hq
            rcases hq with rfl | rfl
            · cases h; exact hfx3
            · cases h; exact hfx6) fun D3 hsh => ?_
          obtain ⟨D3, rfl, e3⟩ := sh_doms hsh
          repeat' first | refine T.seq ?_ | refine T.block ?_ | refine T.r ?_ | refine J.e rfl rfl rfl rfl ?_ | refine J.nil ?_ | refine J.skip rfl rfl rfl ?_ | refine T.skip ?_ | refine T.exit ?_ | refine T.ret ?_ | refine T.rd rfl (by kernel_rfl) ?_ | refine J.bx rfl rfl rfl rfl rfl rfl ?_
          rw [wrap1 (l := D1[i].length) (by omega) (by omega)]
          exact T.canon (keep := [3, 6, 7, 11, 12]) (os := []) rfl (ih2 (k + 1, D3) ⟨by omega, e3.trans hD2⟩ (by simp only; omega))
        · have h5 : k = D2[i].length := by simp at h5; omega
          repeat' first | refine T.seq ?_ | refine T.block ?_ | refine T.r ?_ | refine J.e rfl rfl rfl rfl ?_ | refine J.nil ?_ | refine J.skip rfl rfl rfl ?_ | refine T.skip ?_ | refine T.exit ?_ | refine T.ret ?_ | refine T.rd rfl (by kernel_rfl) ?_ | refine J.bx rfl rfl rfl rfl rfl rfl ?_
          rw [wrap1 (l := D.length) (by omega) (by omega)]
          exact T.canon (keep := [3, 6, 7, 11]) (os := []) rfl (ih (i + 1, D2) ⟨by omega, hD2⟩ (by simp only; omega))
      · repeat' first | refine T.seq ?_ | refine T.block ?_ | refine T.r ?_ | refine J.e rfl rfl rfl rfl ?_ | refine J.nil ?_ | refine J.skip rfl rfl rfl ?_ | refine T.skip ?_ | refine T.exit ?_ | refine T.ret ?_ | refine T.rd rfl (by kernel_rfl) ?_ | refine J.bx rfl rfl rfl rfl rfl rfl ?_
        refine J.cc rfl rfl rfl rfl rfl hsd rfl rfl ?_
        repeat' first | refine T.seq ?_ | refine T.block ?_ | refine T.r ?_ | refine J.e rfl rfl rfl rfl ?_ | refine J.nil ?_ | refine J.skip rfl rfl rfl ?_ | refine T.skip ?_ | refine T.exit ?_ | refine T.ret ?_ | refine T.rd rfl (by kernel_rfl) ?_ | refine J.bx rfl rfl rfl rfl rfl rfl ?_
        refine J.cc rfl rfl rfl rfl rfl fixed8_spec rfl rfl ?_
        repeat' first | refine T.seq ?_ | refine T.block ?_ | refine T.r ?_ | refine J.e rfl rfl rfl rfl ?_ | refine J.nil ?_ | refine J.skip rfl rfl rfl ?_ | refine T.skip ?_ | refine T.exit ?_ | refine T.ret ?_ | refine T.rd rfl (by kernel_rfl) ?_ | refine J.bx rfl rfl rfl rfl rfl rfl ?_
        exact ⟨_, .v rfl rfl rfl (fun h => by cases h) .nil⟩
end Go.Proofs.Ytdflkbmpbblcfaa
/-! Plain: what is left by what are all others. -/
namespace Go.Proofs.Ytdflkbmpbblcfaa
open Go Go.RowKit
set_option linter.unusedVariables false
set_option linter.unusedSimpArgs false

structure Left8 (d : Doms) (vars : List Int) (out : Doms) : Prop where
  len : out.length = d.length
  few : FewD out
  at' : ∀ i (hi : i < vars.length), domAt out vars[i] = pack (left8 d vars vars[i])
  off : ∀ j : Nat, (j : Int) ∉ vars → out[j]? = d[j]?
theorem prune8_left {d : Doms} (h : FewD d) {vars : List Int} (hv : VarsU d vars) {out : Doms} (hR : prune8 d vars = some out) : Left8 d vars out := by
  unfold prune8 at hR
  split at hR
  · cases hR
  · split at hR
    · cases hR
    · obtain rfl := Option.some.inj hR
      have hat := fun j => step8_at (d := d) (vars := vars) (out := d) j hv.1 hv.2
      have hall : ∀ x ∈ step8 d vars vars d, Fine x ∧ (vals x).length ≤ 4096 := fun x hx => by
        obtain ⟨j, hj⟩ := List.getElem?_of_mem hx
        rw [hat j] at hj
        split at hj
        · obtain ⟨h1, h2, h3⟩ := left8_up h vars (j : Int)
          obtain rfl := Option.some.inj hj
          exact ⟨pack_fine h1 h3 h2, by rw [vals_pack h1]; exact h2⟩
        · exact ⟨h.fine x (List.mem_of_getElem? hj), h.few x (List.mem_of_getElem? hj)⟩
      refine ⟨step8_len _ _ _ _, ⟨by rw [step8_len]; exact h.small, fun x hx => (hall x hx).1, fun x hx => (hall x hx).2⟩, fun i hi => ?_, fun j hj => by rw [hat j, if_neg hj]⟩
      have h0 := (hv.2 _ (List.getElem_mem hi)).1
      have e : ((vars[i].toNat : Nat) : Int) = vars[i] := by omega
      have := hat vars[i].toNat
      rw [e, if_pos (List.getElem_mem hi)] at this
      unfold domAt
      rw [List.getD_eq_getElem?_getD, this]; rfl
theorem Left8.vals {d : Doms} (h : FewD d) {vars : List Int} {out : Doms} (hl : Left8 d vars out) {i : Nat} (hi : i < vars.length) : Go.Proofs.Ytdflkbmpbblcfaa.vals (domAt out vars[i]) = left8 d vars vars[i] := by
  rw [hl.at' i hi, vals_pack (left8_up h vars vars[i]).1]
theorem known8 {d : Doms} (h : FewD d) {vars : List Int} (hv : VarsU d vars) {i k : Nat} (hi : i < vars.length) (hk : k < vars.length) (hne : k ≠ i) {x : Int} (hx : left8 d vars vars[i] = [x]) : x ∉ left8 d vars vars[k] := by
  intro hm
  obtain ⟨g, hg, e⟩ := (left8_mem h hv hk x).1 hm
  have h1 := (left8_mem h hv hi (g i)).2 ⟨g, hg, rfl⟩
  rw [hx] at h1
  have h2 : g i = x := List.mem_singleton.1 h1
  have hlen : (listsP d vars).length = vars.length := List.length_map ..
  exact hne (hg.2 k i (by omega) (by omega) (e.trans h2.symm))
end Go.Proofs.Ytdflkbmpbblcfaa
/-! The statement UnlikeHalls: what its function answers. -/
namespace Go.Proofs.Ytdflkbmpbblcfaa
open Go Go.RowKit
set_option linter.unusedVariables false
set_option linter.unusedSimpArgs false
set_option maxRecDepth 8000

def natI (i : Nat) : Int := (i : Int)
def hallD (k : Nat) (top : Int) : Doms := List.replicate k [(0, (k : Int) - 1)] ++ [[(0, top)]]
def hallV (k : Nat) : List Int := (List.range (k + 1)).map natI
def hallO (k : Nat) (top : Int) : Doms := List.replicate k [(0, (k : Int) - 1)] ++ [[((k : Int), top)]]
theorem hall_all : ∀ k ∈ [1, 2, 3, 4], ∀ t ∈ List.range 8, prune8 (hallD k (natI t)) (hallV k) = if t < k then none else some (hallO k (natI t)) := by decide +kernel
theorem hall_eval {k : Nat} (h1 : 1 ≤ k) (h2 : k ≤ 4) {top : Int} (h3 : 0 ≤ top) (h4 : top ≤ 7) : prune8 (hallD k top) (hallV k) = if top < k then none else some (hallO k top) := by
  have := hall_all k (by simp; omega) top.toNat (List.mem_range.2 (by omega))
  have e : natI top.toNat = top := by unfold natI; omega
  rw [e] at this
  rw [this]
  by_cases h : top < k
  · rw [if_pos h, if_pos (by omega)]
  · rw [if_neg h, if_neg (by omega)]
theorem hall_few {k : Nat} (h1 : 1 ≤ k) (h2 : k ≤ 4) {top : Int} (h3 : 0 ≤ top) (h4 : top ≤ 7) : FewD (hallD k top) := by
  have key : ∀ x ∈ hallD k top, x = [(0, (k : Int) - 1)] ∨ x = [(0, top)] := fun x hx => by
    rcases List.mem_append.1 hx with hx | hx
    · exact .inl (List.eq_of_mem_replicate hx)
    · exact .inr (List.mem_singleton.1 hx)
  refine ⟨by simp [hallD]; omega, fun x hx => ?_, fun x hx => ?_⟩
  · rcases key x hx with rfl | rfl
    · exact fine1 (by omega) (by omega) (by omega)
    · exact fine1 (by omega) (by omega) (by omega)
  · rcases key x hx with rfl | rfl
    · exact few1 (by omega)
    · exact few1 (by omega)
theorem hall_vars (k : Nat) (top : Int) : VarsU (hallD k top) (hallV k) := by
  refine ⟨nodup_map List.nodup_range fun x _ y _ e => by unfold natI at e; omega, fun v hv => ?_⟩
  obtain ⟨i, hi, rfl⟩ := List.mem_map.1 hv
  have := List.mem_range.1 hi
  unfold natI
  simp [hallD]
  omega
theorem mask_le (n : Int) (m : Nat) (hm : m < 18446744073709551616) (hm2 : m ≤ 9223372036854775807) : 0 ≤ IntKind.i64.wrap (BitVec.ofInt IntKind.i64.bits n &&& BitVec.ofInt IntKind.i64.bits (m : Int)).toNat ∧ IntKind.i64.wrap (BitVec.ofInt IntKind.i64.bits n &&& BitVec.ofInt IntKind.i64.bits (m : Int)).toNat ≤ m := by
  have h : (BitVec.ofInt IntKind.i64.bits n &&& BitVec.ofInt IntKind.i64.bits (m : Int)).toNat ≤ m := by
    rw [BitVec.toNat_and]
    refine Nat.le_trans Nat.and_le_right ?_
    have e : (BitVec.ofInt IntKind.i64.bits (m : Int)).toNat = m := by
      show (BitVec.ofInt 64 (m : Int)).toNat = m
      rw [BitVec.toNat_ofInt]
      omega
    rw [e]
    exact Nat.le_refl _
  generalize (BitVec.ofInt IntKind.i64.bits n &&& BitVec.ofInt IntKind.i64.bits (m : Int)).toNat = x at *
  rw [wrap_id (by omega) (by omega)]
  omega
theorem law_uhalls (n more : Int) : Spec Try.prog 5 true [.int .i64 n, .int .i64 more] [.val (.bool true)] := by
  refine Spec.body Try.func5 rfl rfl rfl fun w0 Z0 => ?_
  have hn := mask_le n 65535 (by decide) (by decide)
  have ht := mask_le more 7 (by decide) (by decide)
  repeat' ((first | refine T.G rfl ?_ | refine J.G rfl ?_ | refine J.H rfl ?_ | refine T.rd rfl (by decide +kernel) ?_ | fail); conv => whnf)
  have hn' : 0 ≤ IntKind.i64.wrap (BitVec.ofInt IntKind.i64.bits n &&& BitVec.ofInt IntKind.i64.bits 65535).toNat ∧ IntKind.i64.wrap (BitVec.ofInt IntKind.i64.bits n &&& BitVec.ofInt IntKind.i64.bits 65535).toNat ≤ 65535 := hn
  clear hn
  generalize IntKind.i64.wrap (BitVec.ofInt IntKind.i64.bits n &&& BitVec.ofInt IntKind.i64.bits 65535).toNat = N at *
  obtain ⟨k, hk1, hk2, hk⟩ : ∃ k : Nat, 1 ≤ k ∧ k ≤ 4 ∧ IntKind.i64.wrap (1 + N.tmod 4) = (k : Int) := by
    have h1 := Int.tmod_lt_of_pos N (b := 4) (by decide)
    have h2 := Int.tmod_nonneg (b := 4) (a := N) hn'.1
    refine ⟨(1 + N.tmod 4).toNat, by omega, by omega, ?_⟩
    rw [wrap_id (by omega) (by omega)]
    omega
  rw [hk]
  refine J.bo rfl rfl rfl rfl rfl rfl rfl rfl rfl rfl rfl rfl ?_
  refine J.bo rfl rfl rfl rfl rfl rfl rfl rfl rfl rfl rfl rfl ?_
  repeat' ((first | refine T.G rfl ?_ | refine J.G rfl ?_ | refine J.H rfl ?_ | refine T.rd rfl (by decide +kernel) ?_ | fail); conv => whnf)
  have hwk : IntKind.i64.wrap ((k : Int) - 1) = (k : Int) - 1 := wrap_id (by omega) (by omega)
  refine T.canon (keep := [1, 5, 6, 7, 8]) (os := [6, 7]) rfl (T.ind (fun i : Nat => ⟨[(1, .val false (.int .i64 more)), (5, .val true (.int .i64 k)), (6, .ref 0), (7, .ref 1), (8, .val true (.int .i64 i))], [(0, some (.sl 36 1 true ((List.replicate i [((0 : Int), (k : Int) - 1)]).map cD))), (1, some (.sl 3 1 true (((List.range i).map natI).map cI)))], 2⟩) (fun i => i ≤ k) (fun i => k - i) 0 (Nat.zero_le _) (fun _ _ h => h) ?_)
  rintro i hi ih
  repeat' ((first | refine T.G rfl ?_ | refine J.G rfl ?_ | refine J.H rfl ?_ | refine T.rd rfl (by decide +kernel) ?_ | fail); conv => whnf)
  refine T.cd rfl (fun h1 => ?_) (fun h1 => ?_)
  · have h1 : i < k := by
      have h1 : (i : Int) < (k : Int) := h1
      omega
    repeat' ((first | refine T.G rfl ?_ | refine J.G rfl ?_ | refine J.H rfl ?_ | refine T.rd rfl (by decide +kernel) ?_ | fail); conv => whnf)
    rw [hwk]
    refine J.bv rfl rfl rfl rfl rfl rfl rfl rfl rfl rfl rfl rfl ?_
    refine J.bv rfl rfl rfl rfl rfl rfl rfl rfl rfl rfl rfl rfl ?_
    refine J.aD (l := List.replicate i [((0 : Int), (k : Int) - 1)]) (x := [(0, (k : Int) - 1)]) rfl rfl rfl rfl rfl rfl rfl rfl rfl rfl rfl rfl rfl rfl rfl rfl rfl rfl rfl (by simp; omega) ?_
    repeat' ((first | refine T.G rfl ?_ | refine J.G rfl ?_ | refine J.H rfl ?_ | refine T.rd rfl (by decide +kernel) ?_ | fail); conv => whnf)
    refine J.bv rfl rfl rfl rfl rfl rfl rfl rfl rfl rfl rfl rfl ?_
    refine J.aI (l := (List.range i).map natI) (x := natI i) rfl rfl rfl rfl rfl rfl rfl rfl rfl rfl rfl rfl rfl rfl rfl rfl rfl rfl rfl (by simp; omega) ?_
    rw [← List.replicate_succ', show (List.range i).map natI ++ [natI i] = (List.range (i + 1)).map natI by simp [List.range_succ]]
    repeat' ((first | refine T.G rfl ?_ | refine J.G rfl ?_ | refine J.H rfl ?_ | refine T.rd rfl (by decide +kernel) ?_ | fail); conv => whnf)
    rw [show IntKind.i64.wrap ((i : Int) + 1) = ((i + 1 : Nat) : Int) from wrap1 (l := k) h1 (by omega)]
    exact T.canon (keep := [1, 5, 6, 7, 8]) (os := [6, 7]) rfl (ih (i + 1) (by omega) (by omega))
  · have h1 : i = k := by
      have h1 : ¬ (i : Int) < (k : Int) := h1
      omega
    subst h1
    repeat' ((first | refine T.G rfl ?_ | refine J.G rfl ?_ | refine J.H rfl ?_ | refine T.rd rfl (by decide +kernel) ?_ | fail); conv => whnf)
    have ht' : 0 ≤ IntKind.i64.wrap (BitVec.ofInt IntKind.i64.bits more &&& BitVec.ofInt IntKind.i64.bits 7).toNat ∧ IntKind.i64.wrap (BitVec.ofInt IntKind.i64.bits more &&& BitVec.ofInt IntKind.i64.bits 7).toNat ≤ 7 := ht
    clear ht
    generalize IntKind.i64.wrap (BitVec.ofInt IntKind.i64.bits more &&& BitVec.ofInt IntKind.i64.bits 7).toNat = tp at *
    have hf := hall_few hk1 hk2 ht'.1 ht'.2
    have hv := hall_vars i tp
    have hev := hall_eval hk1 hk2 ht'.1 ht'.2
    have hpr := (uprune_few (hallD i tp) (hallV i) hf hv (by simp [hallV])).frz
    have hdl : (hallD i tp).length = i + 1 := by simp [hallD]
    have e1 : List.replicate i [((0 : Int), (i : Int) - 1)] ++ [[(0, tp)]] = hallD i tp := rfl
    have e2 : (List.range i).map natI ++ [natI i] = hallV i := by simp [hallV, List.range_succ]
    refine J.bv rfl rfl rfl rfl rfl rfl rfl rfl rfl rfl rfl rfl ?_
    refine J.bv rfl rfl rfl rfl rfl rfl rfl rfl rfl rfl rfl rfl ?_
    refine J.aD (l := List.replicate i [((0 : Int), (i : Int) - 1)]) (x := [(0, tp)]) rfl rfl rfl rfl rfl rfl rfl rfl rfl rfl rfl rfl rfl rfl rfl rfl rfl rfl rfl (by simp; omega) ?_
    rw [e1]
    repeat' ((first | refine T.G rfl ?_ | refine J.G rfl ?_ | refine J.H rfl ?_ | refine T.rd rfl (by decide +kernel) ?_ | fail); conv => whnf)
    refine J.bv rfl rfl rfl rfl rfl rfl rfl rfl rfl rfl rfl rfl ?_
    refine J.aI (l := (List.range i).map natI) (x := natI i) rfl rfl rfl rfl rfl rfl rfl rfl rfl rfl rfl rfl rfl rfl rfl rfl rfl rfl rfl (by simp; omega) ?_
    rw [e2]
    refine J.sub (Rel.frz (s := 45) (fun _ h => h) rfl rfl) ?_
    refine J.sub (Rel.frz (s := 6) (fun _ h => h) rfl rfl) ?_
    repeat' ((first | refine T.G rfl ?_ | refine J.G rfl ?_ | refine J.H rfl ?_ | refine T.rd rfl (by decide +kernel) ?_ | fail); conv => whnf)
    cases hR : prune8 (hallD i tp) (hallV i) with
    | none =>
      rw [hR] at hpr hev
      have hlt : tp < i := by
        by_cases h : tp < i
        · exact h
        · rw [if_neg h] at hev; cases hev
      refine J.cc rfl rfl rfl rfl rfl hpr rfl rfl ?_
      repeat' ((first | refine T.G rfl ?_ | refine J.G rfl ?_ | refine J.H rfl ?_ | refine T.rd rfl (by decide +kernel) ?_ | fail); conv => whnf)
      refine T.ct2 rfl (decide_eq_true hlt) ?_
      repeat' ((first | refine T.G rfl ?_ | refine J.G rfl ?_ | refine J.H rfl ?_ | refine T.rd rfl (by decide +kernel) ?_ | fail); conv => whnf)
      refine J.cc rfl rfl rfl rfl rfl fixed8_spec rfl rfl ?_
      repeat' ((first | refine T.G rfl ?_ | refine J.G rfl ?_ | refine J.H rfl ?_ | refine T.rd rfl (by decide +kernel) ?_ | fail); conv => whnf)
      exact ⟨_, .v rfl rfl rfl (fun h => by cases h) .nil⟩
    | some out =>
      rw [hR] at hpr hev
      have hlt : ¬ tp < i := fun h => by rw [if_pos h] at hev; cases hev
      rw [if_neg hlt] at hev
      obtain rfl := Option.some.inj hev
      refine J.cc rfl rfl rfl rfl rfl hpr rfl rfl ?_
      repeat' ((first | refine T.G rfl ?_ | refine J.G rfl ?_ | refine J.H rfl ?_ | refine T.rd rfl (by decide +kernel) ?_ | fail); conv => whnf)
      refine T.cf2 rfl (decide_eq_false hlt) ?_
      have hw1 : IntKind.i64.wrap ((i : Int) + 1) = (i : Int) + 1 := wrap_id (by omega) (by omega)
      have hol : (hallO i tp).length = i + 1 := by simp [hallO]
      have r1 : ((hallO i tp).map cD)[((i : Nat) : Int).toNat]? = some (cD [((i : Int), tp)]) := by
        rw [List.getElem?_map, hallO, Int.toNat_natCast, List.getElem?_append_right (by simp)]
        simp
      have r2 : ((hallO i tp).map cD)[(0 : Int).toNat]? = some (cD [(0, (i : Int) - 1)]) := by
        rw [List.getElem?_map, hallO, List.getElem?_append_left (by simp; omega), List.getElem?_replicate, if_pos (by simp; omega)]
        rfl
      have r3 : ((hallD i tp).map cD)[(0 : Int).toNat]? = some (cD [(0, (i : Int) - 1)]) := by
        rw [List.getElem?_map, hallD, List.getElem?_append_left (by simp; omega), List.getElem?_replicate, if_pos (by simp; omega)]
        rfl
      have s1 := same_spec [((i : Int), tp)] [((i : Int), tp)] (by simp)
      have s2 := same_spec [((0 : Int), (i : Int) - 1)] [((0 : Int), (i : Int) - 1)] (by simp)
      rw [decide_eq_true rfl] at s1 s2
      repeat' ((first | refine T.G rfl ?_ | refine J.G rfl ?_ | refine J.H rfl ?_ | refine T.rd rfl (by decide +kernel) ?_ | fail); conv => whnf)
      refine J.g rfl rfl rfl (fun h5 => ?_) (fun h5 => ?_)
      rotate_left
      · exact absurd (by rw [hw1]; simp [hol]) h5
      repeat' ((first | refine T.G rfl ?_ | refine J.G rfl ?_ | refine J.H rfl ?_ | refine T.rd rfl (by decide +kernel) ?_ | fail); conv => whnf)
      refine J.i rfl rfl rfl rfl rfl rfl rfl rfl rfl (r := cD [((i : Int), tp)]) (by omega) r1 rfl ?_
      repeat' ((first | refine T.G rfl ?_ | refine J.G rfl ?_ | refine J.H rfl ?_ | refine T.rd rfl (by decide +kernel) ?_ | fail); conv => whnf)
      refine J.bv rfl rfl rfl rfl rfl rfl rfl rfl rfl rfl rfl rfl ?_
      refine J.cc rfl rfl rfl rfl rfl s1 rfl rfl ?_
      repeat' ((first | refine T.G rfl ?_ | refine J.G rfl ?_ | refine J.H rfl ?_ | refine T.rd rfl (by decide +kernel) ?_ | fail); conv => whnf)
      refine J.i rfl rfl rfl rfl rfl rfl rfl rfl rfl (r := cD [(0, (i : Int) - 1)]) (by omega) r2 rfl ?_
      repeat' ((first | refine T.G rfl ?_ | refine J.G rfl ?_ | refine J.H rfl ?_ | refine T.rd rfl (by decide +kernel) ?_ | fail); conv => whnf)
      refine J.i rfl rfl rfl rfl rfl rfl rfl rfl rfl (r := cD [(0, (i : Int) - 1)]) (by omega) r3 rfl ?_
      repeat' ((first | refine T.G rfl ?_ | refine J.G rfl ?_ | refine J.H rfl ?_ | refine T.rd rfl (by decide +kernel) ?_ | fail); conv => whnf)
      refine J.cc rfl rfl rfl rfl rfl s2 rfl rfl ?_
      repeat' ((first | refine T.G rfl ?_ | refine J.G rfl ?_ | refine J.H rfl ?_ | refine T.rd rfl (by decide +kernel) ?_ | fail); conv => whnf)
      refine J.cc rfl rfl rfl rfl rfl fixed8_spec rfl rfl ?_
      repeat' ((first | refine T.G rfl ?_ | refine J.G rfl ?_ | refine J.H rfl ?_ | refine T.rd rfl (by decide +kernel) ?_ | fail); conv => whnf)
      exact ⟨_, .v rfl rfl rfl (fun h => by cases h) .nil⟩
end Go.Proofs.Ytdflkbmpbblcfaa
/-! The row of UnlikeHalls. -/
namespace Go.Proofs.Ytdflkbmpbblcfaa.unlikeHalls
open Go.ChangeShapes Go.WideShapes Go.ChangeAt Go.RowKit
set_option linter.unusedVariables false
theorem own : ownKnob Try.prog.godebug = none := by kernel_rfl
theorem laidOut : laidOutB Try.prog = true := by kernel_rfl
set_option maxRecDepth 100000 in
theorem lifted (os : Os) (started : os.Started) (H : Type) (enc : TypeId × Value → H) :
    ReturnsInHanded {} Try.checked os 5 .any (Rows.unlikeHallsSpec.pre6 enc Try.prog Try.f5 Rows.unlikeHallsRow.domain false) (Rows.unlikeHallsSpec.post enc Try.prog Try.f5 false true false false) := by
  refine returnsInHanded_of_change_sized (C := Try.checked) own started (by kernel_rfl) Try.func5
    (ChangeSpec.witness6 (enc := enc) (C := Try.checked) false ⟨#[], #[.int .i64 0, .int .i64 0], []⟩ 8 (by kernel_rfl) (by kernel_rfl) (by kernel_rfl) (by kernel_rfl)) ?_
  intro W base args ds gs before hval0 hW hcnd hsz0 _
  have hsz : (DataW.weightsEach Try.prog (Try.f5.params.toList ++ Rows.unlikeHallsSpec.plain.varTypes Try.prog) (ds ++ gs)).all (· ≤ reachBytes) = true := hsz0
  have hval : ∀ (j : Nat) t v, Try.f5.params[j]? = some t → args[j]? = some v → Value.okWide Try.prog W .any base t v := hval0
  have hW' := hW
  obtain ⟨p, q, hA0, hV, rfl, hfz, hnd⟩ := hW
  have hA : DataW.TrodAll enc Try.prog W 0 (fun _ => true) true Try.f5.params.toList args.toList ds p := hA0
  rw [Try.params5] at hA hval hsz
  obtain ⟨v0, vs0, d0, ds0, p0, q0, hargs, rfl, rfl, h0, r0⟩ := trodAll_cons hA
  obtain ⟨v1, vs1, d1, ds1, p1, q1, rfl, rfl, rfl, h1, r1⟩ := trodAll_cons r0
  obtain ⟨rfl, rfl, rfl⟩ := trodAll_nil r1
  obtain rfl : args = #[v0, v1] := by cases args; simp_all
  obtain ⟨rfl, rfl⟩ := trodVars_none hV
  obtain ⟨a0, rfl, rfl, rfl, w0⟩ := open_int Try.underlying3 (hval 0 3 v0 rfl rfl) h0
  obtain ⟨a1, rfl, rfl, rfl, w1⟩ := open_int Try.underlying3 (hval 1 3 v1 rfl rfl) h1
  clear hA0 hval0 hsz0 hsz
  refine ((law_uhalls a0 a1).out W (fun _ => True) [.int .i64 a0, .int .i64 a1] (.cons (.int _ _) (.cons (.int _ _) .nil))).mono fun e W' ⟨rs, he, bel, hret⟩ => ?_
  have hrs : rs = [.bool true] := by
    have h := hret.each
    cases h with
    | cons h1 h2 => cases h2; cases h1; rfl
  subst hrs
  subst he
  exact ⟨_, rfl, _, _, _, [], _, [], hW', trodAll_mk1 (shut_bool Try.underlying4 _), trodAll_cons_mk (shut_int Try.underlying3 w0) (trodAll_cons_mk (shut_int Try.underlying3 w1) trodAll_mk0), rfl, bel.frame _, fun h => by cases h⟩
theorem over : Rows.unlikeHallsRow.holds Try.pinned (OpenSpec.ofChange Rows.unlikeHallsSpec) :=
  OpenClaim.holds_of_wide 5 Try.f5 rfl rfl rfl rfl rfl rfl rfl ⟨rfl, rfl, rfl, rfl, rfl⟩ rfl rfl rfl rfl rfl (by kernel_rfl) Try.func5 (by kernel_rfl)
    (of_decide_eq_true (by kernel_rfl)) (by unfold Func.isWrapper; first | (rw [if_pos (by decide +kernel)]; kernel_rfl) | (rw [if_neg (by decide +kernel)]; exact ⟨rfl, rfl⟩))
    (fun os started H enc _ => lifted os started H enc)
theorem proved : Rows.UnlikeHallsSaid := over
#print axioms proved
end Go.Proofs.Ytdflkbmpbblcfaa.unlikeHalls
namespace Go.Proofs.Ytdflkbmpbblcfaa
/-- The row, under a short name, for the claim. -/
theorem unlikeHalls_holds : Rows.UnlikeHallsSaid := unlikeHalls.proved
end Go.Proofs.Ytdflkbmpbblcfaa
