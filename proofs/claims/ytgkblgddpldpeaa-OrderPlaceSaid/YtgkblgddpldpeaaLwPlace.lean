/- The statement OrderPlace: what its function answers. -/
import Derived.Test.YtgkblgddpldpeaaPuB
namespace Go.Proofs.Ytgkblgddpldpeaa
open Go Go.RowKit
set_option linter.unusedVariables false
set_option maxRecDepth 8000

def sameB (d : Doms) (c : Con) (i : Nat) : Bool := decide (varAt c i = varAt c (halfOf c + i)) || (decide ((vals (domAt d (varAt c i))).length = 1) && decide (domAt d (varAt c i) = domAt d (varAt c (halfOf c + i))))
theorem sameB_eq {d : Doms} {c : Con} (hf : ∀ x ∈ d, Fine x) (hv : VarsIn d c) {i : Nat} (hi : i < halfOf c) : pairO d c i = sameB d c i := by
  have hh := half_le c
  have h1 := hv.2 _ (varAt_mem (c := c) (k := i) (by omega))
  have h2 := hv.2 _ (varAt_mem (c := c) (k := halfOf c + i) (by omega))
  rw [Bool.eq_iff_iff, pairO, knownB_iff (hf _ (domAt_mem h1.2)).ok (hf _ (domAt_mem h2.2)).ok]
  simp [sameB]
theorem same_at {d : Doms} {c : Con} (hf : ∀ x ∈ d, Fine x) (hv : VarsIn d c) {i : Nat} (hi : i < halfOf c) (hk : i ≤ placeO d c) : sameB d c i = decide (i < placeO d c) := by
  rw [← sameB_eq hf hv hi]
  by_cases h : i < placeO d c
  · rw [decide_eq_true h]; exact placeF_before h
  · have e : i = placeO d c := by omega
    rw [decide_eq_false h, e]
    exact placeF_here (by rw [e] at hi; exact hi)

theorem law_place (o : Case) (ho : CaseB o) : Spec Try.prog 7 true [.agg (cCase o)] [.val (.bool true)] := by
  refine Spec.body Try.func7 rfl rfl rfl fun w0 Z0 => ?_
  have hlaid := laid_spec o 6 ho
  have hcb := laid_conB ho 6
  have hlex := fun h => lex_in (d := laidD o) (c := laidC o 6) hcb h rfl
  have hok : laidOK o 6 = decide (conR (laidD o) (laidC o 6) = 0) := rfl
  have hf := laid_fine o
  have hlen := laid_len o
  generalize laidD o = d at *
  generalize laidC o 6 = c at *
  generalize laidOK o 6 = ok at *
  repeat' first | refine T.seq ?_ | refine T.block ?_ | refine T.r ?_ | refine J.e rfl rfl rfl rfl ?_ | refine J.nil ?_ | refine J.skip rfl rfl rfl ?_ | refine T.skip ?_ | refine T.exit ?_ | refine T.ret ?_ | refine T.rd rfl (by kernel_rfl) ?_ | refine J.bx rfl rfl rfl rfl rfl rfl ?_
  refine J.cc rfl rfl rfl rfl rfl hlaid rfl rfl ?_
  repeat' first | refine T.seq ?_ | refine T.block ?_ | refine T.r ?_ | refine J.e rfl rfl rfl rfl ?_ | refine J.nil ?_ | refine J.skip rfl rfl rfl ?_ | refine T.skip ?_ | refine T.exit ?_ | refine T.ret ?_ | refine T.rd rfl (by kernel_rfl) ?_ | refine J.bx rfl rfl rfl rfl rfl rfl ?_
  refine J.al rfl rfl rfl rfl rfl rfl rfl ?_
  repeat' first | refine T.seq ?_ | refine T.block ?_ | refine T.r ?_ | refine J.e rfl rfl rfl rfl ?_ | refine J.nil ?_ | refine J.skip rfl rfl rfl ?_ | refine T.skip ?_ | refine T.exit ?_ | refine T.ret ?_ | refine T.rd rfl (by kernel_rfl) ?_ | refine J.bx rfl rfl rfl rfl rfl rfl ?_
  refine J.w rfl rfl rfl rfl rfl rfl rfl rfl rfl rfl ?_
  repeat' first | refine T.seq ?_ | refine T.block ?_ | refine T.r ?_ | refine J.e rfl rfl rfl rfl ?_ | refine J.nil ?_ | refine J.skip rfl rfl rfl ?_ | refine T.skip ?_ | refine T.exit ?_ | refine T.ret ?_ | refine T.rd rfl (by kernel_rfl) ?_ | refine J.bx rfl rfl rfl rfl rfl rfl ?_
  cases ok
  · refine T.ct rfl ?_
    repeat' first | refine T.seq ?_ | refine T.block ?_ | refine T.r ?_ | refine J.e rfl rfl rfl rfl ?_ | refine J.nil ?_ | refine J.skip rfl rfl rfl ?_ | refine T.skip ?_ | refine T.exit ?_ | refine T.ret ?_ | refine T.rd rfl (by kernel_rfl) ?_ | refine J.bx rfl rfl rfl rfl rfl rfl ?_
    refine J.cc rfl rfl rfl rfl rfl fixed_spec rfl rfl ?_
    repeat' first | refine T.seq ?_ | refine T.block ?_ | refine T.r ?_ | refine J.e rfl rfl rfl rfl ?_ | refine J.nil ?_ | refine J.skip rfl rfl rfl ?_ | refine T.skip ?_ | refine T.exit ?_ | refine T.ret ?_ | refine T.rd rfl (by kernel_rfl) ?_ | refine J.bx rfl rfl rfl rfl rfl rfl ?_
    exact ⟨_, .v rfl rfl rfl (fun h => by cases h) .nil⟩
  · refine T.cf rfl ?_
    obtain ⟨hv, h2, h3⟩ := hlex (by simpa using hok.symm)
    have hh := half_le c
    have hc1 := hv.1
    have e1 : IntKind.i64.wrap (((c.vars.map cI).length : Int).tdiv 2) = (halfOf c : Int) := by
      rw [List.length_map, Int.tdiv_eq_ediv_of_nonneg (by omega), wrap_id (by omega) (by omega)]
      simp [halfOf]
    repeat' first | refine T.seq ?_ | refine T.block ?_ | refine T.r ?_ | refine J.e rfl rfl rfl rfl ?_ | refine J.nil ?_ | refine J.skip rfl rfl rfl ?_ | refine T.skip ?_ | refine T.exit ?_ | refine T.ret ?_ | refine T.rd rfl (by kernel_rfl) ?_ | refine J.bx rfl rfl rfl rfl rfl rfl ?_
    rw [e1]
    refine J.cc rfl rfl rfl rfl rfl (place_spec d c hv fun x hx => by have := (hf x hx).len; omega) rfl rfl ?_
    repeat' first | refine T.seq ?_ | refine T.block ?_ | refine T.r ?_ | refine J.e rfl rfl rfl rfl ?_ | refine J.nil ?_ | refine J.skip rfl rfl rfl ?_ | refine T.skip ?_ | refine T.exit ?_ | refine T.ret ?_ | refine T.rd rfl (by kernel_rfl) ?_ | refine J.bx rfl rfl rfl rfl rfl rfl ?_
    have hpl : placeO d c ≤ halfOf c := placeF_le _ _
    have hsame := fun i (h1 : i < halfOf c) (h2 : i ≤ placeO d c) => same_at hf hv h1 h2
    generalize placeO d c = k at *
    refine T.cf2 rfl (by simp; omega) ?_
    repeat' first | refine T.seq ?_ | refine T.block ?_ | refine T.r ?_ | refine J.e rfl rfl rfl rfl ?_ | refine J.nil ?_ | refine J.skip rfl rfl rfl ?_ | refine T.skip ?_ | refine T.exit ?_ | refine T.ret ?_ | refine T.rd rfl (by kernel_rfl) ?_ | refine J.bx rfl rfl rfl rfl rfl rfl ?_
    refine T.canon (keep := [3, 4, 6, 7, 8]) (os := [3, 4]) rfl (T.ind (fun i : Nat => ⟨[(3, .ref 0), (4, .optr 1 0 0 0), (6, .val true (.int .i64 (halfOf c))), (7, .val true (.int .i64 k)), (8, .val true (.int .i64 i))], [(0, some (.sl 37 1 false (d.map cD))), (1, some (.box false (cC c)))], 2⟩)
      (fun i => i ≤ halfOf c) (fun i => halfOf c - i) 0 (by omega) (fun _ _ h => h) ?_)
    rintro i hi ih
    repeat' first | refine T.seq ?_ | refine T.block ?_ | refine T.r ?_ | refine J.e rfl rfl rfl rfl ?_ | refine J.nil ?_ | refine J.skip rfl rfl rfl ?_ | refine T.skip ?_ | refine T.exit ?_ | refine T.ret ?_ | refine T.rd rfl (by kernel_rfl) ?_ | refine J.bx rfl rfl rfl rfl rfl rfl ?_
    refine J.g rfl rfl rfl (fun h5 => ?_) (fun h5 => ?_)
    · have h5 : i ≤ k := by have h5 : (i : Int) ≤ k := h5; omega
      repeat' first | refine T.seq ?_ | refine T.block ?_ | refine T.r ?_ | refine J.e rfl rfl rfl rfl ?_ | refine J.nil ?_ | refine J.skip rfl rfl rfl ?_ | refine T.skip ?_ | refine T.exit ?_ | refine T.ret ?_ | refine T.rd rfl (by kernel_rfl) ?_ | refine J.bx rfl rfl rfl rfl rfl rfl ?_
      refine T.cd rfl (fun h6 => ?_) (fun h6 => ?_)
      · have h6 : i < halfOf c := by omega
        have hs := hsame i h6 h5
        have hv1 := hv.2 _ (varAt_mem (c := c) (k := i) (by omega))
        have hv2 := hv.2 _ (varAt_mem (c := c) (k := halfOf c + i) (by omega))
        have hda := hf _ (domAt_mem hv1.2)
        have hdb := hf _ (domAt_mem hv2.2)
        have ra : (d.map cD)[(varAt c i).toNat]? = some (cD (domAt d (varAt c i))) := by simp [domAt_some hv1.2]
        have rb : (d.map cD)[(varAt c (halfOf c + i)).toNat]? = some (cD (domAt d (varAt c (halfOf c + i)))) := by simp [domAt_some hv2.2]
        have la : (varAt c i).toNat < (d.map cD).length := by simpa using hv1.2
        have lb : (varAt c (halfOf c + i)).toNat < (d.map cD).length := by simpa using hv2.2
        have ka := varAt_row (c := c) (k := i) (by omega)
        have kb := varAt_row (c := c) (k := halfOf c + i) (by omega)
        have hvals := (values_spec (domAt d (varAt c i)) hda.domB.1 (by have := hda.few; omega) hda.domB.2.2).frz
        have hsm := same_spec (domAt d (varAt c i)) (domAt d (varAt c (halfOf c + i))) (by have := hda.len; omega)
        have hi1 : decide ((i : Int) < (k : Int)) = decide (i < k) := by simp
        unfold sameB at hs
        have fin : ∀ b : Bool, b = decide (i < k) → (!(b == decide ((i : Int) < (k : Int)))) = false := fun b hb => by rw [hi1, hb]; simp
        generalize varAt c i = a at *
        generalize varAt c (halfOf c + i) = b at *
        generalize domAt d a = da at *
        generalize domAt d b = db at *
        generalize vals da = va at *
        repeat' first | refine T.seq ?_ | refine T.block ?_ | refine T.r ?_ | refine J.e rfl rfl rfl rfl ?_ | refine J.nil ?_ | refine J.skip rfl rfl rfl ?_ | refine T.skip ?_ | refine T.exit ?_ | refine T.ret ?_ | refine T.rd rfl (by kernel_rfl) ?_ | refine J.bx rfl rfl rfl rfl rfl rfl ?_
        refine J.i rfl rfl rfl rfl rfl rfl rfl rfl rfl (r := cI a) (by omega) ka rfl ?_
        repeat' first | refine T.seq ?_ | refine T.block ?_ | refine T.r ?_ | refine J.e rfl rfl rfl rfl ?_ | refine J.nil ?_ | refine J.skip rfl rfl rfl ?_ | refine T.skip ?_ | refine T.exit ?_ | refine T.ret ?_ | refine T.rd rfl (by kernel_rfl) ?_ | refine J.bx rfl rfl rfl rfl rfl rfl ?_
        rw [show IntKind.i64.wrap ((halfOf c : Int) + (i : Int)) = ((halfOf c + i : Nat) : Int) by rw [wrap_id (by omega) (by omega)]; omega]
        refine J.i rfl rfl rfl rfl rfl rfl rfl rfl rfl (r := cI b) (by omega) kb rfl ?_
        repeat' first | refine T.seq ?_ | refine T.block ?_ | refine T.r ?_ | refine J.e rfl rfl rfl rfl ?_ | refine J.nil ?_ | refine J.skip rfl rfl rfl ?_ | refine T.skip ?_ | refine T.exit ?_ | refine T.ret ?_ | refine T.rd rfl (by kernel_rfl) ?_ | refine J.bx rfl rfl rfl rfl rfl rfl ?_
        refine J.io rfl rfl rfl rfl rfl rfl rfl rfl rfl hv1.1 la rfl ?_
        refine J.lo rfl rfl rfl rfl rfl rfl (r := cD da) ra rfl ?_
        repeat' first | refine T.seq ?_ | refine T.block ?_ | refine T.r ?_ | refine J.e rfl rfl rfl rfl ?_ | refine J.nil ?_ | refine J.skip rfl rfl rfl ?_ | refine T.skip ?_ | refine T.exit ?_ | refine T.ret ?_ | refine T.rd rfl (by kernel_rfl) ?_ | refine J.bx rfl rfl rfl rfl rfl rfl ?_
        refine J.cc rfl rfl rfl rfl rfl hvals rfl rfl ?_
        repeat' first | refine T.seq ?_ | refine T.block ?_ | refine T.r ?_ | refine J.e rfl rfl rfl rfl ?_ | refine J.nil ?_ | refine J.skip rfl rfl rfl ?_ | refine T.skip ?_ | refine T.exit ?_ | refine T.ret ?_ | refine T.rd rfl (by kernel_rfl) ?_ | refine J.bx rfl rfl rfl rfl rfl rfl ?_
        refine J.g rfl rfl rfl (fun h7 => ?_) (fun h7 => ?_)
        · have h7 : a = b := h7
          repeat' first | refine T.seq ?_ | refine T.block ?_ | refine T.r ?_ | refine J.e rfl rfl rfl rfl ?_ | refine J.nil ?_ | refine J.skip rfl rfl rfl ?_ | refine T.skip ?_ | refine T.exit ?_ | refine T.ret ?_ | refine T.rd rfl (by kernel_rfl) ?_ | refine J.bx rfl rfl rfl rfl rfl rfl ?_
          refine T.cf2 rfl (fin _ (by rw [← hs]; simp [h7])) ?_
          repeat' first | refine T.seq ?_ | refine T.block ?_ | refine T.r ?_ | refine J.e rfl rfl rfl rfl ?_ | refine J.nil ?_ | refine J.skip rfl rfl rfl ?_ | refine T.skip ?_ | refine T.exit ?_ | refine T.ret ?_ | refine T.rd rfl (by kernel_rfl) ?_ | refine J.bx rfl rfl rfl rfl rfl rfl ?_
          rw [wrap1 (l := halfOf c) h6 (by omega)]
          exact T.canon (keep := [3, 4, 6, 7, 8]) (os := [3, 4]) rfl (ih (i + 1) (by omega) (by omega))
        · have h7 : ¬ a = b := h7
          repeat' first | refine T.seq ?_ | refine T.block ?_ | refine T.r ?_ | refine J.e rfl rfl rfl rfl ?_ | refine J.nil ?_ | refine J.skip rfl rfl rfl ?_ | refine T.skip ?_ | refine T.exit ?_ | refine T.ret ?_ | refine T.rd rfl (by kernel_rfl) ?_ | refine J.bx rfl rfl rfl rfl rfl rfl ?_
          refine J.g rfl rfl rfl (fun h8 => ?_) (fun h8 => ?_)
          · have h8 : va.length = 1 := by have h8 : ((va.map cI).length : Int) = 1 := h8; simp at h8; omega
            repeat' first | refine T.seq ?_ | refine T.block ?_ | refine T.r ?_ | refine J.e rfl rfl rfl rfl ?_ | refine J.nil ?_ | refine J.skip rfl rfl rfl ?_ | refine T.skip ?_ | refine T.exit ?_ | refine T.ret ?_ | refine T.rd rfl (by kernel_rfl) ?_ | refine J.bx rfl rfl rfl rfl rfl rfl ?_
            refine J.io rfl rfl rfl rfl rfl rfl rfl rfl rfl hv1.1 la rfl ?_
            refine J.lo rfl rfl rfl rfl rfl rfl (r := cD da) ra rfl ?_
            repeat' first | refine T.seq ?_ | refine T.block ?_ | refine T.r ?_ | refine J.e rfl rfl rfl rfl ?_ | refine J.nil ?_ | refine J.skip rfl rfl rfl ?_ | refine T.skip ?_ | refine T.exit ?_ | refine T.ret ?_ | refine T.rd rfl (by kernel_rfl) ?_ | refine J.bx rfl rfl rfl rfl rfl rfl ?_
            refine J.io rfl rfl rfl rfl rfl rfl rfl rfl rfl hv2.1 lb rfl ?_
            refine J.lo rfl rfl rfl rfl rfl rfl (r := cD db) rb rfl ?_
            repeat' first | refine T.seq ?_ | refine T.block ?_ | refine T.r ?_ | refine J.e rfl rfl rfl rfl ?_ | refine J.nil ?_ | refine J.skip rfl rfl rfl ?_ | refine T.skip ?_ | refine T.exit ?_ | refine T.ret ?_ | refine T.rd rfl (by kernel_rfl) ?_ | refine J.bx rfl rfl rfl rfl rfl rfl ?_
            refine J.cc rfl rfl rfl rfl rfl hsm rfl rfl ?_
            repeat' first | refine T.seq ?_ | refine T.block ?_ | refine T.r ?_ | refine J.e rfl rfl rfl rfl ?_ | refine J.nil ?_ | refine J.skip rfl rfl rfl ?_ | refine T.skip ?_ | refine T.exit ?_ | refine T.ret ?_ | refine T.rd rfl (by kernel_rfl) ?_ | refine J.bx rfl rfl rfl rfl rfl rfl ?_
            refine T.cf2 rfl (fin _ (by rw [← hs]; simp [h7, h8])) ?_
            repeat' first | refine T.seq ?_ | refine T.block ?_ | refine T.r ?_ | refine J.e rfl rfl rfl rfl ?_ | refine J.nil ?_ | refine J.skip rfl rfl rfl ?_ | refine T.skip ?_ | refine T.exit ?_ | refine T.ret ?_ | refine T.rd rfl (by kernel_rfl) ?_ | refine J.bx rfl rfl rfl rfl rfl rfl ?_
            rw [wrap1 (l := halfOf c) h6 (by omega)]
            exact T.canon (keep := [3, 4, 6, 7, 8]) (os := [3, 4]) rfl (ih (i + 1) (by omega) (by omega))
          · have h8 : ¬ va.length = 1 := by have h8 : ¬ ((va.map cI).length : Int) = 1 := h8; simp at h8; omega
            repeat' first | refine T.seq ?_ | refine T.block ?_ | refine T.r ?_ | refine J.e rfl rfl rfl rfl ?_ | refine J.nil ?_ | refine J.skip rfl rfl rfl ?_ | refine T.skip ?_ | refine T.exit ?_ | refine T.ret ?_ | refine T.rd rfl (by kernel_rfl) ?_ | refine J.bx rfl rfl rfl rfl rfl rfl ?_
            refine T.cf2 rfl (fin _ (by rw [← hs]; simp [h7, h8])) ?_
            repeat' first | refine T.seq ?_ | refine T.block ?_ | refine T.r ?_ | refine J.e rfl rfl rfl rfl ?_ | refine J.nil ?_ | refine J.skip rfl rfl rfl ?_ | refine T.skip ?_ | refine T.exit ?_ | refine T.ret ?_ | refine T.rd rfl (by kernel_rfl) ?_ | refine J.bx rfl rfl rfl rfl rfl rfl ?_
            rw [wrap1 (l := halfOf c) h6 (by omega)]
            exact T.canon (keep := [3, 4, 6, 7, 8]) (os := [3, 4]) rfl (ih (i + 1) (by omega) (by omega))
      · repeat' first | refine T.seq ?_ | refine T.block ?_ | refine T.r ?_ | refine J.e rfl rfl rfl rfl ?_ | refine J.nil ?_ | refine J.skip rfl rfl rfl ?_ | refine T.skip ?_ | refine T.exit ?_ | refine T.ret ?_ | refine T.rd rfl (by kernel_rfl) ?_ | refine J.bx rfl rfl rfl rfl rfl rfl ?_
        refine J.cc rfl rfl rfl rfl rfl fixed_spec rfl rfl ?_
        repeat' first | refine T.seq ?_ | refine T.block ?_ | refine T.r ?_ | refine J.e rfl rfl rfl rfl ?_ | refine J.nil ?_ | refine J.skip rfl rfl rfl ?_ | refine T.skip ?_ | refine T.exit ?_ | refine T.ret ?_ | refine T.rd rfl (by kernel_rfl) ?_ | refine J.bx rfl rfl rfl rfl rfl rfl ?_
        exact ⟨_, .v rfl rfl rfl (fun h => by cases h) .nil⟩
    · repeat' first | refine T.seq ?_ | refine T.block ?_ | refine T.r ?_ | refine J.e rfl rfl rfl rfl ?_ | refine J.nil ?_ | refine J.skip rfl rfl rfl ?_ | refine T.skip ?_ | refine T.exit ?_ | refine T.ret ?_ | refine T.rd rfl (by kernel_rfl) ?_ | refine J.bx rfl rfl rfl rfl rfl rfl ?_
      refine T.cf rfl ?_
      repeat' first | refine T.seq ?_ | refine T.block ?_ | refine T.r ?_ | refine J.e rfl rfl rfl rfl ?_ | refine J.nil ?_ | refine J.skip rfl rfl rfl ?_ | refine T.skip ?_ | refine T.exit ?_ | refine T.ret ?_ | refine T.rd rfl (by kernel_rfl) ?_ | refine J.bx rfl rfl rfl rfl rfl rfl ?_
      refine J.cc rfl rfl rfl rfl rfl fixed_spec rfl rfl ?_
      repeat' first | refine T.seq ?_ | refine T.block ?_ | refine T.r ?_ | refine J.e rfl rfl rfl rfl ?_ | refine J.nil ?_ | refine J.skip rfl rfl rfl ?_ | refine T.skip ?_ | refine T.exit ?_ | refine T.ret ?_ | refine T.rd rfl (by kernel_rfl) ?_ | refine J.bx rfl rfl rfl rfl rfl rfl ?_
      exact ⟨_, .v rfl rfl rfl (fun h => by cases h) .nil⟩
end Go.Proofs.Ytgkblgddpldpeaa
