/- Plain laws: the program's pruner of two lists and the document's do the same. -/
import Derived.Test.YtgkblgddpldpeaaPuC
namespace Go.Proofs.Ytgkblgddpldpeaa
open Go Go.RowKit
set_option linter.unusedVariables false
set_option linter.unusedSimpArgs false

theorem placeF_congr {p q : Nat → Bool} {h : Nat} (e : ∀ k, k < h → p k = q k) : placeF p h = placeF q h := by
  by_cases hk : placeF p h < h
  · refine (placeF_at hk (fun j hj => ?_) ?_).symm
    · rw [← e j (by omega)]; exact placeF_before hj
    · rw [← e _ hk]; exact placeF_here hk
  · have hle := placeF_le p h
    have hh : placeF p h = h := by omega
    rw [hh]
    refine (placeF_all fun j hj => ?_).symm
    rw [← e j hj]
    exact placeF_before (h := h) (by omega)
theorem place_eq {d : Doms} {c : Con} (hv : VarsIn d c) (hf : ∀ x ∈ d, Fine x) : placeO d c = placeR d c := by
  have hh := half_le c
  refine placeF_congr fun k hk => ?_
  have hv1 := hv.2 _ (varAt_mem (c := c) (k := k) (by omega))
  have hv2 := hv.2 _ (varAt_mem (c := c) (k := halfOf c + k) (by omega))
  exact known_eq (hf _ (domAt_mem hv1.2)).ok (hf _ (domAt_mem hv2.2)).ok

theorem set_mem {out : Doms} {i j : Nat} {x y z : List (Int × Int)} (hi : i < out.length) (hj : j < out.length) (hij : i ≠ j) (hz : z ∉ out) : z ∈ (out.set i x).set j y ↔ z = x ∨ z = y := by
  constructor
  · intro h
    obtain ⟨k, hk⟩ := List.mem_iff_getElem?.1 h
    rw [List.getElem?_set] at hk
    split at hk
    · simp only [List.length_set, hj, if_true, Option.some.injEq] at hk
      exact .inr hk.symm
    · rw [List.getElem?_set] at hk
      split at hk
      · simp only [hi, if_true, Option.some.injEq] at hk
        exact .inl hk.symm
      · exact absurd (List.mem_of_getElem? hk) hz
  · rintro (rfl | rfl)
    · refine List.mem_iff_getElem?.2 ⟨i, ?_⟩
      rw [List.getElem?_set_ne (Ne.symm hij), List.getElem?_set_self hi]
    · refine List.mem_iff_getElem?.2 ⟨j, ?_⟩
      rw [List.getElem?_set_self (by simpa using hj)]
theorem set_same {out : Doms} {i j : Nat} {x y dx dy : List (Int × Int)} (hi : out[i]? = some dx) (hj : out[j]? = some dy) (hij : i ≠ j) : (out.set i x).set j y = out ↔ x = dx ∧ y = dy := by
  have hil := (List.getElem?_eq_some_iff.1 hi).1
  have hjl := (List.getElem?_eq_some_iff.1 hj).1
  constructor
  · intro h
    constructor
    · have : ((out.set i x).set j y)[i]? = out[i]? := by rw [h]
      rw [List.getElem?_set_ne (Ne.symm hij), List.getElem?_set_self hil, hi] at this
      exact Option.some.inj this
    · have : ((out.set i x).set j y)[j]? = out[j]? := by rw [h]
      rw [List.getElem?_set_self (by simpa using hjl), hj] at this
      exact Option.some.inj this
  · rintro ⟨rfl, rfl⟩
    have e1 : out.set i x = out := by
      obtain ⟨h1, h2⟩ := List.getElem?_eq_some_iff.1 hi
      subst h2
      exact List.set_getElem_self h1
    rw [e1]
    obtain ⟨h1, h2⟩ := List.getElem?_eq_some_iff.1 hj
    subst h2
    exact List.set_getElem_self h1
theorem step_same {c : Con} {d out : Doms} (hv : VarsIn out c) (h : Cutd d out) : stepO c out = stepR c out := by
  have hh := half_le c
  unfold stepO stepR
  rw [place_eq hv h.fine]
  by_cases hk : placeR out c = halfOf c
  · rw [if_pos hk, if_pos hk]
  · rw [if_neg hk, if_neg hk]
    have hkl : placeR out c < halfOf c := by have := placeF_le (pairR out c) (halfOf c); unfold placeR at hk ⊢; omega
    have hp : pairR out c (placeR out c) = false := placeF_here hkl
    have hv1 := hv.2 _ (varAt_mem (c := c) (k := placeR out c) (by omega))
    have hv2 := hv.2 _ (varAt_mem (c := c) (k := halfOf c + placeR out c) (by omega))
    have hab : varAt c (placeR out c) ≠ varAt c (halfOf c + placeR out c) := fun e => by rw [pairR, e] at hp; simp [knownR] at hp
    simp only
    generalize varAt c (placeR out c) = a at *
    generalize varAt c (halfOf c + placeR out c) = b at *
    have ha := domAt_some hv1.2
    have hb := domAt_some hv2.2
    have fa := h.fine _ (domAt_mem hv1.2)
    have fb := h.fine _ (domAt_mem hv2.2)
    have na := h.ne _ (domAt_mem hv1.2)
    have nb := h.ne _ (domAt_mem hv2.2)
    generalize domAt out a = da at *
    generalize domAt out b = db at *
    rw [endsR_eq fa.ok na, endsR_eq fb.ok nb]
    simp only
    have ex : domCut da (-1048576) (lastR db) = cutR da (leastR da) (lastR db) := cut_eq fa.ok fun v hv => by
      have := least_le fa.ok hv; have := fa.val v hv; omega
    have ey : domCut db (leastR da) 1048576 = cutR db (leastR da) (max (leastR da) 1048576) := cut_eq fb.ok fun v hv => by
      have := fb.val v hv; omega
    rw [ex, ey]
    generalize cutR da (leastR da) (lastR db) = x
    generalize cutR db (leastR da) (max (leastR da) 1048576) = y
    have hn : ([] : List (Int × Int)) ∉ out := fun e => h.ne _ e rfl
    have hne : a.toNat ≠ b.toNat := by omega
    have m1 : (x = [] ∨ y = []) ↔ ([] ∈ (out.set a.toNat x).set b.toNat y) := by
      rw [set_mem hv1.2 hv2.2 hne hn]
      exact ⟨fun h => h.elim (fun h => .inl h.symm) (fun h => .inr h.symm), fun h => h.elim (fun h => .inl h.symm) (fun h => .inr h.symm)⟩
    have m2 := set_same (x := x) (y := y) ha hb hne
    by_cases h1 : x = [] ∨ y = []
    · rw [if_pos h1, if_pos (m1.1 h1)]
    · rw [if_neg h1, if_neg (fun h => h1 (m1.2 h))]
      by_cases h2 : x = da ∧ y = db
      · rw [if_pos h2, if_pos (m2.2 h2)]
      · rw [if_neg h2, if_neg (fun h => h2 (m2.1 h))]
theorem pruneR_ex {c : Con} {d : Doms} {R : Option Doms} {N : Nat} (hv : VarsIn d c) (hf : ∀ x ∈ d, Fine x) (hR : if [] ∈ d then R = none else iter (stepO c) N d = some R) : if [] ∈ d then R = none else iter (stepR c) N d = some R := by
  by_cases he : [] ∈ d
  · rw [if_pos he] at hR ⊢; exact hR
  · rw [if_neg he] at hR ⊢
    have h0 : Cutd d d := ⟨rfl, hf, fun x hx e => he (e ▸ hx), fun i x y hx hy v hv => by rw [hx] at hy; exact Option.some.inj hy ▸ hv⟩
    rw [← hR]
    refine (iter_same (fun x => Cutd d x ∧ VarsIn x c) (fun x y hi hs => ?_) (fun x hi => step_same hi.2 hi.1) N d ⟨h0, hv⟩).symm
    have := stepO_inr hi.2 hi.1 hs
    exact ⟨this.1, this.2.1⟩
/-- The document's steps keep domains fine. -/
theorem stepR_fine {c : Con} {out next : Doms} (hf : ∀ x ∈ out, Fine x) (hv : VarsIn out c) (hs : stepR c out = .inr next) : ∀ x ∈ next, Fine x := by
  have hh := half_le c
  unfold stepR at hs
  split at hs
  · cases hs
  · rename_i hk
    have hkl : placeR out c < halfOf c := by have := placeF_le (pairR out c) (halfOf c); unfold placeR at hk ⊢; omega
    have hv1 := hv.2 _ (varAt_mem (c := c) (k := placeR out c) (by omega))
    have hv2 := hv.2 _ (varAt_mem (c := c) (k := halfOf c + placeR out c) (by omega))
    simp only at hs
    have fa := hf _ (domAt_mem hv1.2)
    have fb := hf _ (domAt_mem hv2.2)
    split at hs
    · cases hs
    · split at hs
      · cases hs
      · obtain rfl := Sum.inr.inj hs
        intro x hx
        rcases List.mem_or_eq_of_mem_set hx with hx | rfl
        · rcases List.mem_or_eq_of_mem_set hx with hx | rfl
          · exact hf x hx
          · exact fa.cut (cutR_ok fa.ok _ _).1 fun v hv => (((cutR_ok fa.ok _ _).2 v).1 hv).1
        · exact fb.cut (cutR_ok fb.ok _ _).1 fun v hv => (((cutR_ok fb.ok _ _).2 v).1 hv).1
end Go.Proofs.Ytgkblgddpldpeaa
