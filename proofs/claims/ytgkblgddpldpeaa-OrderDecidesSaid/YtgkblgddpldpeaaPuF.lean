/- Plain laws: lists in order, where all is known. -/
import Derived.Test.YtgkblgddpldpeaaPuC
import Derived.Test.YtgkblgddpldpeaaFnQ
namespace Go.Proofs.Ytgkblgddpldpeaa
open Go Go.RowKit
set_option linter.unusedVariables false
set_option linter.unusedSimpArgs false

theorem orderR_at : ∀ (k : Nat) (xs ys : List Int) (x y : Int), (∀ j, j < k → xs[j]? = ys[j]?) → xs[k]? = some x → ys[k]? = some y → x ≠ y → orderR xs ys = if x < y then -1 else 1
  | 0, [], _, x, y, _, h, _, _ => by simp at h
  | 0, _ :: _, [], x, y, _, _, h, _ => by simp at h
  | 0, a :: xs, b :: ys, x, y, _, h1, h2, hne => by
    simp at h1 h2
    subst h1 h2
    rw [orderR]
    by_cases h : a < b
    · rw [if_pos h, if_pos h]
    · rw [if_neg h, if_neg h, if_pos (by omega)]
  | k + 1, [], _, x, y, _, h, _, _ => by simp at h
  | k + 1, _ :: _, [], x, y, _, _, h, _ => by simp at h
  | k + 1, a :: xs, b :: ys, x, y, he, h1, h2, hne => by
    have e := he 0 (by omega)
    simp at e
    subst e
    rw [orderR, if_neg (by omega), if_neg (by omega)]
    exact orderR_at k xs ys x y (fun j hj => by simpa using he (j + 1) (by omega)) (by simpa using h1) (by simpa using h2) hne
theorem orderR_self : ∀ xs : List Int, orderR xs xs = 0
  | [] => rfl
  | x :: xs => by rw [orderR, if_neg (by omega), if_neg (by omega), orderR_self xs]

/-- Domains of one value each. -/
def sing (v : Int) : List (Int × Int) := [(v, v)]
def sings (u : List Int) : Doms := u.map sing
theorem domAt_sings {u : List Int} {v : Int} (h0 : 0 ≤ v) (h : v.toNat < u.length) : domAt (sings u) v = sing (atR u v) := by
  unfold domAt sings atR
  rw [if_neg (by omega), List.getD_eq_getElem?_getD, List.getD_eq_getElem?_getD, List.getElem?_map, List.getElem?_eq_getElem h]
  rfl
theorem domCut_sing (v lo hi : Int) (h1 : lo ≤ hi) : domCut (sing v) lo hi = if lo ≤ v ∧ v ≤ hi then sing v else [] := by
  unfold domCut
  rw [if_neg (by omega)]
  simp only [sing]
  rw [meetR_cons, meetR_l, meetR_r]
  simp only [ite_self, List.append_nil]
  by_cases h : lo ≤ v ∧ v ≤ hi
  · rw [if_pos h, if_pos (by omega), show max v lo = v by omega, show min v hi = v by omega]
  · rw [if_neg h, if_neg (by omega)]
theorem knownB_sing (a b x y : Int) (h : a = b → x = y) : knownB a b (sing x) (sing y) = decide (x = y) := by
  simp only [knownB, sing, ofD, leastR, lastR, List.getLast?_singleton, List.length_singleton]
  by_cases e : x = y
  · subst e; simp
  · simp [e]; exact fun e2 => e (h e2)
/-- What is left where all is known. -/
theorem decides_step {u : List Int} {c : Con} (hv : VarsIn (sings u) c) (heven : c.vars.length % 2 = 0) (hb : ∀ v ∈ u, -1048576 ≤ v ∧ v ≤ 1048576) :
    stepO c (sings u) = .inl (if holds6 c.vars u then some (sings u) else none) := by
  have hh := half_le c
  have hl2 : c.vars.length = halfOf c + halfOf c := by unfold halfOf; omega
  have hul : (sings u).length = u.length := by simp [sings]
  have hp : ∀ k, k < halfOf c → pairO (sings u) c k = decide (atR u (varAt c k) = atR u (varAt c (halfOf c + k))) := by
    intro k hk
    have hv1 := hv.2 _ (varAt_mem (c := c) (k := k) (by omega))
    have hv2 := hv.2 _ (varAt_mem (c := c) (k := halfOf c + k) (by omega))
    rw [pairO, domAt_sings hv1.1 (by omega), domAt_sings hv2.1 (by omega), knownB_sing _ _ _ _ fun e => by rw [e]]
  have hx : ∀ k, k < halfOf c → ((pickedR c.vars u).take (c.vars.length / 2))[k]? = some (atR u (varAt c k)) := by
    intro k hk
    have e : c.vars.length / 2 = halfOf c := rfl
    rw [e, List.getElem?_take, if_pos hk, pickedR, List.getElem?_map, varAt, List.getD_eq_getElem?_getD, List.getElem?_eq_getElem (by omega)]
    rfl
  have hy : ∀ k, k < halfOf c → ((pickedR c.vars u).drop (c.vars.length / 2))[k]? = some (atR u (varAt c (halfOf c + k))) := by
    intro k hk
    have e : c.vars.length / 2 = halfOf c := rfl
    rw [e, List.getElem?_drop, pickedR, List.getElem?_map, varAt, List.getD_eq_getElem?_getD, List.getElem?_eq_getElem (by omega)]
    rfl
  have hxl : ((pickedR c.vars u).take (c.vars.length / 2)).length = halfOf c := by simp [pickedR, halfOf]; omega
  have hyl : ((pickedR c.vars u).drop (c.vars.length / 2)).length = halfOf c := by simp [pickedR, halfOf]; omega
  unfold stepO holds6
  by_cases hk : placeO (sings u) c = halfOf c
  · rw [if_pos hk]
    have e : (pickedR c.vars u).take (c.vars.length / 2) = (pickedR c.vars u).drop (c.vars.length / 2) := by
      refine List.ext_getElem? fun k => ?_
      by_cases hkl : k < halfOf c
      · have hb := placeF_before (p := pairO (sings u) c) (h := halfOf c) (j := k) (by unfold placeO at hk; omega)
        rw [hp k hkl] at hb
        rw [hx k hkl, hy k hkl, of_decide_eq_true hb]
      · rw [List.getElem?_eq_none (by omega), List.getElem?_eq_none (by omega)]
    rw [e, orderR_self]
    rfl
  · rw [if_neg hk]
    have hkl : placeO (sings u) c < halfOf c := by have := placeF_le (pairO (sings u) c) (halfOf c); unfold placeO at hk ⊢; omega
    have hn : pairO (sings u) c (placeO (sings u) c) = false := placeF_here hkl
    have hbf : ∀ j, j < placeO (sings u) c → pairO (sings u) c j = true := fun j hj => placeF_before hj
    generalize placeO (sings u) c = k at *
    have hv1 := hv.2 _ (varAt_mem (c := c) (k := k) (by omega))
    have hv2 := hv.2 _ (varAt_mem (c := c) (k := halfOf c + k) (by omega))
    rw [hp k hkl] at hn
    have hne := of_decide_eq_false hn
    have ho := orderR_at k _ _ _ _ (fun j hj => by
      have := hbf j hj
      rw [hp j (by omega)] at this
      rw [hx j (by omega), hy j (by omega), of_decide_eq_true this]) (hx k hkl) (hy k hkl) hne
    rw [ho]
    simp only
    rw [domAt_sings hv1.1 (by omega), domAt_sings hv2.1 (by omega)]
    have hbx : ∀ v : Int, 0 ≤ v → v.toNat < u.length → -1048576 ≤ atR u v ∧ atR u v ≤ 1048576 := by
      intro v h0 hl
      refine hb _ ?_
      unfold atR
      rw [if_neg (by omega), List.getD_eq_getElem?_getD, List.getElem?_eq_getElem hl]
      exact List.getElem_mem hl
    have b1 := hbx _ hv1.1 (by omega)
    have b2 := hbx _ hv2.1 (by omega)
    generalize atR u (varAt c k) = x at *
    generalize atR u (varAt c (halfOf c + k)) = y at *
    have e1 : lastR (sing y) = y := rfl
    have e2 : leastR (sing x) = x := rfl
    rw [e1, e2, domCut_sing _ _ _ b2.1, domCut_sing _ _ _ b1.2]
    by_cases hlt : x < y
    · have f1 : (if -1048576 ≤ x ∧ x ≤ y then sing x else []) = sing x := if_pos (by omega)
      have f2 : (if x ≤ y ∧ y ≤ 1048576 then sing y else []) = sing y := if_pos (by omega)
      rw [f1, f2, if_neg (by simp [sing]), if_pos ⟨rfl, rfl⟩, if_pos hlt]
      rfl
    · have f1 : (if -1048576 ≤ x ∧ x ≤ y then sing x else []) = [] := if_neg (by omega)
      rw [f1, if_pos (.inl rfl), if_neg hlt]
      rfl

theorem emptyV_iff {d : Doms} (hf : ∀ x ∈ d, Fine x) : emptyV d = true ↔ [] ∈ d := by
  unfold emptyV
  rw [List.any_eq_true]
  constructor
  · rintro ⟨x, hx, h⟩
    have := (vals_ne (hf x hx).ok).1 (by simpa using h)
    exact this ▸ hx
  · intro h
    exact ⟨[], h, rfl⟩
/-- Domains of at most one value each, none of them empty, and what is picked of them. -/
theorem pick_sings {d : Doms} (a : List Int) (hf : ∀ x ∈ d, Fine x) (h1 : ∀ x ∈ d, (vals x).length ≤ 1) (he : emptyV d = false) : d = sings (pickL d a) := by
  refine List.ext_getElem? fun i => ?_
  by_cases hi : i < d.length
  · have hx := List.getElem_mem hi
    have hne : (vals d[i]).length = 1 := by
      have h2 := h1 _ hx
      have h3 : (vals d[i]).isEmpty = false := by
        cases h4 : (vals d[i]).isEmpty with
        | false => rfl
        | true => rw [show emptyV d = true from List.any_eq_true.2 ⟨_, hx, h4⟩] at he; cases he
      cases hv : vals d[i] with
      | nil => rw [hv] at h3; cases h3
      | cons x l => rw [hv] at h2; simp at h2; subst h2; rfl
    obtain ⟨x, ex⟩ := (one_iff (hf _ hx).ok).1 hne
    have ev : vals d[i] = [x] := by rw [ex]; simp [vals, rng_self]
    have hg : d.getD i [] = d[i] := by simp [List.getD_eq_getElem?_getD, List.getElem?_eq_getElem hi]
    have hp : pickAt d a i = x := by
      unfold pickAt
      rw [hg, ev]
      have := (tmod_in (pickN_pos a i) (l := 1) (by omega)).2
      have e0 : ((pickN a i).tmod (([x] : List Int).length : Nat)).toNat = 0 := by simp only [List.length_singleton]; omega
      rw [e0]
      rfl
    rw [List.getElem?_eq_getElem hi, sings, List.getElem?_map, pickL, List.getElem?_map, List.getElem?_range hi]
    simp only [Option.map_some, hp, ex, sing]
  · rw [List.getElem?_eq_none (by omega), List.getElem?_eq_none (by simp [sings, pickL]; omega)]
theorem small_le (l : List Int) : (vals (smallR l)).length ≤ l.length := by
  have h0 : ((l.take 30).map fun v => v.tmod 201).length ≤ 30 ∧ ((l.take 30).map fun v => v.tmod 201).length ≤ l.length := by simp; omega
  have h1 := sortU_length ((l.take 30).map fun v => v.tmod 201)
  unfold smallR ofR
  split
  · rw [if_neg (by omega)]
    simp only
    rw [vals_pack (sortU_up _)]
    omega
  · simp [vals]
/-- A list and itself are in order. -/
def twiceC (c : Con) : Con := ⟨6, c.vars.take (halfOf c) ++ c.vars.take (halfOf c), [], 0, 0, [], 0⟩
theorem twice_len (c : Con) : (twiceC c).vars.length = 2 * halfOf c ∧ halfOf (twiceC c) = halfOf c := by
  have hh := half_le c
  have e : (twiceC c).vars.length = 2 * halfOf c := by simp [twiceC]; omega
  exact ⟨e, by rw [halfOf, e]; omega⟩
theorem twice_vars {d : Doms} {c : Con} (hv : VarsIn d c) : VarsIn d (twiceC c) := by
  have hh := half_le c
  refine ⟨by have := (twice_len c).1; have := hv.1; omega, fun v hm => hv.2 v ?_⟩
  rcases List.mem_append.1 hm with hm | hm <;> exact List.mem_of_mem_take hm
theorem twice_step {d : Doms} {c : Con} : stepO (twiceC c) d = .inl (some d) := by
  have hh := half_le c
  obtain ⟨h1, h2⟩ := twice_len c
  unfold stepO
  rw [if_pos]
  unfold placeO
  refine placeF_all fun j hj => ?_
  have e : varAt (twiceC c) j = varAt (twiceC c) (halfOf (twiceC c) + j) := by
    rw [h2] at hj ⊢
    unfold varAt twiceC
    simp only [List.getD_eq_getElem?_getD]
    rw [List.getElem?_append_left (by simp; omega), List.getElem?_append_right (by simp; omega)]
    congr 2
    simp
    omega
  rw [pairO, e]
  simp [knownB]
end Go.Proofs.Ytgkblgddpldpeaa
