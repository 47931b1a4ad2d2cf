/- Plain laws: steps that come to an end; what the program's pruner of two lists leaves. -/
import Derived.Test.YtchajofdjeijfaaPuB
namespace Go.Proofs.Ytchajofdjeijfaa
open Go Go.RowKit
set_option linter.unusedVariables false

theorem iter_ex {α β : Type} {step : α → β ⊕ α} (Inv : α → Prop) (μ : α → Nat) (h : ∀ x y, Inv x → step x = .inr y → Inv y ∧ μ y < μ x) : ∀ x, Inv x → ∃ N R, iter step N x = some R := by
  have key : ∀ n x, μ x = n → Inv x → ∃ N R, iter step N x = some R := by
    intro n
    induction n using Nat.strongRecOn with
    | _ n ih =>
      intro x hx hi
      cases e : step x with
      | inl b => exact ⟨1, b, by simp [iter, e]⟩
      | inr y =>
        obtain ⟨h1, h2⟩ := h x y hi e
        obtain ⟨N, R, hR⟩ := ih (μ y) (hx ▸ h2) y rfl h1
        exact ⟨N + 1, R, by simp [iter, e, hR]⟩
  exact fun x hi => key _ x rfl hi
theorem iter_end {α β : Type} {step : α → β ⊕ α} (Inv : α → Prop) (h : ∀ x y, Inv x → step x = .inr y → Inv y) : ∀ (N : Nat) (x : α) (R : β), Inv x → iter step N x = some R → ∃ z, Inv z ∧ step z = .inl R
  | 0, x, R, _, e => by cases e
  | n + 1, x, R, hi, e => by
    cases hs : step x with
    | inl b => simp only [iter, hs, Option.some.injEq] at e; exact ⟨x, hi, by rw [hs, e]⟩
    | inr y => simp only [iter, hs] at e; exact iter_end Inv h n y R (h x y hi hs) e
/-- Two steps that do the same come to the same. -/
theorem iter_same {α β : Type} {s1 s2 : α → β ⊕ α} (Inv : α → Prop) (h : ∀ x y, Inv x → s1 x = .inr y → Inv y) (he : ∀ x, Inv x → s1 x = s2 x) : ∀ (N : Nat) (x : α), Inv x → iter s1 N x = iter s2 N x
  | 0, _, _ => rfl
  | n + 1, x, hi => by
    simp only [iter, ← he x hi]
    cases hs : s1 x with
    | inl b => rfl
    | inr y => exact iter_same Inv h he n y (h x y hi hs)

def weight (d : Doms) : Nat := (d.map fun x => (vals x).length).sum
theorem weight_set : ∀ {d : Doms} {i : Nat} {y : List (Int × Int)} (x : List (Int × Int)), d[i]? = some y → weight (d.set i x) + (vals y).length = weight d + (vals x).length
  | [], i, y, x, h => by simp at h
  | z :: d, 0, y, x, h => by
    simp at h; subst h
    simp only [List.set_cons_zero, weight, List.map_cons, List.sum_cons]; omega
  | z :: d, i + 1, y, x, h => by
    have := weight_set (d := d) (i := i) x (by simpa using h)
    simp only [List.set_cons_succ, weight, List.map_cons, List.sum_cons] at this ⊢; omega
theorem sub_lt {d d' : List (Int × Int)} (h : DomOk d) (h' : DomOk d') (hs : ∀ v ∈ vals d', v ∈ vals d) : (vals d').length ≤ (vals d).length ∧ (d' ≠ d → (vals d').length < (vals d).length) := by
  have hle := up_length_le (vals_up h') hs
  refine ⟨hle, fun hne => Nat.lt_of_le_of_ne hle fun e => hne ?_⟩
  refine dom_ext h' h (up_ext (vals_up h') (vals_up h) fun v => ⟨hs v, fun hv => ?_⟩)
  refine Classical.byContradiction fun hn => ?_
  have h1 : (v :: vals d').Nodup := List.nodup_cons.2 ⟨hn, up_nodup (vals_up h')⟩
  have h2 : (v :: vals d').length ≤ (vals d).length := h1.length_le_of_subset fun w hw => by
    rcases List.mem_cons.1 hw with rfl | hw
    · exact hv
    · exact hs w hw
  simp at h2; omega

/-- Domains made smaller, none of them empty. -/
structure Cutd (d out : Doms) : Prop where
  len : out.length = d.length
  fine : ∀ x ∈ out, Fine x
  ne : ∀ x ∈ out, x ≠ []
  sub : ∀ (i : Nat) x y, out[i]? = some x → d[i]? = some y → ∀ v ∈ vals x, v ∈ vals y

theorem Cutd.set {d out : Doms} (h : Cutd d out) {i : Nat} {x y : List (Int × Int)} (hy : out[i]? = some y) (hx : DomOk x) (hne : x ≠ []) (hs : ∀ v ∈ vals x, v ∈ vals y) : Cutd d (out.set i x) := by
  have hym := List.mem_of_getElem? hy
  refine ⟨by simp [h.len], fun z hz => ?_, fun z hz => ?_, fun j z w hz hw v hv => ?_⟩
  · rcases List.mem_or_eq_of_mem_set hz with hz | rfl
    · exact h.fine z hz
    · exact (h.fine y hym).cut hx hs
  · rcases List.mem_or_eq_of_mem_set hz with hz | rfl
    · exact h.ne z hz
    · exact hne
  · by_cases e : i = j
    · subst e
      have hlt := (List.getElem?_eq_some_iff.1 hy).1
      rw [List.getElem?_set_self hlt] at hz
      obtain rfl := Option.some.inj hz
      exact h.sub i y w hy hw v (hs v hv)
    · rw [List.getElem?_set_ne e] at hz
      exact h.sub j z w hz hw v hv

theorem stepO_inr {c : Con} {d out next : Doms} (hv : VarsIn out c) (h : Cutd d out) (hs : stepO c out = .inr next) : Cutd d next ∧ VarsIn next c ∧ weight next < weight out := by
  have hh := half_le c
  unfold stepO at hs
  split at hs
  · cases hs
  · rename_i hk
    have hkl : placeO out c < halfOf c := by have := placeF_le (pairO out c) (halfOf c); unfold placeO at hk ⊢; omega
    have hp : pairO out c (placeO out c) = false := placeF_here hkl
    have hv1 := hv.2 _ (varAt_mem (c := c) (k := placeO out c) (by omega))
    have hv2 := hv.2 _ (varAt_mem (c := c) (k := halfOf c + placeO out c) (by omega))
    have hab : varAt c (placeO out c) ≠ varAt c (halfOf c + placeO out c) := fun e => by rw [pairO, e] at hp; simp [knownB] at hp
    simp only at hs
    generalize varAt c (placeO out c) = a at *
    generalize varAt c (halfOf c + placeO out c) = b at *
    have ha := domAt_some hv1.2
    have hb := domAt_some hv2.2
    have fa := h.fine _ (domAt_mem hv1.2)
    have fb := h.fine _ (domAt_mem hv2.2)
    generalize domAt out a = da at *
    generalize domAt out b = db at *
    obtain ⟨x1, x2⟩ := domCut_ok fa.ok (-1048576) (lastR db)
    obtain ⟨y1, y2⟩ := domCut_ok fb.ok (leastR da) 1048576
    generalize domCut da (-1048576) (lastR db) = x at *
    generalize domCut db (leastR da) 1048576 = y at *
    split at hs
    · cases hs
    · rename_i hne
      split at hs
      · cases hs
      · rename_i hns
        obtain rfl := Sum.inr.inj hs
        have hsx : ∀ v ∈ vals x, v ∈ vals da := fun v hv => ((x2 v).1 hv).1
        have hsy : ∀ v ∈ vals y, v ∈ vals db := fun v hv => ((y2 v).1 hv).1
        have hne' : a.toNat ≠ b.toNat := by omega
        have hb' : (out.set a.toNat x)[b.toNat]? = some db := by rw [List.getElem?_set_ne hne']; exact hb
        refine ⟨(h.set ha x1 (fun e => hne (.inl e)) hsx).set hb' y1 (fun e => hne (.inr e)) hsy, (hv.set _ _).set _ _, ?_⟩
        have w1 := weight_set x ha
        have w2 := weight_set y hb'
        have l1 := sub_lt fa.ok x1 hsx
        have l2 := sub_lt fb.ok y1 hsy
        by_cases e1 : x = da
        · have e2 : y ≠ db := fun e => hns ⟨e1, e⟩
          have := l2.2 e2
          subst e1; omega
        · have := l1.2 e1
          omega

/-- What the program's pruner answers. -/
theorem pruneO_ex {c : Con} {d : Doms} (hv : VarsIn d c) (hf : ∀ x ∈ d, Fine x) : ∃ R N, (if [] ∈ d then R = none else iter (stepO c) N d = some R) ∧ (∀ out, R = some out → Cutd d out ∧ stepO c out = .inl (some out)) := by
  by_cases he : [] ∈ d
  · exact ⟨none, 0, by rw [if_pos he], fun out h => by cases h⟩
  · have h0 : Cutd d d := ⟨rfl, hf, fun x hx e => he (e ▸ hx), fun i x y hx hy v hv => by rw [hx] at hy; exact Option.some.inj hy ▸ hv⟩
    have hst : ∀ x y, (Cutd d x ∧ VarsIn x c) → stepO c x = .inr y → (Cutd d y ∧ VarsIn y c) ∧ weight y < weight x := fun x y hi hs => by
      have := stepO_inr hi.2 hi.1 hs
      exact ⟨⟨this.1, this.2.1⟩, this.2.2⟩
    obtain ⟨N, R, hR⟩ := iter_ex (step := stepO c) (fun x => Cutd d x ∧ VarsIn x c) weight hst d ⟨h0, hv⟩
    refine ⟨R, N, by rw [if_neg he]; exact hR, fun out h => ?_⟩
    obtain ⟨z, hz, hs⟩ := iter_end (fun x => Cutd d x ∧ VarsIn x c) (fun x y hi hs => (hst x y hi hs).1) N d R ⟨h0, hv⟩ hR
    have : z = out := by
      subst h
      unfold stepO at hs
      split at hs
      · simpa using hs
      · simp only at hs
        split at hs
        · simp at hs
        · split at hs
          · simpa using hs
          · cases hs
    subst this
    rw [h] at hs
    exact ⟨hz.1, hs⟩

/-- At the first place the one's values stand at most at the other's greatest, and so on. -/
theorem pruneO_first {c : Con} {d out : Doms} (hv : VarsIn out c) (h : Cutd d out) (hs : stepO c out = .inl (some out)) (h2 : 2 ≤ c.vars.length) :
    lastR (domAt out (varAt c 0)) ≤ lastR (domAt out (varAt c (halfOf c))) ∧ leastR (domAt out (varAt c 0)) ≤ leastR (domAt out (varAt c (halfOf c))) := by
  have hh := half_le c
  have hpos : 0 < halfOf c := by unfold halfOf; omega
  have hv1 := hv.2 _ (varAt_mem (c := c) (k := 0) (by omega))
  have hv2 := hv.2 _ (varAt_mem (c := c) (k := halfOf c) (by omega))
  have fa := h.fine _ (domAt_mem hv1.2)
  have fb := h.fine _ (domAt_mem hv2.2)
  have na := h.ne _ (domAt_mem hv1.2)
  have nb := h.ne _ (domAt_mem hv2.2)
  by_cases hk : 0 < placeO out c
  · have hp : pairO out c 0 = true := placeF_before hk
    rw [pairO, Nat.add_zero, knownB_iff fa.ok fb.ok] at hp
    rcases hp with e | ⟨_, e⟩
    · rw [e]; exact ⟨Int.le_refl _, Int.le_refl _⟩
    · rw [e]; exact ⟨Int.le_refl _, Int.le_refl _⟩
  · have hk0 : placeO out c = 0 := by omega
    unfold stepO at hs
    rw [hk0] at hs
    rw [if_neg (by omega)] at hs
    simp only [Nat.add_zero] at hs
    generalize domAt out (varAt c 0) = da at *
    generalize domAt out (varAt c (halfOf c)) = db at *
    split at hs
    · simp at hs
    · split at hs
      · rename_i e
        have e1 := (domCut_ok fa.ok (-1048576) (lastR db)).2 (lastR da)
        have e2 := (domCut_ok fb.ok (leastR da) 1048576).2 (leastR db)
        rw [e.1] at e1
        rw [e.2] at e2
        exact ⟨(e1.1 (last_mem fa.ok na)).2.2, (e2.1 (least_mem fb.ok nb)).2.1⟩
      · cases hs
theorem within_cutd {d out : Doms} (h : Cutd d out) : withinR out d = true := by
  rw [withinR_iff]
  refine ⟨h.len, fun i x y hx hy => ?_⟩
  have hs := h.sub i x y hx hy
  have : (vals x).filter (fun v => decide (v ∈ vals y) == false) = [] := by
    rw [List.filter_eq_nil_iff]
    intro v hv
    simp [hs v hv]
  rw [pickR, this]; rfl
end Go.Proofs.Ytchajofdjeijfaa
