/- Plain laws: of fewer pairs no less stays. -/
import Derived.Test.YtgkblgddpldpeaaPuC
namespace Go.Proofs.Ytgkblgddpldpeaa
open Go Go.RowKit
set_option linter.unusedVariables false

/-- What is left of out holds all of l. -/
def Holds (l out : Doms) : Prop := ∀ (i : Nat) x y, l[i]? = some x → out[i]? = some y → ∀ v ∈ vals x, v ∈ vals y

/-- A list of pairs that is another one's beginning. -/
structure Begin (s c : Con) : Prop where
  half : halfOf s ≤ halfOf c
  fst : ∀ k, k < halfOf s → varAt s k = varAt c k
  snd : ∀ k, k < halfOf s → varAt s (halfOf s + k) = varAt c (halfOf c + k)

theorem longer_cut {s c : Con} {d l out : Doms} (hb : Begin s c) (hvl : VarsIn l c) (hvo : VarsIn out s) (hl : Cutd d l) (hst : stepO c l = .inl (some l)) (ho : Cutd d out) (hh : Holds l out) (hk : placeO out s < halfOf s) :
    let a := varAt s (placeO out s)
    let b := varAt s (halfOf s + placeO out s)
    (∀ v ∈ vals (domAt l a), v ≤ lastR (domAt out b)) ∧ (∀ v ∈ vals (domAt l b), leastR (domAt out a) ≤ v) := by
  have hhs := half_le s
  have hhc := half_le c
  have hbh := hb.half
  have hp : pairO out s (placeO out s) = false := placeF_here hk
  have hbefore : ∀ j, j < placeO out s → pairO out s j = true := fun j hj => placeF_before hj
  generalize hkk : placeO out s = k at *
  have key : ∀ j, j ≤ k → (let a := varAt c j; let b := varAt c (halfOf c + j); Fine (domAt l a) ∧ Fine (domAt l b) ∧ Fine (domAt out a) ∧ Fine (domAt out b) ∧ domAt l a ≠ [] ∧ domAt l b ≠ [] ∧ (∀ v ∈ vals (domAt l a), v ∈ vals (domAt out a)) ∧ (∀ v ∈ vals (domAt l b), v ∈ vals (domAt out b))) := by
    intro j hj
    have hv1 := hvl.2 _ (varAt_mem (c := c) (k := j) (by omega))
    have hv2 := hvl.2 _ (varAt_mem (c := c) (k := halfOf c + j) (by omega))
    have e : out.length = l.length := by rw [ho.len, hl.len]
    have hw1 : (varAt c j).toNat < out.length := by rw [e]; exact hv1.2
    have hw2 : (varAt c (halfOf c + j)).toNat < out.length := by rw [e]; exact hv2.2
    exact ⟨hl.fine _ (domAt_mem hv1.2), hl.fine _ (domAt_mem hv2.2), ho.fine _ (domAt_mem hw1), ho.fine _ (domAt_mem hw2), hl.ne _ (domAt_mem hv1.2), hl.ne _ (domAt_mem hv2.2),
      hh _ _ _ (domAt_some hv1.2) (domAt_some hw1), hh _ _ _ (domAt_some hv2.2) (domAt_some hw2)⟩
  -- the pairs ahead of the place are known in l, too
  have known : ∀ j, j < k → pairO l c j = true := by
    intro j hj
    obtain ⟨f1, f2, f3, f4, n1, n2, s1, s2⟩ := key j (by omega)
    have h1 := hbefore j hj
    rw [pairO, hb.fst j (by omega), hb.snd j (by omega), knownB_iff f3.ok f4.ok] at h1
    rw [pairO, knownB_iff f1.ok f2.ok]
    refine h1.imp id fun ⟨h2, h3⟩ => ?_
    obtain ⟨x, hx⟩ := (one_iff f3.ok).1 h2
    have one : ∀ e : List (Int × Int), DomOk e → e ≠ [] → (∀ v ∈ vals e, v ∈ vals [(x, x)]) → e = [(x, x)] := by
      intro e he hne hs
      have hm := least_mem he hne
      have h4 := hs _ hm
      have hxx : vals [(x, x)] = [x] := by rw [vals_cons, rng_self]; rfl
      have hok : DomOk [(x, x)] := ⟨by simp, by simp⟩
      refine dom_ext he hok (up_ext (vals_up he) (vals_up hok) fun v => ⟨hs v, fun hv => ?_⟩)
      rw [hxx] at hv h4
      simp at hv h4
      rw [hv, ← h4]; exact hm
    have e1 := one _ f1.ok n1 (fun v hv => hx ▸ s1 v hv)
    have e2 := one _ f2.ok n2 (fun v hv => by rw [← hx, h3]; exact s2 v hv)
    exact ⟨(one_iff f1.ok).2 ⟨x, e1⟩, by rw [e1, e2]⟩
  obtain ⟨f1, f2, f3, f4, n1, n2, s1, s2⟩ := key k (Nat.le_refl _)
  rw [pairO, hb.fst k hk, hb.snd k hk] at hp
  have hab : varAt c k ≠ varAt c (halfOf c + k) := fun e => by rw [e] at hp; simp [knownB] at hp
  simp only [hb.fst k hk, hb.snd k hk]
  by_cases hpk : pairO l c k = true
  · rw [pairO, knownB_iff f1.ok f2.ok] at hpk
    obtain ⟨_, e⟩ := hpk.resolve_left hab
    exact ⟨fun v hv => le_last f4.ok (s2 v (e ▸ hv)), fun v hv => least_le f3.ok (s1 v (e.symm ▸ hv))⟩
  · have hpl : placeO l c = k := placeF_at (by omega) known (by simpa using hpk)
    unfold stepO at hst
    rw [hpl, if_neg (by omega)] at hst
    simp only at hst
    split at hst
    · simp at hst
    · split at hst
      · rename_i e
        refine ⟨fun v hv => ?_, fun v hv => ?_⟩
        · have e1 := (domCut_ok f1.ok (-1048576) (lastR (domAt l (varAt c (halfOf c + k))))).2 v
          rw [e.1] at e1
          have h5 := (e1.1 hv).2.2
          have h6 := le_last f4.ok (s2 _ (last_mem f2.ok n2))
          omega
        · have e1 := (domCut_ok f2.ok (leastR (domAt l (varAt c k))) 1048576).2 v
          rw [e.2] at e1
          have h5 := (e1.1 hv).2.1
          have h6 := least_le f3.ok (s1 _ (least_mem f1.ok n1))
          omega
      · cases hst

theorem Holds.set {l out : Doms} (h : Holds l out) {i : Nat} {x : List (Int × Int)} (hx : ∀ y, l[i]? = some y → ∀ v ∈ vals y, v ∈ vals x) : Holds l (out.set i x) := by
  intro j y z hy hz v hv
  by_cases e : i = j
  · subst e
    have hlt : i < (out.set i x).length := (List.getElem?_eq_some_iff.1 hz).1
    rw [List.getElem?_set_self (by simpa using hlt)] at hz
    obtain rfl := Option.some.inj hz
    exact hx y hy v hv
  · rw [List.getElem?_set_ne e] at hz
    exact h j y z hy hz v hv

theorem longer_step {s c : Con} {d l out : Doms} (hb : Begin s c) (hvl : VarsIn l c) (hvo : VarsIn out s) (hl : Cutd d l) (hst : stepO c l = .inl (some l)) (ho : Cutd d out) (hh : Holds l out) :
    (∀ next, stepO s out = .inr next → Holds l next) ∧ stepO s out ≠ .inl none := by
  by_cases hk : placeO out s = halfOf s
  · unfold stepO
    rw [if_pos hk]
    exact ⟨(fun next h => nomatch h), (fun h => nomatch h)⟩
  · have hkl : placeO out s < halfOf s := by have := placeF_le (pairO out s) (halfOf s); unfold placeO at hk ⊢; omega
    obtain ⟨h1, h2⟩ := longer_cut hb hvl hvo hl hst ho hh hkl
    have hhs := half_le s
    have hhc := half_le c
    have hbh := hb.half
    have hwo1 := hvo.2 _ (varAt_mem (c := s) (k := placeO out s) (by omega))
    have hwo2 := hvo.2 _ (varAt_mem (c := s) (k := halfOf s + placeO out s) (by omega))
    unfold stepO
    rw [if_neg hk]
    simp only
    generalize varAt s (placeO out s) = a at *
    generalize varAt s (halfOf s + placeO out s) = b at *
    have e : out.length = l.length := by rw [ho.len, hl.len]
    have hla : a.toNat < l.length := by rw [← e]; exact hwo1.2
    have hlb : b.toNat < l.length := by rw [← e]; exact hwo2.2
    have fa := ho.fine _ (domAt_mem hwo1.2)
    have fb := ho.fine _ (domAt_mem hwo2.2)
    have sa := hh _ _ _ (domAt_some hla) (domAt_some hwo1.2)
    have sb := hh _ _ _ (domAt_some hlb) (domAt_some hwo2.2)
    have hx : ∀ v ∈ vals (domAt l a), v ∈ vals (domCut (domAt out a) (-1048576) (lastR (domAt out b))) := fun v hv => ((domCut_ok fa.ok _ _).2 v).2 ⟨sa v hv, (fa.val v (sa v hv)).1, h1 v hv⟩
    have hy : ∀ v ∈ vals (domAt l b), v ∈ vals (domCut (domAt out b) (leastR (domAt out a)) 1048576) := fun v hv => ((domCut_ok fb.ok _ _).2 v).2 ⟨sb v hv, h2 v hv, (fb.val v (sb v hv)).2⟩
    have na := hl.ne _ (domAt_mem hla)
    have nb := hl.ne _ (domAt_mem hlb)
    have ga := hl.fine _ (domAt_mem hla)
    have gb := hl.fine _ (domAt_mem hlb)
    have hla' := domAt_some hla
    have hlb' := domAt_some hlb
    generalize domAt l a = la at *
    generalize domAt l b = lb at *
    generalize domCut (domAt out a) (-1048576) (lastR (domAt out b)) = x at *
    generalize domCut (domAt out b) (leastR (domAt out a)) 1048576 = y at *
    have nx : x ≠ [] := fun e => by have := hx _ (least_mem ga.ok na); rw [e] at this; simp [vals] at this
    have ny : y ≠ [] := fun e => by have := hy _ (least_mem gb.ok nb); rw [e] at this; simp [vals] at this
    rw [if_neg (by simp [nx, ny])]
    split
    · exact ⟨(fun next h => nomatch h), (fun h => nomatch h)⟩
    · refine ⟨fun next h => ?_, by simp⟩
      obtain rfl := Sum.inr.inj h
      refine (hh.set fun z hz v hv => ?_).set fun z hz v hv => ?_
      · rw [hla'] at hz; exact hx v (Option.some.inj hz ▸ hv)
      · rw [hlb'] at hz; exact hy v (Option.some.inj hz ▸ hv)

theorem longer_ex {s c : Con} {d l : Doms} (hb : Begin s c) (hvl : VarsIn l c) (hvs : VarsIn d s) (hf : ∀ x ∈ d, Fine x) (hl : Cutd d l) (hst : stepO c l = .inl (some l)) (he : [] ∉ d) {N : Nat} {R : Option Doms} (hR : iter (stepO s) N d = some R) : ∃ m, R = some m ∧ Cutd d m ∧ Holds l m := by
  have h0 : Cutd d d := ⟨rfl, hf, fun x hx e => he (e ▸ hx), fun i x y hx hy v hv => by rw [hx] at hy; exact Option.some.inj hy ▸ hv⟩
  obtain ⟨z, ⟨hz1, hz2, hz3⟩, hz⟩ := iter_end (step := stepO s) (fun x => Cutd d x ∧ VarsIn x s ∧ Holds l x) (fun x y hi hs => by
    have h1 := stepO_inr hi.2.1 hi.1 hs
    exact ⟨h1.1, h1.2.1, (longer_step hb hvl hi.2.1 hl hst hi.1 hi.2.2).1 y hs⟩) N d R ⟨h0, hvs, fun i x y hx hy => hl.sub i x y hx hy⟩ hR
  have hn := (longer_step hb hvl hz2 hl hst hz1 hz3).2
  cases R with
  | none => exact absurd hz hn
  | some m =>
    have : m = z := by
      unfold stepO at hz
      split at hz
      · simpa using hz.symm
      · simp only at hz
        split at hz
        · simp at hz
        · split at hz
          · simpa using hz.symm
          · cases hz
    subst this
    exact ⟨m, rfl, hz1, hz3⟩
theorem within_holds {l m : Doms} (hlen : l.length = m.length) (h : Holds l m) : withinR l m = true := by
  rw [withinR_iff]
  refine ⟨hlen, fun i x y hx hy => ?_⟩
  have hs := h i x y hx hy
  have : (vals x).filter (fun v => decide (v ∈ vals y) == false) = [] := by
    rw [List.filter_eq_nil_iff]
    intro v hv
    simp [hs v hv]
  rw [pickR, this]; rfl
end Go.Proofs.Ytgkblgddpldpeaa
