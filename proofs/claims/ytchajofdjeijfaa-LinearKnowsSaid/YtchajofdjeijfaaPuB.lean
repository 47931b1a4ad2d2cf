/- Plain laws: the domains of a case. -/
import Derived.Test.YtchajofdjeijfaaPuA
namespace Go.Proofs.Ytchajofdjeijfaa
open Go Go.RowKit
set_option linter.unusedVariables false

theorem smallR_ok (l : List Int) : DomOk (smallR l) ∧ (∀ v ∈ vals (smallR l), -200 ≤ v ∧ v ≤ 200) ∧ (vals (smallR l)).length ≤ 30 := by
  have hm : ∀ v ∈ (l.take 30).map (fun v => v.tmod 201), -200 ≤ v ∧ v ≤ 200 := by
    intro v hv
    obtain ⟨w, _, rfl⟩ := List.mem_map.1 hv
    have h1 := Int.tmod_lt_of_pos w (show (0 : Int) < 201 by decide)
    have h2 := Int.lt_tmod_of_pos w (show (0 : Int) < 201 by decide)
    omega
  have h0 : ((l.take 30).map fun v => v.tmod 201).length ≤ 30 := by simp; omega
  have h1 := sortU_length ((l.take 30).map fun v => v.tmod 201)
  have hok : okV ((l.take 30).map fun v => v.tmod 201) = true := by
    simp only [okV, List.all_eq_true]
    intro v hv
    have := hm v hv
    simp [valueB]; omega
  have hu := sortU_up ((l.take 30).map fun v => v.tmod 201)
  have e : smallR l = pack (sortU ((l.take 30).map fun v => v.tmod 201)) := by
    unfold smallR ofR
    rw [if_pos hok, if_neg (by omega)]
  rw [e, vals_pack hu]
  exact ⟨pack_ok hu, fun v hv => hm v ((sortU_mem v _).1 hv), by omega⟩

theorem dom_inB {d : List (Int × Int)} (h : DomOk d) (hv : ∀ v ∈ vals d, -1048576 ≤ v ∧ v ≤ 1048576) : InB d := by
  intro r hr
  have h1 := h.1 r hr
  have h2 := hv r.1 (mem_vals.2 ⟨r, hr, Int.le_refl _, h1⟩)
  have h3 := hv r.2 (mem_vals.2 ⟨r, hr, h1, Int.le_refl _⟩)
  omega
theorem dom_length_le : ∀ {d : List (Int × Int)}, DomOk d → d.length ≤ (vals d).length
  | [], _ => by simp
  | r :: d, h => by
    have := dom_length_le h.tail
    have hr := h.1 r (.head _)
    rw [vals_cons, rng_cons hr]
    simp only [List.length_cons, List.length_append]; omega
/-- Domains that all contracts let in. -/
structure Fine (d : List (Int × Int)) : Prop where
  ok : DomOk d
  val : ∀ v ∈ vals d, -1048576 ≤ v ∧ v ≤ 1048576
  few : (vals d).length * 16 + 1048576 ≤ 140737488355328
theorem Fine.domB {d : List (Int × Int)} (h : Fine d) : DomB d := ⟨dom_inB h.ok h.val, by have := h.few; omega, by have := h.few; have := dom_length_le h.ok; omega⟩
theorem Fine.len {d : List (Int × Int)} (h : Fine d) : d.length * 16 + 1048576 ≤ 140737488355328 := by have := h.few; have := dom_length_le h.ok; omega
theorem up_length_le {l l' : List Int} (h : Up l) (hs : ∀ v ∈ l, v ∈ l') : l.length ≤ l'.length := (up_nodup h).length_le_of_subset hs
theorem Fine.cut {d d' : List (Int × Int)} (h : Fine d) (h' : DomOk d') (hs : ∀ v ∈ vals d', v ∈ vals d) : Fine d' :=
  ⟨h', fun v hv => h.val v (hs v hv), by have := h.few; have := up_length_le (vals_up h') hs; omega⟩
theorem small_fine (l : List Int) : Fine (smallR l) := by
  obtain ⟨h1, h2, h3⟩ := smallR_ok l
  exact ⟨h1, fun v hv => by have := h2 v hv; omega, by omega⟩
theorem laid_fine (o : Case) : ∀ x ∈ laidD o, Fine x := by
  intro x hx
  obtain ⟨y, _, rfl⟩ := List.mem_map.1 hx
  exact small_fine _
theorem laid_len (o : Case) : (laidD o).length ≤ 4 := by simp [laidD]; omega

theorem placeF_before {p : Nat → Bool} {h j : Nat} (hj : j < placeF p h) : p j = true := by
  unfold placeF at hj
  cases hf : (List.range h).find? (fun k => !p k) with
  | none =>
    rw [hf] at hj
    have := List.find?_eq_none.1 hf j (List.mem_range.2 (by simpa using hj))
    simpa using this
  | some k =>
    rw [hf] at hj
    have := (List.find?_range_eq_some.1 hf).2.2 j (by simpa using hj)
    simpa using this
theorem placeF_here {p : Nat → Bool} {h : Nat} (hlt : placeF p h < h) : p (placeF p h) = false := by
  unfold placeF at hlt ⊢
  cases hf : (List.range h).find? (fun k => !p k) with
  | none => rw [hf] at hlt; simp at hlt
  | some k =>
    have := (List.find?_range_eq_some.1 hf).1
    simpa using this

/-- What a right constraint of a case is. -/
theorem con_in {d : Doms} {c : Con} (hc : ConB c) (h : conR d c = 0) : VarsIn d c ∧ rightR d c = true := by
  unfold conR at h
  split at h
  · cases h
  · split at h
    · cases h
    · rename_i hu
      split at h
      · cases h
      · rename_i hr
        exact ⟨(uses_in hc (by simpa using hu)).1, by simpa using hr⟩
theorem lex_in {d : Doms} {c : Con} (hc : ConB c) (h : conR d c = 0) (hk : c.kind = 6) : VarsIn d c ∧ 2 ≤ c.vars.length ∧ c.vars.length % 2 = 0 := by
  obtain ⟨h1, h2⟩ := con_in hc h
  refine ⟨h1, ?_⟩
  simp [rightR, hk] at h2
  exact ⟨h2.1.2, h2.2⟩
theorem laid_conB {o : Case} (h : CaseB o) (kind : Int) : ConB (laidC o kind) :=
  ⟨h.1.1, h.1.2.1, by simp [laidC]; have := h.1.2.2.1; omega, fun x hx => h.1.2.2.2 x (List.mem_of_mem_take hx)⟩
end Go.Proofs.Ytchajofdjeijfaa
