/- The entry: what a row hands in, as pure values. -/
import Derived.Test.YtchajofdjeijfaaCoreP
import Derived.ChangeSlices
import Derived.ChangeArms
import Derived.SizedLaws
import Derived.DataElems
namespace Go.Proofs.Ytchajofdjeijfaa
open Go Go.RowKit
set_option linter.unusedVariables false
set_option linter.unusedSimpArgs false

theorem nf {w : World} {ps qs : List MemPlace} (h : w.noneFrozen ps) (hs : ∀ p ∈ qs, p ∈ ps) : ∀ p ∈ qs, MemPlace.frozenIn w p = false := by
  intro p hp
  cases p with
  | cell b off => exact h _ _ (hs _ hp)
  | map b => rfl
/-- Data of a type, handed in, read as pure values, and lie within reach. -/
def Opens {H : Type} (henc : TypeId × Value → H) (P : Program) (w : World) (t : TypeId) {α : Type} (enc : α → List PV) (good : α → Prop) : Prop :=
  ∀ (fuel : Nat) (cs : List Value) (x : DataW H × List MemPlace), DataW.trod henc P w 0 (fun _ => true) true fuel t cs = some x → (DataW.weights P t x.1).all (· ≤ reachBytes) = true → (∀ p ∈ x.2, MemPlace.frozenIn w p = false) →
    ∃ a, L2 (Rep w fun _ => True) cs (enc a) ∧ good a

section
variable {H : Type} {henc : TypeId × Value → H} {P : Program} {w : World}

theorem opens_int {t : TypeId} (hu : P.underlying t = some (.int .i64)) : Opens henc P w t cI (fun n => -9223372036854775808 ≤ n ∧ n ≤ 9223372036854775807) := by
  intro fuel cs x h _ _
  obtain ⟨n, rfl, _, hw⟩ := DataW.trod_int hu h
  refine ⟨n, .cons (.int _ _) .nil, ?_⟩
  simp only [Lit.wf, Bool.and_eq_true, decide_eq_true_eq] at hw
  exact hw

theorem opens_slice {t e : TypeId} {α : Type} {enc : α → List PV} {good : α → Prop} (hu : P.underlying t = some (.slice e)) (ho : Opens henc P w e enc good) (hl : ∀ a, (enc a).length = P.cellsOf e) (hpos : 0 < P.cellsOf e) (h1 : ∀ a, ∀ p ∈ enc a, p.one = true) :
    Opens henc P w t (fun l : List α => [.sl (l.map enc)]) (fun l => l.length * P.bytesOf e ≤ reachBytes ∧ ∀ a ∈ l, good a) := by
  intro fuel cs x h hw hpl
  rcases DataW.trod_slice hu h with ⟨rfl, rfl⟩ | ⟨a, len, cap, elems, rest, n, rfl, rfl, rfl, _, hlc, hcm, hlen, hel, _, _⟩
  · exact ⟨[], .cons .nilsl .nil, by simp, by simp⟩
  · simp only [DataW.weights, hu, List.all_cons, List.all_append, Bool.and_eq_true, decide_eq_true_eq] at hw
    obtain ⟨hb, hwe, _⟩ := hw
    have hwall : ∀ (l : List (DataW H × List MemPlace)), (DataW.weightsAll P e (l.map (·.1))).all (· ≤ reachBytes) = true → ∀ y ∈ l, (DataW.weights P e y.1).all (· ≤ reachBytes) = true := by
      intro l
      induction l with
      | nil => intro _ y hy; cases hy
      | cons z l ih =>
        intro hz y hy
        simp only [List.map_cons, DataW.weightsAll, List.all_append, Bool.and_eq_true] at hz
        rcases List.mem_cons.1 hy with rfl | hy
        · exact hz.1
        · exact ih hz.2 y hy
    have each : ∀ i, i < len → ∃ (ys : List Value) (b : α), w.cells? 0 (a.add (i * P.cellsOf e)) (P.cellsOf e) = some ys ∧ L2 (Rep w fun _ => True) ys (enc b) ∧ good b := by
      intro i hi
      have h2 := hel i hi
      have hi' : i < elems.length := by omega
      rw [List.getElem?_eq_getElem hi', Option.bind_eq_some_iff] at h2
      obtain ⟨ys, h3, h4⟩ := h2
      obtain ⟨b, h5, h6⟩ := ho n ys _ h4 (hwall elems hwe _ (List.getElem_mem hi')) (fun p hp => hpl p (List.mem_append_right _ (List.mem_flatMap.2 ⟨_, List.mem_append_left _ (List.getElem_mem hi'), hp⟩)))
      exact ⟨ys, b, h3, h5, h6⟩
    have all_ : ∀ k, k ≤ len → ∃ (xs : List Value) (l : List α), l.length = k ∧ L2 (Rep w fun _ => True) xs (l.map enc).flatten ∧ (∀ b ∈ l, good b) ∧ ∀ j v, xs[j]? = some v → w.cell? (a.add j) = some v := by
      intro k
      induction k with
      | zero => intro _; exact ⟨[], [], rfl, .nil, by simp, by simp⟩
      | succ k ih =>
        intro hk
        obtain ⟨xs, l, h2, h3, h4, h5⟩ := ih (by omega)
        obtain ⟨ys, b, h6, h7, h8⟩ := each k (by omega)
        obtain ⟨_, h9, h10⟩ := World.cells?_some h6
        have hxl : xs.length = k * P.cellsOf e := by
          rw [h3.length, ← h2]
          clear h2 h3 h4
          induction l with
          | nil => simp
          | cons c l ih => simp [ih, hl, Nat.add_mul, Nat.add_comm]
        refine ⟨xs ++ ys, l ++ [b], by simp [h2], ?_, fun c hc => ?_, fun j v hj => ?_⟩
        · rw [List.map_append, List.flatten_append]
          exact h3.append (by simpa using h7)
        · rcases List.mem_append.1 hc with hc | hc
          · exact h4 c hc
          · simp at hc; subst hc; exact h8
        · by_cases hlt : j < xs.length
          · rw [List.getElem?_append_left hlt] at hj
            exact h5 j v hj
          · rw [List.getElem?_append_right (by omega)] at hj
            have hjl := (List.getElem?_eq_some_iff.1 hj).1
            have := h10 (j - xs.length) (by omega)
            rw [hj] at this
            rw [← this, Addr.add_add]
            congr 2
            omega
    obtain ⟨xs, l, h2, h3, h4, h5⟩ := all_ len (Nat.le_refl _)
    refine ⟨l, .cons ?_ .nil, ?_, h4⟩
    · cases hln : l with
      | nil =>
        have e0 : len = 0 := by rw [← h2, hln]; rfl
        rw [e0]
        exact .slE a cap hcm
      | cons b l' =>
        have hfl : ((l.map enc).flatten).length = l.length * P.cellsOf e := by
          have : ∀ l : List α, ((l.map enc).flatten).length = l.length * P.cellsOf e := by
            intro l
            induction l with
            | nil => simp
            | cons c l ih => simp [ih, hl, Nat.add_mul, Nat.add_comm]
          exact this l
        · have hx0 : 0 < xs.length := by
            rw [h3.length, hfl, hln]
            simp only [List.length_cons, Nat.add_mul]
            omega
          have hcell := h5 0 xs[0] (List.getElem?_eq_getElem hx0)
          have ha : (a.add 0) = a := by unfold Addr.add; rw [if_pos rfl]
          rw [ha] at hcell
          have hspot : a.spot = none ∧ a.block < w.heap.size := by
            unfold World.cell? at hcell
            split at hcell
            · rename_i c et m hheap
              refine ⟨?_, (Array.getElem?_eq_some_iff.1 hheap).1⟩
              split at hcell
              · cases hcell
              · rename_i hs
                cases hsp : a.spot with
                | none => rfl
                | some k => rw [hsp] at hs; simp at hs
            · cases hcell
          obtain ⟨blk, off, spot⟩ := a
          simp only at hspot
          obtain ⟨rfl, hlt⟩ := hspot
          rw [← hln]
          have := Rep.sl (w := w) (Z := fun _ => True) blk off cap (P.cellsOf e) (l.map enc) xs trivial hlt (fun r hr => by obtain ⟨c, _, rfl⟩ := List.mem_map.1 hr; exact hl c) (fun r hr => by obtain ⟨c, _, rfl⟩ := List.mem_map.1 hr; exact h1 c)
            (fun j v hj => by
              have hfz := hpl (.cell blk (off + j)) (List.mem_append_left _ (List.mem_map.2 ⟨j, List.mem_range.2 (by
                have := (List.getElem?_eq_some_iff.1 hj).1
                rw [h3.length, hfl, h2] at this
                have e3 : elems.length * P.cellsOf e ≤ (elems.length + rest.length) * P.cellsOf e := Nat.mul_le_mul_right _ (by omega)
                rw [← hlen] at this
                omega), rfl⟩))
              have := h5 j v hj
              have e : (⟨blk, off, none⟩ : Addr).add j = ⟨blk, off + j, none⟩ := by unfold Addr.add; split <;> simp_all
              rw [e] at this
              exact ⟨this, hfz⟩) (by simp; omega) hcm h3
          rw [List.length_map, h2] at this
          exact this
    · simp only [List.length_map] at hb
      rw [h2, ← hlen]
      exact Nat.le_trans (Nat.mul_le_mul_right _ (by omega)) hb

/-- Fields one behind the other, from a place on. -/
def OpensL {H : Type} (henc : TypeId × Value → H) (P : Program) (w : World) (off : Nat) (fs : List Field) {α : Type} (enc : α → List PV) (good : α → Prop) : Prop :=
  ∀ (fuel : Nat) (cs : List Value) (xs : List (DataW H × List MemPlace)), (∀ (i : Nat) (f : Field), fs[i]? = some f → DataW.trod henc P w 0 (fun _ => true) true fuel f.type ((cs.drop f.offset).take (P.cellsOf f.type)) = xs[i]?) → xs.length = fs.length →
    (DataW.weightsEach P (fs.map (·.type)) (xs.map (·.1))).all (· ≤ reachBytes) = true → cs.length = off + (fs.map fun f => P.cellsOf f.type).sum → (∀ p ∈ xs.flatMap (·.2), MemPlace.frozenIn w p = false) → ∃ a, L2 (Rep w fun _ => True) (cs.drop off) (enc a) ∧ good a

theorem opensL_nil (off : Nat) : OpensL henc P w off [] (fun _ : Unit => []) (fun _ => True) := by
  intro fuel cs xs _ _ _ hl _
  refine ⟨(), ?_, trivial⟩
  rw [List.drop_of_length_le (by simp at hl; omega)]
  exact .nil
theorem opensL_cons {off : Nat} {f : Field} {fs : List Field} {α β : Type} {enc : α → List PV} {good : α → Prop} {enc2 : β → List PV} {good2 : β → Prop} (ho : Opens henc P w f.type enc good) (hf : f.offset = off) (hr : OpensL henc P w (off + P.cellsOf f.type) fs enc2 good2) :
    OpensL henc P w off (f :: fs) (fun x : α × β => enc x.1 ++ enc2 x.2) (fun x => good x.1 ∧ good2 x.2) := by
  intro fuel cs xs hx hlen hw hl hpl
  cases xs with
  | nil => simp at hlen
  | cons x xs =>
    simp only [List.map_cons, DataW.weightsEach, List.all_append, Bool.and_eq_true] at hw
    have h0 := hx 0 f rfl
    simp only [List.getElem?_cons_zero, hf] at h0
    simp only [List.flatMap_cons, List.mem_append] at hpl
    obtain ⟨a, h1, h2⟩ := ho fuel _ x h0 hw.1 (fun p hp => hpl p (.inl hp))
    simp only [List.map_cons, List.sum_cons] at hl
    obtain ⟨b, h3, h4⟩ := hr fuel cs xs (fun i g hg => by simpa using hx (i + 1) g (by simpa using hg)) (by simpa using hlen) hw.2 (by omega) (fun p hp => hpl p (.inr hp))
    refine ⟨(a, b), ?_, h2, h4⟩
    have e : cs.drop off = (cs.drop off).take (P.cellsOf f.type) ++ cs.drop (off + P.cellsOf f.type) := by
      rw [← List.drop_drop, List.take_append_drop]
    rw [e]
    exact h1.append h3
theorem opens_struct {t : TypeId} {fs : Array Field} {α : Type} {enc : α → List PV} {good : α → Prop} (hu : P.underlying t = some (.struct fs)) (ho : OpensL henc P w 0 fs.toList enc good) (hs : P.cellsOf t = (fs.toList.map fun f => P.cellsOf f.type).sum) : Opens henc P w t enc good := by
  intro fuel cs x h hw hpl
  obtain ⟨xs, n, rfl, rfl, hl, hxl, hx⟩ := DataW.trod_struct hu h
  simp only [DataW.weights, hu] at hw
  obtain ⟨a, h1, h2⟩ := ho n cs xs (fun i f hf => hx i f (by simpa using hf)) (by simpa using hxl) hw (by omega) hpl
  exact ⟨a, by simpa using h1, h2⟩
theorem Opens.map {t : TypeId} {α β : Type} {enc : α → List PV} {good : α → Prop} {enc2 : β → List PV} {good2 : β → Prop} (h : Opens henc P w t enc good) (f : α → β) (he : ∀ a, enc2 (f a) = enc a) (hg : ∀ a, good a → good2 (f a)) : Opens henc P w t enc2 good2 := by
  intro fuel cs x h1 h2 h2'
  obtain ⟨a, h3, h4⟩ := h fuel cs x h1 h2 h2'
  exact ⟨f a, by rw [he]; exact h3, hg a h4⟩
end
end Go.Proofs.Ytchajofdjeijfaa
