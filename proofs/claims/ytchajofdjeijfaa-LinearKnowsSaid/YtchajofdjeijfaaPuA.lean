/- Plain laws: domains, their values, packed. -/
import Derived.Test.YtchajofdjeijfaaFnO
namespace Go.Proofs.Ytchajofdjeijfaa
open Go Go.RowKit
set_option linter.unusedVariables false

/-- A right domain: ranges, rising, with a gap between. -/
def DomOk (d : List (Int × Int)) : Prop := (∀ r ∈ d, r.1 ≤ r.2) ∧ d.Pairwise fun r s => r.2 + 2 ≤ s.1
def Up (l : List Int) : Prop := l.Pairwise (· < ·)

theorem mem_rng {lo hi v : Int} : v ∈ rng lo hi ↔ lo ≤ v ∧ v ≤ hi := by
  simp only [rng, List.mem_map, List.mem_range]
  constructor
  · rintro ⟨k, hk, rfl⟩; omega
  · intro h; exact ⟨(v - lo).toNat, by omega, by omega⟩
theorem mem_vals {d : List (Int × Int)} {v : Int} : v ∈ vals d ↔ ∃ r ∈ d, r.1 ≤ v ∧ v ≤ r.2 := by
  simp only [vals, List.mem_flatMap, mem_rng]
theorem rng_snoc {lo x : Int} (h : lo ≤ x + 1) : rng lo (x + 1) = rng lo x ++ [x + 1] := by
  unfold rng
  rw [show (x + 1 + 1 - lo).toNat = (x + 1 - lo).toNat + 1 by omega, List.range_succ, List.map_append]
  simp; omega
theorem rng_self (x : Int) : rng x x = [x] := by
  unfold rng
  rw [show (x + 1 - x).toNat = 1 by omega]
  simp [List.range_succ]
theorem rng_cons {lo hi : Int} (h : lo ≤ hi) : rng lo hi = lo :: rng (lo + 1) hi := by
  unfold rng
  rw [show (hi + 1 - lo).toNat = (hi + 1 - (lo + 1)).toNat + 1 by omega, List.range_succ_eq_map, List.map_cons, List.map_map]
  simp only [Int.natCast_zero, Int.add_zero, List.cons.injEq, true_and]
  apply List.map_congr_left
  intro a _
  simp; omega
theorem rng_none {lo hi : Int} (h : hi < lo) : rng lo hi = [] := by
  unfold rng
  rw [show (hi + 1 - lo).toNat = 0 by omega]; rfl
theorem rng_up (lo hi : Int) : Up (rng lo hi) := by
  unfold Up rng
  rw [List.pairwise_map]
  exact List.pairwise_lt_range.imp fun h => by omega
theorem DomOk.tail {r : Int × Int} {d : List (Int × Int)} (h : DomOk (r :: d)) : DomOk d := ⟨fun s hs => h.1 s (.tail _ hs), (List.pairwise_cons.1 h.2).2⟩
theorem vals_cons (r : Int × Int) (d : List (Int × Int)) : vals (r :: d) = rng r.1 r.2 ++ vals d := rfl
theorem vals_up : ∀ {d : List (Int × Int)}, DomOk d → Up (vals d)
  | [], _ => .nil
  | r :: d, h => by
    rw [vals_cons]
    refine List.pairwise_append.2 ⟨rng_up _ _, vals_up h.tail, fun a ha b hb => ?_⟩
    obtain ⟨s, hs, h1, h2⟩ := mem_vals.1 hb
    have := (mem_rng.1 ha).2
    have := (List.pairwise_cons.1 h.2).1 s hs
    omega

theorem vals_packF : ∀ (l : List Int) (lo x : Int), lo ≤ x → Up (x :: l) → vals (packF lo x l) = rng lo x ++ l
  | [], lo, x, _, _ => by simp [packF, vals]
  | y :: l, lo, x, hlo, hu => by
    have h1 := List.pairwise_cons.1 hu
    have hxy := h1.1 y (.head _)
    simp only [packF]
    split
    · rename_i e
      rw [vals_packF l lo y (by omega) h1.2, e, rng_snoc (by omega)]
      simp
    · rw [vals_cons, vals_packF l y y (Int.le_refl _) h1.2, rng_self]
      simp
theorem vals_pack {l : List Int} (h : Up l) : vals (pack l) = l := by
  cases l with
  | nil => rfl
  | cons x l => rw [pack, vals_packF l x x (Int.le_refl _) h, rng_self]; rfl
theorem packF_ok : ∀ (l : List Int) (lo x : Int), lo ≤ x → Up (x :: l) → DomOk (packF lo x l) ∧ ∀ r ∈ packF lo x l, lo ≤ r.1
  | [], lo, x, h, _ => by simp [packF, DomOk, h]
  | y :: l, lo, x, hlo, hu => by
    have h1 := List.pairwise_cons.1 hu
    have hxy := h1.1 y (.head _)
    simp only [packF]
    split
    · exact packF_ok l lo y (by omega) h1.2
    · obtain ⟨h2, h3⟩ := packF_ok l y y (Int.le_refl _) h1.2
      refine ⟨⟨fun r hr => ?_, List.pairwise_cons.2 ⟨fun r hr => ?_, h2.2⟩⟩, fun r hr => ?_⟩
      · rcases List.mem_cons.1 hr with rfl | hr
        · exact hlo
        · exact h2.1 r hr
      · have := h3 r hr
        simp only; omega
      · rcases List.mem_cons.1 hr with rfl | hr
        · exact Int.le_refl _
        · have := h3 r hr; omega
theorem pack_ok {l : List Int} (h : Up l) : DomOk (pack l) := by
  cases l with
  | nil => exact ⟨by simp [pack], .nil⟩
  | cons x l => exact (packF_ok l x x (Int.le_refl _) h).1

theorem packF_run : ∀ (n : Nat) (lo x hi : Int) (l : List Int), hi = x + n → (∀ y ∈ l.head?, hi + 2 ≤ y) → packF lo x (rng (x + 1) hi ++ l) = (lo, hi) :: pack l
  | 0, lo, x, hi, l, e, h => by
    have : hi = x := by omega
    subst this
    rw [rng_none (by omega), List.nil_append]
    cases l with
    | nil => rfl
    | cons y l =>
      have := h y rfl
      simp only [packF]
      rw [if_neg (by omega)]
      rfl
  | n + 1, lo, x, hi, l, e, h => by
    rw [rng_cons (by omega), List.cons_append, packF, if_pos rfl]
    exact packF_run n lo (x + 1) hi l (by omega) h
theorem pack_vals : ∀ {d : List (Int × Int)}, DomOk d → pack (vals d) = d
  | [], _ => rfl
  | r :: d, h => by
    have hr := h.1 r (.head _)
    rw [vals_cons, rng_cons hr, List.cons_append, pack, packF_run (r.2 - r.1).toNat r.1 r.1 r.2 (vals d) (by omega) ?_, pack_vals h.tail]
    intro y hy
    have hm : y ∈ vals d := List.mem_of_mem_head? hy
    obtain ⟨s, hs, h1, h2⟩ := mem_vals.1 hm
    have := (List.pairwise_cons.1 h.2).1 s hs
    omega
theorem dom_ext {d d' : List (Int × Int)} (h : DomOk d) (h' : DomOk d') (e : vals d = vals d') : d = d' := by
  rw [← pack_vals h, ← pack_vals h', e]

theorem insS_up {v : Int} : ∀ {l : List Int}, Up l → v ∉ l → Up (insS v l)
  | [], _, _ => by simp [insS, Up]
  | x :: l, h, hn => by
    have h1 := List.pairwise_cons.1 h
    simp only [insS]
    split
    · refine List.pairwise_cons.2 ⟨fun y hy => ?_, h⟩
      rcases List.mem_cons.1 hy with rfl | hy
      · assumption
      · have := h1.1 y hy; omega
    · refine List.pairwise_cons.2 ⟨fun y hy => ?_, insS_up h1.2 fun h => hn (.tail _ h)⟩
      have hm : y ∈ insU v l := by unfold insU; rw [if_neg (show ¬ v ∈ l from fun h => hn (.tail _ h))]; exact hy
      rcases (insU_mem v y l).1 hm with rfl | hy
      · have : y ≠ x := fun e => hn (e ▸ .head _)
        omega
      · exact h1.1 y hy
theorem insU_up {v : Int} {l : List Int} (h : Up l) : Up (insU v l) := by
  unfold insU; split
  · exact h
  · rename_i hn; exact insS_up h hn
theorem sortU_up (l : List Int) : Up (sortU l) := by
  have key : ∀ (l out : List Int), Up out → Up (l.foldl (fun out v => insU v out) out) := by
    intro l
    induction l with
    | nil => intro out h; exact h
    | cons v l ih => intro out h; exact ih _ (insU_up h)
  exact key l [] .nil

theorem filter_up {l : List Int} {p : Int → Bool} (h : Up l) : Up (l.filter p) := List.Pairwise.sublist List.filter_sublist h
theorem up_nodup {l : List Int} (h : Up l) : l.Nodup := h.imp fun h => Int.ne_of_lt h

/-- Ends. -/
theorem vals_ne {d : List (Int × Int)} (h : DomOk d) : vals d = [] ↔ d = [] := by
  cases d with
  | nil => simp [vals]
  | cons r d =>
    rw [vals_cons, rng_cons (h.1 r (.head _))]
    simp
theorem vals_head {r : Int × Int} {d : List (Int × Int)} (h : DomOk (r :: d)) : ∃ l, vals (r :: d) = r.1 :: l := by
  rw [vals_cons, rng_cons (h.1 r (.head _))]
  exact ⟨_, rfl⟩
theorem vals_last {d : List (Int × Int)} (h : DomOk d) (hne : d ≠ []) : (vals d).getLast? = some (lastR d) := by
  obtain ⟨d', r, rfl⟩ : ∃ d' r, d = d' ++ [r] := ⟨d.dropLast, d.getLast hne, (List.dropLast_concat_getLast hne).symm⟩
  have hr := h.1 r (by simp)
  have e : vals (d' ++ [r]) = vals d' ++ rng r.1 r.2 := by simp [vals]
  rw [e]
  have e2 : rng r.1 r.2 = rng r.1 (r.2 - 1) ++ [r.2] := by
    have := rng_snoc (lo := r.1) (x := r.2 - 1) (by omega)
    rwa [show r.2 - 1 + 1 = r.2 by omega] at this
  rw [e2, ← List.append_assoc]
  simp [lastR]
theorem endsR_eq {d : List (Int × Int)} (h : DomOk d) (hne : d ≠ []) : endsR d = (leastR d, lastR d, true) := by
  cases d with
  | nil => exact absurd rfl hne
  | cons r d =>
    obtain ⟨l, hl⟩ := vals_head h
    have hlast := vals_last h hne
    unfold endsR
    split
    · rename_i e; rw [hl] at e; cases e
    · rename_i x l' e
      rw [hl] at e
      obtain ⟨rfl, rfl⟩ := List.cons.inj e
      rw [hl, List.getLast?_eq_some_getLast (by simp)] at hlast
      simp only [Option.some.injEq] at hlast
      rw [hlast]
      rfl
theorem least_mem {d : List (Int × Int)} (h : DomOk d) (hne : d ≠ []) : leastR d ∈ vals d := by
  cases d with
  | nil => exact absurd rfl hne
  | cons r d => obtain ⟨l, hl⟩ := vals_head h; rw [hl]; exact .head _
theorem last_mem {d : List (Int × Int)} (h : DomOk d) (hne : d ≠ []) : lastR d ∈ vals d := List.mem_of_getLast? (vals_last h hne)
theorem least_le {d : List (Int × Int)} (h : DomOk d) {v : Int} (hv : v ∈ vals d) : leastR d ≤ v := by
  cases d with
  | nil => simp [vals] at hv
  | cons r d =>
    obtain ⟨l, hl⟩ := vals_head h
    have hu := vals_up h
    rw [hl] at hu hv
    rcases List.mem_cons.1 hv with rfl | hv
    · exact Int.le_refl _
    · exact Int.le_of_lt ((List.pairwise_cons.1 hu).1 v hv)
theorem le_last {d : List (Int × Int)} (h : DomOk d) {v : Int} (hv : v ∈ vals d) : v ≤ lastR d := by
  have hne : d ≠ [] := fun e => by rw [e] at hv; simp [vals] at hv
  have hu := vals_up h
  obtain ⟨l, hl⟩ : ∃ l, vals d = l ++ [lastR d] := by
    have := vals_last h hne
    obtain ⟨l, hl⟩ := List.getLast?_eq_some_iff.1 this
    exact ⟨l, hl⟩
  rw [hl] at hu hv
  rcases List.mem_append.1 hv with hv | hv
  · exact Int.le_of_lt ((List.pairwise_append.1 hu).2.2 v hv _ (by simp))
  · simp at hv; omega

theorem up_ext : ∀ {l l' : List Int}, Up l → Up l' → (∀ v, v ∈ l ↔ v ∈ l') → l = l'
  | [], [], _, _, _ => rfl
  | [], y :: l', _, _, h => by have := (h y).2 (.head _); cases this
  | x :: l, [], _, _, h => by have := (h x).1 (.head _); cases this
  | x :: l, y :: l', h1, h2, h => by
    have a1 := List.pairwise_cons.1 h1
    have a2 := List.pairwise_cons.1 h2
    have e : x = y := by
      rcases List.mem_cons.1 ((h x).1 (.head _)) with e | e
      · exact e
      · rcases List.mem_cons.1 ((h y).2 (.head _)) with e2 | e2
        · exact e2.symm
        · have := a2.1 x e; have := a1.1 y e2; omega
    subst e
    congr 1
    refine up_ext a1.2 a2.2 fun v => ⟨fun hv => ?_, fun hv => ?_⟩
    · rcases List.mem_cons.1 ((h v).1 (.tail _ hv)) with rfl | h3
      · have := a1.1 v hv; omega
      · exact h3
    · rcases List.mem_cons.1 ((h v).2 (.tail _ hv)) with rfl | h3
      · have := a2.1 v hv; omega
      · exact h3

/-- What is cut out. -/
theorem meet1_ok {lo hi : Int} : ∀ {d : List (Int × Int)}, DomOk d → DomOk (meetR d [(lo, hi)]) ∧ (∀ r ∈ meetR d [(lo, hi)], ∃ s ∈ d, s.1 ≤ r.1 ∧ r.2 ≤ s.2) ∧ ∀ v, v ∈ vals (meetR d [(lo, hi)]) ↔ v ∈ vals d ∧ lo ≤ v ∧ v ≤ hi
  | [], _ => by rw [meetR_l]; exact ⟨⟨by simp, .nil⟩, by simp, by simp [vals]⟩
  | x :: d, h => by
    obtain ⟨h1, h2, h3⟩ := meet1_ok (lo := lo) (hi := hi) h.tail
    have hx := h.1 x (.head _)
    have hp := (List.pairwise_cons.1 h.2).1
    have hvd : ∀ v ∈ vals d, x.2 + 2 ≤ v := fun v hv => by
      obtain ⟨s, hs, h4, h5⟩ := mem_vals.1 hv
      have := hp s hs; omega
    rw [meetR_cons, meetR_r]
    have tailOk : DomOk (if x.2 < hi then meetR d [(lo, hi)] else []) ∧ (∀ r ∈ (if x.2 < hi then meetR d [(lo, hi)] else []), ∃ s ∈ d, s.1 ≤ r.1 ∧ r.2 ≤ s.2) ∧ ∀ v, v ∈ vals (if x.2 < hi then meetR d [(lo, hi)] else []) ↔ v ∈ vals d ∧ lo ≤ v ∧ v ≤ hi := by
      split
      · exact ⟨h1, h2, h3⟩
      · refine ⟨⟨by simp, .nil⟩, by simp, fun v => ⟨fun h => by simp [vals] at h, fun h => ?_⟩⟩
        have := hvd v h.1; omega
    generalize (if x.2 < hi then meetR d [(lo, hi)] else []) = t at *
    obtain ⟨t1, t2, t3⟩ := tailOk
    split
    · rename_i hc
      refine ⟨⟨fun r hr => ?_, ?_⟩, fun r hr => ?_, fun v => ?_⟩
      · rcases List.mem_cons.1 hr with rfl | hr
        · exact hc
        · exact t1.1 r hr
      · refine List.pairwise_cons.2 ⟨fun r hr => ?_, t1.2⟩
        obtain ⟨s, hs, h5, h6⟩ := t2 r hr
        have := hp s hs
        simp only; omega
      · rcases List.mem_cons.1 hr with rfl | hr
        · exact ⟨x, .head _, by simp only; omega, by simp only; omega⟩
        · obtain ⟨s, hs, h5, h6⟩ := t2 r hr
          exact ⟨s, .tail _ hs, h5, h6⟩
      · rw [List.singleton_append, vals_cons, vals_cons, List.mem_append, List.mem_append, mem_rng, mem_rng, t3]
        constructor
        · rintro (h7 | h7)
          · exact ⟨.inl (by omega), by omega, by omega⟩
          · exact ⟨.inr h7.1, h7.2⟩
        · rintro ⟨h7 | h7, h8⟩
          · exact .inl (by simp only; omega)
          · exact .inr ⟨h7, h8⟩
    · rename_i hc
      rw [List.nil_append]
      refine ⟨t1, fun r hr => ?_, fun v => ?_⟩
      · obtain ⟨s, hs, h5, h6⟩ := t2 r hr
        exact ⟨s, .tail _ hs, h5, h6⟩
      · rw [vals_cons, List.mem_append, mem_rng, t3]
        constructor
        · exact fun h7 => ⟨.inr h7.1, h7.2⟩
        · rintro ⟨h7 | h7, h8⟩
          · omega
          · exact ⟨h7, h8⟩
theorem domCut_ok {d : List (Int × Int)} (h : DomOk d) (lo hi : Int) : DomOk (domCut d lo hi) ∧ ∀ v, v ∈ vals (domCut d lo hi) ↔ v ∈ vals d ∧ lo ≤ v ∧ v ≤ hi := by
  unfold domCut
  split
  · exact ⟨⟨by simp, .nil⟩, fun v => ⟨fun h => by simp [vals] at h, fun h => by omega⟩⟩
  · exact ⟨(meet1_ok h).1, (meet1_ok h).2.2⟩
theorem cutR_ok {d : List (Int × Int)} (h : DomOk d) (lo hi : Int) : DomOk (cutR d lo hi) ∧ ∀ v, v ∈ vals (cutR d lo hi) ↔ v ∈ vals d ∧ lo ≤ v ∧ v ≤ hi := by
  have hu := filter_up (p := fun v => decide (lo ≤ v) && decide (v ≤ hi)) (vals_up h)
  exact ⟨pack_ok hu, fun v => by rw [cutR, vals_pack hu]; simp⟩
theorem cut_eq {d : List (Int × Int)} (h : DomOk d) {lo hi lo' hi' : Int} (he : ∀ v ∈ vals d, (lo ≤ v ∧ v ≤ hi ↔ lo' ≤ v ∧ v ≤ hi')) : domCut d lo hi = cutR d lo' hi' := by
  obtain ⟨h1, h2⟩ := domCut_ok h lo hi
  obtain ⟨h3, h4⟩ := cutR_ok h lo' hi'
  refine dom_ext h1 h3 (up_ext (vals_up h1) (vals_up h3) fun v => ?_)
  rw [h2, h4]
  exact ⟨fun ⟨a, b⟩ => ⟨a, (he v a).1 b⟩, fun ⟨a, b⟩ => ⟨a, (he v a).2 b⟩⟩

/-- Of one value. -/
theorem one_iff {d : List (Int × Int)} (h : DomOk d) : (vals d).length = 1 ↔ ∃ x, d = [(x, x)] := by
  constructor
  · intro hl
    obtain ⟨x, hx⟩ := List.length_eq_one_iff.1 hl
    exact ⟨x, by rw [← pack_vals h, hx]; rfl⟩
  · rintro ⟨x, rfl⟩
    rw [vals_cons, rng_self]; rfl
theorem known_iff {d : List (Int × Int)} (h : DomOk d) : (d ≠ [] ∧ leastR d = lastR d) ↔ ∃ x, d = [(x, x)] := by
  constructor
  · rintro ⟨hne, he⟩
    refine (one_iff h).1 ?_
    have hu := vals_up h
    have hm := least_mem h hne
    cases hv : vals d with
    | nil => rw [hv] at hm; cases hm
    | cons y l =>
      cases l with
      | nil => rfl
      | cons z l =>
        have h1 := least_le h (v := y) (by rw [hv]; simp)
        have h2 := le_last h (v := z) (by rw [hv]; simp)
        rw [hv] at hu
        have := (List.pairwise_cons.1 hu).1 z (by simp)
        omega
  · rintro ⟨x, rfl⟩
    exact ⟨by simp, rfl⟩
theorem knownB_iff {a b : Int} {da db : List (Int × Int)} (ha : DomOk da) (hb : DomOk db) : knownB a b da db = true ↔ a = b ∨ ((vals da).length = 1 ∧ da = db) := by
  simp only [knownB, Bool.or_eq_true, Bool.and_eq_true, decide_eq_true_eq, ofD, Prod.mk.injEq]
  refine or_congr_right ⟨?_, ?_⟩
  · rintro ⟨⟨⟨h1, h2⟩, h3⟩, h4, h5⟩
    obtain ⟨x, rfl⟩ := (known_iff ha).1 ⟨List.ne_nil_of_length_pos h1, h3⟩
    obtain ⟨y, rfl⟩ := (known_iff hb).1 ⟨List.ne_nil_of_length_pos h2, by omega⟩
    refine ⟨(one_iff ha).2 ⟨x, rfl⟩, ?_⟩
    have : x = y := h4
    rw [this]
  · rintro ⟨h1, rfl⟩
    obtain ⟨x, rfl⟩ := (one_iff ha).1 h1
    exact ⟨⟨⟨by simp, by simp⟩, rfl⟩, rfl, rfl⟩
theorem known_eq {a b : Int} {da db : List (Int × Int)} (ha : DomOk da) (hb : DomOk db) : knownB a b da db = knownR a b da db := by
  rw [Bool.eq_iff_iff, knownB_iff ha hb]
  simp only [knownR, Bool.or_eq_true, Bool.and_eq_true, decide_eq_true_eq]
  refine or_congr_right (and_congr_right fun _ => ⟨fun e => by rw [e], fun e => dom_ext ha hb e⟩)
end Go.Proofs.Ytchajofdjeijfaa
