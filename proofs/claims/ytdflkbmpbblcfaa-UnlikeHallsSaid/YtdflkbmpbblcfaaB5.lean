/- The texts PuA, PuB, PuC, PuT, LiA, FnR, FnS, RowA of the workplace, joined. -/
import Derived.Test.YtdflkbmpbblcfaaB4
import Derived.Lib.Mul64
/-! Plain laws: domains, their values, packed. -/
namespace Go.Proofs.Ytdflkbmpbblcfaa
open Go Go.RowKit
set_option linter.unusedVariables false

/-- A right domain: ranges, rising, with a gap between. -/
def DomOk (d : List (Int × Int)) : Prop := (∀ r ∈ d, r.1 ≤ r.2) ∧ d.Pairwise fun r s => r.2 + 2 ≤ s.1
def Up (l : List Int) : Prop := l.Pairwise (· < ·)

theorem mem_rng {lo hi v : Int} : v ∈ rng lo hi ↔ lo ≤ v ∧ v ≤ hi := by
  simp only [rng, List.mem_map, List.mem_range]
  constructor
  · rintro ⟨k, hk, rfl⟩; omega
  · intro h; exact ⟨(v - lo).toNat, by omega, by omega⟩
theorem mem_vals {d : List (Int × Int)} {v : Int} : v ∈ vals d ↔ ∃ r ∈ d, r.1 ≤ v ∧ v ≤ r.2 := by
  simp only [vals, List.mem_flatMap, mem_rng]
theorem rng_snoc {lo x : Int} (h : lo ≤ x + 1) : rng lo (x + 1) = rng lo x ++ [x + 1] := by
  unfold rng
  rw [show (x + 1 + 1 - lo).toNat = (x + 1 - lo).toNat + 1 by omega, List.range_succ, List.map_append]
  simp; omega
theorem rng_self (x : Int) : rng x x = [x] := by
  unfold rng
  rw [show (x + 1 - x).toNat = 1 by omega]
  simp [List.range_succ]
theorem rng_cons {lo hi : Int} (h : lo ≤ hi) : rng lo hi = lo :: rng (lo + 1) hi := by
  unfold rng
  rw [show (hi + 1 - lo).toNat = (hi + 1 - (lo + 1)).toNat + 1 by omega, List.range_succ_eq_map, List.map_cons, List.map_map]
  simp only [Int.natCast_zero, Int.add_zero, List.cons.injEq, true_and]
  apply List.map_congr_left
  intro a _
  simp; omega
theorem rng_none {lo hi : Int} (h : hi < lo) : rng lo hi = [] := by
  unfold rng
  rw [show (hi + 1 - lo).toNat = 0 by omega]; rfl
theorem rng_up (lo hi : Int) : Up (rng lo hi) := by
  unfold Up rng
  rw [List.pairwise_map]
  exact List.pairwise_lt_range.imp fun h => by omega
theorem DomOk.tail {r : Int × Int} {d : List (Int × Int)} (h : DomOk (r :: d)) : DomOk d := ⟨fun s hs => h.1 s (.tail _ hs), (List.pairwise_cons.1 h.2).2⟩
theorem vals_cons (r : Int × Int) (d : List (Int × Int)) : vals (r :: d) = rng r.1 r.2 ++ vals d := rfl
theorem vals_up : ∀ {d : List (Int × Int)}, DomOk d → Up (vals d)
  | [], _ => .nil
  | r :: d, h => by
    rw [vals_cons]
    refine List.pairwise_append.2 ⟨rng_up _ _, vals_up h.tail, fun a ha b hb => ?_⟩
    obtain ⟨s, hs, h1, h2⟩ := mem_vals.1 hb
    have := (mem_rng.1 ha).2
    have := (List.pairwise_cons.1 h.2).1 s hs
    omega

theorem vals_packF : ∀ (l : List Int) (lo x : Int), lo ≤ x → Up (x :: l) → vals (packF lo x l) = rng lo x ++ l
  | [], lo, x, _, _ => by simp [packF, vals]
  | y :: l, lo, x, hlo, hu => by
    have h1 := List.pairwise_cons.1 hu
    have hxy := h1.1 y (.head _)
    simp only [packF]
    split
    · rename_i e
      rw [vals_packF l lo y (by omega) h1.2, e, rng_snoc (by omega)]
      simp
    · rw [vals_cons, vals_packF l y y (Int.le_refl _) h1.2, rng_self]
      simp
theorem vals_pack {l : List Int} (h : Up l) : vals (pack l) = l := by
  cases l with
  | nil => rfl
  | cons x l => rw [pack, vals_packF l x x (Int.le_refl _) h, rng_self]; rfl
theorem packF_ok : ∀ (l : List Int) (lo x : Int), lo ≤ x → Up (x :: l) → DomOk (packF lo x l) ∧ ∀ r ∈ packF lo x l, lo ≤ r.1
  | [], lo, x, h, _ => by simp [packF, DomOk, h]
  | y :: l, lo, x, hlo, hu => by
    have h1 := List.pairwise_cons.1 hu
    have hxy := h1.1 y (.head _)
    simp only [packF]
    split
    · exact packF_ok l lo y (by omega) h1.2
    · obtain ⟨h2, h3⟩ := packF_ok l y y (Int.le_refl _) h1.2
      refine ⟨⟨fun r hr => ?_, List.pairwise_cons.2 ⟨fun r hr => ?_, h2.2⟩⟩, fun r hr => ?_⟩
      · rcases List.mem_cons.1 hr with rfl | hr
        · exact hlo
        · exact h2.1 r hr
      · have := h3 r hr
        simp only; omega
      · rcases List.mem_cons.1 hr with rfl | hr
        · exact Int.le_refl _
        · have := h3 r hr; omega
theorem pack_ok {l : List Int} (h : Up l) : DomOk (pack l) := by
  cases l with
  | nil => exact ⟨by simp [pack], .nil⟩
  | cons x l => exact (packF_ok l x x (Int.le_refl _) h).1

theorem packF_run : ∀ (n : Nat) (lo x hi : Int) (l : List Int), hi = x + n → (∀ y ∈ l.head?, hi + 2 ≤ y) → packF lo x (rng (x + 1) hi ++ l) = (lo, hi) :: pack l
  | 0, lo, x, hi, l, e, h => by
    have : hi = x := by omega
    subst this
    rw [rng_none (by omega), List.nil_append]
    cases l with
    | nil => rfl
    | cons y l =>
      have := h y rfl
      simp only [packF]
      rw [if_neg (by omega)]
      rfl
  | n + 1, lo, x, hi, l, e, h => by
    rw [rng_cons (by omega), List.cons_append, packF, if_pos rfl]
    exact packF_run n lo (x + 1) hi l (by omega) h
theorem pack_vals : ∀ {d : List (Int × Int)}, DomOk d → pack (vals d) = d
  | [], _ => rfl
  | r :: d, h => by
    have hr := h.1 r (.head _)
    rw [vals_cons, rng_cons hr, List.cons_append, pack, packF_run (r.2 - r.1).toNat r.1 r.1 r.2 (vals d) (by omega) ?_, pack_vals h.tail]
    intro y hy
    have hm : y ∈ vals d := List.mem_of_mem_head? hy
    obtain ⟨s, hs, h1, h2⟩ := mem_vals.1 hm
    have := (List.pairwise_cons.1 h.2).1 s hs
    omega
theorem dom_ext {d d' : List (Int × Int)} (h : DomOk d) (h' : DomOk d') (e : vals d = vals d') : d = d' := by
  rw [← pack_vals h, ← pack_vals h', e]

theorem insS_up {v : Int} : ∀ {l : List Int}, Up l → v ∉ l → Up (insS v l)
  | [], _, _ => by simp [insS, Up]
  | x :: l, h, hn => by
    have h1 := List.pairwise_cons.1 h
    simp only [insS]
    split
    · refine List.pairwise_cons.2 ⟨fun y hy => ?_, h⟩
      rcases List.mem_cons.1 hy with rfl | hy
      · assumption
      · have := h1.1 y hy; omega
    · refine List.pairwise_cons.2 ⟨fun y hy => ?_, insS_up h1.2 fun h => hn (.tail _ h)⟩
      have hm : y ∈ insU v l := by unfold insU; rw [if_neg (show ¬ v ∈ l from fun h => hn (.tail _ h))]; exact hy
      rcases (insU_mem v y l).1 hm with rfl | hy
      · have : y ≠ x := fun e => hn (e ▸ .head _)
        omega
      · exact h1.1 y hy
theorem insU_up {v : Int} {l : List Int} (h : Up l) : Up (insU v l) := by
  unfold insU; split
  · exact h
  · rename_i hn; exact insS_up h hn
theorem sortU_up (l : List Int) : Up (sortU l) := by
  have key : ∀ (l out : List Int), Up out → Up (l.foldl (fun out v => insU v out) out) := by
    intro l
    induction l with
    | nil => intro out h; exact h
    | cons v l ih => intro out h; exact ih _ (insU_up h)
  exact key l [] .nil

theorem filter_up {l : List Int} {p : Int → Bool} (h : Up l) : Up (l.filter p) := List.Pairwise.sublist List.filter_sublist h
theorem up_nodup {l : List Int} (h : Up l) : l.Nodup := h.imp fun h => Int.ne_of_lt h

/-- Ends. -/
theorem vals_ne {d : List (Int × Int)} (h : DomOk d) : vals d = [] ↔ d = [] := by
  cases d with
  | nil => simp [vals]
  | cons r d =>
    rw [vals_cons, rng_cons (h.1 r (.head _))]
    simp
theorem vals_head {r : Int × Int} {d : List (Int × Int)} (h : DomOk (r :: d)) : ∃ l, vals (r :: d) = r.1 :: l := by
  rw [vals_cons, rng_cons (h.1 r (.head _))]
  exact ⟨_, rfl⟩
theorem vals_last {d : List (Int × Int)} (h : DomOk d) (hne : d ≠ []) : (vals d).getLast? = some (lastR d) := by
  obtain ⟨d', r, rfl⟩ : ∃ d' r, d = d' ++ [r] := ⟨d.dropLast, d.getLast hne, (List.dropLast_concat_getLast hne).symm⟩
  have hr := h.1 r (by simp)
  have e : vals (d' ++ [r]) = vals d' ++ rng r.1 r.2 := by simp [vals]
  rw [e]
  have e2 : rng r.1 r.2 = rng r.1 (r.2 - 1) ++ [r.2] := by
    have := rng_snoc (lo := r.1) (x := r.2 - 1) (by omega)
    rwa [show r.2 - 1 + 1 = r.2 by omega] at this
  rw [e2, ← List.append_assoc]
  simp [lastR]
theorem endsR_eq {d : List (Int × Int)} (h : DomOk d) (hne : d ≠ []) : endsR d = (leastR d, lastR d, true) := by
  cases d with
  | nil => exact absurd rfl hne
  | cons r d =>
    obtain ⟨l, hl⟩ := vals_head h
    have hlast := vals_last h hne
    unfold endsR
    split
    · rename_i e; rw [hl] at e; cases e
    · rename_i x l' e
      rw [hl] at e
      obtain ⟨rfl, rfl⟩ := List.cons.inj e
      rw [hl, List.getLast?_eq_some_getLast (by simp)] at hlast
      simp only [Option.some.injEq] at hlast
      rw [hlast]
      rfl
theorem least_mem {d : List (Int × Int)} (h : DomOk d) (hne : d ≠ []) : leastR d ∈ vals d := by
  cases d with
  | nil => exact absurd rfl hne
  | cons r d => obtain ⟨l, hl⟩ := vals_head h; rw [hl]; exact .head _
theorem last_mem {d : List (Int × Int)} (h : DomOk d) (hne : d ≠ []) : lastR d ∈ vals d := List.mem_of_getLast? (vals_last h hne)
theorem least_le {d : List (Int × Int)} (h : DomOk d) {v : Int} (hv : v ∈ vals d) : leastR d ≤ v := by
  cases d with
  | nil => simp [vals] at hv
  | cons r d =>
    obtain ⟨l, hl⟩ := vals_head h
    have hu := vals_up h
    rw [hl] at hu hv
    rcases List.mem_cons.1 hv with rfl | hv
    · exact Int.le_refl _
    · exact Int.le_of_lt ((List.pairwise_cons.1 hu).1 v hv)
theorem le_last {d : List (Int × Int)} (h : DomOk d) {v : Int} (hv : v ∈ vals d) : v ≤ lastR d := by
  have hne : d ≠ [] := fun e => by rw [e] at hv; simp [vals] at hv
  have hu := vals_up h
  obtain ⟨l, hl⟩ : ∃ l, vals d = l ++ [lastR d] := by
    have := vals_last h hne
    obtain ⟨l, hl⟩ := List.getLast?_eq_some_iff.1 this
    exact ⟨l, hl⟩
  rw [hl] at hu hv
  rcases List.mem_append.1 hv with hv | hv
  · exact Int.le_of_lt ((List.pairwise_append.1 hu).2.2 v hv _ (by simp))
  · simp at hv; omega

theorem up_ext : ∀ {l l' : List Int}, Up l → Up l' → (∀ v, v ∈ l ↔ v ∈ l') → l = l'
  | [], [], _, _, _ => rfl
  | [], y :: l', _, _, h => by have := (h y).2 (.head _); cases this
  | x :: l, [], _, _, h => by have := (h x).1 (.head _); cases this
  | x :: l, y :: l', h1, h2, h => by
    have a1 := List.pairwise_cons.1 h1
    have a2 := List.pairwise_cons.1 h2
    have e : x = y := by
      rcases List.mem_cons.1 ((h x).1 (.head _)) with e | e
      · exact e
      · rcases List.mem_cons.1 ((h y).2 (.head _)) with e2 | e2
        · exact e2.symm
        · have := a2.1 x e; have := a1.1 y e2; omega
    subst e
    congr 1
    refine up_ext a1.2 a2.2 fun v => ⟨fun hv => ?_, fun hv => ?_⟩
    · rcases List.mem_cons.1 ((h v).1 (.tail _ hv)) with rfl | h3
      · have := a1.1 v hv; omega
      · exact h3
    · rcases List.mem_cons.1 ((h v).2 (.tail _ hv)) with rfl | h3
      · have := a2.1 v hv; omega
      · exact h3

/-- What is cut out. -/
theorem meet1_ok {lo hi : Int} : ∀ {d : List (Int × Int)}, DomOk d → DomOk (meetR d [(lo, hi)]) ∧ (∀ r ∈ meetR d [(lo, hi)], ∃ s ∈ d, s.1 ≤ r.1 ∧ r.2 ≤ s.2) ∧ ∀ v, v ∈ vals (meetR d [(lo, hi)]) ↔ v ∈ vals d ∧ lo ≤ v ∧ v ≤ hi
  | [], _ => by rw [meetR_l]; exact ⟨⟨by simp, .nil⟩, by simp, by simp [vals]⟩
  | x :: d, h => by
    obtain ⟨h1, h2, h3⟩ := meet1_ok (lo := lo) (hi := hi) h.tail
    have hx := h.1 x (.head _)
    have hp := (List.pairwise_cons.1 h.2).1
    have hvd : ∀ v ∈ vals d, x.2 + 2 ≤ v := fun v hv => by
      obtain ⟨s, hs, h4, h5⟩ := mem_vals.1 hv
      have := hp s hs; omega
    rw [meetR_cons, meetR_r]
    have tailOk : DomOk (if x.2 < hi then meetR d [(lo, hi)] else []) ∧ (∀ r ∈ (if x.2 < hi then meetR d [(lo, hi)] else []), ∃ s ∈ d, s.1 ≤ r.1 ∧ r.2 ≤ s.2) ∧ ∀ v, v ∈ vals (if x.2 < hi then meetR d [(lo, hi)] else []) ↔ v ∈ vals d ∧ lo ≤ v ∧ v ≤ hi := by
      split
      · exact ⟨h1, h2, h3⟩
      · refine ⟨⟨by simp, .nil⟩, by simp, fun v => ⟨fun h => by simp [vals] at h, fun h => ?_⟩⟩
        have := hvd v h.1; omega
    generalize (if x.2 < hi then meetR d [(lo, hi)] else []) = t at *
    obtain ⟨t1, t2, t3⟩ := tailOk
    split
    · rename_i hc
      refine ⟨⟨fun r hr => ?_, ?_⟩, fun r hr => ?_, fun v => ?_⟩
      · rcases List.mem_cons.1 hr with rfl | hr
        · exact hc
        · exact t1.1 r hr
      · refine List.pairwise_cons.2 ⟨fun r hr => ?_, t1.2⟩
        obtain ⟨s, hs, h5, h6⟩ := t2 r hr
        have := hp s hs
        simp only; omega
      · rcases List.mem_cons.1 hr with rfl | hr
        · exact ⟨x, .head _, by simp only; omega, by simp only; omega⟩
        · obtain ⟨s, hs, h5, h6⟩ := t2 r hr
          exact ⟨s, .tail _ hs, h5, h6⟩
      · rw [List.singleton_append, vals_cons, vals_cons, List.mem_append, List.mem_append, mem_rng, mem_rng, t3]
        constructor
        · rintro (h7 | h7)
          · exact ⟨.inl (by omega), by omega, by omega⟩
          · exact ⟨.inr h7.1, h7.2⟩
        · rintro ⟨h7 | h7, h8⟩
          · exact .inl (by simp only; omega)
          · exact .inr ⟨h7, h8⟩
    · rename_i hc
      rw [List.nil_append]
      refine ⟨t1, fun r hr => ?_, fun v => ?_⟩
      · obtain ⟨s, hs, h5, h6⟩ := t2 r hr
        exact ⟨s, .tail _ hs, h5, h6⟩
      · rw [vals_cons, List.mem_append, mem_rng, t3]
        constructor
        · exact fun h7 => ⟨.inr h7.1, h7.2⟩
        · rintro ⟨h7 | h7, h8⟩
          · omega
          · exact ⟨h7, h8⟩
theorem domCut_ok {d : List (Int × Int)} (h : DomOk d) (lo hi : Int) : DomOk (domCut d lo hi) ∧ ∀ v, v ∈ vals (domCut d lo hi) ↔ v ∈ vals d ∧ lo ≤ v ∧ v ≤ hi := by
  unfold domCut
  split
  · exact ⟨⟨by simp, .nil⟩, fun v => ⟨fun h => by simp [vals] at h, fun h => by omega⟩⟩
  · exact ⟨(meet1_ok h).1, (meet1_ok h).2.2⟩
theorem cutR_ok {d : List (Int × Int)} (h : DomOk d) (lo hi : Int) : DomOk (cutR d lo hi) ∧ ∀ v, v ∈ vals (cutR d lo hi) ↔ v ∈ vals d ∧ lo ≤ v ∧ v ≤ hi := by
  have hu := filter_up (p := fun v => decide (lo ≤ v) && decide (v ≤ hi)) (vals_up h)
  exact ⟨pack_ok hu, fun v => by rw [cutR, vals_pack hu]; simp⟩
theorem cut_eq {d : List (Int × Int)} (h : DomOk d) {lo hi lo' hi' : Int} (he : ∀ v ∈ vals d, (lo ≤ v ∧ v ≤ hi ↔ lo' ≤ v ∧ v ≤ hi')) : domCut d lo hi = cutR d lo' hi' := by
  obtain ⟨h1, h2⟩ := domCut_ok h lo hi
  obtain ⟨h3, h4⟩ := cutR_ok h lo' hi'
  refine dom_ext h1 h3 (up_ext (vals_up h1) (vals_up h3) fun v => ?_)
  rw [h2, h4]
  exact ⟨fun ⟨a, b⟩ => ⟨a, (he v a).1 b⟩, fun ⟨a, b⟩ => ⟨a, (he v a).2 b⟩⟩

/-- Of one value. -/
theorem one_iff {d : List (Int × Int)} (h : DomOk d) : (vals d).length = 1 ↔ ∃ x, d = [(x, x)] := by
  constructor
  · intro hl
    obtain ⟨x, hx⟩ := List.length_eq_one_iff.1 hl
    exact ⟨x, by rw [← pack_vals h, hx]; rfl⟩
  · rintro ⟨x, rfl⟩
    rw [vals_cons, rng_self]; rfl
theorem known_iff {d : List (Int × Int)} (h : DomOk d) : (d ≠ [] ∧ leastR d = lastR d) ↔ ∃ x, d = [(x, x)] := by
  constructor
  · rintro ⟨hne, he⟩
    refine (one_iff h).1 ?_
    have hu := vals_up h
    have hm := least_mem h hne
    cases hv : vals d with
    | nil => rw [hv] at hm; cases hm
    | cons y l =>
      cases l with
      | nil => rfl
      | cons z l =>
        have h1 := least_le h (v := y) (by rw [hv]; simp)
        have h2 := le_last h (v := z) (by rw [hv]; simp)
        rw [hv] at hu
        have := (List.pairwise_cons.1 hu).1 z (by simp)
        omega
  · rintro ⟨x, rfl⟩
    exact ⟨by simp, rfl⟩
theorem knownB_iff {a b : Int} {da db : List (Int × Int)} (ha : DomOk da) (hb : DomOk db) : knownB a b da db = true ↔ a = b ∨ ((vals da).length = 1 ∧ da = db) := by
  simp only [knownB, Bool.or_eq_true, Bool.and_eq_true, decide_eq_true_eq, ofD, Prod.mk.injEq]
  refine or_congr_right ⟨?_, ?_⟩
  · rintro ⟨⟨⟨h1, h2⟩, h3⟩, h4, h5⟩
    obtain ⟨x, rfl⟩ := (known_iff ha).1 ⟨List.ne_nil_of_length_pos h1, h3⟩
    obtain ⟨y, rfl⟩ := (known_iff hb).1 ⟨List.ne_nil_of_length_pos h2, by omega⟩
    refine ⟨(one_iff ha).2 ⟨x, rfl⟩, ?_⟩
    have : x = y := h4
    rw [this]
  · rintro ⟨h1, rfl⟩
    obtain ⟨x, rfl⟩ := (one_iff ha).1 h1
    exact ⟨⟨⟨by simp, by simp⟩, rfl⟩, rfl, rfl⟩
theorem known_eq {a b : Int} {da db : List (Int × Int)} (ha : DomOk da) (hb : DomOk db) : knownB a b da db = knownR a b da db := by
  rw [Bool.eq_iff_iff, knownB_iff ha hb]
  simp only [knownR, Bool.or_eq_true, Bool.and_eq_true, decide_eq_true_eq]
  refine or_congr_right (and_congr_right fun _ => ⟨fun e => by rw [e], fun e => dom_ext ha hb e⟩)
end Go.Proofs.Ytdflkbmpbblcfaa
/-! Plain laws: the domains of a case. -/
namespace Go.Proofs.Ytdflkbmpbblcfaa
open Go Go.RowKit
set_option linter.unusedVariables false

theorem smallR_ok (l : List Int) : DomOk (smallR l) ∧ (∀ v ∈ vals (smallR l), -200 ≤ v ∧ v ≤ 200) ∧ (vals (smallR l)).length ≤ 30 := by
  have hm : ∀ v ∈ (l.take 30).map (fun v => v.tmod 201), -200 ≤ v ∧ v ≤ 200 := by
    intro v hv
    obtain ⟨w, _, rfl⟩ := List.mem_map.1 hv
    have h1 := Int.tmod_lt_of_pos w (show (0 : Int) < 201 by decide)
    have h2 := Int.lt_tmod_of_pos w (show (0 : Int) < 201 by decide)
    omega
  have h0 : ((l.take 30).map fun v => v.tmod 201).length ≤ 30 := by simp; omega
  have h1 := sortU_length ((l.take 30).map fun v => v.tmod 201)
  have hok : okV ((l.take 30).map fun v => v.tmod 201) = true := by
    simp only [okV, List.all_eq_true]
    intro v hv
    have := hm v hv
    simp [valueB]; omega
  have hu := sortU_up ((l.take 30).map fun v => v.tmod 201)
  have e : smallR l = pack (sortU ((l.take 30).map fun v => v.tmod 201)) := by
    unfold smallR ofR
    rw [if_pos hok, if_neg (by omega)]
  rw [e, vals_pack hu]
  exact ⟨pack_ok hu, fun v hv => hm v ((sortU_mem v _).1 hv), by omega⟩

theorem dom_inB {d : List (Int × Int)} (h : DomOk d) (hv : ∀ v ∈ vals d, -1048576 ≤ v ∧ v ≤ 1048576) : InB d := by
  intro r hr
  have h1 := h.1 r hr
  have h2 := hv r.1 (mem_vals.2 ⟨r, hr, Int.le_refl _, h1⟩)
  have h3 := hv r.2 (mem_vals.2 ⟨r, hr, h1, Int.le_refl _⟩)
  omega
theorem dom_length_le : ∀ {d : List (Int × Int)}, DomOk d → d.length ≤ (vals d).length
  | [], _ => by simp
  | r :: d, h => by
    have := dom_length_le h.tail
    have hr := h.1 r (.head _)
    rw [vals_cons, rng_cons hr]
    simp only [List.length_cons, List.length_append]; omega
/-- Domains that all contracts let in. -/
structure Fine (d : List (Int × Int)) : Prop where
  ok : DomOk d
  val : ∀ v ∈ vals d, -1048576 ≤ v ∧ v ≤ 1048576
  few : (vals d).length * 16 + 1048576 ≤ 140737488355328
theorem Fine.domB {d : List (Int × Int)} (h : Fine d) : DomB d := ⟨dom_inB h.ok h.val, by have := h.few; omega, by have := h.few; have := dom_length_le h.ok; omega⟩
theorem Fine.len {d : List (Int × Int)} (h : Fine d) : d.length * 16 + 1048576 ≤ 140737488355328 := by have := h.few; have := dom_length_le h.ok; omega
theorem up_length_le {l l' : List Int} (h : Up l) (hs : ∀ v ∈ l, v ∈ l') : l.length ≤ l'.length := (up_nodup h).length_le_of_subset hs
theorem Fine.cut {d d' : List (Int × Int)} (h : Fine d) (h' : DomOk d') (hs : ∀ v ∈ vals d', v ∈ vals d) : Fine d' :=
  ⟨h', fun v hv => h.val v (hs v hv), by have := h.few; have := up_length_le (vals_up h') hs; omega⟩
theorem small_fine (l : List Int) : Fine (smallR l) := by
  obtain ⟨h1, h2, h3⟩ := smallR_ok l
  exact ⟨h1, fun v hv => by have := h2 v hv; omega, by omega⟩
theorem laid_fine (o : Case) : ∀ x ∈ laidD o, Fine x := by
  intro x hx
  obtain ⟨y, _, rfl⟩ := List.mem_map.1 hx
  exact small_fine _
theorem laid_len (o : Case) : (laidD o).length ≤ 4 := by simp [laidD]; omega

theorem placeF_before {p : Nat → Bool} {h j : Nat} (hj : j < placeF p h) : p j = true := by
  unfold placeF at hj
  cases hf : (List.range h).find? (fun k => !p k) with
  | none =>
    rw [hf] at hj
    have := List.find?_eq_none.1 hf j (List.mem_range.2 (by simpa using hj))
    simpa using this
  | some k =>
    rw [hf] at hj
    have := (List.find?_range_eq_some.1 hf).2.2 j (by simpa using hj)
    simpa using this
theorem placeF_here {p : Nat → Bool} {h : Nat} (hlt : placeF p h < h) : p (placeF p h) = false := by
  unfold placeF at hlt ⊢
  cases hf : (List.range h).find? (fun k => !p k) with
  | none => rw [hf] at hlt; simp at hlt
  | some k =>
    have := (List.find?_range_eq_some.1 hf).1
    simpa using this

/-- What a right constraint of a case is. -/
theorem con_in {d : Doms} {c : Con} (hc : ConB c) (h : conR d c = 0) : VarsIn d c ∧ rightR d c = true := by
  unfold conR at h
  split at h
  · cases h
  · split at h
    · cases h
    · rename_i hu
      split at h
      · cases h
      · rename_i hr
        exact ⟨(uses_in hc (by simpa using hu)).1, by simpa using hr⟩
theorem lex_in {d : Doms} {c : Con} (hc : ConB c) (h : conR d c = 0) (hk : c.kind = 6) : VarsIn d c ∧ 2 ≤ c.vars.length ∧ c.vars.length % 2 = 0 := by
  obtain ⟨h1, h2⟩ := con_in hc h
  refine ⟨h1, ?_⟩
  simp [rightR, hk] at h2
  exact ⟨h2.1.2, h2.2⟩
theorem laid_conB {o : Case} (h : CaseB o) (kind : Int) : ConB (laidC o kind) :=
  ⟨h.1.1, h.1.2.1, by simp [laidC]; have := h.1.2.2.1; omega, fun x hx => h.1.2.2.2 x (List.mem_of_mem_take hx)⟩
end Go.Proofs.Ytdflkbmpbblcfaa
/-! Plain laws: steps that come to an end; what the program's pruner of two lists leaves. -/
namespace Go.Proofs.Ytdflkbmpbblcfaa
open Go Go.RowKit
set_option linter.unusedVariables false

theorem iter_ex {α β : Type} {step : α → β ⊕ α} (Inv : α → Prop) (μ : α → Nat) (h : ∀ x y, Inv x → step x = .inr y → Inv y ∧ μ y < μ x) : ∀ x, Inv x → ∃ N R, iter step N x = some R := by
  have key : ∀ n x, μ x = n → Inv x → ∃ N R, iter step N x = some R := by
    intro n
    induction n using Nat.strongRecOn with
    | _ n ih =>
      intro x hx hi
      cases e : step x with
      | inl b => exact ⟨1, b, by simp [iter, e]⟩
      | inr y =>
        obtain ⟨h1, h2⟩ := h x y hi e
        obtain ⟨N, R, hR⟩ := ih (μ y) (hx ▸ h2) y rfl h1
        exact ⟨N + 1, R, by simp [iter, e, hR]⟩
  exact fun x hi => key _ x rfl hi
theorem iter_end {α β : Type} {step : α → β ⊕ α} (Inv : α → Prop) (h : ∀ x y, Inv x → step x = .inr y → Inv y) : ∀ (N : Nat) (x : α) (R : β), Inv x → iter step N x = some R → ∃ z, Inv z ∧ step z = .inl R
  | 0, x, R, _, e => by cases e
  | n + 1, x, R, hi, e => by
    cases hs : step x with
    | inl b => simp only [iter, hs, Option.some.injEq] at e; exact ⟨x, hi, by rw [hs, e]⟩
    | inr y => simp only [iter, hs] at e; exact iter_end Inv h n y R (h x y hi hs) e
/-- Two steps that do the same come to the same. -/
theorem iter_same {α β : Type} {s1 s2 : α → β ⊕ α} (Inv : α → Prop) (h : ∀ x y, Inv x → s1 x = .inr y → Inv y) (he : ∀ x, Inv x → s1 x = s2 x) : ∀ (N : Nat) (x : α), Inv x → iter s1 N x = iter s2 N x
  | 0, _, _ => rfl
  | n + 1, x, hi => by
    simp only [iter, ← he x hi]
    cases hs : s1 x with
    | inl b => rfl
    | inr y => exact iter_same Inv h he n y (h x y hi hs)

def weight (d : Doms) : Nat := (d.map fun x => (vals x).length).sum
theorem weight_set : ∀ {d : Doms} {i : Nat} {y : List (Int × Int)} (x : List (Int × Int)), d[i]? = some y → weight (d.set i x) + (vals y).length = weight d + (vals x).length
  | [], i, y, x, h => by simp at h
  | z :: d, 0, y, x, h => by
    simp at h; subst h
    simp only [List.set_cons_zero, weight, List.map_cons, List.sum_cons]; omega
  | z :: d, i + 1, y, x, h => by
    have := weight_set (d := d) (i := i) x (by simpa using h)
    simp only [List.set_cons_succ, weight, List.map_cons, List.sum_cons] at this ⊢; omega
theorem sub_lt {d d' : List (Int × Int)} (h : DomOk d) (h' : DomOk d') (hs : ∀ v ∈ vals d', v ∈ vals d) : (vals d').length ≤ (vals d).length ∧ (d' ≠ d → (vals d').length < (vals d).length) := by
  have hle := up_length_le (vals_up h') hs
  refine ⟨hle, fun hne => Nat.lt_of_le_of_ne hle fun e => hne ?_⟩
  refine dom_ext h' h (up_ext (vals_up h') (vals_up h) fun v => ⟨hs v, fun hv => ?_⟩)
  refine Classical.byContradiction fun hn => ?_
  have h1 : (v :: vals d').Nodup := List.nodup_cons.2 ⟨hn, up_nodup (vals_up h')⟩
  have h2 : (v :: vals d').length ≤ (vals d).length := h1.length_le_of_subset fun w hw => by
    rcases List.mem_cons.1 hw with rfl | hw
    · exact hv
    · exact hs w hw
  simp at h2; omega

/-- Domains made smaller, none of them empty. -/
structure Cutd (d out : Doms) : Prop where
  len : out.length = d.length
  fine : ∀ x ∈ out, Fine x
  ne : ∀ x ∈ out, x ≠ []
  sub : ∀ (i : Nat) x y, out[i]? = some x → d[i]? = some y → ∀ v ∈ vals x, v ∈ vals y

theorem Cutd.set {d out : Doms} (h : Cutd d out) {i : Nat} {x y : List (Int × Int)} (hy : out[i]? = some y) (hx : DomOk x) (hne : x ≠ []) (hs : ∀ v ∈ vals x, v ∈ vals y) : Cutd d (out.set i x) := by
  have hym := List.mem_of_getElem? hy
  refine ⟨by simp [h.len], fun z hz => ?_, fun z hz => ?_, fun j z w hz hw v hv => ?_⟩
  · rcases List.mem_or_eq_of_mem_set hz with hz | rfl
    · exact h.fine z hz
    · exact (h.fine y hym).cut hx hs
  · rcases List.mem_or_eq_of_mem_set hz with hz | rfl
    · exact h.ne z hz
    · exact hne
  · by_cases e : i = j
    · subst e
      have hlt := (List.getElem?_eq_some_iff.1 hy).1
      rw [List.getElem?_set_self hlt] at hz
      obtain rfl := Option.some.inj hz
      exact h.sub i y w hy hw v (hs v hv)
    · rw [List.getElem?_set_ne e] at hz
      exact h.sub j z w hz hw v hv

theorem stepO_inr {c : Con} {d out next : Doms} (hv : VarsIn out c) (h : Cutd d out) (hs : stepO c out = .inr next) : Cutd d next ∧ VarsIn next c ∧ weight next < weight out := by
  have hh := half_le c
  unfold stepO at hs
  split at hs
  · cases hs
  · rename_i hk
    have hkl : placeO out c < halfOf c := by have := placeF_le (pairO out c) (halfOf c); unfold placeO at hk ⊢; omega
    have hp : pairO out c (placeO out c) = false := placeF_here hkl
    have hv1 := hv.2 _ (varAt_mem (c := c) (k := placeO out c) (by omega))
    have hv2 := hv.2 _ (varAt_mem (c := c) (k := halfOf c + placeO out c) (by omega))
    have hab : varAt c (placeO out c) ≠ varAt c (halfOf c + placeO out c) := fun e => by rw [pairO, e] at hp; simp [knownB] at hp
    simp only at hs
    generalize varAt c (placeO out c) = a at *
    generalize varAt c (halfOf c + placeO out c) = b at *
    have ha := domAt_some hv1.2
    have hb := domAt_some hv2.2
    have fa := h.fine _ (domAt_mem hv1.2)
    have fb := h.fine _ (domAt_mem hv2.2)
    generalize domAt out a = da at *
    generalize domAt out b = db at *
    obtain ⟨x1, x2⟩ := domCut_ok fa.ok (-1048576) (lastR db)
    obtain ⟨y1, y2⟩ := domCut_ok fb.ok (leastR da) 1048576
    generalize domCut da (-1048576) (lastR db) = x at *
    generalize domCut db (leastR da) 1048576 = y at *
    split at hs
    · cases hs
    · rename_i hne
      split at hs
      · cases hs
      · rename_i hns
        obtain rfl := Sum.inr.inj hs
        have hsx : ∀ v ∈ vals x, v ∈ vals da := fun v hv => ((x2 v).1 hv).1
        have hsy : ∀ v ∈ vals y, v ∈ vals db := fun v hv => ((y2 v).1 hv).1
        have hne' : a.toNat ≠ b.toNat := by omega
        have hb' : (out.set a.toNat x)[b.toNat]? = some db := by rw [List.getElem?_set_ne hne']; exact hb
        refine ⟨(h.set ha x1 (fun e => hne (.inl e)) hsx).set hb' y1 (fun e => hne (.inr e)) hsy, (hv.set _ _).set _ _, ?_⟩
        have w1 := weight_set x ha
        have w2 := weight_set y hb'
        have l1 := sub_lt fa.ok x1 hsx
        have l2 := sub_lt fb.ok y1 hsy
        by_cases e1 : x = da
        · have e2 : y ≠ db := fun e => hns ⟨e1, e⟩
          have := l2.2 e2
          subst e1; omega
        · have := l1.2 e1
          omega

/-- What the program's pruner answers. -/
theorem pruneO_ex {c : Con} {d : Doms} (hv : VarsIn d c) (hf : ∀ x ∈ d, Fine x) : ∃ R N, (if [] ∈ d then R = none else iter (stepO c) N d = some R) ∧ (∀ out, R = some out → Cutd d out ∧ stepO c out = .inl (some out)) := by
  by_cases he : [] ∈ d
  · exact ⟨none, 0, by rw [if_pos he], fun out h => by cases h⟩
  · have h0 : Cutd d d := ⟨rfl, hf, fun x hx e => he (e ▸ hx), fun i x y hx hy v hv => by rw [hx] at hy; exact Option.some.inj hy ▸ hv⟩
    have hst : ∀ x y, (Cutd d x ∧ VarsIn x c) → stepO c x = .inr y → (Cutd d y ∧ VarsIn y c) ∧ weight y < weight x := fun x y hi hs => by
      have := stepO_inr hi.2 hi.1 hs
      exact ⟨⟨this.1, this.2.1⟩, this.2.2⟩
    obtain ⟨N, R, hR⟩ := iter_ex (step := stepO c) (fun x => Cutd d x ∧ VarsIn x c) weight hst d ⟨h0, hv⟩
    refine ⟨R, N, by rw [if_neg he]; exact hR, fun out h => ?_⟩
    obtain ⟨z, hz, hs⟩ := iter_end (fun x => Cutd d x ∧ VarsIn x c) (fun x y hi hs => (hst x y hi hs).1) N d R ⟨h0, hv⟩ hR
    have : z = out := by
      subst h
      unfold stepO at hs
      split at hs
      · simpa using hs
      · simp only at hs
        split at hs
        · simp at hs
        · split at hs
          · simpa using hs
          · cases hs
    subst this
    rw [h] at hs
    exact ⟨hz.1, hs⟩

/-- At the first place the one's values stand at most at the other's greatest, and so on. -/
theorem pruneO_first {c : Con} {d out : Doms} (hv : VarsIn out c) (h : Cutd d out) (hs : stepO c out = .inl (some out)) (h2 : 2 ≤ c.vars.length) :
    lastR (domAt out (varAt c 0)) ≤ lastR (domAt out (varAt c (halfOf c))) ∧ leastR (domAt out (varAt c 0)) ≤ leastR (domAt out (varAt c (halfOf c))) := by
  have hh := half_le c
  have hpos : 0 < halfOf c := by unfold halfOf; omega
  have hv1 := hv.2 _ (varAt_mem (c := c) (k := 0) (by omega))
  have hv2 := hv.2 _ (varAt_mem (c := c) (k := halfOf c) (by omega))
  have fa := h.fine _ (domAt_mem hv1.2)
  have fb := h.fine _ (domAt_mem hv2.2)
  have na := h.ne _ (domAt_mem hv1.2)
  have nb := h.ne _ (domAt_mem hv2.2)
  by_cases hk : 0 < placeO out c
  · have hp : pairO out c 0 = true := placeF_before hk
    rw [pairO, Nat.add_zero, knownB_iff fa.ok fb.ok] at hp
    rcases hp with e | ⟨_, e⟩
    · rw [e]; exact ⟨Int.le_refl _, Int.le_refl _⟩
    · rw [e]; exact ⟨Int.le_refl _, Int.le_refl _⟩
  · have hk0 : placeO out c = 0 := by omega
    unfold stepO at hs
    rw [hk0] at hs
    rw [if_neg (by omega)] at hs
    simp only [Nat.add_zero] at hs
    generalize domAt out (varAt c 0) = da at *
    generalize domAt out (varAt c (halfOf c)) = db at *
    split at hs
    · simp at hs
    · split at hs
      · rename_i e
        have e1 := (domCut_ok fa.ok (-1048576) (lastR db)).2 (lastR da)
        have e2 := (domCut_ok fb.ok (leastR da) 1048576).2 (leastR db)
        rw [e.1] at e1
        rw [e.2] at e2
        exact ⟨(e1.1 (last_mem fa.ok na)).2.2, (e2.1 (least_mem fb.ok nb)).2.1⟩
      · cases hs
theorem within_cutd {d out : Doms} (h : Cutd d out) : withinR out d = true := by
  rw [withinR_iff]
  refine ⟨h.len, fun i x y hx hy => ?_⟩
  have hs := h.sub i x y hx hy
  have : (vals x).filter (fun v => decide (v ∈ vals y) == false) = [] := by
    rw [List.filter_eq_nil_iff]
    intro v hv
    simp [hs v hv]
  rw [pickR, this]; rfl
end Go.Proofs.Ytdflkbmpbblcfaa
/-! Lists of domains of one shape. -/
namespace Go.Proofs.Ytdflkbmpbblcfaa
open Go Go.RowKit
set_option linter.unusedVariables false

/-- Of one shape: lists of domains. -/
theorem sh_doms {D : Doms} {p : PV} (h : Sh (doms D) p) : ∃ D' : Doms, p = doms D' ∧ D'.map List.length = D.map List.length := by
  cases h with
  | sl rs ts h =>
    have : ∀ (D : Doms) (ts : List (List PV)), L2 (L2 Sh) (D.map cD) ts → ∃ D' : Doms, ts = D'.map cD ∧ D'.map List.length = D.map List.length := by
      intro D
      induction D with
      | nil => intro ts h; cases h; exact ⟨[], rfl, rfl⟩
      | cons x D ih =>
        intro ts h
        cases h with
        | cons h1 h2 =>
          obtain ⟨D', rfl, e⟩ := ih _ h2
          cases h1 with
          | cons h3 h4 =>
            cases h4
            cases h3 with
            | sl rs ts h5 =>
              have : ∀ (x : List (Int × Int)) (ts : List (List PV)), L2 (L2 Sh) (x.map cR) ts → ∃ x' : List (Int × Int), ts = x'.map cR ∧ x'.length = x.length := by
                intro x
                induction x with
                | nil => intro ts h; cases h; exact ⟨[], rfl, rfl⟩
                | cons r x ih =>
                  intro ts h
                  cases h with
                  | cons h1 h2 =>
                    obtain ⟨x', rfl, e⟩ := ih _ h2
                    cases h1 with
                    | cons h3 h4 => cases h4 with
                      | cons h5 h6 =>
                        cases h6
                        cases h3
                        cases h5
                        rename_i a b
                        exact ⟨(a, b) :: x', rfl, by simp [e]⟩
              obtain ⟨x', rfl, e2⟩ := this _ _ h5
              exact ⟨x' :: D', rfl, by simp [e, e2]⟩
    obtain ⟨D', rfl, e⟩ := this _ _ h
    exact ⟨D', rfl, e⟩
end Go.Proofs.Ytdflkbmpbblcfaa
/-! Sums over domains: what the machine counts is what it says. -/
namespace Go.Proofs.Ytdflkbmpbblcfaa
open Go Go.RowKit
set_option linter.unusedVariables false
set_option linter.unusedSimpArgs false

abbrev wr (n : Int) : Int := IntKind.i64.wrap n
/-- A product that is watched. -/
def smallI (n : Int) : Bool := decide (-4611686018427387904 ≤ n) && decide (n ≤ 4611686018427387904)
def mulI (a b : Int) : Int × Bool := if smallI a && smallI b && smallI (a * b) then (a * b, true) else (0, false)
/-- A term's end, as the program counts it. -/
def endW (d : List (Int × Int)) (k : Int) (high : Bool) : Int × Bool := ((mulI k (if decide (0 < k) == high then lastR d else leastR d)).1, !d.isEmpty && (mulI k (if decide (0 < k) == high then lastR d else leastR d)).2)
def endsGo : List (List (Int × Int) × Int) → Int → Int → Int × Int × Bool
  | [], lo, hi => (lo, hi, true)
  | (x, k) :: ts, lo, hi => if (endW x k false).2 then endsGo ts (wr (lo + (endW x k false).1)) (wr (hi + (endW x k true).1)) else (0, 0, false)
def termsOf (d : Doms) (vars coefs : List Int) : List (List (Int × Int) × Int) := (vars.zip coefs).map fun p => (domAt d p.1, p.2)
def endsW (d : Doms) (vars coefs : List Int) : Int × Int × Bool := endsGo (termsOf d vars coefs) 0 0
/-- The same by the document. -/
def endR (d : List (Int × Int)) (k : Int) : Int × Int × Bool := (min (wr (k * (endsR d).1)) (wr (k * (endsR d).2.1)), max (wr (k * (endsR d).1)) (wr (k * (endsR d).2.1)), (endsR d).2.2)
def endsRGo : List (List (Int × Int) × Int) → Int → Int → Int × Int × Bool
  | [], lo, hi => (lo, hi, true)
  | (x, k) :: ts, lo, hi => if (endR x k).2.2 then endsRGo ts (wr (lo + (endR x k).1)) (wr (hi + (endR x k).2.1)) else (0, 0, false)
def endsRW (d : Doms) (vars coefs : List Int) : Int × Int × Bool := endsRGo (termsOf d vars coefs) 0 0

/-! Plain numbers. -/
def lowE (d : List (Int × Int)) (k : Int) : Int := if 0 < k then k * leastR d else k * lastR d
def highE (d : List (Int × Int)) (k : Int) : Int := if 0 < k then k * lastR d else k * leastR d
def lowS (ts : List (List (Int × Int) × Int)) : Int := (ts.map fun t => lowE t.1 t.2).sum
def highS (ts : List (List (Int × Int) × Int)) : Int := (ts.map fun t => highE t.1 t.2).sum
def absK (k : Int) : Int := max k (-k)
def weightK (coefs : List Int) : Int := (coefs.map fun k => absK k * 1048576).sum

theorem absK_pos (k : Int) : 0 ≤ absK k := by unfold absK; omega
theorem mul_in (k x : Int) (h1 : -1048576 ≤ x) (h2 : x ≤ 1048576) : -(absK k * 1048576) ≤ k * x ∧ k * x ≤ absK k * 1048576 := by
  unfold absK
  by_cases hk : 0 ≤ k
  · have e1 := Int.mul_le_mul_of_nonneg_left h2 hk
    have e2 := Int.mul_le_mul_of_nonneg_left h1 hk
    rw [show max k (-k) = k by omega]
    omega
  · have hk' : 0 ≤ -k := by omega
    have e1 := Int.mul_le_mul_of_nonneg_left h2 hk'
    have e2 := Int.mul_le_mul_of_nonneg_left h1 hk'
    rw [Int.neg_mul] at e1 e2
    rw [show max k (-k) = -k by omega]
    rw [Int.neg_mul] at e1 e2 ⊢
    omega
theorem ends_in {d : List (Int × Int)} (h : Fine d) (hne : d ≠ []) : -1048576 ≤ leastR d ∧ leastR d ≤ lastR d ∧ lastR d ≤ 1048576 := by
  have h1 := least_mem h.ok hne
  have h2 := last_mem h.ok hne
  have := h.val _ h1
  have := h.val _ h2
  have := le_last h.ok h1
  omega
theorem lowE_in {d : List (Int × Int)} (h : Fine d) (hne : d ≠ []) (k : Int) : -(absK k * 1048576) ≤ lowE d k ∧ lowE d k ≤ highE d k ∧ highE d k ≤ absK k * 1048576 := by
  obtain ⟨h1, h2, h3⟩ := ends_in h hne
  have m1 := mul_in k (leastR d) h1 (by omega)
  have m2 := mul_in k (lastR d) (by omega) h3
  unfold lowE highE
  by_cases hk : 0 < k
  · rw [if_pos hk, if_pos hk]
    have := Int.mul_le_mul_of_nonneg_left h2 (show 0 ≤ k by omega)
    omega
  · rw [if_neg hk, if_neg hk]
    have := Int.mul_le_mul_of_nonpos_left (show k ≤ 0 by omega) h2
    omega
/-- Right coefficients: not 0, not too great. -/
def CoefOk (k : Int) : Prop := k ≠ 0 ∧ absK k ≤ 4398046511104
theorem mulI_ok {k x : Int} (hk : CoefOk k) (h1 : -1048576 ≤ x) (h2 : x ≤ 1048576) : mulI k x = (k * x, true) := by
  have m := mul_in k x h1 h2
  have h3 := hk.2
  unfold mulI smallI
  have e : absK k = max k (-k) := rfl
  rw [if_pos]
  simp only [Bool.and_eq_true, decide_eq_true_eq]
  omega
theorem endW_ok {d : List (Int × Int)} {k : Int} (h : Fine d) (hne : d ≠ []) (hk : CoefOk k) : endW d k false = (lowE d k, true) ∧ endW d k true = (highE d k, true) := by
  obtain ⟨h1, h2, h3⟩ := ends_in h hne
  have hb : d.isEmpty = false := by cases d with
    | nil => exact absurd rfl hne
    | cons r d => rfl
  unfold endW lowE highE
  rw [hb]
  by_cases hp : 0 < k
  · rw [decide_eq_true hp, if_pos hp, if_pos hp]
    simp only [Bool.not_false, Bool.true_and, beq_self_eq_true, if_true]
    rw [if_neg (by decide), mulI_ok hk h1 (by omega), mulI_ok hk (by omega) h3]
    exact ⟨rfl, rfl⟩
  · rw [decide_eq_false hp, if_neg hp, if_neg hp]
    simp only [Bool.not_false, Bool.true_and, beq_self_eq_true, if_true]
    rw [if_neg (by decide), mulI_ok hk h1 (by omega), mulI_ok hk (by omega) h3]
    exact ⟨rfl, rfl⟩
theorem endW_empty (k : Int) (hk : CoefOk k) (high : Bool) : endW [] k high = (0, false) := by
  unfold endW
  have : mulI k 0 = (0, true) := by have := mulI_ok hk (x := 0) (by decide) (by decide); simpa using this
  simp only [lastR, leastR, List.getLast?_nil, ite_self, this]
  rfl
theorem endR_ok {d : List (Int × Int)} {k : Int} (h : Fine d) (hne : d ≠ []) (hk : CoefOk k) : endR d k = (lowE d k, highE d k, true) := by
  obtain ⟨h1, h2, h3⟩ := ends_in h hne
  have m1 := mul_in k (leastR d) h1 (by omega)
  have m2 := mul_in k (lastR d) (by omega) h3
  have h4 := hk.2
  unfold endR wr
  rw [endsR_eq h.ok hne]
  simp only
  rw [wrap_id (by omega) (by omega), wrap_id (by omega) (by omega)]
  unfold lowE highE
  by_cases hp : 0 < k
  · rw [if_pos hp, if_pos hp]
    have := Int.mul_le_mul_of_nonneg_left h2 (show 0 ≤ k by omega)
    rw [show min (k * leastR d) (k * lastR d) = k * leastR d by omega, show max (k * leastR d) (k * lastR d) = k * lastR d by omega]
  · rw [if_neg hp, if_neg hp]
    have := Int.mul_le_mul_of_nonpos_left (show k ≤ 0 by omega) h2
    rw [show min (k * leastR d) (k * lastR d) = k * lastR d by omega, show max (k * leastR d) (k * lastR d) = k * leastR d by omega]
theorem endR_empty (k : Int) : (endR [] k).2.2 = false := rfl

/-- Terms that fit. -/
def TermsOk (ts : List (List (Int × Int) × Int)) : Prop := ∀ t ∈ ts, Fine t.1 ∧ CoefOk t.2
def weightT (ts : List (List (Int × Int) × Int)) : Int := weightK (ts.map (·.2))
theorem weightT_cons (t : List (Int × Int) × Int) (ts) : weightT (t :: ts) = absK t.2 * 1048576 + weightT ts := by simp [weightT, weightK]
theorem weightT_pos : ∀ ts, 0 ≤ weightT ts
  | [] => by simp [weightT, weightK]
  | t :: ts => by
    rw [weightT_cons]
    have := weightT_pos ts
    have := absK_pos t.2
    omega
theorem sums_in : ∀ {ts : List (List (Int × Int) × Int)}, TermsOk ts → (∀ t ∈ ts, t.1 ≠ []) → -weightT ts ≤ lowS ts ∧ lowS ts ≤ highS ts ∧ highS ts ≤ weightT ts
  | [], _, _ => by simp [weightT, weightK, lowS, highS]
  | t :: ts, h, hne => by
    obtain ⟨h1, h2, h3⟩ := sums_in (ts := ts) (fun t ht => h t (.tail _ ht)) (fun t ht => hne t (.tail _ ht))
    obtain ⟨h4, h5, h6⟩ := lowE_in (h t (.head _)).1 (hne t (.head _)) t.2
    rw [weightT_cons]
    simp only [lowS, highS, List.map_cons, List.sum_cons] at h1 h2 h3 ⊢
    omega
theorem endsGo_ok : ∀ {ts : List (List (Int × Int) × Int)} (lo hi : Int), TermsOk ts → (∀ t ∈ ts, t.1 ≠ []) → -4611686018427388928 ≤ lo - weightT ts → lo + weightT ts ≤ 4611686018427388928 → -4611686018427388928 ≤ hi - weightT ts → hi + weightT ts ≤ 4611686018427388928 → endsGo ts lo hi = (lo + lowS ts, hi + highS ts, true)
  | [], lo, hi, _, _, _, _, _, _ => by simp [endsGo, lowS, highS]
  | (x, k) :: ts, lo, hi, h, hne, h1, h2, h3, h4 => by
    obtain ⟨hf, hk⟩ := h _ (.head _)
    have hx := hne _ (.head _)
    obtain ⟨e1, e2⟩ := endW_ok hf hx hk
    obtain ⟨b1, b2, b3⟩ := lowE_in hf hx k
    have hp := weightT_pos ts
    rw [weightT_cons] at h1 h2 h3 h4
    simp only at h1 h2 h3 h4 e1 e2 b1 b2 b3
    rw [endsGo, e1, e2, if_pos rfl]
    simp only [wr]
    rw [wrap_id (by omega) (by omega), wrap_id (by omega) (by omega), endsGo_ok _ _ (fun t ht => h t (.tail _ ht)) (fun t ht => hne t (.tail _ ht)) (by omega) (by omega) (by omega) (by omega)]
    simp only [lowS, highS, List.map_cons, List.sum_cons, Prod.mk.injEq, and_true]
    omega
theorem endsRGo_ok : ∀ {ts : List (List (Int × Int) × Int)} (lo hi : Int), TermsOk ts → (∀ t ∈ ts, t.1 ≠ []) → -4611686018427388928 ≤ lo - weightT ts → lo + weightT ts ≤ 4611686018427388928 → -4611686018427388928 ≤ hi - weightT ts → hi + weightT ts ≤ 4611686018427388928 → endsRGo ts lo hi = (lo + lowS ts, hi + highS ts, true)
  | [], lo, hi, _, _, _, _, _, _ => by simp [endsRGo, lowS, highS]
  | (x, k) :: ts, lo, hi, h, hne, h1, h2, h3, h4 => by
    obtain ⟨hf, hk⟩ := h _ (.head _)
    have hx := hne _ (.head _)
    have e1 := endR_ok hf hx hk
    obtain ⟨b1, b2, b3⟩ := lowE_in hf hx k
    have hp := weightT_pos ts
    rw [weightT_cons] at h1 h2 h3 h4
    simp only at h1 h2 h3 h4 e1 b1 b2 b3
    rw [endsRGo, e1, if_pos rfl]
    simp only [wr]
    rw [wrap_id (by omega) (by omega), wrap_id (by omega) (by omega), endsRGo_ok _ _ (fun t ht => h t (.tail _ ht)) (fun t ht => hne t (.tail _ ht)) (by omega) (by omega) (by omega) (by omega)]
    simp only [lowS, highS, List.map_cons, List.sum_cons, Prod.mk.injEq, and_true]
    omega
theorem endsGo_empty : ∀ {ts : List (List (Int × Int) × Int)} (lo hi : Int), TermsOk ts → (∃ t ∈ ts, t.1 = []) → endsGo ts lo hi = (0, 0, false) ∧ endsRGo ts lo hi = (0, 0, false)
  | [], lo, hi, _, h => by obtain ⟨t, ht, _⟩ := h; cases ht
  | (x, k) :: ts, lo, hi, h, he => by
    obtain ⟨hf, hk⟩ := h _ (.head _)
    by_cases hx : x = []
    · subst hx
      rw [endsGo, endsRGo, endW_empty k hk, endR_empty]
      exact ⟨rfl, rfl⟩
    · obtain ⟨e1, e2⟩ := endW_ok hf hx hk
      have e3 := endR_ok hf hx hk
      simp only at e1 e2 e3
      rw [endsGo, endsRGo, e1, e2, e3, if_pos rfl, if_pos rfl]
      refine endsGo_empty _ _ (fun t ht => h t (.tail _ ht)) ?_
      obtain ⟨t, ht, e⟩ := he
      cases ht with
      | head => exact absurd e hx
      | tail _ ht => exact ⟨t, ht, e⟩
/-- Both count the same. -/
theorem ends_same {ts : List (List (Int × Int) × Int)} (h : TermsOk ts) (hw : weightT ts ≤ 4611686018427388928) : endsGo ts 0 0 = endsRGo ts 0 0 := by
  by_cases he : ∃ t ∈ ts, t.1 = []
  · obtain ⟨h1, h2⟩ := endsGo_empty 0 0 h he
    rw [h1, h2]
  · have hne : ∀ t ∈ ts, t.1 ≠ [] := fun t ht e => he ⟨t, ht, e⟩
    rw [endsGo_ok 0 0 h hne (by omega) (by omega) (by omega) (by omega), endsRGo_ok 0 0 h hne (by omega) (by omega) (by omega) (by omega)]
end Go.Proofs.Ytdflkbmpbblcfaa
/-! Contracts: numbers that are watched; a term's ends, a sum's. -/
namespace Go.Proofs.Ytdflkbmpbblcfaa
open Go Go.RowKit
set_option linter.unusedVariables false
set_option linter.unusedSimpArgs false
set_option maxRecDepth 8000

theorem wrapU (n : Int) : IntKind.u64.wrap n = n % 18446744073709551616 := by simp [IntKind.wrap, IntKind.bits, IntKind.signed]
theorem maskU (a : Nat) (ha : a < 18446744073709551616) : IntKind.u64.wrap (BitVec.ofInt IntKind.u64.bits (a : Int) &&& BitVec.ofInt IntKind.u64.bits 4294967295).toNat = ((a % 4294967296 : Nat) : Int) := by
  have e : (BitVec.ofInt IntKind.u64.bits (a : Int) &&& BitVec.ofInt IntKind.u64.bits 4294967295).toNat = a % 4294967296 := by
    rw [BitVec.toNat_and]
    have e1 : (BitVec.ofInt IntKind.u64.bits (a : Int)).toNat = a := by
      rw [BitVec.toNat_ofInt]
      have : ((2 ^ IntKind.u64.bits : Nat) : Int) = 18446744073709551616 := rfl
      rw [this]
      omega
    have e2 : (BitVec.ofInt IntKind.u64.bits 4294967295).toNat = 2 ^ 32 - 1 := rfl
    rw [e1, e2, Nat.and_two_pow_sub_one_eq_mod]
  rw [e, wrapU]
  omega
theorem shrU (a : Nat) : ((a : Int)).fdiv (2 ^ (min (32 : Int).toNat IntKind.u64.bits)) = ((a / 4294967296 : Nat) : Int) := by
  have : (2 : Int) ^ (min (32 : Int).toNat IntKind.u64.bits) = 4294967296 := rfl
  rw [this, Int.fdiv_eq_ediv_of_nonneg _ (by decide)]
  omega
theorem mulU (a b : Nat) : (a : Int) * (b : Int) = ((a * b : Nat) : Int) := (Int.natCast_mul a b).symm
theorem addU_ (a b : Nat) : (a : Int) + (b : Int) = ((a + b : Nat) : Int) := (Int.natCast_add a b).symm
theorem wrapN (a : Nat) (ha : a < 18446744073709551616) : IntKind.u64.wrap (a : Int) = (a : Int) := by rw [wrapU]; omega
theorem wrapM (a : Nat) : IntKind.u64.wrap (a : Int) = ((a % 18446744073709551616 : Nat) : Int) := by rw [wrapU]; omega
end Go.Proofs.Ytdflkbmpbblcfaa
/-! Contracts: a term's ends, a sum's, by the program, by the document; small words of sums. -/
namespace Go.Proofs.Ytdflkbmpbblcfaa
open Go Go.RowKit
set_option linter.unusedVariables false
set_option linter.unusedSimpArgs false
set_option maxRecDepth 8000

theorem ends_int {d : List (Int × Int)} (h : InB d) : -1048576 ≤ leastR d ∧ leastR d ≤ 1048576 ∧ -1048576 ≤ lastR d ∧ lastR d ≤ 1048576 := by
  constructor
  · cases d with
    | nil => simp [leastR]
    | cons r d => exact (h r (.head _)).1
  · constructor
    · cases d with
      | nil => simp [leastR]
      | cons r d => exact (h r (.head _)).2.1
    · unfold lastR
      cases hl : d.getLast? with
      | none => simp
      | some r =>
        have := h r (List.mem_of_getLast? hl)
        exact ⟨this.2.2.1, this.2.2.2⟩
theorem coef_int {k : Int} (h : CoefOk k) : -4398046511104 ≤ k ∧ k ≤ 4398046511104 := by
  have := h.2
  unfold absK at this
  omega

/-- Domains and a sum over them that may be reckoned. -/
structure SumIn (d : Doms) (vars coefs : List Int) : Prop where
  len : vars.length = coefs.length
  vl : vars.length * 8 ≤ 140737488355328
  vin : ∀ v ∈ vars, 0 ≤ v ∧ v.toNat < d.length
  ck : ∀ k ∈ coefs, CoefOk k
  dom : ∀ x ∈ d, DomB x
  dl : d.length * 24 ≤ 140737488355328
theorem terms_cons {d : Doms} {vars coefs : List Int} {i : Nat} (h1 : i < vars.length) (h2 : i < coefs.length) : (termsOf d vars coefs).drop i = (domAt d vars[i], coefs[i]) :: (termsOf d vars coefs).drop (i + 1) := by
  have hl : i < (termsOf d vars coefs).length := by simp [termsOf]; omega
  rw [List.drop_eq_getElem_cons hl]
  simp [termsOf]
theorem terms_end {d : Doms} {vars coefs : List Int} (h : vars.length = coefs.length) : (termsOf d vars coefs).drop vars.length = [] := by
  refine List.drop_of_length_le ?_
  simp [termsOf]; omega
/-- A quotient, cut down. -/
def floorW (a b : Int) : Int := if a.tmod b < 0 then wr (wr (a.tdiv b) - 1) else wr (a.tdiv b)
def turnedW (l : List Int) : List Int := l.map fun k => wr (0 - k)
/-- Domains, if none is empty. -/
theorem told_spec (d : Doms) (hl : d.length * 8 ≤ 140737488355328) : Spec Try.prog 31 true [doms d] ([doms (if [] ∈ d then [] else d), .bool (!decide ([] ∈ d))].map .val) := by
  refine Spec.body Try.func31 rfl rfl rfl fun w0 Z0 => ?_
  repeat' first | refine T.seq ?_ | refine T.block ?_ | refine T.r ?_ | refine J.e rfl rfl rfl rfl ?_ | refine J.nil ?_ | refine J.skip rfl rfl rfl ?_ | refine T.skip ?_ | refine T.exit ?_ | refine T.ret ?_ | refine T.rd rfl (by kernel_rfl) ?_ | refine J.bx rfl rfl rfl rfl rfl rfl ?_
  refine J.cc rfl rfl rfl rfl rfl (empty_spec d hl) rfl rfl ?_
  repeat' first | refine T.seq ?_ | refine T.block ?_ | refine T.r ?_ | refine J.e rfl rfl rfl rfl ?_ | refine J.nil ?_ | refine J.skip rfl rfl rfl ?_ | refine T.skip ?_ | refine T.exit ?_ | refine T.ret ?_ | refine T.rd rfl (by kernel_rfl) ?_ | refine J.bx rfl rfl rfl rfl rfl rfl ?_
  by_cases hm : [] ∈ d
  · rw [if_pos hm, decide_eq_true hm]
    refine T.ct rfl ?_
    repeat' first | refine T.seq ?_ | refine T.block ?_ | refine T.r ?_ | refine J.e rfl rfl rfl rfl ?_ | refine J.nil ?_ | refine J.skip rfl rfl rfl ?_ | refine T.skip ?_ | refine T.exit ?_ | refine T.ret ?_ | refine T.rd rfl (by kernel_rfl) ?_ | refine J.bx rfl rfl rfl rfl rfl rfl ?_
    exact ⟨_, .v rfl rfl rfl (fun h => by cases h) (.v rfl rfl rfl (fun h => by cases h) .nil)⟩
  · rw [if_neg hm, decide_eq_false hm]
    refine T.cf rfl ?_
    repeat' first | refine T.seq ?_ | refine T.block ?_ | refine T.r ?_ | refine J.e rfl rfl rfl rfl ?_ | refine J.nil ?_ | refine J.skip rfl rfl rfl ?_ | refine T.skip ?_ | refine T.exit ?_ | refine T.ret ?_ | refine T.rd rfl (by kernel_rfl) ?_ | refine J.bx rfl rfl rfl rfl rfl rfl ?_
    exact ⟨_, .v rfl rfl rfl (fun h => by cases h) (.v rfl rfl rfl (fun h => by cases h) .nil)⟩
def sizeW (d : List (Int × Int)) : Int := d.foldl (fun n r => wr (n + wr (wr (r.2 - r.1) + 1))) 0
theorem size_spec (d : List (Int × Int)) (hl : d.length * 8 ≤ 140737488355328) : Spec Try.prog 45 false [dm d] [.val (.int .i64 (sizeW d))] := by
  refine Spec.body Try.func45 rfl rfl rfl fun w0 Z0 => ?_
  repeat' first | refine T.seq ?_ | refine T.block ?_ | refine T.r ?_ | refine J.e rfl rfl rfl rfl ?_ | refine J.nil ?_ | refine J.skip rfl rfl rfl ?_ | refine T.skip ?_ | refine T.exit ?_ | refine T.ret ?_ | refine T.rd rfl (by kernel_rfl) ?_ | refine J.bx rfl rfl rfl rfl rfl rfl ?_
  refine T.canon (keep := [3, 6, 7, 8]) (os := []) rfl (T.list d (fun n pre post => ⟨[(3, .val true (.int .i64 (sizeW pre))), (6, .val false (dm d)), (7, .val true (.int .i64 (d.map cR).length)), (8, .val true (.int .i64 n))], [], 0⟩) (fun _ _ h => h) ?_ ?_)
  · rintro n pre x post h hn ih
    have hlt := at_lt h hn
    repeat' first | refine T.seq ?_ | refine T.block ?_ | refine T.r ?_ | refine J.e rfl rfl rfl rfl ?_ | refine J.nil ?_ | refine J.skip rfl rfl rfl ?_ | refine T.skip ?_ | refine T.exit ?_ | refine T.ret ?_ | refine T.rd rfl (by kernel_rfl) ?_ | refine J.bx rfl rfl rfl rfl rfl rfl ?_
    refine T.ct2 rfl (lt_at h hn) ?_
    repeat' first | refine T.seq ?_ | refine T.block ?_ | refine T.r ?_ | refine J.e rfl rfl rfl rfl ?_ | refine J.nil ?_ | refine J.skip rfl rfl rfl ?_ | refine T.skip ?_ | refine T.exit ?_ | refine T.ret ?_ | refine T.rd rfl (by kernel_rfl) ?_ | refine J.bx rfl rfl rfl rfl rfl rfl ?_
    refine J.i rfl rfl rfl rfl rfl rfl rfl rfl rfl (r := cR x) (by omega) (row_at h hn) rfl ?_
    repeat' first | refine T.seq ?_ | refine T.block ?_ | refine T.r ?_ | refine J.e rfl rfl rfl rfl ?_ | refine J.nil ?_ | refine J.skip rfl rfl rfl ?_ | refine T.skip ?_ | refine T.exit ?_ | refine T.ret ?_ | refine T.rd rfl (by kernel_rfl) ?_ | refine J.bx rfl rfl rfl rfl rfl rfl ?_
    refine J.al rfl rfl rfl rfl rfl rfl rfl ?_
    repeat' first | refine T.seq ?_ | refine T.block ?_ | refine T.r ?_ | refine J.e rfl rfl rfl rfl ?_ | refine J.nil ?_ | refine J.skip rfl rfl rfl ?_ | refine T.skip ?_ | refine T.exit ?_ | refine T.ret ?_ | refine T.rd rfl (by kernel_rfl) ?_ | refine J.bx rfl rfl rfl rfl rfl rfl ?_
    refine J.w rfl rfl rfl rfl rfl rfl rfl rfl rfl rfl ?_
    repeat' first | refine T.seq ?_ | refine T.block ?_ | refine T.r ?_ | refine J.e rfl rfl rfl rfl ?_ | refine J.nil ?_ | refine J.skip rfl rfl rfl ?_ | refine T.skip ?_ | refine T.exit ?_ | refine T.ret ?_ | refine T.rd rfl (by kernel_rfl) ?_ | refine J.bx rfl rfl rfl rfl rfl rfl ?_
    rw [wrap1 hlt (by omega), show IntKind.i64.wrap (sizeW pre + IntKind.i64.wrap (IntKind.i64.wrap (x.2 - x.1) + 1)) = sizeW (pre ++ [x]) by simp [sizeW]]
    exact T.canon (keep := [3, 6, 7, 8]) (os := []) rfl ih
  · repeat' first | refine T.seq ?_ | refine T.block ?_ | refine T.r ?_ | refine J.e rfl rfl rfl rfl ?_ | refine J.nil ?_ | refine J.skip rfl rfl rfl ?_ | refine T.skip ?_ | refine T.exit ?_ | refine T.ret ?_ | refine T.rd rfl (by kernel_rfl) ?_ | refine J.bx rfl rfl rfl rfl rfl rfl ?_
    refine T.cf2 rfl lt_end ?_
    repeat' first | refine T.seq ?_ | refine T.block ?_ | refine T.r ?_ | refine J.e rfl rfl rfl rfl ?_ | refine J.nil ?_ | refine J.skip rfl rfl rfl ?_ | refine T.skip ?_ | refine T.exit ?_ | refine T.ret ?_ | refine T.rd rfl (by kernel_rfl) ?_ | refine J.bx rfl rfl rfl rfl rfl rfl ?_
    exact ⟨_, .v rfl rfl rfl (fun _ => rfl) .nil⟩
end Go.Proofs.Ytdflkbmpbblcfaa
/-! The entry of the statements of order: a case, as it is handed in. -/
namespace Go.Proofs.Ytdflkbmpbblcfaa
open Go Go.RowKit
set_option linter.unusedVariables false
set_option maxRecDepth 100000

section
variable {H : Type} {henc : TypeId × Value → H} {w : World}
theorem opens_I : Opens henc Try.prog w 3 cI (fun n => -9223372036854775808 ≤ n ∧ n ≤ 9223372036854775807) := opens_int (by kernel_rfl)
theorem opens_IL : Opens henc Try.prog w 23 (fun l => [ints l]) (fun l => l.length * 8 ≤ reachBytes) :=
  (opens_slice (t := 23) (e := 3) (by kernel_rfl) opens_I (fun _ => by kernel_rfl) (by decide +kernel) (fun a p hp => by simp [cI] at hp; subst hp; rfl)).map id (fun _ => rfl) fun l h => h.1
theorem opens_LL : Opens henc Try.prog w 22 (fun l => [lists l]) (fun l => l.length * 24 ≤ reachBytes ∧ ∀ x ∈ l, x.length * 8 ≤ reachBytes) :=
  (opens_slice (t := 22) (e := 23) (by kernel_rfl) opens_IL (fun _ => by kernel_rfl) (by decide +kernel) (fun a p hp => by simp at hp; subst hp; rfl)).map id (fun _ => rfl) fun l h => h
theorem opens_con : Opens henc Try.prog w 28 cC ConB := by
  have h := opens_struct (henc := henc) (w := w) Try.underlying28 (opensL_cons opens_I rfl (opensL_cons opens_IL (by kernel_rfl) (opensL_cons opens_IL (by kernel_rfl) (opensL_cons opens_I (by kernel_rfl) (opensL_cons opens_I (by kernel_rfl) (opensL_cons opens_LL (by kernel_rfl) (opensL_cons opens_I (by kernel_rfl) (opensL_nil _)))))))) (by kernel_rfl)
  refine h.map (fun x => (⟨x.1, x.2.1, x.2.2.1, x.2.2.2.1, x.2.2.2.2.1, x.2.2.2.2.2.1, x.2.2.2.2.2.2.1⟩ : Con)) (fun _ => rfl) fun x h => ?_
  obtain ⟨_, h1, h2, _, _, h3, _⟩ := h
  have e : reachBytes = 140737488351232 := rfl
  rw [e] at h1 h2 h3
  exact ⟨by simp only; omega, by simp only; omega, by simp only; omega, fun y hy => by have := h3.2 y hy; omega⟩
theorem case_one (o : Case) : ∀ p ∈ cCase o, p.one = true := by
  intro p hp
  simp [cCase, cC] at hp
  rcases hp with rfl | rfl | rfl | rfl | rfl | rfl | rfl | rfl | rfl | rfl <;> rfl
end
end Go.Proofs.Ytdflkbmpbblcfaa
