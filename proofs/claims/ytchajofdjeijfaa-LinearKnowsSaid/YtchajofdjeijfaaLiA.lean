/- Sums over domains: what the machine counts is what it says. -/
import Derived.Test.YtchajofdjeijfaaPuC
namespace Go.Proofs.Ytchajofdjeijfaa
open Go Go.RowKit
set_option linter.unusedVariables false
set_option linter.unusedSimpArgs false

abbrev wr (n : Int) : Int := IntKind.i64.wrap n
/-- A product that is watched. -/
def smallI (n : Int) : Bool := decide (-4611686018427387904 ≤ n) && decide (n ≤ 4611686018427387904)
def mulI (a b : Int) : Int × Bool := if smallI a && smallI b && smallI (a * b) then (a * b, true) else (0, false)
/-- A term's end, as the program counts it. -/
def endW (d : List (Int × Int)) (k : Int) (high : Bool) : Int × Bool := ((mulI k (if decide (0 < k) == high then lastR d else leastR d)).1, !d.isEmpty && (mulI k (if decide (0 < k) == high then lastR d else leastR d)).2)
def endsGo : List (List (Int × Int) × Int) → Int → Int → Int × Int × Bool
  | [], lo, hi => (lo, hi, true)
  | (x, k) :: ts, lo, hi => if (endW x k false).2 then endsGo ts (wr (lo + (endW x k false).1)) (wr (hi + (endW x k true).1)) else (0, 0, false)
def termsOf (d : Doms) (vars coefs : List Int) : List (List (Int × Int) × Int) := (vars.zip coefs).map fun p => (domAt d p.1, p.2)
def endsW (d : Doms) (vars coefs : List Int) : Int × Int × Bool := endsGo (termsOf d vars coefs) 0 0
/-- The same by the document. -/
def endR (d : List (Int × Int)) (k : Int) : Int × Int × Bool := (min (wr (k * (endsR d).1)) (wr (k * (endsR d).2.1)), max (wr (k * (endsR d).1)) (wr (k * (endsR d).2.1)), (endsR d).2.2)
def endsRGo : List (List (Int × Int) × Int) → Int → Int → Int × Int × Bool
  | [], lo, hi => (lo, hi, true)
  | (x, k) :: ts, lo, hi => if (endR x k).2.2 then endsRGo ts (wr (lo + (endR x k).1)) (wr (hi + (endR x k).2.1)) else (0, 0, false)
def endsRW (d : Doms) (vars coefs : List Int) : Int × Int × Bool := endsRGo (termsOf d vars coefs) 0 0

/-! Plain numbers. -/
def lowE (d : List (Int × Int)) (k : Int) : Int := if 0 < k then k * leastR d else k * lastR d
def highE (d : List (Int × Int)) (k : Int) : Int := if 0 < k then k * lastR d else k * leastR d
def lowS (ts : List (List (Int × Int) × Int)) : Int := (ts.map fun t => lowE t.1 t.2).sum
def highS (ts : List (List (Int × Int) × Int)) : Int := (ts.map fun t => highE t.1 t.2).sum
def absK (k : Int) : Int := max k (-k)
def weightK (coefs : List Int) : Int := (coefs.map fun k => absK k * 1048576).sum

theorem absK_pos (k : Int) : 0 ≤ absK k := by unfold absK; omega
theorem mul_in (k x : Int) (h1 : -1048576 ≤ x) (h2 : x ≤ 1048576) : -(absK k * 1048576) ≤ k * x ∧ k * x ≤ absK k * 1048576 := by
  unfold absK
  by_cases hk : 0 ≤ k
  · have e1 := Int.mul_le_mul_of_nonneg_left h2 hk
    have e2 := Int.mul_le_mul_of_nonneg_left h1 hk
    rw [show max k (-k) = k by omega]
    omega
  · have hk' : 0 ≤ -k := by omega
    have e1 := Int.mul_le_mul_of_nonneg_left h2 hk'
    have e2 := Int.mul_le_mul_of_nonneg_left h1 hk'
    rw [Int.neg_mul] at e1 e2
    rw [show max k (-k) = -k by omega]
    rw [Int.neg_mul] at e1 e2 ⊢
    omega
theorem ends_in {d : List (Int × Int)} (h : Fine d) (hne : d ≠ []) : -1048576 ≤ leastR d ∧ leastR d ≤ lastR d ∧ lastR d ≤ 1048576 := by
  have h1 := least_mem h.ok hne
  have h2 := last_mem h.ok hne
  have := h.val _ h1
  have := h.val _ h2
  have := le_last h.ok h1
  omega
theorem lowE_in {d : List (Int × Int)} (h : Fine d) (hne : d ≠ []) (k : Int) : -(absK k * 1048576) ≤ lowE d k ∧ lowE d k ≤ highE d k ∧ highE d k ≤ absK k * 1048576 := by
  obtain ⟨h1, h2, h3⟩ := ends_in h hne
  have m1 := mul_in k (leastR d) h1 (by omega)
  have m2 := mul_in k (lastR d) (by omega) h3
  unfold lowE highE
  by_cases hk : 0 < k
  · rw [if_pos hk, if_pos hk]
    have := Int.mul_le_mul_of_nonneg_left h2 (show 0 ≤ k by omega)
    omega
  · rw [if_neg hk, if_neg hk]
    have := Int.mul_le_mul_of_nonpos_left (show k ≤ 0 by omega) h2
    omega
/-- Right coefficients: not 0, not too great. -/
def CoefOk (k : Int) : Prop := k ≠ 0 ∧ absK k ≤ 4398046511104
theorem mulI_ok {k x : Int} (hk : CoefOk k) (h1 : -1048576 ≤ x) (h2 : x ≤ 1048576) : mulI k x = (k * x, true) := by
  have m := mul_in k x h1 h2
  have h3 := hk.2
  unfold mulI smallI
  have e : absK k = max k (-k) := rfl
  rw [if_pos]
  simp only [Bool.and_eq_true, decide_eq_true_eq]
  omega
theorem endW_ok {d : List (Int × Int)} {k : Int} (h : Fine d) (hne : d ≠ []) (hk : CoefOk k) : endW d k false = (lowE d k, true) ∧ endW d k true = (highE d k, true) := by
  obtain ⟨h1, h2, h3⟩ := ends_in h hne
  have hb : d.isEmpty = false := by cases d with
    | nil => exact absurd rfl hne
    | cons r d => rfl
  unfold endW lowE highE
  rw [hb]
  by_cases hp : 0 < k
  · rw [decide_eq_true hp, if_pos hp, if_pos hp]
    simp only [Bool.not_false, Bool.true_and, beq_self_eq_true, if_true]
    rw [if_neg (by decide), mulI_ok hk h1 (by omega), mulI_ok hk (by omega) h3]
    exact ⟨rfl, rfl⟩
  · rw [decide_eq_false hp, if_neg hp, if_neg hp]
    simp only [Bool.not_false, Bool.true_and, beq_self_eq_true, if_true]
    rw [if_neg (by decide), mulI_ok hk h1 (by omega), mulI_ok hk (by omega) h3]
    exact ⟨rfl, rfl⟩
theorem endW_empty (k : Int) (hk : CoefOk k) (high : Bool) : endW [] k high = (0, false) := by
  unfold endW
  have : mulI k 0 = (0, true) := by have := mulI_ok hk (x := 0) (by decide) (by decide); simpa using this
  simp only [lastR, leastR, List.getLast?_nil, ite_self, this]
  rfl
theorem endR_ok {d : List (Int × Int)} {k : Int} (h : Fine d) (hne : d ≠ []) (hk : CoefOk k) : endR d k = (lowE d k, highE d k, true) := by
  obtain ⟨h1, h2, h3⟩ := ends_in h hne
  have m1 := mul_in k (leastR d) h1 (by omega)
  have m2 := mul_in k (lastR d) (by omega) h3
  have h4 := hk.2
  unfold endR wr
  rw [endsR_eq h.ok hne]
  simp only
  rw [wrap_id (by omega) (by omega), wrap_id (by omega) (by omega)]
  unfold lowE highE
  by_cases hp : 0 < k
  · rw [if_pos hp, if_pos hp]
    have := Int.mul_le_mul_of_nonneg_left h2 (show 0 ≤ k by omega)
    rw [show min (k * leastR d) (k * lastR d) = k * leastR d by omega, show max (k * leastR d) (k * lastR d) = k * lastR d by omega]
  · rw [if_neg hp, if_neg hp]
    have := Int.mul_le_mul_of_nonpos_left (show k ≤ 0 by omega) h2
    rw [show min (k * leastR d) (k * lastR d) = k * lastR d by omega, show max (k * leastR d) (k * lastR d) = k * leastR d by omega]
theorem endR_empty (k : Int) : (endR [] k).2.2 = false := rfl

/-- Terms that fit. -/
def TermsOk (ts : List (List (Int × Int) × Int)) : Prop := ∀ t ∈ ts, Fine t.1 ∧ CoefOk t.2
def weightT (ts : List (List (Int × Int) × Int)) : Int := weightK (ts.map (·.2))
theorem weightT_cons (t : List (Int × Int) × Int) (ts) : weightT (t :: ts) = absK t.2 * 1048576 + weightT ts := by simp [weightT, weightK]
theorem weightT_pos : ∀ ts, 0 ≤ weightT ts
  | [] => by simp [weightT, weightK]
  | t :: ts => by
    rw [weightT_cons]
    have := weightT_pos ts
    have := absK_pos t.2
    omega
theorem sums_in : ∀ {ts : List (List (Int × Int) × Int)}, TermsOk ts → (∀ t ∈ ts, t.1 ≠ []) → -weightT ts ≤ lowS ts ∧ lowS ts ≤ highS ts ∧ highS ts ≤ weightT ts
  | [], _, _ => by simp [weightT, weightK, lowS, highS]
  | t :: ts, h, hne => by
    obtain ⟨h1, h2, h3⟩ := sums_in (ts := ts) (fun t ht => h t (.tail _ ht)) (fun t ht => hne t (.tail _ ht))
    obtain ⟨h4, h5, h6⟩ := lowE_in (h t (.head _)).1 (hne t (.head _)) t.2
    rw [weightT_cons]
    simp only [lowS, highS, List.map_cons, List.sum_cons] at h1 h2 h3 ⊢
    omega
theorem endsGo_ok : ∀ {ts : List (List (Int × Int) × Int)} (lo hi : Int), TermsOk ts → (∀ t ∈ ts, t.1 ≠ []) → -4611686018427387904 ≤ lo - weightT ts → lo + weightT ts ≤ 4611686018427387904 → -4611686018427387904 ≤ hi - weightT ts → hi + weightT ts ≤ 4611686018427387904 → endsGo ts lo hi = (lo + lowS ts, hi + highS ts, true)
  | [], lo, hi, _, _, _, _, _, _ => by simp [endsGo, lowS, highS]
  | (x, k) :: ts, lo, hi, h, hne, h1, h2, h3, h4 => by
    obtain ⟨hf, hk⟩ := h _ (.head _)
    have hx := hne _ (.head _)
    obtain ⟨e1, e2⟩ := endW_ok hf hx hk
    obtain ⟨b1, b2, b3⟩ := lowE_in hf hx k
    have hp := weightT_pos ts
    rw [weightT_cons] at h1 h2 h3 h4
    simp only at h1 h2 h3 h4 e1 e2 b1 b2 b3
    rw [endsGo, e1, e2, if_pos rfl]
    simp only [wr]
    rw [wrap_id (by omega) (by omega), wrap_id (by omega) (by omega), endsGo_ok _ _ (fun t ht => h t (.tail _ ht)) (fun t ht => hne t (.tail _ ht)) (by omega) (by omega) (by omega) (by omega)]
    simp only [lowS, highS, List.map_cons, List.sum_cons, Prod.mk.injEq, and_true]
    omega
theorem endsRGo_ok : ∀ {ts : List (List (Int × Int) × Int)} (lo hi : Int), TermsOk ts → (∀ t ∈ ts, t.1 ≠ []) → -4611686018427387904 ≤ lo - weightT ts → lo + weightT ts ≤ 4611686018427387904 → -4611686018427387904 ≤ hi - weightT ts → hi + weightT ts ≤ 4611686018427387904 → endsRGo ts lo hi = (lo + lowS ts, hi + highS ts, true)
  | [], lo, hi, _, _, _, _, _, _ => by simp [endsRGo, lowS, highS]
  | (x, k) :: ts, lo, hi, h, hne, h1, h2, h3, h4 => by
    obtain ⟨hf, hk⟩ := h _ (.head _)
    have hx := hne _ (.head _)
    have e1 := endR_ok hf hx hk
    obtain ⟨b1, b2, b3⟩ := lowE_in hf hx k
    have hp := weightT_pos ts
    rw [weightT_cons] at h1 h2 h3 h4
    simp only at h1 h2 h3 h4 e1 b1 b2 b3
    rw [endsRGo, e1, if_pos rfl]
    simp only [wr]
    rw [wrap_id (by omega) (by omega), wrap_id (by omega) (by omega), endsRGo_ok _ _ (fun t ht => h t (.tail _ ht)) (fun t ht => hne t (.tail _ ht)) (by omega) (by omega) (by omega) (by omega)]
    simp only [lowS, highS, List.map_cons, List.sum_cons, Prod.mk.injEq, and_true]
    omega
theorem endsGo_empty : ∀ {ts : List (List (Int × Int) × Int)} (lo hi : Int), TermsOk ts → (∃ t ∈ ts, t.1 = []) → endsGo ts lo hi = (0, 0, false) ∧ endsRGo ts lo hi = (0, 0, false)
  | [], lo, hi, _, h => by obtain ⟨t, ht, _⟩ := h; cases ht
  | (x, k) :: ts, lo, hi, h, he => by
    obtain ⟨hf, hk⟩ := h _ (.head _)
    by_cases hx : x = []
    · subst hx
      rw [endsGo, endsRGo, endW_empty k hk, endR_empty]
      exact ⟨rfl, rfl⟩
    · obtain ⟨e1, e2⟩ := endW_ok hf hx hk
      have e3 := endR_ok hf hx hk
      simp only at e1 e2 e3
      rw [endsGo, endsRGo, e1, e2, e3, if_pos rfl, if_pos rfl]
      refine endsGo_empty _ _ (fun t ht => h t (.tail _ ht)) ?_
      obtain ⟨t, ht, e⟩ := he
      cases ht with
      | head => exact absurd e hx
      | tail _ ht => exact ⟨t, ht, e⟩
/-- Both count the same. -/
theorem ends_same {ts : List (List (Int × Int) × Int)} (h : TermsOk ts) (hw : weightT ts ≤ 4611686018427387904) : endsGo ts 0 0 = endsRGo ts 0 0 := by
  by_cases he : ∃ t ∈ ts, t.1 = []
  · obtain ⟨h1, h2⟩ := endsGo_empty 0 0 h he
    rw [h1, h2]
  · have hne : ∀ t ∈ ts, t.1 ≠ [] := fun t ht e => he ⟨t, ht, e⟩
    rw [endsGo_ok 0 0 h hne (by omega) (by omega) (by omega) (by omega), endsRGo_ok 0 0 h hne (by omega) (by omega) (by omega) (by omega)]
end Go.Proofs.Ytchajofdjeijfaa
