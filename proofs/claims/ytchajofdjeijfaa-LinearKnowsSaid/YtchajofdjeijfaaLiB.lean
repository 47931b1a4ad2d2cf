/- What a right sum of a case is; what is cut out of a domain. -/
import Derived.Test.YtchajofdjeijfaaFnY
namespace Go.Proofs.Ytchajofdjeijfaa
open Go Go.RowKit
set_option linter.unusedVariables false
set_option linter.unusedSimpArgs false

theorem bigGo_no : ∀ (l : List Int) (room : Int), bigGo room l = false → (∀ k ∈ l, absK k ≤ 4398046511104) ∧ (0 ≤ room → weightK l ≤ room)
  | [], room, h => by simp [weightK]
  | x :: l, room, h => by
    rw [bigGo] at h
    split at h
    · cases h
    · rename_i h1
      split at h
      · cases h
      · rename_i h2
        obtain ⟨h3, h4⟩ := bigGo_no l _ h
        have e : weightK (x :: l) = absK x * 1048576 + weightK l := by simp [weightK]
        have e2 : max x (-x) = absK x := rfl
        rw [e2] at h2 h4
        refine ⟨fun k hk => ?_, fun h0 => ?_⟩
        · rcases List.mem_cons.1 hk with rfl | hk
          · unfold absK; omega
          · exact h3 k hk
        · rw [e]
          have := h4 (by omega)
          omega
/-- A right sum. -/
structure SumOk (d : Doms) (c : Con) : Prop where
  fine : SumFine d c.vars c.coefs
  nod : c.vars.Nodup
  pos : 0 < c.vars.length
  op : 0 ≤ c.op ∧ c.op ≤ 2
  big : weightK c.coefs + absK c.rhs ≤ 4611686018427387904
theorem big_no {c : Con} (h : bigR c.coefs c.rhs = false) : (∀ k ∈ c.coefs, absK k ≤ 4398046511104) ∧ weightK c.coefs + absK c.rhs ≤ 4611686018427387904 := by
  unfold bigR at h
  split at h
  · cases h
  · rename_i h1
    obtain ⟨h2, h3⟩ := bigGo_no _ _ h
    have e : max c.rhs (-c.rhs) = absK c.rhs := rfl
    rw [e] at h3
    refine ⟨h2, ?_⟩
    have : absK c.rhs ≤ 4611686018427387904 := by unfold absK; omega
    have := h3 (by omega)
    omega
theorem sum_in {d : Doms} {c : Con} (hc : ConB c) (h : conR d c = 0) (hk : c.kind = 0) (hf : ∀ x ∈ d, Fine x) (hdl : d.length * 24 ≤ 140737488355328) : SumOk d c := by
  obtain ⟨hv, hr⟩ := con_in hc h
  have hbig : bigR c.coefs c.rhs = false := by
    unfold conR at h
    cases hb : bigR c.coefs c.rhs with
    | false => rfl
    | true =>
      rw [hb] at h
      split at h
      · cases h
      · split at h
        · cases h
        · split at h <;> cases h
  obtain ⟨h1, h2⟩ := big_no hbig
  unfold rightR at hr
  rw [if_pos hk] at hr
  simp only [sumR, opR, Bool.and_eq_true, decide_eq_true_eq, Bool.not_eq_true', decide_eq_false_iff_not] at hr
  obtain ⟨⟨⟨_, ⟨⟨h4, h5⟩, h6⟩, h7⟩, h8⟩, _⟩ := hr
  exact ⟨⟨h6, hv.1, hv.2, fun k hk => ⟨fun e => h7 (e ▸ hk), h1 k hk⟩, hf, hdl⟩, h4, h5, h8, h2⟩
theorem terms_ok {d : Doms} {vars coefs : List Int} (h : SumFine d vars coefs) : TermsOk (termsOf d vars coefs) := by
  intro t ht
  obtain ⟨p, hp, rfl⟩ := List.mem_map.1 ht
  obtain ⟨h1, h2⟩ := List.of_mem_zip hp
  exact ⟨h.dom _ (domAt_mem (h.vin _ h1).2), h.ck _ h2⟩
theorem terms_weight {d : Doms} {vars coefs : List Int} (h : vars.length = coefs.length) : weightT (termsOf d vars coefs) = weightK coefs := by
  unfold weightT termsOf
  rw [List.map_map]
  congr 1
  have : ((fun x : List (Int × Int) × Int => x.2) ∘ fun p : Int × Int => (domAt d p.1, p.2)) = fun p : Int × Int => p.2 := rfl
  rw [this, List.map_snd_zip]
  omega
theorem weightK_pos : ∀ l : List Int, 0 ≤ weightK l
  | [] => by simp [weightK]
  | k :: l => by
    have := weightK_pos l
    have := absK_pos k
    have e : weightK (k :: l) = absK k * 1048576 + weightK l := by simp [weightK]
    omega
theorem weightK_turned : ∀ (l : List Int), (∀ k ∈ l, CoefOk k) → weightK (turnedW l) = weightK l
  | [], _ => rfl
  | k :: l, h => by
    have e := (turned_ok (h k (.head _))).1
    have ih := weightK_turned l fun k hk => h k (.tail _ hk)
    have e1 : weightK (k :: l) = absK k * 1048576 + weightK l := by simp [weightK]
    have e2 : weightK (turnedW (k :: l)) = absK (wr (0 - k)) * 1048576 + weightK (turnedW l) := by simp [weightK, turnedW]
    rw [e1, e2, ih, e]
    unfold absK
    omega
/-- Both know the same of a sum. -/
theorem so_same {d : Doms} {vars coefs : List Int} (h : SumFine d vars coefs) (hw : weightK coefs ≤ 4611686018427387904) : endsW d vars coefs = endsRW d vars coefs :=
  ends_same (terms_ok h) (by rw [terms_weight h.len]; exact hw)

/-! What is cut out. -/
theorem floor_iff {a b v : Int} (hb : 0 < b) (h1 : -9223372036854775000 ≤ a) (h2 : a ≤ 9223372036854775000) : (v ≤ floorW a b ↔ b * v ≤ a) ∧ -9223372036854775002 ≤ floorW a b ∧ floorW a b ≤ 9223372036854775002 := by
  have e := Int.mul_tdiv_add_tmod a b
  have r1 := Int.tmod_lt_of_pos a hb
  have r2 := Int.lt_tmod_of_pos a hb
  have hq : -9223372036854775000 ≤ a.tdiv b ∧ a.tdiv b ≤ 9223372036854775000 := by
    have := Int.natAbs_tdiv_le_natAbs a b
    omega
  unfold floorW
  generalize a.tdiv b = q at *
  generalize a.tmod b = r at *
  have key : ∀ w : Int, v ≤ w → b * v ≤ b * w := fun w h => Int.mul_le_mul_of_nonneg_left h (by omega)
  have key2 : ∀ w : Int, w ≤ v → b * w ≤ b * v := fun w h => Int.mul_le_mul_of_nonneg_left h (by omega)
  by_cases hr : r < 0
  · rw [if_pos hr]
    simp only [wr]
    rw [wrap_id (n := q) (by omega) (by omega), wrap_id (n := q - 1) (by omega) (by omega)]
    refine ⟨⟨fun h => ?_, fun h => ?_⟩, by omega, by omega⟩
    · have := key _ h
      rw [Int.mul_sub, Int.mul_one] at this
      omega
    · by_cases hv : v ≤ q - 1
      · exact hv
      · have := key2 q (by omega)
        omega
  · rw [if_neg hr]
    simp only [wr]
    rw [wrap_id (n := q) (by omega) (by omega)]
    refine ⟨⟨fun h => ?_, fun h => ?_⟩, by omega, by omega⟩
    · have := key _ h
      omega
    · by_cases hv : v ≤ q
      · exact hv
      · have := key2 (q + 1) (by omega)
        rw [Int.mul_add, Int.mul_one] at this
        omega
/-- What stays of a term's domain. -/
def cutP (x : List (Int × Int)) (k rest : Int) : List (Int × Int) := pack ((vals x).filter fun v => decide (k * v ≤ rest))
theorem cutP_ok {x : List (Int × Int)} (h : DomOk x) (k rest : Int) : DomOk (cutP x k rest) ∧ ∀ v, v ∈ vals (cutP x k rest) ↔ v ∈ vals x ∧ k * v ≤ rest := by
  have hu := filter_up (p := fun v => decide (k * v ≤ rest)) (vals_up h)
  refine ⟨pack_ok hu, fun v => ?_⟩
  unfold cutP
  rw [vals_pack hu, List.mem_filter]
  simp
theorem cutW_eq {x : List (Int × Int)} {k rest : Int} (h : Fine x) (hk : CoefOk k) (h1 : -9223372036854775000 ≤ rest) (h2 : rest ≤ 9223372036854775000) : cutW x k rest = cutP x k rest := by
  have hc := coef_int hk
  obtain ⟨p1, p2⟩ := cutP_ok h.ok k rest
  have q1 := (cutW_ok h.ok k rest).1
  refine dom_ext q1 p1 (up_ext (vals_up q1) (vals_up p1) fun v => ?_)
  rw [p2]
  unfold cutW
  by_cases hp : 0 < k
  · rw [if_pos hp, (domCut_ok h.ok _ _).2, (floor_iff hp h1 h2).1]
    constructor
    · rintro ⟨a, _, b⟩; exact ⟨a, b⟩
    · rintro ⟨a, b⟩; exact ⟨a, (h.val v a).1, b⟩
  · rw [if_neg hp]
    have hn : 0 < -k := by have := hk.1; omega
    rw [(turned_ok hk).1, (domCut_ok h.ok _ _).2]
    obtain ⟨f1, f2, f3⟩ := floor_iff (v := -v) hn h1 h2
    rw [Int.neg_mul_neg] at f1
    simp only [wr]
    rw [wrap_id (by omega) (by omega), ← f1]
    constructor
    · rintro ⟨a, b, _⟩; exact ⟨a, by omega⟩
    · rintro ⟨a, b⟩; exact ⟨a, by omega, (h.val v a).2⟩
end Go.Proofs.Ytchajofdjeijfaa
