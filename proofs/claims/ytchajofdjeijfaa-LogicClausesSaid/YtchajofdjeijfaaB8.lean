/- The texts LiB, LiC, LiD, LiE, LiF, LiG, RowA of the workplace, joined. -/
import Derived.Test.YtchajofdjeijfaaB7
/-! What a right sum of a case is; what is cut out of a domain. -/
namespace Go.Proofs.Ytchajofdjeijfaa
open Go Go.RowKit
set_option linter.unusedVariables false
set_option linter.unusedSimpArgs false

theorem bigGo_no : ∀ (l : List Int) (room : Int), bigGo room l = false → (∀ k ∈ l, absK k ≤ 4398046511104) ∧ (0 ≤ room → weightK l ≤ room)
  | [], room, h => by simp [weightK]
  | x :: l, room, h => by
    rw [bigGo] at h
    split at h
    · cases h
    · rename_i h1
      split at h
      · cases h
      · rename_i h2
        obtain ⟨h3, h4⟩ := bigGo_no l _ h
        have e : weightK (x :: l) = absK x * 1048576 + weightK l := by simp [weightK]
        have e2 : max x (-x) = absK x := rfl
        rw [e2] at h2 h4
        refine ⟨fun k hk => ?_, fun h0 => ?_⟩
        · rcases List.mem_cons.1 hk with rfl | hk
          · unfold absK; omega
          · exact h3 k hk
        · rw [e]
          have := h4 (by omega)
          omega
/-- A right sum. -/
structure SumOk (d : Doms) (c : Con) : Prop where
  fine : SumFine d c.vars c.coefs
  nod : c.vars.Nodup
  pos : 0 < c.vars.length
  op : 0 ≤ c.op ∧ c.op ≤ 2
  big : weightK c.coefs + absK c.rhs ≤ 4611686018427388928
theorem big_no {c : Con} (h : bigR c.coefs c.rhs = false) : (∀ k ∈ c.coefs, absK k ≤ 4398046511104) ∧ weightK c.coefs + absK c.rhs ≤ 4611686018427387904 := by
  unfold bigR at h
  split at h
  · cases h
  · rename_i h1
    obtain ⟨h2, h3⟩ := bigGo_no _ _ h
    have e : max c.rhs (-c.rhs) = absK c.rhs := rfl
    rw [e] at h3
    refine ⟨h2, ?_⟩
    have : absK c.rhs ≤ 4611686018427387904 := by unfold absK; omega
    have := h3 (by omega)
    omega
theorem con_big {d : Doms} {c : Con} (h : conR d c = 0) : bigR c.coefs c.rhs = false := by
  unfold conR at h
  cases hb : bigR c.coefs c.rhs with
  | false => rfl
  | true =>
    rw [hb] at h
    split at h
    · cases h
    · split at h
      · cases h
      · split at h <;> cases h
theorem sum_in {d : Doms} {c : Con} (hc : ConB c) (h : conR d c = 0) (hk : c.kind = 0) (hf : ∀ x ∈ d, Fine x) (hdl : d.length * 24 ≤ 140737488355328) : SumOk d c := by
  obtain ⟨hv, hr⟩ := con_in hc h
  obtain ⟨h1, h2⟩ := big_no (con_big h)
  unfold rightR at hr
  rw [if_pos hk] at hr
  simp only [sumR, opR, Bool.and_eq_true, decide_eq_true_eq, Bool.not_eq_true', decide_eq_false_iff_not] at hr
  obtain ⟨⟨⟨_, ⟨⟨h4, h5⟩, h6⟩, h7⟩, h8⟩, _⟩ := hr
  exact ⟨⟨h6, hv.1, hv.2, fun k hk => ⟨fun e => h7 (e ▸ hk), h1 k hk⟩, hf, hdl⟩, h4, h5, h8, by omega⟩
theorem terms_ok {d : Doms} {vars coefs : List Int} (h : SumFine d vars coefs) : TermsOk (termsOf d vars coefs) := by
  intro t ht
  obtain ⟨p, hp, rfl⟩ := List.mem_map.1 ht
  obtain ⟨h1, h2⟩ := List.of_mem_zip hp
  exact ⟨h.dom _ (domAt_mem (h.vin _ h1).2), h.ck _ h2⟩
theorem terms_weight {d : Doms} {vars coefs : List Int} (h : vars.length = coefs.length) : weightT (termsOf d vars coefs) = weightK coefs := by
  unfold weightT termsOf
  rw [List.map_map]
  congr 1
  have : ((fun x : List (Int × Int) × Int => x.2) ∘ fun p : Int × Int => (domAt d p.1, p.2)) = fun p : Int × Int => p.2 := rfl
  rw [this, List.map_snd_zip]
  omega
theorem weightK_pos : ∀ l : List Int, 0 ≤ weightK l
  | [] => by simp [weightK]
  | k :: l => by
    have := weightK_pos l
    have := absK_pos k
    have e : weightK (k :: l) = absK k * 1048576 + weightK l := by simp [weightK]
    omega
theorem weightK_turned : ∀ (l : List Int), (∀ k ∈ l, CoefOk k) → weightK (turnedW l) = weightK l
  | [], _ => rfl
  | k :: l, h => by
    have e := (turned_ok (h k (.head _))).1
    have ih := weightK_turned l fun k hk => h k (.tail _ hk)
    have e1 : weightK (k :: l) = absK k * 1048576 + weightK l := by simp [weightK]
    have e2 : weightK (turnedW (k :: l)) = absK (wr (0 - k)) * 1048576 + weightK (turnedW l) := by simp [weightK, turnedW]
    rw [e1, e2, ih, e]
    unfold absK
    omega
/-- Both know the same of a sum. -/
theorem so_same {d : Doms} {vars coefs : List Int} (h : SumFine d vars coefs) (hw : weightK coefs ≤ 4611686018427388928) : endsW d vars coefs = endsRW d vars coefs :=
  ends_same (terms_ok h) (by rw [terms_weight h.len]; exact hw)

/-! What is cut out. -/
theorem floor_iff {a b v : Int} (hb : 0 < b) (h1 : -9223372036854775000 ≤ a) (h2 : a ≤ 9223372036854775000) : (v ≤ floorW a b ↔ b * v ≤ a) ∧ -9223372036854775002 ≤ floorW a b ∧ floorW a b ≤ 9223372036854775002 := by
  have e := Int.mul_tdiv_add_tmod a b
  have r1 := Int.tmod_lt_of_pos a hb
  have r2 := Int.lt_tmod_of_pos a hb
  have hq : -9223372036854775000 ≤ a.tdiv b ∧ a.tdiv b ≤ 9223372036854775000 := by
    have := Int.natAbs_tdiv_le_natAbs a b
    omega
  unfold floorW
  generalize a.tdiv b = q at *
  generalize a.tmod b = r at *
  have key : ∀ w : Int, v ≤ w → b * v ≤ b * w := fun w h => Int.mul_le_mul_of_nonneg_left h (by omega)
  have key2 : ∀ w : Int, w ≤ v → b * w ≤ b * v := fun w h => Int.mul_le_mul_of_nonneg_left h (by omega)
  by_cases hr : r < 0
  · rw [if_pos hr]
    simp only [wr]
    rw [wrap_id (n := q) (by omega) (by omega), wrap_id (n := q - 1) (by omega) (by omega)]
    refine ⟨⟨fun h => ?_, fun h => ?_⟩, by omega, by omega⟩
    · have := key _ h
      rw [Int.mul_sub, Int.mul_one] at this
      omega
    · by_cases hv : v ≤ q - 1
      · exact hv
      · have := key2 q (by omega)
        omega
  · rw [if_neg hr]
    simp only [wr]
    rw [wrap_id (n := q) (by omega) (by omega)]
    refine ⟨⟨fun h => ?_, fun h => ?_⟩, by omega, by omega⟩
    · have := key _ h
      omega
    · by_cases hv : v ≤ q
      · exact hv
      · have := key2 (q + 1) (by omega)
        rw [Int.mul_add, Int.mul_one] at this
        omega
/-- What stays of a term's domain. -/
def cutP (x : List (Int × Int)) (k rest : Int) : List (Int × Int) := pack ((vals x).filter fun v => decide (k * v ≤ rest))
theorem cutP_ok {x : List (Int × Int)} (h : DomOk x) (k rest : Int) : DomOk (cutP x k rest) ∧ ∀ v, v ∈ vals (cutP x k rest) ↔ v ∈ vals x ∧ k * v ≤ rest := by
  have hu := filter_up (p := fun v => decide (k * v ≤ rest)) (vals_up h)
  refine ⟨pack_ok hu, fun v => ?_⟩
  unfold cutP
  rw [vals_pack hu, List.mem_filter]
  simp
theorem cutW_eq {x : List (Int × Int)} {k rest : Int} (h : Fine x) (hk : CoefOk k) (h1 : -9223372036854775000 ≤ rest) (h2 : rest ≤ 9223372036854775000) : cutW x k rest = cutP x k rest := by
  have hc := coef_int hk
  obtain ⟨p1, p2⟩ := cutP_ok h.ok k rest
  have q1 := (cutW_ok h.ok k rest).1
  refine dom_ext q1 p1 (up_ext (vals_up q1) (vals_up p1) fun v => ?_)
  rw [p2]
  unfold cutW
  by_cases hp : 0 < k
  · rw [if_pos hp, (domCut_ok h.ok _ _).2, (floor_iff hp h1 h2).1]
    constructor
    · rintro ⟨a, _, b⟩; exact ⟨a, b⟩
    · rintro ⟨a, b⟩; exact ⟨a, (h.val v a).1, b⟩
  · rw [if_neg hp]
    have hn : 0 < -k := by have := hk.1; omega
    rw [(turned_ok hk).1, (domCut_ok h.ok _ _).2]
    obtain ⟨f1, f2, f3⟩ := floor_iff (v := -v) hn h1 h2
    rw [Int.neg_mul_neg] at f1
    simp only [wr]
    rw [wrap_id (by omega) (by omega), ← f1]
    constructor
    · rintro ⟨a, b, _⟩; exact ⟨a, by omega⟩
    · rintro ⟨a, b⟩; exact ⟨a, by omega, (h.val v a).2⟩
end Go.Proofs.Ytchajofdjeijfaa
/-! What is left of domains, if a sum is at most a number: both leave the same. -/
namespace Go.Proofs.Ytchajofdjeijfaa
open Go Go.RowKit
set_option linter.unusedVariables false
set_option linter.unusedSimpArgs false

/-- Domains written, one after the other. -/
def setAll : List (Int × List (Int × Int)) → Doms → Doms
  | [], d => d
  | p :: ps, d => setAll ps (d.set p.1.toNat p.2)
theorem setAll_len : ∀ (ps : List (Int × List (Int × Int))) (d : Doms), (setAll ps d).length = d.length
  | [], d => rfl
  | p :: ps, d => by rw [setAll, setAll_len ps, List.length_set]
theorem setAll_other : ∀ (ps : List (Int × List (Int × Int))) (d : Doms) (i : Nat), (∀ p ∈ ps, p.1.toNat ≠ i) → (setAll ps d)[i]? = d[i]?
  | [], d, i, _ => rfl
  | p :: ps, d, i, h => by
    rw [setAll, setAll_other ps _ i fun q hq => h q (.tail _ hq), List.getElem?_set_ne (h p (.head _))]
def Apart (ps : List (Int × List (Int × Int))) : Prop := ps.Pairwise fun p q => p.1.toNat ≠ q.1.toNat
theorem setAll_at : ∀ {ps : List (Int × List (Int × Int))} {d : Doms}, Apart ps → (∀ p ∈ ps, p.1.toNat < d.length) → ∀ p ∈ ps, (setAll ps d)[p.1.toNat]? = some p.2
  | q :: ps, d, ha, hl, p, hp => by
    have h1 := List.pairwise_cons.1 ha
    rw [setAll]
    rcases List.mem_cons.1 hp with rfl | hp
    · rw [setAll_other ps _ _ fun r hr => Ne.symm (h1.1 r hr), List.getElem?_set_self (hl _ (.head _))]
    · exact setAll_at h1.2 (fun r hr => by rw [List.length_set]; exact hl r (.tail _ hr)) p hp
theorem setAll_snoc : ∀ (ps : List (Int × List (Int × Int))) (p : Int × List (Int × Int)) (d : Doms), setAll (ps ++ [p]) d = (setAll ps d).set p.1.toNat p.2
  | [], p, d => rfl
  | q :: ps, p, d => by rw [List.cons_append, setAll, setAll, setAll_snoc ps]
theorem setAll_mem {ps : List (Int × List (Int × Int))} {d : Doms} (ha : Apart ps) (hl : ∀ p ∈ ps, p.1.toNat < d.length) {x : List (Int × Int)} : x ∈ setAll ps d → x ∈ d ∨ ∃ p ∈ ps, p.2 = x := by
  intro h
  obtain ⟨i, hi⟩ := List.mem_iff_getElem?.1 h
  by_cases he : ∃ p ∈ ps, p.1.toNat = i
  · obtain ⟨p, hp, rfl⟩ := he
    rw [setAll_at ha hl p hp] at hi
    exact .inr ⟨p, hp, Option.some.inj hi⟩
  · rw [setAll_other ps d i fun p hp e => he ⟨p, hp, e⟩] at hi
    exact .inl (List.mem_of_getElem? hi)
theorem setAll_has {ps : List (Int × List (Int × Int))} {d : Doms} (ha : Apart ps) (hl : ∀ p ∈ ps, p.1.toNat < d.length) {p} (hp : p ∈ ps) : p.2 ∈ setAll ps d := List.mem_of_getElem? (setAll_at ha hl p hp)
theorem setAll_same {ps : List (Int × List (Int × Int))} {d : Doms} (ha : Apart ps) (hl : ∀ p ∈ ps, p.1.toNat < d.length) : setAll ps d = d ↔ ∀ p ∈ ps, p.2 = domAt d p.1 := by
  constructor
  · intro h p hp
    have := setAll_at ha hl p hp
    rw [h, domAt_some (hl p hp)] at this
    exact (Option.some.inj this).symm
  · intro h
    refine List.ext_getElem? fun i => ?_
    by_cases he : ∃ p ∈ ps, p.1.toNat = i
    · obtain ⟨p, hp, rfl⟩ := he
      rw [setAll_at ha hl p hp, domAt_some (hl p hp), h p hp]
    · exact setAll_other ps d i fun p hp e => he ⟨p, hp, e⟩

/-- What is left of each term's domain. -/
def cutAt (d : Doms) (low rhs : Int) (p : Int × Int) : List (Int × Int) := cutP (domAt d p.1) p.2 (rhs - (low - lowE (domAt d p.1) p.2))
def cuts (d : Doms) (vars coefs : List Int) (rhs : Int) : List (Int × List (Int × Int)) := (vars.zip coefs).map fun p => (p.1, cutAt d (lowS (termsOf d vars coefs)) rhs p)
/-- What is left of the domains. -/
def MO (d : Doms) (vars coefs : List Int) (rhs : Int) : Doms := setAll (cuts d vars coefs rhs) d

/-- A sum over domains none of which is empty. -/
structure Whole (d : Doms) (vars coefs : List Int) (rhs : Int) : Prop where
  fine : SumFine d vars coefs
  nod : vars.Nodup
  ne : [] ∉ d
  big : weightK coefs + absK rhs ≤ 4611686018427388928
theorem zip_apart : ∀ {vars coefs : List Int}, vars.Nodup → (∀ v ∈ vars, 0 ≤ v) → (vars.zip coefs).Pairwise fun p q => p.1.toNat ≠ q.1.toNat
  | [], _, _, _ => by simp
  | _ :: _, [], _, _ => by simp
  | v :: vars, k :: coefs, hn, h0 => by
    have h1 := List.nodup_cons.1 hn
    rw [List.zip_cons_cons]
    refine List.pairwise_cons.2 ⟨fun p hp => ?_, zip_apart h1.2 fun v hv => h0 v (.tail _ hv)⟩
    have hm := (List.of_mem_zip hp).1
    have h2 := h0 _ (.head _)
    have h3 := h0 _ (.tail _ hm)
    intro e
    have : v = p.1 := by simp only at e; omega
    exact h1.1 (this ▸ hm)
theorem cuts_apart {d : Doms} {vars coefs : List Int} {rhs : Int} (h : Whole d vars coefs rhs) : Apart (cuts d vars coefs rhs) ∧ ∀ p ∈ cuts d vars coefs rhs, p.1.toNat < d.length := by
  constructor
  · unfold Apart cuts
    rw [List.pairwise_map]
    exact zip_apart h.nod fun v hv => (h.fine.vin v hv).1
  · intro p hp
    obtain ⟨q, hq, rfl⟩ := List.mem_map.1 hp
    exact (h.fine.vin _ (List.of_mem_zip hq).1).2
theorem terms_ne {d : Doms} {vars coefs : List Int} {rhs : Int} (h : Whole d vars coefs rhs) : ∀ t ∈ termsOf d vars coefs, t.1 ≠ [] := by
  intro t ht e
  obtain ⟨p, hp, rfl⟩ := List.mem_map.1 ht
  have := domAt_mem (h.fine.vin _ (List.of_mem_zip hp).1).2
  simp only at e
  rw [e] at this
  exact h.ne this
theorem lowS_mem : ∀ {ts : List (List (Int × Int) × Int)}, TermsOk ts → (∀ t ∈ ts, t.1 ≠ []) → ∀ t ∈ ts, -weightT ts ≤ lowS ts - lowE t.1 t.2 ∧ lowS ts - lowE t.1 t.2 ≤ weightT ts
  | t0 :: ts, h, hne, t, ht => by
    have hs := sums_in (ts := ts) (fun t ht => h t (.tail _ ht)) (fun t ht => hne t (.tail _ ht))
    have e : lowS (t0 :: ts) = lowE t0.1 t0.2 + lowS ts := by simp [lowS]
    have hb := lowE_in (h t0 (.head _)).1 (hne t0 (.head _)) t0.2
    have hp := weightT_pos ts
    have ha := absK_pos t0.2
    rw [weightT_cons, e]
    rcases List.mem_cons.1 ht with rfl | ht
    · omega
    · have := lowS_mem (fun t ht => h t (.tail _ ht)) (fun t ht => hne t (.tail _ ht)) t ht
      omega
theorem rest_in {d : Doms} {vars coefs : List Int} {rhs : Int} (h : Whole d vars coefs rhs) {p : Int × Int} (hp : p ∈ vars.zip coefs) :
    -4611686018427388928 ≤ lowS (termsOf d vars coefs) ∧ lowS (termsOf d vars coefs) ≤ 4611686018427388928 ∧ -4611686018427388928 ≤ lowS (termsOf d vars coefs) - lowE (domAt d p.1) p.2 ∧ lowS (termsOf d vars coefs) - lowE (domAt d p.1) p.2 ≤ 4611686018427388928 ∧
      -4611686018427388928 ≤ rhs - (lowS (termsOf d vars coefs) - lowE (domAt d p.1) p.2) ∧ rhs - (lowS (termsOf d vars coefs) - lowE (domAt d p.1) p.2) ≤ 4611686018427388928 := by
  have hs := sums_in (terms_ok h.fine) (terms_ne h)
  have hm := lowS_mem (terms_ok h.fine) (terms_ne h) (domAt d p.1, p.2) (List.mem_map.2 ⟨p, hp, rfl⟩)
  rw [terms_weight h.fine.len] at hs hm
  have hb := h.big
  have ha : absK rhs = max rhs (-rhs) := rfl
  simp only at hm
  omega
/-- The program's pruner of a sum at most a number. -/
theorem mostGo_eq {d : Doms} {vars coefs : List Int} {rhs : Int} (h : Whole d vars coefs rhs) : ∀ (l : List (Int × Int)) (d1 : Doms) (ch : Bool), (∀ p ∈ l, p ∈ vars.zip coefs) → l.Pairwise (fun p q => p.1.toNat ≠ q.1.toNat) → (∀ p ∈ l, domAt d1 p.1 = domAt d p.1) →
    ((∃ p ∈ l, cutAt d (lowS (termsOf d vars coefs)) rhs p = []) → (mostGo (lowS (termsOf d vars coefs)) rhs l d1 ch).2.2 = false) ∧
    ((∀ p ∈ l, cutAt d (lowS (termsOf d vars coefs)) rhs p ≠ []) → mostGo (lowS (termsOf d vars coefs)) rhs l d1 ch = (setAll (l.map fun p => (p.1, cutAt d (lowS (termsOf d vars coefs)) rhs p)) d1, ch || l.any (fun p => !decide (cutAt d (lowS (termsOf d vars coefs)) rhs p = domAt d p.1)), true))
  | [], d1, ch, _, _, _ => by simp [mostGo, setAll]
  | (v, k) :: l, d1, ch, hm, ha, hd => by
    have hz := hm _ (.head _)
    obtain ⟨hv, hk⟩ := List.of_mem_zip hz
    have hx := h.fine.dom _ (domAt_mem (h.fine.vin _ hv).2)
    have hne : domAt d v ≠ [] := fun e => h.ne (e ▸ domAt_mem (h.fine.vin _ hv).2)
    have hck := h.fine.ck _ hk
    have hr := rest_in h hz
    have ha1 := List.pairwise_cons.1 ha
    have e1 : domAt d1 v = domAt d v := hd _ (.head _)
    have e2 : cutW (domAt d1 v) k (restW (lowS (termsOf d vars coefs)) rhs (domAt d1 v) k) = cutAt d (lowS (termsOf d vars coefs)) rhs (v, k) := by
      rw [e1]
      unfold restW cutAt
      rw [(endW_ok hx hne hck).1]
      simp only [wr] at hr ⊢
      rw [wrap_id (n := lowS (termsOf d vars coefs) - lowE (domAt d v) k) (by omega) (by omega), wrap_id (by omega) (by omega)]
      exact cutW_eq hx hck (by omega) (by omega)
    have hd2 : ∀ p ∈ l, domAt (d1.set v.toNat (cutAt d (lowS (termsOf d vars coefs)) rhs (v, k))) p.1 = domAt d p.1 := by
      intro p hp
      rw [← hd p (.tail _ hp)]
      unfold domAt
      rw [List.getD_eq_getElem?_getD, List.getD_eq_getElem?_getD, List.getElem?_set_ne (ha1.1 p hp)]
    obtain ⟨i1, i2⟩ := mostGo_eq h l (d1.set v.toNat (cutAt d (lowS (termsOf d vars coefs)) rhs (v, k))) (ch || !decide (cutAt d (lowS (termsOf d vars coefs)) rhs (v, k) = domAt d v)) (fun p hp => hm p (.tail _ hp)) ha1.2 hd2
    rw [mostGo, e2, e1]
    constructor
    · rintro ⟨p, hp, he⟩
      by_cases h0 : cutAt d (lowS (termsOf d vars coefs)) rhs (v, k) = []
      · rw [if_pos h0]
      · rw [if_neg h0]
        rcases List.mem_cons.1 hp with rfl | hp
        · exact absurd he h0
        · exact i1 ⟨p, hp, he⟩
    · intro hall
      rw [if_neg (hall _ (.head _)), i2 fun p hp => hall p (.tail _ hp)]
      simp only [List.map_cons, setAll, List.any_cons, Bool.or_assoc]
theorem mostW_eq {d : Doms} {vars coefs : List Int} {rhs : Int} (h : Whole d vars coefs rhs) :
    ([] ∈ MO d vars coefs rhs → (mostW d vars coefs rhs).2.2 = false) ∧ ([] ∉ MO d vars coefs rhs → mostW d vars coefs rhs = (MO d vars coefs rhs, !decide (MO d vars coefs rhs = d), true)) := by
  obtain ⟨ha, hl⟩ := cuts_apart h
  have hends : (endsW d vars coefs).1 = lowS (termsOf d vars coefs) := by
    unfold endsW
    have hb := h.big
    have hr := absK_pos rhs
    have hw := terms_weight (d := d) h.fine.len
    rw [endsGo_ok 0 0 (terms_ok h.fine) (terms_ne h) (by omega) (by omega) (by omega) (by omega)]
    simp
  obtain ⟨i1, i2⟩ := mostGo_eq h (vars.zip coefs) d false (fun p hp => hp) (zip_apart h.nod fun v hv => (h.fine.vin v hv).1) (fun p hp => rfl)
  unfold mostW
  rw [hends]
  constructor
  · intro hm
    rcases setAll_mem ha hl hm with hm | ⟨p, hp, he⟩
    · exact absurd hm h.ne
    · obtain ⟨q, hq, rfl⟩ := List.mem_map.1 hp
      exact i1 ⟨q, hq, he⟩
  · intro hm
    have hall : ∀ p ∈ vars.zip coefs, cutAt d (lowS (termsOf d vars coefs)) rhs p ≠ [] := fun p hp e => hm (by
      have := setAll_has ha hl (List.mem_map.2 ⟨p, hp, rfl⟩ : _ ∈ cuts d vars coefs rhs)
      rw [show (p.1, cutAt d (lowS (termsOf d vars coefs)) rhs p).2 = [] from e] at this
      exact this)
    rw [i2 hall]
    refine Prod.ext rfl (Prod.ext ?_ rfl)
    simp only [Bool.false_or]
    rw [Bool.eq_iff_iff, List.any_eq_true]
    simp only [Bool.not_eq_true', decide_eq_false_iff_not]
    have hss := setAll_same ha hl
    constructor
    · rintro ⟨p, hp, hne⟩ e
      exact hne ((hss.1 e) _ (List.mem_map.2 ⟨p, hp, rfl⟩))
    · intro hne
      refine Classical.byContradiction fun hno => hne (hss.2 fun q hq => ?_)
      obtain ⟨p, hp, rfl⟩ := List.mem_map.1 hq
      exact Classical.byContradiction fun hn => hno ⟨p, hp, hn⟩
/-- The document's. -/
theorem restRGo_eq {i : Nat} : ∀ {ts : List (List (Int × Int) × Int)} (k : Nat) (n : Int), TermsOk ts → (∀ t ∈ ts, t.1 ≠ []) → -4611686018427388928 ≤ n - weightT ts → n + weightT ts ≤ 4611686018427388928 → ∀ (hi : k ≤ i) (t : List (Int × Int) × Int), ts[i - k]? = some t → restRGo i k ts n = n + (lowS ts - lowE t.1 t.2)
  | [], k, n, _, _, _, _, _, t, ht => by simp at ht
  | t0 :: ts, k, n, h, hne, h1, h2, hi, t, ht => by
    have hf := h t0 (.head _)
    have hx := hne t0 (.head _)
    have e1 := endR_ok hf.1 hx hf.2
    have b := lowE_in hf.1 hx t0.2
    have hp := weightT_pos ts
    have ha := absK_pos t0.2
    have hs := sums_in (ts := ts) (fun t ht => h t (.tail _ ht)) (fun t ht => hne t (.tail _ ht))
    rw [weightT_cons] at h1 h2
    have el : lowS (t0 :: ts) = lowE t0.1 t0.2 + lowS ts := by simp [lowS]
    rw [restRGo, el]
    by_cases hk : k = i
    · subst hk
      rw [if_pos rfl]
      simp at ht
      subst ht
      have hrest : ∀ (ts : List (List (Int × Int) × Int)) (j : Nat) (n : Int), k < j → TermsOk ts → (∀ t ∈ ts, t.1 ≠ []) → -4611686018427388928 ≤ n - weightT ts → n + weightT ts ≤ 4611686018427388928 → restRGo k j ts n = n + lowS ts := by
        intro ts
        induction ts with
        | nil => intro j n _ _ _ _ _; simp [restRGo, lowS]
        | cons t1 ts ih =>
          intro j n hj h hne h1 h2
          have hf := h t1 (.head _)
          have hx := hne t1 (.head _)
          have e1 := endR_ok hf.1 hx hf.2
          have b := lowE_in hf.1 hx t1.2
          have hp := weightT_pos ts
          rw [weightT_cons] at h1 h2
          have el : lowS (t1 :: ts) = lowE t1.1 t1.2 + lowS ts := by simp [lowS]
          rw [restRGo, if_neg (by omega), e1]
          simp only [wr]
          rw [wrap_id (by omega) (by omega), ih (j + 1) _ (by omega) (fun t ht => h t (.tail _ ht)) (fun t ht => hne t (.tail _ ht)) (by omega) (by omega), el]
          omega
      rw [hrest ts (k + 1) n (by omega) (fun t ht => h t (.tail _ ht)) (fun t ht => hne t (.tail _ ht)) (by omega) (by omega)]
      omega
    · rw [if_neg hk, e1]
      simp only [wr]
      rw [wrap_id (by omega) (by omega), restRGo_eq (k + 1) _ (fun t ht => h t (.tail _ ht)) (fun t ht => hne t (.tail _ ht)) (by omega) (by omega) (by omega) t (by
        rw [show i - k = (i - (k + 1)) + 1 by omega] at ht
        simpa using ht)]
      omega
theorem mostRd_eq {d : Doms} {vars coefs : List Int} {rhs : Int} (h : Whole d vars coefs rhs) : ∀ n, n ≤ vars.length → mostRd d vars coefs rhs n = setAll ((cuts d vars coefs rhs).take n) d
  | 0, _ => by simp [mostRd, setAll]
  | n + 1, hn => by
    have h1 : n < vars.length := by omega
    have h2 : n < coefs.length := by have := h.fine.len; omega
    have hz : n < (vars.zip coefs).length := by simp; omega
    have hp : (vars.zip coefs)[n] ∈ vars.zip coefs := List.getElem_mem hz
    have hcl : n < (cuts d vars coefs rhs).length := by simp [cuts]; omega
    have ec : (cuts d vars coefs rhs)[n] = (vars[n], cutAt d (lowS (termsOf d vars coefs)) rhs (vars[n], coefs[n])) := by simp [cuts]
    have hv := h.fine.vin _ (List.getElem_mem h1)
    have hx := h.fine.dom _ (domAt_mem hv.2)
    have hne : domAt d vars[n] ≠ [] := fun e => h.ne (e ▸ domAt_mem hv.2)
    have hck := h.fine.ck _ (List.getElem_mem h2)
    have hzz : (vars[n], coefs[n]) ∈ vars.zip coefs := by
      have := hp
      simpa using this
    have hr := rest_in h hzz
    simp only at hr
    have hw := terms_weight (d := d) h.fine.len
    have hb := h.big
    have har := absK_pos rhs
    have hrest : restRGo n 0 (termsOf d vars coefs) 0 = lowS (termsOf d vars coefs) - lowE (domAt d vars[n]) coefs[n] := by
      have := restRGo_eq (i := n) 0 0 (terms_ok h.fine) (terms_ne h) (by omega) (by omega) (by omega) (domAt d vars[n], coefs[n]) (by
        rw [Nat.sub_zero]
        simp [termsOf, List.getElem?_eq_getElem hz])
      simp only at this
      omega
    have hat : mostRAt d vars coefs rhs n = cutAt d (lowS (termsOf d vars coefs)) rhs (vars[n], coefs[n]) := by
      unfold mostRAt cutAt cutP leftR
      rw [getD_at h1, getD_at h2, hrest]
      congr 1
      refine List.filter_congr fun v hv => ?_
      have hvb := hx.val v hv
      have hm := mul_in coefs[n] v hvb.1 hvb.2
      have hc2 := hck.2
      have e1 : wr (coefs[n] * v) = coefs[n] * v := wrap_id (by omega) (by omega)
      have e2 : wr (rhs - (lowS (termsOf d vars coefs) - lowE (domAt d vars[n]) coefs[n])) = rhs - (lowS (termsOf d vars coefs) - lowE (domAt d vars[n]) coefs[n]) := wrap_id (by omega) (by omega)
      exact decide_eq_decide.2 (by rw [e1, e2])
    rw [mostRd, mostRd_eq h n (by omega), getD_at h1, hat, List.take_succ_eq_append_getElem hcl, ec, setAll_snoc]
theorem mostR_eq {d : Doms} {vars coefs : List Int} {rhs : Int} (h : Whole d vars coefs rhs) : mostRd d vars coefs rhs vars.length = MO d vars coefs rhs := by
  rw [mostRd_eq h _ (Nat.le_refl _), List.take_of_length_le (by simp [cuts]; omega)]
  rfl
end Go.Proofs.Ytchajofdjeijfaa
/-! Sums, pruned: the program's rounds and the document's come to the same. -/
namespace Go.Proofs.Ytchajofdjeijfaa
open Go Go.RowKit
set_option linter.unusedVariables false
set_option linter.unusedSimpArgs false

/-- Each within that of the other. -/
def Sub (a b : Doms) : Prop := a.length = b.length ∧ ∀ (i : Nat) x y, a[i]? = some x → b[i]? = some y → ∀ v ∈ vals x, v ∈ vals y
theorem Sub.refl (a : Doms) : Sub a a := ⟨rfl, fun i x y h1 h2 v hv => by rw [h1] at h2; exact Option.some.inj h2 ▸ hv⟩
theorem Sub.trans {a b c : Doms} (h : Sub a b) (k : Sub b c) : Sub a c := by
  refine ⟨h.1.trans k.1, fun i x z hx hz v hv => ?_⟩
  have hi : i < a.length := (List.getElem?_eq_some_iff.1 hx).1
  have hi2 : i < b.length := by have := h.1; omega
  have hy : b[i]? = some b[i] := List.getElem?_eq_getElem hi2
  exact k.2 i _ z hy hz v (h.2 i x _ hx hy v hv)
theorem Sub.antisymm {a b : Doms} (h : Sub a b) (k : Sub b a) (ha : ∀ x ∈ a, Fine x) (hb : ∀ x ∈ b, Fine x) : a = b := by
  refine List.ext_getElem? fun i => ?_
  by_cases hi : i < a.length
  · have hi2 : i < b.length := by have := h.1; omega
    have hx : a[i]? = some a[i] := List.getElem?_eq_getElem hi
    have hy : b[i]? = some b[i] := List.getElem?_eq_getElem hi2
    have fx := (ha _ (List.getElem_mem hi)).ok
    have fy := (hb _ (List.getElem_mem hi2)).ok
    rw [hx, hy]
    congr 1
    exact dom_ext fx fy (up_ext (vals_up fx) (vals_up fy) fun v => ⟨h.2 i _ _ hx hy v, k.2 i _ _ hy hx v⟩)
  · rw [List.getElem?_eq_none (by omega), List.getElem?_eq_none (by have := h.1; omega)]
theorem weight_lt : ∀ {a b : Doms}, Sub a b → (∀ x ∈ a, Fine x) → (∀ x ∈ b, Fine x) → weight a ≤ weight b ∧ (a ≠ b → weight a < weight b)
  | [], [], _, _, _ => ⟨Nat.le_refl _, fun h => absurd rfl h⟩
  | [], _ :: _, h, _, _ => by have := h.1; simp at this
  | _ :: _, [], h, _, _ => by have := h.1; simp at this
  | x :: a, y :: b, h, ha, hb => by
    have h1 := sub_lt (hb y (.head _)).ok (ha x (.head _)).ok (h.2 0 x y rfl rfl)
    have h2 := weight_lt (a := a) (b := b) ⟨by have := h.1; simpa using this, fun i z w hz hw => h.2 (i + 1) z w (by simpa using hz) (by simpa using hw)⟩ (fun z hz => ha z (.tail _ hz)) (fun z hz => hb z (.tail _ hz))
    simp only [weight, List.map_cons, List.sum_cons] at h2 ⊢
    refine ⟨by omega, fun hne => ?_⟩
    by_cases e : x = y
    · have : a ≠ b := fun e2 => hne (by rw [e, e2])
      have := h2.2 this
      omega
    · have := h1.2 e
      omega

theorem cutAt_ok {d : Doms} {vars coefs : List Int} {rhs : Int} (h : Whole d vars coefs rhs) {p : Int × Int} (hp : p ∈ vars.zip coefs) (low : Int) :
    DomOk (cutAt d low rhs p) ∧ ∀ v, v ∈ vals (cutAt d low rhs p) ↔ v ∈ vals (domAt d p.1) ∧ p.2 * v ≤ rhs - (low - lowE (domAt d p.1) p.2) :=
  cutP_ok (h.fine.dom _ (domAt_mem (h.fine.vin _ (List.of_mem_zip hp).1).2)).ok _ _
theorem MO_ok {d : Doms} {vars coefs : List Int} {rhs : Int} (h : Whole d vars coefs rhs) : (∀ x ∈ MO d vars coefs rhs, Fine x) ∧ Sub (MO d vars coefs rhs) d := by
  obtain ⟨ha, hl⟩ := cuts_apart h
  refine ⟨fun x hx => ?_, setAll_len _ _, fun i x y hx hy v hv => ?_⟩
  · rcases setAll_mem ha hl hx with hm | ⟨p, hp, rfl⟩
    · exact h.fine.dom x hm
    · obtain ⟨q, hq, rfl⟩ := List.mem_map.1 hp
      obtain ⟨c1, c2⟩ := cutAt_ok h hq (lowS (termsOf d vars coefs))
      exact (h.fine.dom _ (domAt_mem (h.fine.vin _ (List.of_mem_zip hq).1).2)).cut c1 fun v hv => ((c2 v).1 hv).1
  · by_cases he : ∃ p ∈ cuts d vars coefs rhs, p.1.toNat = i
    · obtain ⟨p, hp, rfl⟩ := he
      have e := setAll_at ha hl p hp
      rw [show MO d vars coefs rhs = setAll (cuts d vars coefs rhs) d from rfl, e] at hx
      obtain rfl := Option.some.inj hx
      rw [domAt_some (hl p hp)] at hy
      obtain rfl := Option.some.inj hy
      obtain ⟨q, hq, rfl⟩ := List.mem_map.1 hp
      exact (((cutAt_ok h hq (lowS (termsOf d vars coefs))).2 v).1 hv).1
    · rw [show MO d vars coefs rhs = setAll (cuts d vars coefs rhs) d from rfl, setAll_other _ _ _ fun p hp e => he ⟨p, hp, e⟩, hy] at hx
      exact Option.some.inj hx ▸ hv
theorem Whole.most {d : Doms} {vars coefs : List Int} {rhs : Int} (h : Whole d vars coefs rhs) (hne : [] ∉ MO d vars coefs rhs) : Whole (MO d vars coefs rhs) vars coefs rhs := by
  obtain ⟨h1, h2⟩ := MO_ok h
  exact ⟨⟨h.fine.len, h.fine.vl, fun v hv => by rw [h2.1]; exact h.fine.vin v hv, h.fine.ck, h1, by rw [h2.1]; exact h.fine.dl⟩, h.nod, hne, h.big⟩
theorem wr_neg {rhs : Int} (h : absK rhs ≤ 4611686018427388928) : wr (0 - rhs) = -rhs ∧ absK (wr (0 - rhs)) = absK rhs := by
  have e : wr (0 - rhs) = -rhs := by
    unfold absK at h
    rw [wr, wrap_id (by omega) (by omega)]; omega
  refine ⟨e, ?_⟩
  rw [e]
  unfold absK
  omega
theorem Whole.back {d : Doms} {vars coefs : List Int} {rhs : Int} (h : Whole d vars coefs rhs) : Whole d vars (turnedW coefs) (wr (0 - rhs)) := by
  have hb := h.big
  have hp := weightK_pos coefs
  refine ⟨h.fine.back, h.nod, h.ne, ?_⟩
  rw [weightK_turned _ h.fine.ck, (wr_neg (by omega)).2]
  exact hb
theorem Whole.unback {d d2 : Doms} {vars coefs : List Int} {rhs : Int} (h : Whole d vars coefs rhs) (h2 : Whole d2 vars (turnedW coefs) (wr (0 - rhs))) : Whole d2 vars coefs rhs :=
  ⟨⟨h.fine.len, h.fine.vl, h2.fine.vin, h.fine.ck, h2.fine.dom, h2.fine.dl⟩, h.nod, h2.ne, h.big⟩

def M1 (c : Con) (d : Doms) : Doms := MO d c.vars c.coefs c.rhs
def M2 (c : Con) (d : Doms) : Doms := MO d c.vars (turnedW c.coefs) (wr (0 - c.rhs))
def WholeC (c : Con) (d : Doms) : Prop := Whole d c.vars c.coefs c.rhs
theorem stepL_eq {c : Con} {d : Doms} (h : WholeC c d) : stepL c d =
    if [] ∈ M1 c d then .inl none else if c.op = 0 then .inl (some (M1 c d)) else if [] ∈ M2 c (M1 c d) then .inl none else
    if M1 c d = d ∧ M2 c (M1 c d) = M1 c d then .inl (some (M2 c (M1 c d))) else .inr (M2 c (M1 c d)) := by
  obtain ⟨a1, a2⟩ := mostW_eq h
  unfold stepL
  by_cases h1 : [] ∈ M1 c d
  · rw [if_pos h1, if_pos (a1 h1)]
  · have hw : WholeC c (M1 c d) := Whole.most h h1
    obtain ⟨b1, b2⟩ := mostW_eq hw.back
    rw [if_neg h1, a2 h1]
    simp only [Bool.true_eq_false, if_false]
    by_cases h2 : c.op = 0
    · rw [if_pos h2, if_pos h2]
      rfl
    · rw [if_neg h2, if_neg h2]
      by_cases h3 : [] ∈ M2 c (M1 c d)
      · have b1' : (mostW (MO d c.vars c.coefs c.rhs) c.vars (turnedW c.coefs) (wr (0 - c.rhs))).2.2 = false := b1 h3
        rw [if_pos h3, if_pos b1']
      · have e : mostW (MO d c.vars c.coefs c.rhs) c.vars (turnedW c.coefs) (wr (0 - c.rhs)) = (M2 c (M1 c d), !decide (M2 c (M1 c d) = M1 c d), true) := b2 h3
        rw [if_neg h3, e]
        simp only [Bool.true_eq_false, if_false, Bool.not_eq_false', decide_eq_true_eq]
        rfl
theorem stepD_eq {c : Con} {d : Doms} (h : [] ∉ d → WholeC c d) : stepD c d =
    if c.op = 1 ∧ [] ∉ d then (if [] ∈ M2 c d then .inl none else if M1 c (M2 c d) = d then .inl (some d) else .inr (M1 c (M2 c d))) else .inl (if [] ∈ d then none else some d) := by
  unfold stepD
  by_cases h1 : c.op = 1 ∧ [] ∉ d
  · have hw := h h1.2
    have e : mostB d c = M2 c d := mostR_eq hw.back
    rw [if_pos h1, if_pos h1, e]
    by_cases h2 : [] ∈ M2 c d
    · rw [if_pos h2, if_pos h2]
    · have hw2 : WholeC c (M2 c d) := hw.unback (Whole.most hw.back h2)
      have e2 : mostD (M2 c d) c = M1 c (M2 c d) := mostR_eq hw2
      rw [if_neg h2, if_neg h2, e2]
  · rw [if_neg h1, if_neg h1]
/-- What the program comes to the document comes to. -/
theorem lin_same {c : Con} (hop : c.op = 1) : ∀ (N : Nat) (p : Doms) (R : Option Doms), WholeC c p → iter (stepL c) N p = some R → ∃ N', iter (stepD c) N' (M1 c p) = some R
  | 0, p, R, _, h => by cases h
  | n + 1, p, R, hw, h => by
    have hs := stepL_eq hw
    obtain ⟨f1, s1⟩ := MO_ok hw
    by_cases h1 : [] ∈ M1 c p
    · rw [if_pos h1] at hs
      obtain rfl := iter_inl h hs
      refine ⟨1, ?_⟩
      have e := stepD_eq (c := c) (d := M1 c p) (fun hn => absurd h1 hn)
      rw [if_neg (fun hh => hh.2 h1), if_pos h1] at e
      simp only [iter, e]
    · rw [if_neg h1, if_neg (by omega)] at hs
      have hw1 : WholeC c (M1 c p) := Whole.most hw h1
      have hd := stepD_eq (c := c) (d := M1 c p) (fun _ => hw1)
      rw [if_pos ⟨hop, h1⟩] at hd
      obtain ⟨f2, s2⟩ := MO_ok hw1.back
      by_cases h2 : [] ∈ M2 c (M1 c p)
      · rw [if_pos h2] at hs hd
        obtain rfl := iter_inl h hs
        exact ⟨1, by simp only [iter, hd]⟩
      · rw [if_neg h2] at hs hd
        have hw2 : WholeC c (M2 c (M1 c p)) := hw1.unback (Whole.most hw1.back h2)
        obtain ⟨f3, s3⟩ := MO_ok hw2
        by_cases h3 : M1 c p = p ∧ M2 c (M1 c p) = M1 c p
        · rw [if_pos h3] at hs
          obtain rfl := iter_inl h hs
          have e : M1 c (M2 c (M1 c p)) = M1 c p := by rw [h3.2, h3.1, h3.1]
          rw [if_pos e] at hd
          exact ⟨1, by simp only [iter, hd, h3.2]⟩
        · rw [if_neg h3] at hs
          simp only [iter, hs] at h
          by_cases h4 : M1 c (M2 c (M1 c p)) = M1 c p
          · rw [if_pos h4] at hd
            -- the document stops here: the program in its next round
            have e1 : M2 c (M1 c p) = M1 c p := s2.antisymm (by have s3' := s3; rw [show MO (M2 c (M1 c p)) c.vars c.coefs c.rhs = M1 c p from h4] at s3'; exact s3') f2 f1
            have e2 : M1 c (M1 c p) = M1 c p := by rw [e1] at h4; exact h4
            rw [e1] at h
            cases n with
            | zero => cases h
            | succ n =>
              have hs2 := stepL_eq hw1
              rw [e2, if_neg h1, if_neg (by omega), e1, if_neg h1, if_pos ⟨rfl, rfl⟩] at hs2
              obtain rfl := iter_inl h hs2
              exact ⟨1, by simp only [iter, hd]⟩
          · rw [if_neg h4] at hd
            obtain ⟨N', hN⟩ := lin_same hop n _ R hw2 h
            exact ⟨N' + 1, by simp only [iter, hd]; exact hN⟩
theorem lin_ex {c : Con} {p : Doms} (hw : WholeC c p) : ∃ N R, iter (stepL c) N p = some R := by
  refine iter_ex (step := stepL c) (fun x => WholeC c x) weight (fun x y hx hy => ?_) p hw
  rw [stepL_eq hx] at hy
  obtain ⟨f1, s1⟩ := MO_ok hx
  by_cases h1 : [] ∈ M1 c x
  · rw [if_pos h1] at hy; cases hy
  · have hw1 : WholeC c (M1 c x) := Whole.most hx h1
    obtain ⟨f2, s2⟩ := MO_ok hw1.back
    rw [if_neg h1] at hy
    by_cases h2 : c.op = 0
    · rw [if_pos h2] at hy; cases hy
    · rw [if_neg h2] at hy
      by_cases h3 : [] ∈ M2 c (M1 c x)
      · rw [if_pos h3] at hy; cases hy
      · rw [if_neg h3] at hy
        by_cases h4 : M1 c x = x ∧ M2 c (M1 c x) = M1 c x
        · rw [if_pos h4] at hy; cases hy
        · rw [if_neg h4] at hy
          obtain rfl := Sum.inr.inj hy
          refine ⟨hw1.unback (Whole.most hw1.back h3), ?_⟩
          have w1 := weight_lt s1 f1 hx.fine.dom
          have w2 := weight_lt s2 f2 f1
          by_cases e1 : M1 c x = x
          · have e2 : M2 c (M1 c x) ≠ M1 c x := fun e2 => h4 ⟨e1, e2⟩
            have := w2.2 e2
            have := w1.1
            exact Nat.lt_of_lt_of_le (w2.2 e2) w1.1
          · exact Nat.lt_of_le_of_lt w2.1 (w1.2 e1)
end Go.Proofs.Ytchajofdjeijfaa
/-! What is left of domains, if a sum is not a number: both leave the same. -/
namespace Go.Proofs.Ytchajofdjeijfaa
open Go Go.RowKit
set_option linter.unusedVariables false
set_option linter.unusedSimpArgs false

theorem rng_len (lo hi : Int) : (rng lo hi).length = (hi + 1 - lo).toNat := by simp [rng]
theorem sizeW_eq {d : List (Int × Int)} (h : Fine d) : sizeW d = ((vals d).length : Nat) := by
  have hb := h.domB.1
  have hf := h.few
  have hok := h.ok
  have key : ∀ (d : List (Int × Int)) (n : Nat), InB d → (∀ r ∈ d, r.1 ≤ r.2) → n + (vals d).length ≤ 1000000000000000 → d.foldl (fun n r => wr (n + wr (wr (r.2 - r.1) + 1))) (n : Int) = ((n + (vals d).length : Nat) : Int) := by
    intro d
    induction d with
    | nil => intro n _ _ _; simp [vals]
    | cons r d ih =>
      intro n hb ho hl
      have h1 := hb r (.head _)
      have h2 := ho r (.head _)
      rw [vals_cons, List.length_append, rng_len] at hl ⊢
      rw [List.foldl_cons]
      have e : wr ((n : Int) + wr (wr (r.2 - r.1) + 1)) = ((n + (r.2 + 1 - r.1).toNat : Nat) : Int) := by
        simp only [wr]
        rw [wrap_id (n := r.2 - r.1) (by omega) (by omega), wrap_id (n := r.2 - r.1 + 1) (by omega) (by omega), wrap_id (by omega) (by omega)]
        omega
      rw [e, ih _ (fun r hr => hb r (.tail _ hr)) (fun r hr => ho r (.tail _ hr)) (by omega)]
      congr 1
      omega
  have := key d 0 hb hok.1 (by omega)
  simpa [sizeW] using this

/-- A domain without a value. -/
def piece (x : Int) (r : Int × Int) : List (Int × Int) := if x < r.1 ∨ r.2 < x then [r] else (if r.1 < x then [(r.1, x - 1)] else []) ++ (if x < r.2 then [(x + 1, r.2)] else [])
theorem minus_piece {a : List (Int × Int)} {x : Int} (ho : ∀ r ∈ a, r.1 ≤ r.2) (hx : -9000000000000000000 ≤ x ∧ x ≤ 9000000000000000000) : minusW a [(x, x)] = a.flatMap (piece x) := by
  have key : ∀ (a : List (Int × Int)) (out : List (Int × Int)), (∀ r ∈ a, r.1 ≤ r.2) → a.foldl (minusOne [(x, x)]) out = out ++ a.flatMap (piece x) := by
    intro a
    induction a with
    | nil => intro out _; simp
    | cons r a ih =>
      intro out ho
      have h1 := ho r (.head _)
      have e : minusOne [(x, x)] out r = out ++ piece x r := by
        unfold minusOne piece
        simp only [minusIn, wr]
        rw [wrap_id (n := x + 1) (by omega) (by omega), wrap_id (n := x - 1) (by omega) (by omega)]
        by_cases h2 : x < r.1 ∨ r.2 < x
        · rw [if_pos h2, if_pos h2]
          simp only
          rw [if_pos h1]
        · rw [if_neg h2, if_neg h2]
          simp only
          by_cases h3 : r.1 < x <;> by_cases h4 : x < r.2
          · rw [if_pos (show x + 1 ≤ r.2 by omega), if_pos h3, if_pos h3, if_pos h4, List.append_assoc]
          · rw [if_neg (show ¬ x + 1 ≤ r.2 by omega), if_pos h3, if_pos h3, if_neg h4, List.append_nil]
          · rw [if_pos (show x + 1 ≤ r.2 by omega), if_neg h3, if_neg h3, if_pos h4, List.nil_append]
          · rw [if_neg (show ¬ x + 1 ≤ r.2 by omega), if_neg h3, if_neg h3, if_neg h4]; simp
      rw [List.foldl_cons, e, ih _ fun r hr => ho r (.tail _ hr), List.flatMap_cons, List.append_assoc]
  unfold minusW
  rw [key a [] ho]
  rfl
theorem piece_in {x : Int} {r s : Int × Int} (h : r.1 ≤ r.2) (hs : s ∈ piece x r) : r.1 ≤ s.1 ∧ s.1 ≤ s.2 ∧ s.2 ≤ r.2 := by
  unfold piece at hs
  split at hs
  · simp only [List.mem_singleton] at hs; subst hs; omega
  · rcases List.mem_append.1 hs with hs | hs
    · split at hs
      · simp only [List.mem_singleton] at hs; subst hs; simp only; omega
      · cases hs
    · split at hs
      · simp only [List.mem_singleton] at hs; subst hs; simp only; omega
      · cases hs
theorem piece_ok {a : List (Int × Int)} {x : Int} (h : DomOk a) : DomOk (a.flatMap (piece x)) := by
  refine ⟨fun s hs => ?_, ?_⟩
  · obtain ⟨r, hr, hs⟩ := List.mem_flatMap.1 hs
    exact (piece_in (h.1 r hr) hs).2.1
  · induction a with
    | nil => exact .nil
    | cons r a ih =>
      have hp := List.pairwise_cons.1 h.2
      rw [List.flatMap_cons]
      refine List.pairwise_append.2 ⟨?_, ih h.tail, fun s hs t ht => ?_⟩
      · unfold piece
        split
        · simp
        · split <;> split <;> simp
          omega
      · obtain ⟨q, hq, ht⟩ := List.mem_flatMap.1 ht
        have h1 := piece_in (h.1 r (.head _)) hs
        have h2 := piece_in (h.1 q (.tail _ hq)) ht
        have := hp.1 q hq
        omega
theorem piece_mem {x v : Int} {r : Int × Int} : (∃ s ∈ piece x r, s.1 ≤ v ∧ v ≤ s.2) ↔ r.1 ≤ v ∧ v ≤ r.2 ∧ v ≠ x := by
  unfold piece
  constructor
  · rintro ⟨s, hs, h1, h2⟩
    split at hs
    · simp only [List.mem_singleton] at hs; subst hs; omega
    · rcases List.mem_append.1 hs with hs | hs
      · split at hs
        · simp only [List.mem_singleton] at hs; subst hs; simp only at h1 h2; omega
        · cases hs
      · split at hs
        · simp only [List.mem_singleton] at hs; subst hs; simp only at h1 h2; omega
        · cases hs
  · rintro ⟨h1, h2, h3⟩
    by_cases hc : x < r.1 ∨ r.2 < x
    · rw [if_pos hc]; exact ⟨r, .head _, h1, h2⟩
    · rw [if_neg hc]
      by_cases hv : v < x
      · exact ⟨(r.1, x - 1), List.mem_append_left _ (by rw [if_pos (by omega)]; exact .head _), h1, by simp only; omega⟩
      · exact ⟨(x + 1, r.2), List.mem_append_right _ (by rw [if_pos (by omega)]; exact .head _), by simp only; omega, h2⟩
theorem minus_ok {a : List (Int × Int)} {x : Int} (h : DomOk a) (hx : -9000000000000000000 ≤ x ∧ x ≤ 9000000000000000000) : DomOk (minusW a [(x, x)]) ∧ ∀ v, v ∈ vals (minusW a [(x, x)]) ↔ v ∈ vals a ∧ v ≠ x := by
  rw [minus_piece h.1 hx]
  refine ⟨piece_ok h, fun v => ?_⟩
  rw [mem_vals, mem_vals]
  constructor
  · rintro ⟨s, hs, h1⟩
    obtain ⟨r, hr, hs⟩ := List.mem_flatMap.1 hs
    have := piece_mem.1 ⟨s, hs, h1⟩
    exact ⟨⟨r, hr, this.1, this.2.1⟩, this.2.2⟩
  · rintro ⟨⟨r, hr, h1, h2⟩, h3⟩
    obtain ⟨s, hs, h4⟩ := piece_mem.2 ⟨h1, h2, h3⟩
    exact ⟨s, List.mem_flatMap.2 ⟨r, hr, hs⟩, h4⟩

/-- A known domain's value. -/
theorem one_val {x : List (Int × Int)} (h : Fine x) (hne : x ≠ []) (h1 : ¬ 1 < (vals x).length) : ∃ v, x = [(v, v)] ∧ vals x = [v] ∧ -1048576 ≤ v ∧ v ≤ 1048576 := by
  have hv : (vals x).length = 1 := by
    have : vals x ≠ [] := fun e => hne ((vals_ne h.ok).1 e)
    cases hx : vals x with
    | nil => exact absurd hx this
    | cons a l => rw [hx] at h1; simp at h1 ⊢; exact h1
  obtain ⟨v, rfl⟩ := (one_iff h.ok).1 hv
  have e : vals [(v, v)] = [v] := by simp [vals, rng_self]
  have := h.val v (by rw [e]; exact .head _)
  exact ⟨v, rfl, e, this⟩
/-- Both go through the terms alike. -/
theorem otherGo_same {B : Int} (hB : B ≤ 4611686018427388928) : ∀ (ts : List (List (Int × Int) × Int)) (i : Nat) (op : Int) (s : Int) (m a : Nat), TermsOk ts → (∀ t ∈ ts, t.1 ≠ []) → -B ≤ s - weightT ts → s + weightT ts ≤ B → (op < 0 ∧ m = 0 ∨ 0 ≤ op ∧ m = 1 ∧ op = a ∧ -(B - 1048576) ≤ s - weightT ts ∧ s + weightT ts ≤ B - 1048576) →
    (otherGo i ts op s = none ∧ 1 < (rotherGo i ts m s a).1) ∨ ∃ s', -B ≤ s' ∧ s' ≤ B ∧ ((∃ op', op' < 0 ∧ otherGo i ts op s = some (op', s') ∧ ∃ a', rotherGo i ts m s a = (0, s', a')) ∨ ∃ a' : Nat, -(B - 1048576) ≤ s' ∧ s' ≤ B - 1048576 ∧ otherGo i ts op s = some ((a' : Int), s') ∧ rotherGo i ts m s a = (1, s', a'))
  | [], i, op, s, m, a, _, _, h1, h2, hr => by
    have e : weightT [] = 0 := by simp [weightT, weightK]
    rw [e] at h1 h2 hr
    refine .inr ⟨s, by omega, by omega, ?_⟩
    rcases hr with ⟨ho, rfl⟩ | ⟨ho, rfl, rfl, h3, h4⟩
    · exact .inl ⟨op, ho, rfl, a, rfl⟩
    · exact .inr ⟨a, by omega, by omega, rfl, rfl⟩
  | t :: ts, i, op, s, m, a, h, hne, h1, h2, hr => by
    have hf := h t (.head _)
    have hx := hne t (.head _)
    have hp := weightT_pos ts
    have ha := absK_pos t.2
    rw [weightT_cons] at h1 h2 hr
    have hk1 : 1 ≤ absK t.2 := by have := hf.2.1; unfold absK; omega
    rw [otherGo, rotherGo, sizeW_eq hf.1]
    by_cases hc : 1 < (vals t.1).length
    · rw [if_pos (show (1 : Int) < ((vals t.1).length : Nat) by omega), if_pos hc]
      rcases hr with ⟨ho, rfl⟩ | ⟨ho, rfl, rfl, h3, h4⟩
      · rw [if_neg (by omega)]
        exact otherGo_same hB ts (i + 1) i s 1 i (fun t ht => h t (.tail _ ht)) (fun t ht => hne t (.tail _ ht)) (by omega) (by omega) (.inr ⟨by omega, rfl, rfl, by omega, by omega⟩)
      · rw [if_pos (by omega)]
        refine .inl ⟨rfl, ?_⟩
        have mono : ∀ (ts : List (List (Int × Int) × Int)) (i m : Nat) (s : Int) (a : Nat), m ≤ (rotherGo i ts m s a).1 := by
          intro ts
          induction ts with
          | nil => intro i m s a; exact Nat.le_refl _
          | cons t ts ih =>
            intro i m s a
            rw [rotherGo]
            split
            · exact Nat.le_trans (Nat.le_succ m) (ih _ _ _ _)
            · exact ih _ _ _ _
        exact mono ts (i + 1) 2 s i
    · rw [if_neg (show ¬ (1 : Int) < ((vals t.1).length : Nat) by omega), if_neg hc]
      obtain ⟨v, e1, e2, b1, b2⟩ := one_val hf.1 hx hc
      have hm := mul_in t.2 v b1 b2
      have hck := hf.2.2
      have el : (endW t.1 t.2 false).1 = t.2 * v := by
        rw [(endW_ok hf.1 hx hf.2).1, e1]
        simp [lowE, leastR, lastR]
      have er : wr (t.2 * hd0 (vals t.1)) = t.2 * v := by
        rw [e2]
        simp only [hd0, wr, List.getD_cons_zero]
        rw [wrap_id (by omega) (by omega)]
      have es : wr (s + t.2 * v) = s + t.2 * v := by rw [wr, wrap_id (by omega) (by omega)]
      rw [el, er, es]
      exact otherGo_same hB ts (i + 1) op (s + t.2 * v) m a (fun t ht => h t (.tail _ ht)) (fun t ht => hne t (.tail _ ht)) (by omega) (by omega) (hr.imp id fun ⟨q1, q2, q3, q4, q5⟩ => ⟨q1, q2, q3, by omega, by omega⟩)
theorem set_self {d : Doms} {v : Int} (h : v.toNat < d.length) : d.set v.toNat (domAt d v) = d := by
  refine List.ext_getElem? fun i => ?_
  by_cases e : v.toNat = i
  · subst e; rw [List.getElem?_set_self h, domAt_some h]
  · rw [List.getElem?_set_ne e]
theorem set_empty {d : Doms} {i : Nat} {x : List (Int × Int)} (hi : i < d.length) (hne : [] ∉ d) : [] ∈ d.set i x ↔ x = [] := by
  constructor
  · intro h
    rcases List.mem_or_eq_of_mem_set h with h | h
    · exact absurd h hne
    · exact h.symm
  · rintro rfl
    exact List.mem_iff_getElem?.2 ⟨i, List.getElem?_set_self hi⟩
theorem pos_iff {α : Type} {l : List α} : 0 < l.length ↔ l ≠ [] := by cases l <;> simp
/-- What is left of the one open domain. -/
theorem other_cut {x : List (Int × Int)} {k s rhs : Int} (hx : Fine x) (hk : CoefOk k) (h1 : -4611686018426340352 ≤ s ∧ s ≤ 4611686018426340352) (h2 : -4611686018427388928 ≤ rhs - s ∧ rhs - s ≤ 4611686018427388928) :
    ((wr (rhs - s)).tmod k = 0 → minusW x [(wr ((wr (rhs - s)).tdiv k), wr ((wr (rhs - s)).tdiv k))] = pack ((vals x).filter fun v => decide (wr (s + wr (k * v)) ≠ rhs))) ∧
    (¬ (wr (rhs - s)).tmod k = 0 → pack ((vals x).filter fun v => decide (wr (s + wr (k * v)) ≠ rhs)) = x) := by
  have hck := hk.2
  have hmem : ∀ w, w ∈ vals x → (wr (s + wr (k * w)) = rhs ↔ k * w = rhs - s) := by
    intro w hw
    have b := hx.val w hw
    have m := mul_in k w b.1 b.2
    simp only [wr]
    rw [wrap_id (n := k * w) (by omega) (by omega), wrap_id (by omega) (by omega)]
    omega
  have er : wr (rhs - s) = rhs - s := by rw [wr, wrap_id (by omega) (by omega)]
  rw [er]
  have et := Int.mul_tdiv_add_tmod (rhs - s) k
  have hq : -4611686018427388928 ≤ (rhs - s).tdiv k ∧ (rhs - s).tdiv k ≤ 4611686018427388928 := by
    have := Int.natAbs_tdiv_le_natAbs (rhs - s) k
    omega
  have hu := filter_up (p := fun w => decide (wr (s + wr (k * w)) ≠ rhs)) (vals_up hx.ok)
  constructor
  · intro hz
    rw [hz, Int.add_zero] at et
    clear hz
    generalize (rhs - s).tdiv k = q at *
    have eq : wr q = q := by rw [wr, wrap_id (by omega) (by omega)]
    rw [eq]
    obtain ⟨m1, m2⟩ := minus_ok (x := q) hx.ok (by omega)
    refine dom_ext m1 (pack_ok hu) (up_ext (vals_up m1) (vals_up (pack_ok hu)) fun v => ?_)
    rw [m2, vals_pack hu, List.mem_filter]
    refine and_congr_right fun hv => ?_
    rw [decide_eq_true_eq, ne_eq, ne_eq, hmem v hv, ← et]
    refine not_congr ⟨fun e => by rw [e], fun e => Int.eq_of_mul_eq_mul_left hk.1 e⟩
  · intro hz
    have e : ((vals x).filter fun w => decide (wr (s + wr (k * w)) ≠ rhs)) = vals x := by
      refine List.filter_eq_self.2 fun w hw => ?_
      rw [decide_eq_true]
      intro e
      have e2 := (hmem w hw).1 e
      rw [← e2, Int.mul_tmod_right] at hz
      exact hz rfl
    rw [e, pack_vals hx.ok]
/-- Both leave the same. -/
theorem other_same {d : Doms} {c : Con} (h : WholeC c d) (hpos : 0 < c.vars.length) : (if (otherW d c).2 then some (otherW d c).1 else none) = if [] ∈ rotherW d c then none else some (rotherW d c) := by
  have hw := terms_weight (d := d) h.fine.len
  have hb := h.big
  have har : absK c.rhs = max c.rhs (-c.rhs) := rfl
  have hin := rotherGo_in (termsOf d c.vars c.coefs) 0 0 0 0 c.vars.length hpos (by have := h.fine.len; simp [termsOf]; omega) (Nat.le_refl _)
  have key := otherGo_same (B := weightK c.coefs) (by omega) (termsOf d c.vars c.coefs) 0 (-1) 0 0 0 (terms_ok h.fine) (terms_ne h) (by omega) (by omega) (.inl ⟨by omega, rfl⟩)
  unfold otherW rotherW
  simp only
  rcases key with ⟨e1, e2⟩ | ⟨s, hs1, hs2, ⟨op, ho, e1, a, e2⟩ | ⟨a, hs3, hs4, e1, e2⟩⟩
  · rw [e1, if_pos e2, if_neg h.ne]
    rfl
  · rw [e1, e2]
    simp only [Nat.not_lt_zero, if_false, if_true, if_pos ho]
    have hv := h.fine.vin _ (varAt_mem (c := c) (k := 0) hpos)
    by_cases hs : s = c.rhs
    · rw [if_pos hs, if_pos ((set_empty hv.2 h.ne).2 rfl), decide_eq_false (by simpa using hs)]
      rfl
    · rw [if_neg hs, if_neg h.ne, decide_eq_true hs]
      rfl
  · rw [e1]
    rw [e2] at hin ⊢
    simp only [Nat.lt_irrefl, if_false, Nat.one_ne_zero, Int.toNat_natCast, if_neg (show ¬ (a : Int) < 0 by omega)]
    have hal : a < c.vars.length := hin.1
    have hac : a < c.coefs.length := by have := h.fine.len; omega
    have hv := h.fine.vin _ (varAt_mem (c := c) (k := a) hal)
    have hk := h.fine.ck (coefAt c a) (by unfold coefAt; rw [getD_at hac]; exact List.getElem_mem _)
    have hx := h.fine.dom _ (domAt_mem hv.2)
    obtain ⟨o1, o2⟩ := other_cut (s := s) (rhs := c.rhs) hx hk (by omega) (by omega)
    by_cases hz : (wr (c.rhs - s)).tmod (coefAt c a) = 0
    · rw [if_pos hz]
      simp only [o1 hz]
      by_cases he : pack ((vals (domAt d (varAt c a))).filter fun v => decide (wr (s + wr (coefAt c a * v)) ≠ c.rhs)) = []
      · rw [if_pos ((set_empty hv.2 h.ne).2 he), he]
        rfl
      · rw [if_neg (fun hm => he ((set_empty hv.2 h.ne).1 hm)), decide_eq_true (pos_iff.2 he)]
        rfl
    · rw [if_neg hz, o2 hz, set_self hv.2, if_neg h.ne]
      have : 0 < (domAt d (varAt c a)).length := pos_iff.2 fun e => h.ne (e ▸ domAt_mem hv.2)
      simp only
      rw [decide_eq_true this]
      rfl
end Go.Proofs.Ytchajofdjeijfaa
/-! Sums, pruned: the program and the document answer the same. -/
namespace Go.Proofs.Ytchajofdjeijfaa
open Go Go.RowKit
set_option linter.unusedVariables false
set_option linter.unusedSimpArgs false

theorem pack_fine {x : List (Int × Int)} (h : Fine x) (p : Int → Bool) : Fine (pack ((vals x).filter p)) := by
  have hu := filter_up (p := p) (vals_up h.ok)
  refine h.cut (pack_ok hu) fun v hv => ?_
  rw [vals_pack hu] at hv
  exact (List.mem_filter.1 hv).1
theorem mostRd_fine {d : Doms} {vars coefs : List Int} (rhs : Int) (hv : ∀ v ∈ vars, 0 ≤ v ∧ v.toNat < d.length) (hf : ∀ x ∈ d, Fine x) : ∀ n, n ≤ vars.length → ∀ x ∈ mostRd d vars coefs rhs n, Fine x
  | 0, _ => hf
  | n + 1, hn => by
    have h1 : n < vars.length := by omega
    refine mem_set (mostRd_fine rhs hv hf n (by omega)) ?_
    unfold mostRAt
    rw [getD_at h1]
    exact pack_fine (hf _ (domAt_mem (hv _ (List.getElem_mem h1)).2)) _
theorem rother_fine {d : Doms} {c : Con} (h : WholeC c d) (hpos : 0 < c.vars.length) : (rotherW d c).length = d.length ∧ ∀ x ∈ rotherW d c, Fine x := by
  have hin := rotherGo_in (termsOf d c.vars c.coefs) 0 0 0 0 c.vars.length hpos (by have := h.fine.len; simp [termsOf]; omega) (Nat.le_refl _)
  unfold rotherW
  simp only
  split
  · exact ⟨rfl, h.fine.dom⟩
  · split
    · split
      · exact ⟨by simp, mem_set h.fine.dom ⟨⟨by simp, .nil⟩, by simp [vals], by simp [vals]⟩⟩
      · exact ⟨rfl, h.fine.dom⟩
    · exact ⟨by simp, mem_set h.fine.dom (pack_fine (h.fine.dom _ (domAt_mem (h.fine.vin _ (varAt_mem hin.1)).2)) _)⟩
theorem SumOk.whole {d : Doms} {c : Con} (h : SumOk d c) (hne : [] ∉ d) : WholeC c d := ⟨h.fine, h.nod, hne, h.big⟩
/-- What both answer. -/
theorem lin_ans {d : Doms} {c : Con} (h : SumOk d c) : ∃ R N N', LinAns d c R N ∧ LinAnsR d c R N' ∧ ∀ out, R = some out → out.length = d.length ∧ [] ∉ out ∧ ∀ x ∈ out, Fine x := by
  by_cases hne : [] ∈ d
  · exact ⟨none, 0, 0, by rw [LinAns, if_pos hne], by rw [LinAnsR, if_pos hne], fun out h => by cases h⟩
  · have hw := h.whole hne
    have hm : mostD d c = M1 c d := mostR_eq hw
    by_cases h2 : c.op = 2
    · have hs := other_same hw h.pos
      obtain ⟨r1, r2⟩ := rother_fine hw h.pos
      refine ⟨if [] ∈ rotherW d c then none else some (rotherW d c), 0, 0, by rw [LinAns, if_neg hne, if_pos h2, hs], by rw [LinAnsR, if_neg hne, if_pos h2], fun out ho => ?_⟩
      split at ho
      · cases ho
      · rename_i hn
        obtain rfl := Option.some.inj ho
        exact ⟨r1, hn, r2⟩
    · have hfin : ∀ N R, iter (stepL c) N d = some R → ∀ out, R = some out → out.length = d.length ∧ [] ∉ out ∧ ∀ x ∈ out, Fine x := by
        intro N R hR out ho
        have hst : ∀ x y, (WholeC c x ∧ x.length = d.length) → stepL c x = .inr y → WholeC c y ∧ y.length = d.length := by
          rintro x y ⟨hx, hl⟩ hy
          rw [stepL_eq hx] at hy
          obtain ⟨f1, s1⟩ := MO_ok hx
          by_cases h1 : [] ∈ M1 c x
          · rw [if_pos h1] at hy; cases hy
          · have hw1 : WholeC c (M1 c x) := Whole.most hx h1
            obtain ⟨f2, s2⟩ := MO_ok hw1.back
            rw [if_neg h1] at hy
            split at hy
            · cases hy
            · split at hy
              · cases hy
              · rename_i h3
                split at hy
                · cases hy
                · obtain rfl := Sum.inr.inj hy
                  exact ⟨hw1.unback (Whole.most hw1.back h3), s2.1.trans (s1.1.trans hl)⟩
        obtain ⟨z, ⟨hz, hzl⟩, hs⟩ := iter_end (fun x => WholeC c x ∧ x.length = d.length) hst N d R ⟨hw, rfl⟩ hR
        rw [stepL_eq hz, ho] at hs
        obtain ⟨f1, s1⟩ := MO_ok hz
        by_cases h1 : [] ∈ M1 c z
        · rw [if_pos h1] at hs; cases hs
        · have hw1 : WholeC c (M1 c z) := Whole.most hz h1
          obtain ⟨f2, s2⟩ := MO_ok hw1.back
          rw [if_neg h1] at hs
          split at hs
          · obtain rfl := Option.some.inj (Sum.inl.inj hs)
            exact ⟨s1.1.trans hzl, h1, f1⟩
          · split at hs
            · cases hs
            · rename_i h3
              split at hs
              · obtain rfl := Option.some.inj (Sum.inl.inj hs)
                exact ⟨s2.1.trans (s1.1.trans hzl), h3, f2⟩
              · cases hs
      obtain ⟨N, R, hR⟩ := lin_ex hw
      by_cases h0 : c.op = 0
      · have hs := stepL_eq hw
        have e : R = if [] ∈ M1 c d then none else some (M1 c d) := by
          by_cases h1 : [] ∈ M1 c d
          · rw [if_pos h1] at hs ⊢
            exact (iter_inl hR hs).symm
          · rw [if_neg h1, if_pos h0] at hs
            rw [if_neg h1]
            exact (iter_inl hR hs).symm
        refine ⟨R, N, 1, by rw [LinAns, if_neg hne, if_neg h2]; exact hR, ?_, hfin N R hR⟩
        rw [LinAnsR, if_neg hne, if_neg h2, hm]
        have hd := stepD_eq (c := c) (d := M1 c d) (fun hn => Whole.most hw hn)
        rw [if_neg (fun hh => by have := hh.1; omega)] at hd
        simp only [iter, hd, e]
      · have h1 : c.op = 1 := by have := h.op; omega
        obtain ⟨N', hN⟩ := lin_same h1 N d R hw hR
        exact ⟨R, N, N', by rw [LinAns, if_neg hne, if_neg h2]; exact hR, by rw [LinAnsR, if_neg hne, if_neg h2, hm]; exact hN, hfin N R hR⟩
end Go.Proofs.Ytchajofdjeijfaa
/-! Sums, pruned: values with which the sum is so stay; what is known holds. -/
namespace Go.Proofs.Ytchajofdjeijfaa
open Go Go.RowKit
set_option linter.unusedVariables false
set_option linter.unusedSimpArgs false

/-- Values, one of each domain. -/
def Supp (a : List Int) (d : Doms) : Prop := a.length = d.length ∧ ∀ (i : Nat) x v, d[i]? = some x → a[i]? = some v → v ∈ vals x
theorem Supp.at {a : List Int} {d : Doms} (h : Supp a d) {v : Int} (h0 : 0 ≤ v) (hl : v.toNat < d.length) : atR a v ∈ vals (domAt d v) := by
  have ha : v.toNat < a.length := by have := h.1; omega
  refine h.2 v.toNat _ _ (domAt_some hl) ?_
  unfold atR
  rw [if_neg (by omega), List.getD_eq_getElem?_getD, List.getElem?_eq_getElem ha]
  rfl
theorem Supp.ne {a : List Int} {d : Doms} (h : Supp a d) : [] ∉ d := by
  intro hm
  obtain ⟨i, hi⟩ := List.mem_iff_getElem?.1 hm
  have hl := (List.getElem?_eq_some_iff.1 hi).1
  have := h.2 i [] _ hi (List.getElem?_eq_getElem (by have := h.1; omega))
  simp [vals] at this
/-- The sum. -/
def plainS (vars coefs a : List Int) : Int := ((vars.zip coefs).map fun p => p.2 * atR a p.1).sum
theorem lowE_le {x : List (Int × Int)} (h : DomOk x) {v k : Int} (hv : v ∈ vals x) : lowE x k ≤ k * v ∧ k * v ≤ highE x k := by
  have h1 := least_le h hv
  have h2 := le_last h hv
  unfold lowE highE
  by_cases hk : 0 < k
  · rw [if_pos hk, if_pos hk]
    exact ⟨Int.mul_le_mul_of_nonneg_left h1 (by omega), Int.mul_le_mul_of_nonneg_left h2 (by omega)⟩
  · rw [if_neg hk, if_neg hk]
    exact ⟨Int.mul_le_mul_of_nonpos_left (by omega) h2, Int.mul_le_mul_of_nonpos_left (by omega) h1⟩
theorem sum_le_sum {α : Type} {f g : α → Int} : ∀ {l : List α}, (∀ p ∈ l, f p ≤ g p) → (l.map f).sum ≤ (l.map g).sum ∧ ∀ p ∈ l, g p - f p ≤ (l.map g).sum - (l.map f).sum
  | [], _ => by simp
  | p :: l, h => by
    obtain ⟨h1, h2⟩ := sum_le_sum (l := l) fun q hq => h q (.tail _ hq)
    have h0 := h p (.head _)
    simp only [List.map_cons, List.sum_cons]
    refine ⟨by omega, fun q hq => ?_⟩
    rcases List.mem_cons.1 hq with rfl | hq
    · omega
    · have := h2 q hq
      omega
theorem lowS_zip (d : Doms) (vars coefs : List Int) : lowS (termsOf d vars coefs) = ((vars.zip coefs).map fun p => lowE (domAt d p.1) p.2).sum := by
  unfold lowS termsOf
  rw [List.map_map]
  rfl
theorem highS_zip (d : Doms) (vars coefs : List Int) : highS (termsOf d vars coefs) = ((vars.zip coefs).map fun p => highE (domAt d p.1) p.2).sum := by
  unfold highS termsOf
  rw [List.map_map]
  rfl
theorem plain_in {d : Doms} {vars coefs a : List Int} (h : SumFine d vars coefs) (hs : Supp a d) :
    lowS (termsOf d vars coefs) ≤ plainS vars coefs a ∧ plainS vars coefs a ≤ highS (termsOf d vars coefs) ∧ ∀ p ∈ vars.zip coefs, p.2 * atR a p.1 - lowE (domAt d p.1) p.2 ≤ plainS vars coefs a - lowS (termsOf d vars coefs) := by
  have hmem : ∀ p ∈ vars.zip coefs, lowE (domAt d p.1) p.2 ≤ p.2 * atR a p.1 ∧ p.2 * atR a p.1 ≤ highE (domAt d p.1) p.2 := fun p hp => by
    have hv := h.vin _ (List.of_mem_zip hp).1
    exact lowE_le (h.dom _ (domAt_mem hv.2)).ok (hs.at hv.1 hv.2)
  rw [lowS_zip, highS_zip]
  obtain ⟨h1, h2⟩ := sum_le_sum (f := fun p : Int × Int => lowE (domAt d p.1) p.2) (g := fun p => p.2 * atR a p.1) fun p hp => (hmem p hp).1
  obtain ⟨h3, _⟩ := sum_le_sum (f := fun p : Int × Int => p.2 * atR a p.1) (g := fun p => highE (domAt d p.1) p.2) fun p hp => (hmem p hp).2
  exact ⟨h1, h3, h2⟩
theorem plain_turned {vars coefs a : List Int} (h : ∀ k ∈ coefs, CoefOk k) : plainS vars (turnedW coefs) a = -plainS vars coefs a := by
  unfold plainS turnedW
  induction vars generalizing coefs with
  | nil => simp
  | cons v vars ih =>
    cases coefs with
    | nil => simp
    | cons k coefs =>
      have e := (turned_ok (h k (.head _))).1
      have := ih fun k hk => h k (.tail _ hk)
      simp only [List.map_cons, List.zip_cons_cons, List.sum_cons] at this ⊢
      rw [this, e, Int.neg_mul]
      omega
/-- Values with which a sum is at most a number stay. -/
theorem MO_supp {d : Doms} {vars coefs a : List Int} {rhs : Int} (h : Whole d vars coefs rhs) (hs : Supp a d) (hle : plainS vars coefs a ≤ rhs) : Supp a (MO d vars coefs rhs) := by
  obtain ⟨ha, hl⟩ := cuts_apart h
  obtain ⟨_, _, hp3⟩ := plain_in h.fine hs
  refine ⟨by rw [MO, setAll_len]; exact hs.1, fun i x v hx hv => ?_⟩
  by_cases he : ∃ p ∈ cuts d vars coefs rhs, p.1.toNat = i
  · obtain ⟨p, hp, rfl⟩ := he
    rw [show MO d vars coefs rhs = setAll (cuts d vars coefs rhs) d from rfl, setAll_at ha hl p hp] at hx
    obtain rfl := Option.some.inj hx
    obtain ⟨q, hq, rfl⟩ := List.mem_map.1 hp
    have hvq := h.fine.vin _ (List.of_mem_zip hq).1
    have hat := hs.at hvq.1 hvq.2
    have e : atR a q.1 = v := by
      unfold atR
      rw [if_neg (by omega), List.getD_eq_getElem?_getD, hv]
      rfl
    refine ((cutAt_ok h hq _).2 v).2 ⟨e ▸ hat, ?_⟩
    have := hp3 q hq
    rw [e] at this
    omega
  · rw [show MO d vars coefs rhs = setAll (cuts d vars coefs rhs) d from rfl, setAll_other _ _ _ fun p hp e => he ⟨p, hp, e⟩] at hx
    exact hs.2 i x v hx hv
/-- What a sum says of values. -/
def holds0 (c : Con) (a : List Int) : Bool := heldR c.op (plainS c.vars c.coefs a) c.rhs
theorem iter_supp {c : Con} {a : List Int} (hop : c.op = 0 ∨ c.op = 1) (hh : holds0 c a = true) : ∀ (N : Nat) (p : Doms) (R : Option Doms), WholeC c p → Supp a p → iter (stepL c) N p = some R → ∃ out, R = some out ∧ Supp a out
  | 0, p, R, _, _, h => by cases h
  | n + 1, p, R, hw, hs, h => by
    have hle : plainS c.vars c.coefs a ≤ c.rhs := by
      unfold holds0 heldR at hh
      rcases hop with h0 | h1
      · rw [if_pos h0] at hh; exact of_decide_eq_true hh
      · rw [if_neg (by omega), h1] at hh
        simp at hh
        omega
    have hst := stepL_eq hw
    have s1 : Supp a (M1 c p) := MO_supp hw hs hle
    rw [if_neg s1.ne] at hst
    by_cases h0 : c.op = 0
    · rw [if_pos h0] at hst
      obtain rfl := iter_inl h hst
      exact ⟨_, rfl, s1⟩
    · rw [if_neg h0] at hst
      have h1 : c.op = 1 := by omega
      have hw1 : WholeC c (M1 c p) := Whole.most hw s1.ne
      have heq : plainS c.vars c.coefs a = c.rhs := by
        unfold holds0 heldR at hh
        rw [if_neg h0, h1] at hh
        simpa using hh
      have hb := hw.big
      have hp := weightK_pos c.coefs
      have s2 : Supp a (M2 c (M1 c p)) := MO_supp hw1.back s1 (by rw [plain_turned hw.fine.ck, (wr_neg (by omega)).1]; omega)
      rw [if_neg s2.ne] at hst
      by_cases h3 : M1 c p = p ∧ M2 c (M1 c p) = M1 c p
      · rw [if_pos h3] at hst
        obtain rfl := iter_inl h hst
        exact ⟨_, rfl, s2⟩
      · rw [if_neg h3] at hst
        simp only [iter, hst] at h
        exact iter_supp (.inr h1) hh n _ R (hw1.unback (Whole.most hw1.back s2.ne)) s2 h

/-- Terms with values. -/
def ValsIn (ts : List ((List (Int × Int) × Int) × Int)) : Prop := ∀ t ∈ ts, t.2 ∈ vals t.1.1
theorem rotherGo_sum {B : Int} (hB : B ≤ 4611686018427388928) : ∀ (ts : List ((List (Int × Int) × Int) × Int)) (i m : Nat) (s : Int) (a : Nat), TermsOk (ts.map (·.1)) → ValsIn ts → -B ≤ s - weightT (ts.map (·.1)) → s + weightT (ts.map (·.1)) ≤ B →
    ((rotherGo i (ts.map (·.1)) m s a).1 = m → (rotherGo i (ts.map (·.1)) m s a).2.1 = s + (ts.map fun t => t.1.2 * t.2).sum ∧ (rotherGo i (ts.map (·.1)) m s a).2.2 = a) ∧
    m ≤ (rotherGo i (ts.map (·.1)) m s a).1 ∧
    ((rotherGo i (ts.map (·.1)) m s a).1 = m + 1 → ∃ j t, (rotherGo i (ts.map (·.1)) m s a).2.2 = i + j ∧ ts[j]? = some t ∧ (rotherGo i (ts.map (·.1)) m s a).2.1 + t.1.2 * t.2 = s + (ts.map fun t => t.1.2 * t.2).sum)
  | [], i, m, s, a, _, _, _, _ => by simp [rotherGo]
  | t :: ts, i, m, s, a, h, hv, h1, h2 => by
    have hf := h t.1 (.head _)
    have hvt := hv t (.head _)
    have hp := weightT_pos (ts.map (·.1))
    have ha := absK_pos t.1.2
    have hx : t.1.1 ≠ [] := fun e => by rw [e] at hvt; simp [vals] at hvt
    simp only [List.map_cons] at h1 h2 ⊢
    rw [weightT_cons] at h1 h2
    rw [rotherGo]
    simp only [List.sum_cons]
    by_cases hc : 1 < (vals t.1.1).length
    · rw [if_pos hc]
      obtain ⟨i1, i2, i3⟩ := rotherGo_sum hB ts (i + 1) (m + 1) s i (fun t ht => h t (.tail _ ht)) (fun t ht => hv t (.tail _ ht)) (by omega) (by omega)
      refine ⟨fun e => by omega, by omega, fun e => ?_⟩
      obtain ⟨j1, j2⟩ := i1 e
      exact ⟨0, t, by rw [j2]; rfl, rfl, by rw [j1]; omega⟩
    · rw [if_neg hc]
      obtain ⟨v, e1, e2, b1, b2⟩ := one_val hf.1 hx hc
      have hm := mul_in t.1.2 v b1 b2
      have hck := hf.2.2
      have ev : t.2 = v := by rw [e2] at hvt; simpa using hvt
      have er : wr (t.1.2 * hd0 (vals t.1.1)) = t.1.2 * v := by
        rw [e2]
        simp only [hd0, wr, List.getD_cons_zero]
        rw [wrap_id (by omega) (by omega)]
      have es : wr (s + t.1.2 * v) = s + t.1.2 * v := by rw [wr, wrap_id (by omega) (by omega)]
      rw [er, es, ev]
      obtain ⟨i1, i2, i3⟩ := rotherGo_sum hB ts (i + 1) m (s + t.1.2 * v) a (fun t ht => h t (.tail _ ht)) (fun t ht => hv t (.tail _ ht)) (by omega) (by omega)
      refine ⟨fun e => ?_, i2, fun e => ?_⟩
      · obtain ⟨j1, j2⟩ := i1 e
        exact ⟨by rw [j1]; omega, j2⟩
      · obtain ⟨j, u, j1, j2, j3⟩ := i3 e
        exact ⟨j + 1, u, by rw [j1]; omega, by simpa using j2, by rw [j3]; omega⟩
theorem rother_supp {d : Doms} {c : Con} {a : List Int} (h : WholeC c d) (hpos : 0 < c.vars.length) (hs : Supp a d) (hne : plainS c.vars c.coefs a ≠ c.rhs) : Supp a (rotherW d c) := by
  have hw := terms_weight (d := d) h.fine.len
  have hb := h.big
  have har : absK c.rhs = max c.rhs (-c.rhs) := rfl
  let ts : List ((List (Int × Int) × Int) × Int) := (c.vars.zip c.coefs).map fun p => ((domAt d p.1, p.2), atR a p.1)
  have et : ts.map (·.1) = termsOf d c.vars c.coefs := by simp only [ts, List.map_map]; rfl
  have eS : (ts.map fun t => t.1.2 * t.2).sum = plainS c.vars c.coefs a := by simp only [ts, List.map_map]; rfl
  have hv : ValsIn ts := by
    intro t ht
    obtain ⟨p, hp, rfl⟩ := List.mem_map.1 ht
    have := h.fine.vin _ (List.of_mem_zip hp).1
    exact hs.at this.1 this.2
  have key := rotherGo_sum (B := weightK c.coefs) (by omega) ts 0 0 0 0 (by rw [et]; exact terms_ok h.fine) hv (by rw [et]; omega) (by rw [et]; omega)
  rw [et, eS] at key
  have hin := rotherGo_in (termsOf d c.vars c.coefs) 0 0 0 0 c.vars.length hpos (by have := h.fine.len; simp [termsOf]; omega) (Nat.le_refl _)
  have hsame := otherGo_same (B := weightK c.coefs) (by omega) (termsOf d c.vars c.coefs) 0 (-1) 0 0 0 (terms_ok h.fine) (terms_ne h) (by omega) (by omega) (.inl ⟨by omega, rfl⟩)
  obtain ⟨k1, _, k3⟩ := key
  unfold rotherW
  simp only
  by_cases hm1 : 1 < (rotherGo 0 (termsOf d c.vars c.coefs) 0 0 0).1
  · rw [if_pos hm1]; exact hs
  · rw [if_neg hm1]
    by_cases hm0 : (rotherGo 0 (termsOf d c.vars c.coefs) 0 0 0).1 = 0
    · rw [if_pos hm0]
      have := (k1 hm0).1
      rw [if_neg (fun e => hne (by rw [this, Int.zero_add] at e; exact e))]
      exact hs
    · rw [if_neg hm0]
      obtain ⟨j, t, j1, j2, j3⟩ := k3 (by omega)
      rw [Nat.zero_add] at j1
      have hj : j < c.vars.length := by rw [← j1]; exact hin.1
      have hjc : j < c.coefs.length := by have := h.fine.len; omega
      have ht : t = ((domAt d (varAt c j), coefAt c j), atR a (varAt c j)) := by
        have hz : j < (c.vars.zip c.coefs).length := by simp; omega
        simp only [ts, List.getElem?_map, List.getElem?_eq_getElem hz, Option.map_some, Option.some.injEq] at j2
        rw [← j2, show varAt c j = c.vars[j] from getD_at hj, show coefAt c j = c.coefs[j] from getD_at hjc]
        simp
      rw [j1]
      have hv := h.fine.vin _ (varAt_mem hj)
      have hx := h.fine.dom _ (domAt_mem hv.2)
      have hk := h.fine.ck (coefAt c j) (by unfold coefAt; rw [getD_at hjc]; exact List.getElem_mem _)
      have hat := hs.at hv.1 hv.2
      rw [ht] at j3
      simp only at j3
      have hs' : -(weightK c.coefs - 1048576) ≤ (rotherGo 0 (termsOf d c.vars c.coefs) 0 0 0).2.1 ∧ (rotherGo 0 (termsOf d c.vars c.coefs) 0 0 0).2.1 ≤ weightK c.coefs - 1048576 := by
        rcases hsame with ⟨_, e⟩ | ⟨s', _, _, ⟨_, _, _, a', e⟩ | ⟨a', b1, b2, _, e⟩⟩
        · omega
        · rw [e] at hm0; exact absurd rfl hm0
        · rw [e]; exact ⟨b1, b2⟩
      generalize (rotherGo 0 (termsOf d c.vars c.coefs) 0 0 0).2.1 = s at *
      have b := hx.val _ hat
      have m := mul_in (coefAt c j) _ b.1 b.2
      have hck := hk.2
      have hu := filter_up (p := fun v => decide (wr (s + wr (coefAt c j * v)) ≠ c.rhs)) (vals_up hx.ok)
      refine ⟨by rw [List.length_set]; exact hs.1, fun i x v hxi hvi => ?_⟩
      by_cases e : (varAt c j).toNat = i
      · subst e
        rw [List.getElem?_set_self hv.2] at hxi
        obtain rfl := Option.some.inj hxi
        have ev : atR a (varAt c j) = v := by
          unfold atR
          rw [if_neg (by omega), List.getD_eq_getElem?_getD, hvi]
          rfl
        rw [ev] at hat j3 m
        rw [vals_pack hu, List.mem_filter]
        refine ⟨hat, ?_⟩
        rw [decide_eq_true_eq]
        rw [Int.zero_add] at j3
        clear k1 k3 hsame hin hm1 hm0 j1 j2 ht
        simp only [wr]
        rw [wrap_id (n := coefAt c j * v) (by omega) (by omega), wrap_id (by omega) (by omega), j3]
        exact hne
      · rw [List.getElem?_set_ne e] at hxi
        exact hs.2 i x v hxi hvi
/-- Values with which a sum is so stay. -/
theorem lin_sound {d : Doms} {c : Con} {a : List Int} (h : SumOk d c) (hs : Supp a d) (hh : holds0 c a = true) {R : Option Doms} {N : Nat} (hR : LinAns d c R N) : ∃ out, R = some out ∧ Supp a out := by
  have hw := h.whole hs.ne
  unfold LinAns at hR
  rw [if_neg hs.ne] at hR
  by_cases h2 : c.op = 2
  · rw [if_pos h2, other_same hw h.pos] at hR
    have hne : plainS c.vars c.coefs a ≠ c.rhs := by
      unfold holds0 heldR at hh
      rw [if_neg (by omega), h2] at hh
      simpa using hh
    have := rother_supp hw h.pos hs hne
    rw [if_neg this.ne] at hR
    exact ⟨_, hR, this⟩
  · rw [if_neg h2] at hR
    exact iter_supp (by have := h.op; omega) hh N d R hw hs hR
/-- What is known holds of any values. -/
theorem so_holds {d : Doms} {c : Con} {a : List Int} (h : SumFine d c.vars c.coefs) (hw : weightK c.coefs ≤ 4611686018427388928) (hop : 0 ≤ c.op ∧ c.op ≤ 2) (hs : Supp a d) (hso : soW (endsW d c.vars c.coefs) c = true) : holds0 c a = true := by
  have hne : ∀ t ∈ termsOf d c.vars c.coefs, t.1 ≠ [] := by
    intro t ht e
    obtain ⟨p, hp, rfl⟩ := List.mem_map.1 ht
    have := domAt_mem (h.vin _ (List.of_mem_zip hp).1).2
    simp only at e
    rw [e] at this
    exact hs.ne this
  have ht := terms_weight (d := d) h.len
  have hk := weightK_pos c.coefs
  obtain ⟨p1, p2, _⟩ := plain_in h hs
  unfold endsW at hso
  rw [endsGo_ok 0 0 (terms_ok h) hne (by omega) (by omega) (by omega) (by omega)] at hso
  unfold soW at hso
  simp only [Bool.true_eq_false, if_false, Int.zero_add] at hso
  unfold holds0 heldR
  by_cases h0 : c.op = 0
  · rw [if_pos h0] at hso ⊢
    exact decide_eq_true (by have := of_decide_eq_true hso; omega)
  · rw [if_neg h0] at hso ⊢
    by_cases h1 : c.op = 1
    · rw [if_pos h1] at hso
      simp only [Bool.and_eq_true, decide_eq_true_eq] at hso
      rw [decide_eq_true h1, decide_eq_true (by omega)]
      rfl
    · rw [if_neg h1] at hso
      simp only [Bool.or_eq_true, decide_eq_true_eq] at hso
      rw [decide_eq_false h1, decide_eq_false (by omega)]
      rfl
theorem not_holds {d : Doms} {c : Con} {a : List Int} (h : SumOk d c) (hs : Supp a d) (hso : soW (endsW d (notW c).vars (notW c).coefs) (notW c) = true) : holds0 c a = false := by
  have hb := h.big
  have hr : absK c.rhs = max c.rhs (-c.rhs) := rfl
  have hk := weightK_pos c.coefs
  have hn : SumFine d (notW c).vars (notW c).coefs ∧ weightK (notW c).coefs ≤ 4611686018427388928 ∧ 0 ≤ (notW c).op ∧ (notW c).op ≤ 2 := by
    have e : weightK c.coefs ≤ 4611686018427388928 := by omega
    have ho := h.op
    unfold notW
    split
    · exact ⟨h.fine.back, by simp only; rw [weightK_turned _ h.fine.ck]; exact e, ho⟩
    · split
      · exact ⟨h.fine, e, by simp, by simp⟩
      · split
        · exact ⟨h.fine, e, by simp, by simp⟩
        · exact ⟨h.fine, e, ho⟩
  have hh := so_holds hn.1 hn.2.1 hn.2.2 hs hso
  unfold holds0 heldR at hh ⊢
  unfold notW at hh
  have ho := h.op
  by_cases h0 : c.op = 0
  · rw [if_pos h0] at hh
    simp only [if_pos h0] at hh
    rw [if_pos h0]
    rw [plain_turned h.fine.ck] at hh
    have e : wr (wr (0 - c.rhs) - 1) = -c.rhs - 1 := by
      rw [(wr_neg (by omega)).1, wr, wrap_id (by omega) (by omega)]
    rw [e] at hh
    exact decide_eq_false (by have := of_decide_eq_true hh; omega)
  · rw [if_neg h0] at hh ⊢
    by_cases h1 : c.op = 1
    · rw [if_pos h1] at hh
      rw [if_neg (by simp)] at hh
      simp at hh
      rw [decide_eq_true h1, decide_eq_false hh]
      rfl
    · have h2 : c.op = 2 := by omega
      rw [if_neg h1, if_pos h2] at hh
      rw [if_neg (by simp)] at hh
      simp at hh
      rw [decide_eq_false h1, decide_eq_true hh]
      rfl
/-- The machine's sum is the sum. -/
theorem sumW_eq {d : Doms} {vars coefs a : List Int} (h : SumFine d vars coefs) (hw : weightK coefs ≤ 4611686018427388928) (hs : Supp a d) : sumW vars coefs a = plainS vars coefs a := by
  have key : ∀ (l : List (Int × Int)) (n : Int), (∀ p ∈ l, CoefOk p.2 ∧ -1048576 ≤ atR a p.1 ∧ atR a p.1 ≤ 1048576) → -4611686018427388928 ≤ n - weightK (l.map (·.2)) → n + weightK (l.map (·.2)) ≤ 4611686018427388928 →
      l.foldl (fun n p => IntKind.i64.wrap (n + IntKind.i64.wrap (p.2 * atR a p.1))) n = n + (l.map fun p => p.2 * atR a p.1).sum := by
    intro l
    induction l with
    | nil => intro n _ _ _; simp
    | cons p l ih =>
      intro n hp h1 h2
      obtain ⟨hk, b1, b2⟩ := hp p (.head _)
      have hm := mul_in p.2 (atR a p.1) b1 b2
      have hck := hk.2
      have hpos := weightK_pos (l.map (·.2))
      have e : weightK ((p :: l).map (·.2)) = absK p.2 * 1048576 + weightK (l.map (·.2)) := by simp [weightK]
      rw [e] at h1 h2
      rw [List.foldl_cons, wrap_id (n := p.2 * atR a p.1) (by omega) (by omega), wrap_id (n := n + p.2 * atR a p.1) (by omega) (by omega), ih _ (fun q hq => hp q (.tail _ hq)) (by omega) (by omega)]
      simp only [List.map_cons, List.sum_cons]
      omega
  have hl : (vars.zip coefs).map (·.2) = coefs := by rw [List.map_snd_zip]; have := h.len; omega
  have := key (vars.zip coefs) 0 (fun p hp => by
    obtain ⟨h1, h2⟩ := List.of_mem_zip hp
    have hv := h.vin _ h1
    exact ⟨h.ck _ h2, (h.dom _ (domAt_mem hv.2)).val _ (hs.at hv.1 hv.2)⟩) (by rw [hl]; omega) (by rw [hl]; omega)
  unfold sumW plainS
  rw [this]
  omega
theorem supp_pick {d : Doms} (a : List Int) (he : emptyV d = false) : Supp (pickL d a) d := by
  refine ⟨by simp [pickL], fun i x v hx hv => ?_⟩
  have hi := (List.getElem?_eq_some_iff.1 hx).1
  have hxe : d[i] = x := by rw [List.getElem?_eq_getElem hi] at hx; exact Option.some.inj hx
  simp only [pickL, List.getElem?_map, List.getElem?_range hi, Option.map_some, Option.some.injEq] at hv
  subst hv
  have hne : 0 < (vals x).length := by
    cases h2 : vals x with
    | nil =>
      have : emptyV d = true := List.any_eq_true.2 ⟨x, List.mem_of_getElem? hx, by rw [h2]; rfl⟩
      rw [this] at he; cases he
    | cons y l => simp
  have hg : d.getD i [] = x := by rw [List.getD_eq_getElem?_getD, hx]; rfl
  obtain ⟨hm1, hm2⟩ := tmod_in (pickN_pos a i) hne
  unfold pickAt
  rw [hg, List.getD_eq_getElem?_getD, List.getElem?_eq_getElem hm2]
  exact List.getElem_mem hm2
end Go.Proofs.Ytchajofdjeijfaa
/-! The entry of the statements of order: a case, as it is handed in. -/
namespace Go.Proofs.Ytchajofdjeijfaa
open Go Go.RowKit
set_option linter.unusedVariables false
set_option maxRecDepth 100000

section
variable {H : Type} {henc : TypeId × Value → H} {w : World}
theorem opens_I : Opens henc Try.prog w 3 cI (fun n => -9223372036854775808 ≤ n ∧ n ≤ 9223372036854775807) := opens_int (by kernel_rfl)
theorem opens_IL : Opens henc Try.prog w 23 (fun l => [ints l]) (fun l => l.length * 8 ≤ reachBytes) :=
  (opens_slice (t := 23) (e := 3) (by kernel_rfl) opens_I (fun _ => by kernel_rfl) (by decide +kernel) (fun a p hp => by simp [cI] at hp; subst hp; rfl)).map id (fun _ => rfl) fun l h => h.1
theorem opens_LL : Opens henc Try.prog w 22 (fun l => [lists l]) (fun l => l.length * 24 ≤ reachBytes ∧ ∀ x ∈ l, x.length * 8 ≤ reachBytes) :=
  (opens_slice (t := 22) (e := 23) (by kernel_rfl) opens_IL (fun _ => by kernel_rfl) (by decide +kernel) (fun a p hp => by simp at hp; subst hp; rfl)).map id (fun _ => rfl) fun l h => h
theorem opens_con : Opens henc Try.prog w 25 cC ConB := by
  have h := opens_struct (henc := henc) (w := w) Try.underlying25 (opensL_cons opens_I rfl (opensL_cons opens_IL (by kernel_rfl) (opensL_cons opens_IL (by kernel_rfl) (opensL_cons opens_I (by kernel_rfl) (opensL_cons opens_I (by kernel_rfl) (opensL_cons opens_LL (by kernel_rfl) (opensL_cons opens_I (by kernel_rfl) (opensL_nil _)))))))) (by kernel_rfl)
  refine h.map (fun x => (⟨x.1, x.2.1, x.2.2.1, x.2.2.2.1, x.2.2.2.2.1, x.2.2.2.2.2.1, x.2.2.2.2.2.2.1⟩ : Con)) (fun _ => rfl) fun x h => ?_
  obtain ⟨_, h1, h2, _, _, h3, _⟩ := h
  have e : reachBytes = 140737488351232 := rfl
  rw [e] at h1 h2 h3
  exact ⟨by simp only; omega, by simp only; omega, by simp only; omega, fun y hy => by have := h3.2 y hy; omega⟩
theorem opens_case2 : Opens henc Try.prog w 53 cCase (fun o => CaseB o ∧ o.a.length * 8 ≤ 140737488355328 ∧ o.take.length * 8 ≤ 140737488355328) := by
  have h := opens_struct (henc := henc) (w := w) Try.underlying53 (opensL_cons opens_LL rfl (opensL_cons opens_con (by kernel_rfl) (opensL_cons opens_IL (by kernel_rfl) (opensL_cons opens_IL (by kernel_rfl) (opensL_nil _))))) (by kernel_rfl)
  refine h.map (fun x => (⟨x.1, x.2.1, x.2.2.1, x.2.2.2.1⟩ : Case)) (fun _ => by simp [cCase]) fun x h => ?_
  obtain ⟨h1, h2, h3, h4, _⟩ := h
  have e : reachBytes = 140737488351232 := rfl
  rw [e] at h1 h3 h4
  exact ⟨⟨h2, by simp only; omega, fun y hy => by have := h1.2 y hy; omega⟩, by simp only; omega, by simp only; omega⟩
theorem opens_sum : Opens henc Try.prog w 27 cCase (fun o => CaseB o ∧ o.a.length * 8 ≤ 140737488355328 ∧ o.take.length * 8 ≤ 140737488355328) := by
  have h := opens_struct (henc := henc) (w := w) Try.underlying27 (opensL_cons opens_LL rfl (opensL_cons opens_con (by kernel_rfl) (opensL_cons opens_IL (by kernel_rfl) (opensL_cons opens_IL (by kernel_rfl) (opensL_nil _))))) (by kernel_rfl)
  refine h.map (fun x => (⟨x.1, x.2.1, x.2.2.1, x.2.2.2.1⟩ : Case)) (fun _ => by simp [cCase]) fun x h => ?_
  obtain ⟨h1, h2, h3, h4, _⟩ := h
  have e : reachBytes = 140737488351232 := rfl
  rw [e] at h1 h3 h4
  exact ⟨⟨h2, by simp only; omega, fun y hy => by have := h1.2 y hy; omega⟩, by simp only; omega, by simp only; omega⟩
theorem opens_case : Opens henc Try.prog w 53 cCase CaseB := opens_case2.map id (fun _ => rfl) fun _ h => h.1
theorem case_one (o : Case) : ∀ p ∈ cCase o, p.one = true := by
  intro p hp
  simp [cCase, cC] at hp
  rcases hp with rfl | rfl | rfl | rfl | rfl | rfl | rfl | rfl | rfl | rfl <;> rfl
end
end Go.Proofs.Ytchajofdjeijfaa
