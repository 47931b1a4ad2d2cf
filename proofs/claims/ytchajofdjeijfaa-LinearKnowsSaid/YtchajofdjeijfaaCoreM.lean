/- A region that draws its order: every order comes to the same. -/
import Derived.Test.YtchajofdjeijfaaCoreL
namespace Go.Proofs.Ytchajofdjeijfaa
open Go Go.RowKit
set_option linter.unusedVariables false
set_option linter.unusedSimpArgs false

structure OkD (ops : Array Oper) (m : Nat) : Prop where
  back : ∀ (j : Nat) o, ops[j]? = some o → ∀ e ∈ o.after.toList, Region.binds .any e = true → e.on < j
  free : ∀ (j : Nat) o, ops[j]? = some o → j < m → ∀ (i : Nat) oi, i < m → ops[i]? = some oi → i ≠ j → (∀ d, oi.dst = some d → o.dst ≠ some d) ∧ ∀ d, oi.dst = some d → d ∈ o.looksAt ops → if i < j then ((Region.before ops).getD j 0).testBit i = true else ((Region.before ops).getD i 0).testBit j = true
  tail : ∀ (j : Nat) o, ops[j]? = some o → m ≤ j → ∀ i, i < j → ((Region.before ops).getD j 0).testBit i = true

theorem okW_spec {ops : Array Oper} {m : Nat} (h : okW ops m = true) : OkD ops m := by
  unfold okW at h
  simp only [List.all_eq_true, List.mem_range] at h
  have hj : ∀ (j : Nat) o, ops[j]? = some o → _ := fun j o ho => h j (Array.getElem?_eq_some_iff.1 ho).1
  refine ⟨?_, ?_, ?_⟩
  · intro j o ho e he hb
    have := h j (Array.getElem?_eq_some_iff.1 ho).1
    simp only [ho, Bool.and_eq_true, List.all_eq_true] at this
    have h2 := this.1 e he
    simp only [hb, Bool.not_true, Bool.false_or] at h2
    simpa [Nat.blt_eq] using h2
  · intro j o ho hjm i oi him hoi hne
    have := h j (Array.getElem?_eq_some_iff.1 ho).1
    simp only [ho, Bool.and_eq_true, List.all_eq_true, List.mem_range] at this
    have h2 := this.2
    rw [if_pos hjm] at h2
    simp only [Bool.and_eq_true, List.all_eq_true, List.mem_range] at h2
    have h3 := h2.2 i him
    simp only [hoi, Bool.or_eq_true, beq_iff_eq, Bool.and_eq_true, Bool.not_eq_true', beq_eq_false_iff_ne, ne_eq] at h3
    obtain ⟨h4, h5⟩ := h3.resolve_left hne
    refine ⟨fun d hd e => ?_, fun d hd hm => ?_⟩
    · rcases h4 with h4 | h4
      · rw [hd] at h4; cases h4
      · exact h4 (hd.trans e.symm)
    rw [hd] at h5
    simp only [Bool.or_eq_true, Bool.not_eq_true', List.contains_eq_mem, decide_eq_false_iff_not] at h5
    have h6 := h5.resolve_left (fun h => h hm)
    split
    · rename_i hlt; rw [if_pos hlt] at h6; exact h6
    · rename_i hlt; rw [if_neg hlt] at h6; exact h6
  · intro j o ho hmj i hij
    have := h j (Array.getElem?_eq_some_iff.1 ho).1
    simp only [ho, Bool.and_eq_true, List.all_eq_true, List.mem_range] at this
    have h2 := this.2
    rw [if_neg (by omega)] at h2
    simp only [List.all_eq_true, List.mem_range] at h2
    exact h2 i hij

def Closed (ops : Array Oper) (L : Array Bool) : Prop := ∀ (k : Nat) o, L.getD k false = true → ops[k]? = some o → ∀ e ∈ o.after.toList, Region.binds .any e = true → L.getD e.on false = true

theorem closed_bit {ops : Array Oper} {m : Nat} (hok : OkD ops m) {L : Array Bool} (hc : Closed ops L) : ∀ (j : Nat) o, ops[j]? = some o → (∀ e ∈ o.after.toList, Region.binds .any e = true → L.getD e.on false = true) →
    ∀ i, ((Region.before ops).getD j 0).testBit i = true → L.getD i false = true := by
  intro j
  induction j using Nat.strongRecOn with
  | _ j ih =>
    intro o ho hl i hb
    obtain ⟨e, he, hbd, hr⟩ := before_bit ho hb (hok.back j o ho)
    rcases hr with rfl | ⟨hlt, hb2⟩
    · exact hl e he hbd
    · have hj : j < ops.size := (Array.getElem?_eq_some_iff.1 ho).1
      have hoe : ops[e.on]? = some ops[e.on] := Array.getElem?_eq_getElem (by omega)
      exact ih e.on hlt _ hoe (hc e.on _ (hl e he hbd) hoe) i hb2

theorem getD_lt {L : Array Bool} {k : Nat} (h : L.getD k false = true) : k < L.size := by
  rcases Nat.lt_or_ge k L.size with h1 | h1
  · exact h1
  · simp [Array.getD, show ¬ k < L.size by omega] at h

theorem getD_set {L : Array Bool} {j k : Nat} (hj : j < L.size) : (L.setIfInBounds j true).getD k false = true ↔ L.getD k false = true ∨ k = j := by
  by_cases e : j = k
  · subst e; simp [Array.getD_eq_getD_getElem?, hj]
  · simp [Array.getD_eq_getD_getElem?, Array.getElem?_setIfInBounds, e, Ne.symm e]

theorem filter_lt {α : Type} {p q : α → Bool} : ∀ (l : List α) (x : α), (∀ y, q y = true → p y = true) → x ∈ l → p x = true → q x = false → (l.filter q).length < (l.filter p).length
  | [], x, _, h, _, _ => by cases h
  | y :: l, x, hpq, hm, hp, hq => by
    have hle : ∀ (l : List α), (l.filter q).length ≤ (l.filter p).length := by
      intro l
      induction l with
      | nil => simp
      | cons z l ih =>
        simp only [List.filter_cons]
        cases hqz : q z with
        | true => simp [hpq z hqz]; omega
        | false => cases hpz : p z <;> simp <;> omega
    simp only [List.filter_cons]
    cases hm with
    | head => rw [hp, hq]; simp; have := hle l; omega
    | tail _ hm =>
      have ih := filter_lt l x hpq hm hp hq
      cases hqy : q y with
      | true => simp [hpq y hqy]; omega
      | false => cases hpy : p y <;> simp <;> omega

def open_ (ops : Array Oper) (L : Array Bool) : Nat := ((List.range ops.size).filter fun i => !L.getD i true).length

/-- Something is ready unless all is listed. -/
theorem ready_ne {ops : Array Oper} {m : Nat} (hok : OkD ops m) {L : Array Bool} (hs : L.size = ops.size) {i : Nat} (hi : i < ops.size) (hl : L.getD i false = false) : Region.ready .any ops L ≠ [] := by
  induction i using Nat.strongRecOn with
  | _ i ih =>
    by_cases h : ∃ k, k < i ∧ L.getD k false = false
    · obtain ⟨k, hk, hlk⟩ := h
      exact ih k hk (by omega) hlk
    · have hr : i ∈ Region.ready .any ops L := by
        refine mem_ready.2 ⟨?_, ops[i], Array.getElem?_eq_getElem hi, fun e he hb => ?_⟩
        · simp only [Array.getD, hs, hi, dite_true] at hl ⊢; exact hl
        · have hlt := hok.back i ops[i] (Array.getElem?_eq_getElem hi) e (by simpa using he) hb
          cases hx : L.getD e.on false with
          | true => rfl
          | false => exact absurd ⟨e.on, hlt, hx⟩ h
      intro hn
      rw [hn] at hr
      cases hr

theorem open_set {ops : Array Oper} {L : Array Bool} {j : Nat} (hs : L.size = ops.size) (hj : j < ops.size) (hl : L.getD j true = false) : open_ ops (L.setIfInBounds j true) < open_ ops L := by
  refine filter_lt _ j (fun y hy => ?_) (List.mem_range.2 hj) (by simp only [hl]; rfl) ?_
  · by_cases e : j = y
    · subst e
      simp [Array.getD_eq_getD_getElem?, hs, hj] at hy
    · simpa [Array.getD_eq_getD_getElem?, Array.getElem?_setIfInBounds, e] using hy
  · simp [Array.getD_eq_getD_getElem?, hs, hj]

theorem any_tail {P : Program} {ops : Array Oper} {Q : Exit → Act → World → Prop} {m : Nat} (hok : OkD ops m) : ∀ (r k : Nat), k + r = ops.size → m ≤ k → ∀ (fuel : Nat) (L : Array Bool) (a : Act) (w : World), L.size = ops.size → (∀ i, L.getD i false = true ↔ i < k) → open_ ops L ≤ fuel →
    wpOps P ops Q (List.range' k r) a w → wpAny P .any ops Q fuel L a w
  | 0, k, hk, hm, fuel, L, a, w, hs, hL, ho, h => by
    have hr : Region.ready .any ops L = [] := by
      cases hr : Region.ready .any ops L with
      | nil => rfl
      | cons j js =>
        have hj : j ∈ Region.ready .any ops L := by rw [hr]; exact .head _
        obtain ⟨h1, o, h2, _⟩ := mem_ready.1 hj
        have hlt := (Array.getElem?_eq_some_iff.1 h2).1
        have := (hL j).2 (by omega)
        simp only [Array.getD, hs, hlt, dite_true] at h1 this
        rw [h1] at this
        cases this
    have hq : Q .normal a w := by simpa [wpOps] using h
    cases fuel with
    | zero => exact ⟨hr, hq⟩
    | succ fuel => exact ⟨fun _ => hq, fun i hi => by rw [hr] at hi; cases hi⟩
  | r + 1, k, hk, hm, fuel, L, a, w, hs, hL, ho, h => by
    have hkl : k < ops.size := by omega
    have hun : L.getD k false = false := by
      cases hx : L.getD k false with
      | false => rfl
      | true => have := (hL k).1 hx; omega
    have hne := ready_ne hok hs hkl hun
    have hpos : 0 < open_ ops L := by
      have : L.getD k true = false := by simp only [Array.getD, hs, hkl, dite_true] at hun ⊢; exact hun
      have := open_set hs hkl this
      omega
    cases fuel with
    | zero => omega
    | succ fuel =>
      refine ⟨fun h0 => absurd h0 hne, fun j hj => ?_⟩
      obtain ⟨h1, o, h2, h3⟩ := mem_ready.1 hj
      have hlt := (Array.getElem?_eq_some_iff.1 h2).1
      have hjk : j = k := by
        rcases Nat.lt_trichotomy j k with h4 | h4 | h4
        · have := (hL j).2 h4
          simp only [Array.getD, hs, hlt, dite_true] at h1 this
          rw [h1] at this; cases this
        · exact h4
        · have hc : Closed ops L := by
            intro i oi hi hoi e he hb
            have hik := (hL i).1 hi
            exact (hL e.on).2 (Nat.lt_trans (hok.back i oi hoi e he hb) hik)
          have hb := hok.tail j o h2 (by omega) k h4
          have := closed_bit hok hc j o h2 (fun e he hb => h3 e (by simpa using he) hb) k hb
          rw [hun] at this; cases this
      subst hjk
      rw [List.range'_succ, wpOps_cons] at h
      refine wpOp_mono (fun a' w' h' => ?_) h
      refine any_tail hok r (j + 1) (by omega) (by omega) fuel _ a' w' (by simp [hs]) (fun i => ?_) ?_ h'
      · rw [getD_set (by omega), hL i]; omega
      · have := open_set hs hlt h1; omega

theorem draw_any {K : Ctx} {ops : Array Oper} {m : Nat} (hok : OkD ops m) (hm : m ≤ ops.size) {V0 V' : EnvF} {n0 n' : Nat} {rs : Nat → RecD} {W : Nat → EnvF}
    (h0 : W 0 = V0) (h1 : W m = V') (h2 : (rs 0).n = n0) (h3 : (rs m).n = n') (h4 : ∀ i, i < m → W (i + 1) = upd (W i) (rs i) ∧ (rs (i + 1)).n = (rs i).n + (rs i).ad.length)
    (h5 : ∀ (i : Nat) o, i < m → ops[i]? = some o → RO K ops (W i) o (rs i)) (hlow : ∀ i q c, i < m → (rs i).wr = some (q, c) → q < n0)
    (h6 : ∀ k j, k < m → j < m → k ≠ j → ∀ q c o, (rs k).wr = some (q, c) → ops[j]? = some o → ordered ops k j = true ∨ ∀ x ∈ o.op.operands, ∀ sv, (W j).get x = some sv → sv.inU (· ≠ q))
    (hsc : ∀ s sv, V0.slot s = some sv → sv.inU (· < n0))
    {Q : Exit → Act → World → Prop} (hT : ∀ a w φ, RelW K V' (· < n') φ a w → wpOps K.P ops Q (List.range' m (ops.size - m)) a w) :
    ∀ (fuel : Nat) (L : Array Bool) (φ : Nat → Value) (a : Act) (w : World), L.size = ops.size → (∀ k, L.getD k false = true → k < m) → Closed ops L → open_ ops L ≤ fuel →
      RelW K (ov V0 rs (fun k => L.getD k false = true)) (fun q => q < n0 ∨ ∃ k, L.getD k false = true ∧ (rs k).n ≤ q ∧ q < (rs k).n + (rs k).ad.length) φ a w → wpAny K.P .any ops Q fuel L a w := by
  have hdst : ∀ (i : Nat) o, i < m → ops[i]? = some o → o.dst = (rs i).d := by
    intro i o hi ho
    have hr := h5 i o hi ho
    generalize rs i = r at hr ⊢
    cases hr with
    | does _ hd _ _ => exact hd
    | skip _ hd _ => exact hd
    | sto _ hd _ => exact hd
  have hs : Sound V0 rs m := by
    refine ⟨fun i j s hi hj e e2 => ?_, fun i hi => (h4 i hi).2, fun i q c hi hw => ⟨by rw [h2]; exact hlow i q c hi hw, ?_⟩⟩
    · by_cases hij : i = j
      · exact hij
      · have hoi : ops[i]? = some (ops[i]'(by omega)) := Array.getElem?_eq_getElem (by omega)
        have hoj : ops[j]? = some (ops[j]'(by omega)) := Array.getElem?_eq_getElem (by omega)
        have := (hok.free j _ hoj hj i _ hi hoi hij).1 s ((hdst i _ hi hoi).trans e)
        exact absurd ((hdst j _ hj hoj).trans e2) this
    · have hoi : ops[i]? = some (ops[i]'(by omega)) := Array.getElem?_eq_getElem (by omega)
      have hr := h5 i _ hi hoi
      generalize rs i = r at hr hw ⊢
      cases hr with
      | does _ _ _ _ => cases hw
      | skip _ _ _ => cases hw
      | sto _ _ _ => rfl
  have hWi : ∀ i, i ≤ m → W i = ov V0 rs (· < i) := ov_text hs h0 fun i hi => (h4 i hi).1
  have hnn : ∀ i, i ≤ m → n0 ≤ (rs i).n := fun i hi => by rw [← h2]; exact hs.mono (Nat.zero_le _) hi
  have hinterval : ∀ i, i ≤ m → ∀ q, q < (rs i).n → q < n0 ∨ ∃ k, k < i ∧ (rs k).n ≤ q ∧ q < (rs k).n + (rs k).ad.length := by
    intro i
    induction i with
    | zero => intro _ q hq; rw [h2] at hq; exact .inl hq
    | succ i ih =>
      intro hi q hq
      rw [(h4 i (by omega)).2] at hq
      by_cases hlt : q < (rs i).n
      · rcases ih (by omega) q hlt with h | ⟨k, hk, h⟩
        · exact .inl h
        · exact .inr ⟨k, by omega, h⟩
      · exact .inr ⟨i, by omega, by omega, hq⟩
  have hscope : ∀ i, i ≤ m → ∀ s sv, (W i).slot s = some sv → sv.inU (· < (rs i).n) := by
    intro i
    induction i with
    | zero => intro _ s sv h; rw [h0] at h; rw [h2]; exact hsc s sv h
    | succ i ih =>
      intro hi s sv h
      have hoi : ops[i]? = some (ops[i]'(by omega)) := Array.getElem?_eq_getElem (by omega)
      have hr := h5 i _ (by omega) hoi
      have hprev := ih (by omega)
      rw [(h4 i (by omega)).1] at h
      rw [(h4 i (by omega)).2]
      have hup : ∀ sv : SV, sv.inU (· < (rs i).n) → sv.inU (· < (rs i).n + (rs i).ad.length) := fun sv h => SV.in_mono h fun q hq => by
        show q < _
        have : q < (rs i).n := hq
        omega
      generalize rs i = r at hr h hprev hup ⊢
      cases hr with
      | @does d n sv' ad hw hd hdl hdo =>
        simp only [upd, Option.some.injEq] at h
        split at h
        · obtain rfl := Option.some.inj h
          refine SV.in_mono (hdo.in_ hprev) fun q hq => ?_
          rcases hq with hq | hq
          · show q < _
            have : q < n := hq
            omega
          · exact hq.2
        · exact hup sv (hprev s sv h)
      | @skip d n hw hd hdl =>
        simp only [upd, Option.some.injEq] at h
        split at h
        · obtain rfl := Option.some.inj h
          intro s hs; cases hs
        · exact hup sv (hprev s sv h)
      | @sto n q c hw hd hdo =>
        simp [upd] at h
        exact hup sv (hprev s sv h)
  intro fuel
  induction fuel with
  | zero =>
    intro L φ a w hsz hLm hc ho hrel
    -- all are listed
    have hall : ∀ i, i < ops.size → L.getD i false = true := by
      intro i hi
      cases hx : L.getD i false with
      | true => rfl
      | false =>
        have h1 : L.getD i true = false := by simp only [Array.getD, hsz, hi, dite_true] at hx ⊢; exact hx
        have := open_set hsz hi h1
        omega
    have hme : m = ops.size := by
      rcases Nat.lt_or_ge m ops.size with h | h
      · exact absurd (hLm m (hall m h)) (Nat.lt_irrefl _)
      · omega
    have hL : ∀ i, L.getD i false = true ↔ i < m := fun i => ⟨hLm i, fun hi => hall i (by omega)⟩
    have hV : ov V0 rs (fun k => L.getD k false = true) = V' := by rw [← h1, hWi m (Nat.le_refl _)]; exact ov_congr hL
    have hU : (fun q => q < n0 ∨ ∃ k, L.getD k false = true ∧ (rs k).n ≤ q ∧ q < (rs k).n + (rs k).ad.length) = (· < n') := by
      funext q
      simp only [eq_iff_iff]
      rw [← h3]
      constructor
      · rintro (h | ⟨k, hk, h⟩)
        · have := hnn m (Nat.le_refl _); omega
        · have := hs.mono (i := k + 1) (j := m) ((hL k).1 hk) (Nat.le_refl _); have := hs.nn k ((hL k).1 hk); omega
      · intro h
        rcases hinterval m (Nat.le_refl _) q h with h | ⟨k, hk, h⟩
        · exact .inl h
        · exact .inr ⟨k, (hL k).2 hk, h⟩
    rw [hV, hU] at hrel
    exact any_tail hok (ops.size - m) m (by omega) (Nat.le_refl _) 0 L a w hsz hL ho (hT a w φ hrel)
  | succ fuel ih =>
    intro L φ a w hsz hLm hc ho hrel
    by_cases hfull : ∀ i, i < m → L.getD i false = true
    · have hL : ∀ i, L.getD i false = true ↔ i < m := fun i => ⟨hLm i, hfull i⟩
      have hV : ov V0 rs (fun k => L.getD k false = true) = V' := by rw [← h1, hWi m (Nat.le_refl _)]; exact ov_congr hL
      have hU : (fun q => q < n0 ∨ ∃ k, L.getD k false = true ∧ (rs k).n ≤ q ∧ q < (rs k).n + (rs k).ad.length) = (· < n') := by
        funext q
        simp only [eq_iff_iff]
        rw [← h3]
        constructor
        · rintro (h | ⟨k, hk, h⟩)
          · have := hnn m (Nat.le_refl _); omega
          · have := hs.mono (i := k + 1) (j := m) ((hL k).1 hk) (Nat.le_refl _); have := hs.nn k ((hL k).1 hk); omega
        · intro h
          rcases hinterval m (Nat.le_refl _) q h with h | ⟨k, hk, h⟩
          · exact .inl h
          · exact .inr ⟨k, (hL k).2 hk, h⟩
      rw [hV, hU] at hrel
      exact any_tail hok (ops.size - m) m (by omega) (Nat.le_refl _) (fuel + 1) L a w hsz hL ho (hT a w φ hrel)
    · obtain ⟨i0, hi0⟩ := Classical.not_forall.1 hfull
      obtain ⟨hi0m, hi0l⟩ := Classical.not_imp.1 hi0
      have hi0l : L.getD i0 false = false := by cases hx : L.getD i0 false with
        | false => rfl
        | true => exact absurd hx hi0l
      refine ⟨fun hn => absurd hn (ready_ne hok hsz (by omega) hi0l), fun j hj => ?_⟩
      obtain ⟨hj1, o, hjo, hj3⟩ := mem_ready.1 hj
      have hj3' : ∀ e ∈ o.after.toList, Region.binds .any e = true → L.getD e.on false = true := fun e he hb => hj3 e (by simpa using he) hb
      have hjl : j < ops.size := (Array.getElem?_eq_some_iff.1 hjo).1
      have hjf : L.getD j false = false := by simp only [Array.getD, hsz, hjl, dite_true] at hj1 ⊢; exact hj1
      have hjm : j < m := by
        rcases Nat.lt_or_ge j m with h | h
        · exact h
        · have := closed_bit hok hc j o hjo hj3' i0 (hok.tail j o hjo h i0 (by omega))
          rw [hi0l] at this; cases this
      have hro := h5 j o hjm hjo
      have hst := h6
      -- what the operation looks at is as it is in the order of the text
      have hslot : ∀ t, t ∈ o.looksAt ops → (ov V0 rs (fun k => L.getD k false = true)).slot t = (W j).slot t := by
        intro t ht
        rw [hWi j (by omega)]
        by_cases h : ∃ i, i < m ∧ (rs i).d = some t
        · obtain ⟨i, him, hdi⟩ := h
          have hoi : ops[i]? = some (ops[i]'(by omega)) := Array.getElem?_eq_getElem (by omega)
          have hdst := hdst i _ him hoi
          rcases Nat.lt_trichotomy i j with hij | hij | hij
          · have hb := (hok.free j o hjo hjm i _ him hoi (by omega)).2 t (by rw [hdst, hdi]) ht
            rw [if_pos hij] at hb
            have hl := closed_bit hok hc j o hjo hj3' i hb
            rw [ov_slot hs hLm (k := i) hl hdi, ov_slot hs (S := (· < j)) (fun k hk => by omega) hij hdi]
          · subst hij
            rw [ov_slot_no, ov_slot_no]
            · intro k hk e
              have := hs.inj k i t (by omega) him e hdi; omega
            · intro k hk e
              have := hs.inj k i t (hLm k hk) him e hdi
              subst this; rw [hjf] at hk; cases hk
          · have hb := (hok.free j o hjo hjm i _ him hoi (by omega)).2 t (by rw [hdst, hdi]) ht
            rw [if_neg (by omega)] at hb
            have hil : L.getD i false = false := by
              cases hx : L.getD i false with
              | false => rfl
              | true =>
                have := closed_bit hok hc i _ hoi (hc i _ hx hoi) j hb
                rw [hjf] at this; cases this
            rw [ov_slot_no, ov_slot_no]
            · intro k hk e
              have := hs.inj k i t (by omega) him e hdi; omega
            · intro k hk e
              have := hs.inj k i t (hLm k hk) him e hdi
              subst this; rw [hil] at hk; cases hk
        · rw [ov_slot_no (fun k hk e => h ⟨k, hLm k hk, e⟩), ov_slot_no (fun k hk e => h ⟨k, by omega, e⟩)]
      -- a store that is held before or behind this one is listed just if it stands ahead of it
      have hordL : ∀ k, k < m → k ≠ j → ordered ops k j = true → (L.getD k false = true ↔ k < j) := by
        intro k hk hkj ho
        have hok' : ops[k]? = some (ops[k]'(by omega)) := Array.getElem?_eq_getElem (by omega)
        unfold ordered at ho
        split at ho
        · rename_i hlt
          exact ⟨fun _ => hlt, fun _ => closed_bit hok hc j o hjo hj3' k ho⟩
        · rename_i hlt
          refine ⟨fun hl => ?_, fun h => absurd h hlt⟩
          have := closed_bit hok hc k _ hok' (hc k _ hl hok') j ho
          rw [hjf] at this; cases this
      have hag : Agree (W j) (ov V0 rs (fun k => L.getD k false = true)) o := by
        intro x hx
        have hget : (ov V0 rs (fun k => L.getD k false = true)).get x = (W j).get x := by
          cases x with
          | tmp t =>
            refine hslot t ?_
            simp only [Oper.looksAt, List.mem_append, List.mem_filterMap]
            exact .inl ⟨.tmp t, by simpa using hx, rfl⟩
          | const v => rfl
          | func f => rfl
          | global g => rfl
        refine ⟨hget, fun sv hsv => ?_⟩
        have h60 : sv.inU (· < (rs j).n) := get_in (hscope j (by omega)) hsv
        have h7 := get_in (U := fun q => q < n0 ∨ ∃ k, L.getD k false = true ∧ (rs k).n ≤ q ∧ q < (rs k).n + (rs k).ad.length) hrel.sin (hget.trans hsv)
        have h10 : sv.inU (fun q => ∀ k c, k < m → k ≠ j → (rs k).wr = some (q, c) → ordered ops k j = true) := by
          have one : ∀ q, (∀ k c, k < m → k ≠ j → (rs k).wr = some (q, c) → ordered ops k j = true ∨ ∀ sv, (W j).get x = some sv → sv.inU (· ≠ q)) := fun q k c hk hkj hw => (h6 k j hk hjm hkj q c o hw hjo).imp id fun h => h x hx
          cases sv with
          | tup l =>
            intro s hs'
            cases s with
            | ref q => exact fun k c hk hkj hw => (one q k c hk hkj hw).elim id fun h => absurd rfl (h _ hsv _ hs')
            | optr q i off st => exact fun k c hk hkj hw => (one q k c hk hkj hw).elim id fun h => absurd rfl (h _ hsv _ hs')
            | tup l => exact (h60 _ hs').elim
            | _ => trivial
          | ref q => exact fun k c hk hkj hw => (one q k c hk hkj hw).elim id fun h => absurd rfl (h _ hsv)
          | optr q i off st => exact fun k c hk hkj hw => (one q k c hk hkj hw).elim id fun h => absurd rfl (h _ hsv)
          | _ => trivial
        have key : ∀ q, q < (rs j).n → (q < n0 ∨ ∃ k, L.getD k false = true ∧ (rs k).n ≤ q ∧ q < (rs k).n + (rs k).ad.length) → (∀ k c, k < m → k ≠ j → (rs k).wr = some (q, c) → ordered ops k j = true) → (ov V0 rs (fun k => L.getD k false = true)).own q = (W j).own q := by
          intro q hq1 hq2 hq4
          rw [hWi j (by omega)]
          rcases hq2 with hq2 | ⟨k, hk, hq3⟩
          · rw [ov_own_no (fun k hk hq => by have := hnn k (Nat.le_of_lt (hLm k hk)); omega), ov_own_no (fun k hk hq => by have := hnn k (by omega); omega)]
            have : lastW rs (fun k => L.getD k false = true ∧ k < m) q = lastW rs (fun k => k < j ∧ k < m) q := by
              refine lastW_congr (m := m) (fun k hk => hk.2) fun k c hw => ?_
              by_cases hkm : k < m
              · by_cases hkj : k = j
                · subst hkj; simp [hjf]
                · simp only [hkm, and_true]; exact hordL k hkm hkj (hq4 k c hkm hkj hw)
              · simp [hkm]
            have e1 : (fun k => L.getD k false = true ∧ k < m) = (fun k => L.getD k false = true) := funext fun k => by simp only [eq_iff_iff]; exact ⟨fun h => h.1, fun h => ⟨h, hLm k h⟩⟩
            have e2 : (fun k => k < j ∧ k < m) = (fun k => k < j) := funext fun k => by simp only [eq_iff_iff]; omega
            rw [e1, e2] at this
            rw [this]
          · have hkj : k < j := by
              rcases Nat.lt_or_ge k j with h | h
              · exact h
              · have := hs.mono h (Nat.le_of_lt (hLm k hk)); omega
            rw [ov_own hs hLm hk hq3, ov_own hs (S := (· < j)) (fun k hk => by omega) hkj hq3]
        cases sv with
        | tup l =>
          intro s hs'
          have h8 := h60 s hs'
          have h9 := h7 s hs'
          have h11 := h10 s hs'
          cases s with
          | ref q => exact key q h8 h9 h11
          | optr q i off st => exact key q h8 h9 h11
          | tup l => exact h8
          | _ => trivial
        | ref q => exact key q h60 h7 h10
        | optr q i off st => exact key q h60 h7 h10
        | _ => trivial
      have hwant : wants ops (ov V0 rs (fun k => L.getD k false = true)) o = wants ops (W j) o := by
        unfold wants
        cases hg : o.guard with
        | none => rfl
        | some g =>
          obtain ⟨gi, want⟩ := g
          simp only []
          cases hoj : ops[gi]? with
          | none => rfl
          | some oj =>
            simp only []
            cases hdj : oj.dst with
            | none => rfl
            | some dg =>
              simp only []
              rw [hslot dg (by simp [Oper.looksAt, hg, hoj, hdj])]
      -- the state behind it
      have hS' : ∀ k, (L.setIfInBounds j true).getD k false = true ↔ (L.getD k false = true ∨ k = j) := fun k => getD_set (by omega)
      have hmaxj : ∀ q c k c', (rs j).wr = some (q, c) → L.getD k false = true → (rs k).wr = some (q, c') → k < j := by
        intro q c k c' hwj hk hwk
        have hkm := hLm k hk
        have hkj : k ≠ j := fun e => by subst e; rw [hjf] at hk; cases hk
        have hord : ordered ops k j = true := by
          refine (h6 k j hkm hjm hkj q c' o hwk hjo).elim id fun h => ?_
          have hr := hro
          generalize rs j = r at hr hwj
          cases hr with
          | does _ _ _ _ => cases hwj
          | skip _ _ _ => cases hwj
          | sto _ _ hdo =>
            cases hwj
            cases hdo with
            | mk ho hx hq hy hp hi hsz hcc => exact absurd rfl (h _ (by rw [ho]; simp [Op.operands]) _ hx)
        exact (hordL k hkm hkj hord).1 hk
      have hov : ov V0 rs (fun k => (L.setIfInBounds j true).getD k false = true) = upd (ov V0 rs (fun k => L.getD k false = true)) (rs j) := by
        rw [← ov_add hs hLm hjm (by rw [hjf]; simp) hmaxj]
        exact ov_congr hS'
      have hc' : Closed ops (L.setIfInBounds j true) := by
        intro k ok hk hok' e he hb
        rcases (hS' k).1 hk with hk | rfl
        · exact (hS' _).2 (.inl (hc k ok hk hok' e he hb))
        · rw [hjo] at hok'
          obtain rfl := Option.some.inj hok'
          exact (hS' _).2 (.inl (hj3' e he hb))
      have hnext : ∀ φ' a' w', RelW K (upd (ov V0 rs (fun k => L.getD k false = true)) (rs j)) (addU (fun q => q < n0 ∨ ∃ k, L.getD k false = true ∧ (rs k).n ≤ q ∧ q < (rs k).n + (rs k).ad.length) (rs j).n (rs j).ad) φ' a' w' →
          wpAny K.P .any ops Q fuel (L.setIfInBounds j true) a' w' := by
        intro φ' a' w' hr
        refine ih _ φ' a' w' (by simp [hsz]) (fun k hk => ((hS' k).1 hk).elim (hLm k) (fun e => e ▸ hjm)) hc' ?_ ?_
        · have := open_set hsz hjl hj1; omega
        · rw [hov]
          have hU : (fun q => q < n0 ∨ ∃ k, (L.setIfInBounds j true).getD k false = true ∧ (rs k).n ≤ q ∧ q < (rs k).n + (rs k).ad.length) = addU (fun q => q < n0 ∨ ∃ k, L.getD k false = true ∧ (rs k).n ≤ q ∧ q < (rs k).n + (rs k).ad.length) (rs j).n (rs j).ad := by
            funext q
            simp only [addU, eq_iff_iff]
            constructor
            · rintro (h | ⟨k, hk, h⟩)
              · exact .inl (.inl h)
              · rcases (hS' k).1 hk with hk | rfl
                · exact .inl (.inr ⟨k, hk, h⟩)
                · exact .inr h
            · rintro ((h | ⟨k, hk, h⟩) | h)
              · exact .inl h
              · exact .inr ⟨k, (hS' k).2 (.inl hk), h⟩
              · exact .inr ⟨j, (hS' j).2 (.inr rfl), h⟩
          rw [hU]
          exact hr
      unfold wpOp
      simp only [hjo]
      have hfresh : ∀ q, (rs j).n ≤ q → q < (rs j).n + (rs j).ad.length → ¬ (q < n0 ∨ ∃ k, L.getD k false = true ∧ (rs k).n ≤ q ∧ q < (rs k).n + (rs k).ad.length) := by
        intro q hq1 hq2 hq3
        rcases hq3 with hq3 | ⟨k, hk, hq3⟩
        · have := hnn j (by omega); omega
        · have := hs.dis (hLm k hk) hjm hq3 ⟨hq1, hq2⟩
          subst this; rw [hjf] at hk; cases hk
      generalize rs j = r at hro hnext hfresh
      cases hro with
      | @does d n sv ad hw hd hdl hdo =>
        rw [wants_sound hrel (hwant.trans hw), if_pos rfl]
        refine .inl ((hdo.congr hag).sound hrel (fun q hq1 hq2 hq3 => hfresh q hq1 hq2 hq3) fun v w' φ' hr1 hr2 hr3 => ?_)
        refine hnext φ' _ _ ?_
        rw [hd]
        exact hr1.put hdl hr2 hr3 rfl (fun s sv' hsv => by
          simp only [upd, Option.some.injEq] at hsv
          split at hsv
          · rename_i e; exact .inl ⟨e.symm, (Option.some.inj hsv).symm⟩
          · rename_i e; exact .inr ⟨Ne.symm e, hsv⟩)
      | @skip d n hw hd hdl =>
        rw [wants_sound hrel (hwant.trans hw), if_neg (by simp)]
        refine hnext φ _ _ ?_
        rw [hd]
        have hput := hrel.put (V' := upd (ov V0 rs (fun k => L.getD k false = true)) ⟨some d, .tup [], [], n, none⟩) hdl (v := undef) (sv := .tup []) ⟨[], rfl, .nil⟩ (by intro s hs; cases hs) (by
          funext q
          exact addOwn_nil _ _ _) (fun s sv' hsv' => by
            simp only [upd, Option.some.injEq] at hsv'
            split at hsv'
            · rename_i e; exact .inl ⟨e.symm, (Option.some.inj hsv').symm⟩
            · rename_i e; exact .inr ⟨Ne.symm e, hsv'⟩)
        rw [addU_nil]
        exact hput
      | @sto n q c hw hd hdo =>
        rw [wants_sound hrel (hwant.trans hw), if_pos rfl]
        cases hdo.congr hag with
        | mk ho hx hq hy hp hi hsz hcc =>
          refine .inl (store_sound hrel ho hx hq hy hp hi hsz hcc fun w' hr1 => ?_)
          rw [hd]
          refine hnext φ _ _ ?_
          rw [addU_nil]
          have e : upd (ov V0 rs (fun k => L.getD k false = true)) ⟨none, .nilsl, [], n, some (q, c)⟩ = ⟨(ov V0 rs (fun k => L.getD k false = true)).slot, fun j => if j = q then some c else (ov V0 rs (fun k => L.getD k false = true)).own j⟩ := by
            refine EnvF.ext (fun s => by simp [upd]) (fun o => ?_)
            simp only [upd]
            split
            · rfl
            · exact addOwn_nil _ _ _
          rw [e]
          exact hr1
end Go.Proofs.Ytchajofdjeijfaa
