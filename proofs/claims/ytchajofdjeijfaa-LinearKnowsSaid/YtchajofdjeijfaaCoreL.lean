/- A region that draws its order: the proof, and its rule. -/
import Derived.Test.YtchajofdjeijfaaCoreK
namespace Go.Proofs.Ytchajofdjeijfaa
open Go Go.RowKit
set_option linter.unusedVariables false
set_option linter.unusedSimpArgs false

theorem svs_in {U : Nat → Prop} (fr : Bool) : ∀ (rs : List RV) (n : Nat), (∀ i, i < (RV.owns fr rs).length → U (n + i)) → ∀ s ∈ RV.svs fr n rs, s.in1 U
  | [], n, _, s, hs => by simp [RV.svs] at hs
  | .val p :: rs, n, h, s, hs => by
    simp only [RV.svs, List.mem_cons] at hs
    rcases hs with rfl | hs
    · cases p <;> trivial
    · exact svs_in fr rs n h s hs
  | .own e sz rows :: rs, n, h, s, hs => by
    simp only [RV.svs, List.mem_cons] at hs
    rcases hs with rfl | hs
    · exact h 0 (by simp [RV.owns])
    · exact svs_in fr rs (n + 1) (fun i hi => by rw [Nat.add_assoc, Nat.add_comm 1 i]; exact h (i + 1) (by simpa [RV.owns] using hi)) s hs

theorem Does.in_ {K : Ctx} {V : EnvF} {U : Nat → Prop} {n : Nat} {o : Oper} {sv : SV} {adds : List Own} (h : Does K V n o sv adds) (hU : ∀ s sv, V.slot s = some sv → sv.inU U) : sv.inU (addU U n adds) := by
  cases h with
  | ev he => exact SV.in_mono (ev_in hU he) fun _ hq => .inl hq
  | idxf => trivial
  | idxo ho hx => exact .inl (get_in hU hx)
  | slf => trivial
  | box => exact .inr ⟨Nat.le_refl _, by simp⟩
  | bsv => trivial
  | gen => trivial
  | alloc => exact .inr ⟨Nat.le_refl _, by simp⟩
  | bso => exact .inr ⟨Nat.le_refl _, by simp⟩
  | @call x args tys f first caps ps al fx res ho hx ha hspec =>
    have h1 := svs_in (U := addU U n (RV.owns (!al) res)) (!al) res n fun i hi => .inr ⟨by omega, by omega⟩
    unfold RV.one
    generalize RV.svs (!al) n res = l at h1
    match l, h1 with
    | [], h1 => exact fun s hs => h1 s hs
    | [s], h1 =>
      have := h1 s (.head _)
      cases s with
      | tup l => exact this.elim
      | _ => exact this
    | s :: s' :: l, h1 => exact fun t ht => h1 t ht

/-- A store into what is owned: what that is then. -/
inductive DoesW (K : Ctx) (V : EnvF) (o : Oper) (q : Nat) (c' : Own) : Prop
  | mk {t : TypeId} {x y : Operand} {i off st : Nat} {c : Own} {sy : SV} {fp : Bool} {p : PV} {inf : TypeInfo} : o.op = .store t x y → V.get x = some (.optr q i off st) → V.own q = some c → V.get y = some sy → sy.ff = some (fp, p) →
      K.P.info? t = some inf → p.cells.length = inf.size → c.put i off st fp p.cells = some c' → DoesW K V o q c'

theorem DoesW.congr {K : Ctx} {V V' : EnvF} {o : Oper} {q : Nat} {c' : Own} (h : Agree V V' o) (hd : DoesW K V o q c') : DoesW K V' o q c' := by
  cases hd with
  | mk ho hx hq hy hp hi hs hc =>
    unfold Agree at h
    rw [ho] at h
    obtain ⟨h1, h2⟩ := h _ (by simp [Op.operands]; exact .inl rfl)
    exact .mk ho (h1.trans hx) ((h2 _ hx).trans hq) ((h _ (by simp [Op.operands])).1.trans hy) hp hi hs hc

structure RecD where
  d : Option Nat
  sv : SV
  ad : List Own
  n : Nat
  wr : Option (Nat × Own)

def upd (V : EnvF) (r : RecD) : EnvF := ⟨fun s => if r.d = some s then some r.sv else V.slot s, fun o => match r.wr with
  | some (q, c) => if o = q then some c else addOwn V.own r.n r.ad o
  | none => addOwn V.own r.n r.ad o⟩

/-- What one operation does to a state, put down. -/
inductive RO (K : Ctx) (ops : Array Oper) (V : EnvF) (o : Oper) : RecD → Prop
  | does {d n : Nat} {sv : SV} {ad : List Own} : wants ops V o = some true → o.dst = some d → K.can d = true → Does K V n o sv ad → RO K ops V o ⟨some d, sv, ad, n, none⟩
  | skip {d n : Nat} : wants ops V o = some false → o.dst = some d → K.can d = true → RO K ops V o ⟨some d, .tup [], [], n, none⟩
  | sto {n q : Nat} {c : Own} : wants ops V o = some true → o.dst = none → DoesW K V o q c → RO K ops V o ⟨none, .nilsl, [], n, some (q, c)⟩

/-- The operations of a region in the order of the text. -/
inductive TD (K : Ctx) (ops : Array Oper) : List Oper → EnvF → Nat → EnvF → Nat → Prop
  | nil {V : EnvF} {n : Nat} : TD K ops [] V n V n
  | step {o : Oper} {rest : List Oper} {V V' : EnvF} {n' : Nat} {r : RecD} : RO K ops V o r → TD K ops rest (upd V r) (r.n + r.ad.length) V' n' → TD K ops (o :: rest) V r.n V' n'

theorem EnvF.ext {V V' : EnvF} (h1 : ∀ s, V.slot s = V'.slot s) (h2 : ∀ o, V.own o = V'.own o) : V = V' := by
  cases V; cases V'
  simp only [EnvF.mk.injEq]
  exact ⟨funext h1, funext h2⟩
theorem addOwn_nil (f : Nat → Option Own) (n o : Nat) : addOwn f n [] o = f o := by
  simp only [addOwn, List.length_nil, Nat.add_zero]
  rw [if_neg (by omega)]

theorem TD.does {K : Ctx} {ops : Array Oper} {o : Oper} {rest : List Oper} {V V1 V' : EnvF} {n n' d : Nat} {sv : SV} {adds : List Own} (hw : wants ops V o = some true) (hd : o.dst = some d) (hlt : K.can d = true) (h : Does K V n o sv adds)
    (e : V1 = ⟨fun s => if s = d then some sv else V.slot s, addOwn V.own n adds⟩) (k : TD K ops rest V1 (n + adds.length) V' n') : TD K ops (o :: rest) V n V' n' := by
  have e2 : V1 = upd V ⟨some d, sv, adds, n, none⟩ := by
    rw [e]
    refine EnvF.ext (fun s => ?_) (fun o => rfl)
    simp only [upd, Option.some.injEq]
    by_cases h : s = d
    · rw [if_pos h, if_pos h.symm]
    · rw [if_neg h, if_neg (Ne.symm h)]
  rw [e2] at k
  exact .step (.does hw hd hlt h) k
theorem TD.skip {K : Ctx} {ops : Array Oper} {o : Oper} {rest : List Oper} {V V1 V' : EnvF} {n n' d : Nat} (hw : wants ops V o = some false) (hd : o.dst = some d) (hlt : K.can d = true)
    (e : V1 = ⟨fun s => if s = d then some (.tup []) else V.slot s, V.own⟩) (k : TD K ops rest V1 n V' n') : TD K ops (o :: rest) V n V' n' := by
  have e2 : V1 = upd V ⟨some d, .tup [], [], n, none⟩ := by
    rw [e]
    refine EnvF.ext (fun s => ?_) (fun o => (addOwn_nil _ _ _).symm)
    simp only [upd, Option.some.injEq]
    by_cases h : s = d
    · rw [if_pos h, if_pos h.symm]
    · rw [if_neg h, if_neg (Ne.symm h)]
  rw [e2] at k
  exact .step (.skip hw hd hlt) k
theorem TD.sto {K : Ctx} {ops : Array Oper} {o : Oper} {rest : List Oper} {V V1 V' : EnvF} {n n' q : Nat} {c : Own} (hw : wants ops V o = some true) (hd : o.dst = none) (h : DoesW K V o q c)
    (e : V1 = ⟨V.slot, fun j => if j = q then some c else V.own j⟩) (k : TD K ops rest V1 n V' n') : TD K ops (o :: rest) V n V' n' := by
  have e2 : V1 = upd V ⟨none, .nilsl, [], n, some (q, c)⟩ := by
    rw [e]
    refine EnvF.ext (fun s => ?_) (fun o => ?_)
    · simp [upd]
    · simp only [upd]
      by_cases h : o = q
      · rw [if_pos h, if_pos h]
      · rw [if_neg h, if_neg h]; exact (addOwn_nil _ _ _).symm
  rw [e2] at k
  exact .step (.sto hw hd h) k

/-- What was told of each operation, and the states between. -/
theorem TD.recs {K : Ctx} {ops : Array Oper} {l : List Oper} {V V' : EnvF} {n n' : Nat} (h : TD K ops l V n V' n') :
    ∃ (rs : Nat → RecD) (W : Nat → EnvF), W 0 = V ∧ W l.length = V' ∧ (rs 0).n = n ∧ (rs l.length).n = n' ∧ (∀ i, i < l.length → W (i + 1) = upd (W i) (rs i) ∧ (rs (i + 1)).n = (rs i).n + (rs i).ad.length) ∧
      ∀ (i : Nat) o, l[i]? = some o → RO K ops (W i) o (rs i) := by
  induction h with
  | @nil V n => exact ⟨fun _ => ⟨none, .nilsl, [], n, none⟩, fun _ => V, rfl, rfl, rfl, rfl, by simp, by simp⟩
  | @step o rest V V' n' r hr _ ih =>
    obtain ⟨rs, W, h0, h1, h2, h3, h4, h5⟩ := ih
    refine ⟨fun i => match i with | 0 => r | i + 1 => rs i, fun i => match i with | 0 => V | i + 1 => W i, rfl, h1, rfl, h3, ?_, ?_⟩
    · intro i hi
      cases i with
      | zero => exact ⟨h0, h2⟩
      | succ i => exact h4 i (by simpa using hi)
    · intro i o' ho
      cases i with
      | zero => simp at ho; subst ho; exact hr
      | succ i => exact h5 i o' (by simpa using ho)

open Classical in
/-- What the last of the stores of S leaves. -/
noncomputable def lastW (rs : Nat → RecD) (S : Nat → Prop) (o : Nat) : Option Own :=
  if h : ∃ c, ∃ k, S k ∧ (rs k).wr = some (o, c) ∧ ∀ k' c', S k' → (rs k').wr = some (o, c') → k' ≤ k then some h.choose else none

open Classical in
/-- The state after the operations of S, whatever their order. -/
noncomputable def ov (V0 : EnvF) (rs : Nat → RecD) (S : Nat → Prop) : EnvF :=
  ⟨fun s => if h : ∃ k, S k ∧ (rs k).d = some s then some (rs h.choose).sv else V0.slot s,
   fun o => match lastW rs S o with
    | some c => some c
    | none => if h : ∃ k, S k ∧ (rs k).n ≤ o ∧ o < (rs k).n + (rs k).ad.length then (rs h.choose).ad[o - (rs h.choose).n]? else V0.own o⟩

section
variable {V0 : EnvF} {rs : Nat → RecD} {m : Nat}

theorem lastW_max {S : Nat → Prop} {o k : Nat} {c : Own} (hk : S k) (hw : (rs k).wr = some (o, c)) (hm : ∀ k' c', S k' → (rs k').wr = some (o, c') → k' ≤ k) : lastW rs S o = some c := by
  have h : ∃ c, ∃ k, S k ∧ (rs k).wr = some (o, c) ∧ ∀ k' c', S k' → (rs k').wr = some (o, c') → k' ≤ k := ⟨c, k, hk, hw, hm⟩
  unfold lastW
  rw [dif_pos h]
  obtain ⟨k2, h1, h2, h3⟩ := h.choose_spec
  have : k2 = k := Nat.le_antisymm (hm k2 _ h1 h2) (h3 k c hk hw)
  subst this
  rw [hw] at h2
  simp only [Option.some.injEq, Prod.mk.injEq, true_and] at h2
  rw [← h2]
theorem lastW_no {S : Nat → Prop} {o : Nat} (h : ∀ k c, S k → (rs k).wr ≠ some (o, c)) : lastW rs S o = none := by
  unfold lastW
  rw [dif_neg]
  rintro ⟨c, k, hk, hw, _⟩
  exact h k c hk hw
theorem lastW_ex {S : Nat → Prop} (hS : ∀ k, S k → k < m) {o k0 : Nat} {c0 : Own} (hk : S k0) (hw : (rs k0).wr = some (o, c0)) : ∃ k c, S k ∧ (rs k).wr = some (o, c) ∧ ∀ k' c', S k' → (rs k').wr = some (o, c') → k' ≤ k := by
  have key : ∀ r k0 c0, m - k0 ≤ r → S k0 → (rs k0).wr = some (o, c0) → ∃ k c, S k ∧ (rs k).wr = some (o, c) ∧ ∀ k' c', S k' → (rs k').wr = some (o, c') → k' ≤ k := by
    intro r
    induction r with
    | zero => intro k0 c0 hr hk _; have := hS k0 hk; omega
    | succ r ih =>
      intro k0 c0 hr hk hw
      by_cases h : ∃ k' c', S k' ∧ (rs k').wr = some (o, c') ∧ k0 < k'
      · obtain ⟨k', c', h1, h2, h3⟩ := h
        exact ih k' c' (by have := hS k' h1; omega) h1 h2
      · exact ⟨k0, c0, hk, hw, fun k' c' h1 h2 => Nat.le_of_not_lt fun h3 => h ⟨k', c', h1, h2, h3⟩⟩
  exact key (m - k0) k0 c0 (Nat.le_refl _) hk hw
theorem lastW_congr {S S' : Nat → Prop} (hS : ∀ k, S k → k < m) {o : Nat} (h : ∀ k c, (rs k).wr = some (o, c) → (S k ↔ S' k)) : lastW rs S o = lastW rs S' o := by
  by_cases h0 : ∃ k c, S k ∧ (rs k).wr = some (o, c)
  · obtain ⟨k0, c0, hk, hw⟩ := h0
    obtain ⟨k, c, h1, h2, h3⟩ := lastW_ex hS hk hw
    rw [lastW_max h1 h2 h3, lastW_max ((h k c h2).1 h1) h2 fun k' c' hk' hw' => h3 k' c' ((h k' c' hw').2 hk') hw']
  · rw [lastW_no fun k c hk hw => h0 ⟨k, c, hk, hw⟩, lastW_no fun k c hk hw => h0 ⟨k, c, (h k c hw).2 hk, hw⟩]

structure Sound (V0 : EnvF) (rs : Nat → RecD) (m : Nat) : Prop where
  inj : ∀ i j s, i < m → j < m → (rs i).d = some s → (rs j).d = some s → i = j
  nn : ∀ i, i < m → (rs (i + 1)).n = (rs i).n + (rs i).ad.length
  low : ∀ i q c, i < m → (rs i).wr = some (q, c) → q < (rs 0).n ∧ (rs i).ad = []

theorem Sound.mono (hs : Sound V0 rs m) {i j : Nat} (hij : i ≤ j) (hj : j ≤ m) : (rs i).n ≤ (rs j).n := by
  induction j with
  | zero => have : i = 0 := by omega
            subst this; exact Nat.le_refl _
  | succ j ih =>
    by_cases e : i = j + 1
    · subst e; exact Nat.le_refl _
    · have := ih (by omega) (by omega)
      have := hs.nn j (by omega)
      omega
theorem Sound.dis (hs : Sound V0 rs m) {i j o : Nat} (hi : i < m) (hj : j < m) (h1 : (rs i).n ≤ o ∧ o < (rs i).n + (rs i).ad.length) (h2 : (rs j).n ≤ o ∧ o < (rs j).n + (rs j).ad.length) : i = j := by
  rcases Nat.lt_trichotomy i j with h | h | h
  · have := hs.mono (i := i + 1) (j := j) h (by omega); have := hs.nn i hi; omega
  · exact h
  · have := hs.mono (i := j + 1) (j := i) h (by omega); have := hs.nn j hj; omega
theorem Sound.noW (hs : Sound V0 rs m) {S : Nat → Prop} (hS : ∀ k, S k → k < m) {o i : Nat} (hi : i < m) (ho : (rs i).n ≤ o) : lastW rs S o = none :=
  lastW_no fun k c hk hw => by
    have := (hs.low k o c (hS k hk) hw).1
    have := hs.mono (Nat.zero_le i) (Nat.le_of_lt hi)
    omega

theorem ov_slot (hs : Sound V0 rs m) {S : Nat → Prop} (hS : ∀ k, S k → k < m) {k s : Nat} (hk : S k) (hd : (rs k).d = some s) : (ov V0 rs S).slot s = some (rs k).sv := by
  have h : ∃ j, S j ∧ (rs j).d = some s := ⟨k, hk, hd⟩
  simp only [ov]
  rw [dif_pos h]
  have := hs.inj _ _ s (hS _ h.choose_spec.1) (hS k hk) h.choose_spec.2 hd
  rw [this]
theorem ov_slot_no {S : Nat → Prop} {s : Nat} (h : ∀ k, S k → (rs k).d ≠ some s) : (ov V0 rs S).slot s = V0.slot s := by
  simp only [ov]
  rw [dif_neg]
  rintro ⟨k, hk, e⟩
  exact h k hk e
theorem ov_own (hs : Sound V0 rs m) {S : Nat → Prop} (hS : ∀ k, S k → k < m) {k o : Nat} (hk : S k) (ho : (rs k).n ≤ o ∧ o < (rs k).n + (rs k).ad.length) : (ov V0 rs S).own o = (rs k).ad[o - (rs k).n]? := by
  have h : ∃ j, S j ∧ (rs j).n ≤ o ∧ o < (rs j).n + (rs j).ad.length := ⟨k, hk, ho⟩
  simp only [ov, hs.noW hS (hS k hk) ho.1]
  rw [dif_pos h]
  have := hs.dis (hS _ h.choose_spec.1) (hS k hk) h.choose_spec.2 ho
  rw [this]
theorem ov_own_no {S : Nat → Prop} {o : Nat} (h : ∀ k, S k → ¬ ((rs k).n ≤ o ∧ o < (rs k).n + (rs k).ad.length)) : (ov V0 rs S).own o = match lastW rs S o with
    | some c => some c
    | none => V0.own o := by
  simp only [ov]
  cases lastW rs S o with
  | some c => rfl
  | none =>
    simp only []
    rw [dif_neg]
    rintro ⟨k, hk, e⟩
    exact h k hk e

theorem ov_congr {S S' : Nat → Prop} (h : ∀ k, S k ↔ S' k) : ov V0 rs S = ov V0 rs S' := by
  have : S = S' := funext fun k => propext (h k)
  rw [this]

theorem ov_add (hs : Sound V0 rs m) {S : Nat → Prop} (hS : ∀ k, S k → k < m) {j : Nat} (hj : j < m) (hn : ¬ S j) (hmax : ∀ q c k c', (rs j).wr = some (q, c) → S k → (rs k).wr = some (q, c') → k < j) : ov V0 rs (fun k => S k ∨ k = j) = upd (ov V0 rs S) (rs j) := by
  have hS' : ∀ k, (S k ∨ k = j) → k < m := fun k hk => hk.elim (hS k) (fun e => e ▸ hj)
  refine EnvF.ext (fun s => ?_) (fun o => ?_)
  · by_cases e : (rs j).d = some s
    · rw [ov_slot hs hS' (k := j) (.inr rfl) e]
      simp [upd, e]
    · simp only [upd]
      rw [if_neg e]
      by_cases h : ∃ k, S k ∧ (rs k).d = some s
      · obtain ⟨k, hk, hd⟩ := h
        rw [ov_slot hs hS' (k := k) (.inl hk) hd, ov_slot hs hS hk hd]
      · rw [ov_slot_no (fun k hk hd => hk.elim (fun hk => h ⟨k, hk, hd⟩) (fun hk => e (hk ▸ hd))), ov_slot_no (fun k hk hd => h ⟨k, hk, hd⟩)]
  · have plain : (∀ c, (rs j).wr ≠ some (o, c)) → (ov V0 rs (fun k => S k ∨ k = j)).own o = addOwn (ov V0 rs S).own (rs j).n (rs j).ad o := by
      intro hnw
      have hl : lastW rs (fun k => S k ∨ k = j) o = lastW rs S o := (lastW_congr hS (fun k c hw => ⟨.inl, fun h => h.elim id fun e => absurd (e ▸ hw) (hnw c)⟩)).symm
      simp only [addOwn]
      by_cases e : (rs j).n ≤ o ∧ o < (rs j).n + (rs j).ad.length
      · rw [if_pos e, ov_own hs hS' (k := j) (.inr rfl) e]
      · rw [if_neg e]
        by_cases h : ∃ k, S k ∧ (rs k).n ≤ o ∧ o < (rs k).n + (rs k).ad.length
        · obtain ⟨k, hk, ho⟩ := h
          rw [ov_own hs hS' (k := k) (.inl hk) ho, ov_own hs hS hk ho]
        · rw [ov_own_no (fun k hk hd => hk.elim (fun hk => h ⟨k, hk, hd⟩) (fun hk => e (hk ▸ hd))), ov_own_no (fun k hk hd => h ⟨k, hk, hd⟩), hl]
    simp only [upd]
    cases hw : (rs j).wr with
    | none => exact plain fun c => by rw [hw]; simp
    | some x =>
      obtain ⟨q, c⟩ := x
      simp only []
      by_cases e : o = q
      · subst e
        rw [if_pos rfl]
        have had := (hs.low j o c hj hw)
        rw [ov_own_no fun k hk hd => by have := hs.mono (Nat.zero_le k) (Nat.le_of_lt (hS' k hk)); omega]
        rw [lastW_max (k := j) (c := c) (.inr rfl) hw fun k' c' hk' hw' => hk'.elim (fun h => Nat.le_of_lt (hmax o c k' c' hw h hw')) (fun h => h ▸ Nat.le_refl _)]
      · rw [if_neg e]
        exact plain fun c' => by rw [hw]; simp; intro h; exact absurd h.symm e
theorem ov_none : ov V0 rs (fun _ => False) = V0 := EnvF.ext (fun s => ov_slot_no (fun _ hk => hk.elim)) (fun o => by
  rw [ov_own_no (fun _ hk => hk.elim), lastW_no fun _ _ hk => hk.elim])
theorem ov_text (hs : Sound V0 rs m) {W : Nat → EnvF} (h0 : W 0 = V0) (hW : ∀ i, i < m → W (i + 1) = upd (W i) (rs i)) : ∀ i, i ≤ m → W i = ov V0 rs (· < i)
  | 0, _ => by
    rw [h0]
    exact (ov_none (V0 := V0) (rs := rs)).symm.trans (ov_congr fun k => ⟨fun h => h.elim, fun h => absurd h (Nat.not_lt_zero _)⟩)
  | i + 1, hi => by
    rw [hW i (by omega), ov_text hs h0 hW i (by omega), ← ov_add hs (fun k hk => by omega) (by omega) (by omega) (fun q c k c' _ hk _ => hk)]
    exact ov_congr fun k => by omega
end

def isSto : Op → Bool
  | .store .. => true
  | _ => false
/-- Is one of two operations held behind the other? -/
def ordered (ops : Array Oper) (k j : Nat) : Bool := if k < j then ((Region.before ops).getD j 0).testBit k else ((Region.before ops).getD k 0).testBit j

/-- May the first m operations of a region be told in the order of the text, and do all others stand behind all that stand ahead of them? -/
def okW (ops : Array Oper) (m : Nat) : Bool :=
  (List.range ops.size).all fun j => match ops[j]? with
    | none => true
    | some o =>
      (o.after.toList.all fun e => !Region.binds .any e || Nat.blt e.on j) &&
      (if j < m then (o.dst.isSome || isSto o.op) && ((List.range m).all fun i => match ops[i]? with
          | none => true
          | some oi => i == j || ((oi.dst.isNone || !(oi.dst == o.dst)) && (match oi.dst with
            | some d => !(o.looksAt ops).contains d || (if i < j then ((Region.before ops).getD j 0).testBit i else ((Region.before ops).getD i 0).testBit j)
            | none => true)))
      else (List.range j).all fun i => ((Region.before ops).getD j 0).testBit i)

/-- And none of the first m of them is a store. -/
def okD (ops : Array Oper) (m : Nat) : Bool := okW ops m && ((ops.toList.take m).all fun o => o.dst.isSome && !isSto o.op)
def nr (q : Nat) : Option SV → Bool
  | some (.ref o) => o != q
  | some (.optr o _ _ _) => o != q
  | some (.tup l) => l.all fun s => match s with
    | .ref o => o != q
    | .optr o _ _ _ => o != q
    | _ => true
  | _ => true
def tg : Option SV → List Nat
  | some (.optr q _ _ _) => [q]
  | _ => []
/-- No operation that is not held before or behind a store looks at what it writes: looked up in the state ahead and the one behind. -/
def chk (n : Nat) (V V' : EnvF) (ops : Array Oper) (m : Nat) : Bool :=
  (List.range m).all fun k => match ops[k]? with
    | some o => match o.op with
      | .store _ (.tmp t) _ => (tg (V.slot t) ++ tg (V'.slot t)).all fun q => Nat.blt q n && (List.range m).all fun j => j == k || ordered ops k j || (match ops[j]? with
        | some oj => oj.op.operands.toList.all fun x => match x with
          | .tmp s => nr q (V.slot s) && nr q (V'.slot s)
          | _ => true
        | none => true)
      | .store _ _ _ => false
      | _ => true
    | none => true

theorem chk_plain {n : Nat} {V V' : EnvF} {ops : Array Oper} {m : Nat} (h : okD ops m = true) : chk n V V' ops m = true := by
  simp only [okD, Bool.and_eq_true, List.all_eq_true] at h
  simp only [chk, List.all_eq_true, List.mem_range]
  intro k hk
  cases ho : ops[k]? with
  | none => rfl
  | some o =>
    have hm : o ∈ ops.toList.take m := List.mem_of_getElem? (i := k) (by rw [List.getElem?_take, if_pos hk]; simpa using ho)
    have h2 := (h.2 o hm).2
    simp only []
    cases hop : o.op <;> first | rfl | (rw [hop] at h2; simp [isSto] at h2)

def fold1 (acc : Array Nat) (l : List Edge) (s : Nat) : Nat := l.foldl (fun s e => if Region.binds .any e then s ||| 2 ^ e.on ||| acc.getD e.on 0 else s) s

theorem fold1_bit {acc : Array Nat} {i : Nat} : ∀ (l : List Edge) (s : Nat), (fold1 acc l s).testBit i = true → s.testBit i = true ∨ ∃ e ∈ l, Region.binds .any e = true ∧ (i = e.on ∨ (acc.getD e.on 0).testBit i = true)
  | [], s, h => .inl h
  | e :: l, s, h => by
    simp only [fold1, List.foldl_cons] at h
    rcases fold1_bit l _ h with h1 | ⟨e', he, hb, hr⟩
    · by_cases hb : Region.binds .any e = true
      · rw [if_pos hb] at h1
        simp only [Nat.testBit_or, Bool.or_eq_true] at h1
        rcases h1 with (h1 | h1) | h1
        · exact .inl h1
        · rw [Nat.testBit_two_pow] at h1
          exact .inr ⟨e, .head _, hb, .inl (of_decide_eq_true h1).symm⟩
        · exact .inr ⟨e, .head _, hb, .inr h1⟩
      · rw [if_neg hb] at h1; exact .inl h1
    · exact .inr ⟨e', .tail _ he, hb, hr⟩

def beforeL : List Oper → Array Nat → Array Nat
  | [], acc => acc
  | o :: l, acc => beforeL l (acc.push (fold1 acc o.after.toList 0))

theorem before_eq (ops : Array Oper) : Region.before ops = beforeL ops.toList #[] := by
  unfold Region.before
  rw [← Array.foldl_toList]
  generalize (#[] : Array Nat) = acc
  generalize ops.toList = l
  induction l generalizing acc with
  | nil => rfl
  | cons o l ih =>
    simp only [List.foldl_cons, beforeL]
    rw [← ih]
    congr 2
    rw [← Array.foldl_toList]
    rfl

theorem beforeL_get : ∀ (l : List Oper) (acc : Array Nat), (∀ j, j < acc.size → (beforeL l acc).getD j 0 = acc.getD j 0) ∧
    ∀ (i : Nat) o, l[i]? = some o → ∃ acc', (beforeL l acc).getD (acc.size + i) 0 = fold1 acc' o.after.toList 0 ∧ ∀ j, j < acc.size + i → acc'.getD j 0 = (beforeL l acc).getD j 0 ∧ acc'.size = acc.size + i
  | [], acc => ⟨fun _ _ => rfl, by simp⟩
  | o :: l, acc => by
    obtain ⟨h1, h2⟩ := beforeL_get l (acc.push (fold1 acc o.after.toList 0))
    have hold : ∀ j, j < acc.size → (beforeL (o :: l) acc).getD j 0 = acc.getD j 0 := by
      intro j hj
      simp only [beforeL]
      rw [h1 j (by simp; omega)]
      simp [Array.getD, hj, Array.getElem_push, show j < acc.size + 1 by omega]
    refine ⟨hold, fun i o' ho => ?_⟩
    cases i with
    | zero =>
      simp at ho
      subst ho
      refine ⟨acc, ?_, fun j hj => ⟨(hold j (by simpa using hj)).symm, by simp⟩⟩
      simp only [beforeL, Nat.add_zero]
      rw [h1 acc.size (by simp)]
      simp [Array.getD]
    | succ i =>
      simp at ho
      obtain ⟨acc', h3, h4⟩ := h2 i o' ho
      simp only [Array.size_push] at h3 h4
      refine ⟨acc', ?_, fun j hj => ?_⟩
      · rw [← h3]; simp only [beforeL]; congr 1; omega
      · have := h4 j (by omega)
        exact ⟨this.1, by omega⟩

theorem before_bit {ops : Array Oper} {i j : Nat} {o : Oper} (hj : ops[j]? = some o) (hb : ((Region.before ops).getD j 0).testBit i = true) (hback : ∀ e ∈ o.after.toList, Region.binds .any e = true → e.on < j) :
    ∃ e ∈ o.after.toList, Region.binds .any e = true ∧ (i = e.on ∨ (e.on < j ∧ ((Region.before ops).getD e.on 0).testBit i = true)) := by
  rw [before_eq] at hb ⊢
  obtain ⟨acc', h1, h2⟩ := (beforeL_get ops.toList #[]).2 j o (by simpa using hj)
  simp only [List.size_toArray, List.length_nil, Nat.zero_add] at h1 h2
  rw [h1] at hb
  rcases fold1_bit _ _ hb with h | ⟨e, he, hbd, hr⟩
  · simp at h
  · refine ⟨e, he, hbd, ?_⟩
    rcases hr with hr | hr
    · exact .inl hr
    · have hlt := hback e he hbd
      exact .inr ⟨hlt, by rw [← (h2 e.on hlt).1]; exact hr⟩
end Go.Proofs.Ytchajofdjeijfaa
