/- A region that draws its order: what is told of it in the order of the text holds in every order. -/
import Derived.Test.YtchajofdjeijfaaCoreJ
namespace Go.Proofs.Ytchajofdjeijfaa
open Go Go.RowKit
set_option linter.unusedVariables false
set_option linter.unusedSimpArgs false

/-- Two states tell an operation the same. -/
def Agree (V V' : EnvF) (o : Oper) : Prop := ∀ x, x ∈ o.op.operands → V'.get x = V.get x ∧ ∀ sv, V.get x = some sv → sv.inU (fun q => V'.own q = V.own q)

section
variable {V V' : EnvF} {P : Program}

theorem parts_congr : ∀ (l : List (Nat × Operand)), (∀ x ∈ l, V'.get x.2 = V.get x.2) → partsPV V' l = partsPV V l
  | [], _ => rfl
  | (i, x) :: l, h => by
    simp only [partsPV]
    rw [h (i, x) (.head _), parts_congr l fun y hy => h y (.tail _ hy)]
theorem fzList_congr : ∀ (l : List Operand), (∀ x ∈ l, V'.get x = V.get x) → fzList V' l = fzList V l
  | [], _ => rfl
  | x :: l, h => by
    simp only [fzList]
    rw [h x (.head _), fzList_congr l fun y hy => h y (.tail _ hy)]
theorem rows_congr (sz : Nat) : ∀ (l : List (Nat × Operand)) (k : Nat), (∀ x ∈ l, V'.get x.2 = V.get x.2) → rowsPV V' sz k l = rowsPV V sz k l
  | [], _, _ => rfl
  | (i, x) :: l, k, h => by
    simp only [rowsPV]
    rw [h (i, x) (.head _), rows_congr sz l (k + 1) fun y hy => h y (.tail _ hy)]
theorem pv_congr {sv : SV} (h : sv.inU (fun q => V'.own q = V.own q)) : V'.pv sv = V.pv sv := by
  cases sv <;> simp only [EnvF.pv]
  rename_i o
  have : V'.own o = V.own o := h
  rw [this]
theorem args_congr (al : Bool) : ∀ (l : List Operand), (∀ x ∈ l, V'.get x = V.get x ∧ ∀ sv, V.get x = some sv → sv.inU (fun q => V'.own q = V.own q)) → argPVs V' al l = argPVs V al l
  | [], _ => rfl
  | x :: l, h => by
    simp only [argPVs]
    have : argPV V' al x = argPV V al x := by
      obtain ⟨h1, h2⟩ := h x (.head _)
      unfold argPV
      rw [h1]
      cases hg : V.get x with
      | none => rfl
      | some sv => simp only []; rw [pv_congr (h2 sv hg)]
    rw [this, args_congr al l fun y hy => h y (.tail _ hy)]
theorem cells_congr {sv : SV} (h : sv.inU (fun q => V'.own q = V.own q)) : V'.cellsAt sv = V.cellsAt sv := by
  cases sv <;> simp only [EnvF.cellsAt]
  rename_i o i off st
  have : V'.own o = V.own o := h
  rw [this]
theorem build_congr {t : TypeId} {l : List (Nat × Operand)} (h : ∀ x ∈ l, V'.get x.2 = V.get x.2) : buildPV P V' t l = buildPV P V t l := by
  unfold buildPV
  rw [parts_congr l h]

theorem ev_congr {o : Oper} (h : Agree V V' o) : ev P V' o = ev P V o := by
  unfold Agree at h
  unfold ev
  split
  · rename_i x ho; rw [ho] at h; exact (h x (by simp [Op.operands])).1
  · rename_i x ho; rw [ho] at h; exact (h x (by simp [Op.operands])).1
  · rename_i c a b ho; rw [ho] at h
    rw [(h c (by simp [Op.operands])).1, (h a (by simp [Op.operands])).1, (h b (by simp [Op.operands])).1]
  · rename_i op t x y yt ho; rw [ho] at h
    rw [(h x (by simp [Op.operands])).1, (h y (by simp [Op.operands])).1]
  · rename_i op t x ho; rw [ho] at h
    rw [(h x (by simp [Op.operands])).1]
  · rename_i t x ho; rw [ho] at h
    obtain ⟨h1, h2⟩ := h x (by simp [Op.operands])
    rw [h1]
    cases hg : V.get x with
    | none => rfl
    | some sv => simp only []; rw [cells_congr (h2 sv hg)]
  · rename_i s x f ho; rw [ho] at h
    rw [(h x (by simp [Op.operands])).1]
  · rename_i s x f ho; rw [ho] at h
    rw [(h x (by simp [Op.operands])).1]
  · rename_i x i ho; rw [ho] at h
    rw [(h x (by simp [Op.operands])).1]
  · rename_i t parts ho; rw [ho] at h
    rw [build_congr fun x hx => (h x.2 (by simp only [Op.operands, List.mem_toArray, List.mem_map]; exact ⟨x, hx, rfl⟩)).1]
  · rename_i fn first caps ho; rw [ho] at h
    rw [fzList_congr first.toList fun x hx => (h x (by simp only [Op.operands, Array.mem_append]; exact .inl (by simpa using hx))).1,
      fzList_congr caps.toList fun x hx => (h x (by simp only [Op.operands, Array.mem_append]; exact .inr (by simpa using hx))).1]
  · rename_i src dst x ho; rw [ho] at h
    rw [(h x (by simp [Op.operands])).1]
  · rename_i args tys ho; rw [ho] at h
    split
    · rename_i x t ha ht
      obtain ⟨h1, h2⟩ := h x (by simp only [Op.operands, Call.operands, Array.mem_append]; exact .inr (by rw [← Array.mem_toList_iff, ha]; simp))
      rw [h1]
      cases hg : V.get x with
      | none => rfl
      | some sv => simp only []; rw [pv_congr (h2 sv hg)]
    · rfl
  · rename_i args tys ho; rw [ho] at h
    split
    · rename_i x y ha
      rw [(h x (by simp only [Op.operands, Call.operands, Array.mem_append]; exact .inr (by rw [← Array.mem_toList_iff, ha]; simp))).1,
        (h y (by simp only [Op.operands, Call.operands, Array.mem_append]; exact .inr (by rw [← Array.mem_toList_iff, ha]; simp))).1]
    · rfl
  · rename_i args tys ho; rw [ho] at h
    split
    · rename_i x y ha
      rw [(h x (by simp only [Op.operands, Call.operands, Array.mem_append]; exact .inr (by rw [← Array.mem_toList_iff, ha]; simp))).1,
        (h y (by simp only [Op.operands, Call.operands, Array.mem_append]; exact .inr (by rw [← Array.mem_toList_iff, ha]; simp))).1]
    · rfl
  · rfl

theorem Does.congr {K : Ctx} {n : Nat} {o : Oper} {sv : SV} {adds : List Own} (h : Agree V V' o) (hd : Does K V n o sv adds) : Does K V' n o sv adds := by
  have hag := h
  unfold Agree at h
  cases hd with
  | ev he => exact .ev (by rw [ev_congr hag]; exact he)
  | idxf ho hx hr hi hu hinf h0 hrow hl =>
    rw [ho] at h
    exact .idxf ho ((h _ (by simp [Op.operands])).1.trans hx) hr ((h _ (by simp [Op.operands])).1.trans hi) hu hinf h0 hrow hl
  | idxo ho hx hq hi hu hinf h0 hm hs =>
    rw [ho] at h
    obtain ⟨h1, h2⟩ := h _ (by simp [Op.operands]; exact .inl rfl)
    have h3 : V'.own _ = V.own _ := h2 _ hx
    exact .idxo ho (h1.trans hx) (h3.trans hq) ((h _ (by simp [Op.operands])).1.trans hi) hu hinf h0 hm hs
  | @slf t x lo hi sx fr fl fh rows e inf l hh kl kh ho hx hr hu hinf hlo hhi h0 h1 h2 h3 =>
    rw [ho] at h
    refine .slf (fl := fl) (fh := fh) (kl := kl) (kh := kh) ho ((h x (by simp [Op.operands])).1.trans hx) hr hu hinf ?_ ?_ h0 h1 h2 h3
    · rcases hlo with hlo | ⟨y, hy, hg⟩
      · exact .inl hlo
      · exact .inr ⟨y, hy, (h y (by simp [Op.operands, hy])).1.trans hg⟩
    · rcases hhi with hhi | ⟨y, hy, hg⟩
      · exact .inl hhi
      · exact .inr ⟨y, hy, (h y (by simp [Op.operands, hy])).1.trans hg⟩
  | box ho hx hp =>
    rw [ho] at h
    exact .box ho ((h _ (by simp [Op.operands])).1.trans hx) hp
  | bsv ho hu hi hz hzs hr hl hm hm2 =>
    rw [ho] at h
    exact .bsv ho hu hi hz hzs (by rw [rows_congr _ _ _ fun x hx => (h x.2 (by simp only [Op.operands, List.mem_toArray, List.mem_map]; exact ⟨x, hx, rfl⟩)).1]; exact hr) hl hm hm2
  | bso ho hu hi hz hzs hr hl hm hm2 =>
    rw [ho] at h
    exact .bso ho hu hi hz hzs (by rw [rows_congr _ _ _ fun x hx => (h x.2 (by simp only [Op.operands, List.mem_toArray, List.mem_map]; exact ⟨x, hx, rfl⟩)).1]; exact hr) hl hm hm2
  | alloc ho hi hz hps => exact .alloc ho hi hz hps
  | gen hin hl hrun => exact .gen hin ((fzList_congr _ fun x hx => (h x (hin x hx)).1).trans hl) hrun
  | call ho hx ha hspec =>
    rw [ho] at h
    exact .call ho ((h _ (by simp [Op.operands, Call.operands])).1.trans hx) (by rw [args_congr _ _ fun x hx => h x (by simp only [Op.operands, Call.operands, Array.mem_append]; exact .inr (by simpa using hx))]; exact ha) hspec

theorem mkv_in {U : Nat → Prop} (fr : Bool) (p : PV) : (mkv fr p).inU U := by cases p <;> trivial

theorem get_in {U : Nat → Prop} (hU : ∀ s sv, V.slot s = some sv → sv.inU U) {x : Operand} {sv : SV} (h : V.get x = some sv) : sv.inU U := by
  cases x with
  | tmp t => exact hU t sv h
  | const v =>
    simp only [EnvF.get, cSV] at h
    split at h
    · obtain rfl := Option.some.inj h; trivial
    · obtain ⟨p, _, rfl⟩ := Option.map_eq_some_iff.1 h; trivial
  | global g => simp [EnvF.get] at h
  | func f => simp only [EnvF.get, Option.some.injEq] at h; subst h; trivial

theorem ev_in {U : Nat → Prop} (hU : ∀ s sv, V.slot s = some sv → sv.inU U) {o : Oper} {sv : SV} (he : ev P V o = some sv) : sv.inU U := by
  unfold ev at he
  split at he
  · exact get_in hU he
  · exact get_in hU he
  · split at he
    · exact get_in hU he
    · exact get_in hU he
    · cases he
  · split at he
    · obtain ⟨r, _, rfl⟩ := Option.map_eq_some_iff.1 he; trivial
    · cases he
  · split at he
    · obtain ⟨r, _, rfl⟩ := Option.map_eq_some_iff.1 he; trivial
    · cases he
  · split at he
    · split at he
      · obtain ⟨r, _, rfl⟩ := Option.map_eq_some_iff.1 he; exact mkv_in _ _
      · cases he
    · cases he
  · split at he
    · split at he
      · split at he
        · split at he
          · obtain rfl := Option.some.inj he; trivial
          · cases he
        · rename_i hg
          obtain rfl := Option.some.inj he
          have := get_in hU hg
          exact this
        · cases he
      · cases he
    · cases he
  · split at he
    · split at he
      · split at he
        · split at he
          · split at he
            · obtain rfl := Option.some.inj he; trivial
            · cases he
          · obtain ⟨r, _, rfl⟩ := Option.map_eq_some_iff.1 he; exact mkv_in _ _
        · cases he
      · cases he
    · cases he
  · split at he
    · rename_i hg
      have := get_in hU hg
      have h1 := this sv (List.mem_of_getElem? he)
      cases sv with
      | tup l => exact h1.elim
      | _ => exact h1
    · cases he
  · obtain ⟨r, _, rfl⟩ := Option.map_eq_some_iff.1 he; trivial
  · split at he
    · obtain rfl := Option.some.inj he; trivial
    · cases he
  · split at he
    · split at he
      · obtain rfl := Option.some.inj he; trivial
      · cases he
    · cases he
  · split at he
    · split at he
      · split at he
        · split at he
          · obtain rfl := Option.some.inj he; trivial
          · cases he
        · split at he
          · obtain rfl := Option.some.inj he; trivial
          · cases he
        · cases he
      · cases he
    · cases he
  · split at he
    · split at he
      · obtain rfl := Option.some.inj he; trivial
      · cases he
    · cases he
  · split at he
    · split at he
      · obtain rfl := Option.some.inj he; trivial
      · cases he
    · cases he
  · cases he
end
end Go.Proofs.Ytchajofdjeijfaa
