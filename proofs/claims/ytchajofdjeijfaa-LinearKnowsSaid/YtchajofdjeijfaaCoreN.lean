/- One judgement for plain regions and for regions that draw their order; its rules. -/
import Derived.Test.YtchajofdjeijfaaCoreM
namespace Go.Proofs.Ytchajofdjeijfaa
open Go Go.RowKit
set_option linter.unusedVariables false
set_option linter.unusedSimpArgs false

/-- The operations l of a region, from state E on, come to a state of R. dr: in whatever order. -/
structure J (K : Ctx) (ops : Array Oper) (dr : Bool) (l : List Oper) (E : St) (R : St → Prop) : Prop where
  out : match dr with
    | false => TO K ops l E R
    | true => ∃ E' : St, TD K ops l E.f E.nx E'.f E'.nx ∧ R E'

section
variable {K : Ctx} {ops : Array Oper} {dr : Bool} {o : Oper} {rest : List Oper} {sl : List (Nat × SV)} {ow : List (Nat × Option Own)} {nx : Nat} {R : St → Prop} {E E' : St} {d : Nat} {sv : SV}

theorem J.nil (h : R E) : J K ops dr [] E R := by
  cases dr with
  | false => exact ⟨TO.nil h⟩
  | true => exact ⟨E, .nil, h⟩

theorem f_cons (sl : List (Nat × SV)) (ow : List (Nat × Option Own)) (nx m : Nat) (adds : List Own) : (St.mk ((d, sv) :: sl) (pushOw nx adds ow) m).f = ⟨fun s => if s = d then some sv else (St.mk sl ow nx).f.slot s, addOwn (St.mk sl ow nx).f.own nx adds⟩ := by
  refine EnvF.ext (fun s => ?_) (fun q => ?_)
  · simp only [St.f, lk_cons]
    by_cases e : d = s
    · rw [if_pos e, if_pos e.symm]
    · rw [if_neg e, if_neg (Ne.symm e)]
  · exact lk_push ow adds nx q

theorem J.does {adds : List Own} (hg : wants ops (St.mk sl ow nx).f o = some true) (hd : o.dst = some d) (hlt : K.can d = true) (h : Does K (St.mk sl ow nx).f nx o sv adds) (k : J K ops dr rest ⟨(d, sv) :: sl, pushOw nx adds ow, nx + adds.length⟩ R) : J K ops dr (o :: rest) ⟨sl, ow, nx⟩ R := by
  cases dr with
  | false => exact ⟨TO.does hg hd hlt h k.out⟩
  | true =>
    obtain ⟨E', h1, h2⟩ := k.out
    refine ⟨E', .does hg hd hlt h (f_cons sl ow nx (nx + adds.length) adds) h1, h2⟩

theorem J.skip (hg : wants ops (St.mk sl ow nx).f o = some false) (hd : o.dst = some d) (hlt : K.can d = true) (k : J K ops dr rest ⟨(d, .tup []) :: sl, ow, nx⟩ R) : J K ops dr (o :: rest) ⟨sl, ow, nx⟩ R := by
  cases dr with
  | false => exact ⟨TO.skip hg hd hlt k.out⟩
  | true =>
    obtain ⟨E', h1, h2⟩ := k.out
    refine ⟨E', .skip hg hd hlt ?_ h1, h2⟩
    refine EnvF.ext (fun s => ?_) (fun q => rfl)
    simp only [St.f, lk_cons]
    by_cases e : d = s
    · rw [if_pos e, if_pos e.symm]
    · rw [if_neg e, if_neg (Ne.symm e)]

theorem J.gb {b : Bool} {j dj : Nat} {want f : Bool} (hg : o.guard = some (j, want)) (hj : (ops[j]?).bind (·.dst) = some dj) (hs : lk sl dj = some (.val f (.bool b)))
    (kt : b = true → J K ops dr (o :: rest) ⟨(dj, .val f (.bool true)) :: sl, ow, nx⟩ R) (kf : b = false → J K ops dr (o :: rest) ⟨(dj, .val f (.bool false)) :: sl, ow, nx⟩ R) : J K ops dr (o :: rest) ⟨sl, ow, nx⟩ R := by
  have hf : ∀ b', b = b' → (St.mk ((dj, .val f (.bool b')) :: sl) ow nx).f = (St.mk sl ow nx).f := by
    rintro b' rfl
    refine EnvF.ext (fun s => ?_) (fun q => rfl)
    simp only [St.f, lk_cons]
    by_cases e : dj = s
    · subst e; rw [if_pos rfl, hs]
    · rw [if_neg e]
  have key : ∀ b', b = b' → J K ops dr (o :: rest) ⟨(dj, .val f (.bool b')) :: sl, ow, nx⟩ R → J K ops dr (o :: rest) ⟨sl, ow, nx⟩ R := by
    intro b' e h
    cases dr with
    | false =>
      refine ⟨TO.sub (fun a w hr => ?_) h.out⟩
      obtain ⟨φ, hφ⟩ := hr
      exact ⟨φ, by rw [hf b' e]; exact hφ⟩
    | true =>
      obtain ⟨E', h1, h2⟩ := h.out
      refine ⟨E', ?_, h2⟩
      have h1' : TD K ops (o :: rest) (St.mk ((dj, .val f (.bool b')) :: sl) ow nx).f nx E'.f E'.nx := h1
      rw [hf b' e] at h1'
      exact h1'
  cases b with
  | true => exact key true rfl (kt rfl)
  | false => exact key false rfl (kf rfl)
theorem J.g {p : Prop} [Decidable p] {j dj : Nat} {want f : Bool} (hg : o.guard = some (j, want)) (hj : (ops[j]?).bind (·.dst) = some dj) (hs : lk sl dj = some (.val f (.bool (decide p))))
    (kt : p → J K ops dr (o :: rest) ⟨(dj, .val f (.bool true)) :: sl, ow, nx⟩ R) (kf : ¬ p → J K ops dr (o :: rest) ⟨(dj, .val f (.bool false)) :: sl, ow, nx⟩ R) : J K ops dr (o :: rest) ⟨sl, ow, nx⟩ R :=
  J.gb hg hj hs (fun h => kt (of_decide_eq_true h)) (fun h => kf (of_decide_eq_false h))

/-- An operation that only computes or reads. -/
theorem J.e (hg : wants ops (St.mk sl ow nx).f o = some true) (hd : o.dst = some d) (hlt : K.can d = true) (he : ev K.P (St.mk sl ow nx).f o = some sv) (k : J K ops dr rest ⟨(d, sv) :: sl, ow, nx⟩ R) : J K ops dr (o :: rest) ⟨sl, ow, nx⟩ R :=
  .does hg hd hlt (.ev he) k
/-- An index into what is frozen; into what is owned. -/
theorem J.i {t : TypeId} {x i : Operand} {sx : SV} {fr fi : Bool} {rows : List (List PV)} {r : List PV} {k : IntKind} {m : Int} {e : TypeId} {inf : TypeInfo} (ho : o.op = .indexAddr t x i) (hg : wants ops (St.mk sl ow nx).f o = some true) (hd : o.dst = some d) (hlt : K.can d = true)
    (hx : (St.mk sl ow nx).f.get x = some sx) (hr : sx.ff = some (fr, .sl rows)) (hi : (St.mk sl ow nx).f.get i = some (.val fi (.int k m))) (hu : K.P.underlying t = some (.slice e)) (hinf : K.P.info? e = some inf)
    (h0 : 0 ≤ m) (hrow : rows[m.toNat]? = some r) (hl : r.length = inf.size) (q : J K ops dr rest ⟨(d, .fptr fr r) :: sl, ow, nx⟩ R) : J K ops dr (o :: rest) ⟨sl, ow, nx⟩ R :=
  .does hg hd hlt (.idxf ho hx hr hi hu hinf h0 hrow hl) q
theorem J.io {t : TypeId} {x i : Operand} {p : Nat} {fr fi : Bool} {rows : List (List PV)} {k : IntKind} {m : Int} {e' e : TypeId} {sz : Nat} {inf : TypeInfo} (ho : o.op = .indexAddr t x i) (hg : wants ops (St.mk sl ow nx).f o = some true) (hd : o.dst = some d) (hlt : K.can d = true)
    (hx : (St.mk sl ow nx).f.get x = some (.ref p)) (hp : (St.mk sl ow nx).f.own p = some (.sl e' sz fr rows)) (hi : (St.mk sl ow nx).f.get i = some (.val fi (.int k m))) (hu : K.P.underlying t = some (.slice e)) (hinf : K.P.info? e = some inf)
    (h0 : 0 ≤ m) (hm : m.toNat < rows.length) (hl : inf.size = sz) (q : J K ops dr rest ⟨(d, .optr p m.toNat 0 sz) :: sl, ow, nx⟩ R) : J K ops dr (o :: rest) ⟨sl, ow, nx⟩ R :=
  .does hg hd hlt (.idxo ho hx hp hi hu hinf h0 hm hl) q
/-- x[lo:hi] of what is frozen. -/
theorem J.s {t : TypeId} {x : Operand} {lo hi : Option Operand} {sx : SV} {fr fl fh : Bool} {rows : List (List PV)} {e : TypeId} {inf : TypeInfo} {l h : Int} {kl kh : IntKind} (ho : o.op = .slice t x lo hi none) (hg : wants ops (St.mk sl ow nx).f o = some true) (hd : o.dst = some d) (hlt : K.can d = true)
    (hx : (St.mk sl ow nx).f.get x = some sx) (hr : sx.ff = some (fr, .sl rows)) (hu : K.P.underlying t = some (.slice e)) (hinf : K.P.info? e = some inf) (hlo : lo = none ∧ l = 0 ∨ ∃ y, lo = some y ∧ (St.mk sl ow nx).f.get y = some (.val fl (.int kl l)))
    (hhi : hi = none ∧ h = rows.length ∨ ∃ y, hi = some y ∧ (St.mk sl ow nx).f.get y = some (.val fh (.int kh h))) (h0 : 0 ≤ l) (h1 : l ≤ h) (h2 : h ≤ rows.length) (h3 : ∀ r ∈ rows, r.length = inf.size)
    (q : J K ops dr rest ⟨(d, .val fr (.sl ((rows.take h.toNat).drop l.toNat))) :: sl, ow, nx⟩ R) : J K ops dr (o :: rest) ⟨sl, ow, nx⟩ R :=
  .does hg hd hlt (.slf ho hx hr hu hinf hlo hhi h0 h1 h2 h3) q
theorem J.bx {t : TypeId} {x : Operand} {sx : SV} {fr : Bool} {p : PV} (ho : o.op = .box t x) (hg : wants ops (St.mk sl ow nx).f o = some true) (hd : o.dst = some d) (hlt : K.can d = true) (hx : (St.mk sl ow nx).f.get x = some sx) (hp : sx.ff = some (fr, p))
    (q : J K ops dr rest ⟨(d, .optr nx 0 0 0) :: sl, (nx, some (.box fr p.cells)) :: ow, nx + 1⟩ R) : J K ops dr (o :: rest) ⟨sl, ow, nx⟩ R :=
  .does hg hd hlt (.box ho hx hp) q
theorem J.bv {t e : TypeId} {len : Nat} {fr : Bool} {parts : Array (Nat × Operand)} {rows : List (List PV)} {inf : TypeInfo} {z : Value} (ho : o.op = .buildSlice t len parts) (hg : wants ops (St.mk sl ow nx).f o = some true) (hd : o.dst = some d) (hlt : K.can d = true)
    (hu : K.P.underlying t = some (.slice e)) (hinf : K.P.info? e = some inf) (hz : inf.zero = some z) (hzs : z.cells.size = inf.size) (hr : rowsPV (St.mk sl ow nx).f inf.size 0 parts.toList = some (fr, rows)) (hl : rows.length = len) (hm : Nat.ble (len * inf.size) 16777216 = true) (hm2 : Nat.ble len 16777216 = true)
    (q : J K ops dr rest ⟨(d, .val fr (.sl rows)) :: sl, ow, nx⟩ R) : J K ops dr (o :: rest) ⟨sl, ow, nx⟩ R :=
  .does hg hd hlt (.bsv ho hu hinf hz hzs hr hl (Nat.le_of_ble_eq_true hm) (Nat.le_of_ble_eq_true hm2)) q
theorem J.bo {t e : TypeId} {len : Nat} {fr : Bool} {parts : Array (Nat × Operand)} {rows : List (List PV)} {inf : TypeInfo} {z : Value} (ho : o.op = .buildSlice t len parts) (hg : wants ops (St.mk sl ow nx).f o = some true) (hd : o.dst = some d) (hlt : K.can d = true)
    (hu : K.P.underlying t = some (.slice e)) (hinf : K.P.info? e = some inf) (hz : inf.zero = some z) (hzs : z.cells.size = inf.size) (hr : rowsPV (St.mk sl ow nx).f inf.size 0 parts.toList = some (fr, rows)) (hl : rows.length = len) (hm : Nat.ble (len * inf.size) 16777216 = true) (hm2 : Nat.ble len 16777216 = true)
    (q : J K ops dr rest ⟨(d, .ref nx) :: sl, (nx, some (.sl e inf.size fr rows)) :: ow, nx + 1⟩ R) : J K ops dr (o :: rest) ⟨sl, ow, nx⟩ R :=
  .does hg hd hlt (.bso ho hu hinf hz hzs hr hl (Nat.le_of_ble_eq_true hm) (Nat.le_of_ble_eq_true hm2)) q
/-- A call. -/
theorem J.c {x : Operand} {args : Array Operand} {tys : Array TypeId} {f : FuncId} {first caps ps : List PV} {al fx : Bool} {res : List RV} (ho : o.op = .call { callee := .value x, args := args, argTypes := tys }) (hg : wants ops (St.mk sl ow nx).f o = some true) (hd : o.dst = some d) (hlt : K.can d = true)
    (hx : (St.mk sl ow nx).f.get x = some (.val fx (.fn (.func f) first caps))) (hspec : Spec K.P f al (first ++ ps ++ caps) res) (ha : argPVs (St.mk sl ow nx).f al args.toList = some ps)
    (q : J K ops dr rest ⟨(d, RV.one (!al) nx res) :: sl, pushOw nx (RV.owns (!al) res) ow, nx + (RV.owns (!al) res).length⟩ R) : J K ops dr (o :: rest) ⟨sl, ow, nx⟩ R :=
  .does hg hd hlt (.call ho hx ha hspec) q

theorem J.sub (h : ∀ a w, Rel K E a w → Rel K E' a w) (k : J K ops false rest E' R) : J K ops false rest E R := ⟨TO.sub h k.out⟩
/-- append onto what is owned: the old name is gone. -/
theorem J.a {args : Array Operand} {tys : Array TypeId} {s y : Operand} {t e : TypeId} {q sz : Nat} {fr fy : Bool} {rows rows2 : List (List PV)} {sy : SV} {inf : TypeInfo} {z : Value}
    (ho : o.op = .call { callee := .builtin .append, args := args, argTypes := tys }) (ha : args.toList = [s, y]) (ht : tys.toList = [t, t]) (hg : wants ops (St.mk sl ow nx).f o = some true) (hd : o.dst = some d) (hlt : K.can d = true)
    (hs : (St.mk sl ow nx).f.get s = some (.ref q)) (hq : (St.mk sl ow nx).f.own q = some (.sl e sz fr rows)) (hy : (St.mk sl ow nx).f.get y = some sy) (hp : (St.mk sl ow nx).f.pvf sy = some (fy, .sl rows2))
    (hu : K.P.underlying t = some (.slice e)) (hi : K.P.info? e = some inf) (hsz : inf.size = sz) (hz : inf.zero = some z) (hzs : z.cells.size = sz) (h0 : Nat.blt 0 sz = true) (hb1 : Nat.ble 1 inf.bytes = true)
    (hl2 : ∀ r ∈ rows2, r.length = sz) (hby : (rows.length + rows2.length) * inf.bytes ≤ 140737488355328)
    (k : J K ops false rest ⟨(d, .ref nx) :: sl, (nx, some (.sl e sz (fr && fy) (rows ++ rows2))) :: (q, none) :: ow, nx + 1⟩ R) : J K ops false (o :: rest) ⟨sl, ow, nx⟩ R :=
  ⟨TO.a ho ha ht hg hd hlt hs hq hy hp hu hi hsz hz hzs (by simpa [Nat.blt_eq] using h0) hl2 hby (Nat.le_of_ble_eq_true hb1) k.out⟩
/-- append onto nil. -/
theorem J.an {args : Array Operand} {tys : Array TypeId} {s y : Operand} {t e : TypeId} {fy : Bool} {rows2 : List (List PV)} {sy : SV} {inf : TypeInfo} {z : Value}
    (ho : o.op = .call { callee := .builtin .append, args := args, argTypes := tys }) (ha : args.toList = [s, y]) (ht : tys.toList = [t, t]) (hg : wants ops (St.mk sl ow nx).f o = some true) (hd : o.dst = some d) (hlt : K.can d = true)
    (hs : (St.mk sl ow nx).f.get s = some .nilsl) (hy : (St.mk sl ow nx).f.get y = some sy) (hp : (St.mk sl ow nx).f.pvf sy = some (fy, .sl rows2))
    (hu : K.P.underlying t = some (.slice e)) (hi : K.P.info? e = some inf) (hz : inf.zero = some z) (hzs : z.cells.size = inf.size) (h0 : Nat.blt 0 inf.size = true) (hb1 : Nat.ble 1 inf.bytes = true)
    (hl2 : ∀ r ∈ rows2, r.length = inf.size) (hby : rows2.length * inf.bytes ≤ 140737488355328)
    (k : J K ops false rest ⟨(d, .ref nx) :: sl, (nx, some (.sl e inf.size fy rows2)) :: ow, nx + 1⟩ R) : J K ops false (o :: rest) ⟨sl, ow, nx⟩ R :=
  ⟨TO.an ho ha ht hg hd hlt hs hy hp hu hi hz hzs (by simpa [Nat.blt_eq] using h0) hl2 hby (Nat.le_of_ble_eq_true hb1) k.out⟩
/-- A store into what is owned. -/
theorem J.w {t : TypeId} {x y : Operand} {q i off st : Nat} {c c' : Own} {sy : SV} {fp : Bool} {p : PV} {inf : TypeInfo}
    (ho : o.op = .store t x y) (hg : wants ops (St.mk sl ow nx).f o = some true) (hd : o.dst = none) (hx : (St.mk sl ow nx).f.get x = some (.optr q i off st)) (hq : (St.mk sl ow nx).f.own q = some c) (hy : (St.mk sl ow nx).f.get y = some sy) (hp : sy.ff = some (fp, p))
    (hi : K.P.info? t = some inf) (hs : p.cells.length = inf.size) (hc : c.put i off st fp p.cells = some c') (k : J K ops false rest ⟨sl, (q, some c') :: ow, nx⟩ R) : J K ops false (o :: rest) ⟨sl, ow, nx⟩ R :=
  ⟨TO.w ho hg hd hx hq hy hp hi hs hc k.out⟩

variable {Q : Exit → St → Prop} {id : Nat}
theorem T.r (h : J K ops false ops.toList E (Q .normal)) : T K (.region id ops false) E Q := T.region h.out
theorem nr_in {q : Nat} {sv : SV} (h : nr q (some sv) = true) (hsc : sv.inU (fun _ => True)) : sv.inU (· ≠ q) := by
  cases sv with
  | ref o => exact (by simpa [nr] using h : o ≠ q)
  | optr o i off st => exact (by simpa [nr] using h : o ≠ q)
  | tup l =>
    intro s hs
    have h2 := List.all_eq_true.1 (show (l.all _) = true from h) s hs
    have h3 := hsc s hs
    cases s with
    | ref o => exact (by simpa using h2 : o ≠ q)
    | optr o i off st => exact (by simpa using h2 : o ≠ q)
    | tup l => exact h3
    | _ => trivial
  | _ => trivial

/-- A region that draws its order: its first m operations in any order, the others behind them. -/
theorem T.rdw (m : Nat) (hmix : K.P.follows .mixedOrders = true) (hok : okW ops m = true) (hm : Nat.ble m ops.size = true) (h : J K ops true (ops.toList.take m) E (fun E' => chk E.nx E.f E'.f ops m = true ∧ J K ops false (ops.toList.drop m) E' (Q .normal))) : T K (.region id ops true) E Q := by
  refine ⟨fun a w hr => ?_⟩
  obtain ⟨φ, hφ⟩ := hr
  obtain ⟨E', hTD, hchk, hJ⟩ := h.out
  have hm' := Nat.le_of_ble_eq_true hm
  have hlen : (ops.toList.take m).length = m := by simp; omega
  obtain ⟨rs, W, h0, h1, h2, h3, h4, h5⟩ := hTD.recs
  rw [hlen] at h1 h3 h4
  have hokd := okW_spec hok
  have h5' : ∀ (i : Nat) o, i < m → ops[i]? = some o → RO K ops (W i) o (rs i) := fun i o hi ho => h5 i o (by rw [List.getElem?_take, if_pos hi]; simpa using ho)
  -- a slot holds what it held ahead, or what it holds behind
  have hdst : ∀ (i : Nat) o, i < m → ops[i]? = some o → o.dst = (rs i).d := by
    intro i o hi ho
    have hr := h5' i o hi ho
    generalize rs i = r at hr ⊢
    cases hr with
    | does _ hd _ _ => exact hd
    | skip _ hd _ => exact hd
    | sto _ hd _ => exact hd
  have hone : ∀ i j s, i < m → j < m → (rs i).d = some s → (rs j).d = some s → i = j := by
    intro i j s hi hj e e2
    by_cases hij : i = j
    · exact hij
    · have hoi : ops[i]? = some (ops[i]'(by omega)) := Array.getElem?_eq_getElem (by omega)
      have hoj : ops[j]? = some (ops[j]'(by omega)) := Array.getElem?_eq_getElem (by omega)
      exact absurd ((hdst j _ hj hoj).trans e2) ((hokd.free j _ hoj hj i _ hi hoi hij).1 s ((hdst i _ hi hoi).trans e))
  have hslot : ∀ i, i ≤ m → ∀ s, ((W i).slot s = E.f.slot s ∧ ∀ k, k < i → (rs k).d ≠ some s) ∨ ∃ k, k < i ∧ (rs k).d = some s ∧ (W i).slot s = some (rs k).sv := by
    intro i
    induction i with
    | zero => intro _ s; exact .inl ⟨by rw [h0], fun k hk => absurd hk (Nat.not_lt_zero _)⟩
    | succ i ih =>
      intro hi s
      rw [(h4 i (by omega)).1]
      simp only [upd]
      by_cases e : (rs i).d = some s
      · exact .inr ⟨i, Nat.lt_succ_self i, e, by rw [if_pos e]⟩
      · rw [if_neg e]
        rcases ih (by omega) s with ⟨h6, h7⟩ | ⟨k, hk, h6, h7⟩
        · exact .inl ⟨h6, fun k hk => by
            by_cases e2 : k = i
            · subst e2; exact e
            · exact h7 k (by omega)⟩
        · exact .inr ⟨k, by omega, h6, h7⟩
  have htwo : ∀ i, i ≤ m → ∀ s, (W i).slot s = E.f.slot s ∨ (W i).slot s = E'.f.slot s := by
    intro i hi s
    rcases hslot i hi s with ⟨h6, _⟩ | ⟨k, hk, h6, h7⟩
    · exact .inl h6
    · refine .inr ?_
      rcases hslot m (Nat.le_refl _) s with ⟨_, h9⟩ | ⟨k', hk', h9, h10⟩
      · exact absurd h6 (h9 k (by omega))
      · rw [← h1, h10, h7, hone k k' s (by omega) hk' h6 h9]
  have hscope : ∀ i, i ≤ m → ∀ s sv, (W i).slot s = some sv → sv.inU (fun _ => True) := by
    intro i
    induction i with
    | zero => intro _ s sv h; rw [h0] at h; exact SV.in_mono (hφ.sin s sv h) fun _ _ => trivial
    | succ i ih =>
      intro hi s sv h
      have hoi : ops[i]? = some (ops[i]'(by omega)) := Array.getElem?_eq_getElem (by omega)
      have hr := h5' i _ (by omega) hoi
      have hprev := ih (by omega)
      rw [(h4 i (by omega)).1] at h
      generalize rs i = r at hr h
      cases hr with
      | @does d n sv' ad hw hd hdl hdo =>
        simp only [upd, Option.some.injEq] at h
        split at h
        · obtain rfl := Option.some.inj h
          exact SV.in_mono (hdo.in_ hprev) fun _ _ => trivial
        · exact hprev s sv h
      | @skip d n hw hd hdl =>
        simp only [upd, Option.some.injEq] at h
        split at h
        · obtain rfl := Option.some.inj h
          intro s hs; cases hs
        · exact hprev s sv h
      | @sto n q c hw hd hdo =>
        simp [upd] at h
        exact hprev s sv h
  -- what a store writes
  have hsto : ∀ k q c, k < m → (rs k).wr = some (q, c) → ∃ o, ops[k]? = some o ∧ ∃ t x y i off st, o.op = .store t x y ∧ (W k).get x = some (.optr q i off st) := by
    intro k q c hk hw
    have hok' : ops[k]? = some (ops[k]'(by omega)) := Array.getElem?_eq_getElem (by omega)
    have hr := h5' k _ hk hok'
    generalize rs k = r at hr hw
    cases hr with
    | does _ _ _ _ => cases hw
    | skip _ _ _ => cases hw
    | sto _ _ hdo =>
      cases hw
      cases hdo with
      | mk ho hx _ _ _ _ _ _ => exact ⟨_, hok', _, _, _, _, _, _, ho, hx⟩
  have htg : ∀ k q c, k < m → (rs k).wr = some (q, c) → ∃ tx, (match ops[k]? with | some o => (match o.op with | .store _ (.tmp t) _ => t = tx | _ => False) | none => False) ∧ q ∈ tg (E.f.slot tx) ++ tg (E'.f.slot tx) := by
    intro k q c hk hwr
    obtain ⟨ok, hok1, t, x, y, i, off, st, hop, hget⟩ := hsto k q c hk hwr
    have h6 := List.all_eq_true.1 hchk k (List.mem_range.2 hk)
    simp only [hok1, hop] at h6 ⊢
    cases x with
    | tmp tx =>
      refine ⟨tx, rfl, ?_⟩
      have hget' : (W k).slot tx = some (.optr q i off st) := hget
      rcases htwo k (by omega) tx with e | e
      · rw [e] at hget'; rw [hget']; exact List.mem_append_left _ (.head _)
      · rw [e] at hget'; rw [hget']; exact List.mem_append_right _ (.head _)
    | const v => simp at h6
    | func f => simp at h6
    | global g => simp at h6
  refine wp_region_any hmix ?_
  have hw : RelW K E.f (· < E.nx) φ a { w with drawn := w.drawn + 1 } := hφ.world ⟨rfl, rfl, rfl, Nat.le_refl _, fun _ _ => rfl⟩
  refine draw_any hokd hm' h0 h1 h2 h3 h4 h5' ?_ ?_ hw.sin (fun a' w' φ' hr' => ?_) ops.size (Array.replicate ops.size false) φ a _ (by simp) ?_ ?_ ?_ ?_
  · intro k q c hk hwr
    obtain ⟨tx, h7, hq⟩ := htg k q c hk hwr
    have h6 := List.all_eq_true.1 hchk k (List.mem_range.2 hk)
    split at h7
    · rename_i o ho
      split at h7
      · rename_i t tt y hop
        subst h7
        simp only [ho, hop] at h6
        have := List.all_eq_true.1 h6 q hq
        simp only [Bool.and_eq_true] at this
        simpa [Nat.blt_eq] using this.1
      · exact h7.elim
    · exact h7.elim
  · intro k j hk hj hkj q c o hwr ho
    obtain ⟨tx, h7, hq⟩ := htg k q c hk hwr
    have h6 := List.all_eq_true.1 hchk k (List.mem_range.2 hk)
    split at h7
    · rename_i ok hok1
      split at h7
      · rename_i t tt y hop
        subst h7
        simp only [hok1, hop] at h6
        have h7 := List.all_eq_true.1 h6 q hq
        simp only [Bool.and_eq_true] at h7
        have h7 := List.all_eq_true.1 h7.2 j (List.mem_range.2 hj)
        simp only [Bool.or_eq_true, beq_iff_eq, ho] at h7
        rcases h7 with (h7 | h7) | h7
        · exact absurd h7.symm hkj
        · exact .inl h7
        · refine .inr fun z hz sv hsv => ?_
          have h8 := List.all_eq_true.1 h7 z (by simpa using hz)
          cases z with
          | tmp s =>
            simp only [Bool.and_eq_true] at h8
            have hsv' : (W j).slot s = some sv := hsv
            have hin := hscope j (by omega) s sv hsv'
            rcases htwo j (by omega) s with e | e
            · rw [e] at hsv'; rw [hsv'] at h8; exact nr_in h8.1 hin
            · rw [e] at hsv'; rw [hsv'] at h8; exact nr_in h8.2 hin
          | const v =>
            simp only [EnvF.get, cSV] at hsv
            split at hsv
            · obtain rfl := Option.some.inj hsv; trivial
            · obtain ⟨p, _, rfl⟩ := Option.map_eq_some_iff.1 hsv; trivial
          | func f => simp only [EnvF.get, Option.some.injEq] at hsv; subst hsv; trivial
          | global g => simp [EnvF.get] at hsv
      · exact h7.elim
    · exact h7.elim
  · have hto := hJ.out.out a' w' (lift K Q) ⟨φ', hr'⟩ fun E2 a2 w2 hq hr2 => ⟨rfl, E2, hq, hr2⟩
    have e := wpOps_eq_wpList (P := K.P) (ops := ops) (Q := lift K Q) (ops.toList.drop m) m (fun j => by simp)
    rw [show (ops.toList.drop m).length = ops.size - m by simp] at e
    rw [e]
    exact hto
  · intro k hk
    simp [Array.getD] at hk
  · intro k o hk
    simp [Array.getD] at hk
  · unfold open_
    have := List.length_filter_le (fun i => !(Array.replicate ops.size false).getD i true) (List.range ops.size)
    simpa using this
  · have e1 : ov E.f rs (fun k => (Array.replicate ops.size false).getD k false = true) = E.f := by
      refine (ov_congr fun k => ?_).trans (ov_none (V0 := E.f) (rs := rs))
      simp [Array.getD]
    have e2 : (fun q => q < E.nx ∨ ∃ k, (Array.replicate ops.size false).getD k false = true ∧ (rs k).n ≤ q ∧ q < (rs k).n + (rs k).ad.length) = (· < E.nx) := by
      funext q
      simp only [eq_iff_iff]
      constructor
      · rintro (h | ⟨k, hk, _⟩)
        · exact h
        · simp [Array.getD] at hk
      · exact .inl
    rw [e1, e2]
    exact hw
theorem T.rdm (m : Nat) (hmix : K.P.follows .mixedOrders = true) (hok : okD ops m = true) (hm : Nat.ble m ops.size = true) (h : J K ops true (ops.toList.take m) E (fun E' => J K ops false (ops.toList.drop m) E' (Q .normal))) : T K (.region id ops true) E Q := by
  have hok' : okW ops m = true := by simp only [okD, Bool.and_eq_true] at hok; exact hok.1
  refine T.rdw m hmix hok' hm ⟨?_⟩
  obtain ⟨E', h1, h2⟩ := h.out
  exact ⟨E', h1, chk_plain hok, h2⟩
/-- A store in a region that draws its order. -/
theorem J.wd {t : TypeId} {x y : Operand} {q i off st : Nat} {c c' : Own} {sy : SV} {fp : Bool} {p : PV} {inf : TypeInfo}
    (ho : o.op = .store t x y) (hg : wants ops (St.mk sl ow nx).f o = some true) (hd : o.dst = none) (hx : (St.mk sl ow nx).f.get x = some (.optr q i off st)) (hq : (St.mk sl ow nx).f.own q = some c) (hy : (St.mk sl ow nx).f.get y = some sy) (hp : sy.ff = some (fp, p))
    (hi : K.P.info? t = some inf) (hs : p.cells.length = inf.size) (hc : c.put i off st fp p.cells = some c') (k : J K ops true rest ⟨sl, (q, some c') :: ow, nx⟩ R) : J K ops true (o :: rest) ⟨sl, ow, nx⟩ R := by
  obtain ⟨E', h1, h2⟩ := k.out
  refine ⟨E', TD.sto hg hd (.mk ho hx hq hy hp hi hs hc) ?_ h1, h2⟩
  refine EnvF.ext (fun s => rfl) (fun j => ?_)
  simp only [St.f, lk_cons]
  by_cases e : q = j
  · rw [if_pos e, if_pos e.symm]; rfl
  · rw [if_neg e, if_neg (Ne.symm e)]
theorem T.rd (hmix : K.P.follows .mixedOrders = true) (hok : okD ops ops.size = true) (h : J K ops true ops.toList E (Q .normal)) : T K (.region id ops true) E Q := by
  refine T.rdm ops.size hmix hok (Nat.ble_eq_true_of_le (Nat.le_refl _)) ?_
  rw [← Array.length_toList, List.take_length, List.drop_length]
  obtain ⟨E', h1, h2⟩ := h.out
  exact ⟨E', h1, .nil h2⟩
end
end Go.Proofs.Ytchajofdjeijfaa
