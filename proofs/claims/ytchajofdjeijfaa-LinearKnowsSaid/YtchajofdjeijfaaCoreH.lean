/- Judgements: a list of operations, code; their rules. -/
import Derived.Test.YtchajofdjeijfaaCoreG
namespace Go.Proofs.Ytchajofdjeijfaa
open Go Go.RowKit
set_option linter.unusedVariables false
set_option linter.unusedSimpArgs false

def wants (ops : Array Oper) (E : EnvF) (o : Oper) : Option Bool :=
  match o.guard with
  | none => some true
  | some (j, want) => match ops[j]? with
    | some oj => match oj.dst with
      | some d => match E.slot d with
        | some (.val _ (.bool b)) => some (b == want)
        | some (.tup _) => some false
        | _ => none
      | none => none
    | none => none

theorem wants_sound {K : Ctx} {E : EnvF} {U : Nat → Prop} {φ : Nat → Value} {a : Act} {w : World} (h : RelW K E U φ a w) {ops : Array Oper} {o : Oper} {b : Bool} (hw : wants ops E o = some b) : Region.wanted o (yielded ops a.tmps) = b := by
  unfold wants at hw
  unfold Region.wanted
  split at hw
  · rename_i hg
    obtain rfl := Option.some.inj hw
    rw [hg]
  · rename_i j want hg
    split at hw
    · rename_i oj hj
      split at hw
      · rename_i d hd
        split at hw
        · rename_i f b' hs
          obtain rfl := Option.some.inj hw
          obtain ⟨v, hv, hr⟩ := h.slot d _ hs
          cases hr
          rw [hg]
          simp only [yielded, hj, Option.bind_some, hd, hv]
          cases b' <;> cases want <;> rfl
        · rename_i l hs
          obtain rfl := Option.some.inj hw
          obtain ⟨v, hv, hr⟩ := h.slot d _ hs
          obtain ⟨vs, rfl, _⟩ := hr
          rw [hg]
          simp [yielded, hj, hd, hv]
        · cases hw
      · cases hw
    · cases hw

/-- A list of operations, from state E on, comes to a state of R. -/
structure TO (K : Ctx) (ops : Array Oper) (l : List Oper) (E : St) (R : St → Prop) : Prop where
  out : ∀ (a : Act) (w : World) (Q : Exit → Act → World → Prop), Rel K E a w → (∀ E' a' w', R E' → Rel K E' a' w' → Q .normal a' w') → wpList K.P ops Q l a w

/-- An operation takes state E to E'. -/
def Stepped (K : Ctx) (o : Oper) (E E' : St) : Prop :=
  ∀ (a : Act) (w : World) (next : Act → World → Prop) (Q : Exit → Act → World → Prop), Rel K E a w → (∀ a' w', Rel K E' a' w' → next a' w') → o.wp K.P a w next Q

def pushOw (n : Nat) : List Own → List (Nat × Option Own) → List (Nat × Option Own)
  | [], ow => ow
  | c :: cs, ow => (n, some c) :: pushOw (n + 1) cs ow

theorem lk_push (ow : List (Nat × Option Own)) : ∀ (adds : List Own) (n o : Nat), (lk (pushOw n adds ow) o).join = addOwn (fun o => (lk ow o).join) n adds o
  | [], n, o => by simp only [pushOw, addOwn, List.length_nil, Nat.add_zero]; rw [if_neg (by omega)]
  | c :: cs, n, o => by
    simp only [pushOw, lk_cons]
    by_cases e : n = o
    · subst e
      simp [addOwn]
    · rw [if_neg e, lk_push ow cs (n + 1) o]
      simp only [addOwn, List.length_cons]
      by_cases h : n + 1 ≤ o ∧ o < n + 1 + cs.length
      · rw [if_pos h, if_pos (by omega)]
        obtain ⟨k, rfl⟩ : ∃ k, o = n + 1 + k := ⟨o - (n + 1), by omega⟩
        have e1 : n + 1 + k - (n + 1) = k := by omega
        have e2 : n + 1 + k - n = k + 1 := by omega
        rw [e1, e2, List.getElem?_cons_succ]
      · rw [if_neg h, if_neg (by omega)]

theorem f_push (sl : List (Nat × SV)) (ow : List (Nat × Option Own)) (nx m : Nat) (adds : List Own) : (St.mk sl (pushOw nx adds ow) m).f = (St.mk sl ow nx).f.add nx adds := by
  simp only [St.f, EnvF.add, EnvF.mk.injEq, true_and]
  funext o
  exact lk_push ow adds nx o

theorem slot_put {sl : List (Nat × SV)} {d : Nat} {sv : SV} (s : Nat) (sv' : SV) (h : lk ((d, sv) :: sl) s = some sv') : (s = d ∧ sv' = sv) ∨ (s ≠ d ∧ lk sl s = some sv') := by
  rw [lk_cons] at h
  by_cases e : d = s
  · rw [if_pos e] at h; exact .inl ⟨e.symm, (Option.some.inj h).symm⟩
  · rw [if_neg e] at h; exact .inr ⟨Ne.symm e, h⟩

section
variable {K : Ctx} {ops : Array Oper} {o : Oper} {rest : List Oper} {sl : List (Nat × SV)} {ow : List (Nat × Option Own)} {nx : Nat} {R : St → Prop} {E E' : St} {d : Nat} {sv : SV}

theorem TO.nil (h : R E) : TO K ops [] E R := ⟨fun _ _ _ hr hk => hk E _ _ h hr⟩

theorem TO.step (hg : wants ops E.f o = some true) (hs : Stepped K o E E') (k : TO K ops rest E' R) : TO K ops (o :: rest) E R :=
  ⟨fun a w Q hr hk => by
    obtain ⟨φ, hφ⟩ := hr
    unfold wpList
    rw [if_pos (wants_sound hφ hg)]
    exact .inl (hs a w _ Q ⟨φ, hφ⟩ fun a' w' hr' => k.out a' w' Q hr' hk)⟩

theorem TO.skip (hg : wants ops (St.mk sl ow nx).f o = some false) (hd : o.dst = some d) (hlt : K.can d = true) (k : TO K ops rest ⟨(d, .tup []) :: sl, ow, nx⟩ R) : TO K ops (o :: rest) ⟨sl, ow, nx⟩ R :=
  ⟨fun a w Q hr hk => by
    obtain ⟨φ, hφ⟩ := hr
    unfold wpList
    rw [if_neg (by rw [wants_sound hφ hg]; simp)]
    refine k.out _ w Q ⟨φ, ?_⟩ hk
    rw [hd]
    exact hφ.put hlt (sv := .tup []) ⟨[], rfl, .nil⟩ (by intro s hs; cases hs) rfl slot_put⟩

theorem TO.sub (h : ∀ a w, Rel K E a w → Rel K E' a w) (k : TO K ops rest E' R) : TO K ops rest E R := ⟨fun a w Q hr hk => k.out a w Q (h a w hr) hk⟩

theorem does_step {adds : List Own} (hd : o.dst = some d) (hlt : K.can d = true) (h : Does K (St.mk sl ow nx).f nx o sv adds) : Stepped K o ⟨sl, ow, nx⟩ ⟨(d, sv) :: sl, pushOw nx adds ow, nx + adds.length⟩ := by
  intro a w next Q hr hk
  obtain ⟨φ, hφ⟩ := hr
  refine h.sound hφ (fun i h1 _ h3 => absurd h3 (Nat.not_lt.2 h1)) (next := next) (Q := Q) fun v w' φ' h1 h2 h3 => hk _ _ ⟨φ', ?_⟩
  have hU : addU (· < nx) nx adds = (· < nx + adds.length) := by
    funext i
    simp only [addU, eq_iff_iff]
    omega
  rw [hU] at h1 h3
  rw [hd]
  have hf := f_push sl ow nx (nx + adds.length) adds
  have h4 : RelW K (St.mk sl (pushOw nx adds ow) (nx + adds.length)).f (· < nx + adds.length) φ' a w' := by rw [hf]; exact h1
  rw [← hf] at h2
  exact h4.put hlt h2 h3 rfl slot_put

/-- An operation that only computes or reads. -/
theorem TO.e (hg : wants ops (St.mk sl ow nx).f o = some true) (hd : o.dst = some d) (hlt : K.can d = true) (he : ev K.P (St.mk sl ow nx).f o = some sv) (k : TO K ops rest ⟨(d, sv) :: sl, ow, nx⟩ R) : TO K ops (o :: rest) ⟨sl, ow, nx⟩ R :=
  .step hg (does_step hd hlt (.ev he)) k
theorem TO.does {adds : List Own} (hg : wants ops (St.mk sl ow nx).f o = some true) (hd : o.dst = some d) (hlt : K.can d = true) (h : Does K (St.mk sl ow nx).f nx o sv adds) (k : TO K ops rest ⟨(d, sv) :: sl, pushOw nx adds ow, nx + adds.length⟩ R) : TO K ops (o :: rest) ⟨sl, ow, nx⟩ R :=
  .step hg (does_step hd hlt h) k

/-- A guard that is open: both ways. -/
theorem TO.g {p : Prop} [Decidable p] {j dj : Nat} {want f : Bool} (hg : o.guard = some (j, want)) (hj : (ops[j]?).bind (·.dst) = some dj) (hs : lk sl dj = some (.val f (.bool (decide p))))
    (kt : p → TO K ops (o :: rest) ⟨(dj, .val true (.bool true)) :: sl, ow, nx⟩ R) (kf : ¬ p → TO K ops (o :: rest) ⟨(dj, .val true (.bool false)) :: sl, ow, nx⟩ R) : TO K ops (o :: rest) ⟨sl, ow, nx⟩ R := by
  have key : ∀ b, decide p = b → ∀ a w, Rel K ⟨sl, ow, nx⟩ a w → Rel K ⟨(dj, .val true (.bool b)) :: sl, ow, nx⟩ a w := by
    rintro b hb a w ⟨φ, hφ⟩
    refine ⟨φ, hφ.df, hφ.sz, hφ.old, hφ.kept, hφ.own, hφ.mine, hφ.inU, hφ.dis, ?_, ?_⟩
    · intro s sv' hsv
      rcases slot_put s sv' hsv with ⟨rfl, rfl⟩ | ⟨_, h⟩
      · obtain ⟨v, hv, hr⟩ := hφ.slot s _ hs
        refine ⟨v, hv, ?_⟩
        cases hr
        rw [hb]
        exact Rep.bool b
      · exact hφ.slot s sv' h
    · intro s sv' hsv
      rcases slot_put s sv' hsv with ⟨rfl, rfl⟩ | ⟨_, h⟩
      · trivial
      · exact hφ.sin s sv' h
  by_cases hp : p
  · exact .sub (key true (decide_eq_true hp)) (kt hp)
  · exact .sub (key false (decide_eq_false hp)) (kf hp)
theorem TO.gb {b : Bool} {j dj : Nat} {want f : Bool} (hg : o.guard = some (j, want)) (hj : (ops[j]?).bind (·.dst) = some dj) (hs : lk sl dj = some (.val f (.bool b)))
    (kt : b = true → TO K ops (o :: rest) ⟨(dj, .val true (.bool true)) :: sl, ow, nx⟩ R) (kf : b = false → TO K ops (o :: rest) ⟨(dj, .val true (.bool false)) :: sl, ow, nx⟩ R) : TO K ops (o :: rest) ⟨sl, ow, nx⟩ R :=
  TO.g (p := b = true) hg hj (by rw [hs]; cases b <;> rfl) kt (fun h => kf (by cases b <;> simp_all))

theorem TO.i {t : TypeId} {x i : Operand} {sx : SV} {fr fi : Bool} {rows : List (List PV)} {r : List PV} {k : IntKind} {m : Int} {e : TypeId} {inf : TypeInfo} (ho : o.op = .indexAddr t x i) (hg : wants ops (St.mk sl ow nx).f o = some true) (hd : o.dst = some d) (hlt : K.can d = true)
    (hx : (St.mk sl ow nx).f.get x = some sx) (hr : sx.ff = some (fr, .sl rows)) (hi : (St.mk sl ow nx).f.get i = some (.val fi (.int k m))) (hu : K.P.underlying t = some (.slice e)) (hinf : K.P.info? e = some inf)
    (h0 : 0 ≤ m) (hrow : rows[m.toNat]? = some r) (hl : r.length = inf.size) (q : TO K ops rest ⟨(d, .fptr fr r) :: sl, ow, nx⟩ R) : TO K ops (o :: rest) ⟨sl, ow, nx⟩ R :=
  .step hg (does_step hd hlt (.idxf ho hx hr hi hu hinf h0 hrow hl)) q
theorem TO.io {t : TypeId} {x i : Operand} {p : Nat} {fr fi : Bool} {rows : List (List PV)} {k : IntKind} {m : Int} {e' e : TypeId} {sz : Nat} {inf : TypeInfo} (ho : o.op = .indexAddr t x i) (hg : wants ops (St.mk sl ow nx).f o = some true) (hd : o.dst = some d) (hlt : K.can d = true)
    (hx : (St.mk sl ow nx).f.get x = some (.ref p)) (hp : (St.mk sl ow nx).f.own p = some (.sl e' sz fr rows)) (hi : (St.mk sl ow nx).f.get i = some (.val fi (.int k m))) (hu : K.P.underlying t = some (.slice e)) (hinf : K.P.info? e = some inf)
    (h0 : 0 ≤ m) (hm : m.toNat < rows.length) (hl : inf.size = sz) (q : TO K ops rest ⟨(d, .optr p m.toNat 0 sz) :: sl, ow, nx⟩ R) : TO K ops (o :: rest) ⟨sl, ow, nx⟩ R :=
  .step hg (does_step hd hlt (.idxo ho hx hp hi hu hinf h0 hm hl)) q
theorem TO.bx {t : TypeId} {x : Operand} {sx : SV} {fr : Bool} {p : PV} (ho : o.op = .box t x) (hg : wants ops (St.mk sl ow nx).f o = some true) (hd : o.dst = some d) (hlt : K.can d = true) (hx : (St.mk sl ow nx).f.get x = some sx) (hp : sx.ff = some (fr, p))
    (q : TO K ops rest ⟨(d, .optr nx 0 0 0) :: sl, (nx, some (.box fr p.cells)) :: ow, nx + 1⟩ R) : TO K ops (o :: rest) ⟨sl, ow, nx⟩ R :=
  .step hg (does_step hd hlt (.box ho hx hp)) q
theorem TO.bv {t e : TypeId} {len : Nat} {fr : Bool} {parts : Array (Nat × Operand)} {rows : List (List PV)} {inf : TypeInfo} {z : Value} (ho : o.op = .buildSlice t len parts) (hg : wants ops (St.mk sl ow nx).f o = some true) (hd : o.dst = some d) (hlt : K.can d = true)
    (hu : K.P.underlying t = some (.slice e)) (hinf : K.P.info? e = some inf) (hz : inf.zero = some z) (hzs : z.cells.size = inf.size) (hr : rowsPV (St.mk sl ow nx).f inf.size 0 parts.toList = some (fr, rows)) (hl : rows.length = len) (hm : len * inf.size ≤ 2 ^ 24) (hm2 : len ≤ 2 ^ 24)
    (q : TO K ops rest ⟨(d, .val fr (.sl rows)) :: sl, ow, nx⟩ R) : TO K ops (o :: rest) ⟨sl, ow, nx⟩ R :=
  .step hg (does_step hd hlt (.bsv ho hu hinf hz hzs hr hl hm hm2)) q
theorem TO.bo {t e : TypeId} {len : Nat} {fr : Bool} {parts : Array (Nat × Operand)} {rows : List (List PV)} {inf : TypeInfo} {z : Value} (ho : o.op = .buildSlice t len parts) (hg : wants ops (St.mk sl ow nx).f o = some true) (hd : o.dst = some d) (hlt : K.can d = true)
    (hu : K.P.underlying t = some (.slice e)) (hinf : K.P.info? e = some inf) (hz : inf.zero = some z) (hzs : z.cells.size = inf.size) (hr : rowsPV (St.mk sl ow nx).f inf.size 0 parts.toList = some (fr, rows)) (hl : rows.length = len) (hm : len * inf.size ≤ 2 ^ 24) (hm2 : len ≤ 2 ^ 24)
    (q : TO K ops rest ⟨(d, .ref nx) :: sl, (nx, some (.sl e inf.size fr rows)) :: ow, nx + 1⟩ R) : TO K ops (o :: rest) ⟨sl, ow, nx⟩ R :=
  .step hg (does_step hd hlt (.bso ho hu hinf hz hzs hr hl hm hm2)) q
theorem TO.c {x : Operand} {args : Array Operand} {tys : Array TypeId} {f : FuncId} {first caps ps : List PV} {al fx : Bool} {res : List RV} (ho : o.op = .call { callee := .value x, args := args, argTypes := tys }) (hg : wants ops (St.mk sl ow nx).f o = some true) (hd : o.dst = some d) (hlt : K.can d = true)
    (hx : (St.mk sl ow nx).f.get x = some (.val fx (.fn (.func f) first caps))) (hspec : Spec K.P f al (first ++ ps ++ caps) res) (ha : argPVs (St.mk sl ow nx).f al args.toList = some ps)
    (q : TO K ops rest ⟨(d, RV.one (!al) nx res) :: sl, pushOw nx (RV.owns (!al) res) ow, nx + (RV.owns (!al) res).length⟩ R) : TO K ops (o :: rest) ⟨sl, ow, nx⟩ R :=
  .step hg (does_step hd hlt (.call ho hx ha hspec)) q

theorem swap_f (src : Option Nat) (c : Own) (hs : ∀ q, src = some q → q < nx) :
    (St.mk sl ((nx, some c) :: (match src with | some q => (q, none) :: ow | none => ow)) (nx + 1)).f = ⟨(St.mk sl ow nx).f.slot, swapOwn (St.mk sl ow nx).f.own src nx c⟩ := by
  simp only [St.f, EnvF.mk.injEq, true_and]
  funext i
  simp only [swapOwn, lk_cons]
  by_cases e : nx = i
  · rw [if_pos e, if_pos e.symm]; rfl
  · rw [if_neg e, if_neg (Ne.symm e)]
    cases src with
    | none => simp
    | some q =>
      simp only [lk_cons, Option.some.injEq]
      by_cases e2 : q = i
      · rw [if_pos e2, if_pos e2]; rfl
      · rw [if_neg e2, if_neg e2]

/-- append onto what is owned: the old name is gone. -/
theorem TO.a {args : Array Operand} {tys : Array TypeId} {s y : Operand} {t e : TypeId} {q sz : Nat} {fr fy : Bool} {rows rows2 : List (List PV)} {sy : SV} {inf : TypeInfo} {z : Value}
    (ho : o.op = .call { callee := .builtin .append, args := args, argTypes := tys }) (ha : args.toList = [s, y]) (ht : tys.toList = [t, t]) (hg : wants ops (St.mk sl ow nx).f o = some true) (hd : o.dst = some d) (hlt : K.can d = true)
    (hs : (St.mk sl ow nx).f.get s = some (.ref q)) (hq : (St.mk sl ow nx).f.own q = some (.sl e sz fr rows)) (hy : (St.mk sl ow nx).f.get y = some sy) (hp : (St.mk sl ow nx).f.pvf sy = some (fy, .sl rows2))
    (hu : K.P.underlying t = some (.slice e)) (hi : K.P.info? e = some inf) (hsz : inf.size = sz) (hz : inf.zero = some z) (hzs : z.cells.size = sz) (h0 : 0 < sz)
    (hl2 : ∀ r ∈ rows2, r.length = sz) (hby : (rows.length + rows2.length) * inf.bytes ≤ 140737488355328) (hb1 : 1 ≤ inf.bytes)
    (k : TO K ops rest ⟨(d, .ref nx) :: sl, (nx, some (.sl e sz (fr && fy) (rows ++ rows2))) :: (q, none) :: ow, nx + 1⟩ R) : TO K ops (o :: rest) ⟨sl, ow, nx⟩ R := by
  refine .step hg ?_ k
  intro a w next Q hr hk
  obtain ⟨φ, hφ⟩ := hr
  have hqn : q < nx := hφ.inU q _ hq
  have h63 : rows.length + rows2.length ≤ maxLen := Nat.le_trans (Nat.le_trans (Nat.le_mul_of_pos_right _ hb1) hby) (by decide)
  refine append_sound hφ (n := nx) (src := some q) (z := z) ho ha ht (.inl ⟨q, rfl, hs, hq⟩) hy hp hu hi hsz hz hzs h0 hl2 h63 hby (fun h => absurd h (Nat.lt_irrefl _)) (next := next) (Q := Q) fun v w' φ' h1 h2 => hk _ _ ⟨φ', ?_⟩
  have hU : (fun i => i < nx ∨ i = nx) = (· < nx + 1) := by funext i; simp only [eq_iff_iff]; omega
  rw [hU, ← swap_f (some q) _ (fun q' e => by cases e; exact hqn)] at h1
  rw [hd]
  exact h1.put hlt (sv := .ref nx) h2 (Nat.lt_succ_self _) rfl slot_put
/-- append onto nil. -/
theorem TO.an {args : Array Operand} {tys : Array TypeId} {s y : Operand} {t e : TypeId} {fy : Bool} {rows2 : List (List PV)} {sy : SV} {inf : TypeInfo} {z : Value}
    (ho : o.op = .call { callee := .builtin .append, args := args, argTypes := tys }) (ha : args.toList = [s, y]) (ht : tys.toList = [t, t]) (hg : wants ops (St.mk sl ow nx).f o = some true) (hd : o.dst = some d) (hlt : K.can d = true)
    (hs : (St.mk sl ow nx).f.get s = some .nilsl) (hy : (St.mk sl ow nx).f.get y = some sy) (hp : (St.mk sl ow nx).f.pvf sy = some (fy, .sl rows2))
    (hu : K.P.underlying t = some (.slice e)) (hi : K.P.info? e = some inf) (hz : inf.zero = some z) (hzs : z.cells.size = inf.size) (h0 : 0 < inf.size)
    (hl2 : ∀ r ∈ rows2, r.length = inf.size) (hby : rows2.length * inf.bytes ≤ 140737488355328) (hb1 : 1 ≤ inf.bytes)
    (k : TO K ops rest ⟨(d, .ref nx) :: sl, (nx, some (.sl e inf.size fy rows2)) :: ow, nx + 1⟩ R) : TO K ops (o :: rest) ⟨sl, ow, nx⟩ R := by
  refine .step hg ?_ k
  intro a w next Q hr hk
  obtain ⟨φ, hφ⟩ := hr
  have h63 : ([] : List (List PV)).length + rows2.length ≤ maxLen := by
    have := Nat.le_trans (Nat.le_trans (Nat.le_mul_of_pos_right rows2.length hb1) hby) (show 140737488355328 ≤ maxLen by decide)
    simpa using this
  refine append_sound hφ (n := nx) (src := none) (fr := true) (rows := []) (z := z) ho ha ht (.inr ⟨rfl, hs, rfl, rfl⟩) hy hp hu hi rfl hz hzs h0 hl2 h63 (by simpa using hby) (fun h => absurd h (Nat.lt_irrefl _)) (next := next) (Q := Q) fun v w' φ' h1 h2 => hk _ _ ⟨φ', ?_⟩
  have hU : (fun i => i < nx ∨ i = nx) = (· < nx + 1) := by funext i; simp only [eq_iff_iff]; omega
  rw [hU, ← swap_f none _ (fun q' e => by cases e)] at h1
  rw [hd]
  exact h1.put hlt (sv := .ref nx) h2 (Nat.lt_succ_self _) rfl slot_put

/-- A store into what is owned. -/
theorem TO.w {t : TypeId} {x y : Operand} {q i off st : Nat} {c c' : Own} {sy : SV} {fp : Bool} {p : PV} {inf : TypeInfo}
    (ho : o.op = .store t x y) (hg : wants ops (St.mk sl ow nx).f o = some true) (hd : o.dst = none) (hx : (St.mk sl ow nx).f.get x = some (.optr q i off st)) (hq : (St.mk sl ow nx).f.own q = some c) (hy : (St.mk sl ow nx).f.get y = some sy) (hp : sy.ff = some (fp, p))
    (hi : K.P.info? t = some inf) (hs : p.cells.length = inf.size) (hc : c.put i off st fp p.cells = some c') (k : TO K ops rest ⟨sl, (q, some c') :: ow, nx⟩ R) : TO K ops (o :: rest) ⟨sl, ow, nx⟩ R := by
  refine .step hg ?_ k
  intro a w next Q hr hk
  obtain ⟨φ, hφ⟩ := hr
  refine store_sound hφ ho hx hq hy hp hi hs hc (next := next) (Q := Q) fun w' h1 => ?_
  rw [hd]
  refine hk _ _ ⟨φ, ?_⟩
  have : (St.mk sl ((q, some c') :: ow) nx).f = ⟨(St.mk sl ow nx).f.slot, fun j => if j = q then some c' else (St.mk sl ow nx).f.own j⟩ := by
    simp only [St.f, EnvF.mk.injEq, true_and]
    funext j
    rw [lk_cons]
    by_cases e : q = j
    · rw [if_pos e, if_pos e.symm]; rfl
    · rw [if_neg e, if_neg (Ne.symm e)]
  rw [this]
  exact h1
end
end Go.Proofs.Ytchajofdjeijfaa
