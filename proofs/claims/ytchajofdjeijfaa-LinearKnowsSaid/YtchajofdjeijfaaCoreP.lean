/- Small words for proofs of contracts. -/
import Derived.Test.YtchajofdjeijfaaCoreO
import Derived.Laws.StructEq
namespace Go.Proofs.Ytchajofdjeijfaa
open Go Go.RowKit
set_option linter.unusedVariables false

section
variable {K : Ctx} {x y : Code} {E : St} {Q : Exit → St → Prop}
theorem T.ct2 {f b : Bool} {o : Operand} (hc : E.f.get o = some (.val f (.bool b))) (hb : b = true) (ht : T K x E Q) : T K (.cond o x y) E Q := .cond hc (fun _ => ht) (fun h => by rw [hb] at h; cases h)
theorem T.cf2 {f b : Bool} {o : Operand} (hc : E.f.get o = some (.val f (.bool b))) (hb : b = false) (hf : T K y E Q) : T K (.cond o x y) E Q := .cond hc (fun h => by rw [hb] at h; cases h) (fun _ => hf)
end

/-- A read of a place in what is owned. -/
theorem J.lo {K : Ctx} {ops : Array Oper} {dr : Bool} {o : Oper} {rest : List Oper} {sl : List (Nat × SV)} {ow : List (Nat × Option Own)} {nx : Nat} {R : St → Prop} {d : Nat} {t : TypeId} {x : Operand} {q i off st : Nat} {e : TypeId} {fr : Bool} {rows : List (List PV)} {r : List PV} {p : PV}
    (ho : o.op = .load t x) (hg : wants ops (St.mk sl ow nx).f o = some true) (hd : o.dst = some d) (hlt : K.can d = true) (hx : (St.mk sl ow nx).f.get x = some (.optr q i off st)) (hq : (St.mk sl ow nx).f.own q = some (.sl e st fr rows))
    (hr : rows[i]? = some r) (hp : loadPV K.P t (r.drop off) = some p) (k : J K ops dr rest ⟨(d, mkv fr p) :: sl, ow, nx⟩ R) : J K ops dr (o :: rest) ⟨sl, ow, nx⟩ R :=
  .does hg hd hlt (.ev (by simp [ev, ho, hx, EnvF.cellsAt, hq, Own.at_, hr, hp])) k

/-- A call, its arguments told behind its contract. -/
theorem J.cc {K : Ctx} {ops : Array Oper} {dr : Bool} {o : Oper} {rest : List Oper} {sl : List (Nat × SV)} {ow : List (Nat × Option Own)} {nx : Nat} {R : St → Prop} {d : Nat}
    {x : Operand} {args : Array Operand} {tys : Array TypeId} {f : FuncId} {first caps ps ps' : List PV} {al fx : Bool} {res : List RV} (ho : o.op = .call { callee := .value x, args := args, argTypes := tys }) (hg : wants ops (St.mk sl ow nx).f o = some true) (hd : o.dst = some d) (hlt : K.can d = true)
    (hx : (St.mk sl ow nx).f.get x = some (.val fx (.fn (.func f) first caps))) (hspec : Spec K.P f al ps' res) (ha : argPVs (St.mk sl ow nx).f al args.toList = some ps) (he : first ++ ps ++ caps = ps')
    (q : J K ops dr rest ⟨(d, RV.one (!al) nx res) :: sl, pushOw nx (RV.owns (!al) res) ow, nx + (RV.owns (!al) res).length⟩ R) : J K ops dr (o :: rest) ⟨sl, ow, nx⟩ R :=
  .c ho hg hd hlt hx (he ▸ hspec) ha q

/-- Fields that are all numbers, each in its cell. -/
def intFields (P : Program) : Nat → List Field → Bool
  | _, [] => true
  | k, f :: fs => f.name != "_" && Nat.beq f.offset k && (match P.underlying f.type with | some (.int _) => true | _ => false) && intFields P (k + 1) fs
theorem run_eqInts {P : Program} (d : Nat) (w : World) (as bs : List Int) : ∀ (fs : List Field) (k : Nat), intFields P k fs = true → as.length = k + fs.length → bs.length = k + fs.length →
    (Op.eqFields (d + 1) (as.map (Value.int .i64)).toArray (bs.map (Value.int .i64)).toArray fs).run P w = .ok (decide (as.drop k = bs.drop k)) w
  | [], k, _, ha, hb => by
    simp only [List.length_nil, Nat.add_zero] at ha hb
    rw [List.drop_of_length_le (by omega), List.drop_of_length_le (by omega)]
    rfl
  | f :: fs, k, h, ha, hb => by
    simp only [intFields, Bool.and_eq_true, bne_iff_ne] at h
    simp only [List.length_cons] at ha hb
    obtain ⟨⟨⟨h1, h2⟩, h3⟩, h4⟩ := h
    have h2 := Nat.eq_of_beq_eq_true h2
    have hk1 : k < as.length := by omega
    have hk2 : k < bs.length := by omega
    have ih := run_eqInts d w as bs fs (k + 1) h4 (by omega) (by omega)
    split at h3
    · rename_i kk hu
      have hagg : (isAgg f.type).run P w = .ok false w := run_isAgg hu w
      have hp : ∀ (l : List Int) (h : k < l.length), (part f.type (l.map (Value.int .i64)).toArray f.offset).run P w = .ok (.int .i64 l[k]) w := by
        intro l hl
        simp [part, hagg, h2, hl]
      simp only [Op.eqFields, if_pos h1, Sem.run_bind, hp as hk1, hp bs hk2, Result.andThen_ok, run_equalIn_int w d f.type .i64 kk _ _ hu]
      have e3 : (as.drop k = bs.drop k) ↔ (as[k] = bs[k] ∧ as.drop (k + 1) = bs.drop (k + 1)) := by
        rw [List.drop_eq_getElem_cons hk1, List.drop_eq_getElem_cons hk2, List.cons.injEq]
      by_cases e : as[k] = bs[k]
      · simp [e, ih, e3]
      · simp [e, e3]
    · cases h3

theorem L2_ints {w : World} {Z : Nat → Prop} : ∀ {as : List Int} {vs : List Value}, L2 (Rep w Z) vs (as.map (PV.int .i64)) → vs = as.map (Value.int .i64)
  | [], _, .nil => rfl
  | a :: as, _, .cons h hr => by
    cases h
    rw [L2_ints hr]; rfl

/-- Two structs of numbers are held against each other. -/
theorem J.se {K : Ctx} {ops : Array Oper} {dr : Bool} {o : Oper} {rest : List Oper} {sl : List (Nat × SV)} {ow : List (Nat × Option Own)} {nx : Nat} {R : St → Prop} {d : Nat} {op : BinOp} {t yt : TypeId} {x y : Operand} {f1 f2 : Bool} {cs ds : List PV} (as bs : List Int)
    (ho : o.op = .binOp op t x y yt) (hg : wants ops (St.mk sl ow nx).f o = some true) (hd : o.dst = some d) (hlt : K.can d = true) (hx : (St.mk sl ow nx).f.get x = some (.val f1 (.agg cs))) (hy : (St.mk sl ow nx).f.get y = some (.val f2 (.agg ds)))
    (hc : cs = as.map (PV.int .i64)) (hd2 : ds = bs.map (PV.int .i64)) (hS : K.P.underlying t = some (.struct (K.P.fieldsOf t))) (hp : K.P.stoodInHeld t = false) (hG : K.P.eqGuardType K.P.depth t = false) (hi : intFields K.P 0 (K.P.fieldsOf t).toList = true) (hl : as.length = (K.P.fieldsOf t).toList.length) (hl2 : bs.length = (K.P.fieldsOf t).toList.length) (hop : op = .eql ∨ op = .neq)
    (k : J K ops dr rest ⟨(d, .val true (.bool (match op with | .eql => decide (as = bs) | _ => !decide (as = bs)))) :: sl, ow, nx⟩ R) : J K ops dr (o :: rest) ⟨sl, ow, nx⟩ R := by
  refine .does hg hd hlt (.gen (xs := [x, y]) (l := [.agg cs, .agg ds]) ?_ ?_ ?_) k
  · rw [ho]; simp [Op.operands]
  · simp [fzList, hx, hy, SV.ff]
  · intro a w hr
    subst hc hd2
    cases hr with
    | cons h1 hr =>
    cases hr with
    | cons h2 _ =>
    generalize hv1 : a.eval x = v1 at h1
    generalize hv2 : a.eval y = v2 at h2
    cases h1 with
    | agg us _ hu hu1 =>
    cases h2 with
    | agg ws _ hw hw1 =>
    obtain rfl := L2_ints hu
    obtain rfl := L2_ints hw
    have he : (Op.equalIn 10000 t (.agg (as.map (Value.int .i64)).toArray) (.agg (bs.map (Value.int .i64)).toArray)).run K.P w = .ok (decide (as = bs)) w := by
      rw [show (10000 : Nat) = 9998 + 1 + 1 from rfl, run_equalIn_agg w _ t _ _ hS hp]
      have := run_eqInts (P := K.P) 9998 w as bs (K.P.fieldsOf t).toList 0 hi (by omega) (by omega)
      simpa using this
    have hge := run_eqGuard_agg (P := K.P) w op t x y (as.map (Value.int .i64)).toArray (bs.map (Value.int .i64)).toArray hG
    rcases hop with rfl | rfl
    · exact ⟨_, by simp only [execOp, ho, hv1, hv2, Sem.run_bind, hge, Result.andThen_ok, run_eql_struct, he]; rfl, fun Z => .bool _⟩
    · exact ⟨_, by simp only [execOp, ho, hv1, hv2, Sem.run_bind, hge, Result.andThen_ok, run_neq_struct, he]; rfl, fun Z => .bool _⟩

theorem snoc1 {α : Type} {enc : α → List PV} {l : List α} {x : α} {p : List PV} (h : enc x = p) : l.map enc ++ [p] = (l ++ [x]).map enc := by simp [h]

theorem one_len {α : Type} {r : List α} {n : Nat} (h : r.length = n) : ∀ x ∈ [r], x.length = n := by
  intro x hx; simp at hx; subst hx; exact h

theorem row_i {α : Type} {enc : α → List PV} {l : List α} {i : Nat} (h : i < l.length) : (l.map enc)[((i : Nat) : Int).toNat]? = some (enc l[i]) := by simp [h]
/-- A LOOP over a list, with something that holds of what it has passed. -/
theorem T.listI {K : Ctx} {c : Code} {Q : Exit → St → Prop} {α : Type} (l : List α) (Inv : List α → Prop) (Es : Nat → List α → List α → St) (hg : ∀ l E, ¬ Q (.goto l) E) (h0 : Inv [])
    (step : ∀ n pre x post, l = pre ++ x :: post → n = pre.length → Inv pre → (Inv (pre ++ [x]) → T K (.loop c) (Es (n + 1) (pre ++ [x]) post) Q) → T K c (Es n pre (x :: post)) (lp K c Q))
    (fin : Inv l → T K c (Es l.length l []) (lp K c Q)) : T K (.loop c) (Es 0 [] l) Q := by
  have key : ∀ post pre n, l = pre ++ post → n = pre.length → Inv pre → T K (.loop c) (Es n pre post) Q := by
    intro post
    induction post with
    | nil =>
      intro pre n h hn hi
      rw [List.append_nil] at h
      subst h hn
      exact .loop hg (fin hi)
    | cons x post ih =>
      intro pre n h hn hi
      exact .loop hg (step n pre x post h hn hi fun hi2 => ih (pre ++ [x]) (n + 1) (by simp [h]) (by simp [hn]) hi2)
  exact key l [] 0 rfl rfl h0

/-- What is owned and holds no memory of others is fresh. -/
theorem Rel.flat {K : Ctx} {sl : List (Nat × SV)} {ow : List (Nat × Option Own)} {nx : Nat} {o : Nat} {e : TypeId} {sz : Nat} {fr : Bool} {rows : List (List PV)} (ho : (St.mk sl ow nx).f.own o = some (.sl e sz fr rows)) (hf : ∀ r ∈ rows, ∀ p ∈ r, p.flat = true) (a : Act) (w : World) (h : Rel K ⟨sl, ow, nx⟩ a w) :
    Rel K ⟨sl, (o, some (.sl e sz true rows)) :: ow, nx⟩ a w := by
  obtain ⟨φ, hφ⟩ := h
  have hown' : ∀ q c, (St.mk sl ((o, some (.sl e sz true rows)) :: ow) nx).f.own q = some c → (q = o ∧ c = .sl e sz true rows) ∨ (q ≠ o ∧ (St.mk sl ow nx).f.own q = some c) := by
    intro q c hq
    simp only [St.f, lk_cons] at hq
    by_cases e : o = q
    · rw [if_pos e] at hq; exact .inl ⟨e.symm, (Option.some.inj hq).symm⟩
    · rw [if_neg e] at hq; exact .inr ⟨Ne.symm e, hq⟩
  have hdom : ∀ q c, (St.mk sl ((o, some (.sl e sz true rows)) :: ow) nx).f.own q = some c → ∃ c', (St.mk sl ow nx).f.own q = some c' := by
    intro q c hq
    rcases hown' q c hq with ⟨rfl, _⟩ | ⟨_, h⟩
    · exact ⟨_, ho⟩
    · exact ⟨_, h⟩
  have hZ : ∀ f b, Zf K (St.mk sl ow nx).f φ f b → Zf K (St.mk sl ((o, some (.sl e sz true rows)) :: ow) nx).f φ f b :=
    fun f b hb => ⟨⟨hb.1.1, fun q c hq => by obtain ⟨c', hq'⟩ := hdom q c hq; exact hb.1.2 q c' hq'⟩, hb.2⟩
  refine ⟨φ, hφ.df, hφ.sz, hφ.old, hφ.kept, ?_, ?_, ?_, ?_, ?_, ?_⟩
  · intro q c hq
    rcases hown' q c hq with ⟨rfl, rfl⟩ | ⟨_, h⟩
    · obtain ⟨xs, hwn, hl, h1, h2⟩ := hφ.own q _ ho
      refine ⟨xs, hwn, ?_, h1, h2⟩
      have : ∀ (xs : List Value) (ps : List PV), L2 (Rep w (Zf K (St.mk sl ow nx).f φ fr)) xs ps → (∀ p ∈ ps, p.flat = true) → L2 (Rep w (Zf K (St.mk sl ((q, some (.sl e sz true rows)) :: ow) nx).f φ true)) xs ps := by
        intro xs ps h
        induction h with
        | nil => intro _; exact .nil
        | cons h _ ih => intro hp; exact .cons (h.flat (hp _ (.head _))) (ih fun p hm => hp p (.tail _ hm))
      exact this _ _ hl fun p hp => by
        obtain ⟨r, hr, hp⟩ := List.mem_flatten.1 hp
        exact hf r hr p hp
    · exact (hφ.own q c h).mono (fun _ _ => rfl) fun f b hb _ => ⟨hZ f b hb, rfl⟩
  · intro q c g hq
    obtain ⟨c', hq'⟩ := hdom q c hq
    exact hφ.mine q c' g hq'
  · intro q c hq
    obtain ⟨c', hq'⟩ := hdom q c hq
    exact hφ.inU q c' hq'
  · intro q q' c c' g hq hq'
    obtain ⟨c1, hq1⟩ := hdom q c hq
    obtain ⟨c2, hq2⟩ := hdom q' c' hq'
    exact hφ.dis q q' c1 c2 g hq1 hq2
  · intro t sv hsv
    obtain ⟨v, hv, hr⟩ := hφ.slot t sv hsv
    exact ⟨v, hv, hr.mono (hφ.sin t sv hsv) (fun f b hb _ => ⟨hZ f b hb, rfl⟩) (fun _ _ => rfl)⟩
  · exact hφ.sin

/-- The first ones of a list. -/
theorem J.s1 {K : Ctx} {ops : Array Oper} {dr : Bool} {o : Oper} {rest : List Oper} {sl : List (Nat × SV)} {ow : List (Nat × Option Own)} {nx : Nat} {R : St → Prop} {d : Nat} {α : Type} {enc : α → List PV} {l : List α} {t : TypeId} {x y : Operand} {sx : SV} {fr fh : Bool} {e : TypeId} {inf : TypeInfo} {h : Int} {kh : IntKind} (n : Nat)
    (ho : o.op = .slice t x none (some y) none) (hg : wants ops (St.mk sl ow nx).f o = some true) (hd : o.dst = some d) (hlt : K.can d = true)
    (hx : (St.mk sl ow nx).f.get x = some sx) (hr : sx.ff = some (fr, .sl (l.map enc))) (hu : K.P.underlying t = some (.slice e)) (hinf : K.P.info? e = some inf) (hy : (St.mk sl ow nx).f.get y = some (.val fh (.int kh h)))
    (h3 : ∀ z, (enc z).length = inf.size) (hh : h = (n : Nat)) (hn : n ≤ l.length)
    (q : J K ops dr rest ⟨(d, .val fr (.sl ((l.take n).map enc))) :: sl, ow, nx⟩ R) : J K ops dr (o :: rest) ⟨sl, ow, nx⟩ R := by
  refine J.s (l := 0) (h := h) (fl := true) (kl := .i64) ho hg hd hlt hx hr hu hinf (.inl ⟨rfl, rfl⟩) (.inr ⟨y, rfl, hy⟩) (by omega) (by omega) (by simp; omega) (fun r hr => ?_) ?_
  · obtain ⟨z, _, rfl⟩ := List.mem_map.1 hr
    exact h3 z
  · rw [hh]
    simpa [List.map_take] using q
/-- What is behind a piece of code, said once: all its ways come to one state. -/
def only (E' : St) (e : Exit) (E : St) : Prop := e = .normal ∧ ∃ keep os, dup (idsOf E.f os) = false ∧ canonE E keep os = E'
theorem T.mid {K : Ctx} {x y : Code} {E : St} {Q : Exit → St → Prop} (E' : St) (hx : T K x E (only E')) (hy : T K y E' Q) : T K (.seq x y) E Q := by
  refine .seq (hx.mono ?_)
  rintro e E2 ⟨rfl, keep, os, hd, rfl⟩
  exact T.canon hd hy

theorem putCells_all : ∀ (ps pre cs : List PV), cs.length = ps.length → putCells (pre ++ cs) pre.length ps = pre ++ ps
  | [], pre, cs, h => by
    have : cs = [] := List.eq_nil_of_length_eq_zero h
    simp [putCells, this]
  | p :: ps, pre, [], h => by simp at h
  | p :: ps, pre, c :: cs, h => by
    simp only [putCells]
    have e : (pre ++ c :: cs).set pre.length p = (pre ++ [p]) ++ cs := by simp
    rw [e]
    have := putCells_all ps (pre ++ [p]) cs (by simpa using h)
    simp only [List.length_append, List.length_singleton] at this
    rw [this]; simp

/-- An element of what is owned is written anew. -/
theorem J.w1 {K : Ctx} {ops : Array Oper} {o : Oper} {rest : List Oper} {sl : List (Nat × SV)} {ow : List (Nat × Option Own)} {nx : Nat} {R : St → Prop} {α : Type} {enc : α → List PV} {l : List α} {z : α} {t e : TypeId} {x y : Operand} {q i st : Nat} {fr : Bool} {sy : SV} {fp : Bool} {p : PV} {inf : TypeInfo}
    (ho : o.op = .store t x y) (hg : wants ops (St.mk sl ow nx).f o = some true) (hd : o.dst = none) (hx : (St.mk sl ow nx).f.get x = some (.optr q i 0 st)) (hq : (St.mk sl ow nx).f.own q = some (.sl e st fr (l.map enc))) (hy : (St.mk sl ow nx).f.get y = some sy) (hp : sy.ff = some (fp, p))
    (hi : K.P.info? t = some inf) (hs : p.cells.length = inf.size) (hst : inf.size = st) (hz : p.cells = enc z) (hl : ∀ y, (enc y).length = st) (hlt : i < l.length) (k : J K ops false rest ⟨sl, (q, some (.sl e st (fr && fp) ((l.set i z).map enc))) :: ow, nx⟩ R) : J K ops false (o :: rest) ⟨sl, ow, nx⟩ R := by
  refine J.w ho hg hd hx hq hy hp hi hs ?_ k
  have h1 : Nat.beq st st = true := Nat.beq_refl st
  have hzl : (enc z).length = st := hl z
  have h2 : Nat.ble (0 + p.cells.length) (enc l[i]).length = true := by simp [hz, hl]
  have h3 : putCells (enc l[i]) 0 p.cells = enc z := by
    have := putCells_all p.cells [] (enc l[i]) (by simp [hz, hl])
    rw [hz] at this ⊢
    simpa using this
  have h4 : (l.map enc)[i]? = some (enc l[i]) := by simp [hlt]
  simp only [Own.put, h1, h4, h2, h3, List.map_set]
/-- A new variable with nothing in it. -/
theorem J.al {K : Ctx} {ops : Array Oper} {dr : Bool} {o : Oper} {rest : List Oper} {sl : List (Nat × SV)} {ow : List (Nat × Option Own)} {nx : Nat} {R : St → Prop} {d : Nat} {t : TypeId} {ps : List PV} {inf : TypeInfo} {z : Value}
    (ho : o.op = .alloc t) (hg : wants ops (St.mk sl ow nx).f o = some true) (hd : o.dst = some d) (hlt : K.can d = true) (hi : K.P.info? t = some inf) (hz : inf.zero = some z) (hps : zeroPVs z.cells.toList = some ps)
    (q : J K ops dr rest ⟨(d, .optr nx 0 0 0) :: sl, (nx, some (.box true ps)) :: ow, nx + 1⟩ R) : J K ops dr (o :: rest) ⟨sl, ow, nx⟩ R :=
  .does hg hd hlt (.alloc ho hi hz hps) q

/-- One more at the end of what is owned. -/
theorem J.a1 {K : Ctx} {ops : Array Oper} {o : Oper} {rest : List Oper} {sl : List (Nat × SV)} {ow : List (Nat × Option Own)} {nx : Nat} {R : St → Prop} {d : Nat} {args : Array Operand} {tys : Array TypeId} {s y : Operand} {t e : TypeId} {q sz : Nat} {fr fy : Bool} {α : Type} {enc : α → List PV} {l : List α} {x : α} {r : List PV} {sy : SV} {inf : TypeInfo} {z : Value} {B : Nat}
    (ho : o.op = .call { callee := .builtin .append, args := args, argTypes := tys }) (ha : args.toList = [s, y]) (ht : tys.toList = [t, t]) (hg : wants ops (St.mk sl ow nx).f o = some true) (hd : o.dst = some d) (hlt : K.can d = true)
    (hs : (St.mk sl ow nx).f.get s = some (.ref q)) (hq : (St.mk sl ow nx).f.own q = some (.sl e sz fr (l.map enc))) (hy : (St.mk sl ow nx).f.get y = some sy) (hp : (St.mk sl ow nx).f.pvf sy = some (fy, .sl [r]))
    (hu : K.P.underlying t = some (.slice e)) (hi : K.P.info? e = some inf) (hsz : inf.size = sz) (hz : inf.zero = some z) (hzs : z.cells.size = sz) (h0 : Nat.blt 0 sz = true) (hb1 : Nat.ble 1 inf.bytes = true) (hr : r.length = sz) (hB : inf.bytes = B)
    (hx : r = enc x) (hby : (l.length + 1) * B ≤ 140737488355328)
    (k : J K ops false rest ⟨(d, .ref nx) :: sl, (nx, some (.sl e sz (fr && fy) ((l ++ [x]).map enc))) :: (q, none) :: ow, nx + 1⟩ R) : J K ops false (o :: rest) ⟨sl, ow, nx⟩ R := by
  have h := J.a ho ha ht hg hd hlt hs hq hy hp hu hi hsz hz hzs h0 hb1 (one_len hr) (by rw [hB]; simpa using hby) (rest := rest) (R := R)
  rw [snoc1 hx.symm] at h
  exact h k
section
variable {K : Ctx} {ops : Array Oper} {o : Oper} {rest : List Oper} {sl : List (Nat × SV)} {ow : List (Nat × Option Own)} {nx : Nat} {R : St → Prop} {d : Nat} {args : Array Operand} {tys : Array TypeId} {s y : Operand} {t e : TypeId} {q : Nat} {fr fy : Bool} {r : List PV} {sy : SV} {inf : TypeInfo} {z : Value}
theorem J.aI {l : List Int} {x : Int}
    (ho : o.op = .call { callee := .builtin .append, args := args, argTypes := tys }) (ha : args.toList = [s, y]) (ht : tys.toList = [t, t]) (hg : wants ops (St.mk sl ow nx).f o = some true) (hd : o.dst = some d) (hlt : K.can d = true)
    (hs : (St.mk sl ow nx).f.get s = some (.ref q)) (hq : (St.mk sl ow nx).f.own q = some (.sl e 1 fr (l.map cI))) (hy : (St.mk sl ow nx).f.get y = some sy) (hp : (St.mk sl ow nx).f.pvf sy = some (fy, .sl [r]))
    (hu : K.P.underlying t = some (.slice e)) (hi : K.P.info? e = some inf) (hsz : inf.size = 1) (hz : inf.zero = some z) (hzs : z.cells.size = 1) (hb1 : Nat.ble 1 inf.bytes = true) (hr : r.length = 1) (hB : inf.bytes = 8)
    (hx : r = cI x) (hby : (l.length + 1) * 8 ≤ 140737488355328)
    (k : J K ops false rest ⟨(d, .ref nx) :: sl, (nx, some (.sl e 1 (fr && fy) ((l ++ [x]).map cI))) :: (q, none) :: ow, nx + 1⟩ R) : J K ops false (o :: rest) ⟨sl, ow, nx⟩ R :=
  J.a1 ho ha ht hg hd hlt hs hq hy hp hu hi hsz hz hzs rfl hb1 hr hB hx hby k
theorem J.aR {l : List (Int × Int)} {a b : Int}
    (ho : o.op = .call { callee := .builtin .append, args := args, argTypes := tys }) (ha : args.toList = [s, y]) (ht : tys.toList = [t, t]) (hg : wants ops (St.mk sl ow nx).f o = some true) (hd : o.dst = some d) (hlt : K.can d = true)
    (hs : (St.mk sl ow nx).f.get s = some (.ref q)) (hq : (St.mk sl ow nx).f.own q = some (.sl e 2 fr (l.map cR))) (hy : (St.mk sl ow nx).f.get y = some sy) (hp : (St.mk sl ow nx).f.pvf sy = some (fy, .sl [r]))
    (hu : K.P.underlying t = some (.slice e)) (hi : K.P.info? e = some inf) (hsz : inf.size = 2) (hz : inf.zero = some z) (hzs : z.cells.size = 2) (hb1 : Nat.ble 1 inf.bytes = true) (hr : r.length = 2) (hB : inf.bytes = 16)
    (hx : r = cR (a, b)) (hby : (l.length + 1) * 16 ≤ 140737488355328)
    (k : J K ops false rest ⟨(d, .ref nx) :: sl, (nx, some (.sl e 2 (fr && fy) ((l ++ [(a, b)]).map cR))) :: (q, none) :: ow, nx + 1⟩ R) : J K ops false (o :: rest) ⟨sl, ow, nx⟩ R :=
  J.a1 ho ha ht hg hd hlt hs hq hy hp hu hi hsz hz hzs rfl hb1 hr hB hx hby k
theorem J.aD {l : List (List (Int × Int))} {x : List (Int × Int)}
    (ho : o.op = .call { callee := .builtin .append, args := args, argTypes := tys }) (ha : args.toList = [s, y]) (ht : tys.toList = [t, t]) (hg : wants ops (St.mk sl ow nx).f o = some true) (hd : o.dst = some d) (hlt : K.can d = true)
    (hs : (St.mk sl ow nx).f.get s = some (.ref q)) (hq : (St.mk sl ow nx).f.own q = some (.sl e 1 fr (l.map cD))) (hy : (St.mk sl ow nx).f.get y = some sy) (hp : (St.mk sl ow nx).f.pvf sy = some (fy, .sl [r]))
    (hu : K.P.underlying t = some (.slice e)) (hi : K.P.info? e = some inf) (hsz : inf.size = 1) (hz : inf.zero = some z) (hzs : z.cells.size = 1) (hb1 : Nat.ble 1 inf.bytes = true) (hr : r.length = 1) (hB : inf.bytes = 24)
    (hx : r = cD x) (hby : (l.length + 1) * 24 ≤ 140737488355328)
    (k : J K ops false rest ⟨(d, .ref nx) :: sl, (nx, some (.sl e 1 (fr && fy) ((l ++ [x]).map cD))) :: (q, none) :: ow, nx + 1⟩ R) : J K ops false (o :: rest) ⟨sl, ow, nx⟩ R :=
  J.a1 ho ha ht hg hd hlt hs hq hy hp hu hi hsz hz hzs rfl hb1 hr hB hx hby k
end
/-- A list behind what is owned. -/
theorem J.am {K : Ctx} {ops : Array Oper} {o : Oper} {rest : List Oper} {sl : List (Nat × SV)} {ow : List (Nat × Option Own)} {nx : Nat} {R : St → Prop} {d : Nat} {args : Array Operand} {tys : Array TypeId} {s y : Operand} {t e : TypeId} {q sz : Nat} {fr fy : Bool} {α : Type} {enc : α → List PV} {l l2 : List α} {sy : SV} {inf : TypeInfo} {z : Value} {B : Nat}
    (ho : o.op = .call { callee := .builtin .append, args := args, argTypes := tys }) (ha : args.toList = [s, y]) (ht : tys.toList = [t, t]) (hg : wants ops (St.mk sl ow nx).f o = some true) (hd : o.dst = some d) (hlt : K.can d = true)
    (hs : (St.mk sl ow nx).f.get s = some (.ref q)) (hq : (St.mk sl ow nx).f.own q = some (.sl e sz fr (l.map enc))) (hy : (St.mk sl ow nx).f.get y = some sy) (hp : (St.mk sl ow nx).f.pvf sy = some (fy, .sl (l2.map enc)))
    (hu : K.P.underlying t = some (.slice e)) (hi : K.P.info? e = some inf) (hsz : inf.size = sz) (hz : inf.zero = some z) (hzs : z.cells.size = sz) (h0 : Nat.blt 0 sz = true) (hb1 : Nat.ble 1 inf.bytes = true) (hr : ∀ x, (enc x).length = sz) (hB : inf.bytes = B)
    (hby : (l.length + l2.length) * B ≤ 140737488355328)
    (k : J K ops false rest ⟨(d, .ref nx) :: sl, (nx, some (.sl e sz (fr && fy) ((l ++ l2).map enc))) :: (q, none) :: ow, nx + 1⟩ R) : J K ops false (o :: rest) ⟨sl, ow, nx⟩ R := by
  have h := J.a ho ha ht hg hd hlt hs hq hy hp hu hi hsz hz hzs h0 hb1 (fun r hr' => by obtain ⟨x, _, rfl⟩ := List.mem_map.1 hr'; exact hr x) (by rw [hB]; simpa using hby) (rest := rest) (R := R)
  rw [← List.map_append] at h
  exact h k
/-- Some of a list, from one place to another. -/
theorem J.s2 {K : Ctx} {ops : Array Oper} {dr : Bool} {o : Oper} {rest : List Oper} {sl : List (Nat × SV)} {ow : List (Nat × Option Own)} {nx : Nat} {R : St → Prop} {d : Nat} {α : Type} {enc : α → List PV} {l : List α} {t : TypeId} {x y1 y : Operand} {sx : SV} {fr fl fh : Bool} {e : TypeId} {inf : TypeInfo} {lo h : Int} {kl kh : IntKind} (m n : Nat)
    (ho : o.op = .slice t x (some y1) (some y) none) (hg : wants ops (St.mk sl ow nx).f o = some true) (hd : o.dst = some d) (hlt : K.can d = true)
    (hx : (St.mk sl ow nx).f.get x = some sx) (hr : sx.ff = some (fr, .sl (l.map enc))) (hu : K.P.underlying t = some (.slice e)) (hinf : K.P.info? e = some inf) (hy1 : (St.mk sl ow nx).f.get y1 = some (.val fl (.int kl lo))) (hy : (St.mk sl ow nx).f.get y = some (.val fh (.int kh h)))
    (h3 : ∀ z, (enc z).length = inf.size) (hl1 : lo = (m : Nat)) (hh : h = (n : Nat)) (hmn : m ≤ n) (hn : n ≤ l.length)
    (q : J K ops dr rest ⟨(d, .val fr (.sl (((l.take n).drop m).map enc))) :: sl, ow, nx⟩ R) : J K ops dr (o :: rest) ⟨sl, ow, nx⟩ R := by
  refine J.s (l := lo) (h := h) (fl := fl) (kl := kl) ho hg hd hlt hx hr hu hinf (.inr ⟨y1, rfl, hy1⟩) (.inr ⟨y, rfl, hy⟩) (by omega) (by omega) (by simp; omega) (fun r hr => ?_) ?_
  · obtain ⟨z, _, rfl⟩ := List.mem_map.1 hr
    exact h3 z
  · rw [hh, hl1]
    simpa [List.map_take, List.map_drop] using q

/-- The number of a list's element that is next stands below its length. -/
theorem lt_at {α β : Type} {f : α → β} {l pre post : List α} {x : α} {n : Nat} (h : l = pre ++ x :: post) (hn : n = pre.length) : decide ((n : Int) < ((l.map f).length : Nat)) = true := by
  subst h hn; simp; omega
theorem lt_end {α β : Type} {f : α → β} {l : List α} : decide ((l.length : Int) < ((l.map f).length : Nat)) = false := by simp
theorem at_lt {α : Type} {l pre post : List α} {x : α} {n : Nat} (h : l = pre ++ x :: post) (hn : n = pre.length) : n < l.length := by
  subst h hn; simp
theorem wrap1 {l n : Nat} (h : n < l) (hl : l * 8 ≤ 140737488355328) : IntKind.i64.wrap ((n : Int) + 1) = ((n + 1 : Nat) : Int) := by
  rw [wrap_id (by omega) (by omega)]; rfl
end Go.Proofs.Ytchajofdjeijfaa
