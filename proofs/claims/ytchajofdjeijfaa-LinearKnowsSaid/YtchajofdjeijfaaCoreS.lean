/- Contracts of functions that write into the list that is handed in first. -/
import Derived.Test.YtchajofdjeijfaaCoreR
import Derived.Scope
namespace Go.Proofs.Ytchajofdjeijfaa
open Go Go.RowKit
set_option linter.unusedVariables false
set_option linter.unusedSimpArgs false

def PV.rv (p : PV) : RV := .val p
/-- A CONTRACT of a function that writes into its first argument: a list of elements of type e; its rows then; flat results. -/
structure SpecM (P : Program) (f : FuncId) (e : TypeId) (sz : Nat) (rows : List (List PV)) (args : List PV) (rows' : List (List PV)) (res : List PV) : Prop where
  isFn : ∃ fn, P.funcs[f]? = some fn ∧ fn.body.isSome = true ∧ (fn.name == "runtime.NumGoroutine") = false
  flat : ∀ p ∈ res, p.flat = true
  out : ∀ (w : World) (Z1 : Nat → Prop) (v0 : Value) (vs : List Value), OwnRel w (fun _ => Z1) v0 (.sl e sz true rows) → (∀ b, Z1 b → vblock v0 ≠ some b) → L2 (Rep w (fun b => vblock v0 ≠ some b)) vs args →
    Calls P f (v0 :: vs).toArray w fun x w' => ∃ rs : List Value, x = .returned (retV rs) ∧ w'.os = w.os ∧ w'.tape = w.tape ∧ w'.output = w.output ∧ w.heap.size ≤ w'.heap.size ∧ (∀ b, b < w.heap.size → vblock v0 ≠ some b → w'.heap[b]? = w.heap[b]?) ∧
      OwnRel w' (fun _ b => (Z1 b ∨ w.heap.size ≤ b) ∧ vblock v0 ≠ some b) v0 (.sl e sz true rows') ∧ L2 (Rep w' (fun _ => False)) rs res

/-- The state at the begin: the list, then the others. -/
def initM (e : TypeId) (sz : Nat) (rows : List (List PV)) (args : List PV) : St := ⟨(0, .ref 0) :: initSl 1 args, [(0, some (.sl e sz true rows))], 1⟩
/-- How a body ends: the list, the results. -/
def FinM (P : Program) (fn : Func) (e : TypeId) (sz : Nat) (rows' : List (List PV)) (res : List PV) (x : Exit) (E : St) : Prop :=
  match x with
  | .normal | .ret => Ret P E.f true fn.results.toList (res.map .val) [] ∧ ∃ q, E.f.slot 0 = some (.ref q) ∧ E.f.own q = some (.sl e sz true rows')
  | _ => False
def Ctx.ofM (P : Program) (w0 : World) (v0 : Value) (Z1 : Nat → Prop) (n : Nat) : Ctx := ⟨P, w0, fun b => vblock v0 ≠ some b, fun b => vblock v0 = some b, n, fun b => w0.heap.size ≤ b ∨ Z1 b, fun _ h => .inl h, 1, [v0]⟩

theorem retM_sound {K : Ctx} {E : EnvF} {U : Nat → Prop} {φ : Nat → Value} {a : Act} {w : World} (h : RelW K E U φ a w) : ∀ {rs : List ResultVar} {res : List PV}, Ret K.P E true rs (res.map .val) [] → (∀ p ∈ res, p.flat = true) →
    ∃ ws : List Value, (rs.mapM (resOf a.tmps)).run K.P w = .ok ws w ∧ L2 (Rep w (fun _ => False)) ws res
  | [], [], _, _ => ⟨[], rfl, .nil⟩
  | _ :: rs, p :: res, hr, hf => by
    have hstep : ∀ {t : ResultVar}, (∃ v, (resOf a.tmps t).run K.P w = .ok v w ∧ ∃ Z, Rep w Z v p) → Ret K.P E true rs (res.map .val) [] → ∃ ws : List Value, ((t :: rs).mapM (resOf a.tmps)).run K.P w = .ok ws w ∧ L2 (Rep w (fun _ => False)) ws (p :: res) := by
      rintro t ⟨v, hv, Z, hrep⟩ hrest
      obtain ⟨ws, h1, h2⟩ := retM_sound h hrest fun p hp => hf p (.tail _ hp)
      refine ⟨v :: ws, ?_, .cons (hrep.flat (hf p (.head _))) h2⟩
      simp only [List.mapM_cons, Sem.run_bind, hv, Result.andThen_ok, h1, Sem.run_pure]
    cases hr with
    | @val t sv fr _ _ _ _ hs hff _ hrest =>
      refine hstep ?_ hrest
      have hx : E.get (.tmp t) = some sv := hs
      have hrep := ff_sound h hx hff
      exact ⟨_, by simp only [resOf, Sem.run_pure]; rfl, _, hrep⟩
    | @cell t ty q fr row _ _ _ _ hs hq hp _ hrest =>
      refine hstep ?_ hrest
      obtain ⟨v, hv, g, hg, e⟩ := h.slot t _ hs
      have hat : (Own.box fr row).at_ 0 0 0 = some (fr, row) := rfl
      have hc := own_cells (h.own q _ hq) hat hg
      obtain ⟨u, hu, hrep⟩ := load_sound hc hp
      refine ⟨u, ?_, _, hrep⟩
      have e2 : a.tmps.getD t undef = .pointer (some ⟨g, 0, none⟩) := by
        simp [Array.getD_eq_getD_getElem?, hv, e]
      simp only [resOf, e2, asAddr, Sem.run_bind, Sem.run_pure, Result.andThen_ok]
      simpa [Instr.loadAt, Instr.sureAddr] using hu
  | [], _ :: _, hr, _ => by cases hr
  | _ :: _, [], hr, _ => by cases hr

/-- A CONTRACT OUT OF A BODY. -/
theorem SpecM.body {P : Program} {f : FuncId} {fn : Func} {c : Code} {e : TypeId} {sz : Nat} {rows rows' : List (List PV)} {args res : List PV} (hf : P.funcs[f]? = some fn) (hb : fn.body = some c) (hn : (fn.name == "runtime.NumGoroutine") = false) (hl : Nat.ble (args.length + 1) fn.ntmps = true)
    (hflat : ∀ p ∈ res, p.flat = true) (h : ∀ w0 v0 Z1, T (Ctx.ofM P w0 v0 Z1 fn.ntmps) c (initM e sz rows args) (FinM P fn e sz rows' res)) : SpecM P f e sz rows args rows' res := by
  refine ⟨⟨fn, hf, by rw [hb]; rfl, hn⟩, hflat, fun w Z1 v0 vs hown hz1 hvs => ?_⟩
  have hle := Nat.le_of_ble_eq_true hl
  have hvl := hvs.length
  refine calls_of_wp hf hb ?_
  have hsl0 : ∀ s sv, lk ((0, SV.ref 0) :: initSl 1 args) s = some sv → (s = 0 ∧ sv = .ref 0) ∨ ∃ j p, s = 1 + j ∧ args[j]? = some p ∧ sv = .val false p := by
    intro s sv hs
    rw [lk_cons] at hs
    by_cases e0 : 0 = s
    · rw [if_pos e0] at hs; exact .inl ⟨e0.symm, (Option.some.inj hs).symm⟩
    · rw [if_neg e0] at hs; exact .inr (lk_init args 1 s sv hs)
  have hown0 : ∀ o c, (initM e sz rows args).f.own o = some c → o = 0 ∧ c = .sl e sz true rows := by
    intro o c ho
    simp only [initM, St.f, lk_cons] at ho
    by_cases e0 : 0 = o
    · rw [if_pos e0] at ho; exact ⟨e0.symm, (Option.some.inj ho).symm⟩
    · rw [if_neg e0] at ho; simp [lk] at ho
  have hrel : Rel (Ctx.ofM P w v0 Z1 fn.ntmps) (initM e sz rows args) { tmps := (v0 :: vs).toArray ++ Array.replicate (fn.ntmps - (v0 :: vs).toArray.size) undef, defers := [] } w := by
    have ht : ∀ (j : Nat) v, (v0 :: vs)[j]? = some v → ((v0 :: vs).toArray ++ Array.replicate (fn.ntmps - (v0 :: vs).toArray.size) undef)[j]? = some v := by
      intro j v hv
      have hj : j < (v0 :: vs).length := (List.getElem?_eq_some_iff.1 hv).1
      rw [Array.getElem?_append_left (by simpa using hj)]
      simpa using hv
    have hZ : ∀ b, vblock v0 ≠ some b → Zf (Ctx.ofM P w v0 Z1 fn.ntmps) (initM e sz rows args).f (fun _ => v0) false b := fun b hb => ⟨⟨.inr hb, fun o c ho => hb⟩, fun e => by cases e⟩
    have hZ1 : ∀ b, Z1 b → Zf (Ctx.ofM P w v0 Z1 fn.ntmps) (initM e sz rows args).f (fun _ => v0) true b := fun b hb => ⟨⟨.inr (hz1 b hb), fun o c ho => hz1 b hb⟩, fun _ => .inr hb⟩
    refine ⟨fun _ => v0, rfl, ?_, ?_, ⟨rfl, rfl, rfl, Nat.le_refl _, fun _ _ _ => rfl⟩, ?_, ?_, ?_, ?_, ?_, ?_⟩
    · simp [Ctx.ofM]; omega
    · intro s v hs hv
      have hs : s < 1 := hs
      obtain rfl : s = 0 := by omega
      have hv : [v0][0]? = some v := hv
      exact ht 0 v (by simpa using hv)
    · intro o c ho
      obtain ⟨rfl, rfl⟩ := hown0 o c ho
      exact OwnRel.mono (Z := fun _ => Z1) (c := .sl e sz true rows) hown (fun _ _ => rfl) fun f b hb _ => ⟨by
        obtain ⟨h1, h2⟩ := hZ1 b hb
        exact ⟨h1, fun _ => h2 rfl⟩, rfl⟩
    · intro o c g ho hg
      exact .inr hg
    · intro o c ho
      obtain ⟨rfl, _⟩ := hown0 o c ho
      exact Nat.zero_lt_one
    · intro o o' c c' g ho ho' _ _
      rw [(hown0 o c ho).1, (hown0 o' c' ho').1]
    · intro s sv hs
      rcases hsl0 s sv hs with ⟨rfl, rfl⟩ | ⟨j, p, rfl, hp, rfl⟩
      · exact ⟨v0, ht 0 v0 rfl, rfl⟩
      · obtain ⟨v, hv, hr⟩ := hvs.get hp
        exact ⟨v, ht (1 + j) v (by rw [Nat.add_comm]; simpa using hv), Rep.mono (fun b hb _ => ⟨hZ b hb, rfl⟩) hr⟩
    · intro s sv hs
      rcases hsl0 s sv hs with ⟨rfl, rfl⟩ | ⟨j, p, rfl, hp, rfl⟩
      · exact Nat.zero_lt_one
      · trivial
  refine wp_mono ((h w v0 Z1).out _ w hrel) fun x a w' ⟨hfe, E, hq, φ, hφ⟩ => ?_
  have key : (Ret P E.f true fn.results.toList (res.map .val) [] ∧ ∃ q, E.f.slot 0 = some (.ref q) ∧ E.f.own q = some (.sl e sz true rows')) → a.defers = [] ∧ ∃ v, (results fn a.tmps).run P w' = .ok v w' ∧ ∃ rs : List Value, Ending.returned v = .returned (retV rs) ∧
      w'.os = w.os ∧ w'.tape = w.tape ∧ w'.output = w.output ∧ w.heap.size ≤ w'.heap.size ∧ (∀ b, b < w.heap.size → vblock v0 ≠ some b → w'.heap[b]? = w.heap[b]?) ∧
      OwnRel w' (fun _ b => (Z1 b ∨ w.heap.size ≤ b) ∧ vblock v0 ≠ some b) v0 (.sl e sz true rows') ∧ L2 (Rep w' (fun _ => False)) rs res := by
    rintro ⟨hret, q, hq1, hq2⟩
    obtain ⟨ws, h1, h2⟩ := retM_sound hφ hret hflat
    have hk := hφ.kept
    have hold := hφ.old 0 v0 Nat.zero_lt_one rfl
    obtain ⟨v, hv, hvr⟩ := hφ.slot 0 _ hq1
    have hv0 : φ q = v0 := by
      have hvr : v = φ q := hvr
      rw [hold] at hv
      rw [← hvr]
      exact (Option.some.inj hv).symm
    refine ⟨hφ.df, retV ws, ?_, ws, rfl, hk.os, hk.tape, hk.output, hk.size, fun b hb hne => hk.block b hb hne, ?_, h2⟩
    · have e : results fn a.tmps = (do let vs ← fn.results.mapM (resOf a.tmps); pure (if h : vs.size = 1 then vs[0] else .tuple vs)) := by
        unfold results
        congr
      have h1' : (fn.results.toList.mapM (resOf a.tmps)).run P w' = .ok ws w' := h1
      rw [e, Array.mapM_eq_mapM_toList]
      simp only [Sem.run_bind, Sem.run_map, h1', Result.andThen_ok]
      cases ws with
      | nil => rfl
      | cons v ws => cases ws with
        | nil => rfl
        | cons v' ws => rfl
    · have ho := hφ.own q _ hq2
      rw [hv0] at ho
      obtain ⟨xs, hwn, hl2, h5, h6⟩ := ho
      refine ⟨xs, hwn, Rep.monoL (fun b hb _ => ⟨⟨?_, ?_⟩, rfl⟩) hl2, h5, h6⟩
      · exact (hb.2 rfl).elim .inr .inl
      · have := hb.1.2 q _ hq2
        rwa [hv0] at this
  cases x with
  | normal => exact key hq
  | ret => exact key hq
  | exit id => exact hq.elim
  | goto l => exact hq.elim
  | panic ch => simp [fine] at hfe
  | outgrown => simp [fine] at hfe

section
variable {K : Ctx} {V : EnvF} {U : Nat → Prop} {φ : Nat → Value} {a : Act} {w : World}
theorem pv_repQ (h : RelW K V U φ a w) {q : Nat} {c0 : Own} (hq0 : V.own q = some c0) {x : Operand} {sv : SV} {p : PV} (hx : V.get x = some sv) (hp : V.pv sv = some p) (hn : nr q (some sv) = true) : Rep w (fun b => vblock (φ q) ≠ some b) (a.eval x) p := by
  obtain ⟨hr, _⟩ := get_sound h hx
  have hZ : ∀ f b, Zf K V φ f b → vblock (φ q) ≠ some b := fun f b hb => hb.1.2 q c0 hq0
  cases sv with
  | val f p' => simp only [EnvF.pv, Option.some.injEq] at hp; subst hp; exact Rep.mono (fun b hb _ => ⟨hZ f b hb, rfl⟩) hr
  | fix u p' => simp only [EnvF.pv, Option.some.injEq] at hp; subst hp; exact Rep.mono (fun b hb _ => ⟨hZ false b hb, rfl⟩) hr.2
  | nilsl => simp only [EnvF.pv, Option.some.injEq] at hp; subst hp; simp only [SVRel, SVRel1] at hr; rw [hr]; exact .nilsl
  | ref o =>
    have hne : o ≠ q := by simpa [nr] using hn
    simp only [EnvF.pv] at hp
    split at hp
    · rename_i e sz fr rows ho
      obtain rfl := Option.some.inj hp
      simp only [SVRel, SVRel1] at hr
      rw [hr]
      obtain ⟨xs, hown, hl, h1, h2⟩ := h.own o _ ho
      have hl' : L2 (Rep w (fun b => vblock (φ q) ≠ some b)) xs rows.flatten := Rep.monoL (fun b hb _ => ⟨hZ fr b hb, rfl⟩) hl
      have hlt := hown.lt
      have hcell := fun g hg => hown.cells (g := g) hg
      rcases hown.2 with ⟨hv, hn⟩ | ⟨g, cap, cur, hv, _, hg, hnc, hcm, _⟩
      · rw [hv]
        have : rows = [] := List.eq_nil_of_length_eq_zero hn
        subst this
        exact .nilsl
      · have hbl : vblock (φ o) = some g := by rw [hv]; rfl
        rw [hv] at hcell hlt ⊢
        refine .sl g 0 cap sz rows xs (fun e => hne (h.dis o q _ _ g ho hq0 hbl e)) (hlt g rfl).2 h1 h2 (fun j v hj => ?_) hnc hcm hl'
        have := hcell g rfl j v hj
        rw [add_addr] at this
        exact soft_row hg this
    · cases hp
  | _ => simp [EnvF.pv] at hp
theorem argsQ (h : RelW K V U φ a w) {q : Nat} {c0 : Own} (hq0 : V.own q = some c0) : ∀ (xs : List Operand) (ps : List PV), argPVs V false xs = some ps → (xs.all fun y => nr q (V.get y)) = true → L2 (Rep w (fun b => vblock (φ q) ≠ some b)) (xs.map a.eval) ps
  | [], ps, hp, _ => by simp only [argPVs, Option.some.injEq] at hp; subst hp; exact .nil
  | x :: rest, ps, hp, hn => by
    simp only [List.all_cons, Bool.and_eq_true] at hn
    simp only [argPVs] at hp
    split at hp
    · rename_i p l hx hl
      obtain rfl := Option.some.inj hp
      refine .cons ?_ (argsQ h hq0 rest l hl hn.2)
      simp only [argPV] at hx
      split at hx
      · rename_i sv hsv
        rw [hsv] at hn
        exact pv_repQ h hq0 hsv hx hn.1
      · cases hx
    · cases hp
theorem vals_flat : ∀ (res : List PV) (vs : List Value), RV.vals (res.map RV.val) vs = []
  | [], _ => by simp [RV.vals]
  | p :: res, [] => by simp [RV.vals]
  | p :: res, v :: vs => by simpa [RV.vals] using vals_flat res vs
theorem owns_flat (fr : Bool) : ∀ (res : List PV), RV.owns fr (res.map RV.val) = []
  | [] => rfl
  | p :: res => owns_flat fr res
end

/-- A call of a function that writes into the list that is handed in first. -/
theorem J.cm {K : Ctx} {ops : Array Oper} {o : Oper} {rest : List Oper} {sl : List (Nat × SV)} {ow : List (Nat × Option Own)} {nx : Nat} {R : St → Prop} {d : Nat} {x x0 : Operand} {xs : List Operand} {args : Array Operand} {tys : Array TypeId} {f : FuncId} {fx fr : Bool} {q sz : Nat} {e : TypeId} {rows rows' rows2 : List (List PV)} {ps ps' res : List PV}
    (ho : o.op = .call { callee := .value x, args := args, argTypes := tys }) (hg : wants ops (St.mk sl ow nx).f o = some true) (hd : o.dst = some d) (hlt : K.can d = true) (hx : (St.mk sl ow nx).f.get x = some (.val fx (.fn (.func f) [] []))) (ha : args.toList = x0 :: xs)
    (h0 : (St.mk sl ow nx).f.get x0 = some (.ref q)) (hq : (St.mk sl ow nx).f.own q = some (.sl e sz fr rows2)) (hne : (xs.all fun y => nr q ((St.mk sl ow nx).f.get y)) = true) (hspec : SpecM K.P f e sz rows ps' rows' res) (hrw : rows2 = rows) (hps : argPVs (St.mk sl ow nx).f false xs = some ps) (hpe : ps = ps')
    (k : J K ops false rest ⟨(d, RV.one true nx (res.map .val)) :: sl, (q, some (.sl e sz fr rows')) :: ow, nx⟩ R) : J K ops false (o :: rest) ⟨sl, ow, nx⟩ R := by
  subst hrw hpe
  refine ⟨TO.mk fun a w Q hr hQ => ?_⟩
  obtain ⟨φ, hφ⟩ := hr
  unfold wpList
  rw [if_pos (wants_sound hφ hg)]
  refine .inl ?_
  obtain ⟨hrf, _⟩ := get_sound hφ hx
  generalize hvx : a.eval x = vx at hrf
  cases hrf with
  | fn _ vs us _ _ hf hc =>
  cases hf
  cases hc
  obtain ⟨fn, hfn, hbody, hname⟩ := hspec.isFn
  obtain ⟨hr0, _⟩ := get_sound hφ h0
  have hr0 : a.eval x0 = φ q := hr0
  have hrun : (execOp a.eval o).run K.P w = .ok (.enter f (φ q :: xs.map a.eval).toArray) w := by
    have hb : fn.body.isNone = false := by cases hfb : fn.body <;> simp_all
    simp only [execOp, ho, resolve, hvx, Deferred.ofValue, Sem.run_bind, Sem.run_pure, Result.andThen_ok, invoke, callFunc, run_program, hfn, hname, hb, Bool.false_eq_true, if_false]
    congr 2
    apply Array.ext'
    simp [ha, hr0]
  unfold Oper.wp
  rw [hrun]
  have hoq := hφ.own q _ hq
  refine (hspec.out w (Zf K (St.mk sl ow nx).f φ fr) (φ q) (xs.map a.eval) hoq (fun b hb => hb.1.2 q _ hq) (argsQ hφ hq xs ps hps hne)).mono ?_
  rintro _ w' ⟨rs, rfl, hos, htape, hout, hsize, hblk, hown', hres⟩
  let V' : EnvF := ⟨(St.mk sl ow nx).f.slot, fun i => if i = q then some (.sl e sz fr rows') else (St.mk sl ow nx).f.own i⟩
  have hrel : RelW K V' (· < nx) φ a w' := by
    refine hφ.step (fun b => vblock (φ q) = some b) (fun i => i = q) rfl (fun _ hu => hu) (fun _ _ => rfl) hos htape hout hsize (fun b hb hne => hblk b hb hne) ?_ ?_ ?_ ?_
    · intro b _ hb
      exact ⟨q, _, hq, hb, rfl⟩
    · intro i c hi hne
      simpa [V', hne] using hi
    · intro i c hi hie
      subst hie
      simp only [V', if_pos, Option.some.injEq] at hi
      subst hi
      refine ⟨hφ.inU i _ hq, ?_, fun g hg => .inr ⟨i, _, hq, hg, rfl⟩⟩
      obtain ⟨xs', hwn, hl, h1, h2⟩ := hown'
      refine ⟨xs', hwn, Rep.monoL (fun b hb _ => ⟨?_, rfl⟩) hl, h1, h2⟩
      obtain ⟨hb1, hb2⟩ := hb
      refine ⟨⟨?_, fun j c hj hv => ?_⟩, fun hfr => ?_⟩
      · rcases hb1 with hb1 | hb1
        · exact hb1.1.1
        · exact .inl (Nat.le_trans hφ.kept.size hb1)
      · by_cases e : j = i
        · subst e; exact hb2 hv
        · simp only [V', if_neg e] at hj
          rcases hb1 with hb1 | hb1
          · exact hb1.1.2 j c hj hv
          · have := (hφ.own j c hj).lt hv; omega
      · rcases hb1 with hb1 | hb1
        · exact hb1.2 hfr
        · exact K.hF _ (Nat.le_trans hφ.kept.size hb1)
    · intro i i' c c' g _ _ h1 h2 _ _
      rw [h1, h2]
  have heach : L2 (RV1 w' (Zf K V' φ true)) rs (res.map .val) := by
    clear hQ k hrun hspec
    induction hres with
    | nil => exact .nil
    | cons h1 _ ih => exact .cons (Rep.mono (fun b hb _ => hb.elim) h1) ih
  obtain ⟨h1, h2⟩ := svs_sound (U := (· < nx)) (Z := Zf K V' φ) (res.map .val) rs nx φ heach (fun i v hi => by rw [vals_flat] at hi; simp at hi) (fun i hi => by rw [owns_flat] at hi; simp at hi)
  obtain ⟨h3, h4⟩ := one_sound h1 h2
  refine (k.out).out _ _ Q ⟨φ, ?_⟩ hQ
  rw [hd]
  refine hrel.put hlt h3 h4 ?_ slot_put
  funext i
  simp only [V', St.f, lk_cons]
  by_cases e : q = i
  · subst e; simp
  · rw [if_neg e, if_neg (Ne.symm e)]

section
variable {K : Ctx} {V : EnvF} {U : Nat → Prop} {φ : Nat → Value} {a : Act} {w : World}
/-- Arguments all of which are fresh. -/
def ttList (V : EnvF) : List Operand → Option (List PV)
  | [] => some []
  | x :: rest => match V.get x, ttList V rest with
    | some sv, some l => match sv.ff with
      | some (true, p) => some (p :: l)
      | _ => none
    | _, _ => none
theorem tt_sound (h : RelW K V U φ a w) : ∀ (xs : List Operand) (ps : List PV), ttList V xs = some ps → L2 (Rep w (Zf K V φ true)) (xs.map a.eval) ps
  | [], ps, hp => by simp only [ttList, Option.some.injEq] at hp; subst hp; exact .nil
  | x :: rest, ps, hp => by
    simp only [ttList] at hp
    split at hp
    · rename_i sv l hx hl
      split at hp
      · rename_i p hff
        obtain rfl := Option.some.inj hp
        exact .cons (ff_sound h hx hff) (tt_sound h rest l hl)
      · cases hp
    · cases hp
end
/-- A call whose answer may share memory with its arguments, all of which are fresh: so is the answer. -/
theorem J.ct {K : Ctx} {ops : Array Oper} {o : Oper} {rest : List Oper} {sl : List (Nat × SV)} {ow : List (Nat × Option Own)} {nx : Nat} {R : St → Prop} {d : Nat} {x : Operand} {args : Array Operand} {tys : Array TypeId} {f : FuncId} {fx : Bool} {ps ps' res : List PV}
    (ho : o.op = .call { callee := .value x, args := args, argTypes := tys }) (hg : wants ops (St.mk sl ow nx).f o = some true) (hd : o.dst = some d) (hlt : K.can d = true) (hx : (St.mk sl ow nx).f.get x = some (.val fx (.fn (.func f) [] [])))
    (hspec : Spec K.P f true ps' (res.map .val)) (hps : ttList (St.mk sl ow nx).f args.toList = some ps) (hpe : ps = ps')
    (k : J K ops false rest ⟨(d, RV.one true nx (res.map .val)) :: sl, ow, nx⟩ R) : J K ops false (o :: rest) ⟨sl, ow, nx⟩ R := by
  subst hpe
  refine ⟨TO.mk fun a w Q hr hQ => ?_⟩
  obtain ⟨φ, hφ⟩ := hr
  unfold wpList
  rw [if_pos (wants_sound hφ hg)]
  refine .inl ?_
  obtain ⟨hrf, _⟩ := get_sound hφ hx
  generalize hvx : a.eval x = vx at hrf
  cases hrf with
  | fn _ vs us _ _ hf hc =>
  cases hf
  cases hc
  obtain ⟨fn, hfn, hbody, hname⟩ := hspec.isFn
  have hrun : (execOp a.eval o).run K.P w = .ok (.enter f (args.toList.map a.eval).toArray) w := by
    have hb : fn.body.isNone = false := by cases hfb : fn.body <;> simp_all
    simp only [execOp, ho, resolve, hvx, Deferred.ofValue, Sem.run_bind, Sem.run_pure, Result.andThen_ok, invoke, callFunc, run_program, hfn, hname, hb, Bool.false_eq_true, if_false]
    congr 2
    apply Array.ext'
    simp
  unfold Oper.wp
  rw [hrun]
  refine (hspec.out w (Zf K (St.mk sl ow nx).f φ true) _ (tt_sound hφ _ _ hps)).mono ?_
  rintro _ w' ⟨rs, rfl, hb, hret⟩
  have hrel := hφ.world hb
  have hmono : ∀ (Z Z' : Nat → Prop), (∀ b, Z b → Z' b) → ∀ (res : List PV) (rs : List Value), L2 (RV1 w' Z) rs (res.map RV.val) → L2 (RV1 w' Z') rs (res.map RV.val) := by
    intro Z Z' hz res
    induction res with
    | nil => intro rs h; cases h; exact .nil
    | cons p res ih =>
      intro rs h
      cases h with
      | cons h1 h2 => exact .cons (Rep.mono (fun b hb _ => ⟨hz b hb, rfl⟩) h1) (ih _ h2)
  have heach : L2 (RV1 w' (Zf K (St.mk sl ow nx).f φ true)) rs (res.map .val) := by
    refine hmono _ _ (fun b hb => ?_) res rs hret.each
    obtain ⟨hb1, _⟩ := hb
    rcases hb1 with ⟨_, hb1⟩ | hb1
    · exact hb1
    · refine ⟨⟨.inl (Nat.le_trans hφ.kept.size hb1), fun j c hj hv => ?_⟩, fun _ => K.hF _ (Nat.le_trans hφ.kept.size hb1)⟩
      have := (hφ.own j c hj).lt hv
      omega
  obtain ⟨h1, h2⟩ := svs_sound (U := (· < nx)) (Z := Zf K (St.mk sl ow nx).f φ) (res.map .val) rs nx φ heach (fun i v hi => by rw [vals_flat] at hi; simp at hi) (fun i hi => by rw [owns_flat] at hi; simp at hi)
  obtain ⟨h3, h4⟩ := one_sound h1 h2
  refine (k.out).out _ _ Q ⟨φ, ?_⟩ hQ
  rw [hd]
  exact hrel.put hlt h3 h4 rfl slot_put

/-- The same in a region that draws its order. -/
theorem J.wd1 {K : Ctx} {ops : Array Oper} {o : Oper} {rest : List Oper} {sl : List (Nat × SV)} {ow : List (Nat × Option Own)} {nx : Nat} {R : St → Prop} {α : Type} {enc : α → List PV} {l : List α} {z : α} {t e : TypeId} {x y : Operand} {q i st : Nat} {fr : Bool} {sy : SV} {fp : Bool} {p : PV} {inf : TypeInfo}
    (ho : o.op = .store t x y) (hg : wants ops (St.mk sl ow nx).f o = some true) (hd : o.dst = none) (hx : (St.mk sl ow nx).f.get x = some (.optr q i 0 st)) (hq : (St.mk sl ow nx).f.own q = some (.sl e st fr (l.map enc))) (hy : (St.mk sl ow nx).f.get y = some sy) (hp : sy.ff = some (fp, p))
    (hi : K.P.info? t = some inf) (hs : p.cells.length = inf.size) (hst : inf.size = st) (hz : p.cells = enc z) (hl : ∀ y, (enc y).length = st) (hlt : i < l.length) (k : J K ops true rest ⟨sl, (q, some (.sl e st (fr && fp) ((l.set i z).map enc))) :: ow, nx⟩ R) : J K ops true (o :: rest) ⟨sl, ow, nx⟩ R := by
  refine J.wd ho hg hd hx hq hy hp hi hs ?_ k
  have h1 : Nat.beq st st = true := Nat.beq_refl st
  have hzl : (enc z).length = st := hl z
  have h2 : Nat.ble (0 + p.cells.length) (enc l[i]).length = true := by simp [hz, hl]
  have h3 : putCells (enc l[i]) 0 p.cells = enc z := by
    have := putCells_all p.cells [] (enc l[i]) (by simp [hz, hl])
    rw [hz] at this ⊢
    simpa using this
  have h4 : (l.map enc)[i]? = some (enc l[i]) := by simp [hlt]
  simp only [Own.put, h1, h4, h2, h3, List.map_set]

/-- A piece of code that no goto leaves. -/
theorem T.scope {K : Ctx} {c : Code} {E : St} {Q : Exit → St → Prop} (hg : ∀ l E, ¬ Q (.goto l) E) (h : T K c E Q) : T K (.scope c) E Q :=
  ⟨fun a w hr => wp_scope_straight (wp_mono (h.out a w hr) fun e a w hl => by
    cases e with
    | goto l => obtain ⟨_, E', hq, _⟩ := hl; exact (hg l E' hq).elim
    | _ => exact hl)⟩
end Go.Proofs.Ytchajofdjeijfaa
