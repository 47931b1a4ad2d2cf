/- Judgements on code, contracts out of bodies. -/
import Derived.Test.YtchajofdjeijfaaCoreH
namespace Go.Proofs.Ytchajofdjeijfaa
open Go Go.RowKit
set_option linter.unusedVariables false
set_option linter.unusedSimpArgs false

def fine : Exit → Bool
  | .panic _ | .outgrown => false
  | _ => true

def lift (K : Ctx) (Q : Exit → St → Prop) (e : Exit) (a : Act) (w : World) : Prop := fine e = true ∧ ∃ E, Q e E ∧ Rel K E a w

/-- Code, from state E on, ends as Q tells. -/
structure T (K : Ctx) (c : Code) (E : St) (Q : Exit → St → Prop) : Prop where
  out : ∀ (a : Act) (w : World), Rel K E a w → c.wp K.P (lift K Q) a w

def sq (K : Ctx) (b : Code) (Q : Exit → St → Prop) : Exit → St → Prop
  | .normal, E => T K b E Q
  | e, E => Q e E
def bk (id : Nat) (Q : Exit → St → Prop) : Exit → St → Prop
  | .exit i, E => match Nat.beq i id with
    | true => Q .normal E
    | false => Q (.exit i) E
  | e, E => Q e E
def lp (K : Ctx) (c : Code) (Q : Exit → St → Prop) : Exit → St → Prop
  | .normal, E => T K (.loop c) E Q
  | e, E => Q e E

theorem exitTo_len (id : Nat) : ∀ (k k' : List Item), exitTo id k = some k' → k'.length ≤ k.length
  | [], k', h => by simp [exitTo] at h
  | x :: k, k', h => by
    have ih := exitTo_len id k k'
    cases x with
    | inBlock i =>
      simp only [exitTo] at h
      split at h
      · obtain rfl := Option.some.inj h; simp
      · have := ih h; simp; omega
    | _ => simp only [exitTo] at h; have := ih h; simp; omega

theorem steps_behind {P : Program} {m m1 m' : Machine} (h1 : step P m = .next m1) (h : Steps P m m') (hne : m ≠ m') : Steps P m1 m' := by
  obtain ⟨n, hn⟩ := h
  cases n with
  | zero => simp [runN] at hn; exact absurd hn hne
  | succ n => simp only [runN, h1] at hn; exact ⟨n, hn⟩

theorem lone_todo {fr fr' : Frame} {cs cs' : List Frame} {w w' : World} (h : lone fr cs w = lone fr' cs' w') : fr = fr' := by
  simp only [lone, Machine.mk.injEq] at h
  have h2 := h.2.1
  have := congrArg (fun (a : Array Goroutine) => a[0]?) h2
  simp at this
  exact this.1

theorem wp_loop_unroll {P : Program} {c : Code} {Q : Exit → Act → World → Prop} {a : Act} {w : World} (hQ : ∀ e a w, Q e a w → fine e = true ∧ ∀ l, e ≠ .goto l)
    (h : c.wp P (Exit.then ((Code.loop c).wp P Q) Q) a w) : (Code.loop c).wp P Q a w := by
  intro b k cs
  obtain ⟨e, a1, w1, hq, harr⟩ := h b (.inLoop c :: k) cs
  cases e with
  | normal =>
    obtain ⟨e2, a2, w2, hq2, harr2⟩ := hq b k cs
    obtain ⟨hf, hng⟩ := hQ e2 a2 w2 hq2
    refine ⟨e2, a2, w2, hq2, .of_steps (.head step_loop (Steps.trans harr (.one step_inLoop))) ?_⟩
    have hst : step P (lone (b.at a1 (.code (.loop c) :: k)) cs w1) = .next (lone (b.at a1 (.code c :: .inLoop c :: k)) cs w1) := step_loop
    cases e2 with
    | normal =>
      refine steps_behind hst harr2 fun e => ?_
      have := congrArg (fun f : Frame => f.todo.length) (lone_todo e)
      simp [Frame.at] at this
    | exit id =>
      intro k' hk
      refine steps_behind hst (harr2 k' hk) fun e => ?_
      have h1 := congrArg (fun f : Frame => f.todo.length) (lone_todo e)
      have h2 := exitTo_len id k k' hk
      simp [Frame.at] at h1
      omega
    | goto l => exact absurd rfl (hng l)
    | ret =>
      obtain ⟨todo, hs⟩ := harr2
      refine ⟨todo, steps_behind hst hs fun e => ?_⟩
      have h1 := congrArg (fun f : Frame => f.mode) (lone_todo e)
      simp [Frame.at] at h1
    | panic ch => simp [fine] at hf
    | outgrown => simp [fine] at hf
  | exit id => exact ⟨_, a1, w1, hq, .of_steps (.one step_loop) (.pass (x := .inLoop c) rfl (fun _ _ => .inl (by simp)) harr)⟩
  | goto l => exact ⟨_, a1, w1, hq, .of_steps (.one step_loop) (.pass (x := .inLoop c) rfl (fun _ _ => .inl (by simp)) harr)⟩
  | ret => exact ⟨_, a1, w1, hq, .of_steps (.one step_loop) (.pass (x := .inLoop c) rfl (fun _ _ => .inl (by simp)) harr)⟩
  | panic ch => exact ⟨_, a1, w1, hq, .of_steps (.one step_loop) (.pass (x := .inLoop c) rfl (fun _ _ => .inl (by simp)) harr)⟩
  | outgrown => exact ⟨_, a1, w1, hq, .of_steps (.one step_loop) (.pass (x := .inLoop c) rfl (fun _ _ => .inl (by simp)) harr)⟩

section
variable {K : Ctx} {c x y : Code} {E E' : St} {Q : Exit → St → Prop} {sl : List (Nat × SV)} {ow : List (Nat × Option Own)} {nx : Nat}

theorem T.sub (h : ∀ a w, Rel K E a w → Rel K E' a w) (k : T K c E' Q) : T K c E Q := ⟨fun a w hr => k.out a w (h a w hr)⟩
theorem T.mono {Q' : Exit → St → Prop} (k : T K c E Q) (h : ∀ e E, Q e E → Q' e E) : T K c E Q' := ⟨fun a w hr => wp_mono (k.out a w hr) fun e a w ⟨hf, E', hq, hr⟩ => ⟨hf, E', h _ _ hq, hr⟩⟩
theorem T.skip (h : Q .normal E) : T K .skip E Q := ⟨fun a w hr => wp_skip ⟨rfl, E, h, hr⟩⟩
theorem T.label {l : Nat} (h : Q .normal E) : T K (.label l) E Q := ⟨fun a w hr => wp_label ⟨rfl, E, h, hr⟩⟩
theorem T.exit {id : Nat} (h : Q (.exit id) E) : T K (.exit id) E Q := ⟨fun a w hr => wp_exit ⟨rfl, E, h, hr⟩⟩
theorem T.ret (h : Q .ret E) : T K .ret E Q := ⟨fun a w hr => wp_ret ⟨rfl, E, h, hr⟩⟩
theorem T.seq (h : T K x E (sq K y Q)) : T K (.seq x y) E Q :=
  ⟨fun a w hr => wp_seq (wp_mono (h.out a w hr) fun e a w ⟨hf, E', hq, hr'⟩ => by
    cases e with
    | normal => exact hq.out a w hr'
    | panic ch => simp [fine] at hf
    | outgrown => simp [fine] at hf
    | _ => exact ⟨rfl, E', hq, hr'⟩)⟩
theorem T.block {id : Nat} (h : T K c E (bk id Q)) : T K (.block id c) E Q :=
  ⟨fun a w hr => wp_block (wp_mono (h.out a w hr) fun e a w ⟨hf, E', hq, hr'⟩ => by
    cases e with
    | exit i =>
      simp only [bk] at hq
      simp only [Exit.inBlock]
      by_cases e : i = id
      · subst e
        rw [if_pos rfl]
        rw [Nat.beq_refl] at hq
        exact ⟨rfl, E', hq, hr'⟩
      · rw [if_neg e]
        have : Nat.beq i id = false := by
          cases hb : Nat.beq i id with
          | false => rfl
          | true => exact absurd (Nat.eq_of_beq_eq_true hb) e
        rw [this] at hq
        exact ⟨rfl, E', hq, hr'⟩
    | panic ch => simp [fine] at hf
    | outgrown => simp [fine] at hf
    | _ => exact ⟨rfl, E', hq, hr'⟩)⟩
theorem T.loop (hg : ∀ l E, ¬ Q (.goto l) E) (h : T K c E (lp K c Q)) : T K (.loop c) E Q :=
  ⟨fun a w hr => wp_loop_unroll (fun e a w ⟨hf, E', hq, _⟩ => ⟨hf, fun l e => hg l E' (e ▸ hq)⟩) (wp_mono (h.out a w hr) fun e a w ⟨hf, E', hq, hr'⟩ => by
    cases e with
    | normal => exact hq.out a w hr'
    | panic ch => simp [fine] at hf
    | outgrown => simp [fine] at hf
    | _ => exact ⟨rfl, E', hq, hr'⟩)⟩
theorem T.cond {f b : Bool} {o : Operand} (hc : E.f.get o = some (.val f (.bool b))) (ht : b = true → T K x E Q) (hf : b = false → T K y E Q) : T K (.cond o x y) E Q :=
  ⟨fun a w hr => by
    obtain ⟨φ, hφ⟩ := hr
    obtain ⟨hv, _⟩ := get_sound hφ hc
    generalize he : a.eval o = v at hv
    cases hv
    exact wp_cond_split he (fun hb => (ht hb).out a w ⟨φ, hφ⟩) (fun hb => (hf hb).out a w ⟨φ, hφ⟩)⟩
theorem T.ct {f : Bool} {o : Operand} (hc : E.f.get o = some (.val f (.bool true))) (ht : T K x E Q) : T K (.cond o x y) E Q := .cond hc (fun _ => ht) (fun h => by cases h)
theorem T.cf {f : Bool} {o : Operand} (hc : E.f.get o = some (.val f (.bool false))) (hf : T K y E Q) : T K (.cond o x y) E Q := .cond hc (fun h => by cases h) (fun _ => hf)
theorem T.cd {f : Bool} {p : Prop} [Decidable p] {o : Operand} (hc : E.f.get o = some (.val f (.bool (decide p)))) (ht : p → T K x E Q) (hf : ¬ p → T K y E Q) : T K (.cond o x y) E Q :=
  .cond hc (fun h => ht (of_decide_eq_true h)) (fun h => hf (of_decide_eq_false h))
theorem T.region {id : Nat} {ops : Array Oper} (h : TO K ops ops.toList E (Q .normal)) : T K (.region id ops false) E Q :=
  ⟨fun a w hr => wp_region_list (h.out a w _ hr fun E' a' w' hq hr' => ⟨rfl, E', hq, hr'⟩)⟩

/-- What is owned by a slot is frozen: all may read it, nobody writes it any more. -/
theorem Rel.frz {s o : Nat} {e : TypeId} {sz : Nat} {fr : Bool} {rows : List (List PV)} (hM : ∀ b, ¬ K.M b) (hs : lk sl s = some (.ref o)) (ho : (St.mk sl ow nx).f.own o = some (.sl e sz fr rows)) (a : Act) (w : World) (h : Rel K ⟨sl, ow, nx⟩ a w) :
    Rel K ⟨(s, .val fr (.sl rows)) :: sl, (o, none) :: ow, nx⟩ a w := by
  obtain ⟨φ, hφ⟩ := h
  have hown' : ∀ q c, (St.mk ((s, .val fr (.sl rows)) :: sl) ((o, none) :: ow) nx).f.own q = some c → q ≠ o ∧ (St.mk sl ow nx).f.own q = some c := by
    intro q c hq
    simp only [St.f, lk_cons] at hq
    by_cases e : o = q
    · rw [if_pos e] at hq; cases hq
    · rw [if_neg e] at hq; exact ⟨Ne.symm e, hq⟩
  have hZ : ∀ f b, Zf K (St.mk sl ow nx).f φ f b → Zf K (St.mk ((s, .val fr (.sl rows)) :: sl) ((o, none) :: ow) nx).f φ f b :=
    fun f b hb => ⟨⟨hb.1.1, fun q c hq => hb.1.2 q c (hown' q c hq).2⟩, hb.2⟩
  refine ⟨φ, hφ.df, hφ.sz, hφ.old, hφ.kept, ?_, ?_, ?_, ?_, ?_, ?_⟩
  · intro q c hq
    exact (hφ.own q c (hown' q c hq).2).mono (fun _ _ => rfl) fun f b hb _ => ⟨hZ f b hb, rfl⟩
  · intro q c g hq
    exact hφ.mine q c g (hown' q c hq).2
  · intro q c hq
    exact hφ.inU q c (hown' q c hq).2
  · intro q q' c c' g hq hq'
    exact hφ.dis q q' c c' g (hown' q c hq).2 (hown' q' c' hq').2
  · intro t sv hsv
    rcases slot_put t sv hsv with ⟨rfl, rfl⟩ | ⟨_, h⟩
    · obtain ⟨v, hv, hr⟩ := hφ.slot t _ hs
      refine ⟨v, hv, ?_⟩
      simp only [SVRel, SVRel1] at hr
      subst hr
      obtain ⟨xs, hwn, hl, h1, h2⟩ := hφ.own o _ ho
      have hl' : L2 (Rep w (Zf K (St.mk ((t, .val fr (.sl rows)) :: sl) ((o, none) :: ow) nx).f φ fr)) xs rows.flatten := Rep.monoL (fun b hb _ => ⟨hZ fr b hb, rfl⟩) hl
      have hcell := fun g hg => hwn.cells (g := g) hg
      have hlt := hwn.lt
      rcases hwn.2 with ⟨hv0, hn⟩ | ⟨g, cap, cur, hv0, _, hgc, hnc, hcm, _⟩
      · show Rep w _ (φ o) (.sl rows)
        rw [hv0]
        have : rows = [] := List.eq_nil_of_length_eq_zero hn
        subst this
        exact .nilsl
      · show Rep w _ (φ o) (.sl rows)
        have hm := hφ.mine o _ g ho (by rw [hv0]; rfl)
        have hge : K.w0.heap.size ≤ g := hm.resolve_right (hM g)
        rw [hv0] at hcell hlt ⊢
        refine .sl g 0 cap sz rows xs ⟨⟨.inl hge, fun q c hq hvq => ?_⟩, fun _ => K.hF _ hge⟩ (hlt g rfl).2 h1 h2 (fun j v hj => ?_) hnc hcm hl'
        · obtain ⟨hne, hq'⟩ := hown' q c hq
          exact hne (hφ.dis q o c _ g hq' ho hvq (by rw [hv0]; rfl))
        · have := hcell g rfl j v hj
          rw [add_addr] at this
          exact soft_row hgc this
    · obtain ⟨v, hv, hr⟩ := hφ.slot t sv h
      exact ⟨v, hv, hr.mono (hφ.sin t sv h) (fun f b hb _ => ⟨hZ f b hb, rfl⟩) (fun _ _ => rfl)⟩
  · intro t sv hsv
    rcases slot_put t sv hsv with ⟨rfl, rfl⟩ | ⟨_, h⟩
    · trivial
    · exact hφ.sin t sv h

/-- nil is owned as well as anything. -/
theorem Rel.own0 {s : Nat} (e : TypeId) (sz : Nat) (hs : lk sl s = some .nilsl) (a : Act) (w : World) (h : Rel K ⟨sl, ow, nx⟩ a w) :
    Rel K ⟨(s, .ref nx) :: sl, (nx, some (.sl e sz true [])) :: ow, nx + 1⟩ a w := by
  obtain ⟨φ, hφ⟩ := h
  have hadd := hφ.add (Below.refl _ _) nx [.sl e sz true []] [.slice none 0 0] (fun i h1 _ h3 => absurd h3 (Nat.not_lt.2 h1)) rfl (fun i c v hc hv => by
    cases i with
    | zero =>
      simp at hc hv
      subst hc hv
      exact ⟨⟨[], World.ownsRow_nil w 0 e sz, .nil, by simp, by simp⟩, fun g hg => by simp [vblock] at hg⟩
    | succ i => simp at hc) (fun i j v v' g hi hj hv _ => by cases i <;> cases j <;> simp_all)
  have hU : addU (· < nx) nx [.sl e sz true []] = (· < nx + 1) := by funext i; simp only [addU, eq_iff_iff, List.length_singleton]; omega
  have h2 : RelW K (St.mk sl ((nx, some (.sl e sz true [])) :: ow) (nx + 1)).f (· < nx + 1) (addφ φ nx [.slice none 0 0]) a w := by
    have := f_push sl ow nx (nx + 1) [.sl e sz true []]
    simp only [pushOw] at this
    rw [this, ← hU]
    exact hadd
  refine ⟨_, h2.df, h2.sz, h2.old, h2.kept, h2.own, h2.mine, h2.inU, h2.dis, ?_, ?_⟩
  · intro t sv hsv
    rcases slot_put t sv hsv with ⟨rfl, rfl⟩ | ⟨_, h⟩
    · obtain ⟨v, hv, hr⟩ := hφ.slot t _ hs
      refine ⟨v, hv, ?_⟩
      simp only [SVRel, SVRel1] at hr ⊢
      rw [hr]
      simp [addφ]
    · exact h2.slot t sv h
  · intro t sv hsv
    rcases slot_put t sv hsv with ⟨rfl, rfl⟩ | ⟨_, h⟩
    · exact Nat.lt_succ_self _
    · exact h2.sin t sv h

-- FEWER SLOTS AND OWNED THINGS, AND OTHER NUMBERS
def idx : List Nat → Nat → Option Nat
  | [], _ => none
  | i :: is, o => match Nat.beq i o with
    | true => some 0
    | false => match idx is o with
      | some k => some (k + 1)
      | none => none
def renSV (ids : List Nat) : SV → Option SV
  | .val fr p => some (.val fr p)
  | .nilsl => some .nilsl
  | .ref o => match idx ids o with
    | some k => some (.ref k)
    | none => none
  | .optr o i off st => match idx ids o with
    | some k => some (.optr k i off st)
    | none => none
  | .fptr fr cs => some (.fptr fr cs)
  | .fix v p => some (.fix v p)
  | .tup _ => none
def canonSl (E : EnvF) (ids : List Nat) : List Nat → List (Nat × SV)
  | [] => []
  | s :: ss => match E.slot s with
    | some sv => match renSV ids sv with
      | some sv' => (s, sv') :: canonSl E ids ss
      | none => canonSl E ids ss
    | none => canonSl E ids ss
def canonOw (E : EnvF) : Nat → List Nat → List (Nat × Option Own)
  | _, [] => []
  | k, o :: os => (k, E.own o) :: canonOw E (k + 1) os
def idOf : Option SV → Nat
  | some (.ref o) => o
  | some (.optr o _ _ _) => o
  | _ => 0
def idsOf (E : EnvF) : List Nat → List Nat
  | [] => []
  | s :: ss => idOf (E.slot s) :: idsOf E ss
def dup : List Nat → Bool
  | [] => false
  | i :: is => match idx is i with
    | some _ => true
    | none => dup is
/-- The slots of 'keep' alone; the owned things that the slots of 'os' name, numbered from 0 on. -/
def canonE (E : St) (keep os : List Nat) : St := ⟨canonSl E.f (idsOf E.f os) keep, canonOw E.f 0 (idsOf E.f os), os.length⟩

theorem idx_get : ∀ (is : List Nat) (o k : Nat), idx is o = some k → is[k]? = some o
  | [], o, k, h => by simp [idx] at h
  | i :: is, o, k, h => by
    simp only [idx] at h
    split at h
    · rename_i hb
      obtain rfl := Option.some.inj h
      simp [Nat.eq_of_beq_eq_true hb]
    · split at h
      · rename_i k' hk
        obtain rfl := Option.some.inj h
        simpa using idx_get is o k' hk
      · cases h
theorem idx_none : ∀ (is : List Nat) (o : Nat), idx is o = none → o ∉ is
  | [], o, _ => by simp
  | i :: is, o, h => by
    simp only [idx] at h
    split at h
    · cases h
    · rename_i hb
      split at h
      · cases h
      · rename_i hn
        intro hm
        cases hm with
        | head => rw [Nat.beq_refl] at hb; cases hb
        | tail _ hm => exact idx_none is o hn hm
theorem dup_inj : ∀ (is : List Nat), dup is = false → ∀ (i j o : Nat), is[i]? = some o → is[j]? = some o → i = j
  | [], _, i, j, o, h, _ => by simp at h
  | x :: is, hd, i, j, o, hi, hj => by
    simp only [dup] at hd
    split at hd
    · cases hd
    · rename_i hn
      have hx := idx_none is x hn
      cases i with
      | zero =>
        cases j with
        | zero => rfl
        | succ j => simp at hi hj; subst hi; exact absurd (List.mem_of_getElem? hj) hx
      | succ i =>
        cases j with
        | zero => simp at hi hj; subst hj; exact absurd (List.mem_of_getElem? hi) hx
        | succ j => simp at hi hj; rw [dup_inj is hd i j o hi hj]
theorem lk_canonOw (V : EnvF) : ∀ (is : List Nat) (n o : Nat), (lk (canonOw V n is) o).join = if n ≤ o then (is[o - n]?).bind V.own else none
  | [], n, o => by simp [canonOw, lk]
  | i :: is, n, o => by
    simp only [canonOw, lk_cons]
    by_cases e : n = o
    · subst e; simp
    · rw [if_neg e, lk_canonOw V is (n + 1) o]
      by_cases h : n + 1 ≤ o
      · rw [if_pos h, if_pos (by omega)]
        obtain ⟨k, rfl⟩ : ∃ k, o = n + 1 + k := ⟨o - (n + 1), by omega⟩
        have e1 : n + 1 + k - (n + 1) = k := by omega
        have e2 : n + 1 + k - n = k + 1 := by omega
        rw [e1, e2, List.getElem?_cons_succ]
      · rw [if_neg h, if_neg (by omega)]
theorem lk_canonSl (V : EnvF) (ids : List Nat) : ∀ (ss : List Nat) (s : Nat) (sv : SV), lk (canonSl V ids ss) s = some sv → ∃ sv0, V.slot s = some sv0 ∧ renSV ids sv0 = some sv
  | [], s, sv, h => by simp [canonSl, lk] at h
  | t :: ss, s, sv, h => by
    simp only [canonSl] at h
    split at h
    · rename_i sv0 hs
      split at h
      · rename_i sv1 hr
        rw [lk_cons] at h
        by_cases e : t = s
        · subst e
          rw [if_pos rfl] at h
          obtain rfl := Option.some.inj h
          exact ⟨sv0, hs, hr⟩
        · rw [if_neg e] at h
          exact lk_canonSl V ids ss s sv h
      · exact lk_canonSl V ids ss s sv h
    · exact lk_canonSl V ids ss s sv h

theorem Rel.canon {keep os : List Nat} (hd : dup (idsOf E.f os) = false) (a : Act) (w : World) (h : Rel K E a w) : Rel K (canonE E keep os) a w := by
  obtain ⟨φ, hφ⟩ := h
  generalize hids : idsOf E.f os = ids at hd
  have hlen : ids.length = os.length := by
    rw [← hids]
    clear hids hd hφ
    induction os with
    | nil => rfl
    | cons s os ih => simp [idsOf, ih]
  have hown : ∀ k c, (canonE E keep os).f.own k = some c → ∃ o, ids[k]? = some o ∧ E.f.own o = some c := by
    intro k c hk
    change (lk (canonOw E.f 0 (idsOf E.f os)) k).join = some c at hk
    rw [hids, lk_canonOw E.f ids 0 k, if_pos (Nat.zero_le _), Nat.sub_zero] at hk
    exact Option.bind_eq_some_iff.1 hk
  let φ' : Nat → Value := fun k => φ (ids.getD k 0)
  have hφ' : ∀ k o, ids[k]? = some o → φ' k = φ o := fun k o hk => by simp [φ', List.getD, hk]
  have hZ : ∀ f b, Zf K E.f φ f b → Zf K (canonE E keep os).f φ' f b := by
    intro f b hb
    refine ⟨⟨hb.1.1, fun k c hk hv => ?_⟩, hb.2⟩
    obtain ⟨o, ho, hc⟩ := hown k c hk
    rw [hφ' k o ho] at hv
    exact hb.1.2 o c hc hv
  have hlt : ∀ k (o : Nat), ids[k]? = some o → k < os.length := fun k o hk => by rw [← hlen]; exact (List.getElem?_eq_some_iff.1 hk).1
  refine ⟨φ', hφ.df, hφ.sz, hφ.old, hφ.kept, ?_, ?_, ?_, ?_, ?_, ?_⟩
  · intro k c hk
    obtain ⟨o, ho, hc⟩ := hown k c hk
    rw [hφ' k o ho]
    exact (hφ.own o c hc).mono (fun _ _ => rfl) fun f b hb _ => ⟨hZ f b hb, rfl⟩
  · intro k c g hk hv
    obtain ⟨o, ho, hc⟩ := hown k c hk
    rw [hφ' k o ho] at hv
    exact hφ.mine o c g hc hv
  · intro k c hk
    obtain ⟨o, ho, hc⟩ := hown k c hk
    exact hlt k o ho
  · intro k k' c c' g hk hk' hv hv'
    obtain ⟨o, ho, hc⟩ := hown k c hk
    obtain ⟨o', ho', hc'⟩ := hown k' c' hk'
    rw [hφ' k o ho] at hv
    rw [hφ' k' o' ho'] at hv'
    obtain rfl := hφ.dis o o' c c' g hc hc' hv hv'
    exact dup_inj ids hd k k' o ho ho'
  · intro s sv hs
    change lk (canonSl E.f (idsOf E.f os) keep) s = some sv at hs
    rw [hids] at hs
    obtain ⟨sv0, h0, hr⟩ := lk_canonSl E.f ids keep s sv hs
    obtain ⟨v, hv, hrel⟩ := hφ.slot s sv0 h0
    refine ⟨v, hv, ?_⟩
    cases sv0 with
    | val fr p => simp only [renSV, Option.some.injEq] at hr; subst hr; exact Rep.mono (fun b hb _ => ⟨hZ fr b hb, rfl⟩) hrel
    | nilsl => simp only [renSV, Option.some.injEq] at hr; subst hr; exact hrel
    | ref o =>
      simp only [renSV] at hr
      split at hr
      · rename_i k hk
        obtain rfl := Option.some.inj hr
        simp only [SVRel, SVRel1] at hrel ⊢
        rw [hφ' k o (idx_get ids o k hk)]; exact hrel
      · cases hr
    | optr o i off st =>
      simp only [renSV] at hr
      split at hr
      · rename_i k hk
        obtain rfl := Option.some.inj hr
        simp only [SVRel, SVRel1] at hrel ⊢
        rw [hφ' k o (idx_get ids o k hk)]; exact hrel
      · cases hr
    | fptr fr cs =>
      simp only [renSV, Option.some.injEq] at hr; subst hr
      obtain ⟨b, o, xs, e, hz, hb, hl, h1, hc⟩ := hrel
      exact ⟨b, o, xs, e, hZ fr b hz, hb, Rep.monoL (fun b hb _ => ⟨hZ fr b hb, rfl⟩) hl, h1, hc⟩
    | fix u p => simp only [renSV, Option.some.injEq] at hr; subst hr; exact ⟨hrel.1, Rep.mono (fun b hb _ => ⟨hZ false b hb, rfl⟩) hrel.2⟩
    | tup l => simp [renSV] at hr
  · intro s sv hs
    change lk (canonSl E.f (idsOf E.f os) keep) s = some sv at hs
    rw [hids] at hs
    obtain ⟨sv0, h0, hr⟩ := lk_canonSl E.f ids keep s sv hs
    cases sv0 with
    | val fr p => simp only [renSV, Option.some.injEq] at hr; subst hr; trivial
    | nilsl => simp only [renSV, Option.some.injEq] at hr; subst hr; trivial
    | ref o =>
      simp only [renSV] at hr
      split at hr
      · rename_i k hk
        obtain rfl := Option.some.inj hr
        exact hlt k o (idx_get ids o k hk)
      · cases hr
    | optr o i off st =>
      simp only [renSV] at hr
      split at hr
      · rename_i k hk
        obtain rfl := Option.some.inj hr
        exact hlt k o (idx_get ids o k hk)
      · cases hr
    | fptr fr cs => simp only [renSV, Option.some.injEq] at hr; subst hr; trivial
    | fix v p => simp only [renSV, Option.some.injEq] at hr; subst hr; trivial
    | tup l => simp [renSV] at hr

theorem T.canon {keep os : List Nat} (hd : dup (idsOf E.f os) = false) (k : T K c (canonE E keep os) Q) : T K c E Q := .sub (Rel.canon hd) k
end

/-- No memory at all. -/
def PV.flat : PV → Bool
  | .bool _ | .int _ _ | .str _ | .nilp | .nilf => true
  | _ => false
theorem Rep.flat {w : World} {Z Z' : Nat → Prop} {v : Value} {p : PV} (h : Rep w Z v p) (hf : p.flat = true) : Rep w Z' v p := by
  cases h <;> first | exact .bool _ | exact .int _ _ | exact .str _ | exact .nilp | exact .nilf | (simp [PV.flat] at hf)

/-- What is answered, out of the slots of the results. os: the owned things that are answered. -/
inductive Ret (P : Program) (E : EnvF) (al : Bool) : List ResultVar → List RV → List Nat → Prop
  | nil : Ret P E al [] [] []
  | val {t : Tmp} {sv : SV} {fr : Bool} {p : PV} {rs : List ResultVar} {vs : List RV} {os : List Nat} : E.slot t = some sv → sv.ff = some (fr, p) → (al = false → fr = true) → Ret P E al rs vs os → Ret P E al (.tmp t :: rs) (.val p :: vs) os
  | own {t : Tmp} {o : Nat} {e : TypeId} {sz : Nat} {fr : Bool} {rows : List (List PV)} {rs : List ResultVar} {vs : List RV} {os : List Nat} : E.slot t = some (.ref o) → E.own o = some (.sl e sz fr rows) → (al = false → fr = true ∨ ∀ r ∈ rows, ∀ p ∈ r, p.flat = true) → o ∉ os → Ret P E al rs vs os →
      Ret P E al (.tmp t :: rs) (.own e sz rows :: vs) (o :: os)
  | cell {t : Tmp} {ty : TypeId} {q : Nat} {fr : Bool} {row : List PV} {p : PV} {rs : List ResultVar} {vs : List RV} {os : List Nat} (_ : E.slot t = some (.optr q 0 0 0)) (_ : E.own q = some (.box fr row)) (_ : loadPV P ty row = some p) (_ : al = false → fr = true) (_ : Ret P E al rs vs os) : Ret P E al (.cell t ty :: rs) (.val p :: vs) os
  | ownN {t : Tmp} {e : TypeId} {sz : Nat} {rs : List ResultVar} {vs : List RV} {os : List Nat} : E.slot t = some .nilsl → Ret P E al rs vs os → Ret P E al (.tmp t :: rs) (.own e sz [] :: vs) os

def initSl : Nat → List PV → List (Nat × SV)
  | _, [] => []
  | k, p :: ps => (k, .val false p) :: initSl (k + 1) ps

theorem lk_init : ∀ (ps : List PV) (k s : Nat) (sv : SV), lk (initSl k ps) s = some sv → ∃ j p, s = k + j ∧ ps[j]? = some p ∧ sv = .val false p
  | [], k, s, sv, h => by simp [initSl, lk] at h
  | p :: ps, k, s, sv, h => by
    simp only [initSl, lk_cons] at h
    by_cases e : k = s
    · rw [if_pos e] at h
      obtain rfl := Option.some.inj h
      exact ⟨0, p, by omega, by simp, rfl⟩
    · rw [if_neg e] at h
      obtain ⟨j, q, h1, h2, h3⟩ := lk_init ps (k + 1) s sv h
      exact ⟨j + 1, q, by omega, by simpa using h2, h3⟩

def resOf (tmps : Array Value) : ResultVar → Sem Value
  | .tmp t => pure (tmps.getD t undef)
  | .cell a t => do loadVar t (← asAddr (tmps.getD a undef))

theorem ret_sound {K : Ctx} {E : EnvF} {U : Nat → Prop} {φ : Nat → Value} {a : Act} {w : World} (h : RelW K E U φ a w) (hM : ∀ b, ¬ K.M b) {al : Bool} {rs : List ResultVar} {vs : List RV} {os : List Nat} (hr : Ret K.P E al rs vs os) :
    ∃ ws : List Value, (rs.mapM (resOf a.tmps)).run K.P w = .ok ws w ∧
      L2 (fun v r => match r with
        | .val p => ∃ fr, (al = false → fr = true) ∧ Rep w (Zf K E φ fr) v p
        | .own e sz rows => ∃ fr, (al = false → fr = true ∨ ∀ r ∈ rows, ∀ p ∈ r, p.flat = true) ∧ OwnRel w (Zf K E φ) v (.sl e sz fr rows)) ws vs ∧
      (∀ v g, v ∈ RV.vals vs ws → vblock v = some g → K.w0.heap.size ≤ g ∧ ∃ o c, o ∈ os ∧ E.own o = some c ∧ vblock (φ o) = some g) ∧
      (∀ (i j : Nat) (v v' : Value) (g : Nat), (RV.vals vs ws)[i]? = some v → (RV.vals vs ws)[j]? = some v' → vblock v = some g → vblock v' = some g → i = j) := by
  induction hr with
  | nil => exact ⟨[], rfl, .nil, by simp [RV.vals], by simp [RV.vals]⟩
  | @val t sv fr p rs vs os hs hf hfr _ ih =>
    obtain ⟨ws, h1, h2, h3, h4⟩ := ih
    have hx : E.get (.tmp t) = some sv := hs
    have hrep := ff_sound h hx hf
    exact ⟨a.eval (.tmp t) :: ws, by simp only [List.mapM_cons, resOf, Sem.run_bind, Sem.run_pure, Result.andThen_ok]; rw [h1]; rfl, .cons ⟨fr, hfr, hrep⟩ h2, h3, h4⟩
  | @own t o e sz fr rows rs vs os hs ho hfr hno _ ih =>
    obtain ⟨ws, h1, h2, h3, h4⟩ := ih
    have hx : E.get (.tmp t) = some (.ref o) := hs
    obtain ⟨hv, _⟩ := get_sound h hx
    simp only [SVRel, SVRel1] at hv
    have hown := h.own o _ ho
    have hmine : ∀ g, vblock (φ o) = some g → K.w0.heap.size ≤ g := fun g hg => (h.mine o _ g ho hg).resolve_right (hM g)
    refine ⟨a.eval (.tmp t) :: ws, by simp only [List.mapM_cons, resOf, Sem.run_bind, Sem.run_pure, Result.andThen_ok]; rw [h1]; rfl, .cons ⟨fr, hfr, by rw [hv]; exact hown⟩ h2, ?_, ?_⟩
    · intro v g hv2 hg
      simp only [RV.vals, List.mem_cons] at hv2
      rcases hv2 with rfl | hv2
      · rw [hv] at hg
        exact ⟨hmine g hg, o, _, .head _, ho, hg⟩
      · obtain ⟨h5, o', c', h6, h7⟩ := h3 v g hv2 hg
        exact ⟨h5, o', c', .tail _ h6, h7⟩
    · intro i j v v' g hi hj hg hg'
      simp only [RV.vals] at hi hj
      have cross : ∀ (k : Nat) u, (RV.vals vs ws)[k]? = some u → vblock u = some g → vblock (φ o) = some g → False := by
        intro k u hk hu hg2
        obtain ⟨_, o', c', h6, h7, h8⟩ := h3 u g (List.mem_of_getElem? hk) hu
        exact hno (h.dis o' o c' _ g h7 ho h8 hg2 ▸ h6)
      cases i with
      | zero =>
        cases j with
        | zero => rfl
        | succ j =>
          simp only [List.getElem?_cons_zero, Option.some.injEq] at hi
          simp only [List.getElem?_cons_succ] at hj
          subst hi
          rw [hv] at hg
          exact (cross j v' hj hg' hg).elim
      | succ i =>
        cases j with
        | zero =>
          simp only [List.getElem?_cons_zero, Option.some.injEq] at hj
          simp only [List.getElem?_cons_succ] at hi
          subst hj
          rw [hv] at hg'
          exact (cross i v hi hg hg').elim
        | succ j =>
          simp only [List.getElem?_cons_succ] at hi hj
          rw [h4 i j v v' g hi hj hg hg']
  | @cell t ty q fr row p rs vs os hs hq hp hfr _ ih =>
    obtain ⟨ws, h1, h2, h3, h4⟩ := ih
    have hx : E.get (.tmp t) = some (.optr q 0 0 0) := hs
    obtain ⟨u, hu, hrep⟩ := load_sound (cellsAt_sound (fr := fr) (cells := row) h hx (by simp [EnvF.cellsAt, hq, Own.at_])) hp
    refine ⟨u :: ws, ?_, .cons ⟨fr, hfr, hrep⟩ h2, h3, h4⟩
    obtain ⟨hv, _⟩ := get_sound h hx
    obtain ⟨g, hg, hv⟩ := hv
    have hv' : a.tmps.getD t undef = .pointer (some ⟨g, 0, none⟩) := by
      have : a.eval (.tmp t) = .pointer (some ⟨g, 0, none⟩) := by simpa using hv
      exact this
    have hu' : (loadVar ty ⟨g, 0, none⟩).run K.P w = .ok u w := by
      have e : a.eval (.tmp t) = .pointer (some ⟨g, 0, none⟩) := hv'
      rw [e] at hu
      simpa [Instr.loadAt, Instr.sureAddr] using hu
    simp only [List.mapM_cons, resOf, hv', asAddr, Sem.run_bind, Sem.run_pure, Result.andThen_ok, hu', h1]
  | @ownN t e sz rs vs os hs _ ih =>
    obtain ⟨ws, h1, h2, h3, h4⟩ := ih
    have hx : E.get (.tmp t) = some .nilsl := hs
    obtain ⟨hv, _⟩ := get_sound h hx
    simp only [SVRel, SVRel1] at hv
    refine ⟨a.eval (.tmp t) :: ws, by simp only [List.mapM_cons, resOf, Sem.run_bind, Sem.run_pure, Result.andThen_ok]; rw [h1]; rfl, .cons ⟨true, fun _ => .inl rfl, by rw [hv]; exact ⟨[], World.ownsRow_nil w 0 e sz, .nil, by simp, by simp⟩⟩ h2, ?_, ?_⟩
    · intro v g hv2 hg
      simp only [RV.vals, List.mem_cons] at hv2
      rcases hv2 with rfl | hv2
      · rw [hv] at hg; simp [vblock] at hg
      · exact h3 v g hv2 hg
    · intro i j v v' g hi hj hg hg'
      simp only [RV.vals] at hi hj
      cases i with
      | zero =>
        simp only [List.getElem?_cons_zero, Option.some.injEq] at hi
        subst hi
        rw [hv] at hg; simp [vblock] at hg
      | succ i =>
        cases j with
        | zero =>
          simp only [List.getElem?_cons_zero, Option.some.injEq] at hj
          subst hj
          rw [hv] at hg'; simp [vblock] at hg'
        | succ j =>
          simp only [List.getElem?_cons_succ] at hi hj
          rw [h4 i j v v' g hi hj hg hg']

/-- How a body ends: the results stand in their slots. -/
def Fin (P : Program) (fn : Func) (al : Bool) (res : List RV) : Exit → St → Prop
  | .normal, E | .ret, E => ∃ os, Ret P E.f al fn.results.toList res os
  | _, _ => False

/-- A CONTRACT OUT OF A BODY. -/
theorem Spec.body {P : Program} {f : FuncId} {fn : Func} {c : Code} {al : Bool} {args : List PV} {res : List RV} (hf : P.funcs[f]? = some fn) (hb : fn.body = some c) (hn : (fn.name == "runtime.NumGoroutine") = false) (hl : Nat.ble args.length fn.ntmps = true)
    (h : ∀ w0 Z0, T (Ctx.of P w0 Z0 (fun _ => False) fn.ntmps) c ⟨initSl 0 args, [], 0⟩ (Fin P fn al res)) : Spec P f al args res := by
  refine ⟨⟨fn, hf, by rw [hb]; rfl, hn⟩, fun w Z vs hvs => ?_⟩
  have hle := Nat.le_of_ble_eq_true hl
  have hvl := hvs.length
  refine calls_of_wp hf hb ?_
  have hrel : Rel (Ctx.of P w Z (fun _ => False) fn.ntmps) ⟨initSl 0 args, [], 0⟩ { tmps := vs.toArray ++ Array.replicate (fn.ntmps - vs.toArray.size) undef, defers := [] } w := by
    refine ⟨fun _ => undef, rfl, ?_, (fun s v hs => absurd hs (Nat.not_lt_zero s)), ⟨rfl, rfl, rfl, Nat.le_refl _, fun _ _ _ => rfl⟩, ?_, ?_, ?_, ?_, ?_, ?_⟩
    · simp [Ctx.of]; omega
    · intro o c ho; simp [St.f, lk] at ho
    · intro o c g ho; simp [St.f, lk] at ho
    · intro o c ho; simp [St.f, lk] at ho
    · intro o o' c c' g ho; simp [St.f, lk] at ho
    · intro s sv hs
      obtain ⟨j, p, rfl, hp, rfl⟩ := lk_init args 0 s sv hs
      obtain ⟨v, hv, hr⟩ := hvs.get hp
      have hj : j < vs.length := (List.getElem?_eq_some_iff.1 hv).1
      refine ⟨v, ?_, ?_⟩
      · rw [Nat.zero_add, Array.getElem?_append_left (by simpa using hj)]
        simpa using hv
      · refine Rep.mono (Z := Z) (fun b hb _ => ⟨⟨⟨.inr hb, fun o c ho => ?_⟩, fun e => by cases e⟩, rfl⟩) hr
        simp [St.f, lk] at ho
    · intro s sv hs
      obtain ⟨j, p, rfl, hp, rfl⟩ := lk_init args 0 s sv hs
      trivial
  refine wp_mono ((h w Z).out _ w hrel) fun e a w' ⟨hfe, E, hq, φ, hφ⟩ => ?_
  have key : (∃ os, Ret P E.f al fn.results.toList res os) → a.defers = [] ∧ ∃ v, (results fn a.tmps).run P w' = .ok v w' ∧ ∃ rs : List Value, Ending.returned v = .returned (retV rs) ∧ Below w.heap.size w w' ∧ RetRel w w' (fun b => al = true ∧ Z b) rs res := by
    rintro ⟨os, hret⟩
    obtain ⟨ws, h1, h2, h3, h4⟩ := ret_sound hφ (fun _ hm => hm) hret
    have hk := hφ.kept
    refine ⟨hφ.df, retV ws, ?_, ws, rfl, ⟨hk.os, hk.tape, hk.output, hk.size, fun b hb => hk.block b hb (fun hm => hm)⟩, ?_, fun v g hv hg => (h3 v g hv hg).1, h4⟩
    · have e : results fn a.tmps = (do let vs ← fn.results.mapM (resOf a.tmps); pure (if h : vs.size = 1 then vs[0] else .tuple vs)) := by
        unfold results
        congr
      have h1' : (fn.results.toList.mapM (resOf a.tmps)).run P w' = .ok ws w' := h1
      rw [e, Array.mapM_eq_mapM_toList]
      simp only [Sem.run_bind, Sem.run_map, h1', Result.andThen_ok]
      cases ws with
      | nil => rfl
      | cons v ws => cases ws with
        | nil => rfl
        | cons v' ws => rfl
    · have hz : ∀ f b, (al = false → f = true) → Zf (Ctx.of P w Z (fun _ => False) fn.ntmps) E.f φ f b → ((al = true ∧ Z b) ∨ w.heap.size ≤ b) ∧ ∀ v, v ∈ RV.vals res ws → vblock v ≠ some b := by
        intro f b hfr hb
        refine ⟨?_, fun v hv e => ?_⟩
        · cases al with
          | true => exact hb.1.1.elim (fun h => .inr h) (fun h => .inl ⟨rfl, h⟩)
          | false => exact .inr (hb.2 (hfr rfl))
        · obtain ⟨_, o, c, _, ho, hg⟩ := h3 v b hv e
          exact hb.1.2 o c ho hg
      refine h2.imp fun v r hv => ?_
      cases r with
      | val p =>
        obtain ⟨fr, hfr, hrep⟩ := hv
        exact Rep.mono (fun b hb _ => ⟨hz fr b hfr hb, rfl⟩) hrep
      | own e sz rows =>
        obtain ⟨fr, hfr, xs, ho, hl2, h5, h6⟩ := hv
        refine ⟨xs, ho, ?_, h5, h6⟩
        by_cases hfl : al = false → fr = true
        · exact Rep.monoL (fun b hb _ => ⟨hz fr b hfl hb, rfl⟩) hl2
        · have hfl2 : ∀ r ∈ rows, ∀ p ∈ r, p.flat = true := by
            obtain ⟨h7, h8⟩ := Classical.not_imp.1 hfl
            exact (hfr h7).resolve_left h8
          have hfl3 : ∀ p ∈ rows.flatten, p.flat = true := by
            intro p hp
            obtain ⟨r, hr, hpr⟩ := List.mem_flatten.1 hp
            exact hfl2 r hr p hpr
          clear ho h5 h6 hfl hfl2 hfr
          generalize rows.flatten = ps at hl2 hfl3
          induction hl2 with
          | nil => exact .nil
          | cons h9 _ ih => exact .cons (h9.flat (hfl3 _ (.head _))) (ih fun p hp => hfl3 p (.tail _ hp))
  cases e with
  | normal => exact key hq
  | ret => exact key hq
  | exit id => exact hq.elim
  | goto l => exact hq.elim
  | panic ch => simp [fine] at hfe
  | outgrown => simp [fine] at hfe
end Go.Proofs.Ytchajofdjeijfaa
