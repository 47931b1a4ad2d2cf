/- A snapshot of what is frozen; stores into what a call has handed out; small words. -/
import Derived.Test.YtchajofdjeijfaaCoreP
namespace Go.Proofs.Ytchajofdjeijfaa
open Go Go.RowKit
set_option linter.unusedVariables false
set_option linter.unusedSimpArgs false
section
variable {K : Ctx} {ops : Array Oper} {dr : Bool} {o : Oper} {rest : List Oper} {sl : List (Nat × SV)} {ow : List (Nat × Option Own)} {nx : Nat} {R : St → Prop} {d : Nat}
/-- Some of a list, from a place on. -/
theorem J.s3 {α : Type} {enc : α → List PV} {l : List α} {t : TypeId} {x y1 : Operand} {sx : SV} {fr fl : Bool} {e : TypeId} {inf : TypeInfo} {lo : Int} {kl : IntKind} (m : Nat)
    (ho : o.op = .slice t x (some y1) none none) (hg : wants ops (St.mk sl ow nx).f o = some true) (hd : o.dst = some d) (hlt : K.can d = true)
    (hx : (St.mk sl ow nx).f.get x = some sx) (hr : sx.ff = some (fr, .sl (l.map enc))) (hu : K.P.underlying t = some (.slice e)) (hinf : K.P.info? e = some inf) (hy1 : (St.mk sl ow nx).f.get y1 = some (.val fl (.int kl lo)))
    (h3 : ∀ z, (enc z).length = inf.size) (hl1 : lo = (m : Nat)) (hmn : m ≤ l.length)
    (q : J K ops dr rest ⟨(d, .val fr (.sl ((l.drop m).map enc))) :: sl, ow, nx⟩ R) : J K ops dr (o :: rest) ⟨sl, ow, nx⟩ R := by
  subst hl1
  refine J.s (fh := true) (kh := .i64) ho hg hd hlt hx hr hu hinf (.inr ⟨y1, rfl, hy1⟩) (.inl ⟨rfl, rfl⟩) (by omega) (by simp; omega) (by simp) (fun r hr => by obtain ⟨z, _, rfl⟩ := List.mem_map.1 hr; exact h3 z) ?_
  have e : ((l.map enc).take ((l.map enc).length : Int).toNat).drop ((m : Int).toNat) = (l.drop m).map enc := by rw [Int.toNat_natCast, Int.toNat_natCast, List.take_length, ← List.map_drop]
  rw [e]
  exact q
/-- A quotient, what is left of it. -/
theorem J.rm {t t2 : TypeId} {x y : Operand} {fa fb : Bool} {k : IntKind} {a b : Int} (ho : o.op = .binOp .rem t x y t2) (hg : wants ops (St.mk sl ow nx).f o = some true) (hd : o.dst = some d) (hlt : K.can d = true)
    (hx : (St.mk sl ow nx).f.get x = some (.val fa (.int k a))) (hy : (St.mk sl ow nx).f.get y = some (.val fb (.int k b))) (hb : b ≠ 0)
    (q : J K ops dr rest ⟨(d, .val true (.int k (a.tmod b))) :: sl, ow, nx⟩ R) : J K ops dr (o :: rest) ⟨sl, ow, nx⟩ R := by
  refine J.e hg hd hlt ?_ q
  simp only [ev, ho, hx, hy, binPV, if_true, if_neg hb, Option.map_some]
theorem J.qu {t t2 : TypeId} {x y : Operand} {fa fb : Bool} {k : IntKind} {a b : Int} (ho : o.op = .binOp .quo t x y t2) (hg : wants ops (St.mk sl ow nx).f o = some true) (hd : o.dst = some d) (hlt : K.can d = true)
    (hx : (St.mk sl ow nx).f.get x = some (.val fa (.int k a))) (hy : (St.mk sl ow nx).f.get y = some (.val fb (.int k b))) (hb : b ≠ 0)
    (q : J K ops dr rest ⟨(d, .val true (.int k (k.wrap (a.tdiv b)))) :: sl, ow, nx⟩ R) : J K ops dr (o :: rest) ⟨sl, ow, nx⟩ R := by
  refine J.e hg hd hlt ?_ q
  simp only [ev, ho, hx, hy, binPV, if_true, if_neg hb, Option.map_some]
end

/-- A variable of one's own is frozen. -/
theorem Rel.unbx {K : Ctx} {sl : List (Nat × SV)} {ow : List (Nat × Option Own)} {nx s o : Nat} {fr : Bool} {row : List PV} (hM : ∀ b, ¬ K.M b) (hs : lk sl s = some (.optr o 0 0 0)) (ho : (St.mk sl ow nx).f.own o = some (.box fr row)) (a : Act) (w : World) (h : Rel K ⟨sl, ow, nx⟩ a w) :
    Rel K ⟨(s, .fptr fr row) :: sl, (o, none) :: ow, nx⟩ a w := by
  obtain ⟨φ, hφ⟩ := h
  have hown' : ∀ q c, (St.mk ((s, .fptr fr row) :: sl) ((o, none) :: ow) nx).f.own q = some c → q ≠ o ∧ (St.mk sl ow nx).f.own q = some c := by
    intro q c hq
    simp only [St.f, lk_cons] at hq
    by_cases e : o = q
    · rw [if_pos e] at hq; cases hq
    · rw [if_neg e] at hq; exact ⟨Ne.symm e, hq⟩
  have hZ : ∀ f b, Zf K (St.mk sl ow nx).f φ f b → Zf K (St.mk ((s, .fptr fr row) :: sl) ((o, none) :: ow) nx).f φ f b :=
    fun f b hb => ⟨⟨hb.1.1, fun q c hq => hb.1.2 q c (hown' q c hq).2⟩, hb.2⟩
  refine ⟨φ, hφ.df, hφ.sz, hφ.old, hφ.kept, ?_, ?_, ?_, ?_, ?_, ?_⟩
  · intro q c hq
    exact (hφ.own q c (hown' q c hq).2).mono (fun _ _ => rfl) fun f b hb _ => ⟨hZ f b hb, rfl⟩
  · intro q c g hq
    exact hφ.mine q c g (hown' q c hq).2
  · intro q c hq
    exact hφ.inU q c (hown' q c hq).2
  · intro q q' c c' g hq hq'
    exact hφ.dis q q' c c' g (hown' q c hq).2 (hown' q' c' hq').2
  · intro t sv hsv
    rcases slot_put t sv hsv with ⟨rfl, rfl⟩ | ⟨_, h⟩
    · obtain ⟨v, hv, hr⟩ := hφ.slot t _ hs
      refine ⟨v, hv, ?_⟩
      obtain ⟨g, hg, e⟩ := hr
      obtain ⟨g', ty, cur, hv0, hh, hl, h1⟩ := hφ.own o _ ho
      have hgg : g' = g := by rw [hv0] at hg; simpa [vblock] using hg
      subst hgg
      have hge : K.w0.heap.size ≤ g' := (hφ.mine o _ g' ho hg).resolve_right (hM g')
      have hlt : g' < w.heap.size := (Array.getElem?_eq_some_iff.1 hh).1
      refine ⟨g', 0, cur.toList, by rw [e], ⟨⟨.inl hge, fun q c hq hvq => ?_⟩, fun _ => K.hF _ hge⟩, hlt, Rep.monoL (fun b hb _ => ⟨hZ fr b hb, rfl⟩) hl, h1, fun j v hj => ?_⟩
      · obtain ⟨hne, hq'⟩ := hown' q c hq
        exact hne (hφ.dis q o c _ g' hq' ho hvq hg)
      · refine soft_row hh ?_
        rw [Nat.zero_add, cell_of_row _ g' j cur ty (0, 0) hh]
        simpa using hj
    · obtain ⟨v, hv, hr⟩ := hφ.slot t sv h
      exact ⟨v, hv, hr.mono (hφ.sin t sv h) (fun f b hb _ => ⟨hZ f b hb, rfl⟩) (fun _ _ => rfl)⟩
  · intro t sv hsv
    rcases slot_put t sv hsv with ⟨rfl, rfl⟩ | ⟨_, h⟩
    · trivial
    · exact hφ.sin t sv h

/-! A snapshot: from here on all that there is is old. -/
def fixSl (vs : Nat → Value) (sl : List (Nat × SV)) : List Nat → List (Nat × SV)
  | [] => []
  | s :: ss => match lk sl s with
    | some (.val _ p) => (s, .fix (vs s) p) :: fixSl vs sl ss
    | _ => fixSl vs sl ss
def oldSl (sl : List (Nat × SV)) : List Nat → List (Nat × SV)
  | [] => []
  | s :: ss => match lk sl s with
    | some (.val _ p) => (s, mkv false p) :: oldSl sl ss
    | some (.fptr _ cs) => (s, .fptr false cs) :: oldSl sl ss
    | _ => oldSl sl ss
theorem lk_fixSl {vs : Nat → Value} {sl l2 : List (Nat × SV)} {s : Nat} {sv : SV} : ∀ {ss : List Nat}, lk (fixSl vs sl ss ++ l2) s = some sv → (∃ fr p, s ∈ ss ∧ lk sl s = some (.val fr p) ∧ sv = .fix (vs s) p) ∨ lk l2 s = some sv
  | [], h => .inr h
  | q :: ss, h => by
    simp only [fixSl] at h
    split at h
    · rename_i fr p hq
      rw [List.cons_append, lk_cons] at h
      by_cases e : q = s
      · subst e
        rw [if_pos rfl] at h
        exact .inl ⟨fr, p, .head _, hq, (Option.some.inj h).symm⟩
      · rw [if_neg e] at h
        rcases lk_fixSl h with ⟨fr, p, hm, h⟩ | h
        · exact .inl ⟨fr, p, .tail _ hm, h⟩
        · exact .inr h
    · rcases lk_fixSl h with ⟨fr, p, hm, h⟩ | h
      · exact .inl ⟨fr, p, .tail _ hm, h⟩
      · exact .inr h
theorem lk_oldSl {sl : List (Nat × SV)} {s : Nat} {sv : SV} : ∀ {ss : List Nat}, lk (oldSl sl ss) s = some sv → (∃ fr p, lk sl s = some (.val fr p) ∧ sv = mkv false p) ∨ (∃ fr cs, lk sl s = some (.fptr fr cs) ∧ sv = .fptr false cs)
  | [], h => by simp [oldSl, lk] at h
  | q :: ss, h => by
    simp only [oldSl] at h
    split at h
    · rename_i fr p hq
      rw [lk_cons] at h
      by_cases e : q = s
      · subst e
        rw [if_pos rfl] at h
        exact .inl ⟨fr, p, hq, (Option.some.inj h).symm⟩
      · rw [if_neg e] at h
        exact lk_oldSl h
    · rename_i fr p hq
      rw [lk_cons] at h
      by_cases e : q = s
      · subst e
        rw [if_pos rfl] at h
        exact .inr ⟨fr, p, hq, (Option.some.inj h).symm⟩
      · rw [if_neg e] at h
        exact lk_oldSl h
    · exact lk_oldSl h

/-- What may be read, seen from a snapshot. -/
def Ctx.snap (K : Ctx) (w : World) : Ctx := ⟨K.P, w, fun b => K.w0.heap.size ≤ b ∨ K.Z0 b, fun _ => False, K.n, fun b => w.heap.size ≤ b, fun _ h => h, K.lo, K.vs⟩
theorem Rel.unsnap {K : Ctx} {w1 : World} (hk : Kept K.M K.w0 w1) {E : St} {a : Act} {w : World} (h : Rel (K.snap w1) E a w) : Rel K E a w := by
  obtain ⟨φ, hφ⟩ := h
  have hk2 := hφ.kept
  have hsz : K.w0.heap.size ≤ w1.heap.size := hk.size
  have hZ : ∀ f b, Zf (K.snap w1) E.f φ f b → Zf K E.f φ f b := by
    rintro f b ⟨⟨h1, h2⟩, h3⟩
    refine ⟨⟨?_, h2⟩, fun hf => K.hF _ (Nat.le_trans hsz (h3 hf))⟩
    rcases h1 with h1 | h1
    · exact .inl (Nat.le_trans hsz h1)
    · exact h1
  refine ⟨φ, hφ.df, hφ.sz, hφ.old, ⟨hk2.os.trans hk.os, hk2.tape.trans hk.tape, hk2.output.trans hk.output, Nat.le_trans hk.size hk2.size, fun b hb hm => (hk2.block b (Nat.lt_of_lt_of_le hb hsz) (fun hm => hm)).trans (hk.block b hb hm)⟩, ?_, ?_, hφ.inU, hφ.dis, ?_, hφ.sin⟩
  · exact fun o c ho => (hφ.own o c ho).mono (fun _ _ => rfl) fun f b hb _ => ⟨hZ f b hb, rfl⟩
  · exact fun o c g ho hg => (hφ.mine o c g ho hg).elim (fun h => .inl (Nat.le_trans hsz h)) (fun h => h.elim)
  · intro s sv hs
    obtain ⟨v, hv, hr⟩ := hφ.slot s sv hs
    exact ⟨v, hv, hr.mono (hφ.sin s sv hs) (fun f b hb _ => ⟨hZ f b hb, rfl⟩) (fun _ _ => rfl)⟩
/-- A SNAPSHOT: what is frozen is old from here on; some of it is known by its value. -/
theorem T.snap {K : Ctx} {c : Code} {sl : List (Nat × SV)} {nx : Nat} {Q : Exit → St → Prop} (fx keep : List Nat)
    (h : ∀ (w1 : World) (vs : Nat → Value), (∀ s fr p, lk sl s = some (.val fr p) → Rep w1 (K.snap w1).Z0 (vs s) p) → T (K.snap w1) c ⟨fixSl vs sl fx ++ oldSl sl keep, [], 0⟩ Q) : T K c ⟨sl, [], nx⟩ Q := by
  refine ⟨fun a w hr => ?_⟩
  obtain ⟨φ, hφ⟩ := hr
  let vs : Nat → Value := fun s => (a.tmps[s]?).getD undef
  have hno : ∀ o c, (St.mk sl [] nx).f.own o ≠ some c := by intro o c ho; simp [St.f, lk] at ho
  have hZ1 : ∀ f b, Zf K (St.mk sl [] nx).f φ f b → (K.snap w).Z0 b := fun f b hb => hb.1.1
  have hvs : ∀ s fr p, lk sl s = some (.val fr p) → a.tmps[s]? = some (vs s) ∧ Rep w (K.snap w).Z0 (vs s) p := by
    intro s fr p hs
    obtain ⟨v, hv, hr⟩ := hφ.slot s _ hs
    have e : vs s = v := by simp only [vs, hv, Option.getD_some]
    rw [e]
    exact ⟨hv, Rep.mono (fun b hb _ => ⟨hZ1 _ b hb, rfl⟩) hr⟩
  have hk := (h w vs fun s fr p hs => (hvs s fr p hs).2).out a w ?_
  · refine wp_mono hk ?_
    rintro e a' w' ⟨hf, E, hq, hr⟩
    exact ⟨hf, E, hq, hr.unsnap hφ.kept⟩
  · have hZ : ∀ b, (K.snap w).Z0 b → Zf (K.snap w) (St.mk (fixSl vs sl fx ++ oldSl sl keep) [] 0).f φ false b := fun b hb => ⟨⟨.inr hb, fun o c ho => by simp [St.f, lk] at ho⟩, fun e => by cases e⟩
    refine ⟨φ, hφ.df, hφ.sz, hφ.old, ⟨rfl, rfl, rfl, Nat.le_refl _, fun _ _ _ => rfl⟩, ?_, ?_, ?_, ?_, ?_, ?_⟩
    · intro o c ho; simp [St.f, lk] at ho
    · intro o c g ho; simp [St.f, lk] at ho
    · intro o c ho; simp [St.f, lk] at ho
    · intro o o' c c' g ho; simp [St.f, lk] at ho
    · intro s sv hs
      rcases lk_fixSl hs with ⟨fr, p, _, h1, rfl⟩ | h2
      · obtain ⟨h2, h3⟩ := hvs s fr p h1
        exact ⟨vs s, h2, rfl, Rep.mono (fun b hb _ => ⟨hZ b hb, rfl⟩) h3⟩
      · rcases lk_oldSl h2 with ⟨fr, p, h1, rfl⟩ | ⟨fr, cs, h1, rfl⟩
        · obtain ⟨h2, h3⟩ := hvs s fr p h1
          exact ⟨vs s, h2, (mkv_sound (U := fun _ => True) (Rep.mono (fun b hb _ => ⟨hZ b hb, rfl⟩) h3)).1⟩
        · obtain ⟨v, hv, b, o, xs, e, hz, hb, hl, h4, h5⟩ := hφ.slot s _ h1
          exact ⟨v, hv, b, o, xs, e, hZ b (hZ1 _ b hz), hb, Rep.monoL (fun b hb _ => ⟨hZ b (hZ1 _ b hb), rfl⟩) hl, h4, h5⟩
    · intro s sv hs
      rcases lk_fixSl hs with ⟨fr, p, _, h1, rfl⟩ | h2
      · trivial
      · rcases lk_oldSl h2 with ⟨fr, p, h1, rfl⟩ | ⟨fr, cs, h1, rfl⟩
        · exact mkv_in _ _
        · trivial

/-! A store into what was handed out. -/
/-- Of one shape: all but the integers is the same. -/
inductive Sh : PV → PV → Prop
  | bool (b) : Sh (.bool b) (.bool b)
  | int (k n m) : Sh (.int k n) (.int k m)
  | str (s) : Sh (.str s) (.str s)
  | agg (cs ds) : L2 Sh cs ds → Sh (.agg cs) (.agg ds)
  | sl (rs ts) : L2 (L2 Sh) rs ts → Sh (.sl rs) (.sl ts)
  | fn (f as bs cs ds) : L2 Sh as cs → L2 Sh bs ds → Sh (.fn f as bs) (.fn f cs ds)
  | nilp : Sh .nilp .nilp
  | nilf : Sh .nilf .nilf
theorem Sh.one {p q : PV} (h : Sh p q) : q.one = p.one := by cases h <;> rfl
theorem L2.unflat {α β : Type} {R : α → β → Prop} : ∀ (rows : List (List α)) (ps : List β), L2 R rows.flatten ps → ∃ rows', L2 (L2 R) rows rows' ∧ rows'.flatten = ps
  | [], ps, h => by cases h; exact ⟨[], .nil, rfl⟩
  | r :: rows, ps, h => by
    have hl : ∀ (r : List α) (xs : List α) (ps : List β), L2 R (r ++ xs) ps → ∃ a b, ps = a ++ b ∧ L2 R r a ∧ L2 R xs b := by
      intro r
      induction r with
      | nil => intro xs ps h; exact ⟨[], ps, rfl, .nil, h⟩
      | cons x r ih =>
        intro xs ps h
        cases h with
        | cons h1 h2 =>
          obtain ⟨a, b, rfl, h3, h4⟩ := ih _ _ h2
          exact ⟨_ :: a, b, rfl, .cons h1 h3, h4⟩
    obtain ⟨a, b, rfl, h1, h2⟩ := hl r _ ps h
    obtain ⟨rows', h3, rfl⟩ := L2.unflat rows b h2
    exact ⟨a :: rows', .cons h1 h3, rfl⟩
theorem L2.lens {α β : Type} {R : α → β → Prop} {n : Nat} {rows : List (List α)} {rows' : List (List β)} (h : L2 (L2 R) rows rows') (hl : ∀ r ∈ rows, r.length = n) : ∀ r ∈ rows', r.length = n := by
  induction h with
  | nil => simp
  | cons h1 _ ih =>
    intro r hr
    rcases List.mem_cons.1 hr with rfl | hr
    · rw [← h1.length]; exact hl _ (.head _)
    · exact ih (fun r hr => hl r (.tail _ hr)) r hr
theorem L2.ones {rows rows' : List (List PV)} (h : L2 (L2 Sh) rows rows') (hl : ∀ r ∈ rows, ∀ p ∈ r, p.one = true) : ∀ r ∈ rows', ∀ p ∈ r, p.one = true := by
  induction h with
  | nil => simp
  | @cons a b _ _ h1 _ ih =>
    intro r hr
    rcases List.mem_cons.1 hr with rfl | hr
    · have h2 := hl a (.head _)
      clear ih hl hr
      induction h1 with
      | nil => simp
      | cons h3 _ ih2 =>
        intro p hp
        rcases List.mem_cons.1 hp with rfl | hp
        · rw [h3.one]; exact h2 _ (.head _)
        · exact ih2 (fun p hp => h2 p (.tail _ hp)) p hp
    · exact ih (fun r hr => hl r (.tail _ hr)) r hr

section
variable {w : World} {Z : Nat → Prop} {b0 o0 : Nat} {k0 : IntKind} {n0 m0 : Int}
theorem poke_cell (hc : w.cell? ⟨b0, o0, none⟩ = some (.int k0 n0)) {a : Addr} {v : Value} (h : Soft w a v) : ∃ v', Soft (w.setCell ⟨b0, o0, none⟩ (.int k0 m0)) a v' ∧ (v' = v ∨ (v = .int k0 n0 ∧ v' = .int k0 m0)) := by
  have hfz : (w.setCell ⟨b0, o0, none⟩ (.int k0 m0)).frozen? a = false := by
    rw [← h.2]
    exact World.frozen?_setCell _ _ _ _
  by_cases e : (⟨b0, o0, none⟩ : Addr) = a
  · subst e
    have e2 : v = .int k0 n0 := by
      have h1 := h.1
      rw [hc] at h1
      exact (Option.some.inj h1).symm
    exact ⟨_, ⟨World.cell?_setCell_same _ _ _ hc, hfz⟩, .inr ⟨e2, rfl⟩⟩
  · exact ⟨v, ⟨by rw [World.cell?_setCell_other _ _ _ _ e]; exact h.1, hfz⟩, .inl rfl⟩
theorem poke_list (hc : w.cell? ⟨b0, o0, none⟩ = some (.int k0 n0)) {w' : World} {Z' : Nat → Prop} {b : Nat} : ∀ (xs : List Value) (ps : List PV) (off : Nat), (∀ j v, xs[j]? = some v → Soft w ⟨b, off + j, none⟩ v) →
    L2 (Rep w Z) xs ps → L2 (fun v p => ∃ p', Sh p p' ∧ Rep w' Z' v p') xs ps → ∃ xs' ps', (∀ j v, xs'[j]? = some v → Soft (w.setCell ⟨b0, o0, none⟩ (.int k0 m0)) ⟨b, off + j, none⟩ v) ∧ L2 (Rep w' Z') xs' ps' ∧ L2 Sh ps ps'
  | [], _, off, _, .nil, .nil => ⟨[], [], by simp, .nil, .nil⟩
  | x :: xs, p :: ps, off, h, .cons h0 h0r, .cons h1 h2 => by
    obtain ⟨xs', ps', h3, h4, h5⟩ := poke_list hc xs ps (off + 1) (fun j v hj => by have := h (j + 1) v (by simpa using hj); rwa [show off + (j + 1) = off + 1 + j by omega] at this) h0r h2
    obtain ⟨v', h6, h7⟩ := poke_cell (m0 := m0) hc (h 0 x rfl)
    obtain ⟨p', h8, h9⟩ := h1
    have : ∃ p'', Sh p p'' ∧ Rep w' Z' v' p'' := by
      rcases h7 with rfl | ⟨rfl, rfl⟩
      · exact ⟨p', h8, h9⟩
      · cases h0 with
        | int _ _ => exact ⟨.int k0 m0, .int _ _ _, .int _ _⟩
    obtain ⟨p'', h10, h11⟩ := this
    refine ⟨v' :: xs', p'' :: ps', fun j v hj => ?_, .cons h11 h4, .cons h10 h5⟩
    cases j with
    | zero => simp at hj; subst hj; exact h6
    | succ j => have := h3 j v (by simpa using hj); rwa [show off + (j + 1) = off + 1 + j by omega]
/-- An integer is written over another one: what is read is of the same shape. -/
theorem Rep.poke {Z' : Nat → Prop} (hz : ∀ b, Z b → b < w.heap.size → Z' b) (hc : w.cell? ⟨b0, o0, none⟩ = some (.int k0 n0)) {v : Value} {p : PV} (hr : Rep w Z v p) : ∃ p', Sh p p' ∧ Rep (w.setCell ⟨b0, o0, none⟩ (.int k0 m0)) Z' v p' := by
  have key : ∀ (vs : List Value) (ps : List PV), L2 (fun v p => ∃ p', Sh p p' ∧ Rep (w.setCell ⟨b0, o0, none⟩ (.int k0 m0)) Z' v p') vs ps → ∃ ps', L2 Sh ps ps' ∧ L2 (Rep (w.setCell ⟨b0, o0, none⟩ (.int k0 m0)) Z') vs ps' := by
    intro vs ps h
    induction h with
    | nil => exact ⟨[], .nil, .nil⟩
    | cons h1 _ ih =>
      obtain ⟨p', h2, h3⟩ := h1
      obtain ⟨ps', h4, h5⟩ := ih
      exact ⟨p' :: ps', .cons h2 h4, .cons h3 h5⟩
  refine Rep.rec (motive_1 := fun v p _ => ∃ p', Sh p p' ∧ Rep (w.setCell ⟨b0, o0, none⟩ (.int k0 m0)) Z' v p') (motive_2 := fun vs ps _ => L2 (fun v p => ∃ p', Sh p p' ∧ Rep (w.setCell ⟨b0, o0, none⟩ (.int k0 m0)) Z' v p') vs ps) ?_ ?_ ?_ ?_ ?_ ?_ ?_ ?_ ?_ ?_ ?_ ?_ hr
  · exact fun b => ⟨_, .bool b, .bool b⟩
  · exact fun k n => ⟨_, .int k n n, .int k n⟩
  · exact fun s => ⟨_, .str s, .str s⟩
  · intro vs cs _ h1 ih
    obtain ⟨ps', h2, h3⟩ := key vs cs ih
    refine ⟨_, .agg cs ps' h2, .agg vs ps' h3 ?_⟩
    have := L2.ones (.cons h2 .nil) (by simpa using h1)
    simpa using this
  · exact ⟨_, .sl [] [] .nil, .nilsl⟩
  · exact fun a cap hc => ⟨_, .sl [] [] .nil, .slE a cap hc⟩
  · intro b off cap sz rows xs hzb hb h1 h2 h3 h4 h5 h6 ih
    obtain ⟨xs', ps', h7, h8, h9⟩ := poke_list (m0 := m0) hc xs rows.flatten off h3 h6 ih
    obtain ⟨rows', h10, h11⟩ := L2.unflat rows ps' h9
    have hlen := h10.length
    refine ⟨_, .sl rows rows' h10, ?_⟩
    rw [hlen]
    exact .sl b off cap sz rows' xs' (hz b hzb hb) (by simpa using hb) (h10.lens h1) (h10.ones h2) h7 (by omega) h5 (by rw [h11]; exact h8)
  · intro f vs us first caps _ _ ih1 ih2
    obtain ⟨ps, h1, h2⟩ := key vs first ih1
    obtain ⟨qs, h3, h4⟩ := key us caps ih2
    exact ⟨_, .fn f first caps ps qs h1 h3, .fn f vs us ps qs h2 h4⟩
  · exact ⟨_, .nilp, .nilp⟩
  · exact ⟨_, .nilf, .nilf⟩
  · exact .nil
  · exact fun _ _ ih1 ih2 => .cons ih1 ih2
end

/-- The slots that are known by their values; those without memory. -/
def fxSl (sl : List (Nat × SV)) : List Nat → List (Nat × SV)
  | [] => []
  | s :: ss => match lk sl s with
    | some (.fix v p) => (s, .fix v p) :: fxSl sl ss
    | _ => fxSl sl ss
def flSl (sl : List (Nat × SV)) : List Nat → List (Nat × SV)
  | [] => []
  | s :: ss => match lk sl s with
    | some (.val _ p) => match p.flat with
      | true => (s, .val true p) :: flSl sl ss
      | false => flSl sl ss
    | _ => flSl sl ss
theorem lk_fxSl {sl l2 : List (Nat × SV)} {s : Nat} {sv : SV} : ∀ {ss : List Nat}, lk (fxSl sl ss ++ l2) s = some sv → (∃ v p, s ∈ ss ∧ lk sl s = some (.fix v p) ∧ sv = .fix v p) ∨ lk l2 s = some sv
  | [], h => .inr h
  | q :: ss, h => by
    simp only [fxSl] at h
    split at h
    · rename_i v p hq
      rw [List.cons_append, lk_cons] at h
      by_cases e : q = s
      · subst e
        rw [if_pos rfl] at h
        exact .inl ⟨v, p, .head _, hq, (Option.some.inj h).symm⟩
      · rw [if_neg e] at h
        rcases lk_fxSl h with ⟨v, p, hm, h⟩ | h
        · exact .inl ⟨v, p, .tail _ hm, h⟩
        · exact .inr h
    · rcases lk_fxSl h with ⟨v, p, hm, h⟩ | h
      · exact .inl ⟨v, p, .tail _ hm, h⟩
      · exact .inr h
theorem lk_flSl {sl : List (Nat × SV)} {s : Nat} {sv : SV} : ∀ {ss : List Nat}, lk (flSl sl ss) s = some sv → ∃ fr p, lk sl s = some (.val fr p) ∧ p.flat = true ∧ sv = .val true p
  | [], h => by simp [flSl, lk] at h
  | q :: ss, h => by
    simp only [flSl] at h
    split at h
    · rename_i fr p hq
      split at h
      · rename_i hf
        rw [lk_cons] at h
        by_cases e : q = s
        · subst e
          rw [if_pos rfl] at h
          exact ⟨fr, p, hq, hf, (Option.some.inj h).symm⟩
        · rw [if_neg e] at h
          exact lk_flSl h
      · exact lk_flSl h
    · exact lk_flSl h
/-- An integer is written into what was handed out: what is known by its value stays. -/
theorem J.tr {K : Ctx} {ops : Array Oper} {o : Oper} {rest : List Oper} {sl : List (Nat × SV)} {nx : Nat} {R : St → Prop} {t : TypeId} {x s : Nat} {y : Operand} {k : IntKind} {n m : Int} {cs : List PV} {fy fr : Bool} {inf : TypeInfo} {D : PV} (fx keep : List Nat) (hM : ∀ b, ¬ K.M b) (hFs : ∀ b, K.F b → K.w0.heap.size ≤ b)
    (ho : o.op = .store t (.tmp x) y) (hg : wants ops (St.mk sl [] nx).f o = some true) (hd : o.dst = none) (hx : lk sl x = some (.fptr true (.int k n :: cs))) (hy : (St.mk sl [] nx).f.get y = some (.val fy (.int k m))) (hi : K.P.info? t = some inf) (hs1 : inf.size = 1)
    (hs : lk sl s = some (.val fr D)) (hfx : ∀ q u p, q ∈ fx → lk sl q = some (.fix u p) → Rep K.w0 K.Z0 u p)
    (q : ∀ D', Sh D D' → J K ops false rest ⟨(s, .val fr D') :: (fxSl sl fx ++ flSl sl keep), [], 0⟩ R) : J K ops false (o :: rest) ⟨sl, [], nx⟩ R := by
  refine ⟨TO.mk fun a w Q hr hQ => ?_⟩
  obtain ⟨φ, hφ⟩ := hr
  unfold wpList
  rw [if_pos (wants_sound hφ hg)]
  refine .inl ?_
  obtain ⟨v, hv, b, o0, xs, rfl, hz, hb, hl, h1, hsoft⟩ := hφ.slot x _ hx
  obtain ⟨xs', rfl⟩ : ∃ xs', xs = .int k n :: xs' := by
    cases hl with
    | cons h1 _ => cases h1; exact ⟨_, rfl⟩
  have hcell := hsoft 0 _ rfl
  rw [Nat.add_zero] at hcell
  have hxe : a.eval (.tmp x) = .pointer (some ⟨b, o0, none⟩) := by simp [Act.eval, hv]
  have hye : a.eval y = .int k m := by
    have := (get_sound hφ hy).1
    generalize a.eval y = u at this ⊢
    cases this
    rfl
  have hno : ∀ i c, (St.mk sl [] nx).f.own i ≠ some c := by intro i c hi; simp [St.f, lk] at hi
  have hge : K.w0.heap.size ≤ b := hFs b (hz.2 rfl)
  have hrun : (execOp a.eval o).run K.P w = .ok .skip (w.setCell ⟨b, o0, none⟩ (.int k m)) := by
    have hst : (store (⟨b, o0, none⟩ : Addr) (.int k m)).run K.P w = .ok () (w.setCell ⟨b, o0, none⟩ (.int k m)) := by
      rw [run_store _ _ _ _ _ rfl, hcell.1]
      simp [hcell.2]
    simp only [execOp, ho, hxe, hye, Instr.storeAt, Instr.sureAddr, Sem.run_bind, Sem.run_pure, Result.andThen_ok, storeVar, run_sizeOf' hi, hs1]
    rw [if_neg (by simp [Value.cells])]
    simp only [Value.cells, storeCells, Sem.run_bind, add_addr, Nat.add_zero, hst, Result.andThen_ok, Sem.run_pure]
  unfold Oper.wp
  rw [hrun]
  have hdst : a.put o.dst undef = a := by rw [hd]; rfl
  have hother : ∀ b', b' ≠ b → (w.setCell ⟨b, o0, none⟩ (.int k m)).heap[b']? = w.heap[b']? := fun b' hne => heap_setCell_other w _ b' _ hne
  obtain ⟨vs, hvs, hrs⟩ := hφ.slot s _ hs
  obtain ⟨D', hsh, hrep⟩ := Rep.poke (Z' := Zf K (St.mk sl [] nx).f φ fr) (m0 := m) (fun b hb _ => hb) hcell.1 hrs
  refine (q D' hsh).out.out _ _ Q ?_ hQ
  rw [hdst]
  have hZ : ∀ f b', Zf K (St.mk sl [] nx).f φ f b' → Zf K (St.mk ((s, .val fr D') :: (fxSl sl fx ++ flSl sl keep)) [] 0).f φ f b' := fun f b' hb' => ⟨⟨hb'.1.1, fun i c hi => by simp [St.f, lk] at hi⟩, hb'.2⟩
  refine ⟨φ, hφ.df, hφ.sz, hφ.old, ⟨hφ.kept.os, hφ.kept.tape, hφ.kept.output, by simpa using hφ.kept.size, fun b' hb' hm => (hother b' (by omega)).trans (hφ.kept.block b' hb' hm)⟩, ?_, ?_, ?_, ?_, ?_, ?_⟩
  · intro i c hi; simp [St.f, lk] at hi
  · intro i c g hi; simp [St.f, lk] at hi
  · intro i c hi; simp [St.f, lk] at hi
  · intro i i' c c' g hi; simp [St.f, lk] at hi
  · intro i sv hi
    rcases slot_put i sv hi with ⟨rfl, rfl⟩ | ⟨_, h2⟩
    · exact ⟨vs, hvs, Rep.mono (fun b' hb' _ => ⟨hZ _ b' hb', rfl⟩) hrep⟩
    · rcases lk_fxSl h2 with ⟨u, p, hm, h3, rfl⟩ | h3
      · obtain ⟨v, hv, e, _⟩ := hφ.slot i _ h3
        refine ⟨v, hv, e, ?_⟩
        rw [e]
        refine Rep.mono (fun b' hb' hlt => ⟨⟨⟨.inr hb', fun i c hi => by simp [St.f, lk] at hi⟩, fun e => by cases e⟩, ?_⟩) (hfx i u p hm h3)
        exact (hother b' (by omega)).trans (hφ.kept.block b' hlt (hM b'))
      · obtain ⟨fr', p, h4, hf, rfl⟩ := lk_flSl h3
        obtain ⟨v, hv, hr⟩ := hφ.slot i _ h4
        refine ⟨v, hv, ?_⟩
        have hr : Rep w _ v p := hr
        show Rep _ _ v p
        cases hr <;> first | exact .bool _ | exact .int _ _ | exact .str _ | exact .nilp | exact .nilf | (simp [PV.flat] at hf)
  · intro i sv hi
    rcases slot_put i sv hi with ⟨rfl, rfl⟩ | ⟨_, h2⟩
    · trivial
    · rcases lk_fxSl h2 with ⟨u, p, hm, h3, rfl⟩ | h3
      · trivial
      · obtain ⟨fr', p, h4, hf, rfl⟩ := lk_flSl h3
        trivial
/-- What is fresh need not be. -/
theorem Rel.wk {K : Ctx} {sl : List (Nat × SV)} {ow : List (Nat × Option Own)} {nx : Nat} {o : Nat} {e : TypeId} {sz : Nat} {rows : List (List PV)} (ho : (St.mk sl ow nx).f.own o = some (.sl e sz true rows)) (a : Act) (w : World) (h : Rel K ⟨sl, ow, nx⟩ a w) :
    Rel K ⟨sl, (o, some (.sl e sz false rows)) :: ow, nx⟩ a w := by
  obtain ⟨φ, hφ⟩ := h
  have hown' : ∀ q c, (St.mk sl ((o, some (.sl e sz false rows)) :: ow) nx).f.own q = some c → (q = o ∧ c = .sl e sz false rows) ∨ (q ≠ o ∧ (St.mk sl ow nx).f.own q = some c) := by
    intro q c hq
    simp only [St.f, lk_cons] at hq
    by_cases e : o = q
    · rw [if_pos e] at hq; exact .inl ⟨e.symm, (Option.some.inj hq).symm⟩
    · rw [if_neg e] at hq; exact .inr ⟨Ne.symm e, hq⟩
  have hdom : ∀ q c, (St.mk sl ((o, some (.sl e sz false rows)) :: ow) nx).f.own q = some c → ∃ c', (St.mk sl ow nx).f.own q = some c' := by
    intro q c hq
    rcases hown' q c hq with ⟨rfl, _⟩ | ⟨_, h⟩
    · exact ⟨_, ho⟩
    · exact ⟨_, h⟩
  have hZ : ∀ f b, Zf K (St.mk sl ow nx).f φ f b → Zf K (St.mk sl ((o, some (.sl e sz false rows)) :: ow) nx).f φ f b :=
    fun f b hb => ⟨⟨hb.1.1, fun q c hq => by obtain ⟨c', hq'⟩ := hdom q c hq; exact hb.1.2 q c' hq'⟩, hb.2⟩
  refine ⟨φ, hφ.df, hφ.sz, hφ.old, hφ.kept, ?_, ?_, ?_, ?_, ?_, ?_⟩
  · intro q c hq
    rcases hown' q c hq with ⟨rfl, rfl⟩ | ⟨_, h⟩
    · obtain ⟨xs, hwn, hl, h1, h2⟩ := hφ.own q _ ho
      exact ⟨xs, hwn, hl.imp fun _ _ hp => Rep.mono (fun b hb _ => ⟨hZ false b ⟨hb.1, fun e => by cases e⟩, rfl⟩) hp, h1, h2⟩
    · exact (hφ.own q c h).mono (fun _ _ => rfl) fun f b hb _ => ⟨hZ f b hb, rfl⟩
  · intro q c g hq
    obtain ⟨c', hq'⟩ := hdom q c hq
    exact hφ.mine q c' g hq'
  · intro q c hq
    obtain ⟨c', hq'⟩ := hdom q c hq
    exact hφ.inU q c' hq'
  · intro q q' c c' g hq hq'
    obtain ⟨c1, hq1⟩ := hdom q c hq
    obtain ⟨c2, hq2⟩ := hdom q' c' hq'
    exact hφ.dis q q' c1 c2 g hq1 hq2
  · intro t sv hsv
    obtain ⟨v, hv, hr⟩ := hφ.slot t sv hsv
    exact ⟨v, hv, hr.mono (hφ.sin t sv hsv) (fun f b hb _ => ⟨hZ f b hb, rfl⟩) (fun _ _ => rfl)⟩
  · exact hφ.sin

end Go.Proofs.Ytchajofdjeijfaa
