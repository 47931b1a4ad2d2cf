/- append and store: what they do to a state. -/
import Derived.Test.YtchajofdjeijfaaCoreF
import Derived.Maps.AppendAt
namespace Go.Proofs.Ytchajofdjeijfaa
open Go Go.RowKit
set_option linter.unusedVariables false
set_option linter.unusedSimpArgs false

/-- The owned things without q (if it is one), and c under number n. -/
def swapOwn (own : Nat → Option Own) (src : Option Nat) (n : Nat) (c : Own) (o : Nat) : Option Own := if o = n then some c else if src = some o then none else own o

section
variable {K : Ctx} {V : EnvF} {U : Nat → Prop} {φ : Nat → Value} {a : Act} {w : World}

/-- The rows of a slice that is read: where they lie. -/
def EnvF.pvf (E : EnvF) : SV → Option (Bool × PV)
  | .val fr p => some (fr, p)
  | .nilsl => some (true, .sl [])
  | .ref o => match E.own o with
    | some (.sl _ _ fr rows) => some (fr, .sl rows)
    | _ => none
  | _ => none

theorem src_rows (h : RelW K V U φ a w) {y : Operand} {sv : SV} {fr : Bool} {rows : List (List PV)} (hy : V.get y = some sv) (hp : V.pvf sv = some (fr, .sl rows)) :
    ((a.eval y = .slice none 0 0 ∨ ∃ ad cap, a.eval y = .slice (some ad) 0 cap) ∧ rows = []) ∨ ∃ b off cap xs, a.eval y = .slice (some ⟨b, off, none⟩) rows.length cap ∧ (∀ j v, xs[j]? = some v → w.cell? ⟨b, off + j, none⟩ = some v) ∧
      L2 (Rep w (Zf K V φ fr)) xs rows.flatten ∧ ∀ r ∈ rows, ∀ p ∈ r, p.one = true := by
  obtain ⟨hr, _⟩ := get_sound h hy
  generalize a.eval y = v at hr ⊢
  cases sv with
  | val f p =>
    simp only [EnvF.pvf, Option.some.injEq, Prod.mk.injEq] at hp
    obtain ⟨rfl, rfl⟩ := hp
    cases hr with
    | nilsl => exact .inl ⟨.inl rfl, rfl⟩
    | slE ad cap _ => exact .inl ⟨.inr ⟨ad, cap, rfl⟩, rfl⟩
    | sl b off cap sz rows xs _ _ _ h1 h2 _ _ h3 => exact .inr ⟨b, off, cap, xs, rfl, fun j v hj => (h2 j v hj).1, h3, h1⟩
  | nilsl => simp only [EnvF.pvf, Option.some.injEq, Prod.mk.injEq, PV.sl.injEq] at hp; exact .inl ⟨.inl hr, hp.2.symm⟩
  | ref o =>
    simp only [EnvF.pvf] at hp
    split at hp
    · rename_i e sz f rows' ho
      simp only [Option.some.injEq, Prod.mk.injEq, PV.sl.injEq] at hp
      obtain ⟨rfl, rfl⟩ := hp
      obtain ⟨xs, hown, hl, h1, h2⟩ := h.own o _ ho
      simp only [SVRel, SVRel1] at hr
      subst hr
      have hcell := fun g hg => hown.cells (g := g) hg
      rcases hown.2 with ⟨hv, hn⟩ | ⟨g, cap, cur, hv, _⟩
      · exact .inl ⟨.inl hv, List.eq_nil_of_length_eq_zero hn⟩
      · rw [hv] at hcell ⊢
        refine .inr ⟨g, 0, cap, xs, rfl, fun j v hj => ?_, hl, h2⟩
        have := hcell g rfl j v hj
        rwa [show (⟨g, 0, none⟩ : Addr).add j = ⟨g, 0 + j, none⟩ by rw [add_addr]] at this
    · cases hp
  | _ => simp [EnvF.pvf] at hp

theorem flatten_length {rows : List (List PV)} {sz : Nat} (h : ∀ r ∈ rows, r.length = sz) : rows.flatten.length = rows.length * sz := by
  induction rows with
  | nil => simp
  | cons r rows ih => rw [List.flatten_cons, List.length_append, h r (.head _), ih (fun r hr => h r (.tail _ hr)), List.length_cons, Nat.succ_mul, Nat.add_comm]

theorem run_append_nilsrc {P : Program} {t e : TypeId} {inf : TypeInfo} {base cap len : Nat} {v : Value} {xs : List Value} (hu : P.underlying t = some (.slice e)) (hi : P.info? e = some inf) (hown : w.ownsRow base e inf.size v len xs) (ty : TypeId) :
    (Builtin.append_ #[t, t] ty #[v, .slice none 0 0]).run P w = .ok v w := by
  rcases hown.2 with ⟨rfl, rfl⟩ | ⟨g, cap, cur, rfl, _, _, hnc, _⟩
  · simp [Builtin.append_, run_underlying hu, run_sizeOf' hi, Builtin.lenOf, Builtin.firstCells]
  · simp [Builtin.append_, run_underlying hu, run_sizeOf' hi, Builtin.lenOf, Builtin.firstCells, hnc, storeCells]

theorem run_append_esrc {P : Program} {t e : TypeId} {inf : TypeInfo} {base cap len : Nat} {v : Value} {xs : List Value} (hu : P.underlying t = some (.slice e)) (hi : P.info? e = some inf) (hown : w.ownsRow base e inf.size v len xs) (ty : TypeId) (ad : Addr) (c : Nat) :
    (Builtin.append_ #[t, t] ty #[v, .slice (some ad) 0 c]).run P w = .ok v w := by
  rcases hown.2 with ⟨rfl, rfl⟩ | ⟨g, cap, cur, rfl, _, _, hnc, _⟩
  · simp [Builtin.append_, run_underlying hu, run_sizeOf' hi, Builtin.lenOf, Builtin.firstCells, loadCells, loadCellsFrom]
  · simp [Builtin.append_, run_underlying hu, run_sizeOf' hi, Builtin.lenOf, Builtin.firstCells, hnc, storeCells, loadCells, loadCellsFrom]

theorem append_sound (h : RelW K V U φ a w) {o : Oper} {args : Array Operand} {tys : Array TypeId} {s y : Operand} {t e : TypeId} {src : Option Nat} {n sz : Nat} {fr fy : Bool} {rows rows2 : List (List PV)} {sv : SV} {inf : TypeInfo} {z : Value}
    (ho : o.op = .call { callee := .builtin .append, args := args, argTypes := tys }) (ha : args.toList = [s, y]) (ht : tys.toList = [t, t])
    (hs : (∃ q, src = some q ∧ V.get s = some (.ref q) ∧ V.own q = some (.sl e sz fr rows)) ∨ (src = none ∧ V.get s = some .nilsl ∧ rows = [] ∧ fr = true))
    (hy : V.get y = some sv) (hp : V.pvf sv = some (fy, .sl rows2))
    (hu : K.P.underlying t = some (.slice e)) (hi : K.P.info? e = some inf) (hsz : inf.size = sz) (hz : inf.zero = some z) (hzs : z.cells.size = sz) (h0 : 0 < sz)
    (hl2 : ∀ r ∈ rows2, r.length = sz) (h63 : rows.length + rows2.length ≤ maxLen) (hby : (rows.length + rows2.length) * inf.bytes ≤ 140737488355328)
    (hn : ¬ U n) {next : Act → World → Prop} {Q : Exit → Act → World → Prop}
    (hk : ∀ v w' φ', RelW K ⟨V.slot, swapOwn V.own src n (.sl e sz (fr && fy) (rows ++ rows2))⟩ (fun i => U i ∨ i = n) φ' a w' → v = φ' n → next (a.put o.dst v) w') : o.wp K.P a w next Q := by
  have ea : args = #[s, y] := by rw [← Array.toArray_toList (xs := args), ha]
  have et : tys = #[t, t] := by rw [← Array.toArray_toList (xs := tys), ht]
  subst ea et
  -- what the first argument owns
  obtain ⟨xs, hown, hlx, hr1, hr2, hsrc⟩ : ∃ xs, w.ownsRow 0 e sz (a.eval s) rows.length xs ∧ L2 (Rep w (Zf K V φ fr)) xs rows.flatten ∧ (∀ r ∈ rows, r.length = sz) ∧ (∀ r ∈ rows, ∀ p ∈ r, p.one = true) ∧
      ((∃ q c, src = some q ∧ V.own q = some c ∧ φ q = a.eval s) ∨ (src = none ∧ vblock (a.eval s) = none)) := by
    rcases hs with ⟨q, rfl, hg, hq⟩ | ⟨rfl, hg, rfl, rfl⟩
    · obtain ⟨hr, _⟩ := get_sound h hg
      simp only [SVRel, SVRel1] at hr
      obtain ⟨xs, hown, hl, h1, h2⟩ := h.own q _ hq
      rw [hr]
      exact ⟨xs, hown, hl, h1, h2, .inl ⟨q, _, rfl, hq, rfl⟩⟩
    · obtain ⟨hr, _⟩ := get_sound h hg
      simp only [SVRel, SVRel1] at hr
      rw [hr]
      exact ⟨[], World.ownsRow_nil w 0 e sz, .nil, by simp, by simp, .inr ⟨rfl, rfl⟩⟩
  -- the run
  obtain ⟨v', w', news, hrun, hown', hgr, hat, hln, hone⟩ : ∃ v' w' news, (Builtin.append_ #[t, t] o.type #[a.eval s, a.eval y]).run K.P w = .ok v' w' ∧ w'.ownsRow 0 e sz v' (rows.length + rows2.length) (xs ++ news) ∧
      w.grownBy w' (a.eval s).ownBlock ∧ (v'.ownBlock = (a.eval s).ownBlock ∨ v'.ownBlock = some w.heap.size) ∧ L2 (Rep w (Zf K V φ fy)) news rows2.flatten ∧ ∀ r ∈ rows2, ∀ p ∈ r, p.one = true := by
    rcases src_rows h hy hp with ⟨hnil | ⟨ad, c, hnil⟩, rfl⟩ | ⟨b, off, cap, ys, hv, hcell, hly, h1⟩
    · rw [hnil]
      refine ⟨a.eval s, w, [], run_append_nilsrc (cap := 0) hu hi (by rw [hsz]; exact hown) _, by simpa using hown, ⟨rfl, rfl, rfl, Nat.le_refl _, fun _ _ _ => rfl⟩, .inl rfl, .nil, by simp⟩
    · rw [hnil]
      refine ⟨a.eval s, w, [], run_append_esrc (cap := 0) hu hi (by rw [hsz]; exact hown) _ ad c, by simpa using hown, ⟨rfl, rfl, rfl, Nat.le_refl _, fun _ _ _ => rfl⟩, .inl rfl, .nil, by simp⟩
    · have hyl : ys.length = rows2.length * sz := by rw [hly.length, flatten_length hl2]
      have hone : ∀ u ∈ ys, u.oneCell' = true := by
        intro u hu
        obtain ⟨p, hp, hr⟩ := hly.mem hu
        obtain ⟨r, hr2, hp2⟩ := List.mem_flatten.1 hp
        exact hr.one (h1 r hr2 p hp2)
      obtain ⟨v', w', hr, h2, h3, _, h5⟩ := run_append_own_at (P := K.P) w 0 t o.type e inf z sz inf.bytes hu hi hz hsz rfl hzs h0 (a.eval s) rows.length xs hown ⟨b, off, none⟩ rows2.length cap ys hyl
        (fun j u hj => by rw [add_addr]; exact hcell j u hj) hone h63 hby (Nat.zero_le _)
      rw [hv]
      exact ⟨v', w', ys, hr, h2, h3, h5, hly, h1⟩
  have hrun' : (execOp a.eval o).run K.P w = .ok (.value v') w' := by
    simp only [execOp, ho, resolve, invoke, builtin, Sem.run_bind, Sem.run_pure, Result.andThen_ok, List.map_toArray, List.map_cons, List.map_nil, hrun]
  unfold Oper.wp
  rw [hrun']
  have hvb' := fun g => vblock_own (g := g) hown'
  have hvbs := fun g => vblock_own (g := g) hown
  let φ' : Nat → Value := fun i => if i = n then v' else φ i
  have hne : ∀ i, U i → i ≠ n := fun i hu e => hn (e ▸ hu)
  have hlen : (rows ++ rows2).length = rows.length + rows2.length := by simp
  -- blocks that have turned
  have hD : ∀ b, b < w.heap.size → ¬ (vblock (a.eval s) = some b) → w'.heap[b]? = w.heap[b]? := fun b hlt hb => hgr.block b hlt (fun e => hb (by rw [hvbs 0]; exact e.symm))
  have hZ : ∀ b, Zof K V φ b → b < w.heap.size → Zof K ⟨V.slot, swapOwn V.own src n (.sl e sz (fr && fy) (rows ++ rows2))⟩ φ' b ∧ w'.heap[b]? = w.heap[b]? := by
    intro b hb hlt
    have hnb : ¬ (vblock (a.eval s) = some b) := by
      intro e
      rcases hsrc with ⟨q, c, rfl, hq, hφ⟩ | ⟨rfl, hnone⟩
      · exact hb.2 q c hq (by rw [hφ]; exact e)
      · rw [hnone] at e; cases e
    refine ⟨⟨hb.1, fun i c hi hv => ?_⟩, hD b hlt hnb⟩
    simp only [swapOwn] at hi
    by_cases hin : i = n
    · subst hin
      simp only [φ', if_pos] at hv
      rw [hvb' 0] at hv
      rcases hat with hat | hat
      · rw [hat, ← hvbs 0] at hv; exact hnb hv
      · rw [hat] at hv; simp at hv; omega
    · rw [if_neg hin] at hi
      simp only [φ', if_neg hin] at hv
      split at hi
      · cases hi
      · exact hb.2 i c hi hv
  have hZf : ∀ f b, Zf K V φ f b → b < w.heap.size → Zf K ⟨V.slot, swapOwn V.own src n (.sl e sz (fr && fy) (rows ++ rows2))⟩ φ' f b ∧ w'.heap[b]? = w.heap[b]? := fun f b hb hlt => ⟨⟨(hZ b hb.1 hlt).1, hb.2⟩, (hZ b hb.1 hlt).2⟩
  refine hk v' w' φ' (h.step (fun b => vblock (a.eval s) = some b) (fun i => i = n ∨ src = some i) rfl (fun _ hu => .inl hu) (fun i hu => by simp only [φ', if_neg (hne i hu)]) hgr.os hgr.tape hgr.output hgr.size hD ?_ ?_ ?_ ?_) (by simp [φ'])
  · intro b hlt hb
    rcases hsrc with ⟨q, c, rfl, hq, hφ⟩ | ⟨rfl, hnone⟩
    · exact ⟨q, c, hq, by rw [hφ]; exact hb, .inr rfl⟩
    · rw [hnone] at hb; cases hb
  · intro i c hi hc
    simp only [swapOwn] at hi
    rw [if_neg (fun e => hc (.inl e)), if_neg (fun e => hc (.inr e))] at hi
    exact hi
  · intro i c hi hc
    have hin : i = n := by
      rcases hc with hc | hc
      · exact hc
      · simp only [swapOwn] at hi
        by_cases e : i = n
        · exact e
        · rw [if_neg e, if_pos hc] at hi; cases hi
    subst hin
    simp only [swapOwn, if_pos, Option.some.injEq] at hi
    subst hi
    refine ⟨.inr rfl, ?_, ?_⟩
    · simp only [φ', if_pos]
      refine ⟨xs ++ news, by rw [hlen]; exact hown', ?_, ?_, ?_⟩
      · rw [List.flatten_append]
        exact ((Rep.monoL (hZf fr) hlx).imp fun _ _ hq => hq.weak (by simp; intro a _; exact a)).append ((Rep.monoL (hZf fy) hln).imp fun _ _ hq => hq.weak (by simp))
      · intro r hr
        rcases List.mem_append.1 hr with hr | hr
        · exact hr1 r hr
        · exact hl2 r hr
      · intro r hr
        rcases List.mem_append.1 hr with hr | hr
        · exact hr2 r hr
        · exact hone r hr
    · intro g hg
      simp only [φ', if_pos] at hg
      rw [hvb' 0] at hg
      rcases hat with hat | hat
      · rw [hat, ← hvbs 0] at hg
        rcases hsrc with ⟨q, c, rfl, hq, hφ⟩ | ⟨rfl, hnone⟩
        · exact .inr ⟨q, c, hq, by rw [hφ]; exact hg, .inr rfl⟩
        · rw [hnone] at hg; cases hg
      · rw [hat] at hg; simp at hg; omega
  · intro i i' c c' g hi hi' hc hc' _ _
    have key : ∀ i c, swapOwn V.own src n (.sl e sz (fr && fy) (rows ++ rows2)) i = some c → (i = n ∨ src = some i) → i = n := by
      intro i c hi hc
      rcases hc with hc | hc
      · exact hc
      · simp only [swapOwn] at hi
        by_cases e : i = n
        · exact e
        · rw [if_neg e, if_pos hc] at hi; cases hi
    rw [key i c hi hc, key i' c' hi' hc']

/-- Cells written at a row's place. -/
def Own.put : Own → Nat → Nat → Nat → Bool → List PV → Option Own
  | .sl e sz fr rows, i, off, st, f, ps => match Nat.beq sz st, rows[i]? with
    | true, some r => match Nat.ble (off + ps.length) r.length with
      | true => some (.sl e sz (fr && f) (rows.set i (putCells r off ps)))
      | false => none
    | _, _ => none
  | .box fr row, i, off, st, f, ps => match i, Nat.ble (off + ps.length) row.length with
    | 0, true => some (.box (fr && f) (putCells row off ps))
    | _, _ => none

theorem putCells_length : ∀ (ps cs : List PV) (n : Nat), (putCells cs n ps).length = cs.length
  | [], cs, n => rfl
  | p :: ps, cs, n => by simp only [putCells]; rw [putCells_length ps]; simp

theorem putCells_append : ∀ (ps cs ds : List PV) (n : Nat), n + ps.length ≤ cs.length → putCells (cs ++ ds) n ps = putCells cs n ps ++ ds
  | [], cs, ds, n, h => rfl
  | p :: ps, cs, ds, n, h => by
    simp only [List.length_cons] at h
    simp only [putCells]
    rw [List.set_append_left _ _ (by omega), putCells_append ps _ ds (n + 1) (by simp; omega)]

theorem putCells_append_right : ∀ (ps cs ds : List PV) (n : Nat), putCells (cs ++ ds) (cs.length + n) ps = cs ++ putCells ds n ps
  | [], cs, ds, n => rfl
  | p :: ps, cs, ds, n => by
    simp only [putCells]
    rw [List.set_append_right _ _ (by omega), Nat.add_sub_cancel_left, Nat.add_assoc, putCells_append_right ps cs _ (n + 1)]

theorem putCells_flatten {sz : Nat} : ∀ (rows : List (List PV)) (i off : Nat) (r ps : List PV), (∀ r ∈ rows, r.length = sz) → rows[i]? = some r → off + ps.length ≤ r.length →
    putCells rows.flatten (i * sz + off) ps = (rows.set i (putCells r off ps)).flatten
  | [], i, off, r, ps, _, h, _ => by simp at h
  | r0 :: rows, 0, off, r, ps, hl, h, hle => by
    simp at h
    subst h
    simp only [Nat.zero_mul, Nat.zero_add, List.set_cons_zero, List.flatten_cons]
    exact putCells_append ps r0 rows.flatten off hle
  | r0 :: rows, i + 1, off, r, ps, hl, h, hle => by
    simp at h
    simp only [List.set_cons_succ, List.flatten_cons]
    have h0 := hl r0 (.head _)
    have e : (i + 1) * sz + off = r0.length + (i * sz + off) := by rw [h0, Nat.add_mul]; omega
    rw [e, putCells_append_right, putCells_flatten rows i off r ps (fun r hr => hl r (.tail _ hr)) h hle]

theorem putCells_take : ∀ (xs : List Value) (vs : List Value) (ps cs : List PV) (n : Nat) (R : Value → PV → Prop), L2 R xs cs → L2 R vs ps → n + ps.length ≤ cs.length →
    L2 R (xs.take n ++ vs ++ xs.drop (n + vs.length)) (putCells cs n ps) := by
  intro xs vs ps cs n R hx hv hle
  have hvl := hv.length
  have key : ∀ (ps cs : List PV) (n : Nat), n + ps.length ≤ cs.length → putCells cs n ps = cs.take n ++ ps ++ cs.drop (n + ps.length) := by
    intro ps
    induction ps with
    | nil => intro cs n h; simp [putCells]
    | cons p ps ih =>
      intro cs n h
      simp only [List.length_cons] at h
      simp only [putCells]
      rw [ih _ _ (by simp; omega)]
      have h1 : (cs.set n p).take (n + 1) = cs.take n ++ [p] := by
        rw [List.take_succ_eq_append_getElem (by simp; omega)]
        have : (cs.set n p).take n = cs.take n := by
          apply List.ext_getElem?
          intro j
          simp only [List.getElem?_take, List.getElem?_set]
          by_cases hj : j < n
          · simp [hj, show n ≠ j by omega]
          · simp [hj]
        simp [this]
      have h2 : (cs.set n p).drop (n + 1 + ps.length) = cs.drop (n + (ps.length + 1)) := by
        rw [List.drop_set_of_lt (by omega)]
        congr 1
        omega
      rw [h1, h2]
      simp
  rw [key ps cs n hle, hvl]
  exact ((hx.take n).append hv).append (hx.drop _)

theorem run_storeAt {P : Program} {t : TypeId} {inf : TypeInfo} {g o : Nat} {et : TypeId} {cur : Array Value} {v : Value} (hi : P.info? t = some inf) (hs : v.cells.size = inf.size) (hg : w.heap[g]? = some (.cells cur et (0, 0)))
    (hle : o + v.cells.size ≤ cur.size) (h1 : ∀ u ∈ v.cells.toList, u.oneCell' = true) :
    (Instr.storeAt t (.pointer (some ⟨g, o, none⟩)) v).run P w = .ok () (w.setRow g (cur.toList.take o ++ v.cells.toList ++ cur.toList.drop (o + v.cells.size)).toArray) := by
  have := run_storeCells_at P g o et v.cells.toList 0 cur w hg (by simpa using hle) h1
  simp only [Nat.add_zero, Array.length_toList] at this
  simp only [Instr.storeAt, Instr.sureAddr, Sem.run_bind, Sem.run_pure, Result.andThen_ok, storeVar, run_sizeOf' hi]
  rw [if_neg (by omega)]
  exact this

theorem store_sound (h : RelW K V U φ a w) {o : Oper} {t : TypeId} {x y : Operand} {q i off st : Nat} {c c' : Own} {sv : SV} {fp : Bool} {p : PV} {inf : TypeInfo}
    (ho : o.op = .store t x y) (hx : V.get x = some (.optr q i off st)) (hq : V.own q = some c) (hy : V.get y = some sv) (hp : sv.ff = some (fp, p)) (hi : K.P.info? t = some inf) (hs : p.cells.length = inf.size)
    (hc : c.put i off st fp p.cells = some c') {next : Act → World → Prop} {Q : Exit → Act → World → Prop}
    (hk : ∀ w', RelW K ⟨V.slot, fun j => if j = q then some c' else V.own j⟩ U φ a w' → next (a.put o.dst undef) w') : o.wp K.P a w next Q := by
  obtain ⟨hrx, -⟩ := get_sound h hx
  obtain ⟨g, hg, hv⟩ := hrx
  have hrep := ff_sound h hy hp
  have hrc := hrep.cells
  have hcl := hrc.length
  rw [Array.length_toList] at hcl
  have hone : ∀ u ∈ (a.eval y).cells.toList, u.oneCell' = true := by
    intro u hu
    obtain ⟨r, hr, hu2⟩ := hrc.mem hu
    exact hu2.one (hrep.cells_one r hr)
  have hown := h.own q c hq
  -- the block, before and behind
  obtain ⟨et, cur, hblk, hfit, hnew⟩ : ∃ et cur, w.heap[g]? = some (.cells cur et (0, 0)) ∧ i * st + off + (a.eval y).cells.size ≤ cur.size ∧
      ∀ (w' : World) (φ' : Nat → Value) (V' : EnvF), w'.heap[g]? = some (.cells (cur.toList.take (i * st + off) ++ (a.eval y).cells.toList ++ cur.toList.drop (i * st + off + (a.eval y).cells.size)).toArray et (0, 0)) →
        (∀ f b, Zf K V φ f b → b < w.heap.size → Zf K V' φ' f b ∧ w'.heap[b]? = w.heap[b]?) → OwnRel w' (Zf K V' φ') (φ q) c' := by
    cases c with
    | sl e sz fr rows =>
      obtain ⟨xs, hwn, hl, h1, h2⟩ := hown
      rw [vblock_own (g := g) hwn] at hg
      simp only [Own.put] at hc
      split at hc
      · rename_i r hsz hri
        split at hc
        · rename_i hle
          obtain rfl := Option.some.inj hc
          obtain rfl := Nat.eq_of_beq_eq_true hsz
          have hle' := Nat.le_of_ble_eq_true hle
          have hr0 := h1 r (List.mem_of_getElem? hri)
          have hil : i < rows.length := (List.getElem?_eq_some_iff.1 hri).1
          rcases hwn.2 with ⟨hv0, _⟩ | ⟨g', cap, cur, hv0, hb, hgg, hnc, hcm, hcs, htake⟩
          · rw [hv0] at hg; simp [Value.ownBlock] at hg
          · rw [hv0] at hg
            simp [Value.ownBlock] at hg
            subst hg
            have hpos : i * sz + off + (a.eval y).cells.size ≤ rows.length * sz := by
              have : i * sz + sz ≤ rows.length * sz := by rw [← Nat.succ_mul]; exact Nat.mul_le_mul_right _ hil
              omega
            have hcap : rows.length * sz ≤ cap * sz := Nat.mul_le_mul_right _ hnc
            refine ⟨e, cur, hgg, by omega, fun w' φ' V' hw' hz' => ?_⟩
            have hxl : xs.length = rows.length * sz := hwn.1
            refine ⟨xs.take (i * sz + off) ++ (a.eval y).cells.toList ++ xs.drop (i * sz + off + (a.eval y).cells.toList.length), ?_, ?_, ?_, ?_⟩
            · refine ⟨by simp; omega, .inr ⟨g', cap, _, by rw [hv0]; simp, hb, hw', by simpa using hnc, hcm, ?_, ?_⟩⟩
              · simp; omega
              · simp only [List.length_set]
                rw [← htake]
                have hcl2 : cur.toList.length = cap * sz := by rw [Array.length_toList, hcs]
                apply List.ext_getElem?
                intro j
                simp only [Array.length_toList]
                by_cases hj : j < rows.length * sz
                · rw [List.getElem?_take, if_pos hj]
                  simp only [List.getElem?_append, List.length_append, List.length_take, Array.length_toList, List.take_take]
                  simp only [List.getElem?_take, List.getElem?_drop]
                  rw [Nat.min_eq_left (by omega), Nat.min_eq_left (by omega), Nat.min_eq_left (by omega)]
                  by_cases h3 : j < i * sz + off
                  · simp only [h3, hj, if_true, show j < i * sz + off + (a.eval y).cells.size by omega]
                  · by_cases h4 : j < i * sz + off + (a.eval y).cells.size
                    · simp [h3, h4]
                    · simp only [h3, h4, if_false]
                      rw [if_pos (by omega)]
                · rw [List.getElem?_take, if_neg hj, List.getElem?_eq_none]
                  simp; omega
            · rw [← putCells_flatten rows i off r p.cells h1 hri hle']
              exact putCells_take xs _ _ _ _ _ ((Rep.monoL (hz' fr) hl).imp fun _ _ hq => hq.weak (by simp; intro a _; exact a)) ((Rep.monoL (hz' fp) hrc).imp fun _ _ hq => hq.weak (by simp)) (by rw [flatten_length h1]; omega)
            · intro r' hr'
              rcases List.mem_or_eq_of_mem_set hr' with h3 | h3
              · exact h1 r' h3
              · rw [h3, putCells_length]; exact hr0
            · intro r' hr'
              rcases List.mem_or_eq_of_mem_set hr' with h3 | h3
              · exact h2 r' h3
              · rw [h3]; exact put_one _ _ _ (h2 r (List.mem_of_getElem? hri)) hrep.cells_one
        · cases hc
      · cases hc
    | box fr row =>
      obtain ⟨g', et, cur, hv0, hgg, hl, h1⟩ := hown
      rw [hv0] at hg
      simp [vblock] at hg
      subst hg
      simp only [Own.put] at hc
      split at hc
      · rename_i hle
        obtain rfl := Option.some.inj hc
        have hle' := Nat.le_of_ble_eq_true hle
        have hll := hl.length
        rw [Array.length_toList] at hll
        refine ⟨et, cur, hgg, by omega, fun w' φ' V' hw' hz' => ⟨g', et, _, hv0, hw', ?_, put_one _ _ _ h1 hrep.cells_one⟩⟩
        have := putCells_take _ _ _ _ off _ ((Rep.monoL (hz' fr) hl).imp fun _ _ hq => hq.weak (g := fr && fp) (by simp; intro a _; exact a)) ((Rep.monoL (hz' fp) hrc).imp fun _ _ hq => hq.weak (g := fr && fp) (by simp)) hle'
        simpa using this
      · cases hc
  have hrun := run_storeAt (P := K.P) (v := a.eval y) hi (by omega) hblk hfit hone
  have hrun' : (execOp a.eval o).run K.P w = .ok .skip (w.setRow g (cur.toList.take (i * st + off) ++ (a.eval y).cells.toList ++ cur.toList.drop (i * st + off + (a.eval y).cells.size)).toArray) := by
    simp only [execOp, ho, hv, Sem.run_bind, hrun, Result.andThen_ok]; rfl
  unfold Oper.wp
  rw [hrun']
  refine hk _ (h.step (fun b => b = g) (fun j => j = q) rfl (fun _ hu => hu) (fun _ _ => rfl) rfl rfl rfl (by simp) (fun b _ hb => setRow_other w g b _ hb) ?_ ?_ ?_ ?_)
  · rintro b _ rfl
    exact ⟨q, c, hq, hg, rfl⟩
  · intro j c1 hj hne
    simpa [hne] using hj
  · intro j c1 hj hje
    subst hje
    simp only [if_pos, Option.some.injEq] at hj
    subst hj
    refine ⟨h.inU j c hq, hnew _ _ _ (setRow_heap w g cur _ et (0, 0) hblk) ?_, fun g' hg' => .inr ⟨j, c, hq, hg', rfl⟩⟩
    intro f b hb hlt
    refine ⟨⟨⟨hb.1.1, fun k c2 hk hv2 => ?_⟩, hb.2⟩, setRow_other w g b _ fun e => ?_⟩
    · by_cases e : k = j
      · subst e; exact hb.1.2 k c hq hv2
      · simp only [if_neg e] at hk; exact hb.1.2 k c2 hk hv2
    · subst e; exact hb.1.2 j c hq hg
  · rintro j j' _ _ _ _ _ rfl rfl _ _
    rfl
end
end Go.Proofs.Ytchajofdjeijfaa
