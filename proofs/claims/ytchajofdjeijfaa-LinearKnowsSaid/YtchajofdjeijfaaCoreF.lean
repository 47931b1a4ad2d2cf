/- Operations that make memory or call: the proof. -/
import Derived.Test.YtchajofdjeijfaaCoreE
namespace Go.Proofs.Ytchajofdjeijfaa
open Go Go.RowKit
set_option linter.unusedVariables false
set_option linter.unusedSimpArgs false

section
variable {K : Ctx} {V : EnvF} {U : Nat → Prop} {φ : Nat → Value} {a : Act} {w : World}

theorem add_nil (V : EnvF) (n : Nat) : V.add n [] = V := by
  cases V
  simp only [EnvF.add, EnvF.mk.injEq, true_and]
  funext o
  simp only [addOwn, List.length_nil, Nat.add_zero]
  rw [if_neg (by omega)]
theorem addU_nil (U : Nat → Prop) (n : Nat) : addU U n [] = U := by
  funext o
  simp only [addU, List.length_nil, Nat.add_zero, eq_iff_iff]
  exact ⟨fun h => h.resolve_right (by omega), .inl⟩

theorem add_addr (b o n : Nat) : (⟨b, o, none⟩ : Addr).add n = ⟨b, o + n, none⟩ := by unfold Addr.add; split <;> simp_all

theorem row_fptr {Z : Bool → Nat → Prop} {fr : Bool} {b off sz : Nat} {rows : List (List PV)} {xs : List Value} (hz : Z fr b) (hlt : b < w.heap.size) (h1 : ∀ r ∈ rows, r.length = sz) (h2 : ∀ r ∈ rows, ∀ p ∈ r, p.one = true)
    (h3 : ∀ j v, xs[j]? = some v → Soft w ⟨b, off + j, none⟩ v) (hl : L2 (Rep w (Z fr)) xs rows.flatten) {i : Nat} {r : List PV} (hi : rows[i]? = some r) :
    SVRel1 w Z φ (.pointer (some ⟨b, off + i * sz, none⟩)) (.fptr fr r) := by
  obtain ⟨rest, hrest⟩ := flatten_drop h1 hi
  have hd := hl.drop (i * sz)
  rw [hrest] at hd
  have hd2 := hd.take r.length
  rw [List.take_left] at hd2
  refine ⟨b, off + i * sz, (xs.drop (i * sz)).take r.length, rfl, hz, hlt, hd2, h2 r (List.mem_of_getElem? hi), fun j x hj => ?_⟩
  have hj2 : (xs.drop (i * sz))[j]? = some x := by
    rw [List.getElem?_take] at hj
    split at hj
    · exact hj
    · cases hj
  rw [Nat.add_assoc]
  exact h3 _ x (by simpa using hj2)

theorem fold_set_list (off : Nat) : ∀ (vs : List Value) (j : Nat) (cells : Array Value), off + j + vs.length ≤ cells.size →
    ((vs.zipIdx j).foldl (fun cs (x : Value × Nat) => cs.setIfInBounds (off + x.2) x.1) cells).toList = cells.toList.take (off + j) ++ vs ++ cells.toList.drop (off + j + vs.length)
  | [], j, cells, h => by simp
  | v :: vs, j, cells, h => by
    simp only [List.zipIdx_cons, List.foldl_cons]
    simp only [List.length_cons] at h
    have ih := fold_set_list off vs (j + 1) (cells.setIfInBounds (off + j) v) (by simp; omega)
    rw [ih, Array.toList_setIfInBounds]
    have := list_seg_step cells.toList (off + j) v vs (by simp; omega)
    simpa [Nat.add_assoc] using this

theorem fill_rows (h : RelW K V U φ a w) {sz : Nat} : ∀ (parts : List (Nat × Operand)) (k : Nat) (fr : Bool) (rows : List (List PV)) (cells : Array Value), rowsPV V sz k parts = some (fr, rows) → cells.size = (k + parts.length) * sz →
    ∃ cells' xs, Instr.fill (fun i => some (i * sz, sz)) cells (parts.map fun x => (x.1, a.eval x.2)) = some cells' ∧ cells'.toList = cells.toList.take (k * sz) ++ xs ∧ L2 (Rep w (Zf K V φ fr)) xs rows.flatten ∧
      (∀ r ∈ rows, r.length = sz) ∧ (∀ r ∈ rows, ∀ p ∈ r, p.one = true) ∧ rows.length = parts.length
  | [], k, fr, rows, cells, hr, hs => by
    simp only [rowsPV, Option.some.injEq, Prod.mk.injEq] at hr
    obtain ⟨rfl, rfl⟩ := hr
    refine ⟨cells, [], rfl, ?_, .nil, by simp, by simp, rfl⟩
    rw [List.append_nil, List.take_of_length_le]
    simp at hs ⊢; omega
  | (i, x) :: parts, k, fr, rows, cells, hr, hs => by
    simp only [rowsPV] at hr
    split at hr
    · rename_i sv f' rows' hik hx hrest
      split at hr
      · rename_i fp p hp
        split at hr
        · rename_i hlen
          simp only [Option.some.injEq, Prod.mk.injEq] at hr
          obtain ⟨rfl, rfl⟩ := hr
          obtain rfl := Nat.eq_of_beq_eq_true hik
          have hlen' := Nat.eq_of_beq_eq_true hlen
          have hrep := ff_sound h hx hp
          have hc := hrep.cells
          have hcl := hc.length
          rw [Array.length_toList] at hcl
          simp only [List.length_cons] at hs
          have hsz : i * sz + sz ≤ cells.size := by
            rw [hs, ← Nat.succ_mul]; exact Nat.mul_le_mul_right _ (by omega)
          have hf := fold_set_list (i * sz) (a.eval x).cells.toList 0 cells (by simp; omega)
          simp only [Nat.add_zero, Array.length_toList] at hf
          obtain ⟨cells', xs, h1, h2, h3, h4, h5, h6⟩ := fill_rows h parts (i + 1) f' rows' ((a.eval x).cells.toList.zipIdx.foldl (fun cs (y : Value × Nat) => cs.setIfInBounds (i * sz + y.2) y.1) cells) hrest (by
            rw [← Array.length_toList, hf]
            simp only [List.length_append, List.length_take, List.length_drop, Array.length_toList]
            rw [Nat.min_eq_left (by omega)]
            have : cells.size = (i + 1 + parts.length) * sz := by rw [hs]; congr 1; omega
            omega)
          refine ⟨cells', (a.eval x).cells.toList ++ xs, ?_, ?_, ?_, ?_, ?_, by simp [h6]⟩
          · simp only [List.map_cons, Instr.fill]
            rw [if_neg (by simp; omega), ← h1]
            congr 1
            rw [← Array.foldl_toList, Array.toList_zipIdx]
          · rw [h2, hf]
            rw [List.take_append_of_le_length (by simp; rw [Nat.min_eq_left (by omega), hcl, hlen', Nat.add_mul]; omega)]
            rw [List.take_of_length_le (by simp; rw [hcl, hlen', Nat.add_mul]; omega), List.append_assoc]
          · rw [List.flatten_cons]; exact (hc.imp fun _ _ hq => hq.weak (by simp; intro a _; exact a)).append (h3.imp fun _ _ hq => hq.weak (by simp))
          · intro r hr
            cases hr with
            | head => exact hlen'
            | tail _ hr => exact h4 r hr
          · intro r hr
            cases hr with
            | head => exact hrep.cells_one
            | tail _ hr => exact h5 r hr
        · cases hr
      · cases hr
    · cases hr

theorem below_alloc (w : World) (o : Obj) : Below w.heap.size w (w.alloc o) := (Below.refl _ _).alloc (Nat.le_refl _) o

theorem run_buildSlice (h : RelW K V U φ a w) {t e : TypeId} {len : Nat} {fr : Bool} {parts : Array (Nat × Operand)} {rows : List (List PV)} {inf : TypeInfo} {z : Value} (hu : K.P.underlying t = some (.slice e)) (hi : K.P.info? e = some inf)
    (hz : inf.zero = some z) (hzs : z.cells.size = inf.size) (hr : rowsPV V inf.size 0 parts.toList = some (fr, rows)) (hlen : rows.length = len) (hm : len * inf.size ≤ 2 ^ 24) :
    ∃ cells : Array Value, (Instr.buildSlice t len (parts.map fun (i, x) => (i, a.eval x))).run K.P w = .ok (.slice (some ⟨w.heap.size, 0, none⟩) len len) (w.alloc (.cells cells e)) ∧ cells.size = len * inf.size ∧
      L2 (Rep w (Zf K V φ fr)) cells.toList rows.flatten ∧ (∀ r ∈ rows, r.length = inf.size) ∧ (∀ r ∈ rows, ∀ p ∈ r, p.one = true) := by
  have hpl : parts.toList.length = len := by
    obtain ⟨_, _, _, _, _, _, _, h6⟩ := fill_rows h parts.toList 0 fr rows (Array.replicate (parts.toList.length * inf.size) undef) hr (by simp)
    omega
  let zs : Array Value := if len * inf.size = 0 then #[] else z.cells
  obtain ⟨cells, xs, h1, h2, h3, h4, h5, h6⟩ := fill_rows h parts.toList 0 fr rows ((Array.range (len * inf.size)).map (zs[· % zs.size]!)) hr (by simp [← hpl])
  simp only [Nat.zero_mul, List.take_zero, List.nil_append] at h2
  have hlx : xs.length = len * inf.size := by
    rw [h3.length, ← hlen]
    clear h1 h2 h3 h5 h6 hr hlen hm
    induction rows with
    | nil => simp
    | cons r rows ih => rw [List.flatten_cons, List.length_append, h4 r (.head _), ih (fun r hr => h4 r (.tail _ hr)), List.length_cons, Nat.succ_mul, Nat.add_comm]
  refine ⟨cells, ?_, by rw [← Array.length_toList, h2, hlx], by rw [h2]; exact h3, h4, h5⟩
  have hsz := run_sizeOf' hi w
  have hpm : (parts.map fun (i, x) => (i, a.eval x)).toList = parts.toList.map fun x => (x.1, a.eval x.2) := by simp
  have hnm : ¬ len * inf.size > 2 ^ 24 := by omega
  simp only [Instr.buildSlice, Sem.run_bind, run_underlying hu, Result.andThen_ok, hsz]
  rw [if_neg hnm]
  by_cases h0 : len * inf.size = 0
  · have hz0 : zs = #[] := by simp [zs, h0]
    rw [hz0] at h1
    simp only [if_pos h0, Sem.run_bind, Sem.run_pure, Result.andThen_ok, hpm, h1]
    rfl
  · have hz0 : zs = z.cells := by simp [zs, h0]
    have hzv : (zeroValue e).run K.P w = .ok z w := by simp [zeroValue, typeInfo, hi, hz]
    rw [hz0] at h1
    simp only [if_neg h0, Sem.run_bind, Sem.run_pure, hzv, Result.andThen_ok, hpm, h1]
    rfl

theorem one_svrel {Z : Bool → Nat → Prop} {v : Value} {s : SV} (h : SVRel1 w Z φ v s) : SVRel w Z φ v s := by
  cases s with
  | tup l => exact h.elim
  | _ => exact h

theorem zof_alloc {n : Nat} {adds : List Own} {hs : List Value} (h : RelW K V U φ a w) (hn : ∀ o, n ≤ o → o < n + adds.length → ¬ U o) (hl : hs.length = adds.length) (hnew : ∀ (i : Nat) v g, hs[i]? = some v → vblock v = some g → w.heap.size ≤ g)
    (b : Nat) (hb : Zof K V φ b) (hlt : b < w.heap.size) : Zof K (V.add n adds) (addφ φ n hs) b := by
  refine ⟨hb.1, fun o c ho hv => ?_⟩
  simp only [EnvF.add, addOwn] at ho
  split at ho
  · rename_i hc
    simp only [addφ] at hv
    rw [if_pos (by omega)] at hv
    have hlt2 : o - n < hs.length := by omega
    simp only [List.getD, List.getElem?_eq_getElem hlt2, Option.getD_some] at hv
    have := hnew (o - n) _ b (List.getElem?_eq_getElem hlt2) hv
    omega
  · rename_i hc
    simp only [addφ] at hv
    rw [if_neg (by omega)] at hv
    exact hb.2 o c ho hv

theorem zf_alloc {n : Nat} {adds : List Own} {hs : List Value} (h : RelW K V U φ a w) (hn : ∀ o, n ≤ o → o < n + adds.length → ¬ U o) (hl : hs.length = adds.length) (hnew : ∀ (i : Nat) v g, hs[i]? = some v → vblock v = some g → w.heap.size ≤ g)
    (f : Bool) (b : Nat) (hb : Zf K V φ f b) (hlt : b < w.heap.size) : Zf K (V.add n adds) (addφ φ n hs) f b := ⟨zof_alloc h hn hl hnew b hb.1 hlt, hb.2⟩

theorem Does.sound (h : RelW K V U φ a w) {n : Nat} {o : Oper} {sv : SV} {adds : List Own} (hd : Does K V n o sv adds) (hn : ∀ o, n ≤ o → o < n + adds.length → ¬ U o)
    {next : Act → World → Prop} {Q : Exit → Act → World → Prop}
    (hk : ∀ v w' φ', RelW K (V.add n adds) (addU U n adds) φ' a w' → SVRel w' (Zf K (V.add n adds) φ') φ' v sv → sv.inU (addU U n adds) → next (a.put o.dst v) w') : o.wp K.P a w next Q := by
  have none_ : adds = [] → ∀ v, SVRel w (Zf K V φ) φ v sv → sv.inU U → next (a.put o.dst v) w := by
    intro e v h1 h2
    subst e
    have := hk v w φ
    rw [add_nil, addU_nil] at this
    exact this h h1 h2
  cases hd with
  | ev he =>
    obtain ⟨v, hv, h1, h2⟩ := ev_sound h he
    unfold Oper.wp
    rw [hv]
    exact none_ rfl v h1 h2
  | @idxf t x i sx fr fi rows r k m e inf ho hx hfz hi hu hinf h0 hr hrl =>
    have hrep := ff_sound h hx hfz
    obtain ⟨hri, _⟩ := get_sound h hi
    generalize hvx : a.eval x = vx at hrep
    generalize hvi : a.eval i = vi at hri
    cases hri
    cases hrep with
    | nilsl => simp at hr
    | slE => simp at hr
    | sl b off cap sz rows xs hz hlt h1 h2 h3 h4 h5 hl =>
      have hmlt : m.toNat < rows.length := (List.getElem?_eq_some_iff.1 hr).1
      have hsz : inf.size = sz := by rw [← hrl]; exact h1 r (List.mem_of_getElem? hr)
      have hrun : (execOp a.eval o).run K.P w = .ok (.value (.pointer (some ⟨b, off + m.toNat * sz, none⟩))) w := by
        have : 0 ≤ m ∧ m < (rows.length : Int) := ⟨h0, by omega⟩
        simp [execOp, ho, hvx, hvi, Instr.indexAt, asIntOf, run_underlying hu, this, run_sizeOf' hinf, add_addr, hsz]
      unfold Oper.wp
      rw [hrun]
      exact none_ rfl _ (row_fptr (φ := φ) (Z := Zf K V φ) hz hlt h1 h2 h3 hl hr) trivial
  | @idxo t x i q fr fi rows k m e' e sz inf ho hx hq hi hu hinf h0 hm hsz =>
    obtain ⟨hrx, hlx⟩ := get_sound h hx
    obtain ⟨hri, _⟩ := get_sound h hi
    generalize hvi : a.eval i = vi at hri
    cases hri
    simp only [SVRel, SVRel1] at hrx
    obtain ⟨xs, hown, _⟩ := h.own q _ hq
    rcases hown.2 with ⟨hv, hn0⟩ | ⟨g, cap, cur, hv, _⟩
    · omega
    · have hrun : (execOp a.eval o).run K.P w = .ok (.value (.pointer (some ⟨g, m.toNat * sz, none⟩))) w := by
        have : 0 ≤ m ∧ m < (rows.length : Int) := ⟨h0, by omega⟩
        simp [execOp, ho, hrx, hv, hvi, Instr.indexAt, asIntOf, run_underlying hu, this, run_sizeOf' hinf, add_addr, hsz]
      unfold Oper.wp
      rw [hrun]
      exact none_ rfl _ ⟨g, by rw [hv]; rfl, by simp⟩ hlx
  | @slf t x lo hi sx fr fl fh rows e inf l hh kl kh ho hx hfz hu hinf hlo hhi h0 hle hlen hsz =>
    have hrep := ff_sound h hx hfz
    have elo : lo = none ∧ l = 0 ∨ ∃ y, lo = some y ∧ a.eval y = .int kl l := by
      rcases hlo with h | ⟨y, hy, hg⟩
      · exact .inl h
      · obtain ⟨hr, _⟩ := get_sound h hg
        generalize hv : a.eval y = v at hr
        cases hr
        exact .inr ⟨y, hy, hv⟩
    have ehi : hi = none ∧ hh = rows.length ∨ ∃ y, hi = some y ∧ a.eval y = .int kh hh := by
      rcases hhi with h | ⟨y, hy, hg⟩
      · exact .inl h
      · obtain ⟨hr, _⟩ := get_sound h hg
        generalize hv : a.eval y = v at hr
        cases hr
        exact .inr ⟨y, hy, hv⟩
    generalize hvx : a.eval x = vx at hrep
    have hbounds : ∀ cap : Nat, rows.length ≤ cap → (Instr.sliceBounds true rows.length cap (lo.map a.eval) (hi.map a.eval) none).run K.P w = .ok (l.toNat, hh.toNat, cap) w := by
      intro cap hcap
      have e1 : (hh.toNat : Int) = hh := Int.toNat_of_nonneg (by omega)
      rcases elo with ⟨rfl, rfl⟩ | ⟨y, rfl, hy⟩ <;> rcases ehi with ⟨rfl, rfl⟩ | ⟨z, rfl, hz⟩
      · simp [Instr.sliceBounds]
      · have : 0 ≤ hh ∧ hh ≤ (cap : Int) := by omega
        simp [Instr.sliceBounds, hz, Instr.sliceBound, asIntOf, this]
      · have : 0 ≤ l ∧ l ≤ (rows.length : Int) := by omega
        simp [Instr.sliceBounds, hy, Instr.sliceBound, asIntOf, this]
      · have h1 : 0 ≤ hh ∧ hh ≤ (cap : Int) := by omega
        have h2 : 0 ≤ l ∧ l ≤ (hh.toNat : Int) := by omega
        simp only [Instr.sliceBounds, Option.map_some, hy, hz, Sem.run_bind, Sem.run_pure, Result.andThen_ok]
        rw [run_sliceBound w kh hh cap _ h1.1 h1.2]
        simp only [Result.andThen_ok]
        rw [run_sliceBound w kl l hh.toNat _ h2.1 h2.2]
        rfl
    cases hrep with
    | nilsl =>
      have e1 : hh = 0 := by simp at hlen; omega
      have e2 : l = 0 := by omega
      subst e1 e2
      have hb := hbounds 0 (by simp)
      simp only [List.length_nil] at hb
      have hrun : (execOp a.eval o).run K.P w = .ok (.value (.slice none 0 0)) w := by
        simp only [execOp, ho, hvx, Sem.run_bind, Instr.sliceAt, Instr.slice, run_underlying hu, Result.andThen_ok, Option.map_none, hb, run_sizeOf' hinf]
        rfl
      unfold Oper.wp
      rw [hrun]
      exact none_ rfl _ (by simp only [List.take_nil, List.drop_nil]; exact Rep.nilsl) trivial
    | slE ad cap hcm =>
      have e1 : hh = 0 := by simp at hlen; omega
      have e2 : l = 0 := by omega
      subst e1 e2
      have hb := hbounds cap (by simp)
      simp only [List.length_nil] at hb
      have hrun : (execOp a.eval o).run K.P w = .ok (.value (.slice (if cap = (0 : Int).toNat then some ad else (some ad).map (·.add ((0 : Int).toNat * inf.size))) ((0 : Int).toNat - (0 : Int).toNat) (cap - (0 : Int).toNat))) w := by
        simp only [execOp, ho, hvx, Sem.run_bind, Instr.sliceAt, Instr.slice, run_underlying hu, Result.andThen_ok, Option.map_none, hb, run_sizeOf' hinf]
        rfl
      unfold Oper.wp
      rw [hrun]
      refine none_ rfl _ ?_ trivial
      simp only [List.take_nil, List.drop_nil]
      split
      · exact Rep.slE _ _ (by simpa using hcm)
      · exact Rep.slE _ _ (by simpa using hcm)
    | sl b off cap sz rows xs hz hlt h1 h2 h3 h4 h5 hl =>
      have hb := hbounds cap h4
      have hrun : (execOp a.eval o).run K.P w = .ok (.value (.slice (if cap = l.toNat then some ⟨b, off, none⟩ else (some (⟨b, off, none⟩ : Addr)).map (·.add (l.toNat * inf.size))) (hh.toNat - l.toNat) (cap - l.toNat))) w := by
        simp only [execOp, ho, hvx, Sem.run_bind, Instr.sliceAt, Instr.slice, run_underlying hu, Result.andThen_ok, Option.map_none, hb, run_sizeOf' hinf]
        rfl
      unfold Oper.wp
      rw [hrun]
      refine none_ rfl _ ?_ trivial
      have hlr : ((rows.take hh.toNat).drop l.toNat).length = hh.toNat - l.toNat := by
        rw [List.length_drop, List.length_take]; omega
      rw [← hlr]
      by_cases hc : cap = l.toNat
      · rw [if_pos hc]
        have hnil : (rows.take hh.toNat).drop l.toNat = [] := List.eq_nil_of_length_eq_zero (by rw [hlr]; omega)
        rw [hnil]
        exact .sl b off _ sz [] [] hz hlt (by simp) (by simp) (by simp) (by simp) (by omega) .nil
      · rw [if_neg hc]
        simp only [Option.map_some, add_addr]
        refine .sl b (off + l.toNat * inf.size) _ inf.size _ ((xs.drop (l.toNat * inf.size)).take ((hh.toNat - l.toNat) * inf.size)) hz hlt ?_ ?_ ?_ (by rw [hlr]; omega) (by omega) ?_
        · exact fun r hr => hsz r (List.mem_of_mem_take (List.mem_of_mem_drop hr))
        · exact fun r hr => h2 r (List.mem_of_mem_take (List.mem_of_mem_drop hr))
        · intro j v hj
          rw [List.getElem?_take] at hj
          split at hj
          · rw [Nat.add_assoc]; exact h3 _ v (by simpa using hj)
          · cases hj
        · have hfl : ∀ (rows : List (List PV)), (∀ r ∈ rows, r.length = inf.size) → ∀ i j, (rows.flatten.drop (i * inf.size)).take (j * inf.size) = ((rows.drop i).take j).flatten := by
            intro rows hs
            have hdrop : ∀ i, rows.flatten.drop (i * inf.size) = (rows.drop i).flatten := by
              intro i
              induction rows generalizing i with
              | nil => simp
              | cons r rows ih =>
                cases i with
                | zero => simp
                | succ i =>
                  have hr0 := hs r (.head _)
                  rw [List.flatten_cons, List.drop_append, List.drop_eq_nil_of_le (by rw [Nat.add_mul]; omega), List.nil_append, List.drop_succ_cons, ← ih (fun r hr => hs r (.tail _ hr)) i]
                  congr 1
                  rw [Nat.add_mul]; omega
            have htake : ∀ (rows : List (List PV)), (∀ r ∈ rows, r.length = inf.size) → ∀ j, rows.flatten.take (j * inf.size) = (rows.take j).flatten := by
              intro rows hs j
              induction rows generalizing j with
              | nil => simp
              | cons r rows ih =>
                cases j with
                | zero => simp
                | succ j =>
                  have hr0 := hs r (.head _)
                  rw [List.flatten_cons, List.take_append, List.take_of_length_le (by rw [Nat.add_mul]; omega), List.take_succ_cons, List.flatten_cons, ← ih (fun r hr => hs r (.tail _ hr)) j]
                  congr 2
                  rw [Nat.add_mul]; omega
            intro i j
            rw [hdrop, htake _ (fun r hr => hs r (List.mem_of_mem_drop hr))]
          have := (hl.drop (l.toNat * inf.size)).take ((hh.toNat - l.toNat) * inf.size)
          rw [hfl rows hsz] at this
          rw [List.drop_take]
          exact this
  | @box t x sx fr p ho hx hfz =>
    have hrep := ff_sound h hx hfz
    have hrun : (execOp a.eval o).run K.P w = .ok (.value (.pointer (some ⟨w.heap.size, 0, none⟩))) (w.alloc (.cells (a.eval x).cells t)) := by
      simp only [execOp, ho, Instr.box, newVar, newRow, Sem.run_bind, run_newObj, Result.andThen_ok]
      rfl
    unfold Oper.wp
    rw [hrun]
    have hz := zf_alloc (n := n) (adds := [.box fr p.cells]) (hs := [.pointer (some ⟨w.heap.size, 0, none⟩)]) h hn rfl (fun i v g hi hg => by
      cases i with
      | zero => simp at hi; subst hi; simp [vblock] at hg; omega
      | succ i => simp at hi)
    refine hk _ _ _ (h.add (below_alloc w _) n _ [.pointer (some ⟨w.heap.size, 0, none⟩)] hn rfl ?_ ?_) ⟨w.heap.size, ?_, by simp⟩ (.inr ⟨Nat.le_refl _, by simp⟩)
    · intro i c v hc hv
      cases i with
      | succ i => simp at hc
      | zero =>
        simp at hc hv
        subst hc hv
        refine ⟨⟨w.heap.size, t, (a.eval x).cells, rfl, heap_alloc_new w _, ?_, hrep.cells_one⟩, fun g hg => by simp [vblock] at hg; omega⟩
        exact Rep.monoL (fun b hb hlt => ⟨hz fr b hb hlt, heap_alloc_old w _ b hlt⟩) hrep.cells
    · intro i j v v' g hi hj _ _
      cases i <;> cases j <;> simp_all
    · simp [addφ, vblock]
  | @gen xs l r hin hl hrun =>
    have h1 := fzList_sound h xs l hl
    obtain ⟨z, h2, h3⟩ := hrun a w (Rep.monoL (fun b _ _ => ⟨trivial, rfl⟩) h1)
    unfold Oper.wp
    rw [h2]
    exact none_ rfl _ (h3 _) trivial
  | @alloc t ps inf z ho hi hz hps =>
    have hti : (typeInfo t).run K.P w = .ok inf w := by simp [typeInfo, hi]
    have hzv : (zeroValue t).run K.P w = .ok z w := by
      simp only [zeroValue, Sem.run_bind, hti, Result.andThen_ok, hz, Sem.run_pure]
    have hrun : (execOp a.eval o).run K.P w = .ok (.value (.pointer (some ⟨w.heap.size, 0, none⟩))) (w.alloc (.cells z.cells t)) := by
      simp only [execOp, ho, Instr.alloc, newVar, newRow, Sem.run_bind, hzv, run_newObj, Result.andThen_ok]
      rfl
    unfold Oper.wp
    rw [hrun]
    refine hk _ _ _ (h.add (below_alloc w _) n _ [.pointer (some ⟨w.heap.size, 0, none⟩)] hn rfl ?_ ?_) ⟨w.heap.size, ?_, by simp⟩ (.inr ⟨Nat.le_refl _, by simp⟩)
    · intro i c v hc hv
      cases i with
      | succ i => simp at hc
      | zero =>
        simp at hc hv
        subst hc hv
        obtain ⟨h1, h2⟩ := zero_sound (w := w.alloc (.cells z.cells t)) (Z := Zf K (V.add n [.box true ps]) (addφ φ n [.pointer (some ⟨w.heap.size, 0, none⟩)]) true) _ _ hps
        exact ⟨⟨w.heap.size, t, z.cells, rfl, heap_alloc_new w _, h1, h2⟩, fun g hg => by simp [vblock] at hg; omega⟩
    · intro i j v v' g hi hj _ _
      cases i <;> cases j <;> simp_all
    · simp [addφ, vblock]
  | @bsv t e len fr parts rows inf z ho hu hi hz hzs hr hlen hm hmx =>
    obtain ⟨cells, hrun, hcs, hl, h1, h2⟩ := run_buildSlice h hu hi hz hzs hr hlen hm
    have hrun' : (execOp a.eval o).run K.P w = .ok (.value (.slice (some ⟨w.heap.size, 0, none⟩) len len)) (w.alloc (.cells cells e)) := by
      simp only [execOp, ho, Sem.run_bind, hrun, Result.andThen_ok]; rfl
    unfold Oper.wp
    rw [hrun']
    have hw := h.world (below_alloc w (.cells cells e))
    have := hk (.slice (some ⟨w.heap.size, 0, none⟩) len len) (w.alloc (.cells cells e)) φ
    rw [add_nil, addU_nil] at this
    refine this hw ?_ trivial
    have hmono : ∀ b, Zf K V φ fr b → b < w.heap.size → Zf K V φ fr b ∧ (w.alloc (.cells cells e)).heap[b]? = w.heap[b]? := fun b hb hlt => ⟨hb, heap_alloc_old w _ b hlt⟩
    subst hlen
    refine Rep.sl w.heap.size 0 rows.length inf.size rows cells.toList ⟨⟨.inl h.kept.size, fun q c hq hv => ?_⟩, fun _ => K.hF _ h.kept.size⟩ (Array.getElem?_eq_some_iff.1 (heap_alloc_new w (.cells cells e))).1 h1 h2 (fun j v hj => ?_) (Nat.le_refl _) ?_ (Rep.monoL hmono hl)
    · have := (h.own q c hq).lt hv; omega
    · refine soft_row (heap_alloc_new w _) ?_
      rw [Nat.zero_add, cell_of_row _ w.heap.size j cells e (0, 0) (heap_alloc_new w _)]
      simpa using hj
    · exact Nat.le_trans hmx (by decide)
  | @bso t e len fr parts rows inf z ho hu hi hz hzs hr hlen hm hmx =>
    obtain ⟨cells, hrun, hcs, hl, h1, h2⟩ := run_buildSlice h hu hi hz hzs hr hlen hm
    have hrun' : (execOp a.eval o).run K.P w = .ok (.value (.slice (some ⟨w.heap.size, 0, none⟩) len len)) (w.alloc (.cells cells e)) := by
      simp only [execOp, ho, Sem.run_bind, hrun, Result.andThen_ok]; rfl
    unfold Oper.wp
    rw [hrun']
    subst hlen
    have hz := zf_alloc (n := n) (adds := [.sl e inf.size fr rows]) (hs := [.slice (some ⟨w.heap.size, 0, none⟩) rows.length rows.length]) h hn rfl (fun i v g hi hg => by
      cases i with
      | zero => simp at hi; subst hi; simp [vblock] at hg; omega
      | succ i => simp at hi)
    refine hk _ _ _ (h.add (below_alloc w _) n _ [.slice (some ⟨w.heap.size, 0, none⟩) rows.length rows.length] hn rfl ?_ ?_) (by simp [SVRel, SVRel1, addφ]) (.inr ⟨Nat.le_refl _, by simp⟩)
    · intro i c v hc hv
      cases i with
      | succ i => simp at hc
      | zero =>
        simp at hc hv
        subst hc hv
        refine ⟨⟨cells.toList, ⟨by simp [hcs], .inr ⟨w.heap.size, rows.length, cells, rfl, Nat.zero_le _, heap_alloc_new w _, Nat.le_refl _, ?_, hcs, ?_⟩⟩, ?_, h1, h2⟩, fun g hg => by simp [vblock] at hg; omega⟩
        · exact Nat.le_trans hmx (by decide)
        · rw [List.take_of_length_le (by simp [hcs])]
        · exact Rep.monoL (fun b hb hlt => ⟨hz fr b hb hlt, heap_alloc_old w _ b hlt⟩) hl
    · intro i j v v' g hi hj _ _
      cases i <;> cases j <;> simp_all
  | @call x args tys f first caps ps al fx res ho hx hargs hspec =>
    obtain ⟨hr, _⟩ := get_sound h hx
    generalize hvx : a.eval x = vx at hr
    cases hr with
    | fn _ vs us _ _ hf hc =>
    obtain ⟨fn, hfn, hbody, hname⟩ := hspec.isFn
    have hrun : (execOp a.eval o).run K.P w = .ok (.enter f (vs ++ args.toList.map a.eval ++ us).toArray) w := by
      have hb : fn.body.isNone = false := by cases hfb : fn.body <;> simp_all
      simp only [execOp, ho, resolve, hvx, Deferred.ofValue, Sem.run_bind, Sem.run_pure, Result.andThen_ok, invoke, callFunc, run_program, hfn, hname, hb, Bool.false_eq_true, if_false]
      congr 2
      apply Array.ext'
      simp
    unfold Oper.wp
    rw [hrun]
    have hall : L2 (Rep w (fun b => al = true → Zof K V φ b)) (vs ++ args.toList.map a.eval ++ us) (first ++ ps ++ caps) :=
      ((Rep.monoL (fun b hb _ => ⟨fun _ => hb.1, rfl⟩) hf).append (args_sound h _ _ hargs)).append (Rep.monoL (fun b hb _ => ⟨fun _ => hb.1, rfl⟩) hc)
    refine (hspec.out w _ _ hall).mono ?_
    rintro e w' ⟨rs, rfl, hb, hret⟩
    have hvl := vals_length hret.each (!al)
    have hz := zof_alloc (n := n) (adds := RV.owns (!al) res) (hs := RV.vals res rs) h hn hvl (fun i v g hi hg => hret.fresh v g (List.mem_of_getElem? hi) hg)
    have hφ : ∀ (i : Nat) v, (RV.vals res rs)[i]? = some v → addφ φ n (RV.vals res rs) (n + i) = v := by
      intro i v hi
      have hlt := (List.getElem?_eq_some_iff.1 hi).1
      simp only [addφ]
      rw [if_pos (by omega)]
      simp [List.getD, hi]
    have hzz : ∀ b, ((al = true ∧ (al = true → Zof K V φ b)) ∨ w.heap.size ≤ b) ∧ (∀ v, v ∈ RV.vals res rs → vblock v ≠ some b) → b < w'.heap.size → Zf K (V.add n (RV.owns (!al) res)) (addφ φ n (RV.vals res rs)) (!al) b ∧ w'.heap[b]? = w'.heap[b]? := by
      rintro b ⟨hb1, hb2⟩ _
      refine ⟨?_, rfl⟩
      have hold : ∀ q c, V.own q = some c → vblock (φ q) ≠ some b := by
        intro q c hq hv
        rcases hb1 with ⟨hal, hzb⟩ | hge
        · exact (hzb hal).2 q c hq hv
        · have := (h.own q c hq).lt hv; omega
      refine ⟨⟨?_, fun q c hq hv => ?_⟩, fun hfr => ?_⟩
      rotate_left 2
      · rcases hb1 with ⟨hal, _⟩ | hge
        · rw [hal] at hfr; cases hfr
        · exact K.hF _ (Nat.le_trans h.kept.size hge)
      · rcases hb1 with ⟨hal, hzb⟩ | hge
        · exact (hzb hal).1
        · exact .inl (Nat.le_trans h.kept.size hge)
      · simp only [EnvF.add, addOwn] at hq
        split at hq
        · rename_i hc
          simp only [addφ] at hv
          rw [if_pos (by omega)] at hv
          have hlt2 : q - n < (RV.vals res rs).length := by omega
          simp only [List.getD, List.getElem?_eq_getElem hlt2, Option.getD_some] at hv
          exact hb2 _ (List.getElem_mem hlt2) hv
        · rename_i hc
          simp only [addφ] at hv
          rw [if_neg (by omega)] at hv
          exact hold q c hq hv
    have heach : L2 (RV1 w' (Zf K (V.add n (RV.owns (!al) res)) (addφ φ n (RV.vals res rs)) (!al))) rs res := by
      refine hret.each.imp fun v r hv => ?_
      cases r with
      | val p => exact Rep.mono hzz hv
      | own e sz rows => exact OwnRel.mono (Z := fun _ b => ((al = true ∧ (al = true → Zof K V φ b)) ∨ w.heap.size ≤ b) ∧ ∀ v, v ∈ RV.vals res rs → vblock v ≠ some b) (c := .sl e sz true rows) hv (fun _ _ => rfl) fun _ => hzz
    have hrel := h.add hb n (RV.owns (!al) res) (RV.vals res rs) hn hvl (fun i c v hc hv => by
      obtain ⟨c', hc', hr'⟩ := (owns_get (Z := Zf K (V.add n (RV.owns (!al) res)) (addφ φ n (RV.vals res rs))) heach).getl hv
      rw [hc] at hc'
      obtain rfl := Option.some.inj hc'
      exact ⟨hr', fun g hg => hret.fresh v g (List.mem_of_getElem? hv) hg⟩) (fun i j v v' g hi hj hv hv' => hret.dis i j v v' g hi hj hv hv')
    obtain ⟨h1, h2⟩ := svs_sound (Z := Zf K (V.add n (RV.owns (!al) res)) (addφ φ n (RV.vals res rs))) res rs n (addφ φ n (RV.vals res rs)) (U := addU U n (RV.owns (!al) res)) heach hφ (fun i hi => .inr ⟨by omega, by omega⟩)
    obtain ⟨h3, h4⟩ := one_sound h1 h2
    exact hk _ w' _ hrel h3 h4
end
end Go.Proofs.Ytchajofdjeijfaa
