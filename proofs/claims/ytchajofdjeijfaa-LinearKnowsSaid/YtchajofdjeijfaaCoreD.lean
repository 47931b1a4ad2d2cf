/- The function on states tells what the machine does: its proof, second part. -/
import Derived.Test.YtchajofdjeijfaaCoreC
namespace Go.Proofs.Ytchajofdjeijfaa
open Go Go.RowKit
set_option linter.unusedVariables false
set_option linter.unusedSimpArgs false

section
variable {K : Ctx} {E : EnvF} {U : Nat → Prop} {φ : Nat → Value} {a : Act} {w : World}

theorem fold_put {R : Value → PV → Prop} (off : Nat) : ∀ (vs : List Value) (ps : List PV) (k : Nat) (cells : Array Value) (cs : List PV), L2 R vs ps → L2 R cells.toList cs →
    L2 R ((vs.zipIdx k).foldl (fun cs (x : Value × Nat) => cs.setIfInBounds (off + x.2) x.1) cells).toList (putCells cs (off + k) ps)
  | _, _, k, cells, cs, .nil, hc => by simpa [putCells] using hc
  | v :: vs, p :: ps, k, cells, cs, .cons h hr, hc => by
    simp only [List.zipIdx_cons, List.foldl_cons, putCells]
    have := fold_put off vs ps (k + 1) (cells.setIfInBounds (off + k) v) (cs.set (off + k) p) hr (by rw [Array.toList_setIfInBounds]; exact hc.set _ h)
    simpa [Nat.add_assoc] using this

theorem put_one : ∀ (ps cs : List PV) (n : Nat), (∀ p ∈ cs, p.one = true) → (∀ p ∈ ps, p.one = true) → ∀ p ∈ putCells cs n ps, p.one = true
  | [], cs, n, h, _ => h
  | q :: ps, cs, n, h, h2 => put_one ps (cs.set n q) (n + 1) (fun p hp => by
      rcases List.mem_or_eq_of_mem_set hp with h3 | h3
      · exact h p h3
      · rw [h3]; exact h2 q (.head _)) (fun p hp => h2 p (.tail _ hp))

theorem fill_sound {Z : Nat → Prop} {pl : List (Nat × Nat)} : ∀ (ps : List (Nat × PV)) (vs : List (Nat × Value)) (cells : Array Value) (cs cs' : List PV),
    L2 (fun (v : Nat × Value) (p : Nat × PV) => v.1 = p.1 ∧ Rep w Z v.2 p.2) vs ps → L2 (Rep w Z) cells.toList cs → (∀ p ∈ cs, p.one = true) → fillPV pl cs ps = some cs' →
    ∃ cells', Instr.fill (pl.toArray[·]?) cells vs = some cells' ∧ L2 (Rep w Z) cells'.toList cs' ∧ ∀ p ∈ cs', p.one = true
  | _, _, cells, cs, cs', .nil, hc, h1, hf => by
    simp only [fillPV, Option.some.injEq] at hf
    subst hf
    exact ⟨cells, rfl, hc, h1⟩
  | (i, p) :: ps, (j, v) :: vs, cells, cs, cs', .cons h hr, hc, h1, hf => by
    obtain ⟨e, hp⟩ := h
    simp only at e hp
    subst e
    simp only [fillPV] at hf
    split at hf
    · rename_i off size hpl
      split at hf
      · rename_i hsz hle
        have hvc := hp.cells
        have hl := hvc.length
        have hsz' := Nat.eq_of_beq_eq_true hsz
        have hle' := Nat.le_of_ble_eq_true hle
        have hcl := hc.length
        rw [Array.length_toList] at hl hcl
        have hnew := fold_put off v.cells.toList p.cells 0 cells cs hvc hc
        obtain ⟨cells', hfill, h3, h4⟩ := fill_sound ps vs _ _ cs' hr hnew (put_one _ _ _ h1 hp.cells_one) hf
        refine ⟨cells', ?_, h3, h4⟩
        simp only [List.getElem?_toArray] at hfill
        simp only [Instr.fill, List.getElem?_toArray, hpl]
        rw [if_neg (by simp; omega)]
        rw [← hfill]
        congr 1
        rw [← Array.foldl_toList, Array.toList_zipIdx]
      · cases hf
    · cases hf

theorem zero_sound {Z : Nat → Prop} : ∀ (vs : List Value) (ps : List PV), zeroPVs vs = some ps → L2 (Rep w Z) vs ps ∧ ∀ p ∈ ps, p.one = true
  | [], ps, h => by simp only [zeroPVs, Option.some.injEq] at h; subst h; exact ⟨.nil, by simp⟩
  | v :: vs, ps, h => by
    simp only [zeroPVs] at h
    split at h
    · rename_i p ps' hp hps
      obtain rfl := Option.some.inj h
      obtain ⟨h1, h2⟩ := zero_sound vs ps' hps
      split at hp
      · obtain rfl := Option.some.inj hp
        exact ⟨.cons .nilsl h1, fun q hq => by cases hq with
          | head => rfl
          | tail _ hq => exact h2 q hq⟩
      · have hr := cPV_rep (w := w) (Z := Z) hp
        refine ⟨.cons hr h1, fun q hq => ?_⟩
        cases hq with
        | head => unfold cPV at hp; split at hp <;> first | (cases hp; done) | (obtain rfl := Option.some.inj hp; rfl)
        | tail _ hq => exact h2 q hq
    · cases h

theorem Zf.weak {K : Ctx} {V : EnvF} {φ : Nat → Value} {f g : Bool} (h : g = true → f = true) {b : Nat} (hz : Zf K V φ f b) : Zf K V φ g b := ⟨hz.1, fun e => hz.2 (h e)⟩
theorem Rep.weak {K : Ctx} {V : EnvF} {φ : Nat → Value} {w : World} {f g : Bool} (h : g = true → f = true) {v : Value} {p : PV} (hr : Rep w (Zf K V φ f) v p) : Rep w (Zf K V φ g) v p :=
  hr.mono fun _ hb _ => ⟨hb.weak h, rfl⟩

theorem parts_sound (h : RelW K E U φ a w) : ∀ (parts : List (Nat × Operand)) (f : Bool) (ps : List (Nat × PV)), partsPV E parts = some (f, ps) →
    L2 (fun (v : Nat × Value) (p : Nat × PV) => v.1 = p.1 ∧ Rep w (Zf K E φ f) v.2 p.2) (parts.map fun x => (x.1, a.eval x.2)) ps
  | [], f, ps, hp => by simp only [partsPV, Option.some.injEq, Prod.mk.injEq] at hp; obtain ⟨rfl, rfl⟩ := hp; exact .nil
  | (i, x) :: rest, f, ps, hp => by
    simp only [partsPV] at hp
    split at hp
    · rename_i sv f' l hx hl
      split at hp
      · rename_i fr p hfz
        simp only [Option.some.injEq, Prod.mk.injEq] at hp
        obtain ⟨rfl, rfl⟩ := hp
        exact .cons ⟨rfl, (ff_sound h hx hfz).weak (by simp; intro a _; exact a)⟩ ((parts_sound h rest f' l hl).imp fun _ _ hq => ⟨hq.1, hq.2.weak (by simp)⟩)
      · cases hp
    · cases hp

theorem fzList_sound (h : RelW K E U φ a w) : ∀ (xs : List Operand) (ps : List PV), fzList E xs = some ps → L2 (Rep w (Zf K E φ false)) (xs.map a.eval) ps
  | [], ps, hp => by simp only [fzList, Option.some.injEq] at hp; subst hp; exact .nil
  | x :: rest, ps, hp => by
    simp only [fzList] at hp
    split at hp
    · rename_i sv l hx hl
      split at hp
      · rename_i fr p hfz
        obtain rfl := Option.some.inj hp
        exact .cons ((ff_sound h hx hfz).weak (by simp)) (fzList_sound h rest l hl)
      · cases hp
    · cases hp

theorem build_sound (h : RelW K E U φ a w) {t : TypeId} {parts : Array (Nat × Operand)} {fr : Bool} {p : PV} (hb : buildPV K.P E t parts.toList = some (fr, p)) :
    ∃ v, (Instr.build t (parts.map fun (i, x) => (i, a.eval x))).run K.P w = .ok v w ∧ Rep w (Zf K E φ fr) v p := by
  simp only [buildPV] at hb
  split at hb
  · rename_i fs i hu hi
    split at hb
    · rename_i z hz
      split at hb
      · rename_i zs f ps hzs hps
        split at hb
        · rename_i pl hpl
          split at hb
          · rename_i cs hcs
            simp only [Option.some.injEq, Prod.mk.injEq] at hb
            obtain ⟨rfl, rfl⟩ := hb
            obtain ⟨h1, h2⟩ := zero_sound (w := w) (Z := Zf K E φ f) _ _ hzs
            obtain ⟨cells', hfill, h3, h4⟩ := fill_sound ps _ _ zs cs (parts_sound h parts.toList f ps hps) h1 h2 hcs
            refine ⟨.agg cells', ?_, ?_⟩
            · refine run_build w t _ cells' ?_
              simp only [Program.built, hi, hu, hz]
              have : fs.toList.mapM (fun f => (K.P.info? f.type).map fun i => (f.offset, i.size)) = some pl := hpl
              simp only [this]
              rw [← hfill]
              simp
            · have : (Value.agg cells') = .agg cells'.toList.toArray := by simp
              rw [this]
              exact .agg _ _ h3 h4
          · cases hb
        · cases hb
      · cases hb
    · cases hb
  · cases hb

theorem svrel_val {w : World} {Z : Bool → Nat → Prop} {f : Bool} {v : Value} {p : PV} (h : Rep w (Z f) v p) : SVRel w Z φ v (.val f p) := h

theorem ev_sound (h : RelW K E U φ a w) {o : Oper} {sv : SV} (he : ev K.P E o = some sv) :
    ∃ v, (execOp a.eval o).run K.P w = .ok (.value v) w ∧ SVRel w (Zf K E φ) φ v sv ∧ sv.inU U := by
  unfold ev at he
  split at he
  · rename_i x ho
    obtain ⟨h1, h2⟩ := get_sound h he
    exact ⟨a.eval x, by simp [execOp, ho], h1, h2⟩
  · rename_i x ho
    obtain ⟨h1, h2⟩ := get_sound h he
    exact ⟨a.eval x, by simp [execOp, ho], h1, h2⟩
  · rename_i c x y ho
    split at he
    · rename_i hc
      obtain ⟨hr, _⟩ := get_sound h hc
      obtain ⟨h1, h2⟩ := get_sound h he
      generalize hv : a.eval c = v at hr
      cases hr
      exact ⟨a.eval x, by simp [execOp, ho, hv, asBool], h1, h2⟩
    · rename_i hc
      obtain ⟨hr, _⟩ := get_sound h hc
      obtain ⟨h1, h2⟩ := get_sound h he
      generalize hv : a.eval c = v at hr
      cases hr
      exact ⟨a.eval y, by simp [execOp, ho, hv, asBool], h1, h2⟩
    · cases he
  · rename_i op t x y yt ho
    split at he
    · rename_i f1 p f2 q hx hy
      obtain ⟨r, hb, rfl⟩ := Option.map_eq_some_iff.1 he
      have hx1 : Rep w (Zf K E φ f1) (a.eval x) p := (get_sound h hx).1
      have hy1 : Rep w (Zf K E φ f2) (a.eval y) q := (get_sound h hy).1
      obtain ⟨z, hz, hrep⟩ := bin_sound (Z := Zf K E φ true) hx1 hy1 hb x y
      refine ⟨z, ?_, hrep, trivial⟩
      simp only [execOp, ho]
      simp only [Sem.run_bind] at hz ⊢
      rw [hz]; rfl
    · cases he
  · rename_i op t x ho
    split at he
    · rename_i f1 p hx
      obtain ⟨r, hb, rfl⟩ := Option.map_eq_some_iff.1 he
      obtain ⟨hr, _⟩ := get_sound h hx
      unfold unPV at hb
      generalize hv : a.eval x = v at hr
      split at hb
      · obtain rfl := Option.some.inj hb
        cases hr
        rename_i k n _
        exact ⟨.int k (k.wrap (0 - n)), by simp [execOp, ho, hv, Op.unary, Op.intArith], svrel_val (.int _ _), trivial⟩
      · obtain rfl := Option.some.inj hb
        cases hr
        exact ⟨_, by simp [execOp, ho, hv, Op.unary], Rep.bool _, trivial⟩
      · cases hb
    · cases he
  · rename_i t x ho
    split at he
    · rename_i sx hx
      split at he
      · rename_i fr cs hcs
        obtain ⟨r, hb, rfl⟩ := Option.map_eq_some_iff.1 he
        obtain ⟨u, hu, hrep⟩ := load_sound (cellsAt_sound h hx hcs) hb
        exact ⟨u, by simp [execOp, ho, hu], mkv_sound hrep⟩
      · cases he
    · cases he
  · rename_i s x f ho
    split at he
    · rename_i fd hfd
      split at he
      · rename_i i hi
        have hfs : ∃ fs : Array Field, K.P.underlying s = some (.struct fs) ∧ fs[f]? = some fd := by
          unfold fieldOf at hfd
          split at hfd
          · exact ⟨_, by assumption, hfd⟩
          · cases hfd
        obtain ⟨fs, hu, hf⟩ := hfs
        have hrun : ∀ b o, i.size ≠ 0 → (Instr.fieldAt s (.pointer (some ⟨b, o, none⟩)) f).run K.P w = .ok (.pointer (some ⟨b, o + fd.offset, none⟩)) w := by
          intro b o hne
          have hadd : (⟨b, o, none⟩ : Addr).add fd.offset = ⟨b, o + fd.offset, none⟩ := by unfold Addr.add; split <;> simp_all
          simp [Instr.fieldAt, run_underlying hu, hf, Instr.sureAddr, fieldPlace, run_sizeOf' hi, hne, hadd]
        split at he
        · rename_i fr cs hne hx
          split at he
          · rename_i hle
            obtain rfl := Option.some.inj he
            obtain ⟨hr, _⟩ := get_sound h hx
            obtain ⟨b, o, xs, hv, hz, hlt, h2, h1, hc⟩ := hr
            have hne' : i.size ≠ 0 := fun e => by rw [e] at hne; simp at hne
            refine ⟨_, by simp [execOp, ho, hv, hrun b o hne']; rfl, ?_, trivial⟩
            exact ⟨b, o + fd.offset, xs.drop fd.offset, rfl, hz, hlt, h2.drop _, fun p hp => h1 p (List.mem_of_mem_drop hp), fun j y hj => by
              rw [Nat.add_assoc]; exact hc (fd.offset + j) y (by simpa using hj)⟩
          · cases he
        · rename_i o' i' off st hne hx
          obtain rfl := Option.some.inj he
          obtain ⟨hr, hl⟩ := get_sound h hx
          obtain ⟨g, hg, hv⟩ := hr
          have hne' : i.size ≠ 0 := fun e => by rw [e] at hne; simp at hne
          refine ⟨.pointer (some ⟨g, i' * st + off + fd.offset, none⟩), by simp [execOp, ho, hv, hrun g _ hne'], ⟨g, hg, by rw [Nat.add_assoc]⟩, hl⟩
        · cases he
      · cases he
    · cases he
  · rename_i s x f ho
    split at he
    · rename_i fd hfd
      have hfs : ∃ fs : Array Field, K.P.underlying s = some (.struct fs) ∧ fs[f]? = some fd := by
        unfold fieldOf at hfd
        split at hfd
        · exact ⟨_, by assumption, hfd⟩
        · cases hfd
      obtain ⟨fs, hu, hf⟩ := hfs
      split at he
      · rename_i fr cs hx
        split at he
        · rename_i d i hd hi
          obtain ⟨hr, _⟩ := get_sound h hx
          generalize hv : a.eval x = v at hr
          cases hr with
          | agg vs _ hl h1 =>
          have hagg := run_isAgg hd w
          split at he
          · rename_i hag
            split at he
            · obtain rfl := Option.some.inj he
              refine ⟨.agg ((vs.drop fd.offset).take i.size).toArray, ?_, ?_, trivial⟩
              · simp [execOp, ho, hv, Instr.field, run_underlying hu, hf, asAgg, part, hagg, hag, run_sizeOf' hi]
              · exact .agg _ _ ((hl.drop _).take _) fun p hp => h1 p (List.mem_of_mem_drop (List.mem_of_mem_take hp))
            · cases he
          · rename_i hag
            obtain ⟨p, hp, rfl⟩ := Option.map_eq_some_iff.1 he
            obtain ⟨u, hu2, hrep⟩ := hl.get hp
            refine ⟨u, ?_, mkv_sound hrep⟩
            simp [execOp, ho, hv, Instr.field, run_underlying hu, hf, asAgg, part, hagg, hag, hu2]
        · cases he
      · cases he
    · cases he
  · rename_i x i ho
    split at he
    · rename_i l hx
      obtain ⟨hr, hl⟩ := get_sound h hx
      obtain ⟨vs, hv, h2⟩ := hr
      obtain ⟨u, hu, hrep⟩ := h2.get he
      have hs := hl sv (List.mem_of_getElem? he)
      refine ⟨u, by simp [execOp, ho, hv, Instr.extract, hu], ?_, ?_⟩
      · cases sv with
        | tup l' => exact hrep.elim
        | _ => exact hrep
      · cases sv with
        | tup l' => exact hrep.elim
        | _ => exact hs
    · cases he
  · rename_i t parts ho
    obtain ⟨⟨fr, r⟩, hb, rfl⟩ := Option.map_eq_some_iff.1 he
    obtain ⟨v, hv, hrep⟩ := build_sound h hb
    exact ⟨v, by simp [execOp, ho, hv], hrep, trivial⟩
  · rename_i fn first caps ho
    split at he
    · rename_i l m hl hm
      obtain rfl := Option.some.inj he
      refine ⟨.func fn (first.map a.eval) (caps.map a.eval), by simp [execOp, ho, Instr.makeFunc], ?_, trivial⟩
      have h1 := fzList_sound h _ _ hl
      have h2 := fzList_sound h _ _ hm
      have e1 : first.map a.eval = (first.toList.map a.eval).toArray := by rw [← Array.toList_map, Array.toArray_toList]
      have e2 : caps.map a.eval = (caps.toList.map a.eval).toArray := by rw [← Array.toList_map, Array.toArray_toList]
      rw [e1, e2]
      exact Rep.fn fn _ _ _ _ h1 h2
    · cases he
  · rename_i src dst x ho
    split at he
    · rename_i f0 k0 n hx
      split at he
      · rename_i k1 k hs hd
        obtain rfl := Option.some.inj he
        obtain ⟨hr, _⟩ := get_sound h hx
        generalize hv : a.eval x = v at hr
        cases hr
        exact ⟨_, by simp [execOp, ho, hv, convert, run_underlying hs, run_underlying hd, Conv.intToInt], Rep.int _ _, trivial⟩
      · cases he
    · cases he
  · rename_i args argTypes ho
    split at he
    · rename_i x t hargs htys
      have ea : args = #[x] := by rw [← Array.toArray_toList (xs := args), hargs]
      have et : argTypes = #[t] := by rw [← Array.toArray_toList (xs := argTypes), htys]
      subst ea et
      split at he
      · rename_i sx hx
        split at he
        · rename_i e hu
          split at he
          · rename_i rows hpv
            obtain rfl := Option.some.inj he
            obtain ⟨base, cap, hv⟩ := pv_sl h hx hpv
            exact ⟨_, by simp [execOp, ho, resolve, invoke, builtin, hv, Builtin.len_, run_underlying hu, goInt], Rep.int _ _, trivial⟩
          · cases he
        · rename_i hu
          split at he
          · rename_i f0 s
            obtain rfl := Option.some.inj he
            obtain ⟨hr, _⟩ := get_sound h hx
            generalize hv : a.eval x = v at hr
            cases hr
            exact ⟨_, by simp [execOp, ho, resolve, invoke, builtin, hv, Builtin.len_, run_underlying hu, goInt], Rep.int _ _, trivial⟩
          · cases he
        · cases he
      · cases he
    · cases he
  · rename_i args argTypes ho
    split at he
    · rename_i x y hargs
      have ea : args = #[x, y] := by rw [← Array.toArray_toList (xs := args), hargs]
      subst ea
      split at he
      · rename_i f1 k m f2 k' n hx hy
        obtain rfl := Option.some.inj he
        obtain ⟨hr, _⟩ := get_sound h hx
        obtain ⟨hr2, _⟩ := get_sound h hy
        generalize hv : a.eval x = v at hr
        generalize hv2 : a.eval y = v2 at hr2
        cases hr
        cases hr2
        refine ⟨.int k (if n > m then n else m), by simp [execOp, ho, resolve, invoke, builtin, hv, hv2, Builtin.max_, Builtin.max2], ?_, trivial⟩
        have : (if n > m then n else m) = max m n := by split <;> omega
        rw [this]; exact Rep.int _ _
      · cases he
    · cases he
  · rename_i args argTypes ho
    split at he
    · rename_i x y hargs
      have ea : args = #[x, y] := by rw [← Array.toArray_toList (xs := args), hargs]
      subst ea
      split at he
      · rename_i f1 k m f2 k' n hx hy
        obtain rfl := Option.some.inj he
        obtain ⟨hr, _⟩ := get_sound h hx
        obtain ⟨hr2, _⟩ := get_sound h hy
        generalize hv : a.eval x = v at hr
        generalize hv2 : a.eval y = v2 at hr2
        cases hr
        cases hr2
        refine ⟨.int k (if n < m then n else m), by simp [execOp, ho, resolve, invoke, builtin, hv, hv2, Builtin.min_, Builtin.min2], ?_, trivial⟩
        have : (if n < m then n else m) = min m n := by split <;> omega
        rw [this]; exact Rep.int _ _
      · cases he
    · cases he
  · cases he
end
end Go.Proofs.Ytchajofdjeijfaa
