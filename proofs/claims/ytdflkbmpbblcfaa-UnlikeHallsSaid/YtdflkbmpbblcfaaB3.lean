/- The texts CoreX, CoreY, CoreZ, FnA, FnB, FnC, FnD, FnE, FnF, FnG of the workplace, joined. -/
import Derived.Test.YtdflkbmpbblcfaaB2
import Derived.Deep.OwnRows
import Derived.Maps.RangeRun
import Derived.MapKept
import Derived.Test.YtdflkbmpbblcfaaProg
/-! Lists of lists, each of which grows: the list holds values that are known; what they lead to is a bundle. -/
namespace Go.Proofs.Ytdflkbmpbblcfaa
open Go Go.RowKit
set_option linter.unusedVariables false
set_option linter.unusedSimpArgs false

theorem rep_int {w : World} {Z : Nat → Prop} {v : Value} {k : IntKind} {n : Int} (h : Rep w Z v (.int k n)) : v = .int k n := by cases h; rfl
theorem L2.rep {α β : Type} {R : α → β → Prop} {x : α} {y : β} (h : R x y) : ∀ n : Nat, L2 R (List.replicate n x) (List.replicate n y)
  | 0 => .nil
  | n + 1 => .cons h (L2.rep h n)
/-- make of a number of elements of one cell. -/
theorem J.ms {K : Ctx} {ops : Array Oper} {dr : Bool} {o : Oper} {rest : List Oper} {sl : List (Nat × SV)} {ow : List (Nat × Option Own)} {nx : Nat} {R : St → Prop} {d : Nat} {t e : TypeId} {x y : Operand} {fl fc : Bool} {kl kc : IntKind} {N1 N2 : Int} {inf : TypeInfo} {z : Value} {B : Nat} (r : PV) (n : Nat)
    (ho : o.op = .makeSlice t x y) (hg : wants ops (St.mk sl ow nx).f o = some true) (hd : o.dst = some d) (hlt : K.can d = true) (hx : (St.mk sl ow nx).f.get x = some (.val fl (.int kl N1))) (hy : (St.mk sl ow nx).f.get y = some (.val fc (.int kc N2)))
    (hu : K.P.underlying t = some (.slice e)) (hi : K.P.info? e = some inf) (hz : inf.zero = some z) (hs : inf.size = 1) (hz1 : z.cells = #[z]) (hB : inf.bytes = B) (hb1 : Nat.ble 1 B = true) (h1 : r.one = true) (hN : N1 = (n : Nat)) (hN2 : N2 = (n : Nat)) (hr : ∀ w Z, Rep w Z z r) (hby : n * B ≤ 140737488355328)
    (k : J K ops dr rest ⟨(d, .ref nx) :: sl, (nx, some (.sl e 1 true (List.replicate n [r]))) :: ow, nx + 1⟩ R) : J K ops dr (o :: rest) ⟨sl, ow, nx⟩ R := by
  have hb1 := Nat.le_of_ble_eq_true hb1
  have hnn : n * 1 ≤ n * B := Nat.mul_le_mul_left _ hb1
  refine .does hg hd hlt (.genO (xs := [x, y]) (l := [.int kl N1, .int kc N2]) ?_ ?_ ?_) k
  · intro v hv
    rw [ho]
    simpa [Op.operands] using hv
  · simp only [fzList, hx, hy, SV.ff]
  · intro a w hl
    obtain ⟨v1, v2, e1, h2, h3⟩ : ∃ v1 v2, [x, y].map a.eval = [v1, v2] ∧ v1 = .int kl N1 ∧ v2 = .int kc N2 := by
      cases hl with
      | cons h1 h2 => cases h2 with
        | cons h2 _ => exact ⟨_, _, rfl, rep_int h1, rep_int h2⟩
    simp only [List.map_cons, List.map_nil, List.cons.injEq, and_true] at e1
    obtain ⟨e1, e2⟩ := e1
    have hrun := run_make_row (P := K.P) t e inf z hu hi hz hs hz1 kl kc n (by rw [hB, Nat.mul_comm]; omega) (by omega) w
    refine ⟨.slice (some ⟨w.heap.size, 0, none⟩) n n, w.alloc (.cells (madeCells #[z] n) e), ?_, below_alloc w _, fun Z => ?_, fun g hg => by simp [VB, vblock] at hg; omega⟩
    · simp only [execOp, ho, Sem.run_bind, e1, e2, h2, h3, hN, hN2, hrun, Result.andThen_ok]
      rfl
    · have hcl : (madeCells #[z] n).toList = List.replicate n z := by
        apply List.ext_getElem (by simp [size_madeCells])
        intro i h3 h4
        simp [madeCells, Nat.mod_one]
      refine ⟨List.replicate n z, ⟨by simp, .inr ⟨w.heap.size, n, madeCells #[z] n, by simp, Nat.zero_le _, heap_alloc_new w _, by simp, ?_, by simp [size_madeCells], ?_⟩⟩, ?_, ?_, ?_⟩
      · have : maxLen = 2 ^ 63 - 1 := rfl
        omega
      · simp [hcl]
      · have e : ∀ n : Nat, (List.replicate n [r]).flatten = List.replicate n r := by
          intro n
          induction n with
          | zero => rfl
          | succ n ih => rw [List.replicate_succ, List.flatten_cons, ih]; rfl
        rw [e]
        exact L2.rep (hr _ _) n
      · intro q hq; rw [List.eq_of_mem_replicate hq]; rfl
      · intro q hq p hp
        rw [List.eq_of_mem_replicate hq, List.mem_singleton] at hp
        rw [hp]; exact h1

section
variable {K : Ctx} {sl : List (Nat × SV)} {ow : List (Nat × Option Own)} {nx : Nat} {a : Act} {w : World}
theorem famVB {l : List (Value × List (List PV))} {g : Nat} : VB (.tuple (l.map (·.1)).toArray) g ↔ ∃ p ∈ l, vblock p.1 = some g := by
  constructor
  · rintro (h | ⟨vs, hv, u, hu, h⟩)
    · simp [vblock] at h
    · have hv : l.map (·.1) = vs := congrArg Array.toList (Value.tuple.inj hv)
      subst hv
      obtain ⟨p, hp, rfl⟩ := List.mem_map.1 hu
      exact ⟨p, hp, h⟩
  · rintro ⟨p, hp, h⟩
    exact .inr ⟨_, rfl, p.1, List.mem_map.2 ⟨p, hp, rfl⟩, h⟩
theorem SlRel.vb {w : World} {Z : Nat → Prop} {v : Value} {e : TypeId} {sz : Nat} {rows : List (List PV)} (h : SlRel w Z v e sz rows) {g : Nat} : VB v g ↔ vblock v = some g := by
  obtain ⟨xs, ho, _⟩ := h
  exact VB_vblock ho
theorem SlRel.nil (w : World) (Z : Nat → Prop) (e : TypeId) (sz : Nat) : SlRel w Z (.slice none 0 0) e sz [] := ⟨[], ⟨by simp, .inl ⟨rfl, rfl⟩⟩, .nil, by simp, by simp⟩
/-- A bundle of lists that are nil. -/
theorem Rel.fam0 (n : Nat) (e : TypeId) (sz : Nat) (h : Rel K ⟨sl, ow, nx⟩ a w) : Rel K ⟨sl, (nx, some (.fam e sz true (List.replicate n (.slice none 0 0, [])))) :: ow, nx + 1⟩ a w := by
  obtain ⟨φ, hφ⟩ := h
  have hvb : ∀ g, ¬ VB (.tuple (((List.replicate n ((.slice none 0 0 : Value), ([] : List (List PV)))).map (·.1))).toArray) g := by
    intro g hg
    obtain ⟨p, hp, h⟩ := famVB.1 hg
    rw [List.eq_of_mem_replicate hp] at h
    simp [vblock] at h
  have hown : ∀ q c, (St.mk sl ((nx, some (.fam e sz true (List.replicate n (.slice none 0 0, [])))) :: ow) (nx + 1)).f.own q = some c → (q = nx ∧ c = .fam e sz true (List.replicate n (.slice none 0 0, []))) ∨ (q ≠ nx ∧ (St.mk sl ow nx).f.own q = some c) := by
    intro q c hq
    simp only [St.f, lk_cons] at hq
    by_cases e1 : nx = q
    · rw [if_pos e1] at hq; exact .inl ⟨e1.symm, (Option.some.inj hq).symm⟩
    · rw [if_neg e1] at hq; exact .inr ⟨Ne.symm e1, hq⟩
  refine ⟨fun o => if o = nx then .tuple ((List.replicate n ((.slice none 0 0 : Value), ([] : List (List PV)))).map (·.1)).toArray else φ o, hφ.step (fun _ => False) (fun o => o = nx) rfl (fun o ho => Nat.lt_succ_of_lt ho) (fun o ho => if_neg (Nat.ne_of_lt ho)) rfl rfl rfl (Nat.le_refl _) (fun _ _ _ => rfl) (fun _ _ hd => hd.elim) ?_ ?_ ?_⟩
  · intro o c ho hne
    rcases hown o c ho with ⟨rfl, _⟩ | ⟨_, h⟩
    · exact absurd rfl hne
    · exact h
  · rintro o c ho rfl
    rcases hown _ c ho with ⟨_, rfl⟩ | ⟨h, _⟩
    · refine ⟨Nat.lt_succ_self _, ⟨by simp, fun p hp => ?_, fun i j p q g hi hj hg hg' => ?_⟩, fun g hg => ?_⟩
      · rw [List.eq_of_mem_replicate hp]; exact SlRel.nil _ _ _ _
      · rw [List.eq_of_mem_replicate (List.mem_of_getElem? hi)] at hg
        simp [vblock] at hg
      · rw [if_pos rfl] at hg; exact absurd hg (hvb g)
    · exact absurd rfl h
  · rintro o o' c c' g ho ho' rfl rfl _ _
    rfl

/-- What is owned gets a name. -/
theorem Rel.nameO (g : Nat) {o : Nat} {c : Own} (hg : true = true) (ho : (St.mk sl ow nx).f.own o = some c) (h : Rel K ⟨sl, ow, nx⟩ a w) : ∃ u, Rel K ⟨(g, .eq u o) :: sl, ow, nx⟩ a w := by
  obtain ⟨φ, hφ⟩ := h
  obtain ⟨v, hv⟩ := tmps_some hφ hg
  exact ⟨φ o, φ, hφ.reslot (s := g) (sv := .eq (φ o) o) hv rfl (hφ.inU o c ho) rfl slot_put⟩
/-- One list of a bundle, taken out. -/
theorem Rel.split (g k : Nat) {q : Nat} {e : TypeId} {sz : Nat} {fr : Bool} {l : List (Value × List (List PV))} {u : Value} {rows : List (List PV)} (hg : true = true) (ho : (St.mk sl ow nx).f.own q = some (.fam e sz fr l)) (hk : l[k]? = some (u, rows)) (h : Rel K ⟨sl, ow, nx⟩ a w) :
    Rel K ⟨(g, .eq u nx) :: sl, (nx + 1, some (.fam e sz fr (l.set k (.slice none 0 0, [])))) :: (nx, some (.sl e sz fr rows)) :: (q, none) :: ow, nx + 2⟩ a w := by
  obtain ⟨φ, hφ⟩ := h
  obtain ⟨hv, hl, hdis⟩ := hφ.own q _ ho
  have hqn : q < nx := hφ.inU q _ ho
  have hmem := List.mem_of_getElem? hk
  have hvbq : ∀ x, VB (φ q) x ↔ ∃ p ∈ l, vblock p.1 = some x := fun x => by rw [hv]; exact famVB
  have hset : ∀ p, p ∈ l.set k ((.slice none 0 0 : Value), ([] : List (List PV))) → p = (.slice none 0 0, []) ∨ ∃ i, i ≠ k ∧ l[i]? = some p := by
    intro p hp
    obtain ⟨i, hi⟩ := List.getElem?_of_mem hp
    rw [List.getElem?_set] at hi
    by_cases e1 : k = i
    · rw [if_pos e1] at hi
      split at hi
      · exact .inl (Option.some.inj hi).symm
      · cases hi
    · rw [if_neg e1] at hi; exact .inr ⟨i, Ne.symm e1, hi⟩
  have hvb1 : ∀ x, VB (.tuple ((l.set k ((.slice none 0 0 : Value), ([] : List (List PV)))).map (·.1)).toArray) x → ∃ i p, i ≠ k ∧ l[i]? = some p ∧ vblock p.1 = some x := by
    intro x hx
    obtain ⟨p, hp, h⟩ := famVB.1 hx
    rcases hset p hp with rfl | ⟨i, hne, hi⟩
    · simp [vblock] at h
    · exact ⟨i, p, hne, hi, h⟩
  obtain ⟨ψ, hψ⟩ : ∃ ψ : Nat → Value, ψ = fun o => if o = nx then u else if o = nx + 1 then .tuple ((l.set k ((.slice none 0 0 : Value), ([] : List (List PV)))).map (·.1)).toArray else φ o := ⟨_, rfl⟩
  have ψ0 : ψ nx = u := by rw [hψ]; simp
  have ψ1 : ψ (nx + 1) = .tuple ((l.set k ((.slice none 0 0 : Value), ([] : List (List PV)))).map (·.1)).toArray := by rw [hψ]; simp
  have ψo : ∀ o, o < nx → ψ o = φ o := fun o ho => by rw [hψ]; simp only []; rw [if_neg (by omega), if_neg (by omega)]
  have hown : ∀ i c, (St.mk sl ((nx + 1, some (.fam e sz fr (l.set k (.slice none 0 0, [])))) :: (nx, some (.sl e sz fr rows)) :: (q, none) :: ow) (nx + 2)).f.own i = some c →
      (i = nx + 1 ∧ c = .fam e sz fr (l.set k (.slice none 0 0, []))) ∨ (i = nx ∧ c = .sl e sz fr rows) ∨ (i ≠ q ∧ i ≠ nx ∧ i ≠ nx + 1 ∧ (St.mk sl ow nx).f.own i = some c) := by
    intro i c hi
    simp only [St.f, lk_cons] at hi
    by_cases e1 : nx + 1 = i
    · rw [if_pos e1] at hi; exact .inl ⟨e1.symm, (Option.some.inj hi).symm⟩
    · rw [if_neg e1] at hi
      by_cases e2 : nx = i
      · rw [if_pos e2] at hi; exact .inr (.inl ⟨e2.symm, (Option.some.inj hi).symm⟩)
      · rw [if_neg e2] at hi
        by_cases e3 : q = i
        · rw [if_pos e3] at hi; cases hi
        · rw [if_neg e3] at hi; exact .inr (.inr ⟨Ne.symm e3, Ne.symm e2, Ne.symm e1, hi⟩)
  have hZ : ∀ f b, Zf K (St.mk sl ow nx).f φ f b → Zf K (St.mk sl ((nx + 1, some (.fam e sz fr (l.set k (.slice none 0 0, [])))) :: (nx, some (.sl e sz fr rows)) :: (q, none) :: ow) (nx + 2)).f ψ f b := by
    refine fun f b hb => ⟨⟨hb.1.1, fun i c hi hvb => ?_⟩, hb.2⟩
    rcases hown i c hi with ⟨rfl, _⟩ | ⟨rfl, _⟩ | ⟨_, h1, h2, h3⟩
    · rw [ψ1] at hvb
      obtain ⟨i, p, _, hi, hp⟩ := hvb1 b hvb
      exact hb.1.2 q _ ho ((hvbq b).2 ⟨p, List.mem_of_getElem? hi, hp⟩)
    · rw [ψ0] at hvb
      exact hb.1.2 q _ ho ((hvbq b).2 ⟨_, hmem, (hl _ hmem).vb.1 hvb⟩)
    · rw [ψo i (hφ.inU i c h3)] at hvb
      exact hb.1.2 i c h3 hvb
  have hstep : RelW K (St.mk sl ((nx + 1, some (.fam e sz fr (l.set k (.slice none 0 0, [])))) :: (nx, some (.sl e sz fr rows)) :: (q, none) :: ow) (nx + 2)).f (· < nx + 2) ψ a w := by
    refine hφ.step (fun _ => False) (fun o => o = nx ∨ o = nx + 1 ∨ o = q) rfl (fun o ho => Nat.lt_succ_of_lt (Nat.lt_succ_of_lt ho)) (fun o ho => ψo o ho) rfl rfl rfl (Nat.le_refl _) (fun _ _ _ => rfl) (fun _ _ hd => hd.elim) ?_ ?_ ?_
    · intro i c hi hn
      rcases hown i c hi with ⟨rfl, _⟩ | ⟨rfl, _⟩ | ⟨_, _, _, h⟩
      · exact absurd (.inr (.inl rfl)) hn
      · exact absurd (.inl rfl) hn
      · exact h
    · intro i c hi hc
      rcases hown i c hi with ⟨rfl, rfl⟩ | ⟨rfl, rfl⟩ | ⟨h1, h2, h3, _⟩
      · refine ⟨Nat.lt_succ_self _, ⟨ψ1, fun p hp => ?_, fun i j p p' x hi hj hx hx' => ?_⟩, fun x hx => ?_⟩
        · rcases hset p hp with rfl | ⟨i, _, hi⟩
          · exact SlRel.nil _ _ _ _
          · exact (hl p (List.mem_of_getElem? hi)).mono (fun _ _ => rfl) fun b hb _ => ⟨hZ _ b hb, rfl⟩
        · have get : ∀ (i : Nat) (p : Value × List (List PV)), (l.set k ((.slice none 0 0 : Value), ([] : List (List PV))))[i]? = some p → vblock p.1 = some x → l[i]? = some p := by
            intro i p hi hx
            rw [List.getElem?_set] at hi
            by_cases e1 : k = i
            · rw [if_pos e1] at hi
              split at hi
              · rw [← Option.some.inj hi] at hx; simp [vblock] at hx
              · cases hi
            · rwa [if_neg e1] at hi
          exact hdis i j p p' x (get i p hi hx) (get j p' hj hx') hx hx'
        · rw [ψ1] at hx
          obtain ⟨i, p, _, hi, hp⟩ := hvb1 x hx
          exact .inr ⟨q, _, ho, (hvbq x).2 ⟨p, List.mem_of_getElem? hi, hp⟩, .inr (.inr rfl)⟩
      · refine ⟨by show _ < _; omega, ?_, fun x hx => ?_⟩
        · rw [ψ0]
          exact (hl _ hmem).mono (fun _ _ => rfl) fun b hb _ => ⟨hZ _ b hb, rfl⟩
        · rw [ψ0] at hx
          exact .inr ⟨q, _, ho, (hvbq x).2 ⟨_, hmem, (hl _ hmem).vb.1 hx⟩, .inr (.inr rfl)⟩
      · rcases hc with h | h | h
        · exact absurd h h2
        · exact absurd h h3
        · exact absurd h h1
    · intro i j c c' x hi hj hci hcj hx hx'
      have hcross : VB (ψ nx) x → VB (ψ (nx + 1)) x → False := by
        intro h1 h2
        rw [ψ0] at h1
        rw [ψ1] at h2
        obtain ⟨i, p, hne, hi, hp⟩ := hvb1 x h2
        exact hne (hdis i k p _ x hi hk hp ((hl _ hmem).vb.1 h1))
      rcases hown i c hi with ⟨rfl, _⟩ | ⟨rfl, _⟩ | ⟨h1, h2, h3, _⟩
      · rcases hown j c' hj with ⟨rfl, _⟩ | ⟨rfl, _⟩ | ⟨h1, h2, h3, _⟩
        · rfl
        · exact (hcross hx' hx).elim
        · rcases hcj with h | h | h
          · exact absurd h h2
          · exact absurd h h3
          · exact absurd h h1
      · rcases hown j c' hj with ⟨rfl, _⟩ | ⟨rfl, _⟩ | ⟨h1, h2, h3, _⟩
        · exact (hcross hx hx').elim
        · rfl
        · rcases hcj with h | h | h
          · exact absurd h h2
          · exact absurd h h3
          · exact absurd h h1
      · rcases hci with h | h | h
        · exact absurd h h2
        · exact absurd h h3
        · exact absurd h h1
  obtain ⟨v, hv2⟩ := tmps_some hφ hg
  refine ⟨ψ, hstep.reslot (s := g) (sv := .eq u nx) hv2 ψ0 (by show nx < nx + 2; omega) rfl slot_put⟩

/-- A list, put back into a bundle. -/
theorem Rel.join (k : Nat) {g q n : Nat} {e : TypeId} {sz : Nat} {fr : Bool} {l : List (Value × List (List PV))} {u : Value} {rows : List (List PV)} (ho : (St.mk sl ow nx).f.own q = some (.fam e sz fr l)) (hn : (St.mk sl ow nx).f.own n = some (.sl e sz fr rows)) (hg : lk sl g = some (.eq u n)) (hqn : Nat.beq q n = false) (h : Rel K ⟨sl, ow, nx⟩ a w) :
    Rel K ⟨sl, (nx, some (.fam e sz fr (l.set k (u, rows)))) :: (q, none) :: (n, none) :: ow, nx + 1⟩ a w := by
  obtain ⟨φ, hφ⟩ := h
  obtain ⟨hv, hl, hdis⟩ := hφ.own q _ ho
  have hqn' : q ≠ n := fun e => by subst e; simp at hqn
  have hqx : q < nx := hφ.inU q _ ho
  have hnx : n < nx := hφ.inU n _ hn
  obtain ⟨_, _, hu⟩ := hφ.slot g _ hg
  have hu : φ n = u := hu
  have hsl : SlRel w (Zf K (St.mk sl ow nx).f φ fr) u e sz rows := by have := hφ.own n _ hn; rwa [hu] at this
  have hvbq : ∀ x, VB (φ q) x ↔ ∃ p ∈ l, vblock p.1 = some x := fun x => by rw [hv]; exact famVB
  have hget : ∀ i p, (l.set k (u, rows))[i]? = some p → (i = k ∧ p = (u, rows)) ∨ (i ≠ k ∧ l[i]? = some p) := by
    intro i p hi
    rw [List.getElem?_set] at hi
    by_cases e1 : k = i
    · rw [if_pos e1] at hi
      split at hi
      · exact .inl ⟨e1.symm, (Option.some.inj hi).symm⟩
      · cases hi
    · rw [if_neg e1] at hi; exact .inr ⟨Ne.symm e1, hi⟩
  have hvb1 : ∀ x, VB (.tuple ((l.set k (u, rows)).map (·.1)).toArray) x → VB (φ n) x ∨ VB (φ q) x := by
    intro x hx
    obtain ⟨p, hp, h⟩ := famVB.1 hx
    obtain ⟨i, hi⟩ := List.getElem?_of_mem hp
    rcases hget i p hi with ⟨_, rfl⟩ | ⟨_, hi⟩
    · rw [hu]; exact .inl (.inl h)
    · exact .inr ((hvbq x).2 ⟨p, List.mem_of_getElem? hi, h⟩)
  obtain ⟨ψ, hψ⟩ : ∃ ψ : Nat → Value, ψ = fun o => if o = nx then .tuple ((l.set k (u, rows)).map (·.1)).toArray else φ o := ⟨_, rfl⟩
  have ψ1 : ψ nx = .tuple ((l.set k (u, rows)).map (·.1)).toArray := by rw [hψ]; simp
  have ψo : ∀ o, o < nx → ψ o = φ o := fun o ho => by rw [hψ]; simp only []; rw [if_neg (by omega)]
  have hown : ∀ i c, (St.mk sl ((nx, some (.fam e sz fr (l.set k (u, rows)))) :: (q, none) :: (n, none) :: ow) (nx + 1)).f.own i = some c →
      (i = nx ∧ c = .fam e sz fr (l.set k (u, rows))) ∨ (i ≠ q ∧ i ≠ n ∧ i ≠ nx ∧ (St.mk sl ow nx).f.own i = some c) := by
    intro i c hi
    simp only [St.f, lk_cons] at hi
    by_cases e1 : nx = i
    · rw [if_pos e1] at hi; exact .inl ⟨e1.symm, (Option.some.inj hi).symm⟩
    · rw [if_neg e1] at hi
      by_cases e2 : q = i
      · rw [if_pos e2] at hi; cases hi
      · rw [if_neg e2] at hi
        by_cases e3 : n = i
        · rw [if_pos e3] at hi; cases hi
        · rw [if_neg e3] at hi; exact .inr ⟨Ne.symm e2, Ne.symm e3, Ne.symm e1, hi⟩
  have hZ : ∀ f b, Zf K (St.mk sl ow nx).f φ f b → Zf K (St.mk sl ((nx, some (.fam e sz fr (l.set k (u, rows)))) :: (q, none) :: (n, none) :: ow) (nx + 1)).f ψ f b := by
    refine fun f b hb => ⟨⟨hb.1.1, fun i c hi hvb => ?_⟩, hb.2⟩
    rcases hown i c hi with ⟨rfl, _⟩ | ⟨_, _, h1, h3⟩
    · rw [ψ1] at hvb
      rcases hvb1 b hvb with h | h
      · exact hb.1.2 n _ hn h
      · exact hb.1.2 q _ ho h
    · rw [ψo i (hφ.inU i c h3)] at hvb
      exact hb.1.2 i c h3 hvb
  refine ⟨ψ, hφ.step (fun _ => False) (fun o => o = nx ∨ o = n ∨ o = q) rfl (fun o ho => Nat.lt_succ_of_lt ho) (fun o ho => ψo o ho) rfl rfl rfl (Nat.le_refl _) (fun _ _ _ => rfl) (fun _ _ hd => hd.elim) ?_ ?_ ?_⟩
  · intro i c hi hn
    rcases hown i c hi with ⟨rfl, _⟩ | ⟨_, _, _, h⟩
    · exact absurd (.inl rfl) hn
    · exact h
  · intro i c hi hc
    rcases hown i c hi with ⟨rfl, rfl⟩ | ⟨h1, h2, h3, _⟩
    · refine ⟨Nat.lt_succ_self _, ⟨ψ1, fun p hp => ?_, fun i j p p' x hi hj hx hx' => ?_⟩, fun x hx => ?_⟩
      · obtain ⟨i, hi⟩ := List.getElem?_of_mem hp
        rcases hget i p hi with ⟨_, rfl⟩ | ⟨_, hi⟩
        · exact hsl.mono (fun _ _ => rfl) fun b hb _ => ⟨hZ _ b hb, rfl⟩
        · exact (hl p (List.mem_of_getElem? hi)).mono (fun _ _ => rfl) fun b hb _ => ⟨hZ _ b hb, rfl⟩
      · have cross : ∀ (i : Nat) (p : Value × List (List PV)), l[i]? = some p → vblock p.1 = some x → vblock u = some x → False := by
          intro i p hi hp hux
          exact hqn' (hφ.dis q n _ _ x ho hn ((hvbq x).2 ⟨p, List.mem_of_getElem? hi, hp⟩) (by rw [hu]; exact .inl hux))
        rcases hget i p hi with ⟨e1, rfl⟩ | ⟨_, hi⟩ <;> rcases hget j p' hj with ⟨e2, rfl⟩ | ⟨_, hj⟩
        · rw [e1, e2]
        · exact (cross j p' hj hx' hx).elim
        · exact (cross i p hi hx hx').elim
        · exact hdis i j p p' x hi hj hx hx'
      · rw [ψ1] at hx
        rcases hvb1 x hx with h | h
        · exact .inr ⟨n, _, hn, h, .inr (.inl rfl)⟩
        · exact .inr ⟨q, _, ho, h, .inr (.inr rfl)⟩
    · rcases hc with h | h | h
      · exact absurd h h3
      · exact absurd h h2
      · exact absurd h h1
  · intro i j c c' x hi hj hci hcj hx hx'
    have one : ∀ i c, (St.mk sl ((nx, some (.fam e sz fr (l.set k (u, rows)))) :: (q, none) :: (n, none) :: ow) (nx + 1)).f.own i = some c → (i = nx ∨ i = n ∨ i = q) → i = nx := by
      intro i c hi hc
      rcases hown i c hi with ⟨h, _⟩ | ⟨h1, h2, _, _⟩
      · exact h
      · rcases hc with h | h | h
        · exact h
        · exact absurd h h2
        · exact absurd h h1
    rw [one i c hi hci, one j c' hj hcj]

theorem flat1 {α β : Type} (f : α → β) (l : List α) : (l.map fun p => [f p]).flatten = l.map f := by
  induction l with
  | nil => rfl
  | cons p l ih => rw [List.map_cons, List.flatten_cons, ih]; rfl
/-- A list whose elements are known as those of a bundle: all becomes frozen. -/
theorem Rel.meltF {qc q : Nat} {t e : TypeId} {sz : Nat} {frc fr : Bool} {l : List (Value × List (List PV))} (hM : ∀ b, ¬ K.M b) (hc : (St.mk sl ow nx).f.own qc = some (.sl t 1 frc (l.map fun p => [.raw p.1]))) (ho : (St.mk sl ow nx).f.own q = some (.fam e sz fr l)) (hne : Nat.beq q qc = false) (h : Rel K ⟨sl, ow, nx⟩ a w) :
    Rel K ⟨sl, (qc, some (.sl t 1 (frc && fr) (l.map fun p => [.sl p.2]))) :: (q, none) :: ow, nx⟩ a w := by
  obtain ⟨φ, hφ⟩ := h
  have hne' : q ≠ qc := fun e => by subst e; simp at hne
  obtain ⟨hv, hl, hdis⟩ := hφ.own q _ ho
  have hown' : ∀ i c, (St.mk sl ((q, none) :: ow) nx).f.own i = some c → i ≠ q ∧ (St.mk sl ow nx).f.own i = some c := by
    intro i c hq
    simp only [St.f, lk_cons] at hq
    by_cases e : q = i
    · rw [if_pos e] at hq; cases hq
    · rw [if_neg e] at hq; exact ⟨Ne.symm e, hq⟩
  have hZ : ∀ f b, Zf K (St.mk sl ow nx).f φ f b → Zf K (St.mk sl ((q, none) :: ow) nx).f φ f b :=
    fun f b hb => ⟨⟨hb.1.1, fun i c hq => hb.1.2 i c (hown' i c hq).2⟩, hb.2⟩
  have h1 : RelW K (St.mk sl ((q, none) :: ow) nx).f (· < nx) φ a w := by
    refine ⟨hφ.df, hφ.sz, hφ.old, hφ.kept, ?_, ?_, ?_, ?_, ?_, hφ.sin⟩
    · intro i c hq
      exact (hφ.own i c (hown' i c hq).2).mono (fun _ _ => rfl) fun f b hb _ => ⟨hZ f b hb, rfl⟩
    · intro i c g hq; exact hφ.mine i c g (hown' i c hq).2
    · intro i c hq; exact hφ.inU i c (hown' i c hq).2
    · intro i i' c c' g hq hq'; exact hφ.dis i i' c c' g (hown' i c hq).2 (hown' i' c' hq').2
    · intro t sv h
      obtain ⟨v, hv, hr⟩ := hφ.slot t sv h
      exact ⟨v, hv, hr.mono (hφ.sin t sv h) (fun f b hb _ => ⟨hZ f b hb, rfl⟩) (fun _ _ => rfl)⟩
  have hfz : ∀ p ∈ l, Rep w (Zf K (St.mk sl ((q, none) :: ow) nx).f φ fr) p.1 (.sl p.2) := by
    intro p hp
    obtain ⟨xs, hwn, hxl, h2, h3⟩ := hl p hp
    have hl' : L2 (Rep w (Zf K (St.mk sl ((q, none) :: ow) nx).f φ fr)) xs p.2.flatten := Rep.monoL (fun b hb _ => ⟨hZ fr b hb, rfl⟩) hxl
    have hcell := fun g hg => hwn.cells (g := g) hg
    have hlt := hwn.lt
    obtain ⟨v, rows⟩ := p
    rcases hwn.2 with ⟨hv0, hn⟩ | ⟨g, cap, cur, hv0, _, hgc, hnc, hcm, _⟩
    · simp only at hv0 hn
      rw [hv0]
      have : rows = [] := List.eq_nil_of_length_eq_zero hn
      subst this
      exact .nilsl
    · simp only at hv0 hcell hlt hl' h2 h3 hgc hnc hcm ⊢
      have hvbp : VB (φ q) g := by rw [hv]; exact famVB.2 ⟨_, hp, by simp only [hv0]; rfl⟩
      have hm := hφ.mine q _ g ho hvbp
      have hge : K.w0.heap.size ≤ g := hm.resolve_right (hM g)
      rw [hv0] at hcell hlt ⊢
      refine .sl g 0 cap sz rows xs ⟨⟨.inl hge, fun i c hq hvq => ?_⟩, fun _ => K.hF _ hge⟩ (hlt g rfl).2 h2 h3 (fun j v hj => ?_) hnc hcm hl'
      · obtain ⟨hne, hq'⟩ := hown' i c hq
        exact hne (hφ.dis i q c _ g hq' ho hvq hvbp)
      · have := hcell g rfl j v hj
        rw [add_addr] at this
        exact soft_row hgc this
  have hc' : (St.mk sl ((q, none) :: ow) nx).f.own qc = some (.sl t 1 frc (l.map fun p => [.raw p.1])) := by
    simp only [St.f, lk_cons]
    rw [if_neg hne']
    exact hc
  refine ⟨φ, h1.reown hc' ?_⟩
  obtain ⟨xs, hwn, hxl, h2, h3⟩ := h1.own qc _ hc'
  have e1 := flat1 (fun p => PV.raw p.1) l
  have e2 := flat1 (fun p => PV.sl p.2) l
  rw [e1] at hxl
  refine ⟨xs, by rw [List.length_map] at hwn ⊢; exact hwn, ?_, fun r hr => by obtain ⟨p, _, rfl⟩ := List.mem_map.1 hr; rfl, ?_⟩
  · rw [e2]
    refine L2.ofGet (by simpa using hxl.length) fun i v p hi hp => ?_
    rw [List.getElem?_map] at hp
    obtain ⟨pl, hpl, rfl⟩ := Option.map_eq_some_iff.1 hp
    obtain ⟨p', hp', hr⟩ := hxl.getl hi
    rw [List.getElem?_map, hpl] at hp'
    cases hp'
    cases hr
    exact (hfz pl (List.mem_of_getElem? hpl)).weak (by simp)
  · intro r hr p hp
    obtain ⟨pl, _, rfl⟩ := List.mem_map.1 hr
    rw [List.mem_singleton] at hp
    subst hp; rfl
end
theorem T.nameO {K : Ctx} {sl : List (Nat × SV)} {ow : List (Nat × Option Own)} {nx : Nat} {c : Code} {Q : Exit → St → Prop} (g o : Nat) {c0 : Own} (hg : true = true) (ho : (St.mk sl ow nx).f.own o = some c0) (k : ∀ u, T K c ⟨(g, .eq u o) :: sl, ow, nx⟩ Q) : T K c ⟨sl, ow, nx⟩ Q :=
  ⟨fun a w hr => by obtain ⟨u, hu⟩ := hr.nameO g hg ho; exact (k u).out a w hu⟩
end Go.Proofs.Ytdflkbmpbblcfaa
/-! Straight lines of operations, told at once by a function on states. -/
namespace Go.Proofs.Ytdflkbmpbblcfaa
open Go Go.RowKit
set_option linter.unusedVariables false
set_option linter.unusedSimpArgs false

def isC : Operand → Bool
  | .const _ => true
  | _ => false
/-- May an operation be told by computing alone, whatever its operands are? -/
def plainOp (E : EnvF) : Op → Bool
  | .move _ | .assign _ | .unOp .. | .fieldAddr .. | .field .. | .extract .. | .build .. | .makeFunc .. | .convert .. | .box .. => true
  | .nilCheck x => match E.get x with
    | some (.optr ..) => true
    | some (.fptr ..) => true
    | _ => false
  | .load _ x => match E.get x with
    | some (.optr q _ _ _) => match E.own q with
      | some (.box _ _) => true
      | _ => false
    | _ => true
  | .binOp .quo _ _ y _ | .binOp .rem _ _ y _ | .binOp .shl _ _ y _ | .binOp .shr _ _ y _ => isC y
  | .binOp .. => true
  | .call { callee := .builtin .len, .. } => true
  | .call { callee := .builtin .max, .. } => true
  | .call { callee := .builtin .min, .. } => true
  | _ => false
/-- A step of an operation that is told by computing. -/
def stepE (K : Ctx) (o : Oper) : St → Option St
  | ⟨sl, ow, nx⟩ => match o.dst with
    | none => none
    | some d => match K.can d with
      | false => none
      | true => match o.op with
        | .box _ x => match (St.mk sl ow nx).f.get x with
          | some sx => match sx.ff with
            | some (fr, p) => some ⟨(d, .optr nx 0 0 0) :: sl, (nx, some (.box fr p.cells)) :: ow, nx + 1⟩
            | none => none
          | none => none
        | _ => match ev K.P (St.mk sl ow nx).f o with
          | some sv => some ⟨(d, sv) :: sl, ow, nx⟩
          | none => none
def stepG (K : Ctx) (o : Oper) (E : St) : Option St :=
  match o.guard with
  | some _ => none
  | none => match plainOp E.f o.op with
    | true => stepE K o E
    | false => none
/-- One that has a guard, or whose operands are known. -/
def stepH (K : Ctx) (ops : Array Oper) (o : Oper) (E : St) : Option St :=
  match wants ops E.f o with
  | some true => stepE K o E
  | some false => match o.dst with
    | some d => match K.can d with
      | true => match E with
        | ⟨sl, ow, nx⟩ => some ⟨(d, .tup []) :: sl, ow, nx⟩
      | false => none
    | none => none
  | none => none
section
variable {K : Ctx} {ops : Array Oper} {dr : Bool} {o : Oper} {rest : List Oper} {R : St → Prop} {E E' : St}
theorem J.stepE (hg : wants ops E.f o = some true) (h : stepE K o E = some E') (k : J K ops dr rest E' R) : J K ops dr (o :: rest) E R := by
  obtain ⟨sl, ow, nx⟩ := E
  unfold Go.Proofs.Ytdflkbmpbblcfaa.stepE at h
  simp only [] at h
  split at h
  · cases h
  · rename_i d hd
    split at h
    · cases h
    · rename_i hlt
      split at h
      · rename_i t x ho
        split at h
        · rename_i sx hx
          split at h
          · rename_i fr p hp
            obtain rfl := Option.some.inj h
            exact J.bx ho hg hd hlt hx hp k
          · cases h
        · cases h
      · split at h
        · rename_i sv he
          obtain rfl := Option.some.inj h
          exact J.e hg hd hlt he k
        · cases h
theorem J.H (h : stepH K ops o E = some E') (k : J K ops dr rest E' R) : J K ops dr (o :: rest) E R := by
  obtain ⟨sl, ow, nx⟩ := E
  unfold stepH at h
  split at h
  · rename_i hw; exact J.stepE hw h k
  · rename_i hw
    split at h
    · rename_i d hd
      split at h
      · rename_i hlt
        obtain rfl := Option.some.inj h
        exact J.skip hw hd hlt k
      · cases h
    · cases h
  · cases h
theorem J.step1 (h : stepG K o E = some E') (k : J K ops dr rest E' R) : J K ops dr (o :: rest) E R := by
  unfold stepG at h
  split at h
  · cases h
  · rename_i hg
    split at h
    · exact J.stepE (by simp [wants, hg]) h k
    · cases h
end
def advL (K : Ctx) (ops : Array Oper) (dr : Bool) : List Oper → St → (St → Prop) → Prop
  | [], E, R => R E
  | o :: rest, E, R => match stepG K o E with
    | some E' => advL K ops dr rest E' R
    | none => J K ops dr (o :: rest) E R
def prgL (K : Ctx) (l : List Oper) (E : St) : Bool :=
  match l with
  | [] => true
  | o :: _ => (stepG K o E).isSome
theorem advL_sound {K : Ctx} {ops : Array Oper} {dr : Bool} {R : St → Prop} : ∀ {l : List Oper} {E : St}, advL K ops dr l E R → J K ops dr l E R
  | [], E, h => .nil h
  | o :: rest, E, h => by
    simp only [advL] at h
    split at h
    · rename_i E' hs; exact J.step1 hs (advL_sound h)
    · exact h
theorem J.G {K : Ctx} {ops : Array Oper} {dr : Bool} {l : List Oper} {R : St → Prop} {E : St} (_ : prgL K l E = true) (h : advL K ops dr l E R) : J K ops dr l E R := advL_sound h
def advT (K : Ctx) : Code → St → (Exit → St → Prop) → Prop
  | .seq x y, E, Q => advT K x E (sq K y Q)
  | .block id c, E, Q => advT K c E (bk id Q)
  | .region id ops false, E, Q => advL K ops false ops.toList E (Q .normal)
  | .skip, E, Q => Q .normal E
  | .exit id, E, Q => Q (.exit id) E
  | .ret, E, Q => Q .ret E
  | .label _, E, Q => Q .normal E
  | c, E, Q => T K c E Q
def prgT : Code → Bool
  | .seq .. | .block .. | .region _ _ false | .skip | .exit _ | .ret | .label _ => true
  | _ => false
theorem advT_sound {K : Ctx} : ∀ {c : Code} {E : St} {Q : Exit → St → Prop}, advT K c E Q → T K c E Q
  | .seq x y, E, Q, h => .seq (advT_sound h)
  | .block id c, E, Q, h => .block (advT_sound h)
  | .region id ops false, E, Q, h => .r (advL_sound h)
  | .region id ops true, E, Q, h => h
  | .skip, E, Q, h => .skip h
  | .exit id, E, Q, h => .exit h
  | .ret, E, Q, h => .ret h
  | .label l, E, Q, h => .label h
  | .cond .., _, _, h => h
  | .loop _, _, _, h => h
  | .rangeFunc .., _, _, h => h
  | .scope _, _, _, h => h
  | .goto _, _, _, h => h
  | .refuse _, _, _, h => h
theorem T.G {K : Ctx} {c : Code} {E : St} {Q : Exit → St → Prop} (_ : prgT c = true) (h : advT K c E Q) : T K c E Q := advT_sound h
end Go.Proofs.Ytdflkbmpbblcfaa
/-! Maps that are owned. -/
namespace Go.Proofs.Ytdflkbmpbblcfaa
open Go Go.RowKit
open Go.ChangeMaps (setBlock)
set_option linter.unusedVariables false
set_option linter.unusedSimpArgs false
set_option linter.unusedSectionVars false

/-- The first place of a key; what is there; a list of entries, one put in, one taken out. -/
def fiA {α β : Type} [DecidableEq α] (l : List (α × β)) (a : α) : Option Nat := l.findIdx? fun p => decide (p.1 = a)
def lkA {α β : Type} [DecidableEq α] (l : List (α × β)) (a : α) : Option β := (fiA l a).bind fun j => (l[j]?).map (·.2)
def upA {α β : Type} [DecidableEq α] (l : List (α × β)) (a : α) (b : β) : List (α × β) := match fiA l a with
  | some j => l.set j (a, b)
  | none => l ++ [(a, b)]
def dlA {α β : Type} [DecidableEq α] (l : List (α × β)) (a : α) : List (α × β) := match fiA l a with
  | some j => l.eraseIdx j
  | none => l
/-- A kind of keys that are held against each other by what they are alone. -/
structure KeyK (P : Program) (kt : TypeId) {α : Type} [DecidableEq α] (ek : α → Value) : Prop where
  same : ∃ kind, P.underlying kt = some kind ∧ ∀ a b, Instr.sameNow kind (ek a) (ek b) = some (decide (a = b))
  chk : ∀ (e : Bool) (a : α) (w : World), (Instr.checkKey e 10000 kt (ek a)).run P w = .ok () w
  bits : ∀ a, Instr.sameBits 10000 (ek a) (ek a) = true
theorem beq_bytes (a b : ByteArray) : (a == b) = decide (a = b) := by
  have h : (a == b) = (a.data == b.data) := rfl
  rw [h]
  by_cases e : a = b
  · subst e; simp
  · rw [decide_eq_false e]
    have : a.data ≠ b.data := fun h => e (ByteArray.ext h)
    simpa using this
theorem keyI {P : Program} {kt : TypeId} (h : P.underlying kt = some (.int .i64)) : KeyK P kt (Value.int .i64) := by
  refine ⟨⟨_, h, fun a b => by simp only [Instr.sameNow, if_true]; by_cases e : a = b <;> simp [e]⟩, fun e a w => ?_, fun a => by simp [Instr.sameBits]⟩
  rw [Instr.checkKey]
  simp only [Sem.run_bind, run_underlying h, Result.andThen_ok]
  rfl
theorem keyS {P : Program} {kt : TypeId} (h : P.underlying kt = some .string) : KeyK P kt Value.string := by
  refine ⟨⟨_, h, fun a b => by simp only [Instr.sameNow, beq_bytes]⟩, fun e a w => ?_, fun a => by simp [Instr.sameBits, beq_bytes]⟩
  rw [Instr.checkKey]
  simp only [Sem.run_bind, run_underlying h, Result.andThen_ok]
  rfl
section
variable {α β : Type} [DecidableEq α] {P : Program} {kt : TypeId} {ek : α → Value}
theorem findNow_fi {kind : TypeDesc} (hs : ∀ a b, Instr.sameNow kind (ek a) (ek b) = some (decide (a = b))) (a : α) : ∀ (es : List MapEntry) (l : List (α × β)) (i : Nat), L2 (fun (e : MapEntry) p => e.key = ek p.1) es l →
    Instr.findNow kind (ek a) es i = some ((fiA l a).bind fun j => (es[j]?).map fun e => (i + j, e.val))
  | [], [], i, .nil => rfl
  | e :: es, p :: l, i, .cons h hr => by
    rw [Instr.findNow, h, hs]
    by_cases hab : a = p.1
    · have hf : fiA (p :: l) a = some 0 := by simp [fiA, List.findIdx?_cons, hab]
      rw [decide_eq_true hab, hf]; rfl
    · have hf : fiA (p :: l) a = (fiA l a).map (· + 1) := by simp [fiA, List.findIdx?_cons, Ne.symm hab]
      rw [decide_eq_false hab]
      simp only []
      rw [findNow_fi hs a es l (i + 1) hr, hf]
      cases fiA l a with
      | none => rfl
      | some j => simp [Nat.add_assoc, Nat.add_comm 1]
theorem fi_lt {l : List (α × β)} {a : α} {j : Nat} (h : fiA l a = some j) : ∃ p, l[j]? = some p ∧ p.1 = a := by
  unfold fiA at h
  rw [List.findIdx?_eq_some_iff_getElem] at h
  obtain ⟨hj, h1, _⟩ := h
  exact ⟨l[j], List.getElem?_eq_getElem hj, by simpa using h1⟩
theorem fi_none {l : List (α × β)} {a : α} (h : fiA l a = none) : ∀ p ∈ l, p.1 ≠ a := by
  unfold fiA at h
  rw [List.findIdx?_eq_none_iff] at h
  intro p hp
  simpa using h p hp
theorem run_find (K : KeyK P kt ek) (w : World) (a : α) {es : List MapEntry} {l : List (α × β)} (h : L2 (fun (e : MapEntry) p => e.key = ek p.1) es l) :
    (Instr.findKey kt (ek a) es).run P w = .ok ((fiA l a).bind fun j => (es[j]?).map fun e => (j, e.val)) w := by
  obtain ⟨kind, hu, hs⟩ := K.same
  have hf := findNow_fi hs a es l 0 h
  simp only [Instr.findKey, Sem.run_bind, run_underlying hu, Result.andThen_ok, hf]
  simp
theorem run_getMap {w : World} {g : Nat} {es : Array MapEntry} {c : Nat} (h : w.heap[g]? = some (.map es c)) : (getObj g).run P w = .ok (.map es c) w := by simp [getObj, Sem.run, h]
theorem run_setMap {w : World} {g : Nat} {es : Array MapEntry} {c : Nat} (o : Obj) (h : w.heap[g]? = some (.map es c)) : (setObj g o).run P w = .ok () { w with heap := w.heap.setIfInBounds g o } := by simp [setObj, Sem.run, h]
theorem L2.unmap {α β γ : Type} {R : α → γ → Prop} {f : β → γ} : ∀ {xas : List α} {bs : List β}, L2 R xas (bs.map f) → L2 (fun a b => R a (f b)) xas bs
  | [], [], .nil => .nil
  | _ :: _, _ :: _, .cons h hr => .cons h hr.unmap
theorem L2.tomap {α β γ : Type} {R : α → γ → Prop} {f : β → γ} : ∀ {xas : List α} {bs : List β}, L2 (fun a b => R a (f b)) xas bs → L2 R xas (bs.map f)
  | [], [], .nil => .nil
  | _ :: _, _ :: _, .cons h hr => .cons h hr.tomap
theorem run_lookup {t et : TypeId} {w : World} {g : Nat} {es : Array MapEntry} {clock : Nat} {l : List (α × β)} {z : Value} (K : KeyK P kt ek) (hu : P.underlying t = some (.map kt et)) (hb : w.heap[g]? = some (.map es clock)) (hk : L2 (fun (e : MapEntry) p => e.key = ek p.1) es.toList l)
    (hz : (zeroValue et).run P w = .ok z w) (a : α) (ok : Bool) : (Instr.lookup t (.map (some g)) (ek a) ok).run P w = .ok (let r := ((fiA l a).bind fun j => (es.toList[j]?).map (·.val)); if ok then .tuple #[r.getD z, .bool r.isSome] else r.getD z) w := by
  have hf := run_find K w a hk
  have hc := K.chk es.isEmpty a w
  simp only [Instr.lookup, Sem.run_bind, run_underlying hu, Result.andThen_ok, run_getMap hb]
  simp only [Sem.run_pure, Result.andThen_ok, hc, hf]
  cases hfi : fiA l a with
  | none => simp [hz]
  | some j =>
    obtain ⟨p, hp, _⟩ := fi_lt hfi
    obtain ⟨e, he, _⟩ := hk.get hp
    have he' : es[j]? = some e := by simpa using he
    simp [he']
theorem run_update {t et : TypeId} {w : World} {g : Nat} {es : Array MapEntry} {clock : Nat} {l : List (α × β)} (K : KeyK P kt ek) (hu : P.underlying t = some (.map kt et)) (hb : w.heap[g]? = some (.map es clock)) (hk : L2 (fun (e : MapEntry) p => e.key = ek p.1) es.toList l)
    (a : α) (v : Value) : (Instr.mapUpdate t (.map (some g)) (ek a) v).run P w = .ok () { w with heap := w.heap.setIfInBounds g (match fiA l a with
      | some j => .map (es.modify j fun e => { e with key := ek a, val := v }) clock
      | none => .map (es.push { key := ek a, val := v, born := clock }) (clock + 1)) } := by
  have hf := run_find K w a hk
  have hc := K.chk false a w
  simp only [Instr.mapUpdate, Sem.run_bind, run_underlying hu, Result.andThen_ok, run_getMap hb]
  simp only [Sem.run_pure, Result.andThen_ok, hc, hf]
  cases hfi : fiA l a with
  | none =>
    simp only [Option.bind_none]
    rw [run_setMap _ hb]
  | some j =>
    obtain ⟨p, hp, hpa⟩ := fi_lt hfi
    obtain ⟨e, he, hek⟩ := hk.get hp
    have he' : es[j]? = some e := by simpa using he
    have hkey : e.key = ek a := by rw [hek, hpa]
    simp only [Option.bind_some, Array.getElem?_toList, he', Option.map_some, Option.getD_some, hkey, Instr.keyThatStays, K.bits a, if_true, Sem.run_bind, Sem.run_pure, Result.andThen_ok]
    rw [run_setMap _ hb]
theorem run_delete {t et : TypeId} {w : World} {g : Nat} {es : Array MapEntry} {clock : Nat} {l : List (α × β)} (K : KeyK P kt ek) (hu : P.underlying t = some (.map kt et)) (hb : w.heap[g]? = some (.map es clock)) (hk : L2 (fun (e : MapEntry) p => e.key = ek p.1) es.toList l)
    (a : α) (ty ty2 : TypeId) : (Builtin.delete_ #[t, ty2] ty #[.map (some g), ek a]).run P w = .ok (.tuple #[]) { w with heap := w.heap.setIfInBounds g (match fiA l a with
      | some j => .map (es.eraseIdxIfInBounds j) clock
      | none => .map es clock) } := by
  have hf := run_find K w a hk
  have hc := K.chk es.isEmpty a w
  simp only [Builtin.delete_, Sem.run_bind, List.getElem?_toArray, List.getElem?_cons_zero, List.getElem?_cons_succ, run_underlying hu, Result.andThen_ok, run_getMap hb, hc, hf]
  cases hfi : fiA l a with
  | none =>
    simp only [Option.bind_none]
    rw [Sem.run_bind, run_setMap _ hb]; rfl
  | some j =>
    obtain ⟨p, hp, hpa⟩ := fi_lt hfi
    obtain ⟨e, he, hek⟩ := hk.get hp
    have he' : es[j]? = some e := by simpa using he
    simp only [Option.bind_some, Array.getElem?_toList, he', Option.map_some]
    rw [Sem.run_bind, run_setMap _ hb]; rfl
end
/-- What is owned turns in its own block. -/
theorem RelW.turn {K : Ctx} {V : EnvF} {U : Nat → Prop} {φ : Nat → Value} {a : Act} {w w' : World} (h : RelW K V U φ a w) {q : Nat} {c c' : Own} (hq : V.own q = some c) (hos : w'.os = w.os) (htape : w'.tape = w.tape) (hout : w'.output = w.output) (hsize : w.heap.size ≤ w'.heap.size)
    (hkeep : ∀ b, b < w.heap.size → ¬ VB (φ q) b → w'.heap[b]? = w.heap[b]?) (hnew : (∀ f b, Zf K V φ f b → b < w.heap.size → Zf K V φ f b ∧ w'.heap[b]? = w.heap[b]?) → OwnRel w' (Zf K V φ) (φ q) c') : RelW K ⟨V.slot, fun j => if j = q then some c' else V.own j⟩ U φ a w' := by
  have hdom : ∀ j c2, (if j = q then some c' else V.own j) = some c2 → ∃ c3, V.own j = some c3 := by
    intro j c2 hj
    by_cases e : j = q
    · subst e; exact ⟨c, hq⟩
    · rw [if_neg e] at hj; exact ⟨c2, hj⟩
  have hZ : ∀ f b, Zf K ⟨V.slot, fun j => if j = q then some c' else V.own j⟩ φ f b ↔ Zf K V φ f b := by
    intro f b
    constructor
    · refine fun hb => ⟨⟨hb.1.1, fun j c2 hj => ?_⟩, hb.2⟩
      by_cases e : j = q
      · subst e; exact hb.1.2 j c' (if_pos rfl)
      · exact hb.1.2 j c2 ((if_neg e).trans hj)
    · refine fun hb => ⟨⟨hb.1.1, fun j c2 hj => ?_⟩, hb.2⟩
      obtain ⟨c3, h3⟩ := hdom j c2 hj
      exact hb.1.2 j c3 h3
  refine h.step (fun b => VB (φ q) b) (fun j => j = q) rfl (fun _ hu => hu) (fun _ _ => rfl) hos htape hout hsize hkeep ?_ ?_ ?_ ?_
  · exact fun b _ hb => ⟨q, c, hq, hb, rfl⟩
  · intro j c1 hj hne
    simpa [hne] using hj
  · rintro j c1 hj rfl
    simp only [if_pos, Option.some.injEq] at hj
    subst hj
    refine ⟨h.inU _ c hq, ?_, fun g' hg' => .inr ⟨_, c, hq, hg', rfl⟩⟩
    have e : Zf K ⟨V.slot, fun i => if i = j then some c' else V.own i⟩ φ = Zf K V φ := funext fun f => funext fun b => propext (hZ f b)
    rw [e]
    refine hnew fun f b hb hlt => ⟨hb, hkeep b hlt fun hv => hb.1.2 _ c hq hv⟩
  · rintro j j' _ _ _ _ _ rfl rfl _ _
    rfl
section
variable {α β : Type} [DecidableEq α] {ek : α → Value} {en : β → PV}
omit [DecidableEq α] in
theorem mp_keys {w : World} {Z : Nat → Prop} {es : List MapEntry} {l : List (α × β)} (h : L2 (fun (e : MapEntry) p => e.key = p.1 ∧ Rep w Z e.val p.2) es (l.map fun p => (ek p.1, en p.2))) : L2 (fun (e : MapEntry) p => e.key = ek p.1) es l := h.unmap.imp fun _ _ h => h.1
theorem set_modify {α : Type} (f : α → α) : ∀ (l : List α) (j : Nat) (x : α), l[j]? = some x → l.modify j f = l.set j (f x)
  | [], j, x, h => by simp at h
  | y :: l, 0, x, h => by simp at h; subst h; rfl
  | y :: l, j + 1, x, h => by simp at h; simp [set_modify f l j x h]
theorem L2.erase {α β : Type} {R : α → β → Prop} {xas : List α} {bs : List β} (h : L2 R xas bs) (n : Nat) : L2 R (xas.eraseIdx n) (bs.eraseIdx n) := by
  induction h generalizing n with
  | nil => simpa using L2.nil
  | cons h k ih => cases n with
    | zero => exact k
    | succ n => exact .cons h (ih n)
theorem mp_up {w w' : World} {Zb : Bool → Nat → Prop} {fr fp : Bool} {b : Option (List Nat × Nat)} {l : List (α × β)} {u : Value} {g : Nat} {es : Array MapEntry} {clock : Nat} {a : α} {y : β} {v : Value} (hu : u = .map (some g))
    (hl : L2 (fun (e : MapEntry) p => e.key = p.1 ∧ Rep w (Zb fr) e.val p.2) es.toList (l.map fun p => (ek p.1, en p.2))) (hbn : ∀ e ∈ es.toList, e.born < clock) (hnd : (es.toList.map (·.born)).Nodup) (hone : ∀ p ∈ l.map fun p => (ek p.1, en p.2), p.2.one = true)
    (hw' : w'.heap[g]? = some (match fiA l a with
      | some j => .map (es.modify j fun e => { e with key := ek a, val := v }) clock
      | none => .map (es.push { key := ek a, val := v, born := clock }) (clock + 1)))
    (hm : ∀ f, ∀ v p, Rep w (Zb f) v p → Rep w' (Zb f) v p) (hv : Rep w (Zb fp) v (en y)) (hy1 : (en y).one = true) (hwk : ∀ f g : Bool, (g = true → f = true) → ∀ v p, Rep w' (Zb f) v p → Rep w' (Zb g) v p) :
    OwnRel w' Zb u (.mp (fr && fp) none ((upA l a y).map fun p => (ek p.1, en p.2))) := by
  have hl' : L2 (fun (e : MapEntry) p => e.key = p.1 ∧ Rep w' (Zb (fr && fp)) e.val p.2) es.toList (l.map fun p => (ek p.1, en p.2)) := hl.imp fun _ _ h => ⟨h.1, hwk fr (fr && fp) (by simp; intro a _; exact a) _ _ (hm fr _ _ h.2)⟩
  have hv' : Rep w' (Zb (fr && fp)) v (en y) := hwk fp (fr && fp) (by simp) _ _ (hm fp _ _ hv)
  unfold upA
  cases hfi : fiA l a with
  | none =>
    rw [hfi] at hw'
    refine ⟨g, _, _, hu, hw', ?_, ?_, ?_, ?_, .inl rfl⟩
    · simp only [Array.toList_push, List.map_append]
      exact hl'.append (.cons ⟨rfl, hv'⟩ .nil)
    · intro e he
      simp only [Array.toList_push, List.mem_append, List.mem_singleton] at he
      rcases he with he | rfl
      · exact Nat.lt_succ_of_lt (hbn e he)
      · exact Nat.lt_succ_self _
    · simp only [Array.toList_push, List.map_append, List.map_cons, List.map_nil]
      rw [List.nodup_append]
      refine ⟨hnd, by simp, fun x hx z hz => ?_⟩
      obtain ⟨e, he, rfl⟩ := List.mem_map.1 hx
      simp only [List.mem_singleton] at hz
      subst hz
      exact Nat.ne_of_lt (hbn e he)
    · intro p hp
      rw [List.map_append, List.mem_append] at hp
      rcases hp with hp | hp
      · exact hone p hp
      · simp only [List.map_cons, List.map_nil, List.mem_singleton] at hp
        subst hp; exact hy1
  | some j =>
    rw [hfi] at hw'
    obtain ⟨p0, hp0, hpa⟩ := fi_lt hfi
    obtain ⟨e0, he0, _⟩ := (mp_keys hl).get hp0
    have htl : (es.modify j fun e => { e with key := ek a, val := v }).toList = es.toList.set j { e0 with key := ek a, val := v } := by rw [Array.toList_modify, set_modify _ _ _ _ he0]
    have hborn : ((es.toList.set j { e0 with key := ek a, val := v }).map (·.born)) = es.toList.map (·.born) := by
      rw [List.map_set]
      apply List.ext_getElem?
      intro i
      rw [List.getElem?_set]
      by_cases e : j = i
      · subst e
        rw [if_pos rfl, List.getElem?_map, he0]
        have := (List.getElem?_eq_some_iff.1 he0).1
        rw [if_pos (by simpa using this)]; rfl
      · rw [if_neg e]
    refine ⟨g, _, _, hu, hw', ?_, ?_, ?_, ?_, .inl rfl⟩
    · rw [htl, List.map_set]
      exact hl'.set j ⟨rfl, hv'⟩
    · intro e he
      rw [htl] at he
      rcases List.mem_or_eq_of_mem_set he with he | rfl
      · exact hbn e he
      · exact hbn e0 (List.mem_of_getElem? he0)
    · rw [htl, hborn]; exact hnd
    · intro p hp
      rw [List.map_set] at hp
      rcases List.mem_or_eq_of_mem_set hp with hp | rfl
      · exact hone p hp
      · exact hy1
end
section
variable {K : Ctx} {ops : Array Oper} {dr : Bool} {o : Oper} {rest : List Oper} {sl : List (Nat × SV)} {ow : List (Nat × Option Own)} {nx : Nat} {R : St → Prop} {d q : Nat} {α β : Type} [DecidableEq α] {ek : α → Value} {en : β → PV} {fr : Bool} {b : Option (List Nat × Nat)} {l : List (α × β)} {t kt et : TypeId} {x i : Operand}
/-- A look into a map. -/
theorem J.ml (a : α) (z : PV) {zv : Value} {fi cok : Bool} {si : SV} {pi : PV} (ho : o.op = .lookup t x i cok) (hg : wants ops (St.mk sl ow nx).f o = some true) (hd : o.dst = some d) (hlt : K.can d = true) (hx : (St.mk sl ow nx).f.get x = some (.ref q)) (hq : (St.mk sl ow nx).f.own q = some (.mp fr b (l.map fun p => (ek p.1, en p.2))))
    (hi : (St.mk sl ow nx).f.get i = some si) (hp : si.ff = some (fi, pi)) (hu : K.P.underlying t = some (.map kt et)) (hz : ∀ w, (zeroValue et).run K.P w = .ok zv w) (hzr : ∀ w Z, Rep w Z zv z) (hk : KeyK K.P kt ek) (hpk : ∀ w Z v, Rep w Z v pi → v = ek a)
    (k : J K ops false rest ⟨(d, if cok = true then .tup [mkv fr (((lkA l a).map en).getD z), .val true (.bool (lkA l a).isSome)] else mkv fr (((lkA l a).map en).getD z)) :: sl, ow, nx⟩ R) : J K ops false (o :: rest) ⟨sl, ow, nx⟩ R := by
  refine ⟨TO.step hg ?_ k.out⟩
  intro A w next Q hr hn
  obtain ⟨φ, hφ⟩ := hr
  obtain ⟨hrx, _⟩ := get_sound hφ hx
  have hrx : A.eval x = φ q := hrx
  have hri := ff_sound hφ hi hp
  obtain ⟨g, es, clock, hv, hb, hl, _, _, _, _⟩ := hφ.own q _ hq
  have hrun := run_lookup (l := l) hk hu hb (mp_keys hl) (hz w) a cok
  have hrun' : (execOp A.eval o).run K.P w = .ok (.value (let r := ((fiA l a).bind fun j => (es.toList[j]?).map (·.val)); if cok then .tuple #[r.getD zv, .bool r.isSome] else r.getD zv)) w := by
    simp only [execOp, ho, hrx, hv, hpk _ _ _ hri, Sem.run_bind, hrun, Result.andThen_ok]
    rfl
  unfold Oper.wp
  rw [hrun']
  obtain ⟨hval, hsome⟩ : Rep w (Zf K (St.mk sl ow nx).f φ fr) (((fiA l a).bind fun j => (es.toList[j]?).map (·.val)).getD zv) (((lkA l a).map en).getD z) ∧ ((fiA l a).bind fun j => (es.toList[j]?).map (·.val)).isSome = (lkA l a).isSome := by
    unfold lkA
    cases hfi : fiA l a with
    | none => exact ⟨hzr _ _, rfl⟩
    | some j =>
      obtain ⟨p, hp, _⟩ := fi_lt hfi
      obtain ⟨e, he, _, hr⟩ := hl.unmap.get hp
      simp only [Option.bind_some, he, Option.map_some, hp, Option.getD_some, Option.isSome_some, and_true]
      exact hr
  refine hn _ _ ⟨φ, ?_⟩
  rw [hd]
  obtain ⟨h3, h4⟩ := mkv_sound (φ := φ) (U := (· < nx)) (fr := fr) (Z := Zf K (St.mk sl ow nx).f φ) hval
  cases cok with
  | false => exact hφ.put hlt (sv := mkv fr (((lkA l a).map en).getD z)) h3 h4 rfl slot_put
  | true =>
    have hne : ∀ l2, mkv fr (((lkA l a).map en).getD z) ≠ .tup l2 := fun l2 => by generalize ((lkA l a).map en).getD z = p; cases p <;> simp [mkv]
    have hm : ∀ (v : Value) (s : SV), SVRel w (Zf K (St.mk sl ow nx).f φ) φ v s → (∀ l, s ≠ .tup l) → SVRel1 w (Zf K (St.mk sl ow nx).f φ) φ v s := fun v s hs hne => by cases s <;> first | exact hs | exact absurd rfl (hne _)
    have hm2 : ∀ s : SV, s.inU (· < nx) → (∀ l, s ≠ .tup l) → s.in1 (· < nx) := fun s hs hne => by cases s <;> first | exact hs | exact absurd rfl (hne _)
    refine hφ.put hlt (sv := .tup [mkv fr (((lkA l a).map en).getD z), .val true (.bool (lkA l a).isSome)]) ⟨_, rfl, .cons (hm _ _ h3 hne) (.cons ?_ .nil)⟩ (fun s hs => ?_) rfl slot_put
    · rw [hsome]; exact Rep.bool _
    · simp only [List.mem_cons, List.not_mem_nil, or_false] at hs
      rcases hs with rfl | rfl
      · exact hm2 _ h4 hne
      · trivial
/-- A map is written. -/
theorem J.mu (a : α) (y : β) {v : Operand} {fi fp : Bool} {si sy : SV} {pi py : PV} (ho : o.op = .mapUpdate t x i v) (hg : wants ops (St.mk sl ow nx).f o = some true) (hd : o.dst = none) (hx : (St.mk sl ow nx).f.get x = some (.ref q)) (hq : (St.mk sl ow nx).f.own q = some (.mp fr b (l.map fun p => (ek p.1, en p.2))))
    (hi : (St.mk sl ow nx).f.get i = some si) (hp : si.ff = some (fi, pi)) (hv : (St.mk sl ow nx).f.get v = some sy) (hpy : sy.ff = some (fp, py)) (hu : K.P.underlying t = some (.map kt et)) (h1 : (en y).one = true) (hk : KeyK K.P kt ek) (hpk : ∀ w Z v, Rep w Z v pi → v = ek a) (hy : py = en y)
    (k : J K ops false rest ⟨sl, (q, some (.mp (fr && fp) none ((upA l a y).map fun p => (ek p.1, en p.2)))) :: ow, nx⟩ R) : J K ops false (o :: rest) ⟨sl, ow, nx⟩ R := by
  refine ⟨TO.step hg ?_ k.out⟩
  intro A w next Q hr hn
  obtain ⟨φ, hφ⟩ := hr
  obtain ⟨hrx, _⟩ := get_sound hφ hx
  have hrx : A.eval x = φ q := hrx
  have hri := ff_sound hφ hi hp
  have hrv := ff_sound hφ hv hpy
  obtain ⟨g, es, clock, hvm, hb, hl, hbn, hnd, hone, _⟩ := hφ.own q _ hq
  have hrun := run_update (l := l) hk hu hb (mp_keys hl) a (A.eval v)
  obtain ⟨w', hw'⟩ : ∃ w' : World, w' = { w with heap := w.heap.setIfInBounds g (match fiA l a with
      | some j => .map (es.modify j fun e => { e with key := ek a, val := A.eval v }) clock
      | none => .map (es.push { key := ek a, val := A.eval v, born := clock }) (clock + 1)) } := ⟨_, rfl⟩
  have hrun' : (execOp A.eval o).run K.P w = .ok .skip w' := by
    simp only [execOp, ho, hrx, hvm, hpk _ _ _ hri, Sem.run_bind, hrun, Result.andThen_ok]
    rw [hw']; rfl
  unfold Oper.wp
  rw [hrun']
  have hput : A.put o.dst undef = A := by rw [hd]; rfl
  show next (A.put o.dst undef) w'
  rw [hput]
  have hglt := (Array.getElem?_eq_some_iff.1 hb).1
  have hnew : w'.heap[g]? = some (match fiA l a with
      | some j => .map (es.modify j fun e => { e with key := ek a, val := A.eval v }) clock
      | none => .map (es.push { key := ek a, val := A.eval v, born := clock }) (clock + 1)) := by
    rw [hw']; simp [hglt]
  have hoth : ∀ b', b' < w.heap.size → ¬ VB (φ q) b' → w'.heap[b']? = w.heap[b']? := by
    intro b' _ hnv
    have hne : g ≠ b' := by rintro rfl; exact hnv (.inl (by rw [hvm]; rfl))
    rw [hw']; simp [hne]
  refine hn _ _ ⟨φ, ?_⟩
  have := hφ.turn (w' := w') hq (by rw [hw']) (by rw [hw']) (by rw [hw']) (by rw [hw']; simp) hoth (c' := .mp (fr && fp) none ((upA l a y).map fun p => (ek p.1, en p.2))) fun hz => by
    refine mp_up (b := b) (l := l) (a := a) (v := A.eval v) (clock := clock) (es := es) hvm hl hbn hnd hone hnew (fun f v p hr => hr.mono (hz f)) (fp := fp) (by rw [← hy]; exact hrv) h1 (fun f g hfg v p hr => hr.weak hfg)
  have e : (St.mk sl ((q, some (.mp (fr && fp) none ((upA l a y).map fun p => (ek p.1, en p.2)))) :: ow) nx).f = ⟨(St.mk sl ow nx).f.slot, fun j => if j = q then some (.mp (fr && fp) none ((upA l a y).map fun p => (ek p.1, en p.2))) else (St.mk sl ow nx).f.own j⟩ := by
    refine EnvF.ext (fun _ => rfl) fun j => ?_
    simp only [St.f, lk_cons]
    by_cases e : q = j
    · subst e; simp
    · rw [if_neg e, if_neg (Ne.symm e)]
  show RelW K (St.mk sl ((q, some (.mp (fr && fp) none ((upA l a y).map fun p => (ek p.1, en p.2)))) :: ow) nx).f _ φ _ w'
  rw [e]
  exact this
/-- A new map. -/
theorem J.mm (ho : o.op = .makeMap t none) (hg : wants ops (St.mk sl ow nx).f o = some true) (hd : o.dst = some d) (hlt : K.can d = true)
    (k : J K ops dr rest ⟨(d, .ref nx) :: sl, (nx, some (.mp true none [])) :: ow, nx + 1⟩ R) : J K ops dr (o :: rest) ⟨sl, ow, nx⟩ R := by
  refine .does hg hd hlt (.genO (xs := []) (l := []) (by simp) rfl ?_) k
  intro a w _
  refine ⟨.map (some w.heap.size), w.alloc (.map #[] 0), ?_, below_alloc w _, fun Z => ⟨w.heap.size, #[], 0, rfl, heap_alloc_new w _, .nil, by simp, by simp, by simp, .inl rfl⟩, fun g hg => ?_⟩
  · simp only [execOp, ho, Option.map_none, Instr.makeMap]
    rfl
  · have : w.heap.size = g := by simpa [VB, vblock] using hg
    omega
/-- A range over a map begins. -/
theorem J.rg (gs : Nat) (ho : o.op = .range t x) (hg : wants ops (St.mk sl ow nx).f o = some true) (hd : o.dst = some d) (hlt : K.can d = true) (hgs : true = true) (hx : (St.mk sl ow nx).f.get x = some (.ref q)) (hq : (St.mk sl ow nx).f.own q = some (.mp fr b (l.map fun p => (ek p.1, en p.2)))) (hu : K.P.underlying t = some (.map kt et))
    (k : ∀ (m : Nat) (bs : List Nat) (clock : Nat), bs.length = l.length → bs.Nodup → J K ops false rest ⟨(gs, .eq (.map (some m)) q) :: (d, .ref nx) :: sl, (nx, some (.it m clock #[] clock)) :: (q, some (.mp fr (some (bs, clock)) (l.map fun p => (ek p.1, en p.2)))) :: ow, nx + 1⟩ R) : J K ops false (o :: rest) ⟨sl, ow, nx⟩ R := by
  refine ⟨⟨fun A w Q hr hn => ?_⟩⟩
  obtain ⟨φ, hφ⟩ := hr
  obtain ⟨hrx, _⟩ := get_sound hφ hx
  have hrx : A.eval x = φ q := hrx
  obtain ⟨g, es, clock, hvm, hb, hl, hbn, hnd, hone, hbb⟩ := hφ.own q _ hq
  have hbl : (es.toList.map (·.born)).length = l.length := by have := hl.length; simp at this; simp [this]
  obtain ⟨c2, hc2⟩ : ∃ c2 : Own, c2 = .mp fr (some (es.toList.map (·.born), clock)) (l.map fun p => (ek p.1, en p.2)) := ⟨_, rfl⟩
  have h1 := hφ.reown (c2 := c2) hq (by rw [hc2]; exact ⟨g, es, clock, hvm, hb, hl, hbn, hnd, hone, .inr rfl⟩)
  have h2 := h1.add (below_alloc w (.mapIter (some g) clock #[] clock)) nx [.it g clock #[] clock] [.pointer (some ⟨w.heap.size, 0, none⟩)] (fun j h1 h2 h3 => by simp at h2; omega) rfl (fun i c v hc hv => by
    cases i with
    | succ i => simp at hc
    | zero =>
      simp at hc hv
      subst hc hv
      exact ⟨⟨_, rfl, heap_alloc_new w _⟩, fun g hg => by have : w.heap.size = g := by simpa [VB, vblock] using hg
                                                          omega⟩) (fun i j v v' g hi hj _ _ => by cases i <;> cases j <;> simp_all)
  have hU : addU (· < nx) nx [Own.it g clock #[] clock] = (· < nx + 1) := by
    funext i
    simp only [addU, List.length_singleton, eq_iff_iff]
    omega
  have e1 : (St.mk sl ((nx, some (.it g clock #[] clock)) :: (q, some c2) :: ow) (nx + 1)).f = (St.mk sl ((q, some c2) :: ow) nx).f.add nx [.it g clock #[] clock] := f_push sl ((q, some c2) :: ow) nx (nx + 1) [.it g clock #[] clock]
  rw [hU, ← e1] at h2
  have h3 : RelW K (St.mk ((d, .ref nx) :: sl) ((nx, some (.it g clock #[] clock)) :: (q, some c2) :: ow) (nx + 1)).f (· < nx + 1) _ _ _ := h2.put hlt (v := .pointer (some ⟨w.heap.size, 0, none⟩)) (sv := .ref nx) (by simp [SVRel, SVRel1, addφ]) (by show nx < nx + 1; omega) rfl slot_put
  obtain ⟨v0, hv0⟩ := tmps_some h3 hgs
  have hqn : q < nx := hφ.inU q _ hq
  have h4 : RelW K (St.mk ((gs, .eq (.map (some g)) q) :: (d, .ref nx) :: sl) ((nx, some (.it g clock #[] clock)) :: (q, some c2) :: ow) (nx + 1)).f (· < nx + 1) _ _ _ := h3.reslot (s := gs) (sv := .eq (.map (some g)) q) hv0 (by
    show addφ φ nx _ q = _
    unfold addφ
    rw [if_neg (by omega)]; exact hvm) (by show q < nx + 1; omega) rfl slot_put
  have hrun : (execOp A.eval o).run K.P w = .ok (.value (.pointer (some ⟨w.heap.size, 0, none⟩))) (w.alloc (.mapIter (some g) clock #[] clock)) := by
    simp only [execOp, ho, hrx, hvm, Instr.range, Sem.run_bind, run_underlying hu, Result.andThen_ok, run_getMap hb]
    rfl
  unfold wpList
  rw [if_pos (wants_sound hφ hg)]
  refine .inl ?_
  unfold Oper.wp
  rw [hrun]
  have hfin := (k g (es.toList.map (·.born)) clock hbl hnd).out.out (A.put (some d) (.pointer (some ⟨w.heap.size, 0, none⟩))) (w.alloc (.mapIter (some g) clock #[] clock)) Q
  rw [hc2] at h4
  have := hfin ⟨_, h4⟩ hn
  rw [← hd] at this
  exact this
/-- The next entry, whichever. -/
theorem J.nxt {gs qi m clock : Nat} {bs : List Nat} {seen : Array Nat} {it : Operand} {ekp : α → PV} (ho : o.op = .next it false) (hg : wants ops (St.mk sl ow nx).f o = some true) (hd : o.dst = some d) (hlt : K.can d = true) (hi : (St.mk sl ow nx).f.get it = some (.ref qi)) (hqi : (St.mk sl ow nx).f.own qi = some (.it m clock seen clock)) (hgs : lk sl gs = some (.eq (.map (some m)) q))
    (hq : (St.mk sl ow nx).f.own q = some (.mp fr (some (bs, clock)) (l.map fun p => (ek p.1, en p.2)))) (hek : ∀ w Z a, Rep w Z (ek a) (ekp a))
    (k0 : (∀ (i x : Nat), bs[i]? = some x → x ∈ seen) → J K ops false rest ⟨(d, .tup [.val true (.bool false)]) :: sl, ow, nx⟩ R)
    (k1 : ∀ (i : Nat) (p : α × β) (x : Nat), l[i]? = some p → bs[i]? = some x → x ∉ seen → J K ops false rest ⟨(d, .tup [.val true (.bool true), .val true (ekp p.1), mkv fr (en p.2)]) :: sl, (qi, some (.it m clock (seen.push x) clock)) :: ow, nx⟩ R) : J K ops false (o :: rest) ⟨sl, ow, nx⟩ R := by
  refine ⟨⟨fun A w Q hr hn => ?_⟩⟩
  obtain ⟨φ, hφ⟩ := hr
  obtain ⟨hri, _⟩ := get_sound hφ hi
  have hri : A.eval it = φ qi := hri
  obtain ⟨_, _, hm⟩ := hφ.slot gs _ hgs
  have hm : φ q = .map (some m) := hm
  obtain ⟨g, es, ck, hvm, hb, hl, hbn, hnd, hone, hbb⟩ := hφ.own q _ hq
  rw [hm] at hvm
  cases hvm
  have hbb : bs = es.toList.map (·.born) ∧ clock = ck := by
    rcases hbb with h | h
    · cases h
    · simp only [Option.some.injEq, Prod.mk.injEq] at h; exact h
  obtain ⟨hbs, rfl⟩ := hbb
  obtain ⟨r, hvi, hir⟩ := hφ.own qi _ hqi
  unfold wpList
  rw [if_pos (wants_sound hφ hg)]
  refine .inl ?_
  have hleft : ∀ e : MapEntry, e ∈ (leftOf es seen).toList ↔ e ∈ es.toList ∧ e.born ∉ seen := by
    intro e
    simp [leftOf]
  rcases run_next_at (P := K.P) w o.type r m clock clock seen es clock hir hb hbn (Nat.le_refl _) with ⟨h0, hrun⟩ | ⟨e, he, w1, hw1, hrun⟩
  · have hrun' : (execOp A.eval o).run K.P w = .ok (.value (.tuple #[.bool false])) w := by
      simp only [execOp, ho, hri, hvi, Sem.run_bind, hrun, Result.andThen_ok]
      rfl
    unfold Oper.wp
    rw [hrun']
    have hall : ∀ (i x : Nat), bs[i]? = some x → x ∈ seen := by
      intro i x hx
      rw [hbs, List.getElem?_map] at hx
      obtain ⟨e, he, rfl⟩ := Option.map_eq_some_iff.1 hx
      by_cases hc : e.born ∈ seen
      · exact hc
      · have := (hleft e).2 ⟨List.mem_of_getElem? he, hc⟩
        have h00 : (leftOf es seen).toList = [] := by
          apply List.eq_nil_of_length_eq_zero
          simpa using h0
        rw [h00] at this
        cases this
    have h3 : RelW K (St.mk ((d, .tup [.val true (.bool false)]) :: sl) ow nx).f (· < nx) φ (A.put (some d) (.tuple #[.bool false])) w := hφ.put hlt (sv := .tup [.val true (.bool false)]) ⟨[.bool false], rfl, .cons (Rep.bool _) .nil⟩ (fun s hs => by simp at hs; subst hs; trivial) rfl slot_put
    have := (k0 hall).out.out _ w Q ⟨φ, h3⟩ hn
    rw [← hd] at this
    exact this
  · obtain ⟨he1, he2⟩ := (hleft e).1 he
    obtain ⟨i, hi2⟩ := List.getElem?_of_mem he1
    obtain ⟨p, hp, hkey, hrep⟩ := hl.unmap.getl hi2
    have hx : bs[i]? = some e.born := by rw [hbs, List.getElem?_map, hi2]; rfl
    have hrlt := (Array.getElem?_eq_some_iff.1 hir).1
    have hne : r ≠ m := by rintro rfl; rw [hir] at hb; cases hb
    have hrun' : (execOp A.eval o).run K.P w = .ok (.value (.tuple #[.bool true, e.key, e.val])) (setBlock w1 r (.mapIter (some m) clock (seen.push e.born) clock)) := by
      simp only [execOp, ho, hri, hvi, Sem.run_bind, hrun, Result.andThen_ok]
      rfl
    unfold Oper.wp
    rw [hrun']
    have hw1h : w1.heap = w.heap ∧ w1.os = w.os ∧ w1.tape = w.tape ∧ w1.output = w.output := by rcases hw1 with rfl | rfl <;> exact ⟨rfl, rfl, rfl, rfl⟩
    have hoth : ∀ b', b' < w.heap.size → ¬ VB (φ qi) b' → (setBlock w1 r (.mapIter (some m) clock (seen.push e.born) clock)).heap[b']? = w.heap[b']? := by
      intro b' _ hnv
      have hne : r ≠ b' := by rintro rfl; exact hnv (.inl (by rw [hvi]; rfl))
      simp [setBlock, hw1h.1, hne]
    have h2 := hφ.turn (w' := setBlock w1 r (.mapIter (some m) clock (seen.push e.born) clock)) hqi hw1h.2.1 hw1h.2.2.1 hw1h.2.2.2 (by simp [setBlock, hw1h.1]) hoth (c' := .it m clock (seen.push e.born) clock) fun _ => ⟨r, hvi, by simp [setBlock, hw1h.1, hrlt]⟩
    have e1 : (St.mk sl ((qi, some (.it m clock (seen.push e.born) clock)) :: ow) nx).f = ⟨(St.mk sl ow nx).f.slot, fun j => if j = qi then some (.it m clock (seen.push e.born) clock) else (St.mk sl ow nx).f.own j⟩ := by
      refine EnvF.ext (fun _ => rfl) fun j => ?_
      simp only [St.f, lk_cons]
      by_cases e : qi = j
      · subst e; simp
      · rw [if_neg e, if_neg (Ne.symm e)]
    rw [← e1] at h2
    have hqne : q ≠ qi := by rintro rfl; rw [hq] at hqi; cases hqi
    obtain ⟨g2, es2, ck2, hvm2, hb2, hl2, _⟩ := h2.own q (.mp fr (some (bs, clock)) (l.map fun p => (ek p.1, en p.2))) (by simp only [St.f, lk_cons]; rw [if_neg (Ne.symm hqne)]; exact hq)
    rw [hm] at hvm2
    cases hvm2
    have hes : es2 = es := by
      have h5 : (setBlock w1 r (.mapIter (some m) clock (seen.push e.born) clock)).heap[m]? = w.heap[m]? := by simp [setBlock, hw1h.1, hne]
      rw [h5, hb] at hb2
      cases hb2; rfl
    subst hes
    obtain ⟨p2, hp2, _, hrep2⟩ := hl2.unmap.getl hi2
    rw [hp] at hp2
    cases hp2
    obtain ⟨h3, h4⟩ := mkv_sound (φ := φ) (U := (· < nx)) (fr := fr) (Z := Zf K (St.mk sl ((qi, some (.it m clock (seen.push e.born) clock)) :: ow) nx).f φ) hrep2
    have hne2 : ∀ l2, mkv fr (en p.2) ≠ .tup l2 := fun l2 => by generalize en p.2 = pp; cases pp <;> simp [mkv]
    have hm1 : ∀ (w : World) (v : Value) (s : SV), SVRel w (Zf K (St.mk sl ((qi, some (.it m clock (seen.push e.born) clock)) :: ow) nx).f φ) φ v s → (∀ l, s ≠ .tup l) → SVRel1 w (Zf K (St.mk sl ((qi, some (.it m clock (seen.push e.born) clock)) :: ow) nx).f φ) φ v s := fun w v s hs hne => by cases s <;> first | exact hs | exact absurd rfl (hne _)
    have hm2 : ∀ s : SV, s.inU (· < nx) → (∀ l, s ≠ .tup l) → s.in1 (· < nx) := fun s hs hne => by cases s <;> first | exact hs | exact absurd rfl (hne _)
    have h5 : RelW K (St.mk ((d, .tup [.val true (.bool true), .val true (ekp p.1), mkv fr (en p.2)]) :: sl) ((qi, some (.it m clock (seen.push e.born) clock)) :: ow) nx).f (· < nx) φ (A.put (some d) (.tuple #[.bool true, e.key, e.val])) _ :=
      h2.put hlt (sv := .tup [.val true (.bool true), .val true (ekp p.1), mkv fr (en p.2)]) ⟨[.bool true, e.key, e.val], rfl, .cons (Rep.bool _) (.cons (by rw [hkey]; exact hek _ _ _) (.cons (hm1 _ _ _ h3 hne2) .nil))⟩ (fun s hs => by
        simp only [List.mem_cons, List.not_mem_nil, or_false] at hs
        rcases hs with rfl | rfl | rfl
        · trivial
        · trivial
        · exact hm2 _ h4 hne2) rfl slot_put
    have := (k1 i p e.born hp hx he2).out.out _ _ Q ⟨φ, h5⟩ hn
    rw [← hd] at this
    exact this
/-- The entry that came last. -/
theorem J.ent {gs qi m clock : Nat} {bs : List Nat} {seen : Array Nat} {it : Operand} {ekp : α → PV} {i x0 : Nat} {p : α × β} (ho : o.op = .entry it) (hg : wants ops (St.mk sl ow nx).f o = some true) (hd : o.dst = some d) (hlt : K.can d = true) (hi : (St.mk sl ow nx).f.get it = some (.ref qi)) (hqi : (St.mk sl ow nx).f.own qi = some (.it m clock (seen.push x0) clock)) (hgs : lk sl gs = some (.eq (.map (some m)) q))
    (hq : (St.mk sl ow nx).f.own q = some (.mp fr (some (bs, clock)) (l.map fun p => (ek p.1, en p.2)))) (hek : ∀ w Z a, Rep w Z (ek a) (ekp a)) (hp : l[i]? = some p) (hx : bs[i]? = some x0)
    (k : J K ops false rest ⟨(d, .tup [.val true (ekp p.1), mkv fr (en p.2)]) :: sl, ow, nx⟩ R) : J K ops false (o :: rest) ⟨sl, ow, nx⟩ R := by
  refine ⟨TO.step hg ?_ k.out⟩
  intro A w next Q hr hn
  obtain ⟨φ, hφ⟩ := hr
  obtain ⟨hri, _⟩ := get_sound hφ hi
  have hri : A.eval it = φ qi := hri
  obtain ⟨_, _, hm⟩ := hφ.slot gs _ hgs
  have hm : φ q = .map (some m) := hm
  obtain ⟨g, es, ck, hvm, hb, hl, hbn, hnd, hone, hbb⟩ := hφ.own q _ hq
  rw [hm] at hvm
  cases hvm
  have hbb : bs = es.toList.map (·.born) ∧ clock = ck := by
    rcases hbb with h | h
    · cases h
    · simp only [Option.some.injEq, Prod.mk.injEq] at h; exact h
  obtain ⟨hbs, rfl⟩ := hbb
  obtain ⟨r, hvi, hir⟩ := hφ.own qi _ hqi
  obtain ⟨e, he, hkey, hrep⟩ := hl.unmap.get hp
  have hxe : x0 = e.born := by
    rw [hbs, List.getElem?_map, he] at hx
    simpa using hx.symm
  subst hxe
  have hrun := run_entry_at (P := K.P) w r m clock seen es clock e hir hb (List.mem_of_getElem? he) hnd
  have hrun' : (execOp A.eval o).run K.P w = .ok (.value (.tuple #[e.key, e.val])) w := by
    simp only [execOp, ho, hri, hvi, Sem.run_bind, hrun, Result.andThen_ok]
    rfl
  unfold Oper.wp
  rw [hrun']
  refine hn _ _ ⟨φ, ?_⟩
  rw [hd]
  obtain ⟨h3, h4⟩ := mkv_sound (φ := φ) (U := (· < nx)) (fr := fr) (Z := Zf K (St.mk sl ow nx).f φ) hrep
  have hne2 : ∀ l2, mkv fr (en p.2) ≠ .tup l2 := fun l2 => by generalize en p.2 = pp; cases pp <;> simp [mkv]
  have hm1 : ∀ (v : Value) (s : SV), SVRel w (Zf K (St.mk sl ow nx).f φ) φ v s → (∀ l, s ≠ .tup l) → SVRel1 w (Zf K (St.mk sl ow nx).f φ) φ v s := fun v s hs hne => by cases s <;> first | exact hs | exact absurd rfl (hne _)
  have hm2 : ∀ s : SV, s.inU (· < nx) → (∀ l, s ≠ .tup l) → s.in1 (· < nx) := fun s hs hne => by cases s <;> first | exact hs | exact absurd rfl (hne _)
  refine hφ.put hlt (sv := .tup [.val true (ekp p.1), mkv fr (en p.2)]) ⟨[e.key, e.val], rfl, .cons (by rw [hkey]; exact hek _ _ _) (.cons (hm1 _ _ h3 hne2) .nil)⟩ (fun s hs => ?_) rfl slot_put
  simp only [List.mem_cons, List.not_mem_nil, or_false] at hs
  rcases hs with rfl | rfl
  · trivial
  · exact hm2 _ h4 hne2
end
theorem Rel.fine {K : Ctx} {sl : List (Nat × SV)} {ow : List (Nat × Option Own)} {nx s : Nat} {p : PV} {fr : Bool} (hs : lk sl s = some (.val fr p)) (hf : p.flat = true) (a : Act) (w : World) (h : Rel K ⟨sl, ow, nx⟩ a w) : Rel K ⟨(s, .val true p) :: sl, ow, nx⟩ a w := by
  obtain ⟨φ, hφ⟩ := h
  obtain ⟨v, hv, hr⟩ := hφ.slot s _ hs
  have hr : Rep w _ v p := hr
  exact ⟨φ, hφ.reslot (sv := .val true p) hv (hr.flat hf) trivial rfl slot_put⟩
theorem L2.flat {w : World} {Z Z' : Nat → Prop} : ∀ {vs : List Value} {ps : List PV}, L2 (Rep w Z) vs ps → (∀ p ∈ ps, p.flat = true) → L2 (Rep w Z') vs ps
  | _, _, .nil, _ => .nil
  | _, _, .cons h1 h2, hf => .cons (h1.flat (hf _ (.head _))) (h2.flat fun p hp => hf p (.tail _ hp))
theorem Rel.fineF {K : Ctx} {sl : List (Nat × SV)} {ow : List (Nat × Option Own)} {nx s : Nat} {f : Fn} {first caps : List PV} {fr : Bool} (hs : lk sl s = some (.val fr (.fn f first caps))) (h1 : first.all PV.flat = true) (h2 : caps.all PV.flat = true) (a : Act) (w : World) (h : Rel K ⟨sl, ow, nx⟩ a w) : Rel K ⟨(s, .val true (.fn f first caps)) :: sl, ow, nx⟩ a w := by
  obtain ⟨φ, hφ⟩ := h
  obtain ⟨v, hv, hr⟩ := hφ.slot s _ hs
  have hr : Rep w _ v (.fn f first caps) := hr
  refine ⟨φ, hφ.reslot (sv := .val true (.fn f first caps)) hv ?_ trivial rfl slot_put⟩
  show Rep w _ v (.fn f first caps)
  cases hr with
  | fn _ vs us _ _ ha hb => exact .fn _ _ _ _ _ (ha.flat (List.all_eq_true.1 h1)) (hb.flat (List.all_eq_true.1 h2))
end Go.Proofs.Ytdflkbmpbblcfaa
/-! Contracts: numbers in lists. -/
namespace Go.Proofs.Ytdflkbmpbblcfaa
open Go Go.RowKit
set_option linter.unusedVariables false
set_option maxRecDepth 4000

def valueB (v : Int) : Bool := decide (-1048576 ≤ v ∧ v ≤ 1048576)
theorem value_spec (v : Int) : Spec Try.prog 46 false [.int .i64 v] [.val (.bool (valueB v))] := by
  refine Spec.body Try.func46 rfl rfl rfl fun w0 Z0 => ?_
  repeat' first | refine T.seq ?_ | refine T.block ?_ | refine T.r ?_ | refine J.e rfl rfl rfl rfl ?_ | refine J.nil ?_ | refine J.skip rfl rfl rfl ?_ | refine T.skip ?_ | refine T.exit ?_ | refine T.ret ?_ | refine T.rd rfl (by kernel_rfl) ?_ | refine J.bx rfl rfl rfl rfl rfl rfl ?_
  refine J.g rfl rfl rfl (fun h => ?_) (fun h => ?_)
  · repeat' first | refine T.seq ?_ | refine T.block ?_ | refine T.r ?_ | refine J.e rfl rfl rfl rfl ?_ | refine J.nil ?_ | refine J.skip rfl rfl rfl ?_ | refine T.skip ?_ | refine T.exit ?_ | refine T.ret ?_ | refine T.rd rfl (by kernel_rfl) ?_ | refine J.bx rfl rfl rfl rfl rfl rfl ?_
    exact ⟨_, .v rfl rfl (by simp [valueB, show -1048576 ≤ v from h]) (fun _ => rfl) .nil⟩
  · repeat' first | refine T.seq ?_ | refine T.block ?_ | refine T.r ?_ | refine J.e rfl rfl rfl rfl ?_ | refine J.nil ?_ | refine J.skip rfl rfl rfl ?_ | refine T.skip ?_ | refine T.exit ?_ | refine T.ret ?_ | refine T.rd rfl (by kernel_rfl) ?_ | refine J.bx rfl rfl rfl rfl rfl rfl ?_
    exact ⟨_, .v rfl rfl (by simp [valueB, show ¬ -1048576 ≤ v from h]) (fun _ => rfl) .nil⟩

theorem has_spec (l : List Int) (v : Int) (hl : l.length ≤ 9223372036854775806) : Spec Try.prog 19 false [ints l, .int .i64 v] [.val (.bool (decide (v ∈ l)))] := by
  refine Spec.body Try.func19 rfl rfl rfl fun w0 Z0 => ?_
  repeat' first | refine T.seq ?_ | refine T.block ?_ | refine T.r ?_ | refine J.e rfl rfl rfl rfl ?_ | refine J.nil ?_ | refine J.skip rfl rfl rfl ?_ | refine T.skip ?_ | refine T.exit ?_ | refine T.ret ?_ | refine T.rd rfl (by kernel_rfl) ?_ | refine J.bx rfl rfl rfl rfl rfl rfl ?_
  · refine T.canon (keep := [0, 1, 5]) (os := []) rfl (T.ind (fun i : Nat => ⟨[(0, .val false (ints l)), (1, .val false (.int .i64 v)), (5, .val true (.int .i64 i))], [], 0⟩) (fun i => i ≤ l.length ∧ ∀ x ∈ l.take i, x ≠ v) (fun i => l.length - i) 0 (by simp) (fun _ _ h => h) ?_)
    rintro i ⟨hi, hx⟩ ih
    repeat' first | refine T.seq ?_ | refine T.block ?_ | refine T.r ?_ | refine J.e rfl rfl rfl rfl ?_ | refine J.nil ?_ | refine J.skip rfl rfl rfl ?_ | refine T.skip ?_ | refine T.exit ?_ | refine T.ret ?_ | refine T.rd rfl (by kernel_rfl) ?_ | refine J.bx rfl rfl rfl rfl rfl rfl ?_
    refine T.cd rfl (fun h => ?_) (fun h => ?_)
    · simp at h
      repeat' first | refine T.seq ?_ | refine T.block ?_ | refine T.r ?_ | refine J.e rfl rfl rfl rfl ?_ | refine J.nil ?_ | refine J.skip rfl rfl rfl ?_ | refine T.skip ?_ | refine T.exit ?_ | refine T.ret ?_ | refine T.rd rfl (by kernel_rfl) ?_ | refine J.bx rfl rfl rfl rfl rfl rfl ?_
      refine J.i rfl rfl rfl rfl rfl rfl rfl rfl rfl (r := cI l[i]) (by omega) (by simp [h]) rfl ?_
      repeat' first | refine T.seq ?_ | refine T.block ?_ | refine T.r ?_ | refine J.e rfl rfl rfl rfl ?_ | refine J.nil ?_ | refine J.skip rfl rfl rfl ?_ | refine T.skip ?_ | refine T.exit ?_ | refine T.ret ?_ | refine T.rd rfl (by kernel_rfl) ?_ | refine J.bx rfl rfl rfl rfl rfl rfl ?_
      refine T.cd rfl (fun h2 => ?_) (fun h2 => ?_)
      · repeat' first | refine T.seq ?_ | refine T.block ?_ | refine T.r ?_ | refine J.e rfl rfl rfl rfl ?_ | refine J.nil ?_ | refine J.skip rfl rfl rfl ?_ | refine T.skip ?_ | refine T.exit ?_ | refine T.ret ?_ | refine T.rd rfl (by kernel_rfl) ?_ | refine J.bx rfl rfl rfl rfl rfl rfl ?_
        exact ⟨_, .v rfl rfl (by rw [← h2]; simp) (fun _ => rfl) .nil⟩
      · repeat' first | refine T.seq ?_ | refine T.block ?_ | refine T.r ?_ | refine J.e rfl rfl rfl rfl ?_ | refine J.nil ?_ | refine J.skip rfl rfl rfl ?_ | refine T.skip ?_ | refine T.exit ?_ | refine T.ret ?_ | refine T.rd rfl (by kernel_rfl) ?_ | refine J.bx rfl rfl rfl rfl rfl rfl ?_
        rw [wrap_id (by omega) (by omega)]
        refine T.canon (keep := [0, 1, 5]) (os := []) rfl (ih (i + 1) ⟨by omega, ?_⟩ (by omega))
        intro x hm
        rw [List.take_succ_eq_append_getElem h] at hm
        simp only [List.mem_append, List.mem_singleton] at hm
        rcases hm with hm | hm
        · exact hx x hm
        · rw [hm]; exact h2
    · simp at h
      repeat' first | refine T.seq ?_ | refine T.block ?_ | refine T.r ?_ | refine J.e rfl rfl rfl rfl ?_ | refine J.nil ?_ | refine J.skip rfl rfl rfl ?_ | refine T.skip ?_ | refine T.exit ?_ | refine T.ret ?_ | refine T.rd rfl (by kernel_rfl) ?_ | refine J.bx rfl rfl rfl rfl rfl rfl ?_
      refine ⟨_, .v rfl rfl ?_ (fun _ => rfl) .nil⟩
      rw [List.take_of_length_le h] at hx
      simp only [PV.bool.injEq, Bool.false_eq, decide_eq_false_iff_not]
      exact fun hm => hx v hm rfl

/-- Put into its place. -/
def insS (v : Int) : List Int → List Int
  | [] => [v]
  | x :: xs => if v < x then v :: x :: xs else x :: insS v xs
def insU (v : Int) (l : List Int) : List Int := if v ∈ l then l else insS v l
def sortU (l : List Int) : List Int := l.foldl (fun out v => insU v out) []
theorem insS_length (v : Int) : ∀ l, (insS v l).length = l.length + 1
  | [] => rfl
  | x :: xs => by simp only [insS]; split <;> simp [insS_length v xs]
theorem insU_length (v : Int) (l : List Int) : (insU v l).length ≤ l.length + 1 := by
  unfold insU; split
  · omega
  · rw [insS_length]; omega
theorem sortU_length' : ∀ (l out : List Int), (l.foldl (fun out v => insU v out) out).length ≤ out.length + l.length
  | [], out => by simp
  | v :: l, out => by
    have h1 := sortU_length' l (insU v out)
    have h2 := insU_length v out
    simp only [List.foldl_cons, List.length_cons]
    omega
theorem sortU_length (l : List Int) : (sortU l).length ≤ l.length := by have := sortU_length' l []; simpa [sortU] using this
end Go.Proofs.Ytdflkbmpbblcfaa
/-! Contracts: a domain's values; sorted; packed. -/
namespace Go.Proofs.Ytdflkbmpbblcfaa
open Go Go.RowKit
set_option linter.unusedVariables false
set_option maxRecDepth 4000

def rng (lo hi : Int) : List Int := (List.range (hi + 1 - lo).toNat).map (fun k : Nat => lo + k)
def vals (d : List (Int × Int)) : List Int := d.flatMap fun r => rng r.1 r.2
/-- Within the values. -/
def InB (d : List (Int × Int)) : Prop := ∀ r ∈ d, -1048576 ≤ r.1 ∧ r.1 ≤ 1048576 ∧ -1048576 ≤ r.2 ∧ r.2 ≤ 1048576

theorem snocI {l : List Int} {v : Int} : l.map cI ++ [(PV.int .i64 v).cells] = (l ++ [v]).map cI := by simp [cI, PV.cells]
theorem snocR {l : List (Int × Int)} {a b : Int} : l.map cR ++ [(PV.agg [.int .i64 a, .int .i64 b]).cells] = (l ++ [(a, b)]).map cR := by simp [cR, PV.cells]

theorem rng_take (lo : Int) (k : Nat) : (List.range (k + 1)).map (fun k : Nat => lo + k) = (List.range k).map (fun k : Nat => lo + k) ++ [lo + k] := by simp [List.range_succ]

theorem values_spec (d : List (Int × Int)) (hb : InB d) (hl : (vals d).length * 8 ≤ 140737488355328) (hd : d.length * 16 ≤ 140737488355328) : Spec Try.prog 20 false [dm d] [.own 3 1 ((vals d).map cI)] := by
  refine Spec.body Try.func20 rfl rfl rfl fun w0 Z0 => ?_
  repeat' first | refine T.seq ?_ | refine T.block ?_ | refine T.r ?_ | refine J.e rfl rfl rfl rfl ?_ | refine J.nil ?_ | refine J.skip rfl rfl rfl ?_ | refine T.skip ?_ | refine T.exit ?_ | refine T.ret ?_ | refine T.rd rfl (by kernel_rfl) ?_ | refine J.bx rfl rfl rfl rfl rfl rfl ?_
  refine J.bo rfl rfl rfl rfl rfl rfl rfl rfl rfl rfl rfl rfl ?_
  repeat' first | refine T.seq ?_ | refine T.block ?_ | refine T.r ?_ | refine J.e rfl rfl rfl rfl ?_ | refine J.nil ?_ | refine J.skip rfl rfl rfl ?_ | refine T.skip ?_ | refine T.exit ?_ | refine T.ret ?_ | refine T.rd rfl (by kernel_rfl) ?_ | refine J.bx rfl rfl rfl rfl rfl rfl ?_
  refine T.canon (keep := [0, 3, 4]) (os := [3]) rfl (T.list d (fun n pre post => ⟨[(0, .val false (dm d)), (3, .ref 0), (4, .val true (.int .i64 n))], [(0, some (.sl 3 1 true ((vals pre).map cI)))], 1⟩) (fun _ _ h => h) ?_ ?_)
  · rintro n pre x post h hn ih
    have hx := hb x (by rw [h]; simp)
    have hd1 : pre.length < d.length := by rw [h]; simp
    have hlen : (vals pre).length + (rng x.1 x.2).length ≤ (vals d).length := by rw [h]; simp [vals]
    repeat' first | refine T.seq ?_ | refine T.block ?_ | refine T.r ?_ | refine J.e rfl rfl rfl rfl ?_ | refine J.nil ?_ | refine J.skip rfl rfl rfl ?_ | refine T.skip ?_ | refine T.exit ?_ | refine T.ret ?_ | refine T.rd rfl (by kernel_rfl) ?_ | refine J.bx rfl rfl rfl rfl rfl rfl ?_
    refine T.ct2 rfl (lt_at h hn) ?_
    repeat' first | refine T.seq ?_ | refine T.block ?_ | refine T.r ?_ | refine J.e rfl rfl rfl rfl ?_ | refine J.nil ?_ | refine J.skip rfl rfl rfl ?_ | refine T.skip ?_ | refine T.exit ?_ | refine T.ret ?_ | refine T.rd rfl (by kernel_rfl) ?_ | refine J.bx rfl rfl rfl rfl rfl rfl ?_
    refine J.i rfl rfl rfl rfl rfl rfl rfl rfl rfl (r := cR x) (by omega) (row_at h hn) rfl ?_
    repeat' first | refine T.seq ?_ | refine T.block ?_ | refine T.r ?_ | refine J.e rfl rfl rfl rfl ?_ | refine J.nil ?_ | refine J.skip rfl rfl rfl ?_ | refine T.skip ?_ | refine T.exit ?_ | refine T.ret ?_ | refine T.rd rfl (by kernel_rfl) ?_ | refine J.bx rfl rfl rfl rfl rfl rfl ?_
    refine T.canon (keep := [0, 4, 5, 3]) (os := [3]) rfl (T.ind (fun (s : Int × List Int) => ⟨[(0, .val false (dm d)), (4, .val true (.int .i64 n)), (5, .val true (.int .i64 s.1)), (3, .ref 0)], [(0, some (.sl 3 1 true (s.2.map cI)))], 1⟩)
      (fun s => ∃ k, k ≤ (x.2 + 1 - x.1).toNat ∧ s.1 = x.1 + k ∧ s.2 = vals pre ++ (List.range k).map (fun k : Nat => x.1 + k)) (fun s => (x.2 + 1 - s.1).toNat) (x.1, vals pre) ⟨0, by simp⟩ (fun _ _ h => h) ?_)
    rintro ⟨v, acc⟩ ⟨k, hk, hv, hacc⟩ ih2
    simp only at hv hacc ih2
    repeat' first | refine T.seq ?_ | refine T.block ?_ | refine T.r ?_ | refine J.e rfl rfl rfl rfl ?_ | refine J.nil ?_ | refine J.skip rfl rfl rfl ?_ | refine T.skip ?_ | refine T.exit ?_ | refine T.ret ?_ | refine T.rd rfl (by kernel_rfl) ?_ | refine J.bx rfl rfl rfl rfl rfl rfl ?_
    refine J.i rfl rfl rfl rfl rfl rfl rfl rfl rfl (r := cR x) (by omega) (row_at h hn) rfl ?_
    repeat' first | refine T.seq ?_ | refine T.block ?_ | refine T.r ?_ | refine J.e rfl rfl rfl rfl ?_ | refine J.nil ?_ | refine J.skip rfl rfl rfl ?_ | refine T.skip ?_ | refine T.exit ?_ | refine T.ret ?_ | refine T.rd rfl (by kernel_rfl) ?_ | refine J.bx rfl rfl rfl rfl rfl rfl ?_
    refine T.cd rfl (fun h1 => ?_) (fun h1 => ?_)
    · simp only at h1
      repeat' first | refine T.seq ?_ | refine T.block ?_ | refine T.r ?_ | refine J.e rfl rfl rfl rfl ?_ | refine J.nil ?_ | refine J.skip rfl rfl rfl ?_ | refine T.skip ?_ | refine T.exit ?_ | refine T.ret ?_ | refine T.rd rfl (by kernel_rfl) ?_ | refine J.bx rfl rfl rfl rfl rfl rfl ?_
      have hk2 : k + 1 ≤ (x.2 + 1 - x.1).toNat := by omega
      have hlr : (rng x.1 x.2).length = (x.2 + 1 - x.1).toNat := by simp [rng]
      refine J.bv rfl rfl rfl rfl rfl rfl rfl rfl rfl rfl rfl rfl ?_
      repeat' first | refine T.seq ?_ | refine T.block ?_ | refine T.r ?_ | refine J.e rfl rfl rfl rfl ?_ | refine J.nil ?_ | refine J.skip rfl rfl rfl ?_ | refine T.skip ?_ | refine T.exit ?_ | refine T.ret ?_ | refine T.rd rfl (by kernel_rfl) ?_ | refine J.bx rfl rfl rfl rfl rfl rfl ?_
      refine J.a rfl rfl rfl rfl rfl rfl rfl rfl rfl rfl rfl rfl rfl rfl rfl rfl rfl (one_len rfl) (by show (List.length _ + 1) * 8 ≤ _; simp [hacc]; omega) ?_
      repeat' first | refine T.seq ?_ | refine T.block ?_ | refine T.r ?_ | refine J.e rfl rfl rfl rfl ?_ | refine J.nil ?_ | refine J.skip rfl rfl rfl ?_ | refine T.skip ?_ | refine T.exit ?_ | refine T.ret ?_ | refine T.rd rfl (by kernel_rfl) ?_ | refine J.bx rfl rfl rfl rfl rfl rfl ?_
      rw [wrap_id (by omega) (by omega), snocI]
      exact T.canon (keep := [0, 4, 5, 3]) (os := [3]) rfl (ih2 (v + 1, acc ++ [v]) ⟨k + 1, hk2, by simp only; omega, by simp only; rw [rng_take, ← List.append_assoc, ← hacc, ← hv]⟩ (by simp only; omega))
    · simp only at h1
      repeat' first | refine T.seq ?_ | refine T.block ?_ | refine T.r ?_ | refine J.e rfl rfl rfl rfl ?_ | refine J.nil ?_ | refine J.skip rfl rfl rfl ?_ | refine T.skip ?_ | refine T.exit ?_ | refine T.ret ?_ | refine T.rd rfl (by kernel_rfl) ?_ | refine J.bx rfl rfl rfl rfl rfl rfl ?_
      rw [wrap1 (at_lt h hn) (by omega)]
      have hk2 : k = (x.2 + 1 - x.1).toNat := by omega
      have e : vals (pre ++ [x]) = acc := by rw [hacc, hk2]; simp [vals, rng]
      rw [e] at ih
      exact T.canon (keep := [0, 3, 4]) (os := [3]) rfl ih
  · repeat' first | refine T.seq ?_ | refine T.block ?_ | refine T.r ?_ | refine J.e rfl rfl rfl rfl ?_ | refine J.nil ?_ | refine J.skip rfl rfl rfl ?_ | refine T.skip ?_ | refine T.exit ?_ | refine T.ret ?_ | refine T.rd rfl (by kernel_rfl) ?_ | refine J.bx rfl rfl rfl rfl rfl rfl ?_
    refine T.cf2 rfl lt_end ?_
    repeat' first | refine T.seq ?_ | refine T.block ?_ | refine T.r ?_ | refine J.e rfl rfl rfl rfl ?_ | refine J.nil ?_ | refine J.skip rfl rfl rfl ?_ | refine T.skip ?_ | refine T.exit ?_ | refine T.ret ?_ | refine T.rd rfl (by kernel_rfl) ?_ | refine J.bx rfl rfl rfl rfl rfl rfl ?_
    exact ⟨_, .o rfl rfl rfl (fun _ => .inl rfl) (by simp) .nil⟩
end Go.Proofs.Ytdflkbmpbblcfaa
/-! Contracts: sorted; packed. -/
namespace Go.Proofs.Ytdflkbmpbblcfaa
open Go Go.RowKit
set_option linter.unusedVariables false
set_option maxRecDepth 4000

def insStep (v : Int) (s : List Int × Bool) (x : Int) : List Int × Bool := if s.2 = false ∧ v < x then (s.1 ++ [v] ++ [x], true) else (s.1 ++ [x], s.2)
def insEnd (v : Int) (s : List Int × Bool) : List Int := if s.2 then s.1 else s.1 ++ [v]
def insF (v : Int) (out : List Int) : List Int := insEnd v (out.foldl (insStep v) ([], decide (v ∈ out)))
theorem insStep_true (v : Int) : ∀ (out acc : List Int), out.foldl (insStep v) (acc, true) = (acc ++ out, true)
  | [], acc => by simp
  | x :: out, acc => by simp [insStep, insStep_true v out]
theorem insStep_false (v : Int) : ∀ (out acc : List Int), insEnd v (out.foldl (insStep v) (acc, false)) = acc ++ insS v out
  | [], acc => by simp [insS, insEnd]
  | x :: out, acc => by
    simp only [List.foldl_cons, insS]
    by_cases h : v < x
    · rw [if_pos h]
      have : insStep v (acc, false) x = (acc ++ [v] ++ [x], true) := by simp [insStep, h]
      rw [this, insStep_true]
      simp [insEnd]
    · rw [if_neg h]
      have : insStep v (acc, false) x = (acc ++ [x], false) := by simp [insStep, h]
      rw [this, insStep_false v out (acc ++ [x])]
      simp
theorem insF_eq (v : Int) (out : List Int) : insF v out = insU v out := by
  unfold insF insU
  by_cases h : v ∈ out
  · simp [h, insStep_true, insEnd]
  · have := insStep_false v out []
    simpa [h] using this
theorem insStep_len (v : Int) : ∀ (out : List Int) (s : List Int × Bool), (out.foldl (insStep v) s).1.length ≤ s.1.length + out.length + 1 ∧ ((out.foldl (insStep v) s).2 = false → (out.foldl (insStep v) s).1.length = s.1.length + out.length)
  | [], s => by simp
  | x :: out, s => by
    have h := insStep_len v out (insStep v s x)
    simp only [List.foldl_cons, List.length_cons]
    by_cases hc : s.2 = false ∧ v < x
    · have e : insStep v s x = (s.1 ++ [v] ++ [x], true) := by simp [insStep, hc]
      rw [e, insStep_true]
      simp; omega
    · have e : insStep v s x = (s.1 ++ [x], s.2) := by simp only [insStep, if_neg hc]
      rw [e] at h ⊢
      simp at h
      constructor
      · omega
      · intro h2; have := h.2 h2; omega

theorem sorted_spec (l : List Int) (hl : l.length * 8 ≤ 140737488355328) : Spec Try.prog 18 false [ints l] [.own 3 1 ((sortU l).map cI)] := by
  refine Spec.body Try.func18 rfl rfl rfl fun w0 Z0 => ?_
  repeat' first | refine T.seq ?_ | refine T.block ?_ | refine T.r ?_ | refine J.e rfl rfl rfl rfl ?_ | refine J.nil ?_ | refine J.skip rfl rfl rfl ?_ | refine T.skip ?_ | refine T.exit ?_ | refine T.ret ?_ | refine T.rd rfl (by kernel_rfl) ?_ | refine J.bx rfl rfl rfl rfl rfl rfl ?_
  refine J.bo rfl rfl rfl rfl rfl rfl rfl rfl rfl rfl rfl rfl ?_
  repeat' first | refine T.seq ?_ | refine T.block ?_ | refine T.r ?_ | refine J.e rfl rfl rfl rfl ?_ | refine J.nil ?_ | refine J.skip rfl rfl rfl ?_ | refine T.skip ?_ | refine T.exit ?_ | refine T.ret ?_ | refine T.rd rfl (by kernel_rfl) ?_ | refine J.bx rfl rfl rfl rfl rfl rfl ?_
  refine T.canon (keep := [0, 3, 4]) (os := [3]) rfl (T.list l (fun n pre post => ⟨[(0, .val false (ints l)), (3, .ref 0), (4, .val true (.int .i64 n))], [(0, some (.sl 3 1 true ((sortU pre).map cI)))], 1⟩) (fun _ _ h => h) ?_ ?_)
  · rintro n pre x post h hn ih
    have hlen := sortU_length pre
    have hlt := at_lt h hn
    have hsu : sortU (pre ++ [x]) = insF x (sortU pre) := by rw [insF_eq]; simp [sortU, List.foldl_append]
    generalize hout : sortU pre = out at *
    repeat' first | refine T.seq ?_ | refine T.block ?_ | refine T.r ?_ | refine J.e rfl rfl rfl rfl ?_ | refine J.nil ?_ | refine J.skip rfl rfl rfl ?_ | refine T.skip ?_ | refine T.exit ?_ | refine T.ret ?_ | refine T.rd rfl (by kernel_rfl) ?_ | refine J.bx rfl rfl rfl rfl rfl rfl ?_
    refine T.ct2 rfl (lt_at h hn) ?_
    repeat' first | refine T.seq ?_ | refine T.block ?_ | refine T.r ?_ | refine J.e rfl rfl rfl rfl ?_ | refine J.nil ?_ | refine J.skip rfl rfl rfl ?_ | refine T.skip ?_ | refine T.exit ?_ | refine T.ret ?_ | refine T.rd rfl (by kernel_rfl) ?_ | refine J.bx rfl rfl rfl rfl rfl rfl ?_
    refine J.bo rfl rfl rfl rfl rfl rfl rfl rfl rfl rfl rfl rfl ?_
    repeat' first | refine T.seq ?_ | refine T.block ?_ | refine T.r ?_ | refine J.e rfl rfl rfl rfl ?_ | refine J.nil ?_ | refine J.skip rfl rfl rfl ?_ | refine T.skip ?_ | refine T.exit ?_ | refine T.ret ?_ | refine T.rd rfl (by kernel_rfl) ?_ | refine J.bx rfl rfl rfl rfl rfl rfl ?_
    refine J.i rfl rfl rfl rfl rfl rfl rfl rfl rfl (r := cI x) (by omega) (row_at h hn) rfl ?_
    repeat' first | refine T.seq ?_ | refine T.block ?_ | refine T.r ?_ | refine J.e rfl rfl rfl rfl ?_ | refine J.nil ?_ | refine J.skip rfl rfl rfl ?_ | refine T.skip ?_ | refine T.exit ?_ | refine T.ret ?_ | refine T.rd rfl (by kernel_rfl) ?_ | refine J.bx rfl rfl rfl rfl rfl rfl ?_
    refine J.cc rfl rfl rfl rfl rfl (has_spec out x (by omega)) rfl rfl ?_
    repeat' first | refine T.seq ?_ | refine T.block ?_ | refine T.r ?_ | refine J.e rfl rfl rfl rfl ?_ | refine J.nil ?_ | refine J.skip rfl rfl rfl ?_ | refine T.skip ?_ | refine T.exit ?_ | refine T.ret ?_ | refine T.rd rfl (by kernel_rfl) ?_ | refine J.bx rfl rfl rfl rfl rfl rfl ?_
    refine T.canon (keep := [0, 3, 4, 5, 6, 7]) (os := [3, 5]) rfl (T.list out (fun k pre2 post2 => ⟨[(0, .val false (ints l)), (3, .ref 0), (4, .val true (.int .i64 n)), (5, .ref 1), (6, .val true (.bool (pre2.foldl (insStep x) ([], decide (x ∈ out))).2)), (7, .val true (.int .i64 k))],
      [(0, some (.sl 3 1 true (out.map cI))), (1, some (.sl 3 1 true ((pre2.foldl (insStep x) ([], decide (x ∈ out))).1.map cI)))], 2⟩) (fun _ _ h => h) ?_ ?_)
    · rintro k pre2 y post2 h2 hn2 ih2
      have hlt2 := at_lt h2 hn2
      rw [List.foldl_append, List.foldl_cons, List.foldl_nil] at ih2
      have hsl := insStep_len x pre2 ([], decide (x ∈ out))
      generalize hs : pre2.foldl (insStep x) ([], decide (x ∈ out)) = s at *
      obtain ⟨nxt, put⟩ := s
      simp only [List.length_nil] at hsl
      repeat' first | refine T.seq ?_ | refine T.block ?_ | refine T.r ?_ | refine J.e rfl rfl rfl rfl ?_ | refine J.nil ?_ | refine J.skip rfl rfl rfl ?_ | refine T.skip ?_ | refine T.exit ?_ | refine T.ret ?_ | refine T.rd rfl (by kernel_rfl) ?_ | refine J.bx rfl rfl rfl rfl rfl rfl ?_
      refine T.ct2 rfl (lt_at h2 hn2) ?_
      repeat' first | refine T.seq ?_ | refine T.block ?_ | refine T.r ?_ | refine J.e rfl rfl rfl rfl ?_ | refine J.nil ?_ | refine J.skip rfl rfl rfl ?_ | refine T.skip ?_ | refine T.exit ?_ | refine T.ret ?_ | refine T.rd rfl (by kernel_rfl) ?_ | refine J.bx rfl rfl rfl rfl rfl rfl ?_
      cases put
      · have h9 : nxt.length = 0 + pre2.length := hsl.2 rfl
        repeat' first | refine T.seq ?_ | refine T.block ?_ | refine T.r ?_ | refine J.e rfl rfl rfl rfl ?_ | refine J.nil ?_ | refine J.skip rfl rfl rfl ?_ | refine T.skip ?_ | refine T.exit ?_ | refine T.ret ?_ | refine T.rd rfl (by kernel_rfl) ?_ | refine J.bx rfl rfl rfl rfl rfl rfl ?_
        refine J.i rfl rfl rfl rfl rfl rfl rfl rfl rfl (r := cI x) (by omega) (row_at h hn) rfl ?_
        repeat' first | refine T.seq ?_ | refine T.block ?_ | refine T.r ?_ | refine J.e rfl rfl rfl rfl ?_ | refine J.nil ?_ | refine J.skip rfl rfl rfl ?_ | refine T.skip ?_ | refine T.exit ?_ | refine T.ret ?_ | refine T.rd rfl (by kernel_rfl) ?_ | refine J.bx rfl rfl rfl rfl rfl rfl ?_
        refine J.io rfl rfl rfl rfl rfl rfl rfl rfl rfl (by omega) (by simp; omega) rfl ?_
        refine J.lo rfl rfl rfl rfl rfl rfl (r := cI y) (row_at h2 hn2) rfl ?_
        repeat' first | refine T.seq ?_ | refine T.block ?_ | refine T.r ?_ | refine J.e rfl rfl rfl rfl ?_ | refine J.nil ?_ | refine J.skip rfl rfl rfl ?_ | refine T.skip ?_ | refine T.exit ?_ | refine T.ret ?_ | refine T.rd rfl (by kernel_rfl) ?_ | refine J.bx rfl rfl rfl rfl rfl rfl ?_
        refine T.cd rfl (fun hxy => ?_) (fun hxy => ?_)
        · have e : insStep x (nxt, false) y = (nxt ++ [x] ++ [y], true) := by simp [insStep, hxy]
          rw [e] at ih2
          repeat' first | refine T.seq ?_ | refine T.block ?_ | refine T.r ?_ | refine J.e rfl rfl rfl rfl ?_ | refine J.nil ?_ | refine J.skip rfl rfl rfl ?_ | refine T.skip ?_ | refine T.exit ?_ | refine T.ret ?_ | refine T.rd rfl (by kernel_rfl) ?_ | refine J.bx rfl rfl rfl rfl rfl rfl ?_
          refine J.i rfl rfl rfl rfl rfl rfl rfl rfl rfl (r := cI x) (by omega) (row_at h hn) rfl ?_
          repeat' first | refine T.seq ?_ | refine T.block ?_ | refine T.r ?_ | refine J.e rfl rfl rfl rfl ?_ | refine J.nil ?_ | refine J.skip rfl rfl rfl ?_ | refine T.skip ?_ | refine T.exit ?_ | refine T.ret ?_ | refine T.rd rfl (by kernel_rfl) ?_ | refine J.bx rfl rfl rfl rfl rfl rfl ?_
          refine J.bv rfl rfl rfl rfl rfl rfl rfl rfl rfl rfl rfl rfl ?_
          repeat' first | refine T.seq ?_ | refine T.block ?_ | refine T.r ?_ | refine J.e rfl rfl rfl rfl ?_ | refine J.nil ?_ | refine J.skip rfl rfl rfl ?_ | refine T.skip ?_ | refine T.exit ?_ | refine T.ret ?_ | refine T.rd rfl (by kernel_rfl) ?_ | refine J.bx rfl rfl rfl rfl rfl rfl ?_
          refine J.a rfl rfl rfl rfl rfl rfl rfl rfl rfl rfl rfl rfl rfl rfl rfl rfl rfl (one_len rfl) (by show (List.length _ + 1) * 8 ≤ _; simp; omega) ?_
          repeat' first | refine T.seq ?_ | refine T.block ?_ | refine T.r ?_ | refine J.e rfl rfl rfl rfl ?_ | refine J.nil ?_ | refine J.skip rfl rfl rfl ?_ | refine T.skip ?_ | refine T.exit ?_ | refine T.ret ?_ | refine T.rd rfl (by kernel_rfl) ?_ | refine J.bx rfl rfl rfl rfl rfl rfl ?_
          refine J.io rfl rfl rfl rfl rfl rfl rfl rfl rfl (by omega) (by simp; omega) rfl ?_
          refine J.lo rfl rfl rfl rfl rfl rfl (r := cI y) (row_at h2 hn2) rfl ?_
          repeat' first | refine T.seq ?_ | refine T.block ?_ | refine T.r ?_ | refine J.e rfl rfl rfl rfl ?_ | refine J.nil ?_ | refine J.skip rfl rfl rfl ?_ | refine T.skip ?_ | refine T.exit ?_ | refine T.ret ?_ | refine T.rd rfl (by kernel_rfl) ?_ | refine J.bx rfl rfl rfl rfl rfl rfl ?_
          refine J.bv rfl rfl rfl rfl rfl rfl rfl rfl rfl rfl rfl rfl ?_
          repeat' first | refine T.seq ?_ | refine T.block ?_ | refine T.r ?_ | refine J.e rfl rfl rfl rfl ?_ | refine J.nil ?_ | refine J.skip rfl rfl rfl ?_ | refine T.skip ?_ | refine T.exit ?_ | refine T.ret ?_ | refine T.rd rfl (by kernel_rfl) ?_ | refine J.bx rfl rfl rfl rfl rfl rfl ?_
          refine J.a rfl rfl rfl rfl rfl rfl rfl rfl rfl rfl rfl rfl rfl rfl rfl rfl rfl (one_len rfl) (by show (List.length _ + 1) * 8 ≤ _; simp; omega) ?_
          repeat' first | refine T.seq ?_ | refine T.block ?_ | refine T.r ?_ | refine J.e rfl rfl rfl rfl ?_ | refine J.nil ?_ | refine J.skip rfl rfl rfl ?_ | refine T.skip ?_ | refine T.exit ?_ | refine T.ret ?_ | refine T.rd rfl (by kernel_rfl) ?_ | refine J.bx rfl rfl rfl rfl rfl rfl ?_
          rw [wrap1 hlt2 (by omega)]
          rw [snocI, snocI]
          exact T.canon (keep := [0, 3, 4, 5, 6, 7]) (os := [3, 5]) rfl ih2
        · have e : insStep x (nxt, false) y = (nxt ++ [y], false) := by simp [insStep, hxy]
          rw [e] at ih2
          repeat' first | refine T.seq ?_ | refine T.block ?_ | refine T.r ?_ | refine J.e rfl rfl rfl rfl ?_ | refine J.nil ?_ | refine J.skip rfl rfl rfl ?_ | refine T.skip ?_ | refine T.exit ?_ | refine T.ret ?_ | refine T.rd rfl (by kernel_rfl) ?_ | refine J.bx rfl rfl rfl rfl rfl rfl ?_
          refine J.io rfl rfl rfl rfl rfl rfl rfl rfl rfl (by omega) (by simp; omega) rfl ?_
          refine J.lo rfl rfl rfl rfl rfl rfl (r := cI y) (row_at h2 hn2) rfl ?_
          repeat' first | refine T.seq ?_ | refine T.block ?_ | refine T.r ?_ | refine J.e rfl rfl rfl rfl ?_ | refine J.nil ?_ | refine J.skip rfl rfl rfl ?_ | refine T.skip ?_ | refine T.exit ?_ | refine T.ret ?_ | refine T.rd rfl (by kernel_rfl) ?_ | refine J.bx rfl rfl rfl rfl rfl rfl ?_
          refine J.bv rfl rfl rfl rfl rfl rfl rfl rfl rfl rfl rfl rfl ?_
          repeat' first | refine T.seq ?_ | refine T.block ?_ | refine T.r ?_ | refine J.e rfl rfl rfl rfl ?_ | refine J.nil ?_ | refine J.skip rfl rfl rfl ?_ | refine T.skip ?_ | refine T.exit ?_ | refine T.ret ?_ | refine T.rd rfl (by kernel_rfl) ?_ | refine J.bx rfl rfl rfl rfl rfl rfl ?_
          refine J.a rfl rfl rfl rfl rfl rfl rfl rfl rfl rfl rfl rfl rfl rfl rfl rfl rfl (one_len rfl) (by show (List.length _ + 1) * 8 ≤ _; simp; omega) ?_
          repeat' first | refine T.seq ?_ | refine T.block ?_ | refine T.r ?_ | refine J.e rfl rfl rfl rfl ?_ | refine J.nil ?_ | refine J.skip rfl rfl rfl ?_ | refine T.skip ?_ | refine T.exit ?_ | refine T.ret ?_ | refine T.rd rfl (by kernel_rfl) ?_ | refine J.bx rfl rfl rfl rfl rfl rfl ?_
          rw [wrap1 hlt2 (by omega), snocI]
          exact T.canon (keep := [0, 3, 4, 5, 6, 7]) (os := [3, 5]) rfl ih2
      · have e : insStep x (nxt, true) y = (nxt ++ [y], true) := by simp [insStep]
        rw [e] at ih2
        repeat' first | refine T.seq ?_ | refine T.block ?_ | refine T.r ?_ | refine J.e rfl rfl rfl rfl ?_ | refine J.nil ?_ | refine J.skip rfl rfl rfl ?_ | refine T.skip ?_ | refine T.exit ?_ | refine T.ret ?_ | refine T.rd rfl (by kernel_rfl) ?_ | refine J.bx rfl rfl rfl rfl rfl rfl ?_
        refine T.cf rfl ?_
        repeat' first | refine T.seq ?_ | refine T.block ?_ | refine T.r ?_ | refine J.e rfl rfl rfl rfl ?_ | refine J.nil ?_ | refine J.skip rfl rfl rfl ?_ | refine T.skip ?_ | refine T.exit ?_ | refine T.ret ?_ | refine T.rd rfl (by kernel_rfl) ?_ | refine J.bx rfl rfl rfl rfl rfl rfl ?_
        refine J.io rfl rfl rfl rfl rfl rfl rfl rfl rfl (by omega) (by simp; omega) rfl ?_
        refine J.lo rfl rfl rfl rfl rfl rfl (r := cI y) (row_at h2 hn2) rfl ?_
        repeat' first | refine T.seq ?_ | refine T.block ?_ | refine T.r ?_ | refine J.e rfl rfl rfl rfl ?_ | refine J.nil ?_ | refine J.skip rfl rfl rfl ?_ | refine T.skip ?_ | refine T.exit ?_ | refine T.ret ?_ | refine T.rd rfl (by kernel_rfl) ?_ | refine J.bx rfl rfl rfl rfl rfl rfl ?_
        refine J.bv rfl rfl rfl rfl rfl rfl rfl rfl rfl rfl rfl rfl ?_
        repeat' first | refine T.seq ?_ | refine T.block ?_ | refine T.r ?_ | refine J.e rfl rfl rfl rfl ?_ | refine J.nil ?_ | refine J.skip rfl rfl rfl ?_ | refine T.skip ?_ | refine T.exit ?_ | refine T.ret ?_ | refine T.rd rfl (by kernel_rfl) ?_ | refine J.bx rfl rfl rfl rfl rfl rfl ?_
        refine J.a rfl rfl rfl rfl rfl rfl rfl rfl rfl rfl rfl rfl rfl rfl rfl rfl rfl (one_len rfl) (by show (List.length _ + 1) * 8 ≤ _; simp; omega) ?_
        repeat' first | refine T.seq ?_ | refine T.block ?_ | refine T.r ?_ | refine J.e rfl rfl rfl rfl ?_ | refine J.nil ?_ | refine J.skip rfl rfl rfl ?_ | refine T.skip ?_ | refine T.exit ?_ | refine T.ret ?_ | refine T.rd rfl (by kernel_rfl) ?_ | refine J.bx rfl rfl rfl rfl rfl rfl ?_
        rw [wrap1 hlt2 (by omega), snocI]
        exact T.canon (keep := [0, 3, 4, 5, 6, 7]) (os := [3, 5]) rfl ih2
    · have hsl := insStep_len x out ([], decide (x ∈ out))
      have hfin : insF x out = insEnd x (out.foldl (insStep x) ([], decide (x ∈ out))) := rfl
      rw [hsu, hfin] at ih
      generalize hs : out.foldl (insStep x) ([], decide (x ∈ out)) = s at *
      obtain ⟨nxt, put⟩ := s
      simp only [List.length_nil] at hsl
      repeat' first | refine T.seq ?_ | refine T.block ?_ | refine T.r ?_ | refine J.e rfl rfl rfl rfl ?_ | refine J.nil ?_ | refine J.skip rfl rfl rfl ?_ | refine T.skip ?_ | refine T.exit ?_ | refine T.ret ?_ | refine T.rd rfl (by kernel_rfl) ?_ | refine J.bx rfl rfl rfl rfl rfl rfl ?_
      refine T.cf2 rfl lt_end ?_
      repeat' first | refine T.seq ?_ | refine T.block ?_ | refine T.r ?_ | refine J.e rfl rfl rfl rfl ?_ | refine J.nil ?_ | refine J.skip rfl rfl rfl ?_ | refine T.skip ?_ | refine T.exit ?_ | refine T.ret ?_ | refine T.rd rfl (by kernel_rfl) ?_ | refine J.bx rfl rfl rfl rfl rfl rfl ?_
      cases put
      · have h9 : nxt.length = 0 + out.length := hsl.2 rfl
        repeat' first | refine T.seq ?_ | refine T.block ?_ | refine T.r ?_ | refine J.e rfl rfl rfl rfl ?_ | refine J.nil ?_ | refine J.skip rfl rfl rfl ?_ | refine T.skip ?_ | refine T.exit ?_ | refine T.ret ?_ | refine T.rd rfl (by kernel_rfl) ?_ | refine J.bx rfl rfl rfl rfl rfl rfl ?_
        refine T.ct rfl ?_
        repeat' first | refine T.seq ?_ | refine T.block ?_ | refine T.r ?_ | refine J.e rfl rfl rfl rfl ?_ | refine J.nil ?_ | refine J.skip rfl rfl rfl ?_ | refine T.skip ?_ | refine T.exit ?_ | refine T.ret ?_ | refine T.rd rfl (by kernel_rfl) ?_ | refine J.bx rfl rfl rfl rfl rfl rfl ?_
        refine J.i rfl rfl rfl rfl rfl rfl rfl rfl rfl (r := cI x) (by omega) (row_at h hn) rfl ?_
        repeat' first | refine T.seq ?_ | refine T.block ?_ | refine T.r ?_ | refine J.e rfl rfl rfl rfl ?_ | refine J.nil ?_ | refine J.skip rfl rfl rfl ?_ | refine T.skip ?_ | refine T.exit ?_ | refine T.ret ?_ | refine T.rd rfl (by kernel_rfl) ?_ | refine J.bx rfl rfl rfl rfl rfl rfl ?_
        refine J.bv rfl rfl rfl rfl rfl rfl rfl rfl rfl rfl rfl rfl ?_
        repeat' first | refine T.seq ?_ | refine T.block ?_ | refine T.r ?_ | refine J.e rfl rfl rfl rfl ?_ | refine J.nil ?_ | refine J.skip rfl rfl rfl ?_ | refine T.skip ?_ | refine T.exit ?_ | refine T.ret ?_ | refine T.rd rfl (by kernel_rfl) ?_ | refine J.bx rfl rfl rfl rfl rfl rfl ?_
        refine J.a rfl rfl rfl rfl rfl rfl rfl rfl rfl rfl rfl rfl rfl rfl rfl rfl rfl (one_len rfl) (by show (List.length _ + 1) * 8 ≤ _; simp; omega) ?_
        repeat' first | refine T.seq ?_ | refine T.block ?_ | refine T.r ?_ | refine J.e rfl rfl rfl rfl ?_ | refine J.nil ?_ | refine J.skip rfl rfl rfl ?_ | refine T.skip ?_ | refine T.exit ?_ | refine T.ret ?_ | refine T.rd rfl (by kernel_rfl) ?_ | refine J.bx rfl rfl rfl rfl rfl rfl ?_
        rw [wrap1 hlt (by omega), snocI]
        exact T.canon (keep := [0, 3, 4]) (os := [3]) rfl ih
      · repeat' first | refine T.seq ?_ | refine T.block ?_ | refine T.r ?_ | refine J.e rfl rfl rfl rfl ?_ | refine J.nil ?_ | refine J.skip rfl rfl rfl ?_ | refine T.skip ?_ | refine T.exit ?_ | refine T.ret ?_ | refine T.rd rfl (by kernel_rfl) ?_ | refine J.bx rfl rfl rfl rfl rfl rfl ?_
        refine T.cf rfl ?_
        repeat' first | refine T.seq ?_ | refine T.block ?_ | refine T.r ?_ | refine J.e rfl rfl rfl rfl ?_ | refine J.nil ?_ | refine J.skip rfl rfl rfl ?_ | refine T.skip ?_ | refine T.exit ?_ | refine T.ret ?_ | refine T.rd rfl (by kernel_rfl) ?_ | refine J.bx rfl rfl rfl rfl rfl rfl ?_
        rw [wrap1 hlt (by omega)]
        exact T.canon (keep := [0, 3, 4]) (os := [3]) rfl ih
  · repeat' first | refine T.seq ?_ | refine T.block ?_ | refine T.r ?_ | refine J.e rfl rfl rfl rfl ?_ | refine J.nil ?_ | refine J.skip rfl rfl rfl ?_ | refine T.skip ?_ | refine T.exit ?_ | refine T.ret ?_ | refine T.rd rfl (by kernel_rfl) ?_ | refine J.bx rfl rfl rfl rfl rfl rfl ?_
    refine T.cf2 rfl lt_end ?_
    repeat' first | refine T.seq ?_ | refine T.block ?_ | refine T.r ?_ | refine J.e rfl rfl rfl rfl ?_ | refine J.nil ?_ | refine J.skip rfl rfl rfl ?_ | refine T.skip ?_ | refine T.exit ?_ | refine T.ret ?_ | refine T.rd rfl (by kernel_rfl) ?_ | refine J.bx rfl rfl rfl rfl rfl rfl ?_
    exact ⟨_, .o rfl rfl rfl (fun _ => .inl rfl) (by simp) .nil⟩
end Go.Proofs.Ytdflkbmpbblcfaa
/-! Contracts: packed values, what is cut out of them. -/
namespace Go.Proofs.Ytdflkbmpbblcfaa
open Go Go.RowKit
set_option linter.unusedVariables false
set_option maxRecDepth 4000

def packF (lo : Int) : Int → List Int → List (Int × Int)
  | x, [] => [(lo, x)]
  | x, y :: ys => if y = x + 1 then packF lo y ys else (lo, x) :: packF y y ys
def pack : List Int → List (Int × Int)
  | [] => []
  | x :: xs => packF x x xs

theorem pack_spec (l : List Int) (hv : ∀ v ∈ l, -4611686018427387904 ≤ v ∧ v ≤ 4611686018427387904) (hl : l.length * 16 ≤ 140737488355328) : Spec Try.prog 30 false [ints l] [.own 38 2 ((pack l).map cR)] := by
  refine Spec.body Try.func30 rfl rfl rfl fun w0 Z0 => ?_
  repeat' first | refine T.seq ?_ | refine T.block ?_ | refine T.r ?_ | refine J.e rfl rfl rfl rfl ?_ | refine J.nil ?_ | refine J.skip rfl rfl rfl ?_ | refine T.skip ?_ | refine T.exit ?_ | refine T.ret ?_ | refine T.rd rfl (by kernel_rfl) ?_ | refine J.bx rfl rfl rfl rfl rfl rfl ?_
  refine J.bo rfl rfl rfl rfl rfl rfl rfl rfl rfl rfl rfl rfl ?_
  repeat' first | refine T.seq ?_ | refine T.block ?_ | refine T.r ?_ | refine J.e rfl rfl rfl rfl ?_ | refine J.nil ?_ | refine J.skip rfl rfl rfl ?_ | refine T.skip ?_ | refine T.exit ?_ | refine T.ret ?_ | refine T.rd rfl (by kernel_rfl) ?_ | refine J.bx rfl rfl rfl rfl rfl rfl ?_
  refine T.canon (keep := [0, 3, 4, 5]) (os := [3]) rfl (T.ind (fun (s : Nat × Nat × List (Int × Int)) => ⟨[(0, .val false (ints l)), (3, .ref 0), (4, .val true (.int .i64 s.2.1)), (5, .val true (.int .i64 s.1))], [(0, some (.sl 38 2 true (s.2.2.map cR)))], 1⟩)
    (fun s => s.1 ≤ l.length ∧ s.2.1 ≤ s.1 ∧ s.2.2.length ≤ s.1 ∧ (s.1 = l.length → s.2.2 = pack l) ∧ ∀ x y, l[s.1]? = some x → l[s.2.1]? = some y → s.2.2 ++ packF y x (l.drop (s.1 + 1)) = pack l) (fun s => l.length - s.1) (0, 0, []) ⟨by simp, by simp, by simp, ?_, ?_⟩ (fun _ _ h => h) ?_)
  · intro h; cases l with
    | nil => rfl
    | cons x l => simp at h
  · intro x y h1 h2
    cases l with
    | nil => simp at h1
    | cons z l => simp at h1 h2; subst h1 h2; simp [pack]
  · rintro ⟨i, f, out⟩ ⟨hi, hf, hol, he, hp⟩ ih
    simp only at hi hf hol he hp ih
    dsimp only
    repeat' first | refine T.seq ?_ | refine T.block ?_ | refine T.r ?_ | refine J.e rfl rfl rfl rfl ?_ | refine J.nil ?_ | refine J.skip rfl rfl rfl ?_ | refine T.skip ?_ | refine T.exit ?_ | refine T.ret ?_ | refine T.rd rfl (by kernel_rfl) ?_ | refine J.bx rfl rfl rfl rfl rfl rfl ?_
    refine T.cd rfl (fun h => ?_) (fun h => ?_)
    · simp at h
      have hx := hp l[i] l[f] (by simp) (by simp)
      have hv1 := hv l[i] (by simp)
      repeat' first | refine T.seq ?_ | refine T.block ?_ | refine T.r ?_ | refine J.e rfl rfl rfl rfl ?_ | refine J.nil ?_ | refine J.skip rfl rfl rfl ?_ | refine T.skip ?_ | refine T.exit ?_ | refine T.ret ?_ | refine T.rd rfl (by kernel_rfl) ?_ | refine J.bx rfl rfl rfl rfl rfl rfl ?_
      rw [wrap1 h (by omega)]
      refine J.g rfl rfl rfl (fun h2 => ?_) (fun h2 => ?_)
      · simp at h2
        repeat' first | refine T.seq ?_ | refine T.block ?_ | refine T.r ?_ | refine J.e rfl rfl rfl rfl ?_ | refine J.nil ?_ | refine J.skip rfl rfl rfl ?_ | refine T.skip ?_ | refine T.exit ?_ | refine T.ret ?_ | refine J.bx rfl rfl rfl rfl rfl rfl ?_
        refine T.ct rfl ?_
        repeat' first | refine T.seq ?_ | refine T.block ?_ | refine T.r ?_ | refine J.e rfl rfl rfl rfl ?_ | refine J.nil ?_ | refine J.skip rfl rfl rfl ?_ | refine T.skip ?_ | refine T.exit ?_ | refine T.ret ?_ | refine J.bx rfl rfl rfl rfl rfl rfl ?_
        refine T.rdm 11 rfl (by kernel_rfl) rfl ?_
        repeat' first | refine T.seq ?_ | refine T.block ?_ | refine T.r ?_ | refine J.e rfl rfl rfl rfl ?_ | refine J.nil ?_ | refine J.skip rfl rfl rfl ?_ | refine T.skip ?_ | refine T.exit ?_ | refine T.ret ?_ | refine T.rd rfl (by kernel_rfl) ?_ | refine J.bx rfl rfl rfl rfl rfl rfl ?_
        refine J.i rfl rfl rfl rfl rfl rfl rfl rfl rfl (r := cI l[f]) (by omega) (row_i (by omega)) rfl ?_
        repeat' first | refine T.seq ?_ | refine T.block ?_ | refine T.r ?_ | refine J.e rfl rfl rfl rfl ?_ | refine J.nil ?_ | refine J.skip rfl rfl rfl ?_ | refine T.skip ?_ | refine T.exit ?_ | refine T.ret ?_ | refine T.rd rfl (by kernel_rfl) ?_ | refine J.bx rfl rfl rfl rfl rfl rfl ?_
        refine J.i rfl rfl rfl rfl rfl rfl rfl rfl rfl (r := cI l[i]) (by omega) (row_i h) rfl ?_
        repeat' first | refine T.seq ?_ | refine T.block ?_ | refine T.r ?_ | refine J.e rfl rfl rfl rfl ?_ | refine J.nil ?_ | refine J.skip rfl rfl rfl ?_ | refine T.skip ?_ | refine T.exit ?_ | refine T.ret ?_ | refine T.rd rfl (by kernel_rfl) ?_ | refine J.bx rfl rfl rfl rfl rfl rfl ?_
        refine J.bv rfl rfl rfl rfl rfl rfl rfl rfl rfl rfl rfl rfl ?_
        repeat' first | refine T.seq ?_ | refine T.block ?_ | refine T.r ?_ | refine J.e rfl rfl rfl rfl ?_ | refine J.nil ?_ | refine J.skip rfl rfl rfl ?_ | refine T.skip ?_ | refine T.exit ?_ | refine T.ret ?_ | refine T.rd rfl (by kernel_rfl) ?_ | refine J.bx rfl rfl rfl rfl rfl rfl ?_
        refine J.aR rfl rfl rfl rfl rfl rfl rfl rfl rfl rfl rfl rfl rfl rfl rfl rfl rfl rfl rfl (by omega) ?_
        repeat' first | refine T.seq ?_ | refine T.block ?_ | refine T.r ?_ | refine J.e rfl rfl rfl rfl ?_ | refine J.nil ?_ | refine J.skip rfl rfl rfl ?_ | refine T.skip ?_ | refine T.exit ?_ | refine T.ret ?_ | refine T.rd rfl (by kernel_rfl) ?_ | refine J.bx rfl rfl rfl rfl rfl rfl ?_
        rw [wrap1 h (by omega)]
        refine T.canon (keep := [0, 3, 4, 5]) (os := [3]) rfl (ih (i + 1, i + 1, out ++ [(l[f], l[i])]) ⟨by simp only; omega, by simp only; omega, by simp; omega, fun _ => ?_, fun x y hx1 _ => ?_⟩ (by simp only; omega))
        · rw [List.drop_of_length_le (by omega)] at hx
          exact hx
        · simp only at hx1
          rw [List.getElem?_eq_none (by omega)] at hx1
          cases hx1
      · simp at h2
        repeat' first | refine T.seq ?_ | refine T.block ?_ | refine T.r ?_ | refine J.e rfl rfl rfl rfl ?_ | refine J.nil ?_ | refine J.skip rfl rfl rfl ?_ | refine T.skip ?_ | refine T.exit ?_ | refine T.ret ?_ | refine T.rd rfl (by kernel_rfl) ?_ | refine J.bx rfl rfl rfl rfl rfl rfl ?_
        rw [wrap1 h (by omega)]
        have h3 : i + 1 < l.length := by omega
        refine J.i rfl rfl rfl rfl rfl rfl rfl rfl rfl (r := cI l[i + 1]) (by omega) (row_i h3) rfl ?_
        repeat' first | refine T.seq ?_ | refine T.block ?_ | refine T.r ?_ | refine J.e rfl rfl rfl rfl ?_ | refine J.nil ?_ | refine J.skip rfl rfl rfl ?_ | refine T.skip ?_ | refine T.exit ?_ | refine T.ret ?_ | refine T.rd rfl (by kernel_rfl) ?_ | refine J.bx rfl rfl rfl rfl rfl rfl ?_
        refine J.i rfl rfl rfl rfl rfl rfl rfl rfl rfl (r := cI l[i]) (by omega) (row_i h) rfl ?_
        repeat' first | refine T.seq ?_ | refine T.block ?_ | refine T.r ?_ | refine J.e rfl rfl rfl rfl ?_ | refine J.nil ?_ | refine J.skip rfl rfl rfl ?_ | refine T.skip ?_ | refine T.exit ?_ | refine T.ret ?_ | refine J.bx rfl rfl rfl rfl rfl rfl ?_
        rw [List.drop_eq_getElem_cons h3, packF] at hx
        have hv2 := hv l[i + 1] (by simp)
        refine T.cd rfl (fun h4 => ?_) (fun h4 => ?_)
        · rw [wrap_id (by omega) (by omega)] at h4
          rw [if_neg h4] at hx
          repeat' first | refine T.seq ?_ | refine T.block ?_ | refine T.r ?_ | refine J.e rfl rfl rfl rfl ?_ | refine J.nil ?_ | refine J.skip rfl rfl rfl ?_ | refine T.skip ?_ | refine T.exit ?_ | refine T.ret ?_ | refine J.bx rfl rfl rfl rfl rfl rfl ?_
          refine T.rdm 11 rfl (by kernel_rfl) rfl ?_
          repeat' first | refine T.seq ?_ | refine T.block ?_ | refine T.r ?_ | refine J.e rfl rfl rfl rfl ?_ | refine J.nil ?_ | refine J.skip rfl rfl rfl ?_ | refine T.skip ?_ | refine T.exit ?_ | refine T.ret ?_ | refine T.rd rfl (by kernel_rfl) ?_ | refine J.bx rfl rfl rfl rfl rfl rfl ?_
          refine J.i rfl rfl rfl rfl rfl rfl rfl rfl rfl (r := cI l[f]) (by omega) (row_i (by omega)) rfl ?_
          repeat' first | refine T.seq ?_ | refine T.block ?_ | refine T.r ?_ | refine J.e rfl rfl rfl rfl ?_ | refine J.nil ?_ | refine J.skip rfl rfl rfl ?_ | refine T.skip ?_ | refine T.exit ?_ | refine T.ret ?_ | refine T.rd rfl (by kernel_rfl) ?_ | refine J.bx rfl rfl rfl rfl rfl rfl ?_
          refine J.i rfl rfl rfl rfl rfl rfl rfl rfl rfl (r := cI l[i]) (by omega) (row_i h) rfl ?_
          repeat' first | refine T.seq ?_ | refine T.block ?_ | refine T.r ?_ | refine J.e rfl rfl rfl rfl ?_ | refine J.nil ?_ | refine J.skip rfl rfl rfl ?_ | refine T.skip ?_ | refine T.exit ?_ | refine T.ret ?_ | refine T.rd rfl (by kernel_rfl) ?_ | refine J.bx rfl rfl rfl rfl rfl rfl ?_
          refine J.bv rfl rfl rfl rfl rfl rfl rfl rfl rfl rfl rfl rfl ?_
          repeat' first | refine T.seq ?_ | refine T.block ?_ | refine T.r ?_ | refine J.e rfl rfl rfl rfl ?_ | refine J.nil ?_ | refine J.skip rfl rfl rfl ?_ | refine T.skip ?_ | refine T.exit ?_ | refine T.ret ?_ | refine T.rd rfl (by kernel_rfl) ?_ | refine J.bx rfl rfl rfl rfl rfl rfl ?_
          refine J.aR rfl rfl rfl rfl rfl rfl rfl rfl rfl rfl rfl rfl rfl rfl rfl rfl rfl rfl rfl (by omega) ?_
          repeat' first | refine T.seq ?_ | refine T.block ?_ | refine T.r ?_ | refine J.e rfl rfl rfl rfl ?_ | refine J.nil ?_ | refine J.skip rfl rfl rfl ?_ | refine T.skip ?_ | refine T.exit ?_ | refine T.ret ?_ | refine T.rd rfl (by kernel_rfl) ?_ | refine J.bx rfl rfl rfl rfl rfl rfl ?_
          rw [wrap1 h (by omega)]
          refine T.canon (keep := [0, 3, 4, 5]) (os := [3]) rfl (ih (i + 1, i + 1, out ++ [(l[f], l[i])]) ⟨by simp only; omega, by simp only; omega, by simp; omega, fun h5 => ?_, fun x y hx1 hy1 => ?_⟩ (by simp only; omega))
          · simp only at h5; omega
          · simp only [List.getElem?_eq_getElem h3, Option.some.injEq] at hx1 hy1 ⊢
            subst hx1 hy1
            rw [List.append_assoc]
            exact hx
        · rw [wrap_id (by omega) (by omega)] at h4
          have h4 : l[i + 1] = l[i] + 1 := Classical.not_not.1 h4
          rw [if_pos h4] at hx
          repeat' first | refine T.seq ?_ | refine T.block ?_ | refine T.r ?_ | refine J.e rfl rfl rfl rfl ?_ | refine J.nil ?_ | refine J.skip rfl rfl rfl ?_ | refine T.skip ?_ | refine T.exit ?_ | refine T.ret ?_ | refine T.rd rfl (by kernel_rfl) ?_ | refine J.bx rfl rfl rfl rfl rfl rfl ?_
          rw [wrap1 h (by omega)]
          refine T.canon (keep := [0, 3, 4, 5]) (os := [3]) rfl (ih (i + 1, f, out) ⟨by simp only; omega, by simp only; omega, by simp only; omega, fun h5 => ?_, fun x y hx1 hy1 => ?_⟩ (by simp only; omega))
          · simp only at h5; omega
          · simp only [List.getElem?_eq_getElem h3, Option.some.injEq] at hx1 hy1 ⊢
            have : f < l.length := by omega
            rw [List.getElem?_eq_getElem this, Option.some.injEq] at hy1
            subst hx1 hy1
            exact hx
    · simp at h
      repeat' first | refine T.seq ?_ | refine T.block ?_ | refine T.r ?_ | refine J.e rfl rfl rfl rfl ?_ | refine J.nil ?_ | refine J.skip rfl rfl rfl ?_ | refine T.skip ?_ | refine T.exit ?_ | refine T.ret ?_ | refine T.rd rfl (by kernel_rfl) ?_ | refine J.bx rfl rfl rfl rfl rfl rfl ?_
      exact ⟨_, .o rfl rfl (by rw [he (by omega)]) (fun _ => .inl rfl) (by simp) .nil⟩
end Go.Proofs.Ytdflkbmpbblcfaa
/-! Contracts: the document's cuts, picks, ends; what is the same. -/
namespace Go.Proofs.Ytdflkbmpbblcfaa
open Go Go.RowKit
set_option linter.unusedVariables false
set_option maxRecDepth 4000

def cutR (d : List (Int × Int)) (lo hi : Int) : List (Int × Int) := pack ((vals d).filter fun v => decide (lo ≤ v) && decide (v ≤ hi))
theorem vals_in {d : List (Int × Int)} (hb : InB d) : ∀ v ∈ vals d, -1048576 ≤ v ∧ v ≤ 1048576 := by
  intro v hv
  obtain ⟨r, hr, hv⟩ := List.mem_flatMap.1 hv
  obtain ⟨h1, h2, h3, h4⟩ := hb r hr
  obtain ⟨k, hk, rfl⟩ := List.mem_map.1 hv
  have := List.mem_range.1 hk
  omega
/-- Of few enough values. -/
def DomB (d : List (Int × Int)) : Prop := InB d ∧ (vals d).length * 16 ≤ 140737488355328 ∧ d.length * 16 ≤ 140737488355328

def pickR (a b : List (Int × Int)) (inn : Bool) : List (Int × Int) := pack ((vals a).filter fun v => decide (v ∈ vals b) == inn)
def okV (l : List Int) : Bool := l.all valueB
def ofR (l : List Int) : List (Int × Int) × Int := if okV l then (if 4096 < (sortU l).length then ([], 2) else (pack (sortU l), 0)) else ([], 20)
theorem insU_mem (v x : Int) : ∀ l, x ∈ insU v l ↔ x = v ∨ x ∈ l := by
  have key : ∀ l, x ∈ insS v l ↔ x = v ∨ x ∈ l := by
    intro l
    induction l with
    | nil => simp [insS]
    | cons y l ih => simp only [insS]; split <;> simp [ih]; grind
  intro l
  unfold insU
  split
  · rename_i h; constructor
    · exact .inr
    · rintro (rfl | h2)
      · exact h
      · exact h2
  · exact key l
theorem sortU_mem (x : Int) (l : List Int) : x ∈ sortU l ↔ x ∈ l := by
  have key : ∀ (l out : List Int), x ∈ l.foldl (fun out v => insU v out) out ↔ x ∈ out ∨ x ∈ l := by
    intro l
    induction l with
    | nil => simp
    | cons v l ih => intro out; rw [List.foldl_cons, ih, insU_mem]; simp; grind
  simpa [sortU] using key l []
theorem of_spec (l : List Int) (hl : l.length * 16 ≤ 140737488355328) : Spec Try.prog 33 false [ints l] [.own 38 2 ((ofR l).1.map cR), .val (.int .i64 (ofR l).2)] := by
  refine Spec.body Try.func33 rfl rfl rfl fun w0 Z0 => ?_
  repeat' first | refine T.seq ?_ | refine T.block ?_ | refine T.r ?_ | refine J.e rfl rfl rfl rfl ?_ | refine J.nil ?_ | refine J.skip rfl rfl rfl ?_ | refine T.skip ?_ | refine T.exit ?_ | refine T.ret ?_ | refine T.rd rfl (by kernel_rfl) ?_ | refine J.bx rfl rfl rfl rfl rfl rfl ?_
  refine T.canon (keep := [0, 4]) (os := []) rfl (T.listI l (fun pre => okV pre = true) (fun n pre post => ⟨[(0, .val false (ints l)), (4, .val true (.int .i64 n))], [], 0⟩) (fun _ _ h => h) rfl ?_ ?_)
  · rintro n pre x post h hn hi ih
    have hlt := at_lt h hn
    repeat' first | refine T.seq ?_ | refine T.block ?_ | refine T.r ?_ | refine J.e rfl rfl rfl rfl ?_ | refine J.nil ?_ | refine J.skip rfl rfl rfl ?_ | refine T.skip ?_ | refine T.exit ?_ | refine T.ret ?_ | refine T.rd rfl (by kernel_rfl) ?_ | refine J.bx rfl rfl rfl rfl rfl rfl ?_
    refine T.ct2 rfl (lt_at h hn) ?_
    repeat' first | refine T.seq ?_ | refine T.block ?_ | refine T.r ?_ | refine J.e rfl rfl rfl rfl ?_ | refine J.nil ?_ | refine J.skip rfl rfl rfl ?_ | refine T.skip ?_ | refine T.exit ?_ | refine T.ret ?_ | refine T.rd rfl (by kernel_rfl) ?_ | refine J.bx rfl rfl rfl rfl rfl rfl ?_
    refine J.i rfl rfl rfl rfl rfl rfl rfl rfl rfl (r := cI x) (by omega) (row_at h hn) rfl ?_
    repeat' first | refine T.seq ?_ | refine T.block ?_ | refine T.r ?_ | refine J.e rfl rfl rfl rfl ?_ | refine J.nil ?_ | refine J.skip rfl rfl rfl ?_ | refine T.skip ?_ | refine T.exit ?_ | refine T.ret ?_ | refine T.rd rfl (by kernel_rfl) ?_ | refine J.bx rfl rfl rfl rfl rfl rfl ?_
    refine J.cc rfl rfl rfl rfl rfl (value_spec x) rfl rfl ?_
    repeat' first | refine T.seq ?_ | refine T.block ?_ | refine T.r ?_ | refine J.e rfl rfl rfl rfl ?_ | refine J.nil ?_ | refine J.skip rfl rfl rfl ?_ | refine T.skip ?_ | refine T.exit ?_ | refine T.ret ?_ | refine T.rd rfl (by kernel_rfl) ?_ | refine J.bx rfl rfl rfl rfl rfl rfl ?_
    refine T.cond rfl (fun h1 => ?_) (fun h1 => ?_)
    · simp only [Bool.not_eq_true'] at h1
      have e : okV l = false := by rw [h]; simp [okV, h1]
      have e2 : ofR l = ([], 20) := by simp [ofR, e]
      rw [e2]
      repeat' first | refine T.seq ?_ | refine T.block ?_ | refine T.r ?_ | refine J.e rfl rfl rfl rfl ?_ | refine J.nil ?_ | refine J.skip rfl rfl rfl ?_ | refine T.skip ?_ | refine T.exit ?_ | refine T.ret ?_ | refine T.rd rfl (by kernel_rfl) ?_ | refine J.bx rfl rfl rfl rfl rfl rfl ?_
      exact ⟨_, .ownN rfl (.v rfl rfl rfl (fun _ => rfl) .nil)⟩
    · simp only [Bool.not_eq_false'] at h1
      repeat' first | refine T.seq ?_ | refine T.block ?_ | refine T.r ?_ | refine J.e rfl rfl rfl rfl ?_ | refine J.nil ?_ | refine J.skip rfl rfl rfl ?_ | refine T.skip ?_ | refine T.exit ?_ | refine T.ret ?_ | refine T.rd rfl (by kernel_rfl) ?_ | refine J.bx rfl rfl rfl rfl rfl rfl ?_
      rw [wrap1 hlt (by omega)]
      exact T.canon (keep := [0, 4]) (os := []) rfl (ih (by simp only [okV, List.all_append, Bool.and_eq_true] at hi ⊢; exact ⟨hi, by simp [h1]⟩))
  · intro hi
    have hsl := sortU_length l
    have hm : ∀ v ∈ sortU l, -4611686018427387904 ≤ v ∧ v ≤ 4611686018427387904 := fun v hv => by
      have := List.all_eq_true.1 hi v ((sortU_mem v l).1 hv)
      simp [valueB] at this
      omega
    repeat' first | refine T.seq ?_ | refine T.block ?_ | refine T.r ?_ | refine J.e rfl rfl rfl rfl ?_ | refine J.nil ?_ | refine J.skip rfl rfl rfl ?_ | refine T.skip ?_ | refine T.exit ?_ | refine T.ret ?_ | refine T.rd rfl (by kernel_rfl) ?_ | refine J.bx rfl rfl rfl rfl rfl rfl ?_
    refine T.cf2 rfl lt_end ?_
    repeat' first | refine T.seq ?_ | refine T.block ?_ | refine T.r ?_ | refine J.e rfl rfl rfl rfl ?_ | refine J.nil ?_ | refine J.skip rfl rfl rfl ?_ | refine T.skip ?_ | refine T.exit ?_ | refine T.ret ?_ | refine T.rd rfl (by kernel_rfl) ?_ | refine J.bx rfl rfl rfl rfl rfl rfl ?_
    refine J.cc rfl rfl rfl rfl rfl (sorted_spec l (by omega)).frz rfl rfl ?_
    repeat' first | refine T.seq ?_ | refine T.block ?_ | refine T.r ?_ | refine J.e rfl rfl rfl rfl ?_ | refine J.nil ?_ | refine J.skip rfl rfl rfl ?_ | refine T.skip ?_ | refine T.exit ?_ | refine T.ret ?_ | refine T.rd rfl (by kernel_rfl) ?_ | refine J.bx rfl rfl rfl rfl rfl rfl ?_
    refine T.cd rfl (fun h1 => ?_) (fun h1 => ?_)
    · have e2 : ofR l = ([], 2) := by simp at h1; simp [ofR, hi]; omega
      rw [e2]
      repeat' first | refine T.seq ?_ | refine T.block ?_ | refine T.r ?_ | refine J.e rfl rfl rfl rfl ?_ | refine J.nil ?_ | refine J.skip rfl rfl rfl ?_ | refine T.skip ?_ | refine T.exit ?_ | refine T.ret ?_ | refine T.rd rfl (by kernel_rfl) ?_ | refine J.bx rfl rfl rfl rfl rfl rfl ?_
      exact ⟨_, .ownN rfl (.v rfl rfl rfl (fun _ => rfl) .nil)⟩
    · have e2 : ofR l = (pack (sortU l), 0) := by simp at h1; simp [ofR, hi]; omega
      rw [e2]
      repeat' first | refine T.seq ?_ | refine T.block ?_ | refine T.r ?_ | refine J.e rfl rfl rfl rfl ?_ | refine J.nil ?_ | refine J.skip rfl rfl rfl ?_ | refine T.skip ?_ | refine T.exit ?_ | refine T.ret ?_ | refine T.rd rfl (by kernel_rfl) ?_ | refine J.bx rfl rfl rfl rfl rfl rfl ?_
      refine J.cc rfl rfl rfl rfl rfl (pack_spec _ hm (by omega)) rfl rfl ?_
      repeat' first | refine T.seq ?_ | refine T.block ?_ | refine T.r ?_ | refine J.e rfl rfl rfl rfl ?_ | refine J.nil ?_ | refine J.skip rfl rfl rfl ?_ | refine T.skip ?_ | refine T.exit ?_ | refine T.ret ?_ | refine T.rd rfl (by kernel_rfl) ?_ | refine J.bx rfl rfl rfl rfl rfl rfl ?_
      exact ⟨_, .o rfl rfl rfl (fun _ => .inl rfl) (by simp) (.v rfl rfl rfl (fun _ => rfl) .nil)⟩

def endsR (d : List (Int × Int)) : Int × Int × Bool := match vals d with
  | [] => (0, 0, false)
  | x :: l => (x, (x :: l).getLast (by simp), true)
/-- Two lists, held against each other place by place. -/
theorem take_same {α : Type} {a b : List α} {i : Nat} (h : a.take i = b.take i) (ha : i < a.length) (hb : i < b.length) (he : a[i] = b[i]) : a.take (i + 1) = b.take (i + 1) := by
  rw [List.take_succ_eq_append_getElem ha, List.take_succ_eq_append_getElem hb, h, he]

theorem nums_spec (a b : List Int) (hl : a.length * 8 ≤ 140737488355328) : Spec Try.prog 17 false [ints a, ints b] [.val (.bool (decide (a = b)))] := by
  refine Spec.body Try.func17 rfl rfl rfl fun w0 Z0 => ?_
  repeat' first | refine T.seq ?_ | refine T.block ?_ | refine T.r ?_ | refine J.e rfl rfl rfl rfl ?_ | refine J.nil ?_ | refine J.skip rfl rfl rfl ?_ | refine T.skip ?_ | refine T.exit ?_ | refine T.ret ?_ | refine T.rd rfl (by kernel_rfl) ?_ | refine J.bx rfl rfl rfl rfl rfl rfl ?_
  refine T.cd rfl (fun h => ?_) (fun h => ?_)
  · repeat' first | refine T.seq ?_ | refine T.block ?_ | refine T.r ?_ | refine J.e rfl rfl rfl rfl ?_ | refine J.nil ?_ | refine J.skip rfl rfl rfl ?_ | refine T.skip ?_ | refine T.exit ?_ | refine T.ret ?_ | refine T.rd rfl (by kernel_rfl) ?_ | refine J.bx rfl rfl rfl rfl rfl rfl ?_
    exact ⟨_, .v rfl rfl (by simp only [List.length_map] at h; rw [decide_eq_false]; intro e; subst e; exact h rfl) (fun _ => rfl) .nil⟩
  · have hlen : a.length = b.length := by simp only [List.length_map, ne_eq, Classical.not_not] at h; omega
    repeat' first | refine T.seq ?_ | refine T.block ?_ | refine T.r ?_ | refine J.e rfl rfl rfl rfl ?_ | refine J.nil ?_ | refine J.skip rfl rfl rfl ?_ | refine T.skip ?_ | refine T.exit ?_ | refine T.ret ?_ | refine T.rd rfl (by kernel_rfl) ?_ | refine J.bx rfl rfl rfl rfl rfl rfl ?_
    refine T.canon (keep := [0, 1, 5]) (os := []) rfl (T.ind (fun i : Nat => ⟨[(0, .val false (ints a)), (1, .val false (ints b)), (5, .val true (.int .i64 i))], [], 0⟩) (fun i => i ≤ a.length ∧ a.take i = b.take i) (fun i => a.length - i) 0 (by simp) (fun _ _ h => h) ?_)
    rintro i ⟨hi, ht⟩ ih
    repeat' first | refine T.seq ?_ | refine T.block ?_ | refine T.r ?_ | refine J.e rfl rfl rfl rfl ?_ | refine J.nil ?_ | refine J.skip rfl rfl rfl ?_ | refine T.skip ?_ | refine T.exit ?_ | refine T.ret ?_ | refine T.rd rfl (by kernel_rfl) ?_ | refine J.bx rfl rfl rfl rfl rfl rfl ?_
    refine T.cd rfl (fun h1 => ?_) (fun h1 => ?_)
    · simp at h1
      repeat' first | refine T.seq ?_ | refine T.block ?_ | refine T.r ?_ | refine J.e rfl rfl rfl rfl ?_ | refine J.nil ?_ | refine J.skip rfl rfl rfl ?_ | refine T.skip ?_ | refine T.exit ?_ | refine T.ret ?_ | refine T.rd rfl (by kernel_rfl) ?_ | refine J.bx rfl rfl rfl rfl rfl rfl ?_
      refine J.i rfl rfl rfl rfl rfl rfl rfl rfl rfl (r := cI a[i]) (by omega) (row_i h1) rfl ?_
      repeat' first | refine T.seq ?_ | refine T.block ?_ | refine T.r ?_ | refine J.e rfl rfl rfl rfl ?_ | refine J.nil ?_ | refine J.skip rfl rfl rfl ?_ | refine T.skip ?_ | refine T.exit ?_ | refine T.ret ?_ | refine T.rd rfl (by kernel_rfl) ?_ | refine J.bx rfl rfl rfl rfl rfl rfl ?_
      refine J.i rfl rfl rfl rfl rfl rfl rfl rfl rfl (r := cI b[i]) (by omega) (row_i (by omega)) rfl ?_
      repeat' first | refine T.seq ?_ | refine T.block ?_ | refine T.r ?_ | refine J.e rfl rfl rfl rfl ?_ | refine J.nil ?_ | refine J.skip rfl rfl rfl ?_ | refine T.skip ?_ | refine T.exit ?_ | refine T.ret ?_ | refine T.rd rfl (by kernel_rfl) ?_ | refine J.bx rfl rfl rfl rfl rfl rfl ?_
      refine T.cd rfl (fun h2 => ?_) (fun h2 => ?_)
      · repeat' first | refine T.seq ?_ | refine T.block ?_ | refine T.r ?_ | refine J.e rfl rfl rfl rfl ?_ | refine J.nil ?_ | refine J.skip rfl rfl rfl ?_ | refine T.skip ?_ | refine T.exit ?_ | refine T.ret ?_ | refine T.rd rfl (by kernel_rfl) ?_ | refine J.bx rfl rfl rfl rfl rfl rfl ?_
        exact ⟨_, .v rfl rfl (by rw [decide_eq_false]; intro e; subst e; exact h2 rfl) (fun _ => rfl) .nil⟩
      · repeat' first | refine T.seq ?_ | refine T.block ?_ | refine T.r ?_ | refine J.e rfl rfl rfl rfl ?_ | refine J.nil ?_ | refine J.skip rfl rfl rfl ?_ | refine T.skip ?_ | refine T.exit ?_ | refine T.ret ?_ | refine T.rd rfl (by kernel_rfl) ?_ | refine J.bx rfl rfl rfl rfl rfl rfl ?_
        rw [wrap1 h1 (by omega)]
        exact T.canon (keep := [0, 1, 5]) (os := []) rfl (ih (i + 1) ⟨by omega, take_same ht h1 (by omega) (Classical.not_not.1 h2)⟩ (by omega))
    · simp at h1
      repeat' first | refine T.seq ?_ | refine T.block ?_ | refine T.r ?_ | refine J.e rfl rfl rfl rfl ?_ | refine J.nil ?_ | refine J.skip rfl rfl rfl ?_ | refine T.skip ?_ | refine T.exit ?_ | refine T.ret ?_ | refine T.rd rfl (by kernel_rfl) ?_ | refine J.bx rfl rfl rfl rfl rfl rfl ?_
      refine ⟨_, .v rfl rfl ?_ (fun _ => rfl) .nil⟩
      rw [List.take_of_length_le (by omega), List.take_of_length_le (by omega)] at ht
      simp [ht]

theorem same_spec (a b : List (Int × Int)) (hl : a.length * 8 ≤ 140737488355328) : Spec Try.prog 21 false [dm a, dm b] [.val (.bool (decide (a = b)))] := by
  refine Spec.body Try.func21 rfl rfl rfl fun w0 Z0 => ?_
  repeat' first | refine T.seq ?_ | refine T.block ?_ | refine T.r ?_ | refine J.e rfl rfl rfl rfl ?_ | refine J.nil ?_ | refine J.skip rfl rfl rfl ?_ | refine T.skip ?_ | refine T.exit ?_ | refine T.ret ?_ | refine T.rd rfl (by kernel_rfl) ?_ | refine J.bx rfl rfl rfl rfl rfl rfl ?_
  refine T.cd rfl (fun h => ?_) (fun h => ?_)
  · repeat' first | refine T.seq ?_ | refine T.block ?_ | refine T.r ?_ | refine J.e rfl rfl rfl rfl ?_ | refine J.nil ?_ | refine J.skip rfl rfl rfl ?_ | refine T.skip ?_ | refine T.exit ?_ | refine T.ret ?_ | refine T.rd rfl (by kernel_rfl) ?_ | refine J.bx rfl rfl rfl rfl rfl rfl ?_
    exact ⟨_, .v rfl rfl (by simp only [List.length_map] at h; rw [decide_eq_false]; intro e; subst e; exact h rfl) (fun _ => rfl) .nil⟩
  · have hlen : a.length = b.length := by simp only [List.length_map, ne_eq, Classical.not_not] at h; omega
    repeat' first | refine T.seq ?_ | refine T.block ?_ | refine T.r ?_ | refine J.e rfl rfl rfl rfl ?_ | refine J.nil ?_ | refine J.skip rfl rfl rfl ?_ | refine T.skip ?_ | refine T.exit ?_ | refine T.ret ?_ | refine T.rd rfl (by kernel_rfl) ?_ | refine J.bx rfl rfl rfl rfl rfl rfl ?_
    refine T.canon (keep := [0, 1, 5]) (os := []) rfl (T.ind (fun i : Nat => ⟨[(0, .val false (dm a)), (1, .val false (dm b)), (5, .val true (.int .i64 i))], [], 0⟩) (fun i => i ≤ a.length ∧ a.take i = b.take i) (fun i => a.length - i) 0 (by simp) (fun _ _ h => h) ?_)
    rintro i ⟨hi, ht⟩ ih
    repeat' first | refine T.seq ?_ | refine T.block ?_ | refine T.r ?_ | refine J.e rfl rfl rfl rfl ?_ | refine J.nil ?_ | refine J.skip rfl rfl rfl ?_ | refine T.skip ?_ | refine T.exit ?_ | refine T.ret ?_ | refine T.rd rfl (by kernel_rfl) ?_ | refine J.bx rfl rfl rfl rfl rfl rfl ?_
    refine T.cd rfl (fun h1 => ?_) (fun h1 => ?_)
    · simp at h1
      repeat' first | refine T.seq ?_ | refine T.block ?_ | refine T.r ?_ | refine J.e rfl rfl rfl rfl ?_ | refine J.nil ?_ | refine J.skip rfl rfl rfl ?_ | refine T.skip ?_ | refine T.exit ?_ | refine T.ret ?_ | refine T.rd rfl (by kernel_rfl) ?_ | refine J.bx rfl rfl rfl rfl rfl rfl ?_
      refine J.i rfl rfl rfl rfl rfl rfl rfl rfl rfl (r := cR a[i]) (by omega) (row_i h1) rfl ?_
      repeat' first | refine T.seq ?_ | refine T.block ?_ | refine T.r ?_ | refine J.e rfl rfl rfl rfl ?_ | refine J.nil ?_ | refine J.skip rfl rfl rfl ?_ | refine T.skip ?_ | refine T.exit ?_ | refine T.ret ?_ | refine T.rd rfl (by kernel_rfl) ?_ | refine J.bx rfl rfl rfl rfl rfl rfl ?_
      refine J.i rfl rfl rfl rfl rfl rfl rfl rfl rfl (r := cR b[i]) (by omega) (row_i (by omega)) rfl ?_
      repeat' first | refine T.seq ?_ | refine T.block ?_ | refine T.r ?_ | refine J.e rfl rfl rfl rfl ?_ | refine J.nil ?_ | refine J.skip rfl rfl rfl ?_ | refine T.skip ?_ | refine T.exit ?_ | refine T.ret ?_ | refine T.rd rfl (by kernel_rfl) ?_ | refine J.bx rfl rfl rfl rfl rfl rfl ?_
      refine J.se [a[i].1, a[i].2] [b[i].1, b[i].2] rfl rfl rfl rfl rfl rfl rfl rfl (by kernel_rfl) (by kernel_rfl) (by kernel_rfl) (by kernel_rfl) rfl rfl (.inr rfl) ?_
      repeat' first | refine T.seq ?_ | refine T.block ?_ | refine T.r ?_ | refine J.e rfl rfl rfl rfl ?_ | refine J.nil ?_ | refine J.skip rfl rfl rfl ?_ | refine T.skip ?_ | refine T.exit ?_ | refine T.ret ?_ | refine T.rd rfl (by kernel_rfl) ?_ | refine J.bx rfl rfl rfl rfl rfl rfl ?_
      refine T.cond rfl (fun h2 => ?_) (fun h2 => ?_)
      · repeat' first | refine T.seq ?_ | refine T.block ?_ | refine T.r ?_ | refine J.e rfl rfl rfl rfl ?_ | refine J.nil ?_ | refine J.skip rfl rfl rfl ?_ | refine T.skip ?_ | refine T.exit ?_ | refine T.ret ?_ | refine T.rd rfl (by kernel_rfl) ?_ | refine J.bx rfl rfl rfl rfl rfl rfl ?_
        exact ⟨_, .v rfl rfl (by rw [decide_eq_false]; intro e; subst e; simp at h2) (fun _ => rfl) .nil⟩
      · repeat' first | refine T.seq ?_ | refine T.block ?_ | refine T.r ?_ | refine J.e rfl rfl rfl rfl ?_ | refine J.nil ?_ | refine J.skip rfl rfl rfl ?_ | refine T.skip ?_ | refine T.exit ?_ | refine T.ret ?_ | refine T.rd rfl (by kernel_rfl) ?_ | refine J.bx rfl rfl rfl rfl rfl rfl ?_
        rw [wrap1 h1 (by omega)]
        refine T.canon (keep := [0, 1, 5]) (os := []) rfl (ih (i + 1) ⟨by omega, take_same ht h1 (by omega) ?_⟩ (by omega))
        simp at h2
        exact Prod.ext h2.1 h2.2
    · simp at h1
      repeat' first | refine T.seq ?_ | refine T.block ?_ | refine T.r ?_ | refine J.e rfl rfl rfl rfl ?_ | refine J.nil ?_ | refine J.skip rfl rfl rfl ?_ | refine T.skip ?_ | refine T.exit ?_ | refine T.ret ?_ | refine T.rd rfl (by kernel_rfl) ?_ | refine J.bx rfl rfl rfl rfl rfl rfl ?_
      refine ⟨_, .v rfl rfl ?_ (fun _ => rfl) .nil⟩
      rw [List.take_of_length_le (by omega), List.take_of_length_le (by omega)] at ht
      simp [ht]

theorem empty_spec (d : List (List (Int × Int))) (hl : d.length * 8 ≤ 140737488355328) : Spec Try.prog 29 false [doms d] [.val (.bool (decide ([] ∈ d)))] := by
  refine Spec.body Try.func29 rfl rfl rfl fun w0 Z0 => ?_
  repeat' first | refine T.seq ?_ | refine T.block ?_ | refine T.r ?_ | refine J.e rfl rfl rfl rfl ?_ | refine J.nil ?_ | refine J.skip rfl rfl rfl ?_ | refine T.skip ?_ | refine T.exit ?_ | refine T.ret ?_ | refine T.rd rfl (by kernel_rfl) ?_ | refine J.bx rfl rfl rfl rfl rfl rfl ?_
  refine T.canon (keep := [0, 3]) (os := []) rfl (T.listI d (fun pre => [] ∉ pre) (fun n pre post => ⟨[(0, .val false (doms d)), (3, .val true (.int .i64 n))], [], 0⟩) (fun _ _ h => h) (by simp) ?_ ?_)
  · rintro n pre x post h hn hi ih
    have hlt := at_lt h hn
    repeat' first | refine T.seq ?_ | refine T.block ?_ | refine T.r ?_ | refine J.e rfl rfl rfl rfl ?_ | refine J.nil ?_ | refine J.skip rfl rfl rfl ?_ | refine T.skip ?_ | refine T.exit ?_ | refine T.ret ?_ | refine T.rd rfl (by kernel_rfl) ?_ | refine J.bx rfl rfl rfl rfl rfl rfl ?_
    refine T.ct2 rfl (lt_at h hn) ?_
    repeat' first | refine T.seq ?_ | refine T.block ?_ | refine T.r ?_ | refine J.e rfl rfl rfl rfl ?_ | refine J.nil ?_ | refine J.skip rfl rfl rfl ?_ | refine T.skip ?_ | refine T.exit ?_ | refine T.ret ?_ | refine T.rd rfl (by kernel_rfl) ?_ | refine J.bx rfl rfl rfl rfl rfl rfl ?_
    refine J.i rfl rfl rfl rfl rfl rfl rfl rfl rfl (r := cD x) (by omega) (row_at h hn) rfl ?_
    repeat' first | refine T.seq ?_ | refine T.block ?_ | refine T.r ?_ | refine J.e rfl rfl rfl rfl ?_ | refine J.nil ?_ | refine J.skip rfl rfl rfl ?_ | refine T.skip ?_ | refine T.exit ?_ | refine T.ret ?_ | refine T.rd rfl (by kernel_rfl) ?_ | refine J.bx rfl rfl rfl rfl rfl rfl ?_
    refine T.cd rfl (fun h1 => ?_) (fun h1 => ?_)
    · repeat' first | refine T.seq ?_ | refine T.block ?_ | refine T.r ?_ | refine J.e rfl rfl rfl rfl ?_ | refine J.nil ?_ | refine J.skip rfl rfl rfl ?_ | refine T.skip ?_ | refine T.exit ?_ | refine T.ret ?_ | refine T.rd rfl (by kernel_rfl) ?_ | refine J.bx rfl rfl rfl rfl rfl rfl ?_
      refine ⟨_, .v rfl rfl ?_ (fun _ => rfl) .nil⟩
      have : x = [] := by simp at h1; exact h1
      rw [h, this]; simp
    · repeat' first | refine T.seq ?_ | refine T.block ?_ | refine T.r ?_ | refine J.e rfl rfl rfl rfl ?_ | refine J.nil ?_ | refine J.skip rfl rfl rfl ?_ | refine T.skip ?_ | refine T.exit ?_ | refine T.ret ?_ | refine T.rd rfl (by kernel_rfl) ?_ | refine J.bx rfl rfl rfl rfl rfl rfl ?_
      rw [wrap1 hlt (by omega)]
      refine T.canon (keep := [0, 3]) (os := []) rfl (ih ?_)
      simp only [List.mem_append, List.mem_singleton, not_or]
      refine ⟨hi, fun e => h1 ?_⟩
      rw [← e]; rfl
  · intro hi
    repeat' first | refine T.seq ?_ | refine T.block ?_ | refine T.r ?_ | refine J.e rfl rfl rfl rfl ?_ | refine J.nil ?_ | refine J.skip rfl rfl rfl ?_ | refine T.skip ?_ | refine T.exit ?_ | refine T.ret ?_ | refine T.rd rfl (by kernel_rfl) ?_ | refine J.bx rfl rfl rfl rfl rfl rfl ?_
    refine T.cf2 rfl lt_end ?_
    repeat' first | refine T.seq ?_ | refine T.block ?_ | refine T.r ?_ | refine J.e rfl rfl rfl rfl ?_ | refine J.nil ?_ | refine J.skip rfl rfl rfl ?_ | refine T.skip ?_ | refine T.exit ?_ | refine T.ret ?_ | refine T.rd rfl (by kernel_rfl) ?_ | refine J.bx rfl rfl rfl rfl rfl rfl ?_
    exact ⟨_, .v rfl rfl (by simp [hi]) (fun _ => rfl) .nil⟩
end Go.Proofs.Ytdflkbmpbblcfaa
/-! Contracts: lists of domains; the program's domains. -/
namespace Go.Proofs.Ytdflkbmpbblcfaa
open Go Go.RowKit
set_option linter.unusedVariables false
set_option maxRecDepth 4000

theorem lists_spec (d : List (List (Int × Int))) (hl : d.length * 24 ≤ 140737488355328) (hx : ∀ x ∈ d, x.length * 16 ≤ 140737488355328) : Spec Try.prog 11 false [doms d] [.own 36 1 (d.map cD)] := by
  refine Spec.body Try.func11 rfl rfl rfl fun w0 Z0 => ?_
  repeat' first | refine T.seq ?_ | refine T.block ?_ | refine T.r ?_ | refine J.e rfl rfl rfl rfl ?_ | refine J.nil ?_ | refine J.skip rfl rfl rfl ?_ | refine T.skip ?_ | refine T.exit ?_ | refine T.ret ?_ | refine T.rd rfl (by kernel_rfl) ?_ | refine J.bx rfl rfl rfl rfl rfl rfl ?_
  refine J.bo rfl rfl rfl rfl rfl rfl rfl rfl rfl rfl rfl rfl ?_
  repeat' first | refine T.seq ?_ | refine T.block ?_ | refine T.r ?_ | refine J.e rfl rfl rfl rfl ?_ | refine J.nil ?_ | refine J.skip rfl rfl rfl ?_ | refine T.skip ?_ | refine T.exit ?_ | refine T.ret ?_ | refine T.rd rfl (by kernel_rfl) ?_ | refine J.bx rfl rfl rfl rfl rfl rfl ?_
  refine T.canon (keep := [0, 3, 4]) (os := [3]) rfl (T.list d (fun n pre post => ⟨[(0, .val false (doms d)), (3, .ref 0), (4, .val true (.int .i64 n))], [(0, some (.sl 36 1 true (pre.map cD)))], 1⟩) (fun _ _ h => h) ?_ ?_)
  · rintro n pre x post h hn ih
    have hlt := at_lt h hn
    have hxl := hx x (by rw [h]; simp)
    repeat' first | refine T.seq ?_ | refine T.block ?_ | refine T.r ?_ | refine J.e rfl rfl rfl rfl ?_ | refine J.nil ?_ | refine J.skip rfl rfl rfl ?_ | refine T.skip ?_ | refine T.exit ?_ | refine T.ret ?_ | refine T.rd rfl (by kernel_rfl) ?_ | refine J.bx rfl rfl rfl rfl rfl rfl ?_
    refine T.ct2 rfl (lt_at h hn) ?_
    repeat' first | refine T.seq ?_ | refine T.block ?_ | refine T.r ?_ | refine J.e rfl rfl rfl rfl ?_ | refine J.nil ?_ | refine J.skip rfl rfl rfl ?_ | refine T.skip ?_ | refine T.exit ?_ | refine T.ret ?_ | refine T.rd rfl (by kernel_rfl) ?_ | refine J.bx rfl rfl rfl rfl rfl rfl ?_
    refine J.bo rfl rfl rfl rfl rfl rfl rfl rfl rfl rfl rfl rfl ?_
    repeat' first | refine T.seq ?_ | refine T.block ?_ | refine T.r ?_ | refine J.e rfl rfl rfl rfl ?_ | refine J.nil ?_ | refine J.skip rfl rfl rfl ?_ | refine T.skip ?_ | refine T.exit ?_ | refine T.ret ?_ | refine T.rd rfl (by kernel_rfl) ?_ | refine J.bx rfl rfl rfl rfl rfl rfl ?_
    refine J.i rfl rfl rfl rfl rfl rfl rfl rfl rfl (r := cD x) (by omega) (row_at h hn) rfl ?_
    repeat' first | refine T.seq ?_ | refine T.block ?_ | refine T.r ?_ | refine J.e rfl rfl rfl rfl ?_ | refine J.nil ?_ | refine J.skip rfl rfl rfl ?_ | refine T.skip ?_ | refine T.exit ?_ | refine T.ret ?_ | refine T.rd rfl (by kernel_rfl) ?_ | refine J.bx rfl rfl rfl rfl rfl rfl ?_
    refine J.a rfl rfl rfl rfl rfl rfl rfl rfl rfl rfl rfl rfl rfl rfl rfl rfl rfl len_R (by show (0 + List.length _) * 16 ≤ _; simp; omega) ?_
    repeat' first | refine T.seq ?_ | refine T.block ?_ | refine T.r ?_ | refine J.e rfl rfl rfl rfl ?_ | refine J.nil ?_ | refine J.skip rfl rfl rfl ?_ | refine T.skip ?_ | refine T.exit ?_ | refine T.ret ?_ | refine T.rd rfl (by kernel_rfl) ?_ | refine J.bx rfl rfl rfl rfl rfl rfl ?_
    refine J.sub (Rel.flat (o := 2) rfl flat_R) ?_
    refine J.sub (Rel.frz (s := 18) (fun _ h => h) rfl rfl) ?_
    refine J.bv rfl rfl rfl rfl rfl rfl rfl rfl rfl rfl rfl rfl ?_
    repeat' first | refine T.seq ?_ | refine T.block ?_ | refine T.r ?_ | refine J.e rfl rfl rfl rfl ?_ | refine J.nil ?_ | refine J.skip rfl rfl rfl ?_ | refine T.skip ?_ | refine T.exit ?_ | refine T.ret ?_ | refine T.rd rfl (by kernel_rfl) ?_ | refine J.bx rfl rfl rfl rfl rfl rfl ?_
    refine J.aD rfl rfl rfl rfl rfl rfl rfl rfl rfl rfl rfl rfl rfl rfl rfl rfl rfl rfl rfl (by omega) ?_
    repeat' first | refine T.seq ?_ | refine T.block ?_ | refine T.r ?_ | refine J.e rfl rfl rfl rfl ?_ | refine J.nil ?_ | refine J.skip rfl rfl rfl ?_ | refine T.skip ?_ | refine T.exit ?_ | refine T.ret ?_ | refine T.rd rfl (by kernel_rfl) ?_ | refine J.bx rfl rfl rfl rfl rfl rfl ?_
    rw [wrap1 hlt (by omega)]
    exact T.canon (keep := [0, 3, 4]) (os := [3]) rfl ih
  · repeat' first | refine T.seq ?_ | refine T.block ?_ | refine T.r ?_ | refine J.e rfl rfl rfl rfl ?_ | refine J.nil ?_ | refine J.skip rfl rfl rfl ?_ | refine T.skip ?_ | refine T.exit ?_ | refine T.ret ?_ | refine T.rd rfl (by kernel_rfl) ?_ | refine J.bx rfl rfl rfl rfl rfl rfl ?_
    refine T.cf2 rfl lt_end ?_
    repeat' first | refine T.seq ?_ | refine T.block ?_ | refine T.r ?_ | refine J.e rfl rfl rfl rfl ?_ | refine J.nil ?_ | refine J.skip rfl rfl rfl ?_ | refine T.skip ?_ | refine T.exit ?_ | refine T.ret ?_ | refine T.rd rfl (by kernel_rfl) ?_ | refine J.bx rfl rfl rfl rfl rfl rfl ?_
    exact ⟨_, .o rfl rfl rfl (fun _ => .inl rfl) (by simp) .nil⟩

theorem sames_spec (a b : List (List (Int × Int))) (hl : a.length * 8 ≤ 140737488355328) (hx : ∀ x ∈ a, x.length * 8 ≤ 140737488355328) : Spec Try.prog 14 false [doms a, doms b] [.val (.bool (decide (a = b)))] := by
  refine Spec.body Try.func14 rfl rfl rfl fun w0 Z0 => ?_
  repeat' first | refine T.seq ?_ | refine T.block ?_ | refine T.r ?_ | refine J.e rfl rfl rfl rfl ?_ | refine J.nil ?_ | refine J.skip rfl rfl rfl ?_ | refine T.skip ?_ | refine T.exit ?_ | refine T.ret ?_ | refine T.rd rfl (by kernel_rfl) ?_ | refine J.bx rfl rfl rfl rfl rfl rfl ?_
  refine T.cd rfl (fun h => ?_) (fun h => ?_)
  · repeat' first | refine T.seq ?_ | refine T.block ?_ | refine T.r ?_ | refine J.e rfl rfl rfl rfl ?_ | refine J.nil ?_ | refine J.skip rfl rfl rfl ?_ | refine T.skip ?_ | refine T.exit ?_ | refine T.ret ?_ | refine T.rd rfl (by kernel_rfl) ?_ | refine J.bx rfl rfl rfl rfl rfl rfl ?_
    exact ⟨_, .v rfl rfl (by simp only [List.length_map] at h; rw [decide_eq_false]; intro e; subst e; exact h rfl) (fun _ => rfl) .nil⟩
  · have hlen : a.length = b.length := by simp only [List.length_map, ne_eq, Classical.not_not] at h; omega
    repeat' first | refine T.seq ?_ | refine T.block ?_ | refine T.r ?_ | refine J.e rfl rfl rfl rfl ?_ | refine J.nil ?_ | refine J.skip rfl rfl rfl ?_ | refine T.skip ?_ | refine T.exit ?_ | refine T.ret ?_ | refine T.rd rfl (by kernel_rfl) ?_ | refine J.bx rfl rfl rfl rfl rfl rfl ?_
    refine T.canon (keep := [0, 1, 5]) (os := []) rfl (T.ind (fun i : Nat => ⟨[(0, .val false (doms a)), (1, .val false (doms b)), (5, .val true (.int .i64 i))], [], 0⟩) (fun i => i ≤ a.length ∧ a.take i = b.take i) (fun i => a.length - i) 0 (by simp) (fun _ _ h => h) ?_)
    rintro i ⟨hi, ht⟩ ih
    repeat' first | refine T.seq ?_ | refine T.block ?_ | refine T.r ?_ | refine J.e rfl rfl rfl rfl ?_ | refine J.nil ?_ | refine J.skip rfl rfl rfl ?_ | refine T.skip ?_ | refine T.exit ?_ | refine T.ret ?_ | refine T.rd rfl (by kernel_rfl) ?_ | refine J.bx rfl rfl rfl rfl rfl rfl ?_
    refine T.cd rfl (fun h1 => ?_) (fun h1 => ?_)
    · simp at h1
      repeat' first | refine T.seq ?_ | refine T.block ?_ | refine T.r ?_ | refine J.e rfl rfl rfl rfl ?_ | refine J.nil ?_ | refine J.skip rfl rfl rfl ?_ | refine T.skip ?_ | refine T.exit ?_ | refine T.ret ?_ | refine T.rd rfl (by kernel_rfl) ?_ | refine J.bx rfl rfl rfl rfl rfl rfl ?_
      refine J.i rfl rfl rfl rfl rfl rfl rfl rfl rfl (r := cD a[i]) (by omega) (row_i h1) rfl ?_
      repeat' first | refine T.seq ?_ | refine T.block ?_ | refine T.r ?_ | refine J.e rfl rfl rfl rfl ?_ | refine J.nil ?_ | refine J.skip rfl rfl rfl ?_ | refine T.skip ?_ | refine T.exit ?_ | refine T.ret ?_ | refine T.rd rfl (by kernel_rfl) ?_ | refine J.bx rfl rfl rfl rfl rfl rfl ?_
      refine J.i rfl rfl rfl rfl rfl rfl rfl rfl rfl (r := cD b[i]) (by omega) (row_i (by omega)) rfl ?_
      repeat' first | refine T.seq ?_ | refine T.block ?_ | refine T.r ?_ | refine J.e rfl rfl rfl rfl ?_ | refine J.nil ?_ | refine J.skip rfl rfl rfl ?_ | refine T.skip ?_ | refine T.exit ?_ | refine T.ret ?_ | refine T.rd rfl (by kernel_rfl) ?_ | refine J.bx rfl rfl rfl rfl rfl rfl ?_
      refine J.cc rfl rfl rfl rfl rfl (same_spec a[i] b[i] (hx _ (by simp))) rfl rfl ?_
      repeat' first | refine T.seq ?_ | refine T.block ?_ | refine T.r ?_ | refine J.e rfl rfl rfl rfl ?_ | refine J.nil ?_ | refine J.skip rfl rfl rfl ?_ | refine T.skip ?_ | refine T.exit ?_ | refine T.ret ?_ | refine T.rd rfl (by kernel_rfl) ?_ | refine J.bx rfl rfl rfl rfl rfl rfl ?_
      refine T.cond rfl (fun h2 => ?_) (fun h2 => ?_)
      · repeat' first | refine T.seq ?_ | refine T.block ?_ | refine T.r ?_ | refine J.e rfl rfl rfl rfl ?_ | refine J.nil ?_ | refine J.skip rfl rfl rfl ?_ | refine T.skip ?_ | refine T.exit ?_ | refine T.ret ?_ | refine T.rd rfl (by kernel_rfl) ?_ | refine J.bx rfl rfl rfl rfl rfl rfl ?_
        exact ⟨_, .v rfl rfl (by rw [decide_eq_false]; intro e; subst e; simp at h2) (fun _ => rfl) .nil⟩
      · repeat' first | refine T.seq ?_ | refine T.block ?_ | refine T.r ?_ | refine J.e rfl rfl rfl rfl ?_ | refine J.nil ?_ | refine J.skip rfl rfl rfl ?_ | refine T.skip ?_ | refine T.exit ?_ | refine T.ret ?_ | refine T.rd rfl (by kernel_rfl) ?_ | refine J.bx rfl rfl rfl rfl rfl rfl ?_
        rw [wrap1 h1 (by omega)]
        exact T.canon (keep := [0, 1, 5]) (os := []) rfl (ih (i + 1) ⟨by omega, take_same ht h1 (by omega) (by simpa using h2)⟩ (by omega))
    · simp at h1
      repeat' first | refine T.seq ?_ | refine T.block ?_ | refine T.r ?_ | refine J.e rfl rfl rfl rfl ?_ | refine J.nil ?_ | refine J.skip rfl rfl rfl ?_ | refine T.skip ?_ | refine T.exit ?_ | refine T.ret ?_ | refine T.rd rfl (by kernel_rfl) ?_ | refine J.bx rfl rfl rfl rfl rfl rfl ?_
      refine ⟨_, .v rfl rfl ?_ (fun _ => rfl) .nil⟩
      rw [List.take_of_length_le (by omega), List.take_of_length_le (by omega)] at ht
      simp [ht]

/-- Each of the one within that of the other. -/
def withinR (a b : List (List (Int × Int))) : Bool := decide (a.length = b.length) && (a.zip b).all fun p => (pickR p.1 p.2 false).isEmpty
theorem withinR_iff (a b : List (List (Int × Int))) : withinR a b = true ↔ a.length = b.length ∧ ∀ (i : Nat) (x y : List (Int × Int)), a[i]? = some x → b[i]? = some y → pickR x y false = [] := by
  simp only [withinR, Bool.and_eq_true, decide_eq_true_eq, List.all_eq_true, List.isEmpty_iff]
  refine and_congr_right fun hl => ⟨fun h i x y hx hy => h (x, y) ?_, fun h p hp => ?_⟩
  · refine List.mem_of_getElem? (i := i) ?_
    rw [List.getElem?_zip_eq_some]
    exact ⟨hx, hy⟩
  · obtain ⟨i, hi⟩ := List.getElem?_of_mem hp
    rw [List.getElem?_zip_eq_some] at hi
    exact h i p.1 p.2 hi.1 hi.2
theorem clone_spec (d : List (Int × Int)) (hd : d.length * 16 ≤ 140737488355328) : Spec Try.prog 24 false [dm d] [.own 38 2 (d.map cR)] := by
  refine Spec.body Try.func24 rfl rfl rfl fun w0 Z0 => ?_
  repeat' first | refine T.seq ?_ | refine T.block ?_ | refine T.r ?_ | refine J.e rfl rfl rfl rfl ?_ | refine J.nil ?_ | refine J.skip rfl rfl rfl ?_ | refine T.skip ?_ | refine T.exit ?_ | refine T.ret ?_ | refine T.rd rfl (by kernel_rfl) ?_ | refine J.bx rfl rfl rfl rfl rfl rfl ?_
  refine J.nc rfl rfl rfl rfl rfl rfl rfl fun b hb => ?_
  repeat' first | refine T.seq ?_ | refine T.block ?_ | refine T.r ?_ | refine J.e rfl rfl rfl rfl ?_ | refine J.nil ?_ | refine J.skip rfl rfl rfl ?_ | refine T.skip ?_ | refine T.exit ?_ | refine T.ret ?_ | refine T.rd rfl (by kernel_rfl) ?_ | refine J.bx rfl rfl rfl rfl rfl rfl ?_
  cases b
  · refine T.cf rfl ?_
    repeat' first | refine T.seq ?_ | refine T.block ?_ | refine T.r ?_ | refine J.e rfl rfl rfl rfl ?_ | refine J.nil ?_ | refine J.skip rfl rfl rfl ?_ | refine T.skip ?_ | refine T.exit ?_ | refine T.ret ?_ | refine T.rd rfl (by kernel_rfl) ?_ | refine J.bx rfl rfl rfl rfl rfl rfl ?_
    refine J.bo rfl rfl rfl rfl rfl rfl rfl rfl rfl rfl rfl rfl ?_
    repeat' first | refine T.seq ?_ | refine T.block ?_ | refine T.r ?_ | refine J.e rfl rfl rfl rfl ?_ | refine J.nil ?_ | refine J.skip rfl rfl rfl ?_ | refine T.skip ?_ | refine T.exit ?_ | refine T.ret ?_ | refine T.rd rfl (by kernel_rfl) ?_ | refine J.bx rfl rfl rfl rfl rfl rfl ?_
    refine J.a rfl rfl rfl rfl rfl rfl rfl rfl rfl rfl rfl rfl rfl rfl rfl rfl rfl len_R (by show (0 + List.length _) * 16 ≤ _; simp; omega) ?_
    repeat' first | refine T.seq ?_ | refine T.block ?_ | refine T.r ?_ | refine J.e rfl rfl rfl rfl ?_ | refine J.nil ?_ | refine J.skip rfl rfl rfl ?_ | refine T.skip ?_ | refine T.exit ?_ | refine T.ret ?_ | refine T.rd rfl (by kernel_rfl) ?_ | refine J.bx rfl rfl rfl rfl rfl rfl ?_
    exact ⟨_, .o rfl rfl rfl (fun _ => .inr flat_R) (by simp) .nil⟩
  · have : d = [] := by simpa using hb rfl
    subst this
    refine T.ct rfl ?_
    repeat' first | refine T.seq ?_ | refine T.block ?_ | refine T.r ?_ | refine J.e rfl rfl rfl rfl ?_ | refine J.nil ?_ | refine J.skip rfl rfl rfl ?_ | refine T.skip ?_ | refine T.exit ?_ | refine T.ret ?_ | refine T.rd rfl (by kernel_rfl) ?_ | refine J.bx rfl rfl rfl rfl rfl rfl ?_
    exact ⟨_, .ownN rfl .nil⟩
end Go.Proofs.Ytdflkbmpbblcfaa
/-! Contracts: the program's domains; two lists in order. -/
namespace Go.Proofs.Ytdflkbmpbblcfaa
open Go Go.RowKit
set_option linter.unusedVariables false
set_option maxRecDepth 4000

def lastR (d : List (Int × Int)) : Int := match d.getLast? with
  | some r => r.2
  | none => 0
def leastR (d : List (Int × Int)) : Int := match d with
  | r :: _ => r.1
  | [] => 0
def meetF : Nat → List (Int × Int) → List (Int × Int) → List (Int × Int)
  | n + 1, x :: xs, y :: ys => (if max x.1 y.1 ≤ min x.2 y.2 then [(max x.1 y.1, min x.2 y.2)] else []) ++ (if x.2 < y.2 then meetF n xs (y :: ys) else meetF n (x :: xs) ys)
  | _, _, _ => []
def meetR (a b : List (Int × Int)) : List (Int × Int) := meetF (a.length + b.length) a b
theorem meetR_cons (x y : Int × Int) (xs ys : List (Int × Int)) : meetR (x :: xs) (y :: ys) = (if max x.1 y.1 ≤ min x.2 y.2 then [(max x.1 y.1, min x.2 y.2)] else []) ++ (if x.2 < y.2 then meetR xs (y :: ys) else meetR (x :: xs) ys) := by
  unfold meetR
  rw [show (x :: xs).length + (y :: ys).length = (xs.length + ys.length + 1) + 1 by simp; omega, meetF]
  rw [show xs.length + (y :: ys).length = xs.length + ys.length + 1 by simp; omega, show (x :: xs).length + ys.length = xs.length + ys.length + 1 by simp; omega]
theorem meetR_l (b : List (Int × Int)) : meetR [] b = [] := by
  unfold meetR; generalize ([] : List (Int × Int)).length + b.length = n
  cases n <;> rfl
theorem meetR_r (a : List (Int × Int)) : meetR a [] = [] := by
  unfold meetR; generalize a.length + ([] : List (Int × Int)).length = n
  cases n with
  | zero => rfl
  | succ n => cases a <;> rfl
def domCut (d : List (Int × Int)) (lo hi : Int) : List (Int × Int) := if hi < lo then [] else meetR d [(lo, hi)]
end Go.Proofs.Ytdflkbmpbblcfaa
