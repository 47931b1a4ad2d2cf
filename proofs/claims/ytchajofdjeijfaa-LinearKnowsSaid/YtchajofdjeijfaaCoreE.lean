/- Operations that make memory or call: what they do to a state; contracts. -/
import Derived.Test.YtchajofdjeijfaaCoreD
namespace Go.Proofs.Ytchajofdjeijfaa
open Go Go.RowKit
set_option linter.unusedVariables false
set_option linter.unusedSimpArgs false

/-- The owned things, and some more from number n on. -/
def addOwn (own : Nat → Option Own) (n : Nat) (adds : List Own) (o : Nat) : Option Own := if n ≤ o ∧ o < n + adds.length then adds[o - n]? else own o
def addU (U : Nat → Prop) (n : Nat) (adds : List Own) (o : Nat) : Prop := U o ∨ (n ≤ o ∧ o < n + adds.length)
def addφ (φ : Nat → Value) (n : Nat) (hs : List Value) (o : Nat) : Value := if n ≤ o ∧ o < n + hs.length then hs.getD (o - n) undef else φ o
def EnvF.add (V : EnvF) (n : Nat) (adds : List Own) : EnvF := ⟨V.slot, addOwn V.own n adds⟩

theorem RelW.add {K : Ctx} {V : EnvF} {U : Nat → Prop} {φ : Nat → Value} {a : Act} {w w' : World} (h : RelW K V U φ a w) (hb : Below w.heap.size w w') (n : Nat) (adds : List Own) (hs : List Value)
    (hn : ∀ o, n ≤ o → o < n + adds.length → ¬ U o) (hl : hs.length = adds.length)
    (each : ∀ (i : Nat) (c : Own) (v : Value), adds[i]? = some c → hs[i]? = some v → OwnRel w' (Zf K (V.add n adds) (addφ φ n hs)) v c ∧ ∀ g, vblock v = some g → w.heap.size ≤ g)
    (dis : ∀ (i j : Nat) (v v' : Value) (g : Nat), hs[i]? = some v → hs[j]? = some v' → vblock v = some g → vblock v' = some g → i = j) :
    RelW K (V.add n adds) (addU U n adds) (addφ φ n hs) a w' := by
  have hval : ∀ o c, addOwn V.own n adds o = some c → n ≤ o ∧ o < n + adds.length → adds[o - n]? = some c ∧ hs[o - n]? = some (addφ φ n hs o) := by
    intro o c ho hc
    simp only [addOwn, if_pos hc] at ho
    refine ⟨ho, ?_⟩
    have : o - n < hs.length := by omega
    simp only [addφ]
    rw [if_pos (by omega)]
    simp [List.getD, List.getElem?_eq_getElem this]
  refine h.step (fun _ => False) (fun o => n ≤ o ∧ o < n + adds.length) rfl (fun o ho => .inl ho) ?_ hb.os hb.tape hb.output hb.size (fun b hlt _ => hb.block b hlt)
    (fun _ _ hd => hd.elim) ?_ ?_ ?_
  · intro o ho
    simp only [addφ]
    rw [if_neg (fun hc => hn o hc.1 (by omega) ho)]
  · intro o c ho hc
    simp only [EnvF.add, addOwn] at ho
    rw [if_neg hc] at ho
    exact ho
  · intro o c ho hc
    obtain ⟨h1, h2⟩ := hval o c ho hc
    obtain ⟨h3, h4⟩ := each _ _ _ h1 h2
    exact ⟨.inr hc, h3, fun g hg => .inl (h4 g hg)⟩
  · intro o o' c c' g ho ho' hc hc' hv hv'
    obtain ⟨h1, h2⟩ := hval o c ho hc
    obtain ⟨h3, h4⟩ := hval o' c' ho' hc'
    have := dis _ _ _ _ g h2 h4 hv hv'
    omega

/-- A result of a call: frozen, or a slice that only the caller has. -/
inductive RV where
  | val (p : PV)
  | own (e : TypeId) (sz : Nat) (rows : List (List PV))

def RV1 (w : World) (Z : Nat → Prop) (v : Value) : RV → Prop
  | .val p => Rep w Z v p
  | .own e sz rows => OwnRel w (fun _ => Z) v (.sl e sz true rows)
def RV.isOwn : RV → Bool
  | .own .. => true
  | _ => false
def RV.owns (fr : Bool) : List RV → List Own
  | [] => []
  | .val _ :: rs => RV.owns fr rs
  | .own e sz rows :: rs => .sl e sz fr rows :: RV.owns fr rs
def RV.vals : List RV → List Value → List Value
  | .own .. :: rs, v :: vs => v :: RV.vals rs vs
  | .val _ :: rs, _ :: vs => RV.vals rs vs
  | _, _ => []
def RV.svs (fr : Bool) (n : Nat) : List RV → List SV
  | [] => []
  | .val p :: rs => mkv fr p :: RV.svs fr n rs
  | .own .. :: rs => .ref n :: RV.svs fr (n + 1) rs
def RV.one (fr : Bool) (n : Nat) (rs : List RV) : SV :=
  match RV.svs fr n rs with
  | [s] => s
  | l => .tup l

def retV : List Value → Value
  | [v] => v
  | vs => .tuple vs.toArray

/-- What is answered: each result; what is owned lies in blocks of its own, made since. -/
structure RetRel (w w' : World) (Zx : Nat → Prop) (vs : List Value) (rs : List RV) : Prop where
  each : L2 (RV1 w' (fun b => (Zx b ∨ w.heap.size ≤ b) ∧ ∀ v, v ∈ RV.vals rs vs → vblock v ≠ some b)) vs rs
  fresh : ∀ v g, v ∈ RV.vals rs vs → vblock v = some g → w.heap.size ≤ g
  dis : ∀ (i j : Nat) (v v' : Value) (g : Nat), (RV.vals rs vs)[i]? = some v → (RV.vals rs vs)[j]? = some v' → vblock v = some g → vblock v' = some g → i = j

/-- A CONTRACT: of arguments that read as 'args' function f answers 'res', and leaves what there was as it was. al: the answer may share memory with the arguments. -/
structure Spec (P : Program) (f : FuncId) (al : Bool) (args : List PV) (res : List RV) : Prop where
  isFn : ∃ fn, P.funcs[f]? = some fn ∧ fn.body.isSome = true ∧ (fn.name == "runtime.NumGoroutine") = false
  out : ∀ (w : World) (Z : Nat → Prop) (vs : List Value), L2 (Rep w Z) vs args → Calls P f vs.toArray w fun e w' =>
    ∃ rs : List Value, e = .returned (retV rs) ∧ Below w.heap.size w w' ∧ RetRel w w' (fun b => al = true ∧ Z b) rs res

def argPV (E : EnvF) (al : Bool) (x : Operand) : Option PV :=
  match E.get x with
  | some sv => match al with
    | true => match sv.ff with
      | some (_, p) => some p
      | none => none
    | false => E.pv sv
  | none => none
def argPVs (E : EnvF) (al : Bool) : List Operand → Option (List PV)
  | [] => some []
  | x :: xs => match argPV E al x, argPVs E al xs with
    | some p, some ps => some (p :: ps)
    | _, _ => none

/-- Rows out of the parts of a slice that is written out. -/
def rowsPV (E : EnvF) (sz : Nat) : Nat → List (Nat × Operand) → Option (Bool × List (List PV))
  | _, [] => some (true, [])
  | k, (i, x) :: rest => match Nat.beq i k, E.get x, rowsPV E sz (k + 1) rest with
    | true, some sv, some (f, rows) => match sv.ff with
      | some (fr, p) => match Nat.beq p.cells.length sz with
        | true => some (fr && f, p.cells :: rows)
        | false => none
      | none => none
    | _, _, _ => none

/-- What an operation does to a state: what its slot holds then, what is owned from number n on. -/
inductive Does (K : Ctx) (V : EnvF) (n : Nat) (o : Oper) : SV → List Own → Prop
  | ev {sv : SV} : ev K.P V o = some sv → Does K V n o sv []
  | idxf {t : TypeId} {x i : Operand} {sv : SV} {fr fi : Bool} {rows : List (List PV)} {r : List PV} {k : IntKind} {m : Int} {e : TypeId} {inf : TypeInfo} : o.op = .indexAddr t x i → V.get x = some sv → sv.ff = some (fr, .sl rows) →
      V.get i = some (.val fi (.int k m)) → K.P.underlying t = some (.slice e) → K.P.info? e = some inf → 0 ≤ m → rows[m.toNat]? = some r → r.length = inf.size → Does K V n o (.fptr fr r) []
  | idxo {t : TypeId} {x i : Operand} {q : Nat} {fr fi : Bool} {rows : List (List PV)} {k : IntKind} {m : Int} {e' e : TypeId} {sz : Nat} {inf : TypeInfo} : o.op = .indexAddr t x i → V.get x = some (.ref q) → V.own q = some (.sl e' sz fr rows) →
      V.get i = some (.val fi (.int k m)) → K.P.underlying t = some (.slice e) → K.P.info? e = some inf → 0 ≤ m → m.toNat < rows.length → inf.size = sz → Does K V n o (.optr q m.toNat 0 sz) []
  | slf {t : TypeId} {x : Operand} {lo hi : Option Operand} {sv : SV} {fr fl fh : Bool} {rows : List (List PV)} {e : TypeId} {inf : TypeInfo} {l h : Int} {kl kh : IntKind} : o.op = .slice t x lo hi none → V.get x = some sv → sv.ff = some (fr, .sl rows) →
      K.P.underlying t = some (.slice e) → K.P.info? e = some inf → (lo = none ∧ l = 0 ∨ ∃ y, lo = some y ∧ V.get y = some (.val fl (.int kl l))) → (hi = none ∧ h = rows.length ∨ ∃ y, hi = some y ∧ V.get y = some (.val fh (.int kh h))) →
      0 ≤ l → l ≤ h → h ≤ rows.length → (∀ r ∈ rows, r.length = inf.size) → Does K V n o (.val fr (.sl ((rows.take h.toNat).drop l.toNat))) []
  | box {t : TypeId} {x : Operand} {sv : SV} {fr : Bool} {p : PV} : o.op = .box t x → V.get x = some sv → sv.ff = some (fr, p) → Does K V n o (.optr n 0 0 0) [.box fr p.cells]
  | bsv {t e : TypeId} {len : Nat} {fr : Bool} {parts : Array (Nat × Operand)} {rows : List (List PV)} {inf : TypeInfo} {z : Value} : o.op = .buildSlice t len parts → K.P.underlying t = some (.slice e) → K.P.info? e = some inf → inf.zero = some z → z.cells.size = inf.size →
      rowsPV V inf.size 0 parts.toList = some (fr, rows) → rows.length = len → len * inf.size ≤ 2 ^ 24 → len ≤ 2 ^ 24 → Does K V n o (.val fr (.sl rows)) []
  | bso {t e : TypeId} {len : Nat} {fr : Bool} {parts : Array (Nat × Operand)} {rows : List (List PV)} {inf : TypeInfo} {z : Value} : o.op = .buildSlice t len parts → K.P.underlying t = some (.slice e) → K.P.info? e = some inf → inf.zero = some z → z.cells.size = inf.size →
      rowsPV V inf.size 0 parts.toList = some (fr, rows) → rows.length = len → len * inf.size ≤ 2 ^ 24 → len ≤ 2 ^ 24 → Does K V n o (.ref n) [.sl e inf.size fr rows]
  | call {x : Operand} {args : Array Operand} {tys : Array TypeId} {f : FuncId} {first caps ps : List PV} {al fx : Bool} {res : List RV} : o.op = .call { callee := .value x, args := args, argTypes := tys } →
      V.get x = some (.val fx (.fn (.func f) first caps)) → argPVs V al args.toList = some ps → Spec K.P f al (first ++ ps ++ caps) res → Does K V n o (RV.one (!al) n res) (RV.owns (!al) res)
  | alloc {t : TypeId} {ps : List PV} {inf : TypeInfo} {z : Value} : o.op = .alloc t → K.P.info? t = some inf → inf.zero = some z → zeroPVs z.cells.toList = some ps → Does K V n o (.optr n 0 0 0) [.box true ps]
  | gen {xs : List Operand} {l : List PV} {r : PV} : (∀ x ∈ xs, x ∈ o.op.operands) → fzList V xs = some l → (∀ (a : Act) (w : World), L2 (Rep w fun _ => True) (xs.map a.eval) l → ∃ z, (execOp a.eval o).run K.P w = .ok (.value z) w ∧ ∀ Z, Rep w Z z r) → Does K V n o (.val true r) []

section
variable {K : Ctx} {V : EnvF} {U : Nat → Prop} {φ : Nat → Value} {a : Act} {w : World}

theorem vals_length {rs : List RV} {vs : List Value} {R : Value → RV → Prop} (h : L2 R vs rs) (fr : Bool) : (RV.vals rs vs).length = (RV.owns fr rs).length := by
  induction h with
  | nil => rfl
  | @cons v r vs rs _ _ ih => cases r <;> simp [RV.vals, RV.owns, ih]

theorem owns_get {rs : List RV} {vs : List Value} {w : World} {Z : Bool → Nat → Prop} {fr : Bool} (h : L2 (RV1 w (Z fr)) vs rs) : L2 (OwnRel w Z) (RV.vals rs vs) (RV.owns fr rs) := by
  induction h with
  | nil => exact .nil
  | @cons v r vs rs h _ ih => cases r with
    | val p => exact ih
    | own e sz rows => exact .cons h ih

theorem pv_rep (h : RelW K V U φ a w) {x : Operand} {sv : SV} {p : PV} (hx : V.get x = some sv) (hp : V.pv sv = some p) : Rep w (fun _ => True) (a.eval x) p := by
  obtain ⟨hr, _⟩ := get_sound h hx
  cases sv with
  | val f q => simp only [EnvF.pv, Option.some.injEq] at hp; subst hp; exact Rep.mono (fun b _ _ => ⟨trivial, rfl⟩) hr
  | fix u q => simp only [EnvF.pv, Option.some.injEq] at hp; subst hp; exact Rep.mono (fun b _ _ => ⟨trivial, rfl⟩) hr.2
  | nilsl => simp only [EnvF.pv, Option.some.injEq] at hp; subst hp; simp only [SVRel, SVRel1] at hr; rw [hr]; exact .nilsl
  | ref o =>
    simp only [EnvF.pv] at hp
    split at hp
    · rename_i e sz fr rows ho
      obtain rfl := Option.some.inj hp
      simp only [SVRel, SVRel1] at hr
      rw [hr]
      obtain ⟨xs, hown, hl, h1, h2⟩ := h.own o _ ho
      have hl' : L2 (Rep w (fun _ => True)) xs rows.flatten := hl.imp fun _ _ hp => Rep.mono (fun b _ _ => ⟨trivial, rfl⟩) hp
      have hlt := hown.lt
      have hcell := fun g hg => hown.cells (g := g) hg
      rcases hown.2 with ⟨hv, hn⟩ | ⟨g, cap, cur, hv, _, hg, hnc, hcm, _⟩
      · rw [hv]
        have : rows = [] := List.eq_nil_of_length_eq_zero hn
        subst this
        exact .nilsl
      · rw [hv] at hcell hlt ⊢
        refine .sl g 0 cap sz rows xs trivial (hlt g rfl).2 h1 h2 (fun j v hj => ?_) hnc hcm hl'
        have := hcell g rfl j v hj
        rw [show (⟨g, 0, none⟩ : Addr).add j = ⟨g, 0 + j, none⟩ by unfold Addr.add; split <;> simp_all] at this
        exact soft_row hg this
    · cases hp
  | _ => simp [EnvF.pv] at hp

theorem args_sound (h : RelW K V U φ a w) {al : Bool} : ∀ (xs : List Operand) (ps : List PV), argPVs V al xs = some ps →
    L2 (Rep w (fun b => al = true → Zof K V φ b)) (xs.map a.eval) ps
  | [], ps, hp => by simp only [argPVs, Option.some.injEq] at hp; subst hp; exact .nil
  | x :: rest, ps, hp => by
    simp only [argPVs] at hp
    split at hp
    · rename_i p l hx hl
      obtain rfl := Option.some.inj hp
      refine .cons ?_ (args_sound h rest l hl)
      unfold argPV at hx
      split at hx
      · rename_i sv hg
        cases al with
        | true =>
          simp only at hx
          split at hx
          · rename_i fr q hff
            obtain rfl := Option.some.inj hx
            exact Rep.mono (fun b hb _ => ⟨fun _ => hb.1, rfl⟩) (ff_sound h hg hff)
          · cases hx
        | false => exact Rep.mono (fun b hb _ => ⟨fun e => by simp at e, rfl⟩) (pv_rep h hg hx)
      · cases hx
    · cases hp

theorem svs_sound {w : World} {Z : Bool → Nat → Prop} {U : Nat → Prop} {fr : Bool} : ∀ (rs : List RV) (vs : List Value) (n : Nat) (φ : Nat → Value), L2 (RV1 w (Z fr)) vs rs →
    (∀ (i : Nat) v, (RV.vals rs vs)[i]? = some v → φ (n + i) = v) → (∀ i, i < (RV.owns fr rs).length → U (n + i)) → L2 (SVRel1 w Z φ) vs (RV.svs fr n rs) ∧ ∀ s ∈ RV.svs fr n rs, s.in1 U
  | _, _, n, φ, .nil, _, _ => ⟨.nil, by simp [RV.svs]⟩
  | .val p :: rs, v :: vs, n, φ, .cons h hr, hφ, hU => by
    obtain ⟨h1, h2⟩ := svs_sound rs vs n φ hr hφ hU
    obtain ⟨h3, h4⟩ := mkv_sound (φ := φ) (U := U) (fr := fr) (Z := Z) h
    have hm : ∀ s : SV, SVRel w Z φ v s → (∀ l, s ≠ .tup l) → SVRel1 w Z φ v s := fun s hs hne => by cases s <;> first | exact hs | exact absurd rfl (hne _)
    have hm2 : ∀ s : SV, s.inU U → (∀ l, s ≠ .tup l) → s.in1 U := fun s hs hne => by cases s <;> first | exact hs | exact absurd rfl (hne _)
    have hne : ∀ l, mkv fr p ≠ .tup l := fun l => by cases p <;> simp [mkv]
    exact ⟨.cons (hm _ h3 hne) h1, fun s hs => by cases hs with
      | head => exact hm2 _ h4 hne
      | tail _ hs => exact h2 s hs⟩
  | .own e sz rows :: rs, v :: vs, n, φ, .cons h hr, hφ, hU => by
    obtain ⟨h1, h2⟩ := svs_sound rs vs (n + 1) φ hr (fun i u hi => by rw [Nat.add_assoc, Nat.add_comm 1 i]; exact hφ (i + 1) u (by simpa [RV.vals] using hi))
      (fun i hi => by rw [Nat.add_assoc, Nat.add_comm 1 i]; exact hU (i + 1) (by simpa [RV.owns] using hi))
    refine ⟨.cons ?_ h1, fun s hs => ?_⟩
    · exact (hφ 0 v (by simp [RV.vals])).symm
    · cases hs with
      | head => exact hU 0 (by simp [RV.owns])
      | tail _ hs => exact h2 s hs

theorem one_sound {w : World} {Z : Bool → Nat → Prop} {U : Nat → Prop} {fr : Bool} {φ : Nat → Value} {rs : List RV} {vs : List Value} {n : Nat} (h1 : L2 (SVRel1 w Z φ) vs (RV.svs fr n rs)) (h2 : ∀ s ∈ RV.svs fr n rs, s.in1 U) :
    SVRel w Z φ (retV vs) (RV.one fr n rs) ∧ (RV.one fr n rs).inU U := by
  unfold RV.one
  generalize RV.svs fr n rs = l at h1 h2
  cases h1 with
  | nil => exact ⟨⟨[], rfl, .nil⟩, h2⟩
  | @cons v s vs l h hr =>
    cases hr with
    | nil =>
      have h3 := h2 s (.head _)
      cases s with
      | tup l => exact h.elim
      | _ => exact ⟨h, h3⟩
    | cons h' hr' => exact ⟨⟨_, rfl, .cons h (.cons h' hr')⟩, h2⟩
end
end Go.Proofs.Ytchajofdjeijfaa
