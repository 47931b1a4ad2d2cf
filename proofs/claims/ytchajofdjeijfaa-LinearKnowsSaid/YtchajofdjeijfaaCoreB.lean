/- Operations that only compute or read, as a function on states, and its proof. -/
import Derived.Test.YtchajofdjeijfaaCoreA
namespace Go.Proofs.Ytchajofdjeijfaa
open Go Go.RowKit
set_option linter.unusedVariables false
set_option linter.unusedSimpArgs false

def cPV : Value → Option PV
  | .bool b => some (.bool b)
  | .int k n => some (.int k n)
  | .string s => some (.str s)
  | .pointer none => some .nilp
  | .nilFunc => some .nilf
  | _ => none
def cSV : Value → Option SV
  | .slice none 0 0 => some .nilsl
  | v => (cPV v).map (.val true)

def EnvF.get (E : EnvF) : Operand → Option SV
  | .tmp t => E.slot t
  | .const v => cSV v
  | .func f => some (.val true (.fn (.func f) [] []))
  | .global _ => none

/-- The pure value of a slot: owned slices are read. -/
def EnvF.pv (E : EnvF) : SV → Option PV
  | .val _ p => some p
  | .fix _ p => some p
  | .nilsl => some (.sl [])
  | .ref o => match E.own o with
    | some (.sl _ _ _ rows) => some (.sl rows)
    | _ => none
  | _ => none
/-- The pure value of a slot that holds a frozen one. -/
def SV.ff : SV → Option (Bool × PV)
  | .val fr p => some (fr, p)
  | .fix _ p => some (false, p)
  | .nilsl => some (true, .sl [])
  | _ => none
/-- What is no memory is as good as new. -/
def mkv (fr : Bool) (p : PV) : SV :=
  match p with
  | .bool b => .val true (.bool b)
  | .int k n => .val true (.int k n)
  | .str s => .val true (.str s)
  | .nilp => .val true .nilp
  | .nilf => .val true .nilf
  | p => .val fr p

def Own.at_ : Own → Nat → Nat → Nat → Option (Bool × List PV)
  | .sl _ sz fr rows, i, off, st => match Nat.beq sz st, rows[i]? with
    | true, some r => some (fr, r.drop off)
    | _, _ => none
  | .box fr row, i, off, st => match i with
    | 0 => some (fr, row.drop off)
    | _ => none

def EnvF.cellsAt (E : EnvF) : SV → Option (Bool × List PV)
  | .fptr fr cs => some (fr, cs)
  | .optr o i off st => (E.own o).bind fun c => c.at_ i off st
  | _ => none

def binPV (ud : Option TypeDesc) (op : BinOp) (p q : PV) : Option PV :=
  match p, q with
  | .int k a, .int k' b =>
    match op with
    | .shl => if b < 0 then none else some (.int k (k.wrap (a * 2 ^ (min b.toNat k.bits))))
    | .shr => if b < 0 then none else some (.int k (a.fdiv (2 ^ (min b.toNat k.bits))))
    | _ => if k = k' then (match op with
      | .add => some (.int k (k.wrap (a + b)))
      | .sub => some (.int k (k.wrap (a - b)))
      | .mul => some (.int k (k.wrap (a * b)))
      | .quo => if b = 0 then none else some (.int k (k.wrap (a.tdiv b)))
      | .rem => if b = 0 then none else some (.int k (a.tmod b))
      | .and => some (.int k (k.wrap (BitVec.ofInt k.bits a &&& BitVec.ofInt k.bits b).toNat))
      | .or => some (.int k (k.wrap (BitVec.ofInt k.bits a ||| BitVec.ofInt k.bits b).toNat))
      | .xor => some (.int k (k.wrap (BitVec.ofInt k.bits a ^^^ BitVec.ofInt k.bits b).toNat))
      | .andNot => some (.int k (k.wrap (BitVec.ofInt k.bits a &&& ~~~ BitVec.ofInt k.bits b).toNat))
      | .eql => some (.bool (decide (a = b)))
      | .neq => some (.bool (decide (a ≠ b)))
      | .lss => some (.bool (decide (a < b)))
      | .leq => some (.bool (decide (a ≤ b)))
      | .gtr => some (.bool (decide (a > b)))
      | .geq => some (.bool (decide (a ≥ b)))
      | _ => none) else none
  | .bool a, .bool b => match op, ud with
    | .eql, some .bool => some (.bool (a == b))
    | .neq, some .bool => some (.bool (!(a == b)))
    | _, _ => none
  | .str a, .str b => match op with
    | .eql => some (.bool (a.toList == b.toList))
    | .neq => some (.bool (!(a.toList == b.toList)))
    | _ => none
  | _, _ => none

def unPV (op : UnOp) (p : PV) : Option PV :=
  match op, p with
  | .neg, .int k n => some (.int k (k.wrap (0 - n)))
  | .not, .bool b => some (.bool (!b))
  | _, _ => none

def isAggD : TypeDesc → Bool
  | .struct _ | .array _ _ => true
  | _ => false

def loadPV (P : Program) (t : TypeId) (cs : List PV) : Option PV :=
  match P.underlying t, P.info? t with
  | some d, some i => match isAggD d with
    | true => match Nat.beq cs.length i.size with
      | true => some (.agg cs)
      | false => match Nat.ble i.size cs.length with
        | true => some (.agg (cs.take i.size))
        | false => none
    | false => match cs with
      | c :: _ => some c
      | [] => none
  | _, _ => none

def fieldOf (P : Program) (s : TypeId) (f : Nat) : Option Field :=
  match P.underlying s with
  | some (.struct fs) => fs[f]?
  | _ => none

/-- Cells put into cells. -/
def putCells : List PV → Nat → List PV → List PV
  | cs, _, [] => cs
  | cs, n, p :: ps => putCells (cs.set n p) (n + 1) ps

def placesOf (P : Program) (fs : Array Field) : Option (List (Nat × Nat)) := fs.toList.mapM (fun f => (P.info? f.type).map fun i => (f.offset, i.size))

def fillPV (pl : List (Nat × Nat)) (cs : List PV) : List (Nat × PV) → Option (List PV)
  | [] => some cs
  | (i, p) :: rest => match pl[i]? with
    | some (off, size) => match Nat.beq p.cells.length size, Nat.ble (off + p.cells.length) cs.length with
      | true, true => fillPV pl (putCells cs off p.cells) rest
      | _, _ => none
    | none => none

def zeroPVs : List Value → Option (List PV)
  | [] => some []
  | v :: vs => match (match v with | .slice none 0 0 => some (PV.sl []) | v => cPV v), zeroPVs vs with
    | some p, some ps => some (p :: ps)
    | _, _ => none

def partsPV (E : EnvF) : List (Nat × Operand) → Option (Bool × List (Nat × PV))
  | [] => some (true, [])
  | (i, x) :: rest => match E.get x, partsPV E rest with
    | some sv, some (f, l) => match sv.ff with
      | some (fr, p) => some (fr && f, (i, p) :: l)
      | none => none
    | _, _ => none

def buildPV (P : Program) (E : EnvF) (t : TypeId) (parts : List (Nat × Operand)) : Option (Bool × PV) :=
  match P.underlying t, P.info? t with
  | some (.struct fs), some i => match i.zero with
    | some z => match zeroPVs z.cells.toList, partsPV E parts with
      | some zs, some (f, ps) => match placesOf P fs with
        | some pl => match fillPV pl zs ps with
          | some cs => some (f, .agg cs)
          | none => none
        | none => none
      | _, _ => none
    | none => none
  | _, _ => none

def fzList (E : EnvF) : List Operand → Option (List PV)
  | [] => some []
  | x :: rest => match E.get x, fzList E rest with
    | some sv, some l => match sv.ff with
      | some (_, p) => some (p :: l)
      | none => none
    | _, _ => none

def lenPV : PV → Option PV
  | .sl rows => some (.int .i64 rows.length)
  | .str s => some (.int .i64 s.size)
  | _ => none

def ev (P : Program) (E : EnvF) (o : Oper) : Option SV :=
  match o.op with
  | .move x => E.get x
  | .assign x => E.get x
  | .pick c a b => match E.get c with
    | some (.val _ (.bool true)) => E.get a
    | some (.val _ (.bool false)) => E.get b
    | _ => none
  | .binOp op t x y _ => match E.get x, E.get y with
    | some (.val _ p), some (.val _ q) => (binPV (P.underlying t) op p q).map (.val true)
    | _, _ => none
  | .unOp op _ x => match E.get x with
    | some (.val _ p) => (unPV op p).map (.val true)
    | _ => none
  | .load t x => match E.get x with
    | some sv => match E.cellsAt sv with
      | some (fr, cs) => (loadPV P t cs).map (mkv fr)
      | none => none
    | none => none
  | .fieldAddr s x f => match fieldOf P s f with
    | some fd => match P.info? fd.type with
      | some i => match Nat.beq i.size 0, E.get x with
        | false, some (.fptr fr cs) => match Nat.ble fd.offset cs.length with
          | true => some (.fptr fr (cs.drop fd.offset))
          | false => none
        | false, some (.optr o i off st) => some (.optr o i (off + fd.offset) st)
        | _, _ => none
      | none => none
    | none => none
  | .field s x f => match fieldOf P s f with
    | some fd => match E.get x with
      | some (.val fr (.agg cs)) => match P.underlying fd.type, P.info? fd.type with
        | some d, some i => match isAggD d with
          | true => match Nat.ble (fd.offset + i.size) cs.length with
            | true => some (.val fr (.agg ((cs.drop fd.offset).take i.size)))
            | false => none
          | false => (cs[fd.offset]?).map (mkv fr)
        | _, _ => none
      | _ => none
    | none => none
  | .extract x i => match E.get x with
    | some (.tup l) => l[i]?
    | _ => none
  | .build t parts => (buildPV P E t parts.toList).map fun x => .val x.1 x.2
  | .makeFunc fn first caps => match fzList E first.toList, fzList E caps.toList with
    | some l, some m => some (.val false (.fn fn l m))
    | _, _ => none
  | .convert src dst x => match E.get x with
    | some (.val _ (.int _ n)) => match P.underlying src, P.underlying dst with
      | some (.int _), some (.int k) => some (.val true (.int k (k.wrap n)))
      | _, _ => none
    | _ => none
  | .call { callee := .builtin .len, args, argTypes } => match args.toList, argTypes.toList with
    | [x], [t] => match E.get x with
      | some sv => match P.underlying t with
        | some (.slice _) => match E.pv sv with
          | some (.sl rows) => some (.val true (.int .i64 rows.length))
          | _ => none
        | some .string => match sv with
          | .val _ (.str s) => some (.val true (.int .i64 s.size))
          | _ => none
        | _ => none
      | none => none
    | _, _ => none
  | .call { callee := .builtin .max, args, argTypes := _ } => match args.toList with
    | [x, y] => match E.get x, E.get y with
      | some (.val _ (.int k a)), some (.val _ (.int _ b)) => some (.val true (.int k (max a b)))
      | _, _ => none
    | _ => none
  | .call { callee := .builtin .min, args, argTypes := _ } => match args.toList with
    | [x, y] => match E.get x, E.get y with
      | some (.val _ (.int k a)), some (.val _ (.int _ b)) => some (.val true (.int k (min a b)))
      | _, _ => none
    | _ => none
  | _ => none

section
variable {K : Ctx} {E : EnvF} {U : Nat → Prop} {φ : Nat → Value} {a : Act} {w : World}

theorem cPV_rep {Z : Nat → Prop} {v : Value} {p : PV} (h : cPV v = some p) : Rep w Z v p := by
  unfold cPV at h
  split at h <;> first | (cases h; done) | (obtain rfl := Option.some.inj h; first | exact .bool _ | exact .int _ _ | exact .str _ | exact .nilp | exact .nilf)

theorem get_sound (h : RelW K E U φ a w) {x : Operand} {sv : SV} (hx : E.get x = some sv) : SVRel w (Zf K E φ) φ (a.eval x) sv ∧ sv.inU U := by
  cases x with
  | tmp t => exact ⟨h.get hx, h.sin t sv hx⟩
  | const v =>
    simp only [EnvF.get, cSV] at hx
    split at hx
    · obtain rfl := Option.some.inj hx
      exact ⟨rfl, trivial⟩
    · simp only [Option.map_eq_some_iff] at hx
      obtain ⟨p, hp, rfl⟩ := hx
      exact ⟨cPV_rep hp, trivial⟩
  | global g => simp [EnvF.get] at hx
  | func f =>
    simp only [EnvF.get, Option.some.injEq] at hx
    subst hx
    exact ⟨Rep.fn (.func f) [] [] [] [] .nil .nil, trivial⟩

theorem ff_sound (h : RelW K E U φ a w) {x : Operand} {sv : SV} {fr : Bool} {p : PV} (hx : E.get x = some sv) (hp : sv.ff = some (fr, p)) : Rep w (Zf K E φ fr) (a.eval x) p := by
  obtain ⟨hr, _⟩ := get_sound h hx
  cases sv with
  | val f q => simp only [SV.ff, Option.some.injEq, Prod.mk.injEq] at hp; obtain ⟨rfl, rfl⟩ := hp; exact hr
  | fix u q => simp only [SV.ff, Option.some.injEq, Prod.mk.injEq] at hp; obtain ⟨rfl, rfl⟩ := hp; exact hr.2
  | nilsl => simp only [SV.ff, Option.some.injEq, Prod.mk.injEq] at hp; obtain ⟨rfl, rfl⟩ := hp; simp only [SVRel, SVRel1] at hr; rw [hr]; exact .nilsl
  | _ => simp [SV.ff] at hp

theorem mkv_sound {Z : Bool → Nat → Prop} {fr : Bool} {v : Value} {p : PV} (h : Rep w (Z fr) v p) : SVRel w Z φ v (mkv fr p) ∧ (mkv fr p).inU U := by
  cases h with
  | bool b => exact ⟨Rep.bool b, trivial⟩
  | int k n => exact ⟨Rep.int k n, trivial⟩
  | str s => exact ⟨Rep.str s, trivial⟩
  | nilp => exact ⟨Rep.nilp, trivial⟩
  | nilf => exact ⟨Rep.nilf, trivial⟩
  | agg vs cs h1 h2 => exact ⟨Rep.agg vs cs h1 h2, trivial⟩
  | nilsl => exact ⟨Rep.nilsl, trivial⟩
  | slE a cap hc => exact ⟨Rep.slE a cap hc, trivial⟩
  | sl b off cap sz rows xs h1 h2 h3 h4 h5 h6 h7 h8 => exact ⟨Rep.sl b off cap sz rows xs h1 h2 h3 h4 h5 h6 h7 h8, trivial⟩
  | fn f vs us first caps h1 h2 => exact ⟨Rep.fn f vs us first caps h1 h2, trivial⟩

theorem flatten_get {rows : List (List PV)} {sz : Nat} (hl : ∀ r ∈ rows, r.length = sz) {i : Nat} {r : List PV} (hi : rows[i]? = some r) (j : Nat) (hj : j < sz) :
    rows.flatten[i * sz + j]? = r[j]? := by
  induction rows generalizing i with
  | nil => simp at hi
  | cons r0 rows ih =>
    have h0 : r0.length = sz := hl r0 (.head _)
    cases i with
    | zero =>
      simp at hi; subst hi
      rw [List.flatten_cons, Nat.zero_mul, Nat.zero_add, List.getElem?_append_left (by omega)]
    | succ i =>
      simp at hi
      have e : (i + 1) * sz + j = r0.length + (i * sz + j) := by rw [h0, Nat.add_mul]; omega
      rw [List.flatten_cons, e, List.getElem?_append_right (by omega), Nat.add_sub_cancel_left]
      exact ih (fun r hr => hl r (.tail _ hr)) hi

theorem flatten_drop {rows : List (List PV)} {sz : Nat} (hl : ∀ r ∈ rows, r.length = sz) {i : Nat} {r : List PV} (hi : rows[i]? = some r) :
    ∃ rest, rows.flatten.drop (i * sz) = r ++ rest := by
  induction rows generalizing i with
  | nil => simp at hi
  | cons r0 rows ih =>
    have h0 : r0.length = sz := hl r0 (.head _)
    cases i with
    | zero => simp at hi; subst hi; exact ⟨rows.flatten, by simp⟩
    | succ i =>
      simp at hi
      obtain ⟨rest, hr⟩ := ih (fun r hr => hl r (.tail _ hr)) hi
      refine ⟨rest, ?_⟩
      have e : (i + 1) * sz = r0.length + i * sz := by rw [h0, Nat.add_mul]; omega
      rw [List.flatten_cons, e, List.drop_append, List.drop_eq_nil_of_le (by omega), List.nil_append, Nat.add_sub_cancel_left]
      exact hr

/-- A pointer to cells that are read. -/
def Cells (w : World) (Z : Nat → Prop) (v : Value) (cells : List PV) : Prop :=
  ∃ b o xs, v = .pointer (some ⟨b, o, none⟩) ∧ b < w.heap.size ∧ L2 (Rep w Z) xs cells ∧ (∀ p ∈ cells, p.one = true) ∧ ∀ j x, xs[j]? = some x → w.cell? ⟨b, o + j, none⟩ = some x

theorem Cells.drop {Z : Nat → Prop} {b o : Nat} {xs : List Value} {cells : List PV} (hb : b < w.heap.size) (hr : L2 (Rep w Z) xs cells) (h1 : ∀ p ∈ cells, p.one = true)
    (hc : ∀ j x, xs[j]? = some x → w.cell? ⟨b, o + j, none⟩ = some x) (n : Nat) : Cells w Z (.pointer (some ⟨b, o + n, none⟩)) (cells.drop n) :=
  ⟨b, o + n, xs.drop n, rfl, hb, hr.drop n, fun p hp => h1 p (List.mem_of_mem_drop hp), fun j x hj => by
    rw [Nat.add_assoc]; exact hc (n + j) x (by simpa using hj)⟩

theorem own_cells {Z : Bool → Nat → Prop} {v : Value} {c : Own} (h : OwnRel w Z v c) {i off st : Nat} {fr : Bool} {cells : List PV} (hc : c.at_ i off st = some (fr, cells)) {g : Nat} (hg : vblock v = some g) :
    Cells w (Z fr) (.pointer (some ⟨g, i * st + off, none⟩)) cells := by
  cases c with
  | sl e sz fr' rows =>
    obtain ⟨xs, ho, hr, hl, h1⟩ := h
    simp only [Own.at_] at hc
    split at hc
    · rename_i r hsz hi
      obtain rfl := Nat.eq_of_beq_eq_true hsz
      simp only [Option.some.injEq, Prod.mk.injEq] at hc
      obtain ⟨rfl, rfl⟩ := hc
      rw [vblock_own (g := g) ho] at hg
      have hcell := ho.cells hg
      obtain ⟨rest, hrest⟩ := flatten_drop hl hi
      have hd := hr.drop (i * sz)
      rw [hrest] at hd
      have hd2 := hd.take r.length
      rw [List.take_left] at hd2
      refine Cells.drop (xs := (xs.drop (i * sz)).take r.length) (ho.lt g hg).2 hd2 (h1 r (List.mem_of_getElem? hi)) (fun j x hj => ?_) off
      have hj2 : (xs.drop (i * sz))[j]? = some x := by
        rw [List.getElem?_take] at hj
        split at hj
        · exact hj
        · cases hj
      have := hcell (i * sz + j) x (by simpa using hj2)
      rw [show (⟨g, 0, none⟩ : Addr).add (i * sz + j) = ⟨g, i * sz + j, none⟩ by unfold Addr.add; split <;> simp_all] at this
      exact this
    · cases hc
  | box fr' row =>
    obtain ⟨g', t, cur, rfl, hh, hr, h1⟩ := h
    simp only [Own.at_] at hc
    split at hc
    · simp only [Option.some.injEq, Prod.mk.injEq] at hc
      obtain ⟨rfl, rfl⟩ := hc
      simp only [vblock, Option.some.injEq] at hg
      subst hg
      refine Cells.drop (o := 0 * st) (Array.getElem?_eq_some_iff.1 hh).1 hr h1 (fun j x hj => ?_) off
      rw [Nat.zero_mul, Nat.zero_add, cell_of_row w g' j cur t (0, 0) hh]
      simpa using hj
    · cases hc

theorem cellsAt_sound (h : RelW K E U φ a w) {x : Operand} {sv : SV} {fr : Bool} {cells : List PV} (hx : E.get x = some sv) (hc : E.cellsAt sv = some (fr, cells)) : Cells w (Zf K E φ fr) (a.eval x) cells := by
  obtain ⟨hr, _⟩ := get_sound h hx
  cases sv with
  | fptr f cs =>
    simp only [EnvF.cellsAt, Option.some.injEq, Prod.mk.injEq] at hc
    obtain ⟨rfl, rfl⟩ := hc
    obtain ⟨b, o, xs, hv, _, hlt, h2, h1, h3⟩ := hr
    exact ⟨b, o, xs, hv, hlt, h2, h1, fun j x hj => (h3 j x hj).1⟩
  | optr o i off st =>
    simp only [EnvF.cellsAt, Option.bind_eq_some_iff] at hc
    obtain ⟨c, ho, hat⟩ := hc
    obtain ⟨g, hg, hv⟩ := hr
    rw [hv]
    exact own_cells (h.own o c ho) hat hg
  | _ => simp [EnvF.cellsAt] at hc

theorem run_isAgg {P : Program} {t : TypeId} {d : TypeDesc} (h : P.underlying t = some d) (w : World) : (isAgg t).run P w = .ok (isAggD d) w := by
  unfold isAgg
  rw [Sem.run_bind, run_underlying h w]
  cases d <;> simp [isAggD]

theorem run_sizeOf' {P : Program} {t : TypeId} {i : TypeInfo} (h : P.info? t = some i) (w : World) : (sizeOf t).run P w = .ok i.size w := by
  simp [sizeOf, typeInfo, h]

theorem load_sound {P : Program} {Z : Nat → Prop} {v : Value} {cells : List PV} (h : Cells w Z v cells) {t : TypeId} {p : PV} (hp : loadPV P t cells = some p) :
    ∃ u, (Instr.loadAt t v).run P w = .ok u w ∧ Rep w Z u p := by
  obtain ⟨b, o, xs, rfl, hlt, hr, h1, hc⟩ := h
  simp only [loadPV] at hp
  split at hp
  · rename_i d i hd hi
    have hadd : ∀ j, (⟨b, o, none⟩ : Addr).add j = ⟨b, o + j, none⟩ := by intro j; unfold Addr.add; split <;> simp_all
    have hcells : ∀ n, n ≤ cells.length → (loadCells ⟨b, o, none⟩ n).run P w = .ok (xs.take n).toArray w := by
      intro n hn
      have := run_loadCells_list (P := P) w ⟨b, o, none⟩ (xs.take n) (fun j u hj => by
        rw [hadd]
        refine hc j u ?_
        rw [List.getElem?_take] at hj
        split at hj
        · exact hj
        · cases hj)
      rwa [List.length_take, hr.length, Nat.min_eq_left hn] at this
    have hagg := run_isAgg hd w
    have hsz := run_sizeOf' hi w
    split at hp
    · rename_i hag
      have hrun : ∀ n, n ≤ cells.length → i.size = n → (Instr.loadAt t (.pointer (some ⟨b, o, none⟩))).run P w = .ok (.agg (xs.take n).toArray) w := by
        intro n hn hin
        subst hin
        simp [Instr.loadAt, Instr.sureAddr, loadVar, hagg, hag, hsz, hcells _ hn]
      split at hp
      · rename_i hlen
        obtain rfl := Option.some.inj hp
        refine ⟨_, hrun cells.length (Nat.le_refl _) (Nat.eq_of_beq_eq_true hlen).symm, ?_⟩
        rw [← hr.length, List.take_length]
        exact .agg _ _ hr h1
      · split at hp
        · rename_i hle
          obtain rfl := Option.some.inj hp
          exact ⟨_, hrun i.size (Nat.le_of_ble_eq_true hle) rfl, .agg _ _ (hr.take _) fun p hp => h1 p (List.mem_of_mem_take hp)⟩
        · cases hp
    · rename_i hag
      split at hp
      · rename_i c rest
        obtain rfl := Option.some.inj hp
        cases hr with
        | cons hx _ =>
          have hcell := hc 0 _ (by simp; rfl)
          simp only [Nat.add_zero] at hcell
          refine ⟨_, ?_, hx⟩
          simp [Instr.loadAt, Instr.sureAddr, loadVar, hagg, hag, hcell]
      · cases hp
  · cases hp

theorem pv_sl (h : RelW K E U φ a w) {x : Operand} {sv : SV} {rows : List (List PV)} (hx : E.get x = some sv) (hp : E.pv sv = some (.sl rows)) :
    ∃ base cap, a.eval x = .slice base rows.length cap := by
  obtain ⟨hr, _⟩ := get_sound h hx
  generalize a.eval x = v at hr ⊢
  cases sv with
  | val f p =>
    simp only [EnvF.pv, Option.some.injEq] at hp
    subst hp
    cases hr with
    | nilsl => exact ⟨none, 0, rfl⟩
    | slE a cap hc => exact ⟨_, _, rfl⟩
    | sl b off cap sz rows xs _ _ _ _ _ _ _ _ => exact ⟨_, _, rfl⟩
  | fix u p =>
    simp only [EnvF.pv, Option.some.injEq] at hp
    subst hp
    obtain ⟨_, hr⟩ := hr
    cases hr with
    | nilsl => exact ⟨none, 0, rfl⟩
    | slE a cap hc => exact ⟨_, _, rfl⟩
    | sl b off cap sz rows xs _ _ _ _ _ _ _ _ => exact ⟨_, _, rfl⟩
  | nilsl => simp only [EnvF.pv, Option.some.injEq, PV.sl.injEq] at hp; subst hp; exact ⟨none, 0, hr⟩
  | ref o =>
    simp only [EnvF.pv] at hp
    split at hp
    · rename_i e sz fr rows' ho
      simp only [Option.some.injEq, PV.sl.injEq] at hp
      subst hp
      obtain ⟨xs, hown, _⟩ := h.own o _ ho
      simp only [SVRel, SVRel1] at hr
      rw [hr]
      rcases hown.2 with ⟨hv, hn⟩ | ⟨g, cap, cur, hv, _⟩
      · exact ⟨none, 0, by rw [hv, hn]⟩
      · exact ⟨_, _, hv⟩
    · cases hp
  | _ => simp [EnvF.pv] at hp
end
end Go.Proofs.Ytchajofdjeijfaa
