/- Pure values, how memory represents them, what a call owns: the words of the logic by which the functions of this seat are proved. -/
import Derived.Orders
import Derived.Laws.AppendOwn
import Derived.Laws.Slices
import Derived.Below
import Derived.KernelRfl
import Derived.Tactics
namespace Go.Proofs.Ytchajofdjeijfaa
open Go Go.RowKit
set_option linter.unusedVariables false

/-- Two lists, pair by pair. -/
inductive L2 {α β : Type} (R : α → β → Prop) : List α → List β → Prop
  | nil : L2 R [] []
  | cons {a b as bs} : R a b → L2 R as bs → L2 R (a :: as) (b :: bs)

namespace L2
variable {α β : Type} {R R' : α → β → Prop}
theorem length {as : List α} {bs : List β} (h : L2 R as bs) : as.length = bs.length := by
  induction h with
  | nil => rfl
  | cons _ _ ih => simp [ih]
theorem imp {as : List α} {bs : List β} (h : L2 R as bs) (hi : ∀ a b, R a b → R' a b) : L2 R' as bs := by
  induction h with
  | nil => exact .nil
  | cons h _ ih => exact .cons (hi _ _ h) ih
theorem get {as : List α} {bs : List β} (h : L2 R as bs) {i : Nat} {b : β} (hb : bs[i]? = some b) : ∃ a, as[i]? = some a ∧ R a b := by
  induction h generalizing i with
  | nil => simp at hb
  | cons h _ ih =>
    cases i with
    | zero => simp at hb; subst hb; exact ⟨_, by simp, h⟩
    | succ i => simp at hb; simpa using ih hb
theorem getl {as : List α} {bs : List β} (h : L2 R as bs) {i : Nat} {a : α} (ha : as[i]? = some a) : ∃ b, bs[i]? = some b ∧ R a b := by
  induction h generalizing i with
  | nil => simp at ha
  | cons h _ ih =>
    cases i with
    | zero => simp at ha; subst ha; exact ⟨_, by simp, h⟩
    | succ i => simp at ha; simpa using ih ha
theorem append {as as' : List α} {bs bs' : List β} (h : L2 R as bs) (k : L2 R as' bs') : L2 R (as ++ as') (bs ++ bs') := by
  induction h with
  | nil => exact k
  | cons h _ ih => exact .cons h ih
theorem take {as : List α} {bs : List β} (h : L2 R as bs) (n : Nat) : L2 R (as.take n) (bs.take n) := by
  induction h generalizing n with
  | nil => simpa using L2.nil
  | cons h _ ih => cases n with
    | zero => exact .nil
    | succ n => exact .cons h (ih n)
theorem drop {as : List α} {bs : List β} (h : L2 R as bs) (n : Nat) : L2 R (as.drop n) (bs.drop n) := by
  induction h generalizing n with
  | nil => simpa using L2.nil
  | cons h k ih => cases n with
    | zero => exact .cons h k
    | succ n => exact ih n
theorem set {as : List α} {bs : List β} (h : L2 R as bs) (n : Nat) {a : α} {b : β} (hr : R a b) : L2 R (as.set n a) (bs.set n b) := by
  induction h generalizing n with
  | nil => simpa using L2.nil
  | cons h k ih => cases n with
    | zero => exact .cons hr k
    | succ n => exact .cons h (ih n)
theorem mem {as : List α} {bs : List β} (h : L2 R as bs) {a : α} (ha : a ∈ as) : ∃ b, b ∈ bs ∧ R a b := by
  induction h with
  | nil => cases ha
  | cons h _ ih =>
    cases ha with
    | head => exact ⟨_, .head _, h⟩
    | tail _ ha => obtain ⟨b, hb, hr⟩ := ih ha; exact ⟨b, .tail _ hb, hr⟩
end L2

/-- Pure values. -/
inductive PV where
  | bool (b : Bool)
  | int (k : IntKind) (n : Int)
  | str (s : ByteArray)
  | agg (cs : List PV)
  | sl (rows : List (List PV))
  | fn (f : Fn) (first caps : List PV)
  | nilp
  | nilf

def PV.one : PV → Bool
  | .agg _ => false
  | _ => true
/-- The cells of a value. -/
def PV.cells : PV → List PV
  | .agg cs => cs
  | p => [p]

/-- A cell that holds v, and may be written. -/
def Soft (w : World) (a : Addr) (v : Value) : Prop := w.cell? a = some v ∧ w.frozen? a = false
/-- What memory must hold for a value to be read as a pure one; only blocks in Z are looked at. -/
inductive Rep (w : World) (Z : Nat → Prop) : Value → PV → Prop
  | bool (b) : Rep w Z (.bool b) (.bool b)
  | int (k n) : Rep w Z (.int k n) (.int k n)
  | str (s) : Rep w Z (.string s) (.str s)
  | agg (vs : List Value) (cs : List PV) : L2 (Rep w Z) vs cs → (∀ p ∈ cs, p.one = true) → Rep w Z (.agg vs.toArray) (.agg cs)
  | nilsl : Rep w Z (.slice none 0 0) (.sl [])
  | slE (a : Addr) (cap : Nat) : cap ≤ maxLen → Rep w Z (.slice (some a) 0 cap) (.sl [])
  | sl (b off cap sz : Nat) (rows : List (List PV)) (xs : List Value) : Z b → b < w.heap.size → (∀ r ∈ rows, r.length = sz) → (∀ r ∈ rows, ∀ p ∈ r, p.one = true) →
      (∀ j v, xs[j]? = some v → Soft w ⟨b, off + j, none⟩ v) → rows.length ≤ cap → cap ≤ maxLen → L2 (Rep w Z) xs rows.flatten →
      Rep w Z (.slice (some ⟨b, off, none⟩) rows.length cap) (.sl rows)
  | fn (f : Fn) (vs us : List Value) (first caps : List PV) : L2 (Rep w Z) vs first → L2 (Rep w Z) us caps → Rep w Z (.func f vs.toArray us.toArray) (.fn f first caps)
  | nilp : Rep w Z (.pointer none) .nilp
  | nilf : Rep w Z .nilFunc .nilf

theorem cell?_keep {w w' : World} {a : Addr} (h : w'.heap[a.block]? = w.heap[a.block]?) : w'.cell? a = w.cell? a := World.cell?_of_block h

theorem Soft.keep {w w' : World} {a : Addr} {v : Value} (h : w'.heap[a.block]? = w.heap[a.block]?) (hs : Soft w a v) : Soft w' a v := ⟨by rw [cell?_keep (w := w) h]; exact hs.1, by unfold World.frozen?; rw [h]; exact hs.2⟩
theorem soft_row {w : World} {b o : Nat} {v : Value} {cur : Array Value} {t : TypeId} (h : w.heap[b]? = some (.cells cur t (0, 0))) (hc : w.cell? ⟨b, o, none⟩ = some v) : Soft w ⟨b, o, none⟩ v := ⟨hc, by unfold World.frozen?; simp [h]⟩
theorem lt_keep {w w' : World} {b : Nat} (hb : b < w.heap.size) (h : w'.heap[b]? = w.heap[b]?) : b < w'.heap.size := by
  have : w.heap[b]? = some w.heap[b] := Array.getElem?_eq_getElem hb
  rw [this] at h
  exact (Array.getElem?_eq_some_iff.1 h).1

section
variable {w w' : World} {Z Z' : Nat → Prop}
theorem Rep.mono (h : ∀ b, Z b → b < w.heap.size → Z' b ∧ w'.heap[b]? = w.heap[b]?) {v : Value} {p : PV} (hr : Rep w Z v p) : Rep w' Z' v p := by
  refine Rep.rec (motive_1 := fun v p _ => Rep w' Z' v p) (motive_2 := fun vs ps _ => L2 (Rep w' Z') vs ps) ?_ ?_ ?_ ?_ ?_ ?_ ?_ ?_ ?_ ?_ ?_ ?_ hr
  · exact fun b => .bool b
  · exact fun k n => .int k n
  · exact fun s => .str s
  · exact fun vs cs _ h1 ih => .agg vs cs ih h1
  · exact .nilsl
  · exact fun a cap hc => .slE a cap hc
  · intro b off cap sz rows xs hz hb h1 h2 h3 h4 h5 _ ih
    obtain ⟨hz', he⟩ := h b hz hb
    exact .sl b off cap sz rows xs hz' (lt_keep hb he) h1 h2 (fun j v hj => (h3 j v hj).keep he) h4 h5 ih
  · exact fun f vs us first caps _ _ ih1 ih2 => .fn f vs us first caps ih1 ih2
  · exact .nilp
  · exact .nilf
  · exact .nil
  · exact fun _ _ ih1 ih2 => .cons ih1 ih2
theorem Rep.monoL (h : ∀ b, Z b → b < w.heap.size → Z' b ∧ w'.heap[b]? = w.heap[b]?) {vs : List Value} {ps : List PV} (hr : L2 (Rep w Z) vs ps) : L2 (Rep w' Z') vs ps :=
  hr.imp fun _ _ hp => hp.mono h
theorem Rep.one {v : Value} {p : PV} (hr : Rep w Z v p) (h : p.one = true) : v.oneCell' = true := by
  cases hr <;> first | rfl | (simp [PV.one] at h)
theorem Rep.cells {v : Value} {p : PV} (hr : Rep w Z v p) : L2 (Rep w Z) v.cells.toList p.cells := by
  cases hr with
  | agg vs cs h _ => simpa [Value.cells, PV.cells] using h
  | _ => exact .cons (by first | exact .bool _ | exact .int _ _ | exact .str _ | exact .nilsl | (apply Rep.slE; assumption) | (apply Rep.sl <;> assumption) | (apply Rep.fn <;> assumption) | exact .nilp | exact .nilf) .nil
theorem Rep.cells_one {v : Value} {p : PV} (hr : Rep w Z v p) : ∀ q ∈ p.cells, q.one = true := by
  cases hr with
  | agg vs cs h h1 => simpa [PV.cells] using h1
  | _ => simp [PV.cells, PV.one]
end

/-- What a call has made, or was given to write: the cells of a slice (of elements of type e, of sz cells each), or one variable. fr: what its cells lead to was made since the call began. -/
inductive Own where
  | sl (e : TypeId) (sz : Nat) (fr : Bool) (rows : List (List PV))
  | box (fr : Bool) (row : List PV)

def vblock : Value → Option Nat
  | .slice (some a) _ _ => some a.block
  | .pointer (some a) => some a.block
  | _ => none

def OwnRel (w : World) (Z : Bool → Nat → Prop) (v : Value) : Own → Prop
  | .sl e sz fr rows => ∃ xs, w.ownsRow 0 e sz v rows.length xs ∧ L2 (Rep w (Z fr)) xs rows.flatten ∧ (∀ r ∈ rows, r.length = sz) ∧ (∀ r ∈ rows, ∀ p ∈ r, p.one = true)
  | .box fr row => ∃ g t cur, v = .pointer (some ⟨g, 0, none⟩) ∧ w.heap[g]? = some (.cells cur t (0, 0)) ∧ L2 (Rep w (Z fr)) cur.toList row ∧ ∀ p ∈ row, p.one = true

theorem vblock_own {v : Value} {g : Nat} {w : World} {b e sz n : Nat} {xs : List Value} (h : w.ownsRow b e sz v n xs) : vblock v = v.ownBlock := by
  rcases h.2 with ⟨rfl, _⟩ | ⟨g, cap, cur, rfl, _⟩ <;> rfl

theorem OwnRel.lt {w : World} {Z : Bool → Nat → Prop} {v : Value} {c : Own} (h : OwnRel w Z v c) {g : Nat} (hg : vblock v = some g) : g < w.heap.size := by
  cases c with
  | sl e sz fr rows =>
    obtain ⟨xs, ho, _⟩ := h
    rw [vblock_own (g := g) ho] at hg
    exact (ho.lt g hg).2
  | box fr row =>
    obtain ⟨g', t, cur, rfl, hh, _⟩ := h
    simp [vblock] at hg
    subst hg
    exact (Array.getElem?_eq_some_iff.1 hh).1

theorem ownsRow_keep {w w' : World} {base e sz n : Nat} {v : Value} {xs : List Value} (h : w.ownsRow base e sz v n xs) (hk : ∀ g, vblock v = some g → w'.heap[g]? = w.heap[g]?) : w'.ownsRow base e sz v n xs := by
  refine ⟨h.1, ?_⟩
  rcases h.2 with h2 | ⟨g, cap, cur, rfl, hb, hh, r⟩
  · exact .inl h2
  · exact .inr ⟨g, cap, cur, rfl, hb, (hk g rfl).trans hh, r⟩

theorem OwnRel.mono {w w' : World} {Z Z' : Bool → Nat → Prop} {v : Value} {c : Own} (h : OwnRel w Z v c) (hk : ∀ g, vblock v = some g → w'.heap[g]? = w.heap[g]?)
    (hz : ∀ f b, Z f b → b < w.heap.size → Z' f b ∧ w'.heap[b]? = w.heap[b]?) : OwnRel w' Z' v c := by
  cases c with
  | sl e sz fr rows =>
    obtain ⟨xs, ho, hr, h1, h2⟩ := h
    exact ⟨xs, ownsRow_keep ho hk, Rep.monoL (hz fr) hr, h1, h2⟩
  | box fr row =>
    obtain ⟨g', t, cur, rfl, hh, hr, h1⟩ := h
    exact ⟨g', t, cur, rfl, (hk g' rfl).trans hh, Rep.monoL (hz fr) hr, h1⟩

/-- What a slot holds. -/
inductive SV where
  | val (fr : Bool) (p : PV)
  | nilsl
  | ref (o : Nat)
  | optr (o i off st : Nat)
  | fptr (fr : Bool) (cells : List PV)
  | fix (v : Value) (p : PV)
  | tup (l : List SV)

def SVRel1 (w : World) (Z : Bool → Nat → Prop) (φ : Nat → Value) (v : Value) : SV → Prop
  | .val fr p => Rep w (Z fr) v p
  | .nilsl => v = .slice none 0 0
  | .ref o => v = φ o
  | .optr o i off st => ∃ g, vblock (φ o) = some g ∧ v = .pointer (some ⟨g, i * st + off, none⟩)
  | .fptr fr cells => ∃ b o xs, v = .pointer (some ⟨b, o, none⟩) ∧ Z fr b ∧ b < w.heap.size ∧ L2 (Rep w (Z fr)) xs cells ∧ (∀ p ∈ cells, p.one = true) ∧ ∀ j x, xs[j]? = some x → Soft w ⟨b, o + j, none⟩ x
  | .fix u p => v = u ∧ Rep w (Z false) v p
  | .tup _ => False
def SVRel (w : World) (Z : Bool → Nat → Prop) (φ : Nat → Value) (v : Value) : SV → Prop
  | .tup l => ∃ vs : List Value, v = .tuple vs.toArray ∧ L2 (SVRel1 w Z φ) vs l
  | s => SVRel1 w Z φ v s

def SV.in1 (U : Nat → Prop) : SV → Prop
  | .ref o => U o
  | .optr o _ _ _ => U o
  | .tup _ => False
  | _ => True
/-- The owned things that are named are of U. -/
def SV.inU (U : Nat → Prop) : SV → Prop
  | .tup l => ∀ s ∈ l, s.in1 U
  | s => s.in1 U

theorem SVRel1.mono {w w' : World} {Z Z' : Bool → Nat → Prop} {φ φ' : Nat → Value} {v : Value} {s : SV} {U : Nat → Prop} (h : SVRel1 w Z φ v s) (hl : s.in1 U)
    (hz : ∀ f b, Z f b → b < w.heap.size → Z' f b ∧ w'.heap[b]? = w.heap[b]?) (hφ : ∀ o, U o → φ' o = φ o) : SVRel1 w' Z' φ' v s := by
  cases s with
  | val fr p => exact Rep.mono (hz fr) h
  | nilsl => exact h
  | ref o => simp only [SVRel1] at h ⊢; rw [hφ o hl]; exact h
  | optr o i off st => simp only [SVRel1] at h ⊢; rw [hφ o hl]; exact h
  | fptr fr cells =>
    obtain ⟨b, o, xs, rfl, hb, hlt, hr, h1, hc⟩ := h
    obtain ⟨hz', he⟩ := hz fr b hb hlt
    exact ⟨b, o, xs, rfl, hz', lt_keep hlt he, Rep.monoL (hz fr) hr, h1, fun j x hj => (hc j x hj).keep he⟩
  | fix u p => exact ⟨h.1, Rep.mono (hz false) h.2⟩
  | tup l => exact h

theorem SVRel.mono {w w' : World} {Z Z' : Bool → Nat → Prop} {φ φ' : Nat → Value} {v : Value} {s : SV} {U : Nat → Prop} (h : SVRel w Z φ v s) (hl : s.inU U)
    (hz : ∀ f b, Z f b → b < w.heap.size → Z' f b ∧ w'.heap[b]? = w.heap[b]?) (hφ : ∀ o, U o → φ' o = φ o) : SVRel w' Z' φ' v s := by
  cases s with
  | tup l =>
    obtain ⟨vs, rfl, hr⟩ := h
    refine ⟨vs, rfl, ?_⟩
    simp only [SV.inU] at hl
    induction hr with
    | nil => exact .nil
    | cons h _ ih => exact .cons (SVRel1.mono h (hl _ (.head _)) hz hφ) (ih fun s hs => hl s (.tail _ hs))
  | val fr p => exact SVRel1.mono (s := .val fr p) h hl hz hφ
  | nilsl => exact SVRel1.mono (s := .nilsl) h hl hz hφ
  | ref o => exact SVRel1.mono (s := .ref o) h hl hz hφ
  | optr o i off st => exact SVRel1.mono (s := .optr o i off st) h hl hz hφ
  | fptr fr cells => exact SVRel1.mono (s := .fptr fr cells) h hl hz hφ
  | fix u p => exact SVRel1.mono (s := .fix u p) h hl hz hφ

/-- Look up in a list of pairs. -/
def lk {α : Type} : List (Nat × α) → Nat → Option α
  | [], _ => none
  | (k, v) :: l, n => match Nat.beq k n with
    | true => some v
    | false => lk l n

theorem lk_cons {α : Type} (k : Nat) (v : α) (l : List (Nat × α)) (n : Nat) : lk ((k, v) :: l) n = if k = n then some v else lk l n := by
  by_cases h : k = n
  · subst h; simp [lk]
  · have : Nat.beq k n = false := by
      cases hb : Nat.beq k n with
      | false => rfl
      | true => exact absurd (Nat.eq_of_beq_eq_true hb) h
    simp [lk, this, h]

/-- The state: slots, owned things (none: gone), the next number of an owned thing. -/
structure St where
  sl : List (Nat × SV)
  ow : List (Nat × Option Own)
  nx : Nat

/-- What is asked of a state: what a slot holds, what is owned. -/
structure EnvF where
  slot : Nat → Option SV
  own : Nat → Option Own

def St.f (E : St) : EnvF := ⟨lk E.sl, fun o => (lk E.ow o).join⟩

/-- What is fixed while a call runs: the program, the world at its begin, which old blocks it may read frozen, which old blocks it was given to write, how many slots it has. -/
structure Ctx where
  P : Program
  w0 : World
  Z0 : Nat → Prop
  M : Nat → Prop
  n : Nat
  F : Nat → Prop
  hF : ∀ b, w0.heap.size ≤ b → F b
  lo : Nat
  vs : List Value
/-- The plain case: what is fresh was made since the call began; all slots may be written. -/
def Ctx.of (P : Program) (w0 : World) (Z0 M : Nat → Prop) (n : Nat) : Ctx := ⟨P, w0, Z0, M, n, fun b => w0.heap.size ≤ b, fun _ h => h, 0, []⟩
/-- May a slot be written? -/
def Ctx.can (K : Ctx) (d : Nat) : Bool := Nat.ble K.lo d && Nat.blt d K.n
theorem Ctx.can_lt {K : Ctx} {d : Nat} (h : K.can d = true) : K.lo ≤ d ∧ d < K.n := by
  simp only [Ctx.can, Bool.and_eq_true, Nat.blt_eq] at h
  exact ⟨Nat.le_of_ble_eq_true h.1, h.2⟩

structure Kept (M : Nat → Prop) (w w' : World) : Prop where
  os : w'.os = w.os
  tape : w'.tape = w.tape
  output : w'.output = w.output
  size : w.heap.size ≤ w'.heap.size
  block : ∀ k, k < w.heap.size → ¬ M k → w'.heap[k]? = w.heap[k]?

theorem Kept.below {M : Nat → Prop} {w w1 w2 : World} (h : Kept M w w1) (k : Below w1.heap.size w1 w2) : Kept M w w2 :=
  ⟨k.os.trans h.os, k.tape.trans h.tape, k.output.trans h.output, Nat.le_trans h.size k.size, fun i hi hn => (k.block i (Nat.lt_of_lt_of_le hi h.size)).trans (h.block i hi hn)⟩

def Zof (K : Ctx) (V : EnvF) (φ : Nat → Value) (b : Nat) : Prop :=
  (K.w0.heap.size ≤ b ∨ K.Z0 b) ∧ ∀ o c, V.own o = some c → vblock (φ o) ≠ some b

/-- Blocks that frozen values may lie in; fr: made since the call began. -/
def Zf (K : Ctx) (V : EnvF) (φ : Nat → Value) (fr : Bool) (b : Nat) : Prop := Zof K V φ b ∧ (fr = true → K.F b)

structure RelW (K : Ctx) (V : EnvF) (U : Nat → Prop) (φ : Nat → Value) (a : Act) (w : World) : Prop where
  df : a.defers = []
  sz : a.tmps.size = K.n
  old : ∀ s v, s < K.lo → K.vs[s]? = some v → a.tmps[s]? = some v
  kept : Kept K.M K.w0 w
  own : ∀ o c, V.own o = some c → OwnRel w (Zf K V φ) (φ o) c
  mine : ∀ o c g, V.own o = some c → vblock (φ o) = some g → K.w0.heap.size ≤ g ∨ K.M g
  inU : ∀ o c, V.own o = some c → U o
  dis : ∀ o o' c c' g, V.own o = some c → V.own o' = some c' → vblock (φ o) = some g → vblock (φ o') = some g → o = o'
  slot : ∀ s sv, V.slot s = some sv → ∃ v, a.tmps[s]? = some v ∧ SVRel w (Zf K V φ) φ v sv
  sin : ∀ s sv, V.slot s = some sv → sv.inU U

def Rel (K : Ctx) (E : St) (a : Act) (w : World) : Prop := ∃ φ, RelW K E.f (· < E.nx) φ a w

theorem SV.in_mono {s : SV} {U U' : Nat → Prop} (h : s.inU U) (hU : ∀ o, U o → U' o) : s.inU U' := by
  cases s with
  | tup l =>
    intro s hs
    have := h s hs
    cases s <;> first | exact hU _ this | exact this
  | ref o => exact hU _ h
  | optr o i off st => exact hU _ h
  | _ => trivial

/-- THE STEP: the world turns at the blocks D, the owned things of C turn or come or go; the slots stay. -/
theorem RelW.step {K : Ctx} {V V' : EnvF} {U U' : Nat → Prop} {φ φ' : Nat → Value} {a : Act} {w w' : World} (h : RelW K V U φ a w)
    (D : Nat → Prop) (C : Nat → Prop)
    (hsl : V'.slot = V.slot) (hU : ∀ o, U o → U' o) (hφ : ∀ o, U o → φ' o = φ o)
    (hos : w'.os = w.os) (htape : w'.tape = w.tape) (hout : w'.output = w.output) (hsize : w.heap.size ≤ w'.heap.size)
    (hD : ∀ b, b < w.heap.size → ¬ D b → w'.heap[b]? = w.heap[b]?)
    (hDown : ∀ b, b < w.heap.size → D b → ∃ o c, V.own o = some c ∧ vblock (φ o) = some b ∧ C o)
    (hold : ∀ o c, V'.own o = some c → ¬ C o → V.own o = some c)
    (hnew : ∀ o c, V'.own o = some c → C o → U' o ∧ OwnRel w' (Zf K V' φ') (φ' o) c ∧ ∀ g, vblock (φ' o) = some g → w.heap.size ≤ g ∨ ∃ o1 c1, V.own o1 = some c1 ∧ vblock (φ o1) = some g ∧ C o1)
    (hdis : ∀ o o' c c' g, V'.own o = some c → V'.own o' = some c' → C o → C o' → vblock (φ' o) = some g → vblock (φ' o') = some g → o = o') :
    RelW K V' U' φ' a w' := by
  have hZ : ∀ b, Zof K V φ b → b < w.heap.size → Zof K V' φ' b ∧ w'.heap[b]? = w.heap[b]? := by
    intro b hb hlt
    refine ⟨⟨hb.1, ?_⟩, hD b hlt fun hd => ?_⟩
    · intro o c ho hv
      by_cases hc : C o
      · obtain ⟨_, _, hbl⟩ := hnew o c ho hc
        rcases hbl b hv with hge | ⟨o1, c1, ho1, hv1, _⟩
        · omega
        · exact hb.2 o1 c1 ho1 hv1
      · have ho' := hold o c ho hc
        rw [hφ o (h.inU o c ho')] at hv
        exact hb.2 o c ho' hv
    · obtain ⟨o, c, ho, hv, _⟩ := hDown b hlt hd
      exact hb.2 o c ho hv
  have hZf : ∀ f b, Zf K V φ f b → b < w.heap.size → Zf K V' φ' f b ∧ w'.heap[b]? = w.heap[b]? := fun f b hb hlt => ⟨⟨(hZ b hb.1 hlt).1, hb.2⟩, (hZ b hb.1 hlt).2⟩
  have hkeep : ∀ o c g, V.own o = some c → ¬ C o → vblock (φ o) = some g → w'.heap[g]? = w.heap[g]? := by
    intro o c g ho hc hv
    have hlt := (h.own o c ho).lt hv
    refine hD g hlt fun hd => ?_
    obtain ⟨o1, c1, ho1, hv1, hc1⟩ := hDown g hlt hd
    exact hc (h.dis o o1 c c1 g ho ho1 hv hv1 ▸ hc1)
  refine ⟨h.df, h.sz, h.old, ⟨hos.trans h.kept.os, htape.trans h.kept.tape, hout.trans h.kept.output, Nat.le_trans h.kept.size hsize, ?_⟩, ?_, ?_, ?_, ?_, ?_, ?_⟩
  · intro b hb hm
    refine (hD b (Nat.lt_of_lt_of_le hb h.kept.size) fun hd => ?_).trans (h.kept.block b hb hm)
    obtain ⟨o, c, ho, hv, _⟩ := hDown b (Nat.lt_of_lt_of_le hb h.kept.size) hd
    rcases h.mine o c b ho hv with hge | hm'
    · omega
    · exact hm hm'
  · intro o c ho
    by_cases hc : C o
    · exact (hnew o c ho hc).2.1
    · have ho' := hold o c ho hc
      have hr := h.own o c ho'
      rw [hφ o (h.inU o c ho')]
      exact hr.mono (fun g hv => hkeep o c g ho' hc hv) hZf
  · intro o c g ho hv
    by_cases hc : C o
    · rcases (hnew o c ho hc).2.2 g hv with hge | ⟨o1, c1, ho1, hv1, _⟩
      · exact .inl (Nat.le_trans h.kept.size hge)
      · exact h.mine o1 c1 g ho1 hv1
    · have ho' := hold o c ho hc
      rw [hφ o (h.inU o c ho')] at hv
      exact h.mine o c g ho' hv
  · intro o c ho
    by_cases hc : C o
    · exact (hnew o c ho hc).1
    · exact hU o (h.inU o c (hold o c ho hc))
  · intro o o' c c' g ho ho' hv hv'
    by_cases hc : C o <;> by_cases hc' : C o'
    · exact hdis o o' c c' g ho ho' hc hc' hv hv'
    · have hoo := hold o' c' ho' hc'
      rw [hφ o' (h.inU o' c' hoo)] at hv'
      rcases (hnew o c ho hc).2.2 g hv with hge | ⟨o1, c1, ho1, hv1, hc1⟩
      · have := (h.own o' c' hoo).lt hv'; omega
      · exact absurd (h.dis o1 o' c1 c' g ho1 hoo hv1 hv' ▸ hc1) hc'
    · have hoo := hold o c ho hc
      rw [hφ o (h.inU o c hoo)] at hv
      rcases (hnew o' c' ho' hc').2.2 g hv' with hge | ⟨o1, c1, ho1, hv1, hc1⟩
      · have := (h.own o c hoo).lt hv; omega
      · exact absurd (h.dis o1 o c1 c g ho1 hoo hv1 hv ▸ hc1) hc
    · have ho1 := hold o c ho hc
      have ho2 := hold o' c' ho' hc'
      rw [hφ o (h.inU o c ho1)] at hv
      rw [hφ o' (h.inU o' c' ho2)] at hv'
      exact h.dis o o' c c' g ho1 ho2 hv hv'
  · intro s sv hs
    rw [hsl] at hs
    obtain ⟨v, hv, hr⟩ := h.slot s sv hs
    exact ⟨v, hv, hr.mono (h.sin s sv hs) hZf hφ⟩
  · intro s sv hs
    rw [hsl] at hs
    exact SV.in_mono (h.sin s sv hs) hU

/-- The world turns at no old block: all stays. -/
theorem RelW.world {K : Ctx} {V : EnvF} {U : Nat → Prop} {φ : Nat → Value} {a : Act} {w w' : World} (h : RelW K V U φ a w) (hb : Below w.heap.size w w') : RelW K V U φ a w' :=
  h.step (fun _ => False) (fun _ => False) rfl (fun _ ho => ho) (fun _ _ => rfl) hb.os hb.tape hb.output hb.size (fun b hlt _ => hb.block b hlt)
    (fun _ _ hd => hd.elim) (fun o c ho _ => ho) (fun _ _ _ hc => hc.elim) (fun _ _ _ _ _ _ _ hc => hc.elim)

/-- A slot is written. -/
theorem RelW.put {K : Ctx} {V V' : EnvF} {U : Nat → Prop} {φ : Nat → Value} {a : Act} {w : World} (h : RelW K V U φ a w) {d : Nat} (hd : K.can d = true) {v : Value} {sv : SV}
    (hv : SVRel w (Zf K V φ) φ v sv) (hl : sv.inU U) (hown : V'.own = V.own) (hslot : ∀ s sv', V'.slot s = some sv' → (s = d ∧ sv' = sv) ∨ (s ≠ d ∧ V.slot s = some sv')) :
    RelW K V' U φ (a.put (some d) v) w := by
  have hZ : Zf K V' φ = Zf K V φ := by funext f b; simp only [Zf, Zof, hown]
  obtain ⟨hlo, hd⟩ := Ctx.can_lt hd
  refine ⟨h.df, by simp [Act.put, h.sz], ?_, h.kept, ?_, ?_, ?_, ?_, ?_, ?_⟩
  · intro s v' hs hv'
    have := h.old s v' hs hv'
    have hne : d ≠ s := by omega
    simp [Act.put, hne, this]
  · rw [hZ, hown]; exact h.own
  · rw [hown]; exact h.mine
  · rw [hown]; exact h.inU
  · rw [hown]; exact h.dis
  · intro s sv' hs
    rw [hZ]
    rcases hslot s sv' hs with ⟨rfl, rfl⟩ | ⟨hne, hs'⟩
    · exact ⟨v, by simp [Act.put, h.sz, hd], hv⟩
    · obtain ⟨u, hu, hr⟩ := h.slot s sv' hs'
      exact ⟨u, by simp [Act.put, Ne.symm hne, hu], hr⟩
  · intro s sv' hs
    rcases hslot s sv' hs with ⟨rfl, rfl⟩ | ⟨hne, hs'⟩
    · exact hl
    · exact h.sin s sv' hs'

theorem RelW.get {K : Ctx} {V : EnvF} {U : Nat → Prop} {φ : Nat → Value} {a : Act} {w : World} (h : RelW K V U φ a w) {t : Nat} {sv : SV} (ht : V.slot t = some sv) :
    SVRel w (Zf K V φ) φ (a.eval (.tmp t)) sv := by
  obtain ⟨v, hv, hr⟩ := h.slot t sv ht
  have : a.eval (.tmp t) = v := by simp [Act.eval, Array.getD_eq_getD_getElem?, hv]
  rw [this]; exact hr

end Go.Proofs.Ytchajofdjeijfaa
