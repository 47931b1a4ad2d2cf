/- Loops; the words for lists, domains, constraints as pure values. -/
import Derived.Test.YtchajofdjeijfaaCoreI
namespace Go.Proofs.Ytchajofdjeijfaa
open Go Go.RowKit
set_option linter.unusedVariables false
set_option linter.unusedSimpArgs false

/-- A LOOP, by a measure. -/
theorem T.ind {K : Ctx} {c : Code} {Q : Exit → St → Prop} {σ : Type} (Es : σ → St) (Inv : σ → Prop) (μ : σ → Nat) (x0 : σ) (h0 : Inv x0) (hg : ∀ l E, ¬ Q (.goto l) E)
    (h : ∀ x, Inv x → (∀ y, Inv y → μ y < μ x → T K (.loop c) (Es y) Q) → T K c (Es x) (lp K c Q)) : T K (.loop c) (Es x0) Q := by
  have key : ∀ n x, μ x = n → Inv x → T K (.loop c) (Es x) Q := by
    intro n
    induction n using Nat.strongRecOn with
    | _ n ih =>
      intro x hx hi
      exact .loop hg (h x hi fun y hy hlt => ih (μ y) (hx ▸ hlt) y rfl hy)
  exact key _ x0 rfl h0

/-- A LOOP over a list, from its begin on. -/
theorem T.list {K : Ctx} {c : Code} {Q : Exit → St → Prop} {α : Type} (l : List α) (Es : Nat → List α → List α → St) (hg : ∀ l E, ¬ Q (.goto l) E)
    (step : ∀ n pre x post, l = pre ++ x :: post → n = pre.length → T K (.loop c) (Es (n + 1) (pre ++ [x]) post) Q → T K c (Es n pre (x :: post)) (lp K c Q))
    (fin : T K c (Es l.length l []) (lp K c Q)) : T K (.loop c) (Es 0 [] l) Q := by
  have key : ∀ post pre n, l = pre ++ post → n = pre.length → T K (.loop c) (Es n pre post) Q := by
    intro post
    induction post with
    | nil =>
      intro pre n h hn
      rw [List.append_nil] at h
      subst h hn
      exact .loop hg fin
    | cons x post ih =>
      intro pre n h hn
      exact .loop hg (step n pre x post h hn (ih (pre ++ [x]) (n + 1) (by simp [h]) (by simp [hn])))
  exact key l [] 0 rfl rfl

def cI (n : Int) : List PV := [.int .i64 n]
def ints (l : List Int) : PV := .sl (l.map cI)
def cR (r : Int × Int) : List PV := [.int .i64 r.1, .int .i64 r.2]
def dm (d : List (Int × Int)) : PV := .sl (d.map cR)
def cD (d : List (Int × Int)) : List PV := [dm d]
def doms (d : List (List (Int × Int))) : PV := .sl (d.map cD)
def cL (l : List Int) : List PV := [ints l]
def lists (l : List (List Int)) : PV := .sl (l.map cL)

structure Con where
  kind : Int
  vars : List Int
  coefs : List Int
  op : Int
  rhs : Int
  rows : List (List Int)
  b : Int
def cC (c : Con) : List PV := [.int .i64 c.kind, ints c.vars, ints c.coefs, .int .i64 c.op, .int .i64 c.rhs, lists c.rows, .int .i64 c.b]

theorem at_mid {α : Type} {pre post : List α} {x : α} {n : Nat} (h : n = pre.length) : (pre ++ x :: post)[n]? = some x := by subst h; simp
/-- The element that stands at the place. -/
theorem row_at {α : Type} {enc : α → List PV} {l pre post : List α} {x : α} {n : Nat} (hl : l = pre ++ x :: post) (hn : n = pre.length) : (l.map enc)[(n : Int).toNat]? = some (enc x) := by
  subst hl hn; simp

theorem Ret.v {P : Program} {E : EnvF} {al : Bool} {t : Tmp} {sv : SV} {fr : Bool} {p p' : PV} {rs : List ResultVar} {vs : List RV} {os : List Nat} (hs : E.slot t = some sv) (hf : sv.ff = some (fr, p)) (he : p = p') (hfr : al = false → fr = true) (h : Ret P E al rs vs os) :
    Ret P E al (.tmp t :: rs) (.val p' :: vs) os := he ▸ .val hs hf hfr h
theorem Ret.o {P : Program} {E : EnvF} {al : Bool} {t : Tmp} {o : Nat} {e : TypeId} {sz : Nat} {fr : Bool} {rows rows' : List (List PV)} {rs : List ResultVar} {vs : List RV} {os : List Nat} (hs : E.slot t = some (.ref o)) (ho : E.own o = some (.sl e sz fr rows)) (he : rows = rows')
    (hfr : al = false → fr = true ∨ ∀ r ∈ rows, ∀ p ∈ r, p.flat = true) (hn : o ∉ os) (h : Ret P E al rs vs os) : Ret P E al (.tmp t :: rs) (.own e sz rows' :: vs) (o :: os) := he ▸ .own hs ho hfr hn h
theorem Ret.c {P : Program} {E : EnvF} {al : Bool} {t : Tmp} {ty : TypeId} {q : Nat} {fr : Bool} {row : List PV} {p p' : PV} {rs : List ResultVar} {vs : List RV} {os : List Nat} (hs : E.slot t = some (.optr q 0 0 0)) (hq : E.own q = some (.box fr row)) (hp : loadPV P ty row = some p) (he : p = p') (hfr : al = false → fr = true) (h : Ret P E al rs vs os) :
    Ret P E al (.cell t ty :: rs) (.val p' :: vs) os := he ▸ .cell hs hq hp hfr h
theorem flat_I {l : List Int} : ∀ r ∈ l.map cI, ∀ p ∈ r, p.flat = true := by
  intro r hr p hp
  obtain ⟨x, _, rfl⟩ := List.mem_map.1 hr
  simp [cI] at hp
  subst hp
  rfl
theorem flat_R {l : List (Int × Int)} : ∀ r ∈ l.map cR, ∀ p ∈ r, p.flat = true := by
  intro r hr p hp
  obtain ⟨x, _, rfl⟩ := List.mem_map.1 hr
  simp [cR] at hp
  rcases hp with rfl | rfl <;> rfl
theorem len_I {l : List Int} : ∀ r ∈ l.map cI, r.length = 1 := by
  intro r hr
  obtain ⟨x, _, rfl⟩ := List.mem_map.1 hr
  rfl
theorem len_R {l : List (Int × Int)} : ∀ r ∈ l.map cR, r.length = 2 := by
  intro r hr
  obtain ⟨x, _, rfl⟩ := List.mem_map.1 hr
  rfl

theorem wrap_id {n : Int} (h1 : -9223372036854775808 ≤ n) (h2 : n ≤ 9223372036854775807) : IntKind.i64.wrap n = n := by
  simp only [IntKind.wrap, IntKind.bits, IntKind.signed, Bool.true_and, Bool.and_eq_true, decide_eq_true_eq, ge_iff_le]
  split <;> omega
end Go.Proofs.Ytchajofdjeijfaa
