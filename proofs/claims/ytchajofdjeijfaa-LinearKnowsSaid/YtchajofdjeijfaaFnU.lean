/- Contracts: what is left of domains, if a sum is not a number: by the program, by the document. -/
import Derived.Test.YtchajofdjeijfaaFnT
namespace Go.Proofs.Ytchajofdjeijfaa
open Go Go.RowKit
set_option linter.unusedVariables false
set_option linter.unusedSimpArgs false
set_option maxRecDepth 8000

def minusIn : List (Int × Int) → Int → Int → List (Int × Int) → Int × List (Int × Int)
  | [], lo, hi, out => (lo, out)
  | y :: b, lo, hi, out => if y.2 < lo ∨ hi < y.1 then minusIn b lo hi out else minusIn b (wr (y.2 + 1)) hi (if lo < y.1 then out ++ [(lo, wr (y.1 - 1))] else out)
def minusOne (b : List (Int × Int)) (out : List (Int × Int)) (x : Int × Int) : List (Int × Int) := if (minusIn b x.1 x.2 out).1 ≤ x.2 then (minusIn b x.1 x.2 out).2 ++ [((minusIn b x.1 x.2 out).1, x.2)] else (minusIn b x.1 x.2 out).2
def minusW (a b : List (Int × Int)) : List (Int × Int) := a.foldl (minusOne b) []
theorem minusIn_len : ∀ (b : List (Int × Int)) (lo hi : Int) (out : List (Int × Int)), (minusIn b lo hi out).2.length ≤ out.length + b.length
  | [], lo, hi, out => by simp [minusIn]
  | y :: b, lo, hi, out => by
    rw [minusIn]
    split
    · have := minusIn_len b lo hi out
      simp only [List.length_cons]; omega
    · have := minusIn_len b (wr (y.2 + 1)) hi (if lo < y.1 then out ++ [(lo, wr (y.1 - 1))] else out)
      simp only [List.length_cons]
      split at this
      · simp only [List.length_append, List.length_singleton] at this; split <;> omega
      · split <;> omega
theorem minus_spec (a b : List (Int × Int)) (hb : b.length * 8 ≤ 140737488355328) (hl : (a.length + 1) * (b.length + 1) * 16 ≤ 140737488355328) : Spec Try.prog 81 false [dm a, dm b] [.own 40 2 ((minusW a b).map cR)] := by
  refine Spec.body Try.func81 rfl rfl rfl fun w0 Z0 => ?_
  have hal : a.length * 8 ≤ 140737488355328 := by
    have : a.length + 1 ≤ (a.length + 1) * (b.length + 1) := Nat.le_mul_of_pos_right _ (by omega)
    omega
  repeat' first | refine T.seq ?_ | refine T.block ?_ | refine T.r ?_ | refine J.e rfl rfl rfl rfl ?_ | refine J.nil ?_ | refine J.skip rfl rfl rfl ?_ | refine T.skip ?_ | refine T.exit ?_ | refine T.ret ?_ | refine T.rd rfl (by kernel_rfl) ?_ | refine J.bx rfl rfl rfl rfl rfl rfl ?_
  refine T.sub (Rel.own0 (s := 5) 40 2 rfl) ?_
  refine T.canon (keep := [1, 5, 10, 11, 12]) (os := [5]) rfl (T.ind (fun s : Nat × List (Int × Int) => ⟨[(1, .val false (dm b)), (5, .ref 0), (10, .val false (dm a)), (11, .val true (.int .i64 (a.map cR).length)), (12, .val true (.int .i64 s.1))], [(0, some (.sl 40 2 true (s.2.map cR)))], 1⟩)
    (fun s => s.1 ≤ a.length ∧ (a.drop s.1).foldl (minusOne b) s.2 = minusW a b ∧ s.2.length ≤ s.1 * (b.length + 1)) (fun s => a.length - s.1) (0, []) ⟨by simp, rfl, by simp⟩ (fun _ _ h => h) ?_)
  rintro ⟨n, out⟩ ⟨hn, he, hlo⟩ ih
  simp only at hn he hlo
  dsimp only
  repeat' first | refine T.seq ?_ | refine T.block ?_ | refine T.r ?_ | refine J.e rfl rfl rfl rfl ?_ | refine J.nil ?_ | refine J.skip rfl rfl rfl ?_ | refine T.skip ?_ | refine T.exit ?_ | refine T.ret ?_ | refine T.rd rfl (by kernel_rfl) ?_ | refine J.bx rfl rfl rfl rfl rfl rfl ?_
  refine T.cd rfl (fun h1 => ?_) (fun h1 => ?_)
  · have h1 : n < a.length := by simpa using h1
    rw [List.drop_eq_getElem_cons h1, List.foldl_cons] at he
    have hmul : (n + 1) * (b.length + 1) ≤ (a.length + 1) * (b.length + 1) := Nat.mul_le_mul_right _ (by omega)
    have hmul2 : (n + 1) * (b.length + 1) = n * (b.length + 1) + (b.length + 1) := by rw [Nat.add_mul, Nat.one_mul]
    have hr : (a.map cR)[((n : Nat) : Int).toNat]? = some (cR a[n]) := row_i h1
    generalize a[n] = x at *
    obtain ⟨lo0, hi⟩ := x
    repeat' first | refine T.seq ?_ | refine T.block ?_ | refine T.r ?_ | refine J.e rfl rfl rfl rfl ?_ | refine J.nil ?_ | refine J.skip rfl rfl rfl ?_ | refine T.skip ?_ | refine T.exit ?_ | refine T.ret ?_ | refine T.rd rfl (by kernel_rfl) ?_ | refine J.bx rfl rfl rfl rfl rfl rfl ?_
    refine J.i rfl rfl rfl rfl rfl rfl rfl rfl rfl (r := cR (lo0, hi)) (by omega) hr rfl ?_
    repeat' first | refine T.seq ?_ | refine T.block ?_ | refine T.r ?_ | refine J.e rfl rfl rfl rfl ?_ | refine J.nil ?_ | refine J.skip rfl rfl rfl ?_ | refine T.skip ?_ | refine T.exit ?_ | refine T.ret ?_ | refine T.rd rfl (by kernel_rfl) ?_ | refine J.bx rfl rfl rfl rfl rfl rfl ?_
    refine J.al rfl rfl rfl rfl rfl rfl rfl ?_
    repeat' first | refine T.seq ?_ | refine T.block ?_ | refine T.r ?_ | refine J.e rfl rfl rfl rfl ?_ | refine J.nil ?_ | refine J.skip rfl rfl rfl ?_ | refine T.skip ?_ | refine T.exit ?_ | refine T.ret ?_ | refine T.rd rfl (by kernel_rfl) ?_ | refine J.bx rfl rfl rfl rfl rfl rfl ?_
    refine J.w rfl rfl rfl rfl rfl rfl rfl rfl rfl rfl ?_
    repeat' first | refine T.seq ?_ | refine T.block ?_ | refine T.r ?_ | refine J.e rfl rfl rfl rfl ?_ | refine J.nil ?_ | refine J.skip rfl rfl rfl ?_ | refine T.skip ?_ | refine T.exit ?_ | refine T.ret ?_ | refine T.rd rfl (by kernel_rfl) ?_ | refine J.bx rfl rfl rfl rfl rfl rfl ?_
    refine T.canon (keep := [1, 5, 7, 10, 11, 12, 16, 17, 18]) (os := [5, 7]) rfl (T.ind (fun s : Nat × Int × List (Int × Int) => ⟨[(1, .val false (dm b)), (5, .ref 0), (7, .optr 1 0 0 0), (10, .val false (dm a)), (11, .val true (.int .i64 (a.map cR).length)), (12, .val true (.int .i64 n)), (16, .val false (dm b)), (17, .val true (.int .i64 (b.map cR).length)), (18, .val true (.int .i64 s.1))], [(0, some (.sl 40 2 true (s.2.2.map cR))), (1, some (.box false (cR (s.2.1, hi))))], 2⟩)
      (fun s => s.1 ≤ b.length ∧ minusIn (b.drop s.1) s.2.1 hi s.2.2 = minusIn b lo0 hi out ∧ s.2.2.length ≤ out.length + s.1) (fun s => b.length - s.1) (0, lo0, out) ⟨by simp, rfl, by simp⟩ (fun _ _ h => h) ?_)
    rintro ⟨m, lo, out2⟩ ⟨hm, he2, hlo2⟩ ih2
    simp only at hm he2 hlo2
    dsimp only
    repeat' first | refine T.seq ?_ | refine T.block ?_ | refine T.r ?_ | refine J.e rfl rfl rfl rfl ?_ | refine J.nil ?_ | refine J.skip rfl rfl rfl ?_ | refine T.skip ?_ | refine T.exit ?_ | refine T.ret ?_ | refine T.rd rfl (by kernel_rfl) ?_ | refine J.bx rfl rfl rfl rfl rfl rfl ?_
    refine T.cd rfl (fun h2 => ?_) (fun h2 => ?_)
    · have h2 : m < b.length := by simpa using h2
      rw [List.drop_eq_getElem_cons h2, minusIn] at he2
      have hr2 : (b.map cR)[((m : Nat) : Int).toNat]? = some (cR b[m]) := row_i h2
      generalize b[m] = y at *
      obtain ⟨y1, y2⟩ := y
      simp only at he2
      have skip : (y2 < lo ∨ hi < y1) → minusIn (b.drop (m + 1)) lo hi out2 = minusIn b lo0 hi out := fun h => by rw [if_pos h] at he2; exact he2
      have keep : ¬ (y2 < lo ∨ hi < y1) → minusIn (b.drop (m + 1)) (wr (y2 + 1)) hi (if lo < y1 then out2 ++ [(lo, wr (y1 - 1))] else out2) = minusIn b lo0 hi out := fun h => by rw [if_neg h] at he2; exact he2
      repeat' first | refine T.seq ?_ | refine T.block ?_ | refine T.r ?_ | refine J.e rfl rfl rfl rfl ?_ | refine J.nil ?_ | refine J.skip rfl rfl rfl ?_ | refine T.skip ?_ | refine T.exit ?_ | refine T.ret ?_ | refine T.rd rfl (by kernel_rfl) ?_ | refine J.bx rfl rfl rfl rfl rfl rfl ?_
      refine J.i rfl rfl rfl rfl rfl rfl rfl rfl rfl (r := cR (y1, y2)) (by omega) hr2 rfl ?_
      repeat' first | refine T.seq ?_ | refine T.block ?_ | refine T.r ?_ | refine J.e rfl rfl rfl rfl ?_ | refine J.nil ?_ | refine J.skip rfl rfl rfl ?_ | refine T.skip ?_ | refine T.exit ?_ | refine T.ret ?_ | refine T.rd rfl (by kernel_rfl) ?_ | refine J.bx rfl rfl rfl rfl rfl rfl ?_
      refine J.al rfl rfl rfl rfl rfl rfl rfl ?_
      repeat' first | refine T.seq ?_ | refine T.block ?_ | refine T.r ?_ | refine J.e rfl rfl rfl rfl ?_ | refine J.nil ?_ | refine J.skip rfl rfl rfl ?_ | refine T.skip ?_ | refine T.exit ?_ | refine T.ret ?_ | refine T.rd rfl (by kernel_rfl) ?_ | refine J.bx rfl rfl rfl rfl rfl rfl ?_
      refine J.w rfl rfl rfl rfl rfl rfl rfl rfl rfl rfl ?_
      repeat' first | refine T.seq ?_ | refine T.block ?_ | refine T.r ?_ | refine J.e rfl rfl rfl rfl ?_ | refine J.nil ?_ | refine J.skip rfl rfl rfl ?_ | refine T.skip ?_ | refine T.exit ?_ | refine T.ret ?_ | refine T.rd rfl (by kernel_rfl) ?_ | refine J.bx rfl rfl rfl rfl rfl rfl ?_
      refine J.g rfl rfl rfl (fun h3 => ?_) (fun h3 => ?_)
      · have h3 : y2 < lo := h3
        repeat' first | refine T.seq ?_ | refine T.block ?_ | refine T.r ?_ | refine J.e rfl rfl rfl rfl ?_ | refine J.nil ?_ | refine J.skip rfl rfl rfl ?_ | refine T.skip ?_ | refine T.exit ?_ | refine T.ret ?_ | refine T.rd rfl (by kernel_rfl) ?_ | refine J.bx rfl rfl rfl rfl rfl rfl ?_
        refine T.ct rfl ?_
        repeat' first | refine T.seq ?_ | refine T.block ?_ | refine T.r ?_ | refine J.e rfl rfl rfl rfl ?_ | refine J.nil ?_ | refine J.skip rfl rfl rfl ?_ | refine T.skip ?_ | refine T.exit ?_ | refine T.ret ?_ | refine T.rd rfl (by kernel_rfl) ?_ | refine J.bx rfl rfl rfl rfl rfl rfl ?_
        rw [wrap1 (l := b.length) (by omega) (by omega)]
        exact T.canon (keep := [1, 5, 7, 10, 11, 12, 16, 17, 18]) (os := [5, 7]) rfl (ih2 (m + 1, lo, out2) ⟨by simp only; omega, skip (.inl h3), by simp only; omega⟩ (by simp only; omega))
      · have h3 : ¬ y2 < lo := h3
        repeat' first | refine T.seq ?_ | refine T.block ?_ | refine T.r ?_ | refine J.e rfl rfl rfl rfl ?_ | refine J.nil ?_ | refine J.skip rfl rfl rfl ?_ | refine T.skip ?_ | refine T.exit ?_ | refine T.ret ?_ | refine T.rd rfl (by kernel_rfl) ?_ | refine J.bx rfl rfl rfl rfl rfl rfl ?_
        refine T.cd rfl (fun h4 => ?_) (fun h4 => ?_)
        · have h4 : hi < y1 := h4
          repeat' first | refine T.seq ?_ | refine T.block ?_ | refine T.r ?_ | refine J.e rfl rfl rfl rfl ?_ | refine J.nil ?_ | refine J.skip rfl rfl rfl ?_ | refine T.skip ?_ | refine T.exit ?_ | refine T.ret ?_ | refine T.rd rfl (by kernel_rfl) ?_ | refine J.bx rfl rfl rfl rfl rfl rfl ?_
          rw [wrap1 (l := b.length) (by omega) (by omega)]
          exact T.canon (keep := [1, 5, 7, 10, 11, 12, 16, 17, 18]) (os := [5, 7]) rfl (ih2 (m + 1, lo, out2) ⟨by simp only; omega, skip (.inr h4), by simp only; omega⟩ (by simp only; omega))
        · have h4 : ¬ hi < y1 := h4
          have keep := keep (fun h => h.elim h3 h4)
          repeat' first | refine T.seq ?_ | refine T.block ?_ | refine T.r ?_ | refine J.e rfl rfl rfl rfl ?_ | refine J.nil ?_ | refine J.skip rfl rfl rfl ?_ | refine T.skip ?_ | refine T.exit ?_ | refine T.ret ?_ | refine T.rd rfl (by kernel_rfl) ?_ | refine J.bx rfl rfl rfl rfl rfl rfl ?_
          refine T.cd rfl (fun h5 => ?_) (fun h5 => ?_)
          · have h5 : lo < y1 := h5
            rw [if_pos h5] at keep
            repeat' first | refine T.seq ?_ | refine T.block ?_ | refine T.r ?_ | refine J.e rfl rfl rfl rfl ?_ | refine J.nil ?_ | refine J.skip rfl rfl rfl ?_ | refine T.skip ?_ | refine T.exit ?_ | refine T.ret ?_ | refine T.rd rfl (by kernel_rfl) ?_ | refine J.bx rfl rfl rfl rfl rfl rfl ?_
            refine J.bv rfl rfl rfl rfl rfl rfl rfl rfl rfl rfl rfl rfl ?_
            refine J.aR rfl rfl rfl rfl rfl rfl rfl rfl rfl rfl rfl rfl rfl rfl rfl rfl rfl rfl rfl (a := lo) (b := IntKind.i64.wrap (y1 - 1)) (by omega) ?_
            repeat' first | refine T.seq ?_ | refine T.block ?_ | refine T.r ?_ | refine J.e rfl rfl rfl rfl ?_ | refine J.nil ?_ | refine J.skip rfl rfl rfl ?_ | refine T.skip ?_ | refine T.exit ?_ | refine T.ret ?_ | refine T.rd rfl (by kernel_rfl) ?_ | refine J.bx rfl rfl rfl rfl rfl rfl ?_
            refine J.w rfl rfl rfl rfl rfl rfl rfl rfl rfl rfl ?_
            repeat' first | refine T.seq ?_ | refine T.block ?_ | refine T.r ?_ | refine J.e rfl rfl rfl rfl ?_ | refine J.nil ?_ | refine J.skip rfl rfl rfl ?_ | refine T.skip ?_ | refine T.exit ?_ | refine T.ret ?_ | refine T.rd rfl (by kernel_rfl) ?_ | refine J.bx rfl rfl rfl rfl rfl rfl ?_
            rw [wrap1 (l := b.length) (by omega) (by omega)]
            exact T.canon (keep := [1, 5, 7, 10, 11, 12, 16, 17, 18]) (os := [5, 7]) rfl (ih2 (m + 1, wr (y2 + 1), out2 ++ [(lo, wr (y1 - 1))]) ⟨by simp only; omega, keep, by simp; omega⟩ (by simp only; omega))
          · have h5 : ¬ lo < y1 := h5
            rw [if_neg h5] at keep
            repeat' first | refine T.seq ?_ | refine T.block ?_ | refine T.r ?_ | refine J.e rfl rfl rfl rfl ?_ | refine J.nil ?_ | refine J.skip rfl rfl rfl ?_ | refine T.skip ?_ | refine T.exit ?_ | refine T.ret ?_ | refine T.rd rfl (by kernel_rfl) ?_ | refine J.bx rfl rfl rfl rfl rfl rfl ?_
            refine J.w rfl rfl rfl rfl rfl rfl rfl rfl rfl rfl ?_
            repeat' first | refine T.seq ?_ | refine T.block ?_ | refine T.r ?_ | refine J.e rfl rfl rfl rfl ?_ | refine J.nil ?_ | refine J.skip rfl rfl rfl ?_ | refine T.skip ?_ | refine T.exit ?_ | refine T.ret ?_ | refine T.rd rfl (by kernel_rfl) ?_ | refine J.bx rfl rfl rfl rfl rfl rfl ?_
            rw [wrap1 (l := b.length) (by omega) (by omega)]
            exact T.canon (keep := [1, 5, 7, 10, 11, 12, 16, 17, 18]) (os := [5, 7]) rfl (ih2 (m + 1, wr (y2 + 1), out2) ⟨by simp only; omega, keep, by simp only; omega⟩ (by simp only; omega))
    · have h2 : m = b.length := by simp at h2; omega
      subst h2
      rw [List.drop_length, minusIn] at he2
      clear ih2
      have hmo : minusOne b out (lo0, hi) = if lo ≤ hi then out2 ++ [(lo, hi)] else out2 := by
        unfold minusOne
        simp only [← he2]
      rw [hmo] at he
      repeat' first | refine T.seq ?_ | refine T.block ?_ | refine T.r ?_ | refine J.e rfl rfl rfl rfl ?_ | refine J.nil ?_ | refine J.skip rfl rfl rfl ?_ | refine T.skip ?_ | refine T.exit ?_ | refine T.ret ?_ | refine T.rd rfl (by kernel_rfl) ?_ | refine J.bx rfl rfl rfl rfl rfl rfl ?_
      refine T.cd rfl (fun h5 => ?_) (fun h5 => ?_)
      · have h5 : lo ≤ hi := h5
        rw [if_pos h5] at he
        repeat' first | refine T.seq ?_ | refine T.block ?_ | refine T.r ?_ | refine J.e rfl rfl rfl rfl ?_ | refine J.nil ?_ | refine J.skip rfl rfl rfl ?_ | refine T.skip ?_ | refine T.exit ?_ | refine T.ret ?_ | refine T.rd rfl (by kernel_rfl) ?_ | refine J.bx rfl rfl rfl rfl rfl rfl ?_
        refine J.bv rfl rfl rfl rfl rfl rfl rfl rfl rfl rfl rfl rfl ?_
        refine J.aR rfl rfl rfl rfl rfl rfl rfl rfl rfl rfl rfl rfl rfl rfl rfl rfl rfl rfl rfl (by omega) ?_
        refine J.sub (Rel.flat (o := 2) rfl flat_R) ?_
        repeat' first | refine T.seq ?_ | refine T.block ?_ | refine T.r ?_ | refine J.e rfl rfl rfl rfl ?_ | refine J.nil ?_ | refine J.skip rfl rfl rfl ?_ | refine T.skip ?_ | refine T.exit ?_ | refine T.ret ?_ | refine T.rd rfl (by kernel_rfl) ?_ | refine J.bx rfl rfl rfl rfl rfl rfl ?_
        rw [wrap1 (l := a.length) (by omega) (by omega)]
        exact T.canon (keep := [1, 5, 10, 11, 12]) (os := [5]) rfl (ih (n + 1, out2 ++ [(lo, hi)]) ⟨by simp only; omega, he, by simp; omega⟩ (by simp only; omega))
      · have h5 : ¬ lo ≤ hi := h5
        rw [if_neg h5] at he
        repeat' first | refine T.seq ?_ | refine T.block ?_ | refine T.r ?_ | refine J.e rfl rfl rfl rfl ?_ | refine J.nil ?_ | refine J.skip rfl rfl rfl ?_ | refine T.skip ?_ | refine T.exit ?_ | refine T.ret ?_ | refine T.rd rfl (by kernel_rfl) ?_ | refine J.bx rfl rfl rfl rfl rfl rfl ?_
        rw [wrap1 (l := a.length) (by omega) (by omega)]
        exact T.canon (keep := [1, 5, 10, 11, 12]) (os := [5]) rfl (ih (n + 1, out2) ⟨by simp only; omega, he, by simp only; omega⟩ (by simp only; omega))
  · have h1 : n = a.length := by simp at h1; omega
    subst h1
    rw [List.drop_length, List.foldl_nil] at he
    subst he
    repeat' first | refine T.seq ?_ | refine T.block ?_ | refine T.r ?_ | refine J.e rfl rfl rfl rfl ?_ | refine J.nil ?_ | refine J.skip rfl rfl rfl ?_ | refine T.skip ?_ | refine T.exit ?_ | refine T.ret ?_ | refine T.rd rfl (by kernel_rfl) ?_ | refine J.bx rfl rfl rfl rfl rfl rfl ?_
    exact ⟨_, .o rfl rfl rfl (fun _ => .inl rfl) (by simp) .nil⟩

/-! Not a number: by the program. -/
def otherGo : Nat → List (List (Int × Int) × Int) → Int → Int → Option (Int × Int)
  | _, [], op, s => some (op, s)
  | i, t :: ts, op, s => if 1 < sizeW t.1 then (if 0 ≤ op then none else otherGo (i + 1) ts i s) else otherGo (i + 1) ts op (wr (s + (endW t.1 t.2 false).1))
def otherW (d : Doms) (c : Con) : Doms × Bool :=
  match otherGo 0 (termsOf d c.vars c.coefs) (-1) 0 with
  | none => (d, true)
  | some (op, s) =>
    if op < 0 then (d, decide (s ≠ c.rhs)) else
    if (wr (c.rhs - s)).tmod (coefAt c op.toNat) = 0 then
      (d.set (varAt c op.toNat).toNat (minusW (domAt d (varAt c op.toNat)) [(wr ((wr (c.rhs - s)).tdiv (coefAt c op.toNat)), wr ((wr (c.rhs - s)).tdiv (coefAt c op.toNat)))]),
        decide (0 < (minusW (domAt d (varAt c op.toNat)) [(wr ((wr (c.rhs - s)).tdiv (coefAt c op.toNat)), wr ((wr (c.rhs - s)).tdiv (coefAt c op.toNat)))]).length))
    else (d, decide (0 < (domAt d (varAt c op.toNat)).length))
theorem otherGo_in : ∀ (ts : List (List (Int × Int) × Int)) (i : Nat) (op s op' s' : Int) (n : Nat), op < n → i + ts.length ≤ n → otherGo i ts op s = some (op', s') → op' < n
  | [], i, op, s, op', s', n, h, _, e => by
    simp only [otherGo, Option.some.injEq, Prod.mk.injEq] at e
    omega
  | t :: ts, i, op, s, op', s', n, h, hn, e => by
    simp only [List.length_cons] at hn
    rw [otherGo] at e
    split at e
    · split at e
      · cases e
      · exact otherGo_in ts (i + 1) i s op' s' n (by omega) (by omega) e
    · exact otherGo_in ts (i + 1) op _ op' s' n h (by omega) e
theorem lother_spec (d : Doms) (c : Con) (h : SumFine d c.vars c.coefs) (hsm : ∀ x ∈ d, x.length * 64 + 1048576 ≤ 140737488355328) :
    SpecM Try.prog 46 38 1 (d.map cD) [.agg (cC c)] ((otherW d c).1.map cD) [.bool (otherW d c).2] := by
  refine SpecM.body Try.func46 rfl rfl rfl (by simp [PV.flat]) fun w0 v0 Z1 => ?_
  obtain ⟨hlen, hvl, hvin, hck, hdom, hdl⟩ := h
  have hin := otherGo_in (termsOf d c.vars c.coefs) 0 (-1) 0
  generalize hgo : otherGo 0 (termsOf d c.vars c.coefs) (-1) 0 = go at hin
  repeat' first | refine T.seq ?_ | refine T.block ?_ | refine T.r ?_ | refine J.e rfl rfl rfl rfl ?_ | refine J.nil ?_ | refine J.skip rfl rfl rfl ?_ | refine T.skip ?_ | refine T.exit ?_ | refine T.ret ?_ | refine T.rd rfl (by kernel_rfl) ?_ | refine J.bx rfl rfl rfl rfl rfl rfl ?_
  refine T.canon (keep := [0, 3, 5, 6, 15, 16, 17]) (os := [0, 3]) rfl (T.ind (fun s : Nat × Int × Int => ⟨[(0, .ref 0), (3, .optr 1 0 0 0), (5, .val true (.int .i64 s.2.1)), (6, .val true (.int .i64 s.2.2)), (15, .val false (ints c.vars)), (16, .val true (.int .i64 (c.vars.map cI).length)), (17, .val true (.int .i64 s.1))], [(0, some (.sl 38 1 true (d.map cD))), (1, some (.box false (cC c)))], 2⟩)
    (fun s => s.1 ≤ c.vars.length ∧ otherGo s.1 ((termsOf d c.vars c.coefs).drop s.1) s.2.1 s.2.2 = go) (fun s => c.vars.length - s.1) (0, -1, 0) ⟨by simp, hgo⟩ (fun _ _ h => h) ?_)
  rintro ⟨i, op, s⟩ ⟨hil, he⟩ ih
  simp only at hil he
  dsimp only
  repeat' first | refine T.seq ?_ | refine T.block ?_ | refine T.r ?_ | refine J.e rfl rfl rfl rfl ?_ | refine J.nil ?_ | refine J.skip rfl rfl rfl ?_ | refine T.skip ?_ | refine T.exit ?_ | refine T.ret ?_ | refine T.rd rfl (by kernel_rfl) ?_ | refine J.bx rfl rfl rfl rfl rfl rfl ?_
  refine T.cd rfl (fun h1 => ?_) (fun h1 => ?_)
  · have h1 : i < c.vars.length := by simpa using h1
    have h2 : i < c.coefs.length := by omega
    have hv := hvin _ (List.getElem_mem h1)
    have hk := hck _ (List.getElem_mem h2)
    have hx := hdom _ (domAt_mem hv.2)
    have hrow : (d.map cD)[c.vars[i].toNat]? = some (cD (domAt d c.vars[i])) := by simp [domAt_some hv.2]
    rw [terms_cons h1 h2, otherGo] at he
    repeat' first | refine T.seq ?_ | refine T.block ?_ | refine T.r ?_ | refine J.e rfl rfl rfl rfl ?_ | refine J.nil ?_ | refine J.skip rfl rfl rfl ?_ | refine T.skip ?_ | refine T.exit ?_ | refine T.ret ?_ | refine T.rd rfl (by kernel_rfl) ?_ | refine J.bx rfl rfl rfl rfl rfl rfl ?_
    refine J.i rfl rfl rfl rfl rfl rfl rfl rfl rfl (r := cI c.vars[i]) (by omega) (row_i h1) rfl ?_
    repeat' first | refine T.seq ?_ | refine T.block ?_ | refine T.r ?_ | refine J.e rfl rfl rfl rfl ?_ | refine J.nil ?_ | refine J.skip rfl rfl rfl ?_ | refine T.skip ?_ | refine T.exit ?_ | refine T.ret ?_ | refine T.rd rfl (by kernel_rfl) ?_ | refine J.bx rfl rfl rfl rfl rfl rfl ?_
    refine J.io rfl rfl rfl rfl rfl rfl rfl rfl rfl hv.1 (by simpa using hv.2) rfl ?_
    refine J.lo rfl rfl rfl rfl rfl rfl (r := cD (domAt d c.vars[i])) hrow rfl ?_
    refine J.cc rfl rfl rfl rfl rfl (size_spec (domAt d c.vars[i]) (by have := hx.len; omega)) rfl rfl ?_
    repeat' first | refine T.seq ?_ | refine T.block ?_ | refine T.r ?_ | refine J.e rfl rfl rfl rfl ?_ | refine J.nil ?_ | refine J.skip rfl rfl rfl ?_ | refine T.skip ?_ | refine T.exit ?_ | refine T.ret ?_ | refine T.rd rfl (by kernel_rfl) ?_ | refine J.bx rfl rfl rfl rfl rfl rfl ?_
    refine T.cd rfl (fun h3 => ?_) (fun h3 => ?_)
    · have h3 : 1 < sizeW (domAt d c.vars[i]) := h3
      rw [if_pos h3] at he
      repeat' first | refine T.seq ?_ | refine T.block ?_ | refine T.r ?_ | refine J.e rfl rfl rfl rfl ?_ | refine J.nil ?_ | refine J.skip rfl rfl rfl ?_ | refine T.skip ?_ | refine T.exit ?_ | refine T.ret ?_ | refine T.rd rfl (by kernel_rfl) ?_ | refine J.bx rfl rfl rfl rfl rfl rfl ?_
      refine T.cd rfl (fun h4 => ?_) (fun h4 => ?_)
      · have h4 : 0 ≤ op := h4
        rw [if_pos h4] at he
        subst he
        have ho : otherW d c = (d, true) := by unfold otherW; rw [hgo]
        rw [ho]
        repeat' first | refine T.seq ?_ | refine T.block ?_ | refine T.r ?_ | refine J.e rfl rfl rfl rfl ?_ | refine J.nil ?_ | refine J.skip rfl rfl rfl ?_ | refine T.skip ?_ | refine T.exit ?_ | refine T.ret ?_ | refine T.rd rfl (by kernel_rfl) ?_ | refine J.bx rfl rfl rfl rfl rfl rfl ?_
        exact ⟨.v rfl rfl rfl (fun h => by cases h) .nil, _, rfl, rfl⟩
      · have h4 : ¬ 0 ≤ op := h4
        rw [if_neg h4] at he
        repeat' first | refine T.seq ?_ | refine T.block ?_ | refine T.r ?_ | refine J.e rfl rfl rfl rfl ?_ | refine J.nil ?_ | refine J.skip rfl rfl rfl ?_ | refine T.skip ?_ | refine T.exit ?_ | refine T.ret ?_ | refine T.rd rfl (by kernel_rfl) ?_ | refine J.bx rfl rfl rfl rfl rfl rfl ?_
        rw [wrap1 (l := c.vars.length) (by omega) (by omega)]
        exact T.canon (keep := [0, 3, 5, 6, 15, 16, 17]) (os := [0, 3]) rfl (ih (i + 1, i, s) ⟨by simp only; omega, he⟩ (by simp only; omega))
    · have h3 : ¬ 1 < sizeW (domAt d c.vars[i]) := h3
      rw [if_neg h3] at he
      repeat' first | refine T.seq ?_ | refine T.block ?_ | refine T.r ?_ | refine J.e rfl rfl rfl rfl ?_ | refine J.nil ?_ | refine J.skip rfl rfl rfl ?_ | refine T.skip ?_ | refine T.exit ?_ | refine T.ret ?_ | refine T.rd rfl (by kernel_rfl) ?_ | refine J.bx rfl rfl rfl rfl rfl rfl ?_
      refine J.io rfl rfl rfl rfl rfl rfl rfl rfl rfl hv.1 (by simpa using hv.2) rfl ?_
      refine J.lo rfl rfl rfl rfl rfl rfl (r := cD (domAt d c.vars[i])) hrow rfl ?_
      repeat' first | refine T.seq ?_ | refine T.block ?_ | refine T.r ?_ | refine J.e rfl rfl rfl rfl ?_ | refine J.nil ?_ | refine J.skip rfl rfl rfl ?_ | refine T.skip ?_ | refine T.exit ?_ | refine T.ret ?_ | refine T.rd rfl (by kernel_rfl) ?_ | refine J.bx rfl rfl rfl rfl rfl rfl ?_
      refine J.i rfl rfl rfl rfl rfl rfl rfl rfl rfl (r := cI c.coefs[i]) (by omega) (row_i h2) rfl ?_
      repeat' first | refine T.seq ?_ | refine T.block ?_ | refine T.r ?_ | refine J.e rfl rfl rfl rfl ?_ | refine J.nil ?_ | refine J.skip rfl rfl rfl ?_ | refine T.skip ?_ | refine T.exit ?_ | refine T.ret ?_ | refine T.rd rfl (by kernel_rfl) ?_ | refine J.bx rfl rfl rfl rfl rfl rfl ?_
      refine J.cc rfl rfl rfl rfl rfl (lend_spec _ _ false hx.domB hk) rfl rfl ?_
      repeat' first | refine T.seq ?_ | refine T.block ?_ | refine T.r ?_ | refine J.e rfl rfl rfl rfl ?_ | refine J.nil ?_ | refine J.skip rfl rfl rfl ?_ | refine T.skip ?_ | refine T.exit ?_ | refine T.ret ?_ | refine T.rd rfl (by kernel_rfl) ?_ | refine J.bx rfl rfl rfl rfl rfl rfl ?_
      rw [wrap1 (l := c.vars.length) (by omega) (by omega)]
      exact T.canon (keep := [0, 3, 5, 6, 15, 16, 17]) (os := [0, 3]) rfl (ih (i + 1, op, wr (s + (endW (domAt d c.vars[i]) c.coefs[i] false).1)) ⟨by simp only; omega, he⟩ (by simp only; omega))
  · have h1 : i = c.vars.length := by simp at h1; omega
    subst h1
    rw [terms_end hlen, otherGo] at he
    subst he
    clear ih
    have hop := hin op s c.vars.length (by omega) (by simp [termsOf]; omega) rfl
    unfold otherW
    rw [hgo]
    simp only
    repeat' first | refine T.seq ?_ | refine T.block ?_ | refine T.r ?_ | refine J.e rfl rfl rfl rfl ?_ | refine J.nil ?_ | refine J.skip rfl rfl rfl ?_ | refine T.skip ?_ | refine T.exit ?_ | refine T.ret ?_ | refine T.rd rfl (by kernel_rfl) ?_ | refine J.bx rfl rfl rfl rfl rfl rfl ?_
    refine T.cd rfl (fun h3 => ?_) (fun h3 => ?_)
    · have h3 : op < 0 := h3
      rw [if_pos h3]
      repeat' first | refine T.seq ?_ | refine T.block ?_ | refine T.r ?_ | refine J.e rfl rfl rfl rfl ?_ | refine J.nil ?_ | refine J.skip rfl rfl rfl ?_ | refine T.skip ?_ | refine T.exit ?_ | refine T.ret ?_ | refine T.rd rfl (by kernel_rfl) ?_ | refine J.bx rfl rfl rfl rfl rfl rfl ?_
      exact ⟨.v rfl rfl rfl (fun h => by cases h) .nil, _, rfl, rfl⟩
    · have h3 : ¬ op < 0 := h3
      rw [if_neg h3]
      obtain ⟨j, rfl⟩ : ∃ j : Nat, op = j := ⟨op.toNat, by omega⟩
      rw [Int.toNat_natCast]
      have hj : j < c.vars.length := by omega
      have hv := hvin _ (varAt_mem hj)
      have hk := hck _ (show coefAt c j ∈ c.coefs by unfold coefAt; rw [getD_at (by omega)]; exact List.getElem_mem _)
      have hx := hdom _ (domAt_mem hv.2)
      have hrow : (d.map cD)[(varAt c j).toNat]? = some (cD (domAt d (varAt c j))) := by simp [domAt_some hv.2]
      have hkr := coefAt_row (c := c) (k := j) (by omega)
      have hvr := varAt_row (c := c) (k := j) hj
      have hk0 := hk.1
      have hln := hx.len
      have hls := hsm _ (domAt_mem hv.2)
      have hm := fun x => (minus_spec (domAt d (varAt c j)) [(x, x)] (by simp) (by simp only [List.length_singleton]; omega)).frz
      generalize varAt c j = v at *
      generalize coefAt c j = k at *
      generalize domAt d v = dv at *
      repeat' first | refine T.seq ?_ | refine T.block ?_ | refine T.r ?_ | refine J.e rfl rfl rfl rfl ?_ | refine J.nil ?_ | refine J.skip rfl rfl rfl ?_ | refine T.skip ?_ | refine T.exit ?_ | refine T.ret ?_ | refine T.rd rfl (by kernel_rfl) ?_ | refine J.bx rfl rfl rfl rfl rfl rfl ?_
      refine J.i rfl rfl rfl rfl rfl rfl rfl rfl rfl (r := cI v) (by omega) hvr rfl ?_
      repeat' first | refine T.seq ?_ | refine T.block ?_ | refine T.r ?_ | refine J.e rfl rfl rfl rfl ?_ | refine J.nil ?_ | refine J.skip rfl rfl rfl ?_ | refine T.skip ?_ | refine T.exit ?_ | refine T.ret ?_ | refine T.rd rfl (by kernel_rfl) ?_ | refine J.bx rfl rfl rfl rfl rfl rfl ?_
      refine J.i rfl rfl rfl rfl rfl rfl rfl rfl rfl (r := cI k) (by omega) hkr rfl ?_
      repeat' first | refine T.seq ?_ | refine T.block ?_ | refine T.r ?_ | refine J.e rfl rfl rfl rfl ?_ | refine J.nil ?_ | refine J.skip rfl rfl rfl ?_ | refine T.skip ?_ | refine T.exit ?_ | refine T.ret ?_ | refine T.rd rfl (by kernel_rfl) ?_ | refine J.bx rfl rfl rfl rfl rfl rfl ?_
      refine J.rm rfl rfl rfl rfl rfl rfl hk0 ?_
      repeat' first | refine T.seq ?_ | refine T.block ?_ | refine T.r ?_ | refine J.e rfl rfl rfl rfl ?_ | refine J.nil ?_ | refine J.skip rfl rfl rfl ?_ | refine T.skip ?_ | refine T.exit ?_ | refine T.ret ?_ | refine T.rd rfl (by kernel_rfl) ?_ | refine J.bx rfl rfl rfl rfl rfl rfl ?_
      refine T.cd rfl (fun h4 => ?_) (fun h4 => ?_)
      · have h4 : (wr (c.rhs - s)).tmod k = 0 := h4
        rw [if_pos h4]
        repeat' first | refine T.seq ?_ | refine T.block ?_ | refine T.r ?_ | refine J.e rfl rfl rfl rfl ?_ | refine J.nil ?_ | refine J.skip rfl rfl rfl ?_ | refine T.skip ?_ | refine T.exit ?_ | refine T.ret ?_ | refine T.rd rfl (by kernel_rfl) ?_ | refine J.bx rfl rfl rfl rfl rfl rfl ?_
        refine J.qu rfl rfl rfl rfl rfl rfl hk0 ?_
        repeat' first | refine T.seq ?_ | refine T.block ?_ | refine T.r ?_ | refine J.e rfl rfl rfl rfl ?_ | refine J.nil ?_ | refine J.skip rfl rfl rfl ?_ | refine T.skip ?_ | refine T.exit ?_ | refine T.ret ?_ | refine T.rd rfl (by kernel_rfl) ?_ | refine J.bx rfl rfl rfl rfl rfl rfl ?_
        refine J.io rfl rfl rfl rfl rfl rfl rfl rfl rfl hv.1 (by simpa using hv.2) rfl ?_
        refine J.lo rfl rfl rfl rfl rfl rfl (r := cD dv) hrow rfl ?_
        repeat' first | refine T.seq ?_ | refine T.block ?_ | refine T.r ?_ | refine J.e rfl rfl rfl rfl ?_ | refine J.nil ?_ | refine J.skip rfl rfl rfl ?_ | refine T.skip ?_ | refine T.exit ?_ | refine T.ret ?_ | refine T.rd rfl (by kernel_rfl) ?_ | refine J.bx rfl rfl rfl rfl rfl rfl ?_
        refine J.bv rfl rfl rfl rfl rfl rfl rfl rfl rfl rfl rfl rfl ?_
        refine J.cc rfl rfl rfl rfl rfl (hm _) rfl rfl ?_
        refine J.io rfl rfl rfl rfl rfl rfl rfl rfl rfl hv.1 (by simpa using hv.2) rfl ?_
        refine J.w1 rfl rfl rfl rfl rfl rfl rfl rfl rfl rfl rfl (fun _ => rfl) hv.2 ?_
        repeat' first | refine T.seq ?_ | refine T.block ?_ | refine T.r ?_ | refine J.e rfl rfl rfl rfl ?_ | refine J.nil ?_ | refine J.skip rfl rfl rfl ?_ | refine T.skip ?_ | refine T.exit ?_ | refine T.ret ?_ | refine T.rd rfl (by kernel_rfl) ?_ | refine J.bx rfl rfl rfl rfl rfl rfl ?_
        refine J.io rfl rfl rfl rfl rfl rfl rfl rfl rfl hv.1 (by simpa using hv.2) rfl ?_
        refine J.lo rfl rfl rfl rfl rfl rfl (r := cD (minusW dv [(wr ((wr (c.rhs - s)).tdiv k), wr ((wr (c.rhs - s)).tdiv k))])) (by rw [List.getElem?_map, List.getElem?_set_self hv.2]; rfl) rfl ?_
        repeat' first | refine T.seq ?_ | refine T.block ?_ | refine T.r ?_ | refine J.e rfl rfl rfl rfl ?_ | refine J.nil ?_ | refine J.skip rfl rfl rfl ?_ | refine T.skip ?_ | refine T.exit ?_ | refine T.ret ?_ | refine T.rd rfl (by kernel_rfl) ?_ | refine J.bx rfl rfl rfl rfl rfl rfl ?_
        exact ⟨.v rfl rfl (by simp only [List.length_map]; congr 1; simp) (fun h => by cases h) .nil, _, rfl, rfl⟩
      · have h4 : ¬ (wr (c.rhs - s)).tmod k = 0 := h4
        rw [if_neg h4]
        repeat' first | refine T.seq ?_ | refine T.block ?_ | refine T.r ?_ | refine J.e rfl rfl rfl rfl ?_ | refine J.nil ?_ | refine J.skip rfl rfl rfl ?_ | refine T.skip ?_ | refine T.exit ?_ | refine T.ret ?_ | refine T.rd rfl (by kernel_rfl) ?_ | refine J.bx rfl rfl rfl rfl rfl rfl ?_
        refine J.io rfl rfl rfl rfl rfl rfl rfl rfl rfl hv.1 (by simpa using hv.2) rfl ?_
        refine J.lo rfl rfl rfl rfl rfl rfl (r := cD dv) hrow rfl ?_
        repeat' first | refine T.seq ?_ | refine T.block ?_ | refine T.r ?_ | refine J.e rfl rfl rfl rfl ?_ | refine J.nil ?_ | refine J.skip rfl rfl rfl ?_ | refine T.skip ?_ | refine T.exit ?_ | refine T.ret ?_ | refine T.rd rfl (by kernel_rfl) ?_ | refine J.bx rfl rfl rfl rfl rfl rfl ?_
        exact ⟨.v rfl rfl (by simp only [List.length_map]; congr 1; simp) (fun h => by cases h) .nil, _, rfl, rfl⟩
end Go.Proofs.Ytchajofdjeijfaa
