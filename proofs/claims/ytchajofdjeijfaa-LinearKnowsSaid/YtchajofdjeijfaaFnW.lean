/- Contracts: sums, pruned by the document. -/
import Derived.Test.YtchajofdjeijfaaFnV
namespace Go.Proofs.Ytchajofdjeijfaa
open Go Go.RowKit
set_option linter.unusedVariables false
set_option linter.unusedSimpArgs false
set_option maxRecDepth 8000

def hd0 (l : List Int) : Int := l.getD 0 0
def rotherGo : Nat → List (List (Int × Int) × Int) → Nat → Int → Nat → Nat × Int × Nat
  | _, [], m, s, a => (m, s, a)
  | i, t :: ts, m, s, a => if 1 < (vals t.1).length then rotherGo (i + 1) ts (m + 1) s i else rotherGo (i + 1) ts m (wr (s + wr (t.2 * hd0 (vals t.1)))) a
def rotherW (d : Doms) (c : Con) : Doms :=
  let r := rotherGo 0 (termsOf d c.vars c.coefs) 0 0 0
  if 1 < r.1 then d else
  if r.1 = 0 then (if r.2.1 = c.rhs then d.set (varAt c 0).toNat [] else d) else
  d.set (varAt c r.2.2).toNat (pack ((vals (domAt d (varAt c r.2.2))).filter fun v => decide (wr (r.2.1 + wr (coefAt c r.2.2 * v)) ≠ c.rhs)))
theorem rotherGo_in : ∀ (ts : List (List (Int × Int) × Int)) (i m a : Nat) (s : Int) (n : Nat), a < n → i + ts.length ≤ n → m ≤ i → (rotherGo i ts m s a).2.2 < n ∧ (rotherGo i ts m s a).1 ≤ i + ts.length
  | [], i, m, a, s, n, h, _, hm => by simp [rotherGo]; omega
  | t :: ts, i, m, a, s, n, h, hn, hm => by
    simp only [List.length_cons] at hn ⊢
    rw [rotherGo]
    split
    · have := rotherGo_in ts (i + 1) (m + 1) i s n (by omega) (by omega) (by omega)
      omega
    · have := rotherGo_in ts (i + 1) m a (wr (s + wr (t.2 * hd0 (vals t.1)))) n h (by omega) (by omega)
      omega
theorem rother_spec (d : Doms) (c : Con) (h : SumIn d c.vars c.coefs) (hpos : 0 < c.vars.length) (hne : ∀ v ∈ c.vars, vals (domAt d v) ≠ []) :
    Spec Try.prog 51 false [doms d, .agg (cC c)] [.own 38 1 ((rotherW d c).map cD)] := by
  refine Spec.body Try.func51 rfl rfl rfl fun w0 Z0 => ?_
  obtain ⟨hlen, hvl, hvin, hck, hdom, hdl⟩ := h
  unfold rotherW
  have hin := rotherGo_in (termsOf d c.vars c.coefs) 0 0 0 0 c.vars.length hpos (by simp [termsOf]; omega) (Nat.le_refl _)
  generalize hgo : rotherGo 0 (termsOf d c.vars c.coefs) 0 0 0 = go at hin
  simp only
  repeat' first | refine T.seq ?_ | refine T.block ?_ | refine T.r ?_ | refine J.e rfl rfl rfl rfl ?_ | refine J.nil ?_ | refine J.skip rfl rfl rfl ?_ | refine T.skip ?_ | refine T.exit ?_ | refine T.ret ?_ | refine T.rd rfl (by kernel_rfl) ?_ | refine J.bx rfl rfl rfl rfl rfl rfl ?_
  refine J.cc rfl rfl rfl rfl rfl (lists_spec d hdl (fun x hx => (hdom x hx).2.2)) rfl rfl ?_
  repeat' first | refine T.seq ?_ | refine T.block ?_ | refine T.r ?_ | refine J.e rfl rfl rfl rfl ?_ | refine J.nil ?_ | refine J.skip rfl rfl rfl ?_ | refine T.skip ?_ | refine T.exit ?_ | refine T.ret ?_ | refine T.rd rfl (by kernel_rfl) ?_ | refine J.bx rfl rfl rfl rfl rfl rfl ?_
  refine T.canon (keep := [0, 3, 5, 6, 7, 8, 9]) (os := [3, 5]) rfl (T.ind (fun s : Nat × Nat × Int × Nat => ⟨[(0, .val false (doms d)), (3, .optr 0 0 0 0), (5, .ref 1), (6, .val true (.int .i64 s.2.1)), (7, .val true (.int .i64 s.2.2.1)), (8, .val true (.int .i64 s.2.2.2)), (9, .val true (.int .i64 s.1))], [(0, some (.box false (cC c))), (1, some (.sl 38 1 true (d.map cD)))], 2⟩)
    (fun s => s.1 ≤ c.vars.length ∧ s.2.1 ≤ s.1 ∧ rotherGo s.1 ((termsOf d c.vars c.coefs).drop s.1) s.2.1 s.2.2.1 s.2.2.2 = go) (fun s => c.vars.length - s.1) (0, 0, 0, 0) ⟨by simp, by simp, hgo⟩ (fun _ _ h => h) ?_)
  rintro ⟨i, m, s, a⟩ ⟨hil, hmi, he⟩ ih
  simp only at hil hmi he
  dsimp only
  repeat' first | refine T.seq ?_ | refine T.block ?_ | refine T.r ?_ | refine J.e rfl rfl rfl rfl ?_ | refine J.nil ?_ | refine J.skip rfl rfl rfl ?_ | refine T.skip ?_ | refine T.exit ?_ | refine T.ret ?_ | refine T.rd rfl (by kernel_rfl) ?_ | refine J.bx rfl rfl rfl rfl rfl rfl ?_
  refine T.cd rfl (fun h1 => ?_) (fun h1 => ?_)
  · have h1 : i < c.vars.length := by simpa using h1
    have h2 : i < c.coefs.length := by omega
    have hv := hvin _ (List.getElem_mem h1)
    have hx := hdom _ (domAt_mem hv.2)
    have hrow : (d.map cD)[c.vars[i].toNat]? = some (cD (domAt d c.vars[i])) := by simp [domAt_some hv.2]
    have hnv := hne _ (List.getElem_mem h1)
    have hvx := values_spec (domAt d c.vars[i]) hx.1 (by have := hx.2.1; omega) hx.2.2
    rw [terms_cons h1 h2, rotherGo] at he
    simp only at he
    generalize vals (domAt d c.vars[i]) = l at *
    repeat' first | refine T.seq ?_ | refine T.block ?_ | refine T.r ?_ | refine J.e rfl rfl rfl rfl ?_ | refine J.nil ?_ | refine J.skip rfl rfl rfl ?_ | refine T.skip ?_ | refine T.exit ?_ | refine T.ret ?_ | refine T.rd rfl (by kernel_rfl) ?_ | refine J.bx rfl rfl rfl rfl rfl rfl ?_
    refine J.i rfl rfl rfl rfl rfl rfl rfl rfl rfl (r := cI c.vars[i]) (by omega) (row_i h1) rfl ?_
    repeat' first | refine T.seq ?_ | refine T.block ?_ | refine T.r ?_ | refine J.e rfl rfl rfl rfl ?_ | refine J.nil ?_ | refine J.skip rfl rfl rfl ?_ | refine T.skip ?_ | refine T.exit ?_ | refine T.ret ?_ | refine T.rd rfl (by kernel_rfl) ?_ | refine J.bx rfl rfl rfl rfl rfl rfl ?_
    refine J.i rfl rfl rfl rfl rfl rfl rfl rfl rfl (r := cD (domAt d c.vars[i])) hv.1 hrow rfl ?_
    repeat' first | refine T.seq ?_ | refine T.block ?_ | refine T.r ?_ | refine J.e rfl rfl rfl rfl ?_ | refine J.nil ?_ | refine J.skip rfl rfl rfl ?_ | refine T.skip ?_ | refine T.exit ?_ | refine T.ret ?_ | refine T.rd rfl (by kernel_rfl) ?_ | refine J.bx rfl rfl rfl rfl rfl rfl ?_
    refine J.cc rfl rfl rfl rfl rfl hvx rfl rfl ?_
    repeat' first | refine T.seq ?_ | refine T.block ?_ | refine T.r ?_ | refine J.e rfl rfl rfl rfl ?_ | refine J.nil ?_ | refine J.skip rfl rfl rfl ?_ | refine T.skip ?_ | refine T.exit ?_ | refine T.ret ?_ | refine T.rd rfl (by kernel_rfl) ?_ | refine J.bx rfl rfl rfl rfl rfl rfl ?_
    refine T.cd rfl (fun h3 => ?_) (fun h3 => ?_)
    · have h3 : 1 < l.length := by
        have h3 : ((l.map cI).length : Int) > 1 := h3
        simp only [List.length_map] at h3; omega
      rw [if_pos h3] at he
      repeat' first | refine T.seq ?_ | refine T.block ?_ | refine T.r ?_ | refine J.e rfl rfl rfl rfl ?_ | refine J.nil ?_ | refine J.skip rfl rfl rfl ?_ | refine T.skip ?_ | refine T.exit ?_ | refine T.ret ?_ | refine T.rd rfl (by kernel_rfl) ?_ | refine J.bx rfl rfl rfl rfl rfl rfl ?_
      rw [wrap1 (l := c.vars.length) (n := m) (by omega) (by omega), wrap1 (l := c.vars.length) (n := i) (by omega) (by omega)]
      exact T.canon (keep := [0, 3, 5, 6, 7, 8, 9]) (os := [3, 5]) rfl (ih (i + 1, m + 1, s, i) ⟨by simp only; omega, by simp only; omega, he⟩ (by simp only; omega))
    · have h3 : ¬ 1 < l.length := by
        have h3 : ¬ ((l.map cI).length : Int) > 1 := h3
        simp only [List.length_map] at h3; omega
      rw [if_neg h3] at he
      obtain ⟨x, rfl⟩ : ∃ x, l = [x] := by
        cases l with
        | nil => exact absurd rfl hnv
        | cons x l => cases l with
          | nil => exact ⟨x, rfl⟩
          | cons y l => simp at h3
      repeat' first | refine T.seq ?_ | refine T.block ?_ | refine T.r ?_ | refine J.e rfl rfl rfl rfl ?_ | refine J.nil ?_ | refine J.skip rfl rfl rfl ?_ | refine T.skip ?_ | refine T.exit ?_ | refine T.ret ?_ | refine T.rd rfl (by kernel_rfl) ?_ | refine J.bx rfl rfl rfl rfl rfl rfl ?_
      refine J.i rfl rfl rfl rfl rfl rfl rfl rfl rfl (r := cI c.coefs[i]) (by omega) (row_i h2) rfl ?_
      repeat' first | refine T.seq ?_ | refine T.block ?_ | refine T.r ?_ | refine J.e rfl rfl rfl rfl ?_ | refine J.nil ?_ | refine J.skip rfl rfl rfl ?_ | refine T.skip ?_ | refine T.exit ?_ | refine T.ret ?_ | refine T.rd rfl (by kernel_rfl) ?_ | refine J.bx rfl rfl rfl rfl rfl rfl ?_
      refine J.io rfl rfl rfl rfl rfl rfl rfl rfl rfl (by decide) (by simp) rfl ?_
      refine J.lo rfl rfl rfl rfl rfl rfl (r := cI x) rfl rfl ?_
      repeat' first | refine T.seq ?_ | refine T.block ?_ | refine T.r ?_ | refine J.e rfl rfl rfl rfl ?_ | refine J.nil ?_ | refine J.skip rfl rfl rfl ?_ | refine T.skip ?_ | refine T.exit ?_ | refine T.ret ?_ | refine T.rd rfl (by kernel_rfl) ?_ | refine J.bx rfl rfl rfl rfl rfl rfl ?_
      rw [wrap1 (l := c.vars.length) (n := i) (by omega) (by omega)]
      exact T.canon (keep := [0, 3, 5, 6, 7, 8, 9]) (os := [3, 5]) rfl (ih (i + 1, m, wr (s + wr (c.coefs[i] * x)), a) ⟨by simp only; omega, by simp only; omega, he⟩ (by simp only; omega))
  · have h1 : i = c.vars.length := by simp at h1; omega
    subst h1
    rw [terms_end hlen, rotherGo] at he
    subst he
    clear ih
    simp only at hin ⊢
    repeat' first | refine T.seq ?_ | refine T.block ?_ | refine T.r ?_ | refine J.e rfl rfl rfl rfl ?_ | refine J.nil ?_ | refine J.skip rfl rfl rfl ?_ | refine T.skip ?_ | refine T.exit ?_ | refine T.ret ?_ | refine T.rd rfl (by kernel_rfl) ?_ | refine J.bx rfl rfl rfl rfl rfl rfl ?_
    refine T.cd rfl (fun h3 => ?_) (fun h3 => ?_)
    · have h3 : 1 < m := by have h3 : (m : Int) > 1 := h3; omega
      rw [if_pos h3]
      repeat' first | refine T.seq ?_ | refine T.block ?_ | refine T.r ?_ | refine J.e rfl rfl rfl rfl ?_ | refine J.nil ?_ | refine J.skip rfl rfl rfl ?_ | refine T.skip ?_ | refine T.exit ?_ | refine T.ret ?_ | refine T.rd rfl (by kernel_rfl) ?_ | refine J.bx rfl rfl rfl rfl rfl rfl ?_
      exact ⟨_, .o rfl rfl rfl (fun _ => .inl rfl) (by simp) .nil⟩
    · have h3 : ¬ 1 < m := by have h3 : ¬ (m : Int) > 1 := h3; omega
      rw [if_neg h3]
      repeat' first | refine T.seq ?_ | refine T.block ?_ | refine T.r ?_ | refine J.e rfl rfl rfl rfl ?_ | refine J.nil ?_ | refine J.skip rfl rfl rfl ?_ | refine T.skip ?_ | refine T.exit ?_ | refine T.ret ?_ | refine T.rd rfl (by kernel_rfl) ?_ | refine J.bx rfl rfl rfl rfl rfl rfl ?_
      refine T.cd rfl (fun h4 => ?_) (fun h4 => ?_)
      · have h4 : m = 0 := by have h4 : (m : Int) = 0 := h4; omega
        rw [if_pos h4]
        repeat' first | refine T.seq ?_ | refine T.block ?_ | refine T.r ?_ | refine J.e rfl rfl rfl rfl ?_ | refine J.nil ?_ | refine J.skip rfl rfl rfl ?_ | refine T.skip ?_ | refine T.exit ?_ | refine T.ret ?_ | refine T.rd rfl (by kernel_rfl) ?_ | refine J.bx rfl rfl rfl rfl rfl rfl ?_
        refine T.cd rfl (fun h5 => ?_) (fun h5 => ?_)
        · have h5 : s = c.rhs := h5
          rw [if_pos h5]
          have hv := hvin _ (varAt_mem (c := c) (k := 0) hpos)
          have hvr := varAt_row (c := c) (k := 0) hpos
          repeat' first | refine T.seq ?_ | refine T.block ?_ | refine T.r ?_ | refine J.e rfl rfl rfl rfl ?_ | refine J.nil ?_ | refine J.skip rfl rfl rfl ?_ | refine T.skip ?_ | refine T.exit ?_ | refine T.ret ?_ | refine T.rd rfl (by kernel_rfl) ?_ | refine J.bx rfl rfl rfl rfl rfl rfl ?_
          refine J.i rfl rfl rfl rfl rfl rfl rfl rfl rfl (r := cI (varAt c 0)) (by omega) hvr rfl ?_
          repeat' first | refine T.seq ?_ | refine T.block ?_ | refine T.r ?_ | refine J.e rfl rfl rfl rfl ?_ | refine J.nil ?_ | refine J.skip rfl rfl rfl ?_ | refine T.skip ?_ | refine T.exit ?_ | refine T.ret ?_ | refine T.rd rfl (by kernel_rfl) ?_ | refine J.bx rfl rfl rfl rfl rfl rfl ?_
          refine J.bv rfl rfl rfl rfl rfl rfl rfl rfl rfl rfl rfl rfl ?_
          refine J.io rfl rfl rfl rfl rfl rfl rfl rfl rfl hv.1 (by simpa using hv.2) rfl ?_
          refine J.w1 rfl rfl rfl rfl rfl rfl rfl rfl rfl rfl rfl (z := []) (fun _ => rfl) hv.2 ?_
          repeat' first | refine T.seq ?_ | refine T.block ?_ | refine T.r ?_ | refine J.e rfl rfl rfl rfl ?_ | refine J.nil ?_ | refine J.skip rfl rfl rfl ?_ | refine T.skip ?_ | refine T.exit ?_ | refine T.ret ?_ | refine T.rd rfl (by kernel_rfl) ?_ | refine J.bx rfl rfl rfl rfl rfl rfl ?_
          exact ⟨_, .o rfl rfl rfl (fun _ => .inl rfl) (by simp) .nil⟩
        · have h5 : ¬ s = c.rhs := h5
          rw [if_neg h5]
          repeat' first | refine T.seq ?_ | refine T.block ?_ | refine T.r ?_ | refine J.e rfl rfl rfl rfl ?_ | refine J.nil ?_ | refine J.skip rfl rfl rfl ?_ | refine T.skip ?_ | refine T.exit ?_ | refine T.ret ?_ | refine T.rd rfl (by kernel_rfl) ?_ | refine J.bx rfl rfl rfl rfl rfl rfl ?_
          exact ⟨_, .o rfl rfl rfl (fun _ => .inl rfl) (by simp) .nil⟩
      · have h4 : ¬ m = 0 := by have h4 : ¬ (m : Int) = 0 := h4; omega
        rw [if_neg h4]
        have hj := hin.1
        have hv := hvin _ (varAt_mem hj)
        have hx := hdom _ (domAt_mem hv.2)
        have hrow : (d.map cD)[(varAt c a).toNat]? = some (cD (domAt d (varAt c a))) := by simp [domAt_some hv.2]
        have hkr := coefAt_row (c := c) (k := a) (by omega)
        have hvr := varAt_row (c := c) (k := a) hj
        have hvx := values_spec (domAt d (varAt c a)) hx.1 (by have := hx.2.1; omega) hx.2.2
        have hvin2 := vals_in hx.1
        have hvl2 := hx.2.1
        generalize vals (domAt d (varAt c a)) = l at *
        generalize varAt c a = v at *
        generalize coefAt c a = k at *
        repeat' first | refine T.seq ?_ | refine T.block ?_ | refine T.r ?_ | refine J.e rfl rfl rfl rfl ?_ | refine J.nil ?_ | refine J.skip rfl rfl rfl ?_ | refine T.skip ?_ | refine T.exit ?_ | refine T.ret ?_ | refine T.rd rfl (by kernel_rfl) ?_ | refine J.bx rfl rfl rfl rfl rfl rfl ?_
        refine J.i rfl rfl rfl rfl rfl rfl rfl rfl rfl (r := cI v) (by omega) hvr rfl ?_
        repeat' first | refine T.seq ?_ | refine T.block ?_ | refine T.r ?_ | refine J.e rfl rfl rfl rfl ?_ | refine J.nil ?_ | refine J.skip rfl rfl rfl ?_ | refine T.skip ?_ | refine T.exit ?_ | refine T.ret ?_ | refine T.rd rfl (by kernel_rfl) ?_ | refine J.bx rfl rfl rfl rfl rfl rfl ?_
        refine J.i rfl rfl rfl rfl rfl rfl rfl rfl rfl (r := cD (domAt d v)) hv.1 hrow rfl ?_
        repeat' first | refine T.seq ?_ | refine T.block ?_ | refine T.r ?_ | refine J.e rfl rfl rfl rfl ?_ | refine J.nil ?_ | refine J.skip rfl rfl rfl ?_ | refine T.skip ?_ | refine T.exit ?_ | refine T.ret ?_ | refine T.rd rfl (by kernel_rfl) ?_ | refine J.bx rfl rfl rfl rfl rfl rfl ?_
        refine J.cc rfl rfl rfl rfl rfl hvx rfl rfl ?_
        refine J.bo rfl rfl rfl rfl rfl rfl rfl rfl rfl rfl rfl rfl ?_
        repeat' first | refine T.seq ?_ | refine T.block ?_ | refine T.r ?_ | refine J.e rfl rfl rfl rfl ?_ | refine J.nil ?_ | refine J.skip rfl rfl rfl ?_ | refine T.skip ?_ | refine T.exit ?_ | refine T.ret ?_ | refine T.rd rfl (by kernel_rfl) ?_ | refine J.bx rfl rfl rfl rfl rfl rfl ?_
        refine T.canon (keep := [3, 5, 7, 8, 11, 12, 13]) (os := [3, 5, 11, 12]) rfl (T.ind (fun n : Nat => ⟨[(3, .optr 0 0 0 0), (5, .ref 1), (7, .val true (.int .i64 s)), (8, .val true (.int .i64 a)), (11, .ref 2), (12, .ref 3), (13, .val true (.int .i64 n))], [(0, some (.box false (cC c))), (1, some (.sl 38 1 true (d.map cD))), (2, some (.sl 3 1 true (l.map cI))), (3, some (.sl 3 1 true (((l.take n).filter fun v => decide (wr (s + wr (k * v)) ≠ c.rhs)).map cI)))], 4⟩)
          (fun n => n ≤ l.length) (fun n => l.length - n) 0 (by simp) (fun _ _ h => h) ?_)
        rintro n hn ih
        repeat' first | refine T.seq ?_ | refine T.block ?_ | refine T.r ?_ | refine J.e rfl rfl rfl rfl ?_ | refine J.nil ?_ | refine J.skip rfl rfl rfl ?_ | refine T.skip ?_ | refine T.exit ?_ | refine T.ret ?_ | refine T.rd rfl (by kernel_rfl) ?_ | refine J.bx rfl rfl rfl rfl rfl rfl ?_
        refine T.cd rfl (fun h5 => ?_) (fun h5 => ?_)
        · have h5 : n < l.length := by simpa using h5
          have hfl : ((l.take n).filter fun v => decide (wr (s + wr (k * v)) ≠ c.rhs)).length ≤ n := by
            refine Nat.le_trans (List.length_filter_le _ _) ?_
            simp; omega
          have e : (l.take (n + 1)).filter (fun v => decide (wr (s + wr (k * v)) ≠ c.rhs)) = (l.take n).filter (fun v => decide (wr (s + wr (k * v)) ≠ c.rhs)) ++ if wr (s + wr (k * l[n])) ≠ c.rhs then [l[n]] else [] := by
            rw [List.take_succ_eq_append_getElem h5, List.filter_append]
            congr 1
            by_cases hc : wr (s + wr (k * l[n])) = c.rhs
            · simp [hc]
            · simp [hc]
          repeat' first | refine T.seq ?_ | refine T.block ?_ | refine T.r ?_ | refine J.e rfl rfl rfl rfl ?_ | refine J.nil ?_ | refine J.skip rfl rfl rfl ?_ | refine T.skip ?_ | refine T.exit ?_ | refine T.ret ?_ | refine T.rd rfl (by kernel_rfl) ?_ | refine J.bx rfl rfl rfl rfl rfl rfl ?_
          refine J.i rfl rfl rfl rfl rfl rfl rfl rfl rfl (r := cI k) (by omega) hkr rfl ?_
          repeat' first | refine T.seq ?_ | refine T.block ?_ | refine T.r ?_ | refine J.e rfl rfl rfl rfl ?_ | refine J.nil ?_ | refine J.skip rfl rfl rfl ?_ | refine T.skip ?_ | refine T.exit ?_ | refine T.ret ?_ | refine T.rd rfl (by kernel_rfl) ?_ | refine J.bx rfl rfl rfl rfl rfl rfl ?_
          refine J.io rfl rfl rfl rfl rfl rfl rfl rfl rfl (by omega) (by simpa using h5) rfl ?_
          refine J.lo rfl rfl rfl rfl rfl rfl (r := cI l[n]) (row_i h5) rfl ?_
          repeat' first | refine T.seq ?_ | refine T.block ?_ | refine T.r ?_ | refine J.e rfl rfl rfl rfl ?_ | refine J.nil ?_ | refine J.skip rfl rfl rfl ?_ | refine T.skip ?_ | refine T.exit ?_ | refine T.ret ?_ | refine T.rd rfl (by kernel_rfl) ?_ | refine J.bx rfl rfl rfl rfl rfl rfl ?_
          refine T.cd rfl (fun h6 => ?_) (fun h6 => ?_)
          · rw [if_pos h6] at e
            repeat' first | refine T.seq ?_ | refine T.block ?_ | refine T.r ?_ | refine J.e rfl rfl rfl rfl ?_ | refine J.nil ?_ | refine J.skip rfl rfl rfl ?_ | refine T.skip ?_ | refine T.exit ?_ | refine T.ret ?_ | refine T.rd rfl (by kernel_rfl) ?_ | refine J.bx rfl rfl rfl rfl rfl rfl ?_
            refine J.io rfl rfl rfl rfl rfl rfl rfl rfl rfl (by omega) (by simpa using h5) rfl ?_
            refine J.lo rfl rfl rfl rfl rfl rfl (r := cI l[n]) (row_i h5) rfl ?_
            repeat' first | refine T.seq ?_ | refine T.block ?_ | refine T.r ?_ | refine J.e rfl rfl rfl rfl ?_ | refine J.nil ?_ | refine J.skip rfl rfl rfl ?_ | refine T.skip ?_ | refine T.exit ?_ | refine T.ret ?_ | refine T.rd rfl (by kernel_rfl) ?_ | refine J.bx rfl rfl rfl rfl rfl rfl ?_
            refine J.bv rfl rfl rfl rfl rfl rfl rfl rfl rfl rfl rfl rfl ?_
            refine J.aI rfl rfl rfl rfl rfl rfl rfl rfl rfl rfl rfl rfl rfl rfl rfl rfl rfl rfl rfl (by omega) ?_
            repeat' first | refine T.seq ?_ | refine T.block ?_ | refine T.r ?_ | refine J.e rfl rfl rfl rfl ?_ | refine J.nil ?_ | refine J.skip rfl rfl rfl ?_ | refine T.skip ?_ | refine T.exit ?_ | refine T.ret ?_ | refine T.rd rfl (by kernel_rfl) ?_ | refine J.bx rfl rfl rfl rfl rfl rfl ?_
            rw [wrap1 (l := l.length) (by omega) (by omega), ← e]
            exact T.canon (keep := [3, 5, 7, 8, 11, 12, 13]) (os := [3, 5, 11, 12]) rfl (ih (n + 1) (by omega) (by omega))
          · rw [if_neg h6, List.append_nil] at e
            repeat' first | refine T.seq ?_ | refine T.block ?_ | refine T.r ?_ | refine J.e rfl rfl rfl rfl ?_ | refine J.nil ?_ | refine J.skip rfl rfl rfl ?_ | refine T.skip ?_ | refine T.exit ?_ | refine T.ret ?_ | refine T.rd rfl (by kernel_rfl) ?_ | refine J.bx rfl rfl rfl rfl rfl rfl ?_
            rw [wrap1 (l := l.length) (by omega) (by omega), ← e]
            exact T.canon (keep := [3, 5, 7, 8, 11, 12, 13]) (os := [3, 5, 11, 12]) rfl (ih (n + 1) (by omega) (by omega))
        · have h5 : n = l.length := by simp at h5; omega
          subst h5
          rw [List.take_length]
          have hpk := (pack_spec (l.filter fun v => decide (wr (s + wr (k * v)) ≠ c.rhs)) (fun v hv => by
            have := hvin2 v (List.mem_filter.1 hv).1
            omega) (by
            have : (l.filter fun v => decide (wr (s + wr (k * v)) ≠ c.rhs)).length ≤ l.length := List.length_filter_le _ _
            omega)).frz
          repeat' first | refine T.seq ?_ | refine T.block ?_ | refine T.r ?_ | refine J.e rfl rfl rfl rfl ?_ | refine J.nil ?_ | refine J.skip rfl rfl rfl ?_ | refine T.skip ?_ | refine T.exit ?_ | refine T.ret ?_ | refine J.bx rfl rfl rfl rfl rfl rfl ?_
          refine T.rdw 10 rfl (by kernel_rfl) rfl ?_
          repeat' first | refine J.e rfl rfl rfl rfl ?_ | refine J.skip rfl rfl rfl ?_ | refine J.bx rfl rfl rfl rfl rfl rfl ?_
          refine J.i rfl rfl rfl rfl rfl rfl rfl rfl rfl (r := cI v) (by omega) hvr rfl ?_
          repeat' first | refine J.e rfl rfl rfl rfl ?_ | refine J.skip rfl rfl rfl ?_ | refine J.bx rfl rfl rfl rfl rfl rfl ?_
          refine J.cc rfl rfl rfl rfl rfl hpk rfl rfl ?_
          refine J.io rfl rfl rfl rfl rfl rfl rfl rfl rfl hv.1 (by simpa using hv.2) rfl ?_
          refine J.wd1 rfl rfl rfl rfl rfl rfl rfl rfl rfl rfl rfl (enc := cD) (z := pack (l.filter fun v => decide (wr (s + wr (k * v)) ≠ c.rhs))) (fun _ => rfl) hv.2 ?_
          refine J.nil ?_
          refine ⟨rfl, ?_⟩
          repeat' first | refine T.seq ?_ | refine T.block ?_ | refine T.r ?_ | refine J.e rfl rfl rfl rfl ?_ | refine J.nil ?_ | refine J.skip rfl rfl rfl ?_ | refine T.skip ?_ | refine T.exit ?_ | refine T.ret ?_ | refine T.rd rfl (by kernel_rfl) ?_ | refine J.bx rfl rfl rfl rfl rfl rfl ?_
          exact ⟨_, .o rfl rfl rfl (fun _ => .inl rfl) (by simp) .nil⟩

/-- What is left by the document, round by round. -/
def mostD (d : Doms) (c : Con) : Doms := mostRd d c.vars c.coefs c.rhs c.vars.length
def mostB (d : Doms) (c : Con) : Doms := mostRd d c.vars (turnedW c.coefs) (wr (0 - c.rhs)) c.vars.length
def stepD (c : Con) (out : Doms) : Option Doms ⊕ Doms :=
  if c.op = 1 ∧ [] ∉ out then
    (if [] ∈ mostB out c then .inl none else if mostD (mostB out c) c = out then .inl (some out) else .inr (mostD (mostB out c) c))
  else .inl (if [] ∈ out then none else some out)
def LinAnsR (d : Doms) (c : Con) (R : Option Doms) (N : Nat) : Prop :=
  if [] ∈ d then R = none else if c.op = 2 then R = (if [] ∈ rotherW d c then none else some (rotherW d c)) else iter (stepD c) N (mostD d c) = some R
theorem rlprune_spec (d : Doms) (c : Con) (hv : c.vars.length = c.coefs.length) (hvl : c.vars.length * 8 ≤ 140737488355328) (hck : ∀ k ∈ c.coefs, CoefOk k) (hpos : 0 < c.vars.length) (hvin : ∀ v ∈ c.vars, 0 ≤ v ∧ v.toNat < d.length) (hdl : d.length * 24 ≤ 140737488355328)
    (hf : ∀ x ∈ d, Fine x) (hother : ∀ x ∈ rotherW d c, DomB x) (Inv : Doms → Prop) (hi1 : ∀ out, Inv out → (∀ x ∈ out, DomB x) ∧ out.length = d.length) (hi2 : ∀ out, Inv out → Inv (mostD out c) ∧ Inv (mostB out c)) (h0 : Inv d)
    (R : Option Doms) (N : Nat) (hR : LinAnsR d c R N) : Spec Try.prog 17 false [doms d, .agg (cC c)] [.val (doms (R.getD [])), .val (.bool R.isSome)] := by
  refine Spec.body Try.func17 rfl rfl rfl fun w0 Z0 => ?_
  unfold LinAnsR at hR
  have hsi : ∀ out, Inv out → SumIn out c.vars c.coefs := fun out hi => ⟨hv, hvl, fun v hm => by rw [(hi1 out hi).2]; exact hvin v hm, hck, (hi1 out hi).1, by rw [(hi1 out hi).2]; exact hdl⟩
  have hsb : ∀ out, Inv out → SumIn out c.vars (turnedW c.coefs) := fun out hi => ⟨by simp [turnedW, hv], hvl, fun v hm => by rw [(hi1 out hi).2]; exact hvin v hm, fun k hk => by
    obtain ⟨k0, hk0, rfl⟩ := List.mem_map.1 hk
    exact (turned_ok (hck _ hk0)).2, (hi1 out hi).1, by rw [(hi1 out hi).2]; exact hdl⟩
  have hem : ∀ out : Doms, out.length = d.length → Spec Try.prog 49 false [doms out] [.val (.bool (decide ([] ∈ out)))] := fun out hl => empty_spec out (by omega)
  have htold : ∀ out : Doms, out.length = d.length → Spec Try.prog 50 true [doms out] ([doms (if [] ∈ out then [] else out), .bool (!decide ([] ∈ out))].map .val) := fun out hl => told_spec out (by omega)
  repeat' first | refine T.seq ?_ | refine T.block ?_ | refine T.r ?_ | refine J.e rfl rfl rfl rfl ?_ | refine J.nil ?_ | refine J.skip rfl rfl rfl ?_ | refine T.skip ?_ | refine T.exit ?_ | refine T.ret ?_ | refine T.rd rfl (by kernel_rfl) ?_ | refine J.bx rfl rfl rfl rfl rfl rfl ?_
  refine J.cc rfl rfl rfl rfl rfl (hem d rfl) rfl rfl ?_
  repeat' first | refine T.seq ?_ | refine T.block ?_ | refine T.r ?_ | refine J.e rfl rfl rfl rfl ?_ | refine J.nil ?_ | refine J.skip rfl rfl rfl ?_ | refine T.skip ?_ | refine T.exit ?_ | refine T.ret ?_ | refine T.rd rfl (by kernel_rfl) ?_ | refine J.bx rfl rfl rfl rfl rfl rfl ?_
  by_cases hm : [] ∈ d
  · rw [if_pos hm] at hR
    subst hR
    rw [decide_eq_true hm]
    refine T.ct rfl ?_
    repeat' first | refine T.seq ?_ | refine T.block ?_ | refine T.r ?_ | refine J.e rfl rfl rfl rfl ?_ | refine J.nil ?_ | refine J.skip rfl rfl rfl ?_ | refine T.skip ?_ | refine T.exit ?_ | refine T.ret ?_ | refine T.rd rfl (by kernel_rfl) ?_ | refine J.bx rfl rfl rfl rfl rfl rfl ?_
    exact ⟨_, .v rfl rfl rfl (fun _ => rfl) (.v rfl rfl rfl (fun _ => rfl) .nil)⟩
  · rw [if_neg hm] at hR
    rw [decide_eq_false hm]
    refine T.cf rfl ?_
    repeat' first | refine T.seq ?_ | refine T.block ?_ | refine T.r ?_ | refine J.e rfl rfl rfl rfl ?_ | refine J.nil ?_ | refine J.skip rfl rfl rfl ?_ | refine T.skip ?_ | refine T.exit ?_ | refine T.ret ?_ | refine T.rd rfl (by kernel_rfl) ?_ | refine J.bx rfl rfl rfl rfl rfl rfl ?_
    refine T.cd rfl (fun h1 => ?_) (fun h1 => ?_)
    · have h1 : c.op = 2 := h1
      rw [if_pos h1] at hR
      have hne : ∀ v ∈ c.vars, vals (domAt d v) ≠ [] := fun v hvm e => by
        have hmem := domAt_mem (hvin v hvm).2
        have := (vals_ne (hf _ hmem).ok).1 e
        rw [this] at hmem
        exact hm hmem
      have hro := (rother_spec d c (hsi d h0) hpos hne).frz
      have hrl : (rotherW d c).length = d.length := by
        unfold rotherW
        simp only
        split
        · rfl
        · split
          · split <;> simp
          · simp
      have htl := htold _ hrl
      generalize rotherW d c = od at *
      repeat' first | refine T.seq ?_ | refine T.block ?_ | refine T.r ?_ | refine J.e rfl rfl rfl rfl ?_ | refine J.nil ?_ | refine J.skip rfl rfl rfl ?_ | refine T.skip ?_ | refine T.exit ?_ | refine T.ret ?_ | refine T.rd rfl (by kernel_rfl) ?_ | refine J.bx rfl rfl rfl rfl rfl rfl ?_
      refine J.cc rfl rfl rfl rfl rfl hro rfl rfl ?_
      refine J.ct rfl rfl rfl rfl rfl htl rfl rfl ?_
      repeat' first | refine T.seq ?_ | refine T.block ?_ | refine T.r ?_ | refine J.e rfl rfl rfl rfl ?_ | refine J.nil ?_ | refine J.skip rfl rfl rfl ?_ | refine T.skip ?_ | refine T.exit ?_ | refine T.ret ?_ | refine T.rd rfl (by kernel_rfl) ?_ | refine J.bx rfl rfl rfl rfl rfl rfl ?_
      subst hR
      by_cases he : [] ∈ od
      · rw [if_pos he, decide_eq_true he]
        rw [if_pos he]
        exact ⟨_, .v rfl rfl rfl (fun _ => rfl) (.v rfl rfl rfl (fun _ => rfl) .nil)⟩
      · rw [if_neg he, decide_eq_false he]
        rw [if_neg he]
        exact ⟨_, .v rfl rfl rfl (fun _ => rfl) (.v rfl rfl rfl (fun _ => rfl) .nil)⟩
    · have h1 : ¬ c.op = 2 := h1
      rw [if_neg h1] at hR
      repeat' first | refine T.seq ?_ | refine T.block ?_ | refine T.r ?_ | refine J.e rfl rfl rfl rfl ?_ | refine J.nil ?_ | refine J.skip rfl rfl rfl ?_ | refine T.skip ?_ | refine T.exit ?_ | refine T.ret ?_ | refine T.rd rfl (by kernel_rfl) ?_ | refine J.bx rfl rfl rfl rfl rfl rfl ?_
      refine J.cc rfl rfl rfl rfl rfl (rmost_spec d c.vars c.coefs c.rhs (hsi d h0)).frz rfl rfl ?_
      repeat' first | refine T.seq ?_ | refine T.block ?_ | refine T.r ?_ | refine J.e rfl rfl rfl rfl ?_ | refine J.nil ?_ | refine J.skip rfl rfl rfl ?_ | refine T.skip ?_ | refine T.exit ?_ | refine T.ret ?_ | refine T.rd rfl (by kernel_rfl) ?_ | refine J.bx rfl rfl rfl rfl rfl rfl ?_
      have h0' := (hi2 d h0).1
      refine T.canon (keep := [3, 6]) (os := [3]) rfl (T.ind (fun s : Nat × Doms => ⟨[(3, .optr 0 0 0 0), (6, .val true (doms s.2))], [(0, some (.box false (cC c)))], 1⟩)
        (fun s => iter (stepD c) s.1 s.2 = some R ∧ Inv s.2) (fun s => s.1) (N, mostD d c) ⟨hR, h0'⟩ (fun _ _ h => h) ?_)
      rintro ⟨m, out⟩ ⟨hR, hi⟩ ih
      simp only at hR hi
      dsimp only
      obtain ⟨hdb, hol⟩ := hi1 out hi
      have hm2 := (rmost_spec out c.vars (turnedW c.coefs) (wr (0 - c.rhs)) (hsb out hi)).frz
      obtain ⟨_, hib⟩ := hi2 out hi
      have hm1 := (rmost_spec (mostB out c) c.vars c.coefs c.rhs (hsi _ hib)).frz
      obtain ⟨hid, _⟩ := hi2 _ hib
      have hbl := (hi1 _ hib).2
      have hdl2 := (hi1 _ hid).2
      have hse := sames_spec (mostD (mostB out c) c) out (by omega) (fun x hx => by have := ((hi1 _ hid).1 x hx).2.2; omega)
      have hst : stepD c out = stepD c out := rfl
      conv at hst => rhs; unfold stepD
      have e1 : mostRd out c.vars (turnedW c.coefs) (wr (0 - c.rhs)) c.vars.length = mostB out c := rfl
      have e2 : mostRd (mostB out c) c.vars c.coefs c.rhs c.vars.length = mostD (mostB out c) c := rfl
      rw [e1] at hm2
      rw [e2] at hm1
      generalize mostD (mostB out c) c = n2 at *
      generalize mostB out c = n1 at *
      have fin : c.op ≠ 1 ∨ [] ∈ out → R = if [] ∈ out then none else some out := fun h => by
        rw [if_neg (by rintro ⟨h2, h3⟩; exact h.elim (fun h => h h2) h3)] at hst
        exact (iter_inl hR hst).symm
      repeat' first | refine T.seq ?_ | refine T.block ?_ | refine T.r ?_ | refine J.e rfl rfl rfl rfl ?_ | refine J.nil ?_ | refine J.skip rfl rfl rfl ?_ | refine T.skip ?_ | refine T.exit ?_ | refine T.ret ?_ | refine T.rd rfl (by kernel_rfl) ?_ | refine J.bx rfl rfl rfl rfl rfl rfl ?_
      refine J.g rfl rfl rfl (fun h2 => ?_) (fun h2 => ?_)
      · have h2 : c.op = 1 := h2
        repeat' first | refine T.seq ?_ | refine T.block ?_ | refine T.r ?_ | refine J.e rfl rfl rfl rfl ?_ | refine J.nil ?_ | refine J.skip rfl rfl rfl ?_ | refine T.skip ?_ | refine T.exit ?_ | refine T.ret ?_ | refine T.rd rfl (by kernel_rfl) ?_ | refine J.bx rfl rfl rfl rfl rfl rfl ?_
        refine J.cc rfl rfl rfl rfl rfl (hem out hol) rfl rfl ?_
        repeat' first | refine T.seq ?_ | refine T.block ?_ | refine T.r ?_ | refine J.e rfl rfl rfl rfl ?_ | refine J.nil ?_ | refine J.skip rfl rfl rfl ?_ | refine T.skip ?_ | refine T.exit ?_ | refine T.ret ?_ | refine T.rd rfl (by kernel_rfl) ?_ | refine J.bx rfl rfl rfl rfl rfl rfl ?_
        by_cases he : [] ∈ out
        · rw [decide_eq_true he]
          refine T.cf rfl ?_
          have hR2 := fin (.inr he)
          rw [if_pos he] at hR2
          subst hR2
          repeat' first | refine T.seq ?_ | refine T.block ?_ | refine T.r ?_ | refine J.e rfl rfl rfl rfl ?_ | refine J.nil ?_ | refine J.skip rfl rfl rfl ?_ | refine T.skip ?_ | refine T.exit ?_ | refine T.ret ?_ | refine T.rd rfl (by kernel_rfl) ?_ | refine J.bx rfl rfl rfl rfl rfl rfl ?_
          refine J.ct rfl rfl rfl rfl rfl (htold out hol) rfl rfl ?_
          rw [if_pos he, decide_eq_true he]
          repeat' first | refine T.seq ?_ | refine T.block ?_ | refine T.r ?_ | refine J.e rfl rfl rfl rfl ?_ | refine J.nil ?_ | refine J.skip rfl rfl rfl ?_ | refine T.skip ?_ | refine T.exit ?_ | refine T.ret ?_ | refine T.rd rfl (by kernel_rfl) ?_ | refine J.bx rfl rfl rfl rfl rfl rfl ?_
          exact ⟨_, .v rfl rfl rfl (fun _ => rfl) (.v rfl rfl rfl (fun _ => rfl) .nil)⟩
        · rw [decide_eq_false he]
          rw [if_pos ⟨h2, he⟩] at hst
          refine T.ct rfl ?_
          repeat' first | refine T.seq ?_ | refine T.block ?_ | refine T.r ?_ | refine J.e rfl rfl rfl rfl ?_ | refine J.nil ?_ | refine J.skip rfl rfl rfl ?_ | refine T.skip ?_ | refine T.exit ?_ | refine T.ret ?_ | refine T.rd rfl (by kernel_rfl) ?_ | refine J.bx rfl rfl rfl rfl rfl rfl ?_
          refine J.cc rfl rfl rfl rfl rfl (rturned_spec c.coefs (by omega)) rfl rfl ?_
          repeat' first | refine T.seq ?_ | refine T.block ?_ | refine T.r ?_ | refine J.e rfl rfl rfl rfl ?_ | refine J.nil ?_ | refine J.skip rfl rfl rfl ?_ | refine T.skip ?_ | refine T.exit ?_ | refine T.ret ?_ | refine T.rd rfl (by kernel_rfl) ?_ | refine J.bx rfl rfl rfl rfl rfl rfl ?_
          refine J.cc rfl rfl rfl rfl rfl hm2 rfl rfl ?_
          repeat' first | refine T.seq ?_ | refine T.block ?_ | refine T.r ?_ | refine J.e rfl rfl rfl rfl ?_ | refine J.nil ?_ | refine J.skip rfl rfl rfl ?_ | refine T.skip ?_ | refine T.exit ?_ | refine T.ret ?_ | refine T.rd rfl (by kernel_rfl) ?_ | refine J.bx rfl rfl rfl rfl rfl rfl ?_
          refine J.cc rfl rfl rfl rfl rfl (hem n1 hbl) rfl rfl ?_
          repeat' first | refine T.seq ?_ | refine T.block ?_ | refine T.r ?_ | refine J.e rfl rfl rfl rfl ?_ | refine J.nil ?_ | refine J.skip rfl rfl rfl ?_ | refine T.skip ?_ | refine T.exit ?_ | refine T.ret ?_ | refine T.rd rfl (by kernel_rfl) ?_ | refine J.bx rfl rfl rfl rfl rfl rfl ?_
          by_cases he1 : [] ∈ n1
          · rw [decide_eq_true he1]
            rw [if_pos he1] at hst
            obtain rfl := iter_inl hR hst
            refine T.ct rfl ?_
            repeat' first | refine T.seq ?_ | refine T.block ?_ | refine T.r ?_ | refine J.e rfl rfl rfl rfl ?_ | refine J.nil ?_ | refine J.skip rfl rfl rfl ?_ | refine T.skip ?_ | refine T.exit ?_ | refine T.ret ?_ | refine T.rd rfl (by kernel_rfl) ?_ | refine J.bx rfl rfl rfl rfl rfl rfl ?_
            exact ⟨_, .v rfl rfl rfl (fun _ => rfl) (.v rfl rfl rfl (fun _ => rfl) .nil)⟩
          · rw [decide_eq_false he1]
            rw [if_neg he1] at hst
            refine T.cf rfl ?_
            repeat' first | refine T.seq ?_ | refine T.block ?_ | refine T.r ?_ | refine J.e rfl rfl rfl rfl ?_ | refine J.nil ?_ | refine J.skip rfl rfl rfl ?_ | refine T.skip ?_ | refine T.exit ?_ | refine T.ret ?_ | refine T.rd rfl (by kernel_rfl) ?_ | refine J.bx rfl rfl rfl rfl rfl rfl ?_
            refine J.cc rfl rfl rfl rfl rfl hm1 rfl rfl ?_
            repeat' first | refine T.seq ?_ | refine T.block ?_ | refine T.r ?_ | refine J.e rfl rfl rfl rfl ?_ | refine J.nil ?_ | refine J.skip rfl rfl rfl ?_ | refine T.skip ?_ | refine T.exit ?_ | refine T.ret ?_ | refine T.rd rfl (by kernel_rfl) ?_ | refine J.bx rfl rfl rfl rfl rfl rfl ?_
            refine J.cc rfl rfl rfl rfl rfl hse rfl rfl ?_
            repeat' first | refine T.seq ?_ | refine T.block ?_ | refine T.r ?_ | refine J.e rfl rfl rfl rfl ?_ | refine J.nil ?_ | refine J.skip rfl rfl rfl ?_ | refine T.skip ?_ | refine T.exit ?_ | refine T.ret ?_ | refine T.rd rfl (by kernel_rfl) ?_ | refine J.bx rfl rfl rfl rfl rfl rfl ?_
            by_cases hs : n2 = out
            · rw [decide_eq_true hs]
              rw [if_pos hs] at hst
              obtain rfl := iter_inl hR hst
              refine T.ct rfl ?_
              repeat' first | refine T.seq ?_ | refine T.block ?_ | refine T.r ?_ | refine J.e rfl rfl rfl rfl ?_ | refine J.nil ?_ | refine J.skip rfl rfl rfl ?_ | refine T.skip ?_ | refine T.exit ?_ | refine T.ret ?_ | refine T.rd rfl (by kernel_rfl) ?_ | refine J.bx rfl rfl rfl rfl rfl rfl ?_
              exact ⟨_, .v rfl rfl rfl (fun _ => rfl) (.v rfl rfl rfl (fun _ => rfl) .nil)⟩
            · rw [decide_eq_false hs]
              rw [if_neg hs] at hst
              obtain ⟨m', hlt, hR'⟩ := iter_inr hR hst
              refine T.cf rfl ?_
              repeat' first | refine T.seq ?_ | refine T.block ?_ | refine T.r ?_ | refine J.e rfl rfl rfl rfl ?_ | refine J.nil ?_ | refine J.skip rfl rfl rfl ?_ | refine T.skip ?_ | refine T.exit ?_ | refine T.ret ?_ | refine T.rd rfl (by kernel_rfl) ?_ | refine J.bx rfl rfl rfl rfl rfl rfl ?_
              exact T.canon (keep := [3, 6]) (os := [3]) rfl (ih (m', n2) ⟨hR', hid⟩ hlt)
      · have h2 : ¬ c.op = 1 := h2
        have hR2 := fin (.inl h2)
        repeat' first | refine T.seq ?_ | refine T.block ?_ | refine T.r ?_ | refine J.e rfl rfl rfl rfl ?_ | refine J.nil ?_ | refine J.skip rfl rfl rfl ?_ | refine T.skip ?_ | refine T.exit ?_ | refine T.ret ?_ | refine T.rd rfl (by kernel_rfl) ?_ | refine J.bx rfl rfl rfl rfl rfl rfl ?_
        refine T.cf rfl ?_
        repeat' first | refine T.seq ?_ | refine T.block ?_ | refine T.r ?_ | refine J.e rfl rfl rfl rfl ?_ | refine J.nil ?_ | refine J.skip rfl rfl rfl ?_ | refine T.skip ?_ | refine T.exit ?_ | refine T.ret ?_ | refine T.rd rfl (by kernel_rfl) ?_ | refine J.bx rfl rfl rfl rfl rfl rfl ?_
        refine J.ct rfl rfl rfl rfl rfl (htold out hol) rfl rfl ?_
        subst hR2
        by_cases he : [] ∈ out
        · rw [if_pos he, decide_eq_true he]
          rw [if_pos he]
          repeat' first | refine T.seq ?_ | refine T.block ?_ | refine T.r ?_ | refine J.e rfl rfl rfl rfl ?_ | refine J.nil ?_ | refine J.skip rfl rfl rfl ?_ | refine T.skip ?_ | refine T.exit ?_ | refine T.ret ?_ | refine T.rd rfl (by kernel_rfl) ?_ | refine J.bx rfl rfl rfl rfl rfl rfl ?_
          exact ⟨_, .v rfl rfl rfl (fun _ => rfl) (.v rfl rfl rfl (fun _ => rfl) .nil)⟩
        · rw [if_neg he, decide_eq_false he]
          rw [if_neg he]
          repeat' first | refine T.seq ?_ | refine T.block ?_ | refine T.r ?_ | refine J.e rfl rfl rfl rfl ?_ | refine J.nil ?_ | refine J.skip rfl rfl rfl ?_ | refine T.skip ?_ | refine T.exit ?_ | refine T.ret ?_ | refine T.rd rfl (by kernel_rfl) ?_ | refine J.bx rfl rfl rfl rfl rfl rfl ?_
          exact ⟨_, .v rfl rfl rfl (fun _ => rfl) (.v rfl rfl rfl (fun _ => rfl) .nil)⟩
end Go.Proofs.Ytchajofdjeijfaa
