/- The texts FnW, FnX, FnY of the workplace, joined. -/
import Derived.Test.YtchajofdjeijfaaB6
/-! Contracts: sums, pruned by the document. -/
namespace Go.Proofs.Ytchajofdjeijfaa
open Go Go.RowKit
set_option linter.unusedVariables false
set_option linter.unusedSimpArgs false
set_option maxRecDepth 8000

def hd0 (l : List Int) : Int := l.getD 0 0
def rotherGo : Nat → List (List (Int × Int) × Int) → Nat → Int → Nat → Nat × Int × Nat
  | _, [], m, s, a => (m, s, a)
  | i, t :: ts, m, s, a => if 1 < (vals t.1).length then rotherGo (i + 1) ts (m + 1) s i else rotherGo (i + 1) ts m (wr (s + wr (t.2 * hd0 (vals t.1)))) a
def rotherW (d : Doms) (c : Con) : Doms :=
  let r := rotherGo 0 (termsOf d c.vars c.coefs) 0 0 0
  if 1 < r.1 then d else
  if r.1 = 0 then (if r.2.1 = c.rhs then d.set (varAt c 0).toNat [] else d) else
  d.set (varAt c r.2.2).toNat (pack ((vals (domAt d (varAt c r.2.2))).filter fun v => decide (wr (r.2.1 + wr (coefAt c r.2.2 * v)) ≠ c.rhs)))
theorem rotherGo_in : ∀ (ts : List (List (Int × Int) × Int)) (i m a : Nat) (s : Int) (n : Nat), a < n → i + ts.length ≤ n → m ≤ i → (rotherGo i ts m s a).2.2 < n ∧ (rotherGo i ts m s a).1 ≤ i + ts.length
  | [], i, m, a, s, n, h, _, hm => by simp [rotherGo]; omega
  | t :: ts, i, m, a, s, n, h, hn, hm => by
    simp only [List.length_cons] at hn ⊢
    rw [rotherGo]
    split
    · have := rotherGo_in ts (i + 1) (m + 1) i s n (by omega) (by omega) (by omega)
      omega
    · have := rotherGo_in ts (i + 1) m a (wr (s + wr (t.2 * hd0 (vals t.1)))) n h (by omega) (by omega)
      omega
theorem rother_spec (d : Doms) (c : Con) (h : SumIn d c.vars c.coefs) (hpos : 0 < c.vars.length) (hne : ∀ v ∈ c.vars, vals (domAt d v) ≠ []) :
    Spec Try.prog 51 false [doms d, .agg (cC c)] [.own 38 1 ((rotherW d c).map cD)] := by
  refine Spec.body Try.func51 rfl rfl rfl fun w0 Z0 => ?_
  obtain ⟨hlen, hvl, hvin, hck, hdom, hdl⟩ := h
  unfold rotherW
  have hin := rotherGo_in (termsOf d c.vars c.coefs) 0 0 0 0 c.vars.length hpos (by simp [termsOf]; omega) (Nat.le_refl _)
  generalize hgo : rotherGo 0 (termsOf d c.vars c.coefs) 0 0 0 = go at hin
  simp only
  repeat' first | refine T.seq ?_ | refine T.block ?_ | refine T.r ?_ | refine J.e rfl rfl rfl rfl ?_ | refine J.nil ?_ | refine J.skip rfl rfl rfl ?_ | refine T.skip ?_ | refine T.exit ?_ | refine T.ret ?_ | refine T.rd rfl (by kernel_rfl) ?_ | refine J.bx rfl rfl rfl rfl rfl rfl ?_
  refine J.cc rfl rfl rfl rfl rfl (lists_spec d hdl (fun x hx => (hdom x hx).2.2)) rfl rfl ?_
  repeat' first | refine T.seq ?_ | refine T.block ?_ | refine T.r ?_ | refine J.e rfl rfl rfl rfl ?_ | refine J.nil ?_ | refine J.skip rfl rfl rfl ?_ | refine T.skip ?_ | refine T.exit ?_ | refine T.ret ?_ | refine T.rd rfl (by kernel_rfl) ?_ | refine J.bx rfl rfl rfl rfl rfl rfl ?_
  refine T.canon (keep := [0, 3, 5, 6, 7, 8, 9]) (os := [3, 5]) rfl (T.ind (fun s : Nat × Nat × Int × Nat => ⟨[(0, .val false (doms d)), (3, .optr 0 0 0 0), (5, .ref 1), (6, .val true (.int .i64 s.2.1)), (7, .val true (.int .i64 s.2.2.1)), (8, .val true (.int .i64 s.2.2.2)), (9, .val true (.int .i64 s.1))], [(0, some (.box false (cC c))), (1, some (.sl 38 1 true (d.map cD)))], 2⟩)
    (fun s => s.1 ≤ c.vars.length ∧ s.2.1 ≤ s.1 ∧ rotherGo s.1 ((termsOf d c.vars c.coefs).drop s.1) s.2.1 s.2.2.1 s.2.2.2 = go) (fun s => c.vars.length - s.1) (0, 0, 0, 0) ⟨by simp, by simp, hgo⟩ (fun _ _ h => h) ?_)
  rintro ⟨i, m, s, a⟩ ⟨hil, hmi, he⟩ ih
  simp only at hil hmi he
  dsimp only
  repeat' first | refine T.seq ?_ | refine T.block ?_ | refine T.r ?_ | refine J.e rfl rfl rfl rfl ?_ | refine J.nil ?_ | refine J.skip rfl rfl rfl ?_ | refine T.skip ?_ | refine T.exit ?_ | refine T.ret ?_ | refine T.rd rfl (by kernel_rfl) ?_ | refine J.bx rfl rfl rfl rfl rfl rfl ?_
  refine T.cd rfl (fun h1 => ?_) (fun h1 => ?_)
  · have h1 : i < c.vars.length := by simpa using h1
    have h2 : i < c.coefs.length := by omega
    have hv := hvin _ (List.getElem_mem h1)
    have hx := hdom _ (domAt_mem hv.2)
    have hrow : (d.map cD)[c.vars[i].toNat]? = some (cD (domAt d c.vars[i])) := by simp [domAt_some hv.2]
    have hnv := hne _ (List.getElem_mem h1)
    have hvx := values_spec (domAt d c.vars[i]) hx.1 (by have := hx.2.1; omega) hx.2.2
    rw [terms_cons h1 h2, rotherGo] at he
    simp only at he
    generalize vals (domAt d c.vars[i]) = l at *
    repeat' first | refine T.seq ?_ | refine T.block ?_ | refine T.r ?_ | refine J.e rfl rfl rfl rfl ?_ | refine J.nil ?_ | refine J.skip rfl rfl rfl ?_ | refine T.skip ?_ | refine T.exit ?_ | refine T.ret ?_ | refine T.rd rfl (by kernel_rfl) ?_ | refine J.bx rfl rfl rfl rfl rfl rfl ?_
    refine J.i rfl rfl rfl rfl rfl rfl rfl rfl rfl (r := cI c.vars[i]) (by omega) (row_i h1) rfl ?_
    repeat' first | refine T.seq ?_ | refine T.block ?_ | refine T.r ?_ | refine J.e rfl rfl rfl rfl ?_ | refine J.nil ?_ | refine J.skip rfl rfl rfl ?_ | refine T.skip ?_ | refine T.exit ?_ | refine T.ret ?_ | refine T.rd rfl (by kernel_rfl) ?_ | refine J.bx rfl rfl rfl rfl rfl rfl ?_
    refine J.i rfl rfl rfl rfl rfl rfl rfl rfl rfl (r := cD (domAt d c.vars[i])) hv.1 hrow rfl ?_
    repeat' first | refine T.seq ?_ | refine T.block ?_ | refine T.r ?_ | refine J.e rfl rfl rfl rfl ?_ | refine J.nil ?_ | refine J.skip rfl rfl rfl ?_ | refine T.skip ?_ | refine T.exit ?_ | refine T.ret ?_ | refine T.rd rfl (by kernel_rfl) ?_ | refine J.bx rfl rfl rfl rfl rfl rfl ?_
    refine J.cc rfl rfl rfl rfl rfl hvx rfl rfl ?_
    repeat' first | refine T.seq ?_ | refine T.block ?_ | refine T.r ?_ | refine J.e rfl rfl rfl rfl ?_ | refine J.nil ?_ | refine J.skip rfl rfl rfl ?_ | refine T.skip ?_ | refine T.exit ?_ | refine T.ret ?_ | refine T.rd rfl (by kernel_rfl) ?_ | refine J.bx rfl rfl rfl rfl rfl rfl ?_
    refine T.cd rfl (fun h3 => ?_) (fun h3 => ?_)
    · have h3 : 1 < l.length := by
        have h3 : ((l.map cI).length : Int) > 1 := h3
        simp only [List.length_map] at h3; omega
      rw [if_pos h3] at he
      repeat' first | refine T.seq ?_ | refine T.block ?_ | refine T.r ?_ | refine J.e rfl rfl rfl rfl ?_ | refine J.nil ?_ | refine J.skip rfl rfl rfl ?_ | refine T.skip ?_ | refine T.exit ?_ | refine T.ret ?_ | refine T.rd rfl (by kernel_rfl) ?_ | refine J.bx rfl rfl rfl rfl rfl rfl ?_
      rw [wrap1 (l := c.vars.length) (n := m) (by omega) (by omega), wrap1 (l := c.vars.length) (n := i) (by omega) (by omega)]
      exact T.canon (keep := [0, 3, 5, 6, 7, 8, 9]) (os := [3, 5]) rfl (ih (i + 1, m + 1, s, i) ⟨by simp only; omega, by simp only; omega, he⟩ (by simp only; omega))
    · have h3 : ¬ 1 < l.length := by
        have h3 : ¬ ((l.map cI).length : Int) > 1 := h3
        simp only [List.length_map] at h3; omega
      rw [if_neg h3] at he
      obtain ⟨x, rfl⟩ : ∃ x, l = [x] := by
        cases l with
        | nil => exact absurd rfl hnv
        | cons x l => cases l with
          | nil => exact ⟨x, rfl⟩
          | cons y l => simp at h3
      repeat' first | refine T.seq ?_ | refine T.block ?_ | refine T.r ?_ | refine J.e rfl rfl rfl rfl ?_ | refine J.nil ?_ | refine J.skip rfl rfl rfl ?_ | refine T.skip ?_ | refine T.exit ?_ | refine T.ret ?_ | refine T.rd rfl (by kernel_rfl) ?_ | refine J.bx rfl rfl rfl rfl rfl rfl ?_
      refine J.i rfl rfl rfl rfl rfl rfl rfl rfl rfl (r := cI c.coefs[i]) (by omega) (row_i h2) rfl ?_
      repeat' first | refine T.seq ?_ | refine T.block ?_ | refine T.r ?_ | refine J.e rfl rfl rfl rfl ?_ | refine J.nil ?_ | refine J.skip rfl rfl rfl ?_ | refine T.skip ?_ | refine T.exit ?_ | refine T.ret ?_ | refine T.rd rfl (by kernel_rfl) ?_ | refine J.bx rfl rfl rfl rfl rfl rfl ?_
      refine J.io rfl rfl rfl rfl rfl rfl rfl rfl rfl (by decide) (by simp) rfl ?_
      refine J.lo rfl rfl rfl rfl rfl rfl (r := cI x) rfl rfl ?_
      repeat' first | refine T.seq ?_ | refine T.block ?_ | refine T.r ?_ | refine J.e rfl rfl rfl rfl ?_ | refine J.nil ?_ | refine J.skip rfl rfl rfl ?_ | refine T.skip ?_ | refine T.exit ?_ | refine T.ret ?_ | refine T.rd rfl (by kernel_rfl) ?_ | refine J.bx rfl rfl rfl rfl rfl rfl ?_
      rw [wrap1 (l := c.vars.length) (n := i) (by omega) (by omega)]
      exact T.canon (keep := [0, 3, 5, 6, 7, 8, 9]) (os := [3, 5]) rfl (ih (i + 1, m, wr (s + wr (c.coefs[i] * x)), a) ⟨by simp only; omega, by simp only; omega, he⟩ (by simp only; omega))
  · have h1 : i = c.vars.length := by simp at h1; omega
    subst h1
    rw [terms_end hlen, rotherGo] at he
    subst he
    clear ih
    simp only at hin ⊢
    repeat' first | refine T.seq ?_ | refine T.block ?_ | refine T.r ?_ | refine J.e rfl rfl rfl rfl ?_ | refine J.nil ?_ | refine J.skip rfl rfl rfl ?_ | refine T.skip ?_ | refine T.exit ?_ | refine T.ret ?_ | refine T.rd rfl (by kernel_rfl) ?_ | refine J.bx rfl rfl rfl rfl rfl rfl ?_
    refine T.cd rfl (fun h3 => ?_) (fun h3 => ?_)
    · have h3 : 1 < m := by have h3 : (m : Int) > 1 := h3; omega
      rw [if_pos h3]
      repeat' first | refine T.seq ?_ | refine T.block ?_ | refine T.r ?_ | refine J.e rfl rfl rfl rfl ?_ | refine J.nil ?_ | refine J.skip rfl rfl rfl ?_ | refine T.skip ?_ | refine T.exit ?_ | refine T.ret ?_ | refine T.rd rfl (by kernel_rfl) ?_ | refine J.bx rfl rfl rfl rfl rfl rfl ?_
      exact ⟨_, .o rfl rfl rfl (fun _ => .inl rfl) (by simp) .nil⟩
    · have h3 : ¬ 1 < m := by have h3 : ¬ (m : Int) > 1 := h3; omega
      rw [if_neg h3]
      repeat' first | refine T.seq ?_ | refine T.block ?_ | refine T.r ?_ | refine J.e rfl rfl rfl rfl ?_ | refine J.nil ?_ | refine J.skip rfl rfl rfl ?_ | refine T.skip ?_ | refine T.exit ?_ | refine T.ret ?_ | refine T.rd rfl (by kernel_rfl) ?_ | refine J.bx rfl rfl rfl rfl rfl rfl ?_
      refine T.cd rfl (fun h4 => ?_) (fun h4 => ?_)
      · have h4 : m = 0 := by have h4 : (m : Int) = 0 := h4; omega
        rw [if_pos h4]
        repeat' first | refine T.seq ?_ | refine T.block ?_ | refine T.r ?_ | refine J.e rfl rfl rfl rfl ?_ | refine J.nil ?_ | refine J.skip rfl rfl rfl ?_ | refine T.skip ?_ | refine T.exit ?_ | refine T.ret ?_ | refine T.rd rfl (by kernel_rfl) ?_ | refine J.bx rfl rfl rfl rfl rfl rfl ?_
        refine T.cd rfl (fun h5 => ?_) (fun h5 => ?_)
        · have h5 : s = c.rhs := h5
          rw [if_pos h5]
          have hv := hvin _ (varAt_mem (c := c) (k := 0) hpos)
          have hvr := varAt_row (c := c) (k := 0) hpos
          repeat' first | refine T.seq ?_ | refine T.block ?_ | refine T.r ?_ | refine J.e rfl rfl rfl rfl ?_ | refine J.nil ?_ | refine J.skip rfl rfl rfl ?_ | refine T.skip ?_ | refine T.exit ?_ | refine T.ret ?_ | refine T.rd rfl (by kernel_rfl) ?_ | refine J.bx rfl rfl rfl rfl rfl rfl ?_
          refine J.i rfl rfl rfl rfl rfl rfl rfl rfl rfl (r := cI (varAt c 0)) (by omega) hvr rfl ?_
          repeat' first | refine T.seq ?_ | refine T.block ?_ | refine T.r ?_ | refine J.e rfl rfl rfl rfl ?_ | refine J.nil ?_ | refine J.skip rfl rfl rfl ?_ | refine T.skip ?_ | refine T.exit ?_ | refine T.ret ?_ | refine T.rd rfl (by kernel_rfl) ?_ | refine J.bx rfl rfl rfl rfl rfl rfl ?_
          refine J.bv rfl rfl rfl rfl rfl rfl rfl rfl rfl rfl rfl rfl ?_
          refine J.io rfl rfl rfl rfl rfl rfl rfl rfl rfl hv.1 (by simpa using hv.2) rfl ?_
          refine J.w1 rfl rfl rfl rfl rfl rfl rfl rfl rfl rfl rfl (z := []) (fun _ => rfl) hv.2 ?_
          repeat' first | refine T.seq ?_ | refine T.block ?_ | refine T.r ?_ | refine J.e rfl rfl rfl rfl ?_ | refine J.nil ?_ | refine J.skip rfl rfl rfl ?_ | refine T.skip ?_ | refine T.exit ?_ | refine T.ret ?_ | refine T.rd rfl (by kernel_rfl) ?_ | refine J.bx rfl rfl rfl rfl rfl rfl ?_
          exact ⟨_, .o rfl rfl rfl (fun _ => .inl rfl) (by simp) .nil⟩
        · have h5 : ¬ s = c.rhs := h5
          rw [if_neg h5]
          repeat' first | refine T.seq ?_ | refine T.block ?_ | refine T.r ?_ | refine J.e rfl rfl rfl rfl ?_ | refine J.nil ?_ | refine J.skip rfl rfl rfl ?_ | refine T.skip ?_ | refine T.exit ?_ | refine T.ret ?_ | refine T.rd rfl (by kernel_rfl) ?_ | refine J.bx rfl rfl rfl rfl rfl rfl ?_
          exact ⟨_, .o rfl rfl rfl (fun _ => .inl rfl) (by simp) .nil⟩
      · have h4 : ¬ m = 0 := by have h4 : ¬ (m : Int) = 0 := h4; omega
        rw [if_neg h4]
        have hj := hin.1
        have hv := hvin _ (varAt_mem hj)
        have hx := hdom _ (domAt_mem hv.2)
        have hrow : (d.map cD)[(varAt c a).toNat]? = some (cD (domAt d (varAt c a))) := by simp [domAt_some hv.2]
        have hkr := coefAt_row (c := c) (k := a) (by omega)
        have hvr := varAt_row (c := c) (k := a) hj
        have hvx := values_spec (domAt d (varAt c a)) hx.1 (by have := hx.2.1; omega) hx.2.2
        have hvin2 := vals_in hx.1
        have hvl2 := hx.2.1
        generalize vals (domAt d (varAt c a)) = l at *
        generalize varAt c a = v at *
        generalize coefAt c a = k at *
        repeat' first | refine T.seq ?_ | refine T.block ?_ | refine T.r ?_ | refine J.e rfl rfl rfl rfl ?_ | refine J.nil ?_ | refine J.skip rfl rfl rfl ?_ | refine T.skip ?_ | refine T.exit ?_ | refine T.ret ?_ | refine T.rd rfl (by kernel_rfl) ?_ | refine J.bx rfl rfl rfl rfl rfl rfl ?_
        refine J.i rfl rfl rfl rfl rfl rfl rfl rfl rfl (r := cI v) (by omega) hvr rfl ?_
        repeat' first | refine T.seq ?_ | refine T.block ?_ | refine T.r ?_ | refine J.e rfl rfl rfl rfl ?_ | refine J.nil ?_ | refine J.skip rfl rfl rfl ?_ | refine T.skip ?_ | refine T.exit ?_ | refine T.ret ?_ | refine T.rd rfl (by kernel_rfl) ?_ | refine J.bx rfl rfl rfl rfl rfl rfl ?_
        refine J.i rfl rfl rfl rfl rfl rfl rfl rfl rfl (r := cD (domAt d v)) hv.1 hrow rfl ?_
        repeat' first | refine T.seq ?_ | refine T.block ?_ | refine T.r ?_ | refine J.e rfl rfl rfl rfl ?_ | refine J.nil ?_ | refine J.skip rfl rfl rfl ?_ | refine T.skip ?_ | refine T.exit ?_ | refine T.ret ?_ | refine T.rd rfl (by kernel_rfl) ?_ | refine J.bx rfl rfl rfl rfl rfl rfl ?_
        refine J.cc rfl rfl rfl rfl rfl hvx rfl rfl ?_
        refine J.bo rfl rfl rfl rfl rfl rfl rfl rfl rfl rfl rfl rfl ?_
        repeat' first | refine T.seq ?_ | refine T.block ?_ | refine T.r ?_ | refine J.e rfl rfl rfl rfl ?_ | refine J.nil ?_ | refine J.skip rfl rfl rfl ?_ | refine T.skip ?_ | refine T.exit ?_ | refine T.ret ?_ | refine T.rd rfl (by kernel_rfl) ?_ | refine J.bx rfl rfl rfl rfl rfl rfl ?_
        refine T.canon (keep := [3, 5, 7, 8, 11, 12, 13]) (os := [3, 5, 11, 12]) rfl (T.ind (fun n : Nat => ⟨[(3, .optr 0 0 0 0), (5, .ref 1), (7, .val true (.int .i64 s)), (8, .val true (.int .i64 a)), (11, .ref 2), (12, .ref 3), (13, .val true (.int .i64 n))], [(0, some (.box false (cC c))), (1, some (.sl 38 1 true (d.map cD))), (2, some (.sl 3 1 true (l.map cI))), (3, some (.sl 3 1 true (((l.take n).filter fun v => decide (wr (s + wr (k * v)) ≠ c.rhs)).map cI)))], 4⟩)
          (fun n => n ≤ l.length) (fun n => l.length - n) 0 (by simp) (fun _ _ h => h) ?_)
        rintro n hn ih
        repeat' first | refine T.seq ?_ | refine T.block ?_ | refine T.r ?_ | refine J.e rfl rfl rfl rfl ?_ | refine J.nil ?_ | refine J.skip rfl rfl rfl ?_ | refine T.skip ?_ | refine T.exit ?_ | refine T.ret ?_ | refine T.rd rfl (by kernel_rfl) ?_ | refine J.bx rfl rfl rfl rfl rfl rfl ?_
        refine T.cd rfl (fun h5 => ?_) (fun h5 => ?_)
        · have h5 : n < l.length := by simpa using h5
          have hfl : ((l.take n).filter fun v => decide (wr (s + wr (k * v)) ≠ c.rhs)).length ≤ n := by
            refine Nat.le_trans (List.length_filter_le _ _) ?_
            simp; omega
          have e : (l.take (n + 1)).filter (fun v => decide (wr (s + wr (k * v)) ≠ c.rhs)) = (l.take n).filter (fun v => decide (wr (s + wr (k * v)) ≠ c.rhs)) ++ if wr (s + wr (k * l[n])) ≠ c.rhs then [l[n]] else [] := by
            rw [List.take_succ_eq_append_getElem h5, List.filter_append]
            congr 1
            by_cases hc : wr (s + wr (k * l[n])) = c.rhs
            · simp [hc]
            · simp [hc]
          repeat' first | refine T.seq ?_ | refine T.block ?_ | refine T.r ?_ | refine J.e rfl rfl rfl rfl ?_ | refine J.nil ?_ | refine J.skip rfl rfl rfl ?_ | refine T.skip ?_ | refine T.exit ?_ | refine T.ret ?_ | refine T.rd rfl (by kernel_rfl) ?_ | refine J.bx rfl rfl rfl rfl rfl rfl ?_
          refine J.i rfl rfl rfl rfl rfl rfl rfl rfl rfl (r := cI k) (by omega) hkr rfl ?_
          repeat' first | refine T.seq ?_ | refine T.block ?_ | refine T.r ?_ | refine J.e rfl rfl rfl rfl ?_ | refine J.nil ?_ | refine J.skip rfl rfl rfl ?_ | refine T.skip ?_ | refine T.exit ?_ | refine T.ret ?_ | refine T.rd rfl (by kernel_rfl) ?_ | refine J.bx rfl rfl rfl rfl rfl rfl ?_
          refine J.io rfl rfl rfl rfl rfl rfl rfl rfl rfl (by omega) (by simpa using h5) rfl ?_
          refine J.lo rfl rfl rfl rfl rfl rfl (r := cI l[n]) (row_i h5) rfl ?_
          repeat' first | refine T.seq ?_ | refine T.block ?_ | refine T.r ?_ | refine J.e rfl rfl rfl rfl ?_ | refine J.nil ?_ | refine J.skip rfl rfl rfl ?_ | refine T.skip ?_ | refine T.exit ?_ | refine T.ret ?_ | refine T.rd rfl (by kernel_rfl) ?_ | refine J.bx rfl rfl rfl rfl rfl rfl ?_
          refine T.cd rfl (fun h6 => ?_) (fun h6 => ?_)
          · rw [if_pos h6] at e
            repeat' first | refine T.seq ?_ | refine T.block ?_ | refine T.r ?_ | refine J.e rfl rfl rfl rfl ?_ | refine J.nil ?_ | refine J.skip rfl rfl rfl ?_ | refine T.skip ?_ | refine T.exit ?_ | refine T.ret ?_ | refine T.rd rfl (by kernel_rfl) ?_ | refine J.bx rfl rfl rfl rfl rfl rfl ?_
            refine J.io rfl rfl rfl rfl rfl rfl rfl rfl rfl (by omega) (by simpa using h5) rfl ?_
            refine J.lo rfl rfl rfl rfl rfl rfl (r := cI l[n]) (row_i h5) rfl ?_
            repeat' first | refine T.seq ?_ | refine T.block ?_ | refine T.r ?_ | refine J.e rfl rfl rfl rfl ?_ | refine J.nil ?_ | refine J.skip rfl rfl rfl ?_ | refine T.skip ?_ | refine T.exit ?_ | refine T.ret ?_ | refine T.rd rfl (by kernel_rfl) ?_ | refine J.bx rfl rfl rfl rfl rfl rfl ?_
            refine J.bv rfl rfl rfl rfl rfl rfl rfl rfl rfl rfl rfl rfl ?_
            refine J.aI rfl rfl rfl rfl rfl rfl rfl rfl rfl rfl rfl rfl rfl rfl rfl rfl rfl rfl rfl (by omega) ?_
            repeat' first | refine T.seq ?_ | refine T.block ?_ | refine T.r ?_ | refine J.e rfl rfl rfl rfl ?_ | refine J.nil ?_ | refine J.skip rfl rfl rfl ?_ | refine T.skip ?_ | refine T.exit ?_ | refine T.ret ?_ | refine T.rd rfl (by kernel_rfl) ?_ | refine J.bx rfl rfl rfl rfl rfl rfl ?_
            rw [wrap1 (l := l.length) (by omega) (by omega), ← e]
            exact T.canon (keep := [3, 5, 7, 8, 11, 12, 13]) (os := [3, 5, 11, 12]) rfl (ih (n + 1) (by omega) (by omega))
          · rw [if_neg h6, List.append_nil] at e
            repeat' first | refine T.seq ?_ | refine T.block ?_ | refine T.r ?_ | refine J.e rfl rfl rfl rfl ?_ | refine J.nil ?_ | refine J.skip rfl rfl rfl ?_ | refine T.skip ?_ | refine T.exit ?_ | refine T.ret ?_ | refine T.rd rfl (by kernel_rfl) ?_ | refine J.bx rfl rfl rfl rfl rfl rfl ?_
            rw [wrap1 (l := l.length) (by omega) (by omega), ← e]
            exact T.canon (keep := [3, 5, 7, 8, 11, 12, 13]) (os := [3, 5, 11, 12]) rfl (ih (n + 1) (by omega) (by omega))
        · have h5 : n = l.length := by simp at h5; omega
          subst h5
          rw [List.take_length]
          have hpk := (pack_spec (l.filter fun v => decide (wr (s + wr (k * v)) ≠ c.rhs)) (fun v hv => by
            have := hvin2 v (List.mem_filter.1 hv).1
            omega) (by
            have : (l.filter fun v => decide (wr (s + wr (k * v)) ≠ c.rhs)).length ≤ l.length := List.length_filter_le _ _
            omega)).frz
          repeat' first | refine T.seq ?_ | refine T.block ?_ | refine T.r ?_ | refine J.e rfl rfl rfl rfl ?_ | refine J.nil ?_ | refine J.skip rfl rfl rfl ?_ | refine T.skip ?_ | refine T.exit ?_ | refine T.ret ?_ | refine J.bx rfl rfl rfl rfl rfl rfl ?_
          refine T.rdw 10 rfl (by kernel_rfl) rfl ?_
          repeat' first | refine J.e rfl rfl rfl rfl ?_ | refine J.skip rfl rfl rfl ?_ | refine J.bx rfl rfl rfl rfl rfl rfl ?_
          refine J.i rfl rfl rfl rfl rfl rfl rfl rfl rfl (r := cI v) (by omega) hvr rfl ?_
          repeat' first | refine J.e rfl rfl rfl rfl ?_ | refine J.skip rfl rfl rfl ?_ | refine J.bx rfl rfl rfl rfl rfl rfl ?_
          refine J.cc rfl rfl rfl rfl rfl hpk rfl rfl ?_
          refine J.io rfl rfl rfl rfl rfl rfl rfl rfl rfl hv.1 (by simpa using hv.2) rfl ?_
          refine J.wd1 rfl rfl rfl rfl rfl rfl rfl rfl rfl rfl rfl (enc := cD) (z := pack (l.filter fun v => decide (wr (s + wr (k * v)) ≠ c.rhs))) (fun _ => rfl) hv.2 ?_
          refine J.nil ?_
          refine ⟨rfl, ?_⟩
          repeat' first | refine T.seq ?_ | refine T.block ?_ | refine T.r ?_ | refine J.e rfl rfl rfl rfl ?_ | refine J.nil ?_ | refine J.skip rfl rfl rfl ?_ | refine T.skip ?_ | refine T.exit ?_ | refine T.ret ?_ | refine T.rd rfl (by kernel_rfl) ?_ | refine J.bx rfl rfl rfl rfl rfl rfl ?_
          exact ⟨_, .o rfl rfl rfl (fun _ => .inl rfl) (by simp) .nil⟩

/-- What is left by the document, round by round. -/
def mostD (d : Doms) (c : Con) : Doms := mostRd d c.vars c.coefs c.rhs c.vars.length
def mostB (d : Doms) (c : Con) : Doms := mostRd d c.vars (turnedW c.coefs) (wr (0 - c.rhs)) c.vars.length
def stepD (c : Con) (out : Doms) : Option Doms ⊕ Doms :=
  if c.op = 1 ∧ [] ∉ out then
    (if [] ∈ mostB out c then .inl none else if mostD (mostB out c) c = out then .inl (some out) else .inr (mostD (mostB out c) c))
  else .inl (if [] ∈ out then none else some out)
def LinAnsR (d : Doms) (c : Con) (R : Option Doms) (N : Nat) : Prop :=
  if [] ∈ d then R = none else if c.op = 2 then R = (if [] ∈ rotherW d c then none else some (rotherW d c)) else iter (stepD c) N (mostD d c) = some R
theorem rlprune_spec (d : Doms) (c : Con) (hv : c.vars.length = c.coefs.length) (hvl : c.vars.length * 8 ≤ 140737488355328) (hck : ∀ k ∈ c.coefs, CoefOk k) (hpos : 0 < c.vars.length) (hvin : ∀ v ∈ c.vars, 0 ≤ v ∧ v.toNat < d.length) (hdl : d.length * 24 ≤ 140737488355328)
    (hf : ∀ x ∈ d, Fine x) (hother : ∀ x ∈ rotherW d c, DomB x) (Inv : Doms → Prop) (hi1 : ∀ out, Inv out → (∀ x ∈ out, DomB x) ∧ out.length = d.length) (hi2 : ∀ out, Inv out → Inv (mostD out c) ∧ Inv (mostB out c)) (h0 : Inv d)
    (R : Option Doms) (N : Nat) (hR : LinAnsR d c R N) : Spec Try.prog 17 false [doms d, .agg (cC c)] [.val (doms (R.getD [])), .val (.bool R.isSome)] := by
  refine Spec.body Try.func17 rfl rfl rfl fun w0 Z0 => ?_
  unfold LinAnsR at hR
  have hsi : ∀ out, Inv out → SumIn out c.vars c.coefs := fun out hi => ⟨hv, hvl, fun v hm => by rw [(hi1 out hi).2]; exact hvin v hm, hck, (hi1 out hi).1, by rw [(hi1 out hi).2]; exact hdl⟩
  have hsb : ∀ out, Inv out → SumIn out c.vars (turnedW c.coefs) := fun out hi => ⟨by simp [turnedW, hv], hvl, fun v hm => by rw [(hi1 out hi).2]; exact hvin v hm, fun k hk => by
    obtain ⟨k0, hk0, rfl⟩ := List.mem_map.1 hk
    exact (turned_ok (hck _ hk0)).2, (hi1 out hi).1, by rw [(hi1 out hi).2]; exact hdl⟩
  have hem : ∀ out : Doms, out.length = d.length → Spec Try.prog 49 false [doms out] [.val (.bool (decide ([] ∈ out)))] := fun out hl => empty_spec out (by omega)
  have htold : ∀ out : Doms, out.length = d.length → Spec Try.prog 50 true [doms out] ([doms (if [] ∈ out then [] else out), .bool (!decide ([] ∈ out))].map .val) := fun out hl => told_spec out (by omega)
  repeat' first | refine T.seq ?_ | refine T.block ?_ | refine T.r ?_ | refine J.e rfl rfl rfl rfl ?_ | refine J.nil ?_ | refine J.skip rfl rfl rfl ?_ | refine T.skip ?_ | refine T.exit ?_ | refine T.ret ?_ | refine T.rd rfl (by kernel_rfl) ?_ | refine J.bx rfl rfl rfl rfl rfl rfl ?_
  refine J.cc rfl rfl rfl rfl rfl (hem d rfl) rfl rfl ?_
  repeat' first | refine T.seq ?_ | refine T.block ?_ | refine T.r ?_ | refine J.e rfl rfl rfl rfl ?_ | refine J.nil ?_ | refine J.skip rfl rfl rfl ?_ | refine T.skip ?_ | refine T.exit ?_ | refine T.ret ?_ | refine T.rd rfl (by kernel_rfl) ?_ | refine J.bx rfl rfl rfl rfl rfl rfl ?_
  by_cases hm : [] ∈ d
  · rw [if_pos hm] at hR
    subst hR
    rw [decide_eq_true hm]
    refine T.ct rfl ?_
    repeat' first | refine T.seq ?_ | refine T.block ?_ | refine T.r ?_ | refine J.e rfl rfl rfl rfl ?_ | refine J.nil ?_ | refine J.skip rfl rfl rfl ?_ | refine T.skip ?_ | refine T.exit ?_ | refine T.ret ?_ | refine T.rd rfl (by kernel_rfl) ?_ | refine J.bx rfl rfl rfl rfl rfl rfl ?_
    exact ⟨_, .v rfl rfl rfl (fun _ => rfl) (.v rfl rfl rfl (fun _ => rfl) .nil)⟩
  · rw [if_neg hm] at hR
    rw [decide_eq_false hm]
    refine T.cf rfl ?_
    repeat' first | refine T.seq ?_ | refine T.block ?_ | refine T.r ?_ | refine J.e rfl rfl rfl rfl ?_ | refine J.nil ?_ | refine J.skip rfl rfl rfl ?_ | refine T.skip ?_ | refine T.exit ?_ | refine T.ret ?_ | refine T.rd rfl (by kernel_rfl) ?_ | refine J.bx rfl rfl rfl rfl rfl rfl ?_
    refine T.cd rfl (fun h1 => ?_) (fun h1 => ?_)
    · have h1 : c.op = 2 := h1
      rw [if_pos h1] at hR
      have hne : ∀ v ∈ c.vars, vals (domAt d v) ≠ [] := fun v hvm e => by
        have hmem := domAt_mem (hvin v hvm).2
        have := (vals_ne (hf _ hmem).ok).1 e
        rw [this] at hmem
        exact hm hmem
      have hro := (rother_spec d c (hsi d h0) hpos hne).frz
      have hrl : (rotherW d c).length = d.length := by
        unfold rotherW
        simp only
        split
        · rfl
        · split
          · split <;> simp
          · simp
      have htl := htold _ hrl
      generalize rotherW d c = od at *
      repeat' first | refine T.seq ?_ | refine T.block ?_ | refine T.r ?_ | refine J.e rfl rfl rfl rfl ?_ | refine J.nil ?_ | refine J.skip rfl rfl rfl ?_ | refine T.skip ?_ | refine T.exit ?_ | refine T.ret ?_ | refine T.rd rfl (by kernel_rfl) ?_ | refine J.bx rfl rfl rfl rfl rfl rfl ?_
      refine J.cc rfl rfl rfl rfl rfl hro rfl rfl ?_
      refine J.ct rfl rfl rfl rfl rfl htl rfl rfl ?_
      repeat' first | refine T.seq ?_ | refine T.block ?_ | refine T.r ?_ | refine J.e rfl rfl rfl rfl ?_ | refine J.nil ?_ | refine J.skip rfl rfl rfl ?_ | refine T.skip ?_ | refine T.exit ?_ | refine T.ret ?_ | refine T.rd rfl (by kernel_rfl) ?_ | refine J.bx rfl rfl rfl rfl rfl rfl ?_
      subst hR
      by_cases he : [] ∈ od
      · rw [if_pos he, decide_eq_true he]
        rw [if_pos he]
        exact ⟨_, .v rfl rfl rfl (fun _ => rfl) (.v rfl rfl rfl (fun _ => rfl) .nil)⟩
      · rw [if_neg he, decide_eq_false he]
        rw [if_neg he]
        exact ⟨_, .v rfl rfl rfl (fun _ => rfl) (.v rfl rfl rfl (fun _ => rfl) .nil)⟩
    · have h1 : ¬ c.op = 2 := h1
      rw [if_neg h1] at hR
      repeat' first | refine T.seq ?_ | refine T.block ?_ | refine T.r ?_ | refine J.e rfl rfl rfl rfl ?_ | refine J.nil ?_ | refine J.skip rfl rfl rfl ?_ | refine T.skip ?_ | refine T.exit ?_ | refine T.ret ?_ | refine T.rd rfl (by kernel_rfl) ?_ | refine J.bx rfl rfl rfl rfl rfl rfl ?_
      refine J.cc rfl rfl rfl rfl rfl (rmost_spec d c.vars c.coefs c.rhs (hsi d h0)).frz rfl rfl ?_
      repeat' first | refine T.seq ?_ | refine T.block ?_ | refine T.r ?_ | refine J.e rfl rfl rfl rfl ?_ | refine J.nil ?_ | refine J.skip rfl rfl rfl ?_ | refine T.skip ?_ | refine T.exit ?_ | refine T.ret ?_ | refine T.rd rfl (by kernel_rfl) ?_ | refine J.bx rfl rfl rfl rfl rfl rfl ?_
      have h0' := (hi2 d h0).1
      refine T.canon (keep := [3, 6]) (os := [3]) rfl (T.ind (fun s : Nat × Doms => ⟨[(3, .optr 0 0 0 0), (6, .val true (doms s.2))], [(0, some (.box false (cC c)))], 1⟩)
        (fun s => iter (stepD c) s.1 s.2 = some R ∧ Inv s.2) (fun s => s.1) (N, mostD d c) ⟨hR, h0'⟩ (fun _ _ h => h) ?_)
      rintro ⟨m, out⟩ ⟨hR, hi⟩ ih
      simp only at hR hi
      dsimp only
      obtain ⟨hdb, hol⟩ := hi1 out hi
      have hm2 := (rmost_spec out c.vars (turnedW c.coefs) (wr (0 - c.rhs)) (hsb out hi)).frz
      obtain ⟨_, hib⟩ := hi2 out hi
      have hm1 := (rmost_spec (mostB out c) c.vars c.coefs c.rhs (hsi _ hib)).frz
      obtain ⟨hid, _⟩ := hi2 _ hib
      have hbl := (hi1 _ hib).2
      have hdl2 := (hi1 _ hid).2
      have hse := sames_spec (mostD (mostB out c) c) out (by omega) (fun x hx => by have := ((hi1 _ hid).1 x hx).2.2; omega)
      have hst : stepD c out = stepD c out := rfl
      conv at hst => rhs; unfold stepD
      have e1 : mostRd out c.vars (turnedW c.coefs) (wr (0 - c.rhs)) c.vars.length = mostB out c := rfl
      have e2 : mostRd (mostB out c) c.vars c.coefs c.rhs c.vars.length = mostD (mostB out c) c := rfl
      rw [e1] at hm2
      rw [e2] at hm1
      generalize mostD (mostB out c) c = n2 at *
      generalize mostB out c = n1 at *
      have fin : c.op ≠ 1 ∨ [] ∈ out → R = if [] ∈ out then none else some out := fun h => by
        rw [if_neg (by rintro ⟨h2, h3⟩; exact h.elim (fun h => h h2) h3)] at hst
        exact (iter_inl hR hst).symm
      repeat' first | refine T.seq ?_ | refine T.block ?_ | refine T.r ?_ | refine J.e rfl rfl rfl rfl ?_ | refine J.nil ?_ | refine J.skip rfl rfl rfl ?_ | refine T.skip ?_ | refine T.exit ?_ | refine T.ret ?_ | refine T.rd rfl (by kernel_rfl) ?_ | refine J.bx rfl rfl rfl rfl rfl rfl ?_
      refine J.g rfl rfl rfl (fun h2 => ?_) (fun h2 => ?_)
      · have h2 : c.op = 1 := h2
        repeat' first | refine T.seq ?_ | refine T.block ?_ | refine T.r ?_ | refine J.e rfl rfl rfl rfl ?_ | refine J.nil ?_ | refine J.skip rfl rfl rfl ?_ | refine T.skip ?_ | refine T.exit ?_ | refine T.ret ?_ | refine T.rd rfl (by kernel_rfl) ?_ | refine J.bx rfl rfl rfl rfl rfl rfl ?_
        refine J.cc rfl rfl rfl rfl rfl (hem out hol) rfl rfl ?_
        repeat' first | refine T.seq ?_ | refine T.block ?_ | refine T.r ?_ | refine J.e rfl rfl rfl rfl ?_ | refine J.nil ?_ | refine J.skip rfl rfl rfl ?_ | refine T.skip ?_ | refine T.exit ?_ | refine T.ret ?_ | refine T.rd rfl (by kernel_rfl) ?_ | refine J.bx rfl rfl rfl rfl rfl rfl ?_
        by_cases he : [] ∈ out
        · rw [decide_eq_true he]
          refine T.cf rfl ?_
          have hR2 := fin (.inr he)
          rw [if_pos he] at hR2
          subst hR2
          repeat' first | refine T.seq ?_ | refine T.block ?_ | refine T.r ?_ | refine J.e rfl rfl rfl rfl ?_ | refine J.nil ?_ | refine J.skip rfl rfl rfl ?_ | refine T.skip ?_ | refine T.exit ?_ | refine T.ret ?_ | refine T.rd rfl (by kernel_rfl) ?_ | refine J.bx rfl rfl rfl rfl rfl rfl ?_
          refine J.ct rfl rfl rfl rfl rfl (htold out hol) rfl rfl ?_
          rw [if_pos he, decide_eq_true he]
          repeat' first | refine T.seq ?_ | refine T.block ?_ | refine T.r ?_ | refine J.e rfl rfl rfl rfl ?_ | refine J.nil ?_ | refine J.skip rfl rfl rfl ?_ | refine T.skip ?_ | refine T.exit ?_ | refine T.ret ?_ | refine T.rd rfl (by kernel_rfl) ?_ | refine J.bx rfl rfl rfl rfl rfl rfl ?_
          exact ⟨_, .v rfl rfl rfl (fun _ => rfl) (.v rfl rfl rfl (fun _ => rfl) .nil)⟩
        · rw [decide_eq_false he]
          rw [if_pos ⟨h2, he⟩] at hst
          refine T.ct rfl ?_
          repeat' first | refine T.seq ?_ | refine T.block ?_ | refine T.r ?_ | refine J.e rfl rfl rfl rfl ?_ | refine J.nil ?_ | refine J.skip rfl rfl rfl ?_ | refine T.skip ?_ | refine T.exit ?_ | refine T.ret ?_ | refine T.rd rfl (by kernel_rfl) ?_ | refine J.bx rfl rfl rfl rfl rfl rfl ?_
          refine J.cc rfl rfl rfl rfl rfl (rturned_spec c.coefs (by omega)) rfl rfl ?_
          repeat' first | refine T.seq ?_ | refine T.block ?_ | refine T.r ?_ | refine J.e rfl rfl rfl rfl ?_ | refine J.nil ?_ | refine J.skip rfl rfl rfl ?_ | refine T.skip ?_ | refine T.exit ?_ | refine T.ret ?_ | refine T.rd rfl (by kernel_rfl) ?_ | refine J.bx rfl rfl rfl rfl rfl rfl ?_
          refine J.cc rfl rfl rfl rfl rfl hm2 rfl rfl ?_
          repeat' first | refine T.seq ?_ | refine T.block ?_ | refine T.r ?_ | refine J.e rfl rfl rfl rfl ?_ | refine J.nil ?_ | refine J.skip rfl rfl rfl ?_ | refine T.skip ?_ | refine T.exit ?_ | refine T.ret ?_ | refine T.rd rfl (by kernel_rfl) ?_ | refine J.bx rfl rfl rfl rfl rfl rfl ?_
          refine J.cc rfl rfl rfl rfl rfl (hem n1 hbl) rfl rfl ?_
          repeat' first | refine T.seq ?_ | refine T.block ?_ | refine T.r ?_ | refine J.e rfl rfl rfl rfl ?_ | refine J.nil ?_ | refine J.skip rfl rfl rfl ?_ | refine T.skip ?_ | refine T.exit ?_ | refine T.ret ?_ | refine T.rd rfl (by kernel_rfl) ?_ | refine J.bx rfl rfl rfl rfl rfl rfl ?_
          by_cases he1 : [] ∈ n1
          · rw [decide_eq_true he1]
            rw [if_pos he1] at hst
            obtain rfl := iter_inl hR hst
            refine T.ct rfl ?_
            repeat' first | refine T.seq ?_ | refine T.block ?_ | refine T.r ?_ | refine J.e rfl rfl rfl rfl ?_ | refine J.nil ?_ | refine J.skip rfl rfl rfl ?_ | refine T.skip ?_ | refine T.exit ?_ | refine T.ret ?_ | refine T.rd rfl (by kernel_rfl) ?_ | refine J.bx rfl rfl rfl rfl rfl rfl ?_
            exact ⟨_, .v rfl rfl rfl (fun _ => rfl) (.v rfl rfl rfl (fun _ => rfl) .nil)⟩
          · rw [decide_eq_false he1]
            rw [if_neg he1] at hst
            refine T.cf rfl ?_
            repeat' first | refine T.seq ?_ | refine T.block ?_ | refine T.r ?_ | refine J.e rfl rfl rfl rfl ?_ | refine J.nil ?_ | refine J.skip rfl rfl rfl ?_ | refine T.skip ?_ | refine T.exit ?_ | refine T.ret ?_ | refine T.rd rfl (by kernel_rfl) ?_ | refine J.bx rfl rfl rfl rfl rfl rfl ?_
            refine J.cc rfl rfl rfl rfl rfl hm1 rfl rfl ?_
            repeat' first | refine T.seq ?_ | refine T.block ?_ | refine T.r ?_ | refine J.e rfl rfl rfl rfl ?_ | refine J.nil ?_ | refine J.skip rfl rfl rfl ?_ | refine T.skip ?_ | refine T.exit ?_ | refine T.ret ?_ | refine T.rd rfl (by kernel_rfl) ?_ | refine J.bx rfl rfl rfl rfl rfl rfl ?_
            refine J.cc rfl rfl rfl rfl rfl hse rfl rfl ?_
            repeat' first | refine T.seq ?_ | refine T.block ?_ | refine T.r ?_ | refine J.e rfl rfl rfl rfl ?_ | refine J.nil ?_ | refine J.skip rfl rfl rfl ?_ | refine T.skip ?_ | refine T.exit ?_ | refine T.ret ?_ | refine T.rd rfl (by kernel_rfl) ?_ | refine J.bx rfl rfl rfl rfl rfl rfl ?_
            by_cases hs : n2 = out
            · rw [decide_eq_true hs]
              rw [if_pos hs] at hst
              obtain rfl := iter_inl hR hst
              refine T.ct rfl ?_
              repeat' first | refine T.seq ?_ | refine T.block ?_ | refine T.r ?_ | refine J.e rfl rfl rfl rfl ?_ | refine J.nil ?_ | refine J.skip rfl rfl rfl ?_ | refine T.skip ?_ | refine T.exit ?_ | refine T.ret ?_ | refine T.rd rfl (by kernel_rfl) ?_ | refine J.bx rfl rfl rfl rfl rfl rfl ?_
              exact ⟨_, .v rfl rfl rfl (fun _ => rfl) (.v rfl rfl rfl (fun _ => rfl) .nil)⟩
            · rw [decide_eq_false hs]
              rw [if_neg hs] at hst
              obtain ⟨m', hlt, hR'⟩ := iter_inr hR hst
              refine T.cf rfl ?_
              repeat' first | refine T.seq ?_ | refine T.block ?_ | refine T.r ?_ | refine J.e rfl rfl rfl rfl ?_ | refine J.nil ?_ | refine J.skip rfl rfl rfl ?_ | refine T.skip ?_ | refine T.exit ?_ | refine T.ret ?_ | refine T.rd rfl (by kernel_rfl) ?_ | refine J.bx rfl rfl rfl rfl rfl rfl ?_
              exact T.canon (keep := [3, 6]) (os := [3]) rfl (ih (m', n2) ⟨hR', hid⟩ hlt)
      · have h2 : ¬ c.op = 1 := h2
        have hR2 := fin (.inl h2)
        repeat' first | refine T.seq ?_ | refine T.block ?_ | refine T.r ?_ | refine J.e rfl rfl rfl rfl ?_ | refine J.nil ?_ | refine J.skip rfl rfl rfl ?_ | refine T.skip ?_ | refine T.exit ?_ | refine T.ret ?_ | refine T.rd rfl (by kernel_rfl) ?_ | refine J.bx rfl rfl rfl rfl rfl rfl ?_
        refine T.cf rfl ?_
        repeat' first | refine T.seq ?_ | refine T.block ?_ | refine T.r ?_ | refine J.e rfl rfl rfl rfl ?_ | refine J.nil ?_ | refine J.skip rfl rfl rfl ?_ | refine T.skip ?_ | refine T.exit ?_ | refine T.ret ?_ | refine T.rd rfl (by kernel_rfl) ?_ | refine J.bx rfl rfl rfl rfl rfl rfl ?_
        refine J.ct rfl rfl rfl rfl rfl (htold out hol) rfl rfl ?_
        subst hR2
        by_cases he : [] ∈ out
        · rw [if_pos he, decide_eq_true he]
          rw [if_pos he]
          repeat' first | refine T.seq ?_ | refine T.block ?_ | refine T.r ?_ | refine J.e rfl rfl rfl rfl ?_ | refine J.nil ?_ | refine J.skip rfl rfl rfl ?_ | refine T.skip ?_ | refine T.exit ?_ | refine T.ret ?_ | refine T.rd rfl (by kernel_rfl) ?_ | refine J.bx rfl rfl rfl rfl rfl rfl ?_
          exact ⟨_, .v rfl rfl rfl (fun _ => rfl) (.v rfl rfl rfl (fun _ => rfl) .nil)⟩
        · rw [if_neg he, decide_eq_false he]
          rw [if_neg he]
          repeat' first | refine T.seq ?_ | refine T.block ?_ | refine T.r ?_ | refine J.e rfl rfl rfl rfl ?_ | refine J.nil ?_ | refine J.skip rfl rfl rfl ?_ | refine T.skip ?_ | refine T.exit ?_ | refine T.ret ?_ | refine T.rd rfl (by kernel_rfl) ?_ | refine J.bx rfl rfl rfl rfl rfl rfl ?_
          exact ⟨_, .v rfl rfl rfl (fun _ => rfl) (.v rfl rfl rfl (fun _ => rfl) .nil)⟩
end Go.Proofs.Ytchajofdjeijfaa
/-! Contracts: whether a sum is known; its opposite; what is alike. -/
namespace Go.Proofs.Ytchajofdjeijfaa
open Go Go.RowKit
set_option linter.unusedVariables false
set_option linter.unusedSimpArgs false
set_option maxRecDepth 8000

def soW (es : Int × Int × Bool) (c : Con) : Bool :=
  if es.2.2 = false then false else
  if c.op = 0 then decide (es.2.1 ≤ c.rhs) else
  if c.op = 1 then decide (es.1 = c.rhs) && decide (es.2.1 = c.rhs) else
  decide (c.rhs < es.1) || decide (es.2.1 < c.rhs)
theorem lso_spec (d : Doms) (c : Con) (h : SumIn d c.vars c.coefs) : Spec Try.prog 57 false [doms d, .agg (cC c)] [.val (.bool (soW (endsW d c.vars c.coefs) c))] := by
  refine Spec.body Try.func57 rfl rfl rfl fun w0 Z0 => ?_
  have he := lends_spec d c.vars c.coefs h
  generalize endsW d c.vars c.coefs = es at *
  obtain ⟨lo, hi, b⟩ := es
  unfold soW
  simp only
  repeat' first | refine T.seq ?_ | refine T.block ?_ | refine T.r ?_ | refine J.e rfl rfl rfl rfl ?_ | refine J.nil ?_ | refine J.skip rfl rfl rfl ?_ | refine T.skip ?_ | refine T.exit ?_ | refine T.ret ?_ | refine T.rd rfl (by kernel_rfl) ?_ | refine J.bx rfl rfl rfl rfl rfl rfl ?_
  refine J.cc rfl rfl rfl rfl rfl he rfl rfl ?_
  cases b
  · repeat' first | refine T.seq ?_ | refine T.block ?_ | refine T.r ?_ | refine J.e rfl rfl rfl rfl ?_ | refine J.nil ?_ | refine J.skip rfl rfl rfl ?_ | refine T.skip ?_ | refine T.exit ?_ | refine T.ret ?_ | refine T.rd rfl (by kernel_rfl) ?_ | refine J.bx rfl rfl rfl rfl rfl rfl ?_
    refine T.ct rfl ?_
    repeat' first | refine T.seq ?_ | refine T.block ?_ | refine T.r ?_ | refine J.e rfl rfl rfl rfl ?_ | refine J.nil ?_ | refine J.skip rfl rfl rfl ?_ | refine T.skip ?_ | refine T.exit ?_ | refine T.ret ?_ | refine T.rd rfl (by kernel_rfl) ?_ | refine J.bx rfl rfl rfl rfl rfl rfl ?_
    exact ⟨_, .v rfl rfl rfl (fun _ => rfl) .nil⟩
  · rw [if_neg (by decide)]
    repeat' first | refine T.seq ?_ | refine T.block ?_ | refine T.r ?_ | refine J.e rfl rfl rfl rfl ?_ | refine J.nil ?_ | refine J.skip rfl rfl rfl ?_ | refine T.skip ?_ | refine T.exit ?_ | refine T.ret ?_ | refine T.rd rfl (by kernel_rfl) ?_ | refine J.bx rfl rfl rfl rfl rfl rfl ?_
    refine T.cf rfl ?_
    repeat' first | refine T.seq ?_ | refine T.block ?_ | refine T.r ?_ | refine J.e rfl rfl rfl rfl ?_ | refine J.nil ?_ | refine J.skip rfl rfl rfl ?_ | refine T.skip ?_ | refine T.exit ?_ | refine T.ret ?_ | refine T.rd rfl (by kernel_rfl) ?_ | refine J.bx rfl rfl rfl rfl rfl rfl ?_
    refine T.cd rfl (fun h1 => ?_) (fun h1 => ?_)
    · have h1 : c.op = 0 := h1
      rw [if_pos h1]
      repeat' first | refine T.seq ?_ | refine T.block ?_ | refine T.r ?_ | refine J.e rfl rfl rfl rfl ?_ | refine J.nil ?_ | refine J.skip rfl rfl rfl ?_ | refine T.skip ?_ | refine T.exit ?_ | refine T.ret ?_ | refine T.rd rfl (by kernel_rfl) ?_ | refine J.bx rfl rfl rfl rfl rfl rfl ?_
      exact ⟨_, .v rfl rfl rfl (fun _ => rfl) .nil⟩
    · have h1 : ¬ c.op = 0 := h1
      rw [if_neg h1]
      repeat' first | refine T.seq ?_ | refine T.block ?_ | refine T.r ?_ | refine J.e rfl rfl rfl rfl ?_ | refine J.nil ?_ | refine J.skip rfl rfl rfl ?_ | refine T.skip ?_ | refine T.exit ?_ | refine T.ret ?_ | refine T.rd rfl (by kernel_rfl) ?_ | refine J.bx rfl rfl rfl rfl rfl rfl ?_
      refine T.cd rfl (fun h2 => ?_) (fun h2 => ?_)
      · have h2 : c.op = 1 := h2
        rw [if_pos h2]
        repeat' first | refine T.seq ?_ | refine T.block ?_ | refine T.r ?_ | refine J.e rfl rfl rfl rfl ?_ | refine J.nil ?_ | refine J.skip rfl rfl rfl ?_ | refine T.skip ?_ | refine T.exit ?_ | refine T.ret ?_ | refine T.rd rfl (by kernel_rfl) ?_ | refine J.bx rfl rfl rfl rfl rfl rfl ?_
        refine J.g rfl rfl rfl (fun h3 => ?_) (fun h3 => ?_)
        · have h3 : lo = c.rhs := h3
          rw [decide_eq_true h3]
          repeat' first | refine T.seq ?_ | refine T.block ?_ | refine T.r ?_ | refine J.e rfl rfl rfl rfl ?_ | refine J.nil ?_ | refine J.skip rfl rfl rfl ?_ | refine T.skip ?_ | refine T.exit ?_ | refine T.ret ?_ | refine T.rd rfl (by kernel_rfl) ?_ | refine J.bx rfl rfl rfl rfl rfl rfl ?_
          exact ⟨_, .v rfl rfl (by simp) (fun _ => rfl) .nil⟩
        · have h3 : ¬ lo = c.rhs := h3
          rw [decide_eq_false h3]
          repeat' first | refine T.seq ?_ | refine T.block ?_ | refine T.r ?_ | refine J.e rfl rfl rfl rfl ?_ | refine J.nil ?_ | refine J.skip rfl rfl rfl ?_ | refine T.skip ?_ | refine T.exit ?_ | refine T.ret ?_ | refine T.rd rfl (by kernel_rfl) ?_ | refine J.bx rfl rfl rfl rfl rfl rfl ?_
          exact ⟨_, .v rfl rfl rfl (fun _ => rfl) .nil⟩
      · have h2 : ¬ c.op = 1 := h2
        rw [if_neg h2]
        repeat' first | refine T.seq ?_ | refine T.block ?_ | refine T.r ?_ | refine J.e rfl rfl rfl rfl ?_ | refine J.nil ?_ | refine J.skip rfl rfl rfl ?_ | refine T.skip ?_ | refine T.exit ?_ | refine T.ret ?_ | refine T.rd rfl (by kernel_rfl) ?_ | refine J.bx rfl rfl rfl rfl rfl rfl ?_
        refine J.g rfl rfl rfl (fun h3 => ?_) (fun h3 => ?_)
        · have h3 : c.rhs < lo := h3
          rw [decide_eq_true h3]
          repeat' first | refine T.seq ?_ | refine T.block ?_ | refine T.r ?_ | refine J.e rfl rfl rfl rfl ?_ | refine J.nil ?_ | refine J.skip rfl rfl rfl ?_ | refine T.skip ?_ | refine T.exit ?_ | refine T.ret ?_ | refine T.rd rfl (by kernel_rfl) ?_ | refine J.bx rfl rfl rfl rfl rfl rfl ?_
          exact ⟨_, .v rfl rfl rfl (fun _ => rfl) .nil⟩
        · have h3 : ¬ c.rhs < lo := h3
          rw [decide_eq_false h3]
          repeat' first | refine T.seq ?_ | refine T.block ?_ | refine T.r ?_ | refine J.e rfl rfl rfl rfl ?_ | refine J.nil ?_ | refine J.skip rfl rfl rfl ?_ | refine T.skip ?_ | refine T.exit ?_ | refine T.ret ?_ | refine T.rd rfl (by kernel_rfl) ?_ | refine J.bx rfl rfl rfl rfl rfl rfl ?_
          exact ⟨_, .v rfl rfl (by simp) (fun _ => rfl) .nil⟩
theorem rso_spec (d : Doms) (c : Con) (h : SumIn d c.vars c.coefs) : Spec Try.prog 58 false [doms d, .agg (cC c)] [.val (.bool (soW (endsRW d c.vars c.coefs) c))] := by
  refine Spec.body Try.func58 rfl rfl rfl fun w0 Z0 => ?_
  have he := rends_spec d c.vars c.coefs h
  generalize endsRW d c.vars c.coefs = es at *
  obtain ⟨lo, hi, b⟩ := es
  unfold soW
  simp only
  repeat' first | refine T.seq ?_ | refine T.block ?_ | refine T.r ?_ | refine J.e rfl rfl rfl rfl ?_ | refine J.nil ?_ | refine J.skip rfl rfl rfl ?_ | refine T.skip ?_ | refine T.exit ?_ | refine T.ret ?_ | refine T.rd rfl (by kernel_rfl) ?_ | refine J.bx rfl rfl rfl rfl rfl rfl ?_
  refine J.cc rfl rfl rfl rfl rfl he rfl rfl ?_
  repeat' first | refine T.seq ?_ | refine T.block ?_ | refine T.r ?_ | refine J.e rfl rfl rfl rfl ?_ | refine J.nil ?_ | refine J.skip rfl rfl rfl ?_ | refine T.skip ?_ | refine T.exit ?_ | refine T.ret ?_ | refine T.rd rfl (by kernel_rfl) ?_ | refine J.bx rfl rfl rfl rfl rfl rfl ?_
  refine T.cd rfl (fun h1 => ?_) (fun h1 => ?_)
  · have h1 : c.op = 0 := h1
    rw [if_pos h1]
    cases b
    · repeat' first | refine T.seq ?_ | refine T.block ?_ | refine T.r ?_ | refine J.e rfl rfl rfl rfl ?_ | refine J.nil ?_ | refine J.skip rfl rfl rfl ?_ | refine T.skip ?_ | refine T.exit ?_ | refine T.ret ?_ | refine T.rd rfl (by kernel_rfl) ?_ | refine J.bx rfl rfl rfl rfl rfl rfl ?_
      exact ⟨_, .v rfl rfl rfl (fun _ => rfl) .nil⟩
    · repeat' first | refine T.seq ?_ | refine T.block ?_ | refine T.r ?_ | refine J.e rfl rfl rfl rfl ?_ | refine J.nil ?_ | refine J.skip rfl rfl rfl ?_ | refine T.skip ?_ | refine T.exit ?_ | refine T.ret ?_ | refine T.rd rfl (by kernel_rfl) ?_ | refine J.bx rfl rfl rfl rfl rfl rfl ?_
      exact ⟨_, .v rfl rfl rfl (fun _ => rfl) .nil⟩
  · have h1 : ¬ c.op = 0 := h1
    rw [if_neg h1]
    repeat' first | refine T.seq ?_ | refine T.block ?_ | refine T.r ?_ | refine J.e rfl rfl rfl rfl ?_ | refine J.nil ?_ | refine J.skip rfl rfl rfl ?_ | refine T.skip ?_ | refine T.exit ?_ | refine T.ret ?_ | refine T.rd rfl (by kernel_rfl) ?_ | refine J.bx rfl rfl rfl rfl rfl rfl ?_
    refine T.cd rfl (fun h2 => ?_) (fun h2 => ?_)
    · have h2 : c.op = 1 := h2
      rw [if_pos h2]
      cases b
      · repeat' first | refine T.seq ?_ | refine T.block ?_ | refine T.r ?_ | refine J.e rfl rfl rfl rfl ?_ | refine J.nil ?_ | refine J.skip rfl rfl rfl ?_ | refine T.skip ?_ | refine T.exit ?_ | refine T.ret ?_ | refine T.rd rfl (by kernel_rfl) ?_ | refine J.bx rfl rfl rfl rfl rfl rfl ?_
        exact ⟨_, .v rfl rfl rfl (fun _ => rfl) .nil⟩
      · rw [if_neg (by decide)]
        repeat' first | refine T.seq ?_ | refine T.block ?_ | refine T.r ?_ | refine J.e rfl rfl rfl rfl ?_ | refine J.nil ?_ | refine J.skip rfl rfl rfl ?_ | refine T.skip ?_ | refine T.exit ?_ | refine T.ret ?_ | refine T.rd rfl (by kernel_rfl) ?_ | refine J.bx rfl rfl rfl rfl rfl rfl ?_
        refine J.g rfl rfl rfl (fun h3 => ?_) (fun h3 => ?_)
        · have h3 : lo = c.rhs := h3
          rw [decide_eq_true h3]
          repeat' first | refine T.seq ?_ | refine T.block ?_ | refine T.r ?_ | refine J.e rfl rfl rfl rfl ?_ | refine J.nil ?_ | refine J.skip rfl rfl rfl ?_ | refine T.skip ?_ | refine T.exit ?_ | refine T.ret ?_ | refine T.rd rfl (by kernel_rfl) ?_ | refine J.bx rfl rfl rfl rfl rfl rfl ?_
          exact ⟨_, .v rfl rfl (by simp) (fun _ => rfl) .nil⟩
        · have h3 : ¬ lo = c.rhs := h3
          rw [decide_eq_false h3]
          repeat' first | refine T.seq ?_ | refine T.block ?_ | refine T.r ?_ | refine J.e rfl rfl rfl rfl ?_ | refine J.nil ?_ | refine J.skip rfl rfl rfl ?_ | refine T.skip ?_ | refine T.exit ?_ | refine T.ret ?_ | refine T.rd rfl (by kernel_rfl) ?_ | refine J.bx rfl rfl rfl rfl rfl rfl ?_
          exact ⟨_, .v rfl rfl rfl (fun _ => rfl) .nil⟩
    · have h2 : ¬ c.op = 1 := h2
      rw [if_neg h2]
      cases b
      · repeat' first | refine T.seq ?_ | refine T.block ?_ | refine T.r ?_ | refine J.e rfl rfl rfl rfl ?_ | refine J.nil ?_ | refine J.skip rfl rfl rfl ?_ | refine T.skip ?_ | refine T.exit ?_ | refine T.ret ?_ | refine T.rd rfl (by kernel_rfl) ?_ | refine J.bx rfl rfl rfl rfl rfl rfl ?_
        exact ⟨_, .v rfl rfl rfl (fun _ => rfl) .nil⟩
      · rw [if_neg (by decide)]
        repeat' first | refine T.seq ?_ | refine T.block ?_ | refine T.r ?_ | refine J.e rfl rfl rfl rfl ?_ | refine J.nil ?_ | refine J.skip rfl rfl rfl ?_ | refine T.skip ?_ | refine T.exit ?_ | refine T.ret ?_ | refine T.rd rfl (by kernel_rfl) ?_ | refine J.bx rfl rfl rfl rfl rfl rfl ?_
        refine J.g rfl rfl rfl (fun h3 => ?_) (fun h3 => ?_)
        · have h3 : c.rhs < lo := h3
          rw [decide_eq_true h3]
          repeat' first | refine T.seq ?_ | refine T.block ?_ | refine T.r ?_ | refine J.e rfl rfl rfl rfl ?_ | refine J.nil ?_ | refine J.skip rfl rfl rfl ?_ | refine T.skip ?_ | refine T.exit ?_ | refine T.ret ?_ | refine T.rd rfl (by kernel_rfl) ?_ | refine J.bx rfl rfl rfl rfl rfl rfl ?_
          exact ⟨_, .v rfl rfl rfl (fun _ => rfl) .nil⟩
        · have h3 : ¬ c.rhs < lo := h3
          rw [decide_eq_false h3]
          repeat' first | refine T.seq ?_ | refine T.block ?_ | refine T.r ?_ | refine J.e rfl rfl rfl rfl ?_ | refine J.nil ?_ | refine J.skip rfl rfl rfl ?_ | refine T.skip ?_ | refine T.exit ?_ | refine T.ret ?_ | refine T.rd rfl (by kernel_rfl) ?_ | refine J.bx rfl rfl rfl rfl rfl rfl ?_
          exact ⟨_, .v rfl rfl (by simp) (fun _ => rfl) .nil⟩

/-- The opposite of a sum. -/
def notW (c : Con) : Con :=
  if c.op = 0 then { c with coefs := turnedW c.coefs, rhs := wr (wr (0 - c.rhs) - 1) } else
  if c.op = 1 then { c with op := 2 } else
  if c.op = 2 then { c with op := 1 } else c
theorem lnot_spec (c : Con) (hc : ConB c) : Spec Try.prog 24 true [.agg (cC c)] [.val (.agg (cC (notW c)))] := by
  refine Spec.body Try.func24 rfl rfl rfl fun w0 Z0 => ?_
  obtain ⟨kind, vars, coefs, op, rhs, rows, b⟩ := c
  obtain ⟨h1, h2, h3, h4⟩ := hc
  simp only at h1 h2 h3 h4
  unfold notW
  simp only
  have hcv := (clonei_spec vars (by omega)).frz
  have hcc := (clonei_spec coefs h2).frz
  have htc := (lturned_spec coefs h2).frz
  repeat' first | refine T.seq ?_ | refine T.block ?_ | refine T.r ?_ | refine J.e rfl rfl rfl rfl ?_ | refine J.nil ?_ | refine J.skip rfl rfl rfl ?_ | refine T.skip ?_ | refine T.exit ?_ | refine T.ret ?_ | refine T.rd rfl (by kernel_rfl) ?_ | refine J.bx rfl rfl rfl rfl rfl rfl ?_
  refine J.al rfl rfl rfl rfl rfl rfl rfl ?_
  repeat' first | refine T.seq ?_ | refine T.block ?_ | refine T.r ?_ | refine J.e rfl rfl rfl rfl ?_ | refine J.nil ?_ | refine J.skip rfl rfl rfl ?_ | refine T.skip ?_ | refine T.exit ?_ | refine T.ret ?_ | refine T.rd rfl (by kernel_rfl) ?_ | refine J.bx rfl rfl rfl rfl rfl rfl ?_
  refine J.cc rfl rfl rfl rfl rfl hcv rfl rfl ?_
  repeat' first | refine T.seq ?_ | refine T.block ?_ | refine T.r ?_ | refine J.e rfl rfl rfl rfl ?_ | refine J.nil ?_ | refine J.skip rfl rfl rfl ?_ | refine T.skip ?_ | refine T.exit ?_ | refine T.ret ?_ | refine T.rd rfl (by kernel_rfl) ?_ | refine J.bx rfl rfl rfl rfl rfl rfl ?_
  refine J.w rfl rfl rfl rfl rfl rfl rfl rfl rfl rfl ?_
  repeat' first | refine T.seq ?_ | refine T.block ?_ | refine T.r ?_ | refine J.e rfl rfl rfl rfl ?_ | refine J.nil ?_ | refine J.skip rfl rfl rfl ?_ | refine T.skip ?_ | refine T.exit ?_ | refine T.ret ?_ | refine T.rd rfl (by kernel_rfl) ?_ | refine J.bx rfl rfl rfl rfl rfl rfl ?_
  refine T.cd rfl (fun h5 => ?_) (fun h5 => ?_)
  · have h5 : op = 0 := h5
    rw [if_pos h5]
    refine T.seq ?_
    refine T.canon (keep := [1, 2]) (os := [1, 2]) rfl (?_ : T _ _ ⟨[(1, .optr 0 0 0 0), (2, .optr 1 0 0 0)], [(0, some (.box false (cC ⟨kind, vars, coefs, op, rhs, rows, b⟩))), (1, some (.box true (cC ⟨0, [], [], 0, 0, [], 0⟩)))], 2⟩ _)
    refine T.rdw 11 rfl (by kernel_rfl) rfl ?_
    repeat' first | refine T.seq ?_ | refine T.block ?_ | refine T.r ?_ | refine J.e rfl rfl rfl rfl ?_ | refine J.nil ?_ | refine J.skip rfl rfl rfl ?_ | refine T.skip ?_ | refine T.exit ?_ | refine T.ret ?_ | refine T.rd rfl (by kernel_rfl) ?_ | refine J.bx rfl rfl rfl rfl rfl rfl ?_
    refine J.cc rfl rfl rfl rfl rfl htc rfl rfl ?_
    repeat' first | refine T.seq ?_ | refine T.block ?_ | refine T.r ?_ | refine J.e rfl rfl rfl rfl ?_ | refine J.nil ?_ | refine J.skip rfl rfl rfl ?_ | refine T.skip ?_ | refine T.exit ?_ | refine T.ret ?_ | refine T.rd rfl (by kernel_rfl) ?_ | refine J.bx rfl rfl rfl rfl rfl rfl ?_
    refine J.wd rfl rfl rfl rfl rfl rfl rfl rfl rfl rfl ?_
    repeat' first | refine T.seq ?_ | refine T.block ?_ | refine T.r ?_ | refine J.e rfl rfl rfl rfl ?_ | refine J.nil ?_ | refine J.skip rfl rfl rfl ?_ | refine T.skip ?_ | refine T.exit ?_ | refine T.ret ?_ | refine T.rd rfl (by kernel_rfl) ?_ | refine J.bx rfl rfl rfl rfl rfl rfl ?_
    refine J.wd rfl rfl rfl rfl rfl rfl rfl rfl rfl rfl ?_
    refine J.nil ?_
    refine ⟨rfl, ?_⟩
    repeat' first | refine T.seq ?_ | refine T.block ?_ | refine T.r ?_ | refine J.e rfl rfl rfl rfl ?_ | refine J.nil ?_ | refine J.skip rfl rfl rfl ?_ | refine T.skip ?_ | refine T.exit ?_ | refine T.ret ?_ | refine T.rd rfl (by kernel_rfl) ?_ | refine J.bx rfl rfl rfl rfl rfl rfl ?_
    refine J.w rfl rfl rfl rfl rfl rfl rfl rfl rfl rfl ?_
    repeat' first | refine T.seq ?_ | refine T.block ?_ | refine T.r ?_ | refine J.e rfl rfl rfl rfl ?_ | refine J.nil ?_ | refine J.skip rfl rfl rfl ?_ | refine T.skip ?_ | refine T.exit ?_ | refine T.ret ?_ | refine T.rd rfl (by kernel_rfl) ?_ | refine J.bx rfl rfl rfl rfl rfl rfl ?_
    exact ⟨_, .c rfl rfl rfl rfl (fun h => by cases h) .nil⟩
  · have h5 : ¬ op = 0 := h5
    rw [if_neg h5]
    repeat' first | refine T.seq ?_ | refine T.block ?_ | refine T.r ?_ | refine J.e rfl rfl rfl rfl ?_ | refine J.nil ?_ | refine J.skip rfl rfl rfl ?_ | refine T.skip ?_ | refine T.exit ?_ | refine T.ret ?_ | refine T.rd rfl (by kernel_rfl) ?_ | refine J.bx rfl rfl rfl rfl rfl rfl ?_
    refine T.cd rfl (fun h6 => ?_) (fun h6 => ?_)
    · have h6 : op = 1 := h6
      rw [if_pos h6]
      repeat' first | refine T.seq ?_ | refine T.block ?_ | refine T.r ?_ | refine J.e rfl rfl rfl rfl ?_ | refine J.nil ?_ | refine J.skip rfl rfl rfl ?_ | refine T.skip ?_ | refine T.exit ?_ | refine T.ret ?_ | refine T.rd rfl (by kernel_rfl) ?_ | refine J.bx rfl rfl rfl rfl rfl rfl ?_
      refine J.w rfl rfl rfl rfl rfl rfl rfl rfl rfl rfl ?_
      repeat' first | refine T.seq ?_ | refine T.block ?_ | refine T.r ?_ | refine J.e rfl rfl rfl rfl ?_ | refine J.nil ?_ | refine J.skip rfl rfl rfl ?_ | refine T.skip ?_ | refine T.exit ?_ | refine T.ret ?_ | refine T.rd rfl (by kernel_rfl) ?_ | refine J.bx rfl rfl rfl rfl rfl rfl ?_
      refine J.cc rfl rfl rfl rfl rfl hcc rfl rfl ?_
      repeat' first | refine T.seq ?_ | refine T.block ?_ | refine T.r ?_ | refine J.e rfl rfl rfl rfl ?_ | refine J.nil ?_ | refine J.skip rfl rfl rfl ?_ | refine T.skip ?_ | refine T.exit ?_ | refine T.ret ?_ | refine T.rd rfl (by kernel_rfl) ?_ | refine J.bx rfl rfl rfl rfl rfl rfl ?_
      refine J.w rfl rfl rfl rfl rfl rfl rfl rfl rfl rfl ?_
      repeat' first | refine T.seq ?_ | refine T.block ?_ | refine T.r ?_ | refine J.e rfl rfl rfl rfl ?_ | refine J.nil ?_ | refine J.skip rfl rfl rfl ?_ | refine T.skip ?_ | refine T.exit ?_ | refine T.ret ?_ | refine T.rd rfl (by kernel_rfl) ?_ | refine J.bx rfl rfl rfl rfl rfl rfl ?_
      refine J.w rfl rfl rfl rfl rfl rfl rfl rfl rfl rfl ?_
      repeat' first | refine T.seq ?_ | refine T.block ?_ | refine T.r ?_ | refine J.e rfl rfl rfl rfl ?_ | refine J.nil ?_ | refine J.skip rfl rfl rfl ?_ | refine T.skip ?_ | refine T.exit ?_ | refine T.ret ?_ | refine T.rd rfl (by kernel_rfl) ?_ | refine J.bx rfl rfl rfl rfl rfl rfl ?_
      exact ⟨_, .c rfl rfl rfl rfl (fun h => by cases h) .nil⟩
    · have h6 : ¬ op = 1 := h6
      rw [if_neg h6]
      repeat' first | refine T.seq ?_ | refine T.block ?_ | refine T.r ?_ | refine J.e rfl rfl rfl rfl ?_ | refine J.nil ?_ | refine J.skip rfl rfl rfl ?_ | refine T.skip ?_ | refine T.exit ?_ | refine T.ret ?_ | refine T.rd rfl (by kernel_rfl) ?_ | refine J.bx rfl rfl rfl rfl rfl rfl ?_
      refine T.cd rfl (fun h7 => ?_) (fun h7 => ?_)
      · have h7 : op = 2 := h7
        rw [if_pos h7]
        repeat' first | refine T.seq ?_ | refine T.block ?_ | refine T.r ?_ | refine J.e rfl rfl rfl rfl ?_ | refine J.nil ?_ | refine J.skip rfl rfl rfl ?_ | refine T.skip ?_ | refine T.exit ?_ | refine T.ret ?_ | refine T.rd rfl (by kernel_rfl) ?_ | refine J.bx rfl rfl rfl rfl rfl rfl ?_
        refine J.w rfl rfl rfl rfl rfl rfl rfl rfl rfl rfl ?_
        repeat' first | refine T.seq ?_ | refine T.block ?_ | refine T.r ?_ | refine J.e rfl rfl rfl rfl ?_ | refine J.nil ?_ | refine J.skip rfl rfl rfl ?_ | refine T.skip ?_ | refine T.exit ?_ | refine T.ret ?_ | refine T.rd rfl (by kernel_rfl) ?_ | refine J.bx rfl rfl rfl rfl rfl rfl ?_
        refine J.cc rfl rfl rfl rfl rfl hcc rfl rfl ?_
        repeat' first | refine T.seq ?_ | refine T.block ?_ | refine T.r ?_ | refine J.e rfl rfl rfl rfl ?_ | refine J.nil ?_ | refine J.skip rfl rfl rfl ?_ | refine T.skip ?_ | refine T.exit ?_ | refine T.ret ?_ | refine T.rd rfl (by kernel_rfl) ?_ | refine J.bx rfl rfl rfl rfl rfl rfl ?_
        refine J.w rfl rfl rfl rfl rfl rfl rfl rfl rfl rfl ?_
        repeat' first | refine T.seq ?_ | refine T.block ?_ | refine T.r ?_ | refine J.e rfl rfl rfl rfl ?_ | refine J.nil ?_ | refine J.skip rfl rfl rfl ?_ | refine T.skip ?_ | refine T.exit ?_ | refine T.ret ?_ | refine T.rd rfl (by kernel_rfl) ?_ | refine J.bx rfl rfl rfl rfl rfl rfl ?_
        refine J.w rfl rfl rfl rfl rfl rfl rfl rfl rfl rfl ?_
        repeat' first | refine T.seq ?_ | refine T.block ?_ | refine T.r ?_ | refine J.e rfl rfl rfl rfl ?_ | refine J.nil ?_ | refine J.skip rfl rfl rfl ?_ | refine T.skip ?_ | refine T.exit ?_ | refine T.ret ?_ | refine T.rd rfl (by kernel_rfl) ?_ | refine J.bx rfl rfl rfl rfl rfl rfl ?_
        exact ⟨_, .c rfl rfl rfl rfl (fun h => by cases h) .nil⟩
      · have h7 : ¬ op = 2 := h7
        rw [if_neg h7]
        repeat' first | refine T.seq ?_ | refine T.block ?_ | refine T.r ?_ | refine J.e rfl rfl rfl rfl ?_ | refine J.nil ?_ | refine J.skip rfl rfl rfl ?_ | refine T.skip ?_ | refine T.exit ?_ | refine T.ret ?_ | refine T.rd rfl (by kernel_rfl) ?_ | refine J.bx rfl rfl rfl rfl rfl rfl ?_
        refine J.cc rfl rfl rfl rfl rfl hcc rfl rfl ?_
        repeat' first | refine T.seq ?_ | refine T.block ?_ | refine T.r ?_ | refine J.e rfl rfl rfl rfl ?_ | refine J.nil ?_ | refine J.skip rfl rfl rfl ?_ | refine T.skip ?_ | refine T.exit ?_ | refine T.ret ?_ | refine T.rd rfl (by kernel_rfl) ?_ | refine J.bx rfl rfl rfl rfl rfl rfl ?_
        refine J.w rfl rfl rfl rfl rfl rfl rfl rfl rfl rfl ?_
        repeat' first | refine T.seq ?_ | refine T.block ?_ | refine T.r ?_ | refine J.e rfl rfl rfl rfl ?_ | refine J.nil ?_ | refine J.skip rfl rfl rfl ?_ | refine T.skip ?_ | refine T.exit ?_ | refine T.ret ?_ | refine T.rd rfl (by kernel_rfl) ?_ | refine J.bx rfl rfl rfl rfl rfl rfl ?_
        refine J.w rfl rfl rfl rfl rfl rfl rfl rfl rfl rfl ?_
        repeat' first | refine T.seq ?_ | refine T.block ?_ | refine T.r ?_ | refine J.e rfl rfl rfl rfl ?_ | refine J.nil ?_ | refine J.skip rfl rfl rfl ?_ | refine T.skip ?_ | refine T.exit ?_ | refine T.ret ?_ | refine T.rd rfl (by kernel_rfl) ?_ | refine J.bx rfl rfl rfl rfl rfl rfl ?_
        exact ⟨_, .c rfl rfl rfl rfl (fun h => by cases h) .nil⟩
theorem rnot_spec (c : Con) (hc : ConB c) : Spec Try.prog 25 true [.agg (cC c)] [.val (.agg (cC (notW c)))] := by
  refine Spec.body Try.func25 rfl rfl rfl fun w0 Z0 => ?_
  obtain ⟨kind, vars, coefs, op, rhs, rows, b⟩ := c
  obtain ⟨h1, h2, h3, h4⟩ := hc
  simp only at h1 h2 h3 h4
  unfold notW
  simp only
  have htc := (rturned_spec coefs h2).frz
  repeat' first | refine T.seq ?_ | refine T.block ?_ | refine T.r ?_ | refine J.e rfl rfl rfl rfl ?_ | refine J.nil ?_ | refine J.skip rfl rfl rfl ?_ | refine T.skip ?_ | refine T.exit ?_ | refine T.ret ?_ | refine T.rd rfl (by kernel_rfl) ?_ | refine J.bx rfl rfl rfl rfl rfl rfl ?_
  refine J.al rfl rfl rfl rfl rfl rfl rfl ?_
  repeat' first | refine T.seq ?_ | refine T.block ?_ | refine T.r ?_ | refine J.e rfl rfl rfl rfl ?_ | refine J.nil ?_ | refine J.skip rfl rfl rfl ?_ | refine T.skip ?_ | refine T.exit ?_ | refine T.ret ?_ | refine T.rd rfl (by kernel_rfl) ?_ | refine J.bx rfl rfl rfl rfl rfl rfl ?_
  refine J.al rfl rfl rfl rfl rfl rfl rfl ?_
  refine J.w rfl rfl rfl rfl rfl rfl rfl rfl rfl rfl ?_
  repeat' first | refine T.seq ?_ | refine T.block ?_ | refine T.r ?_ | refine J.e rfl rfl rfl rfl ?_ | refine J.nil ?_ | refine J.skip rfl rfl rfl ?_ | refine T.skip ?_ | refine T.exit ?_ | refine T.ret ?_ | refine T.rd rfl (by kernel_rfl) ?_ | refine J.bx rfl rfl rfl rfl rfl rfl ?_
  refine J.bo rfl rfl rfl rfl rfl rfl rfl rfl rfl rfl rfl rfl ?_
  repeat' first | refine T.seq ?_ | refine T.block ?_ | refine T.r ?_ | refine J.e rfl rfl rfl rfl ?_ | refine J.nil ?_ | refine J.skip rfl rfl rfl ?_ | refine T.skip ?_ | refine T.exit ?_ | refine T.ret ?_ | refine T.rd rfl (by kernel_rfl) ?_ | refine J.bx rfl rfl rfl rfl rfl rfl ?_
  refine J.a rfl rfl rfl rfl rfl rfl rfl rfl rfl rfl rfl rfl rfl rfl rfl rfl rfl len_I (by show (0 + List.length _) * 8 ≤ _; simp; omega) ?_
  repeat' first | refine T.seq ?_ | refine T.block ?_ | refine T.r ?_ | refine J.e rfl rfl rfl rfl ?_ | refine J.nil ?_ | refine J.skip rfl rfl rfl ?_ | refine T.skip ?_ | refine T.exit ?_ | refine T.ret ?_ | refine T.rd rfl (by kernel_rfl) ?_ | refine J.bx rfl rfl rfl rfl rfl rfl ?_
  refine J.sub (Rel.frz (s := 8) (fun _ h => h) rfl rfl) ?_
  refine J.w rfl rfl rfl rfl rfl rfl rfl rfl rfl rfl ?_
  repeat' first | refine T.seq ?_ | refine T.block ?_ | refine T.r ?_ | refine J.e rfl rfl rfl rfl ?_ | refine J.nil ?_ | refine J.skip rfl rfl rfl ?_ | refine T.skip ?_ | refine T.exit ?_ | refine T.ret ?_ | refine T.rd rfl (by kernel_rfl) ?_ | refine J.bx rfl rfl rfl rfl rfl rfl ?_
  refine J.bo rfl rfl rfl rfl rfl rfl rfl rfl rfl rfl rfl rfl ?_
  repeat' first | refine T.seq ?_ | refine T.block ?_ | refine T.r ?_ | refine J.e rfl rfl rfl rfl ?_ | refine J.nil ?_ | refine J.skip rfl rfl rfl ?_ | refine T.skip ?_ | refine T.exit ?_ | refine T.ret ?_ | refine T.rd rfl (by kernel_rfl) ?_ | refine J.bx rfl rfl rfl rfl rfl rfl ?_
  refine J.a rfl rfl rfl rfl rfl rfl rfl rfl rfl rfl rfl rfl rfl rfl rfl rfl rfl len_I (by show (0 + List.length _) * 8 ≤ _; simp; omega) ?_
  repeat' first | refine T.seq ?_ | refine T.block ?_ | refine T.r ?_ | refine J.e rfl rfl rfl rfl ?_ | refine J.nil ?_ | refine J.skip rfl rfl rfl ?_ | refine T.skip ?_ | refine T.exit ?_ | refine T.ret ?_ | refine T.rd rfl (by kernel_rfl) ?_ | refine J.bx rfl rfl rfl rfl rfl rfl ?_
  refine J.sub (Rel.frz (s := 13) (fun _ h => h) rfl rfl) ?_
  refine J.w rfl rfl rfl rfl rfl rfl rfl rfl rfl rfl ?_
  refine J.nil ?_
  refine T.canon (keep := [1, 2, 3]) (os := [1, 2, 3]) rfl (?_ : T _ _ ⟨[(1, .optr 0 0 0 0), (2, .optr 1 0 0 0), (3, .optr 2 0 0 0)], [(0, some (.box false (cC ⟨kind, vars, coefs, op, rhs, rows, b⟩))), (1, some (.box true (cC ⟨0, [], [], 0, 0, [], 0⟩))), (2, some (.box false (cC ⟨kind, vars, coefs, op, rhs, rows, b⟩)))], 3⟩ _)
  repeat' first | refine T.seq ?_ | refine T.block ?_ | refine T.r ?_ | refine J.e rfl rfl rfl rfl ?_ | refine J.nil ?_ | refine J.skip rfl rfl rfl ?_ | refine T.skip ?_ | refine T.exit ?_ | refine T.ret ?_ | refine T.rd rfl (by kernel_rfl) ?_ | refine J.bx rfl rfl rfl rfl rfl rfl ?_
  refine T.cd rfl (fun h5 => ?_) (fun h5 => ?_)
  · have h5 : op = 0 := h5
    subst h5
    repeat' first | refine T.seq ?_ | refine T.block ?_ | refine T.r ?_ | refine J.e rfl rfl rfl rfl ?_ | refine J.nil ?_ | refine J.skip rfl rfl rfl ?_ | refine T.skip ?_ | refine T.exit ?_ | refine T.ret ?_ | refine T.rd rfl (by kernel_rfl) ?_ | refine J.bx rfl rfl rfl rfl rfl rfl ?_
    refine J.cc rfl rfl rfl rfl rfl htc rfl rfl ?_
    repeat' first | refine T.seq ?_ | refine T.block ?_ | refine T.r ?_ | refine J.e rfl rfl rfl rfl ?_ | refine J.nil ?_ | refine J.skip rfl rfl rfl ?_ | refine T.skip ?_ | refine T.exit ?_ | refine T.ret ?_ | refine T.rd rfl (by kernel_rfl) ?_ | refine J.bx rfl rfl rfl rfl rfl rfl ?_
    refine J.w rfl rfl rfl rfl rfl rfl rfl rfl rfl rfl ?_
    repeat' first | refine T.seq ?_ | refine T.block ?_ | refine T.r ?_ | refine J.e rfl rfl rfl rfl ?_ | refine J.nil ?_ | refine J.skip rfl rfl rfl ?_ | refine T.skip ?_ | refine T.exit ?_ | refine T.ret ?_ | refine T.rd rfl (by kernel_rfl) ?_ | refine J.bx rfl rfl rfl rfl rfl rfl ?_
    refine J.w rfl rfl rfl rfl rfl rfl rfl rfl rfl rfl ?_
    repeat' first | refine T.seq ?_ | refine T.block ?_ | refine T.r ?_ | refine J.e rfl rfl rfl rfl ?_ | refine J.nil ?_ | refine J.skip rfl rfl rfl ?_ | refine T.skip ?_ | refine T.exit ?_ | refine T.ret ?_ | refine T.rd rfl (by kernel_rfl) ?_ | refine J.bx rfl rfl rfl rfl rfl rfl ?_
    refine T.cf rfl ?_
    repeat' first | refine T.seq ?_ | refine T.block ?_ | refine T.r ?_ | refine J.e rfl rfl rfl rfl ?_ | refine J.nil ?_ | refine J.skip rfl rfl rfl ?_ | refine T.skip ?_ | refine T.exit ?_ | refine T.ret ?_ | refine T.rd rfl (by kernel_rfl) ?_ | refine J.bx rfl rfl rfl rfl rfl rfl ?_
    refine T.cf rfl ?_
    repeat' first | refine T.seq ?_ | refine T.block ?_ | refine T.r ?_ | refine J.e rfl rfl rfl rfl ?_ | refine J.nil ?_ | refine J.skip rfl rfl rfl ?_ | refine T.skip ?_ | refine T.exit ?_ | refine T.ret ?_ | refine T.rd rfl (by kernel_rfl) ?_ | refine J.bx rfl rfl rfl rfl rfl rfl ?_
    refine J.w rfl rfl rfl rfl rfl rfl rfl rfl rfl rfl ?_
    repeat' first | refine T.seq ?_ | refine T.block ?_ | refine T.r ?_ | refine J.e rfl rfl rfl rfl ?_ | refine J.nil ?_ | refine J.skip rfl rfl rfl ?_ | refine T.skip ?_ | refine T.exit ?_ | refine T.ret ?_ | refine T.rd rfl (by kernel_rfl) ?_ | refine J.bx rfl rfl rfl rfl rfl rfl ?_
    exact ⟨_, .c rfl rfl rfl rfl (fun h => by cases h) .nil⟩
  · have h5 : ¬ op = 0 := h5
    rw [if_neg h5]
    repeat' first | refine T.seq ?_ | refine T.block ?_ | refine T.r ?_ | refine J.e rfl rfl rfl rfl ?_ | refine J.nil ?_ | refine J.skip rfl rfl rfl ?_ | refine T.skip ?_ | refine T.exit ?_ | refine T.ret ?_ | refine T.rd rfl (by kernel_rfl) ?_ | refine J.bx rfl rfl rfl rfl rfl rfl ?_
    refine T.cd rfl (fun h6 => ?_) (fun h6 => ?_)
    · have h6 : op = 1 := h6
      subst h6
      repeat' first | refine T.seq ?_ | refine T.block ?_ | refine T.r ?_ | refine J.e rfl rfl rfl rfl ?_ | refine J.nil ?_ | refine J.skip rfl rfl rfl ?_ | refine T.skip ?_ | refine T.exit ?_ | refine T.ret ?_ | refine T.rd rfl (by kernel_rfl) ?_ | refine J.bx rfl rfl rfl rfl rfl rfl ?_
      refine J.w rfl rfl rfl rfl rfl rfl rfl rfl rfl rfl ?_
      repeat' first | refine T.seq ?_ | refine T.block ?_ | refine T.r ?_ | refine J.e rfl rfl rfl rfl ?_ | refine J.nil ?_ | refine J.skip rfl rfl rfl ?_ | refine T.skip ?_ | refine T.exit ?_ | refine T.ret ?_ | refine T.rd rfl (by kernel_rfl) ?_ | refine J.bx rfl rfl rfl rfl rfl rfl ?_
      refine T.cf rfl ?_
      repeat' first | refine T.seq ?_ | refine T.block ?_ | refine T.r ?_ | refine J.e rfl rfl rfl rfl ?_ | refine J.nil ?_ | refine J.skip rfl rfl rfl ?_ | refine T.skip ?_ | refine T.exit ?_ | refine T.ret ?_ | refine T.rd rfl (by kernel_rfl) ?_ | refine J.bx rfl rfl rfl rfl rfl rfl ?_
      refine J.w rfl rfl rfl rfl rfl rfl rfl rfl rfl rfl ?_
      repeat' first | refine T.seq ?_ | refine T.block ?_ | refine T.r ?_ | refine J.e rfl rfl rfl rfl ?_ | refine J.nil ?_ | refine J.skip rfl rfl rfl ?_ | refine T.skip ?_ | refine T.exit ?_ | refine T.ret ?_ | refine T.rd rfl (by kernel_rfl) ?_ | refine J.bx rfl rfl rfl rfl rfl rfl ?_
      exact ⟨_, .c rfl rfl rfl rfl (fun h => by cases h) .nil⟩
    · have h6 : ¬ op = 1 := h6
      rw [if_neg h6]
      repeat' first | refine T.seq ?_ | refine T.block ?_ | refine T.r ?_ | refine J.e rfl rfl rfl rfl ?_ | refine J.nil ?_ | refine J.skip rfl rfl rfl ?_ | refine T.skip ?_ | refine T.exit ?_ | refine T.ret ?_ | refine T.rd rfl (by kernel_rfl) ?_ | refine J.bx rfl rfl rfl rfl rfl rfl ?_
      refine T.cd rfl (fun h7 => ?_) (fun h7 => ?_)
      · have h7 : op = 2 := h7
        rw [if_pos h7]
        repeat' first | refine T.seq ?_ | refine T.block ?_ | refine T.r ?_ | refine J.e rfl rfl rfl rfl ?_ | refine J.nil ?_ | refine J.skip rfl rfl rfl ?_ | refine T.skip ?_ | refine T.exit ?_ | refine T.ret ?_ | refine T.rd rfl (by kernel_rfl) ?_ | refine J.bx rfl rfl rfl rfl rfl rfl ?_
        refine J.w rfl rfl rfl rfl rfl rfl rfl rfl rfl rfl ?_
        repeat' first | refine T.seq ?_ | refine T.block ?_ | refine T.r ?_ | refine J.e rfl rfl rfl rfl ?_ | refine J.nil ?_ | refine J.skip rfl rfl rfl ?_ | refine T.skip ?_ | refine T.exit ?_ | refine T.ret ?_ | refine T.rd rfl (by kernel_rfl) ?_ | refine J.bx rfl rfl rfl rfl rfl rfl ?_
        refine J.w rfl rfl rfl rfl rfl rfl rfl rfl rfl rfl ?_
        repeat' first | refine T.seq ?_ | refine T.block ?_ | refine T.r ?_ | refine J.e rfl rfl rfl rfl ?_ | refine J.nil ?_ | refine J.skip rfl rfl rfl ?_ | refine T.skip ?_ | refine T.exit ?_ | refine T.ret ?_ | refine T.rd rfl (by kernel_rfl) ?_ | refine J.bx rfl rfl rfl rfl rfl rfl ?_
        exact ⟨_, .c rfl rfl rfl rfl (fun h => by cases h) .nil⟩
      · have h7 : ¬ op = 2 := h7
        rw [if_neg h7]
        repeat' first | refine T.seq ?_ | refine T.block ?_ | refine T.r ?_ | refine J.e rfl rfl rfl rfl ?_ | refine J.nil ?_ | refine J.skip rfl rfl rfl ?_ | refine T.skip ?_ | refine T.exit ?_ | refine T.ret ?_ | refine T.rd rfl (by kernel_rfl) ?_ | refine J.bx rfl rfl rfl rfl rfl rfl ?_
        refine J.w rfl rfl rfl rfl rfl rfl rfl rfl rfl rfl ?_
        repeat' first | refine T.seq ?_ | refine T.block ?_ | refine T.r ?_ | refine J.e rfl rfl rfl rfl ?_ | refine J.nil ?_ | refine J.skip rfl rfl rfl ?_ | refine T.skip ?_ | refine T.exit ?_ | refine T.ret ?_ | refine T.rd rfl (by kernel_rfl) ?_ | refine J.bx rfl rfl rfl rfl rfl rfl ?_
        exact ⟨_, .c rfl rfl rfl rfl (fun h => by cases h) .nil⟩
theorem notW_B {c : Con} (h : ConB c) : ConB (notW c) := by
  obtain ⟨h1, h2, h3, h4⟩ := h
  unfold notW
  split
  · exact ⟨h1, by simpa [turnedW] using h2, h3, h4⟩
  · split
    · exact ⟨h1, h2, h3, h4⟩
    · split <;> exact ⟨h1, h2, h3, h4⟩
theorem notW_in {d : Doms} {c : Con} (h : SumIn d c.vars c.coefs) : SumIn d (notW c).vars (notW c).coefs := by
  unfold notW
  split
  · obtain ⟨a1, a2, a3, a4, a5, a6⟩ := h
    exact ⟨by simp [turnedW, a1], a2, a3, fun k hk => by
      obtain ⟨k0, hk0, rfl⟩ := List.mem_map.1 hk
      exact (turned_ok (a4 _ hk0)).2, a5, a6⟩
  · split
    · exact h
    · split <;> exact h
theorem lknown_spec (d : Doms) (c : Con) (hc : ConB c) (h : SumIn d c.vars c.coefs) : Spec Try.prog 21 false [doms d, .agg (cC c)]
    [.val (.bool (soW (endsW d c.vars c.coefs) c)), .val (.bool (soW (endsW d c.vars c.coefs) c || soW (endsW d (notW c).vars (notW c).coefs) (notW c)))] := by
  refine Spec.body Try.func21 rfl rfl rfl fun w0 Z0 => ?_
  have h1 := lso_spec d c h
  have h2 := lso_spec d (notW c) (notW_in h)
  have hn := lnot_spec c hc
  generalize soW (endsW d c.vars c.coefs) c = b1 at *
  generalize soW (endsW d (notW c).vars (notW c).coefs) (notW c) = b2 at *
  repeat' first | refine T.seq ?_ | refine T.block ?_ | refine T.r ?_ | refine J.e rfl rfl rfl rfl ?_ | refine J.nil ?_ | refine J.skip rfl rfl rfl ?_ | refine T.skip ?_ | refine T.exit ?_ | refine T.ret ?_ | refine T.rd rfl (by kernel_rfl) ?_ | refine J.bx rfl rfl rfl rfl rfl rfl ?_
  refine J.cc rfl rfl rfl rfl rfl h1 rfl rfl ?_
  cases b1
  · refine J.nil ?_
    refine T.cf rfl ?_
    repeat' first | refine T.seq ?_ | refine T.block ?_ | refine T.r ?_ | refine J.e rfl rfl rfl rfl ?_ | refine J.nil ?_ | refine J.skip rfl rfl rfl ?_ | refine T.skip ?_ | refine T.exit ?_ | refine T.ret ?_ | refine T.rd rfl (by kernel_rfl) ?_ | refine J.bx rfl rfl rfl rfl rfl rfl ?_
    refine J.cc rfl rfl rfl rfl rfl hn rfl rfl ?_
    refine J.cc rfl rfl rfl rfl rfl h2 rfl rfl ?_
    repeat' first | refine T.seq ?_ | refine T.block ?_ | refine T.r ?_ | refine J.e rfl rfl rfl rfl ?_ | refine J.nil ?_ | refine J.skip rfl rfl rfl ?_ | refine T.skip ?_ | refine T.exit ?_ | refine T.ret ?_ | refine T.rd rfl (by kernel_rfl) ?_ | refine J.bx rfl rfl rfl rfl rfl rfl ?_
    exact ⟨_, .v rfl rfl rfl (fun _ => rfl) (.v rfl rfl (by simp) (fun _ => rfl) .nil)⟩
  · refine J.nil ?_
    refine T.ct rfl ?_
    repeat' first | refine T.seq ?_ | refine T.block ?_ | refine T.r ?_ | refine J.e rfl rfl rfl rfl ?_ | refine J.nil ?_ | refine J.skip rfl rfl rfl ?_ | refine T.skip ?_ | refine T.exit ?_ | refine T.ret ?_ | refine T.rd rfl (by kernel_rfl) ?_ | refine J.bx rfl rfl rfl rfl rfl rfl ?_
    exact ⟨_, .v rfl rfl rfl (fun _ => rfl) (.v rfl rfl rfl (fun _ => rfl) .nil)⟩
theorem rknown_spec (d : Doms) (c : Con) (hc : ConB c) (h : SumIn d c.vars c.coefs) : Spec Try.prog 22 false [doms d, .agg (cC c)]
    [.val (.bool (soW (endsRW d c.vars c.coefs) c)), .val (.bool (soW (endsRW d c.vars c.coefs) c || soW (endsRW d (notW c).vars (notW c).coefs) (notW c)))] := by
  refine Spec.body Try.func22 rfl rfl rfl fun w0 Z0 => ?_
  have h1 := rso_spec d c h
  have h2 := rso_spec d (notW c) (notW_in h)
  have hn := rnot_spec c hc
  generalize soW (endsRW d c.vars c.coefs) c = b1 at *
  generalize soW (endsRW d (notW c).vars (notW c).coefs) (notW c) = b2 at *
  repeat' first | refine T.seq ?_ | refine T.block ?_ | refine T.r ?_ | refine J.e rfl rfl rfl rfl ?_ | refine J.nil ?_ | refine J.skip rfl rfl rfl ?_ | refine T.skip ?_ | refine T.exit ?_ | refine T.ret ?_ | refine T.rd rfl (by kernel_rfl) ?_ | refine J.bx rfl rfl rfl rfl rfl rfl ?_
  refine J.cc rfl rfl rfl rfl rfl h1 rfl rfl ?_
  repeat' first | refine T.seq ?_ | refine T.block ?_ | refine T.r ?_ | refine J.e rfl rfl rfl rfl ?_ | refine J.nil ?_ | refine J.skip rfl rfl rfl ?_ | refine T.skip ?_ | refine T.exit ?_ | refine T.ret ?_ | refine T.rd rfl (by kernel_rfl) ?_ | refine J.bx rfl rfl rfl rfl rfl rfl ?_
  refine J.cc rfl rfl rfl rfl rfl hn rfl rfl ?_
  repeat' first | refine T.seq ?_ | refine T.block ?_ | refine T.r ?_ | refine J.e rfl rfl rfl rfl ?_ | refine J.nil ?_ | refine J.skip rfl rfl rfl ?_ | refine T.skip ?_ | refine T.exit ?_ | refine T.ret ?_ | refine T.rd rfl (by kernel_rfl) ?_ | refine J.bx rfl rfl rfl rfl rfl rfl ?_
  refine J.cc rfl rfl rfl rfl rfl h2 rfl rfl ?_
  repeat' first | refine J.e rfl rfl rfl rfl ?_ | refine J.skip rfl rfl rfl ?_ | refine J.bx rfl rfl rfl rfl rfl rfl ?_
  refine J.nil ?_
  refine T.canon (keep := [6, 7]) (os := []) rfl ?_
  cases b1
  · repeat' first | refine T.seq ?_ | refine T.block ?_ | refine T.r ?_ | refine J.e rfl rfl rfl rfl ?_ | refine J.nil ?_ | refine J.skip rfl rfl rfl ?_ | refine T.skip ?_ | refine T.exit ?_ | refine T.ret ?_ | refine T.rd rfl (by kernel_rfl) ?_ | refine J.bx rfl rfl rfl rfl rfl rfl ?_
    exact ⟨_, .v rfl rfl rfl (fun _ => rfl) (.v rfl rfl (by simp) (fun _ => rfl) .nil)⟩
  · repeat' first | refine T.seq ?_ | refine T.block ?_ | refine T.r ?_ | refine J.e rfl rfl rfl rfl ?_ | refine J.nil ?_ | refine J.skip rfl rfl rfl ?_ | refine T.skip ?_ | refine T.exit ?_ | refine T.ret ?_ | refine T.rd rfl (by kernel_rfl) ?_ | refine J.bx rfl rfl rfl rfl rfl rfl ?_
    exact ⟨_, .v rfl rfl rfl (fun _ => rfl) (.v rfl rfl rfl (fun _ => rfl) .nil)⟩

theorem lists4_spec (a b : List (List Int)) (hl : a.length * 8 ≤ 140737488355328) (hx : ∀ x ∈ a, x.length * 8 ≤ 140737488355328) : Spec Try.prog 59 false [lists a, lists b] [.val (.bool (decide (a = b)))] := by
  refine Spec.body Try.func59 rfl rfl rfl fun w0 Z0 => ?_
  repeat' first | refine T.seq ?_ | refine T.block ?_ | refine T.r ?_ | refine J.e rfl rfl rfl rfl ?_ | refine J.nil ?_ | refine J.skip rfl rfl rfl ?_ | refine T.skip ?_ | refine T.exit ?_ | refine T.ret ?_ | refine T.rd rfl (by kernel_rfl) ?_ | refine J.bx rfl rfl rfl rfl rfl rfl ?_
  refine T.cd rfl (fun h => ?_) (fun h => ?_)
  · repeat' first | refine T.seq ?_ | refine T.block ?_ | refine T.r ?_ | refine J.e rfl rfl rfl rfl ?_ | refine J.nil ?_ | refine J.skip rfl rfl rfl ?_ | refine T.skip ?_ | refine T.exit ?_ | refine T.ret ?_ | refine T.rd rfl (by kernel_rfl) ?_ | refine J.bx rfl rfl rfl rfl rfl rfl ?_
    refine ⟨_, .v rfl rfl ?_ (fun _ => rfl) .nil⟩
    rw [decide_eq_false]
    intro e
    subst e
    exact h rfl
  · have h : a.length = b.length := by
      have h : ¬ (((a.map cL).length : Int) ≠ (b.map cL).length) := h
      simp at h; omega
    repeat' first | refine T.seq ?_ | refine T.block ?_ | refine T.r ?_ | refine J.e rfl rfl rfl rfl ?_ | refine J.nil ?_ | refine J.skip rfl rfl rfl ?_ | refine T.skip ?_ | refine T.exit ?_ | refine T.ret ?_ | refine T.rd rfl (by kernel_rfl) ?_ | refine J.bx rfl rfl rfl rfl rfl rfl ?_
    refine T.canon (keep := [0, 1, 5]) (os := []) rfl (T.ind (fun i : Nat => ⟨[(0, .val false (lists a)), (1, .val false (lists b)), (5, .val true (.int .i64 i))], [], 0⟩) (fun i => i ≤ a.length ∧ a.take i = b.take i) (fun i => a.length - i) 0 (by simp) (fun _ _ h => h) ?_)
    rintro i ⟨hi, ht⟩ ih
    repeat' first | refine T.seq ?_ | refine T.block ?_ | refine T.r ?_ | refine J.e rfl rfl rfl rfl ?_ | refine J.nil ?_ | refine J.skip rfl rfl rfl ?_ | refine T.skip ?_ | refine T.exit ?_ | refine T.ret ?_ | refine T.rd rfl (by kernel_rfl) ?_ | refine J.bx rfl rfl rfl rfl rfl rfl ?_
    refine T.cd rfl (fun h1 => ?_) (fun h1 => ?_)
    · have h1 : i < a.length := by simpa using h1
      have h2 : i < b.length := by omega
      repeat' first | refine T.seq ?_ | refine T.block ?_ | refine T.r ?_ | refine J.e rfl rfl rfl rfl ?_ | refine J.nil ?_ | refine J.skip rfl rfl rfl ?_ | refine T.skip ?_ | refine T.exit ?_ | refine T.ret ?_ | refine T.rd rfl (by kernel_rfl) ?_ | refine J.bx rfl rfl rfl rfl rfl rfl ?_
      refine J.i rfl rfl rfl rfl rfl rfl rfl rfl rfl (r := cL a[i]) (by omega) (row_i h1) rfl ?_
      repeat' first | refine T.seq ?_ | refine T.block ?_ | refine T.r ?_ | refine J.e rfl rfl rfl rfl ?_ | refine J.nil ?_ | refine J.skip rfl rfl rfl ?_ | refine T.skip ?_ | refine T.exit ?_ | refine T.ret ?_ | refine T.rd rfl (by kernel_rfl) ?_ | refine J.bx rfl rfl rfl rfl rfl rfl ?_
      refine J.i rfl rfl rfl rfl rfl rfl rfl rfl rfl (r := cL b[i]) (by omega) (row_i h2) rfl ?_
      repeat' first | refine T.seq ?_ | refine T.block ?_ | refine T.r ?_ | refine J.e rfl rfl rfl rfl ?_ | refine J.nil ?_ | refine J.skip rfl rfl rfl ?_ | refine T.skip ?_ | refine T.exit ?_ | refine T.ret ?_ | refine T.rd rfl (by kernel_rfl) ?_ | refine J.bx rfl rfl rfl rfl rfl rfl ?_
      refine J.cc rfl rfl rfl rfl rfl (nums_spec a[i] b[i] (hx _ (List.getElem_mem h1))) rfl rfl ?_
      repeat' first | refine T.seq ?_ | refine T.block ?_ | refine T.r ?_ | refine J.e rfl rfl rfl rfl ?_ | refine J.nil ?_ | refine J.skip rfl rfl rfl ?_ | refine T.skip ?_ | refine T.exit ?_ | refine T.ret ?_ | refine T.rd rfl (by kernel_rfl) ?_ | refine J.bx rfl rfl rfl rfl rfl rfl ?_
      by_cases e : a[i] = b[i]
      · rw [decide_eq_true e]
        refine T.cf rfl ?_
        repeat' first | refine T.seq ?_ | refine T.block ?_ | refine T.r ?_ | refine J.e rfl rfl rfl rfl ?_ | refine J.nil ?_ | refine J.skip rfl rfl rfl ?_ | refine T.skip ?_ | refine T.exit ?_ | refine T.ret ?_ | refine T.rd rfl (by kernel_rfl) ?_ | refine J.bx rfl rfl rfl rfl rfl rfl ?_
        rw [wrap1 (l := a.length) (by omega) (by omega)]
        exact T.canon (keep := [0, 1, 5]) (os := []) rfl (ih (i + 1) ⟨by omega, take_same ht h1 h2 e⟩ (by omega))
      · rw [decide_eq_false e]
        refine T.ct rfl ?_
        repeat' first | refine T.seq ?_ | refine T.block ?_ | refine T.r ?_ | refine J.e rfl rfl rfl rfl ?_ | refine J.nil ?_ | refine J.skip rfl rfl rfl ?_ | refine T.skip ?_ | refine T.exit ?_ | refine T.ret ?_ | refine T.rd rfl (by kernel_rfl) ?_ | refine J.bx rfl rfl rfl rfl rfl rfl ?_
        refine ⟨_, .v rfl rfl ?_ (fun _ => rfl) .nil⟩
        rw [decide_eq_false]
        intro e2
        subst e2
        exact e rfl
    · have h1 : i = a.length := by simp at h1; omega
      subst h1
      repeat' first | refine T.seq ?_ | refine T.block ?_ | refine T.r ?_ | refine J.e rfl rfl rfl rfl ?_ | refine J.nil ?_ | refine J.skip rfl rfl rfl ?_ | refine T.skip ?_ | refine T.exit ?_ | refine T.ret ?_ | refine T.rd rfl (by kernel_rfl) ?_ | refine J.bx rfl rfl rfl rfl rfl rfl ?_
      refine ⟨_, .v rfl rfl ?_ (fun _ => rfl) .nil⟩
      rw [List.take_length, h, List.take_length] at ht
      rw [decide_eq_true ht]
theorem alike_spec (a : Con) (ha : ConB a) : Spec Try.prog 23 false [.agg (cC a), .agg (cC a)] [.val (.bool true)] := by
  refine Spec.body Try.func23 rfl rfl rfl fun w0 Z0 => ?_
  obtain ⟨h1, h2, h3, h4⟩ := ha
  have n1 := nums_spec a.vars a.vars (by omega)
  have n2 := nums_spec a.coefs a.coefs h2
  have n3 := lists4_spec a.rows a.rows (by omega) h4
  rw [decide_eq_true rfl] at n1 n2 n3
  repeat' first | refine T.seq ?_ | refine T.block ?_ | refine T.r ?_ | refine J.e rfl rfl rfl rfl ?_ | refine J.nil ?_ | refine J.skip rfl rfl rfl ?_ | refine T.skip ?_ | refine T.exit ?_ | refine T.ret ?_ | refine T.rd rfl (by kernel_rfl) ?_ | refine J.bx rfl rfl rfl rfl rfl rfl ?_
  refine J.g rfl rfl rfl (fun h => ?_) (fun h => absurd rfl h)
  repeat' first | refine T.seq ?_ | refine T.block ?_ | refine T.r ?_ | refine J.e rfl rfl rfl rfl ?_ | refine J.nil ?_ | refine J.skip rfl rfl rfl ?_ | refine T.skip ?_ | refine T.exit ?_ | refine T.ret ?_ | refine T.rd rfl (by kernel_rfl) ?_ | refine J.bx rfl rfl rfl rfl rfl rfl ?_
  refine J.g rfl rfl rfl (fun h => ?_) (fun h => absurd rfl h)
  repeat' first | refine T.seq ?_ | refine T.block ?_ | refine T.r ?_ | refine J.e rfl rfl rfl rfl ?_ | refine J.nil ?_ | refine J.skip rfl rfl rfl ?_ | refine T.skip ?_ | refine T.exit ?_ | refine T.ret ?_ | refine T.rd rfl (by kernel_rfl) ?_ | refine J.bx rfl rfl rfl rfl rfl rfl ?_
  refine J.g rfl rfl rfl (fun h => ?_) (fun h => absurd rfl h)
  repeat' first | refine T.seq ?_ | refine T.block ?_ | refine T.r ?_ | refine J.e rfl rfl rfl rfl ?_ | refine J.nil ?_ | refine J.skip rfl rfl rfl ?_ | refine T.skip ?_ | refine T.exit ?_ | refine T.ret ?_ | refine T.rd rfl (by kernel_rfl) ?_ | refine J.bx rfl rfl rfl rfl rfl rfl ?_
  refine J.g rfl rfl rfl (fun h => ?_) (fun h => absurd rfl h)
  repeat' first | refine T.seq ?_ | refine T.block ?_ | refine T.r ?_ | refine J.e rfl rfl rfl rfl ?_ | refine J.nil ?_ | refine J.skip rfl rfl rfl ?_ | refine T.skip ?_ | refine T.exit ?_ | refine T.ret ?_ | refine T.rd rfl (by kernel_rfl) ?_ | refine J.bx rfl rfl rfl rfl rfl rfl ?_
  refine J.cc rfl rfl rfl rfl rfl n1 rfl rfl ?_
  repeat' first | refine T.seq ?_ | refine T.block ?_ | refine T.r ?_ | refine J.e rfl rfl rfl rfl ?_ | refine J.nil ?_ | refine J.skip rfl rfl rfl ?_ | refine T.skip ?_ | refine T.exit ?_ | refine T.ret ?_ | refine T.rd rfl (by kernel_rfl) ?_ | refine J.bx rfl rfl rfl rfl rfl rfl ?_
  refine J.cc rfl rfl rfl rfl rfl n2 rfl rfl ?_
  repeat' first | refine T.seq ?_ | refine T.block ?_ | refine T.r ?_ | refine J.e rfl rfl rfl rfl ?_ | refine J.nil ?_ | refine J.skip rfl rfl rfl ?_ | refine T.skip ?_ | refine T.exit ?_ | refine T.ret ?_ | refine T.rd rfl (by kernel_rfl) ?_ | refine J.bx rfl rfl rfl rfl rfl rfl ?_
  refine J.cc rfl rfl rfl rfl rfl n3 rfl rfl ?_
  repeat' first | refine T.seq ?_ | refine T.block ?_ | refine T.r ?_ | refine J.e rfl rfl rfl rfl ?_ | refine J.nil ?_ | refine J.skip rfl rfl rfl ?_ | refine T.skip ?_ | refine T.exit ?_ | refine T.ret ?_ | refine T.rd rfl (by kernel_rfl) ?_ | refine J.bx rfl rfl rfl rfl rfl rfl ?_
  exact ⟨_, .v rfl rfl rfl (fun _ => rfl) .nil⟩
end Go.Proofs.Ytchajofdjeijfaa
/-! Contracts: what the statements of sums are laid from; the calls whose answers the document fixes. -/
namespace Go.Proofs.Ytchajofdjeijfaa
open Go Go.RowKit
set_option linter.unusedVariables false
set_option linter.unusedSimpArgs false
set_option maxRecDepth 8000

def laidS (o : Case) : Doms := (o.d.take 5).map smallR
def laidSC (o : Case) : Con := { o.c with kind := 0 }
def laidSOK (o : Case) : Bool := decide (conR (laidS o) (laidSC o) = 0)
theorem slaid_spec (o : Case) (ho : CaseB o) : Spec Try.prog 13 true [.agg (cCase o)] [.own 38 1 ((laidS o).map cD), .val (.agg (cC (laidSC o))), .val (.bool (laidSOK o))] := by
  refine Spec.body Try.func13 rfl rfl rfl fun w0 Z0 => ?_
  obtain ⟨hc, hd1, hd2⟩ := ho
  have hcl : ConB (laidSC o) := hc
  have hdl : (laidS o).length ≤ 5 := by simp [laidS]; omega
  have hdx : ∀ x ∈ laidS o, x.length * 8 ≤ 140737488355328 := fun x hx => by
    obtain ⟨y, _, rfl⟩ := List.mem_map.1 hx
    have := smallR_length y
    omega
  have hcon := con_spec (laidS o) (laidSC o) hcl (by omega) hdx
  have hok : laidSOK o = decide (conR (laidS o) (laidSC o) = 0) := rfl
  have hld : laidS o = (o.d.take 5).map smallR := rfl
  generalize laidS o = D at *
  repeat' first | refine T.seq ?_ | refine T.block ?_ | refine T.r ?_ | refine J.e rfl rfl rfl rfl ?_ | refine J.nil ?_ | refine J.skip rfl rfl rfl ?_ | refine T.skip ?_ | refine T.exit ?_ | refine T.ret ?_ | refine T.rd rfl (by kernel_rfl) ?_ | refine J.bx rfl rfl rfl rfl rfl rfl ?_
  refine J.al rfl rfl rfl rfl rfl rfl rfl ?_
  repeat' first | refine T.seq ?_ | refine T.block ?_ | refine T.r ?_ | refine J.e rfl rfl rfl rfl ?_ | refine J.nil ?_ | refine J.skip rfl rfl rfl ?_ | refine T.skip ?_ | refine T.exit ?_ | refine T.ret ?_ | refine T.rd rfl (by kernel_rfl) ?_ | refine J.bx rfl rfl rfl rfl rfl rfl ?_
  refine J.bo rfl rfl rfl rfl rfl rfl rfl rfl rfl rfl rfl rfl ?_
  repeat' first | refine T.seq ?_ | refine T.block ?_ | refine T.r ?_ | refine J.e rfl rfl rfl rfl ?_ | refine J.nil ?_ | refine J.skip rfl rfl rfl ?_ | refine T.skip ?_ | refine T.exit ?_ | refine T.ret ?_ | refine T.rd rfl (by kernel_rfl) ?_ | refine J.bx rfl rfl rfl rfl rfl rfl ?_
  refine T.canon (keep := [1, 3, 5, 6]) (os := [1, 3, 5]) rfl (T.ind (fun (n : Nat) => ⟨[(1, .optr 0 0 0 0), (3, .optr 1 0 0 0), (5, .ref 2), (6, .val true (.int .i64 n))], [(0, some (.box false (cCase o))), (1, some (.box true (cC ⟨0, [], [], 0, 0, [], 0⟩))), (2, some (.sl 38 1 true (((o.d.take n).map smallR).map cD)))], 3⟩) (fun n => n ≤ o.d.length ∧ n ≤ 5) (fun n => 5 - n) 0 (by simp) (fun _ _ h => h) ?_)
  rintro n ⟨hn, hn2⟩ ih
  have fin : ¬ (n < o.d.length ∧ n < 5) → (o.d.take n).map smallR = D := by
    intro h
    rw [hld]
    by_cases h1 : n = 5
    · rw [h1]
    · have : n = o.d.length := by omega
      subst this
      rw [List.take_of_length_le (Nat.le_refl _), List.take_of_length_le (by omega)]
  repeat' first | refine T.seq ?_ | refine T.block ?_ | refine T.r ?_ | refine J.e rfl rfl rfl rfl ?_ | refine J.nil ?_ | refine J.skip rfl rfl rfl ?_ | refine T.skip ?_ | refine T.exit ?_ | refine T.ret ?_ | refine T.rd rfl (by kernel_rfl) ?_ | refine J.bx rfl rfl rfl rfl rfl rfl ?_
  refine J.g rfl rfl rfl (fun h1 => ?_) (fun h1 => ?_)
  · have h1 : n < o.d.length := by simpa using h1
    have hxl := hd2 o.d[n] (by simp)
    repeat' first | refine T.seq ?_ | refine T.block ?_ | refine T.r ?_ | refine J.e rfl rfl rfl rfl ?_ | refine J.nil ?_ | refine J.skip rfl rfl rfl ?_ | refine T.skip ?_ | refine T.exit ?_ | refine T.ret ?_ | refine T.rd rfl (by kernel_rfl) ?_ | refine J.bx rfl rfl rfl rfl rfl rfl ?_
    refine T.cd rfl (fun h2 => ?_) (fun h2 => ?_)
    · have h2 : n < 5 := by omega
      repeat' first | refine T.seq ?_ | refine T.block ?_ | refine T.r ?_ | refine J.e rfl rfl rfl rfl ?_ | refine J.nil ?_ | refine J.skip rfl rfl rfl ?_ | refine T.skip ?_ | refine T.exit ?_ | refine T.ret ?_ | refine T.rd rfl (by kernel_rfl) ?_ | refine J.bx rfl rfl rfl rfl rfl rfl ?_
      refine J.i rfl rfl rfl rfl rfl rfl rfl rfl rfl (r := cL o.d[n]) (by omega) (row_i h1) rfl ?_
      repeat' first | refine T.seq ?_ | refine T.block ?_ | refine T.r ?_ | refine J.e rfl rfl rfl rfl ?_ | refine J.nil ?_ | refine J.skip rfl rfl rfl ?_ | refine T.skip ?_ | refine T.exit ?_ | refine T.ret ?_ | refine T.rd rfl (by kernel_rfl) ?_ | refine J.bx rfl rfl rfl rfl rfl rfl ?_
      refine J.cc rfl rfl rfl rfl rfl (small_spec o.d[n] hxl).frz rfl rfl ?_
      refine J.bv rfl rfl rfl rfl rfl rfl rfl rfl rfl rfl rfl rfl ?_
      refine J.aD rfl rfl rfl rfl rfl rfl rfl rfl rfl rfl rfl rfl rfl rfl rfl rfl rfl rfl rfl (by simp; omega) ?_
      repeat' first | refine T.seq ?_ | refine T.block ?_ | refine T.r ?_ | refine J.e rfl rfl rfl rfl ?_ | refine J.nil ?_ | refine J.skip rfl rfl rfl ?_ | refine T.skip ?_ | refine T.exit ?_ | refine T.ret ?_ | refine T.rd rfl (by kernel_rfl) ?_ | refine J.bx rfl rfl rfl rfl rfl rfl ?_
      rw [wrap1 h1 (by omega)]
      refine T.canon (keep := [1, 3, 5, 6]) (os := [1, 3, 5]) rfl ?_
      have := ih (n + 1) ⟨by omega, by omega⟩ (by omega)
      rw [List.take_succ_eq_append_getElem h1, List.map_append] at this
      exact this
    · have h2 : ¬ n < 5 := by omega
      rw [fin (by omega)]
      repeat' first | refine T.seq ?_ | refine T.block ?_ | refine T.r ?_ | refine J.e rfl rfl rfl rfl ?_ | refine J.nil ?_ | refine J.skip rfl rfl rfl ?_ | refine T.skip ?_ | refine T.exit ?_ | refine T.ret ?_ | refine T.rd rfl (by kernel_rfl) ?_ | refine J.bx rfl rfl rfl rfl rfl rfl ?_
      refine J.cc rfl rfl rfl rfl rfl (own_spec o.c hc) rfl rfl ?_
      repeat' first | refine T.seq ?_ | refine T.block ?_ | refine T.r ?_ | refine J.e rfl rfl rfl rfl ?_ | refine J.nil ?_ | refine J.skip rfl rfl rfl ?_ | refine T.skip ?_ | refine T.exit ?_ | refine T.ret ?_ | refine T.rd rfl (by kernel_rfl) ?_ | refine J.bx rfl rfl rfl rfl rfl rfl ?_
      refine J.al rfl rfl rfl rfl rfl rfl rfl ?_
      refine J.w rfl rfl rfl rfl rfl rfl rfl rfl rfl rfl ?_
      repeat' first | refine T.seq ?_ | refine T.block ?_ | refine T.r ?_ | refine J.e rfl rfl rfl rfl ?_ | refine J.nil ?_ | refine J.skip rfl rfl rfl ?_ | refine T.skip ?_ | refine T.exit ?_ | refine T.ret ?_ | refine T.rd rfl (by kernel_rfl) ?_ | refine J.bx rfl rfl rfl rfl rfl rfl ?_
      refine J.w rfl rfl rfl rfl rfl rfl rfl rfl rfl rfl ?_
      repeat' first | refine T.seq ?_ | refine T.block ?_ | refine T.r ?_ | refine J.e rfl rfl rfl rfl ?_ | refine J.nil ?_ | refine J.skip rfl rfl rfl ?_ | refine T.skip ?_ | refine T.exit ?_ | refine T.ret ?_ | refine J.bx rfl rfl rfl rfl rfl rfl ?_
      refine T.canon (keep := [3, 5, 7]) (os := [3, 5, 7]) rfl (?_ : T _ _ ⟨[(3, .optr 0 0 0 0), (5, .ref 1), (7, .optr 2 0 0 0)], [(0, some (.box true (cC ⟨0, [], [], 0, 0, [], 0⟩))), (1, some (.sl 38 1 true (D.map cD))), (2, some (.box false (cC (laidSC o))))], 3⟩ _)
      refine T.rdw 9 rfl (by kernel_rfl) rfl ?_
      repeat' first | refine T.seq ?_ | refine T.block ?_ | refine T.r ?_ | refine J.e rfl rfl rfl rfl ?_ | refine J.nil ?_ | refine J.skip rfl rfl rfl ?_ | refine T.skip ?_ | refine T.exit ?_ | refine T.ret ?_ | refine T.rd rfl (by kernel_rfl) ?_ | refine J.bx rfl rfl rfl rfl rfl rfl ?_
      refine J.cc rfl rfl rfl rfl rfl hcon rfl rfl ?_
      repeat' first | refine T.seq ?_ | refine T.block ?_ | refine T.r ?_ | refine J.e rfl rfl rfl rfl ?_ | refine J.nil ?_ | refine J.skip rfl rfl rfl ?_ | refine T.skip ?_ | refine T.exit ?_ | refine T.ret ?_ | refine T.rd rfl (by kernel_rfl) ?_ | refine J.bx rfl rfl rfl rfl rfl rfl ?_
      refine J.wd rfl rfl rfl rfl rfl rfl rfl rfl rfl rfl ?_
      repeat' first | refine T.seq ?_ | refine T.block ?_ | refine T.r ?_ | refine J.e rfl rfl rfl rfl ?_ | refine J.nil ?_ | refine J.skip rfl rfl rfl ?_ | refine T.skip ?_ | refine T.exit ?_ | refine T.ret ?_ | refine T.rd rfl (by kernel_rfl) ?_ | refine J.bx rfl rfl rfl rfl rfl rfl ?_
      refine ⟨rfl, ?_⟩
      repeat' first | refine T.seq ?_ | refine T.block ?_ | refine T.r ?_ | refine J.e rfl rfl rfl rfl ?_ | refine J.nil ?_ | refine J.skip rfl rfl rfl ?_ | refine T.skip ?_ | refine T.exit ?_ | refine T.ret ?_ | refine T.rd rfl (by kernel_rfl) ?_ | refine J.bx rfl rfl rfl rfl rfl rfl ?_
      exact ⟨_, .o rfl rfl rfl (fun h => by cases h) (by simp) (.c rfl rfl rfl rfl (fun h => by cases h) (.v rfl rfl (by rw [hok]) (fun h => by cases h) .nil))⟩
  · have h1 : ¬ n < o.d.length := by simpa using h1
    repeat' first | refine T.seq ?_ | refine T.block ?_ | refine T.r ?_ | refine J.e rfl rfl rfl rfl ?_ | refine J.nil ?_ | refine J.skip rfl rfl rfl ?_ | refine T.skip ?_ | refine T.exit ?_ | refine T.ret ?_ | refine T.rd rfl (by kernel_rfl) ?_ | refine J.bx rfl rfl rfl rfl rfl rfl ?_
    refine T.cf rfl ?_
    rw [fin (by omega)]
    repeat' first | refine T.seq ?_ | refine T.block ?_ | refine T.r ?_ | refine J.e rfl rfl rfl rfl ?_ | refine J.nil ?_ | refine J.skip rfl rfl rfl ?_ | refine T.skip ?_ | refine T.exit ?_ | refine T.ret ?_ | refine T.rd rfl (by kernel_rfl) ?_ | refine J.bx rfl rfl rfl rfl rfl rfl ?_
    refine J.cc rfl rfl rfl rfl rfl (own_spec o.c hc) rfl rfl ?_
    repeat' first | refine T.seq ?_ | refine T.block ?_ | refine T.r ?_ | refine J.e rfl rfl rfl rfl ?_ | refine J.nil ?_ | refine J.skip rfl rfl rfl ?_ | refine T.skip ?_ | refine T.exit ?_ | refine T.ret ?_ | refine T.rd rfl (by kernel_rfl) ?_ | refine J.bx rfl rfl rfl rfl rfl rfl ?_
    refine J.al rfl rfl rfl rfl rfl rfl rfl ?_
    refine J.w rfl rfl rfl rfl rfl rfl rfl rfl rfl rfl ?_
    repeat' first | refine T.seq ?_ | refine T.block ?_ | refine T.r ?_ | refine J.e rfl rfl rfl rfl ?_ | refine J.nil ?_ | refine J.skip rfl rfl rfl ?_ | refine T.skip ?_ | refine T.exit ?_ | refine T.ret ?_ | refine T.rd rfl (by kernel_rfl) ?_ | refine J.bx rfl rfl rfl rfl rfl rfl ?_
    refine J.w rfl rfl rfl rfl rfl rfl rfl rfl rfl rfl ?_
    repeat' first | refine T.seq ?_ | refine T.block ?_ | refine T.r ?_ | refine J.e rfl rfl rfl rfl ?_ | refine J.nil ?_ | refine J.skip rfl rfl rfl ?_ | refine T.skip ?_ | refine T.exit ?_ | refine T.ret ?_ | refine J.bx rfl rfl rfl rfl rfl rfl ?_
    refine T.canon (keep := [3, 5, 7]) (os := [3, 5, 7]) rfl (?_ : T _ _ ⟨[(3, .optr 0 0 0 0), (5, .ref 1), (7, .optr 2 0 0 0)], [(0, some (.box true (cC ⟨0, [], [], 0, 0, [], 0⟩))), (1, some (.sl 38 1 true (D.map cD))), (2, some (.box false (cC (laidSC o))))], 3⟩ _)
    refine T.rdw 9 rfl (by kernel_rfl) rfl ?_
    repeat' first | refine T.seq ?_ | refine T.block ?_ | refine T.r ?_ | refine J.e rfl rfl rfl rfl ?_ | refine J.nil ?_ | refine J.skip rfl rfl rfl ?_ | refine T.skip ?_ | refine T.exit ?_ | refine T.ret ?_ | refine T.rd rfl (by kernel_rfl) ?_ | refine J.bx rfl rfl rfl rfl rfl rfl ?_
    refine J.cc rfl rfl rfl rfl rfl hcon rfl rfl ?_
    repeat' first | refine T.seq ?_ | refine T.block ?_ | refine T.r ?_ | refine J.e rfl rfl rfl rfl ?_ | refine J.nil ?_ | refine J.skip rfl rfl rfl ?_ | refine T.skip ?_ | refine T.exit ?_ | refine T.ret ?_ | refine T.rd rfl (by kernel_rfl) ?_ | refine J.bx rfl rfl rfl rfl rfl rfl ?_
    refine J.wd rfl rfl rfl rfl rfl rfl rfl rfl rfl rfl ?_
    repeat' first | refine T.seq ?_ | refine T.block ?_ | refine T.r ?_ | refine J.e rfl rfl rfl rfl ?_ | refine J.nil ?_ | refine J.skip rfl rfl rfl ?_ | refine T.skip ?_ | refine T.exit ?_ | refine T.ret ?_ | refine T.rd rfl (by kernel_rfl) ?_ | refine J.bx rfl rfl rfl rfl rfl rfl ?_
    refine ⟨rfl, ?_⟩
    repeat' first | refine T.seq ?_ | refine T.block ?_ | refine T.r ?_ | refine J.e rfl rfl rfl rfl ?_ | refine J.nil ?_ | refine J.skip rfl rfl rfl ?_ | refine T.skip ?_ | refine T.exit ?_ | refine T.ret ?_ | refine T.rd rfl (by kernel_rfl) ?_ | refine J.bx rfl rfl rfl rfl rfl rfl ?_
    exact ⟨_, .o rfl rfl rfl (fun h => by cases h) (by simp) (.c rfl rfl rfl rfl (fun h => by cases h) (.v rfl rfl (by rw [hok]) (fun h => by cases h) .nil))⟩

def pickP (d : Doms) (a : List Int) : List Int := (List.range (d.takeWhile fun x => !(vals x).isEmpty).length).map (pickAt d a)
theorem pickP_at {d : Doms} {a : List Int} {i : Nat} (h : i < d.length) (he : emptyV (d.take i) = false) (hx : (vals d[i]).isEmpty = true) : pickP d a = (List.range i).map (pickAt d a) := by
  have e : (d.takeWhile fun x => !(vals x).isEmpty) = d.take i := by
    have hd : d = d.take i ++ d[i] :: d.drop (i + 1) := by rw [← List.drop_eq_getElem_cons h, List.take_append_drop]
    have hall : ∀ x ∈ d.take i, (!(vals x).isEmpty) = true := by
      intro x hm
      cases h2 : (vals x).isEmpty with
      | false => rfl
      | true => rw [show emptyV (d.take i) = true from List.any_eq_true.2 ⟨x, hm, h2⟩] at he; cases he
    conv => lhs; rw [hd]
    rw [List.takeWhile_append_of_pos hall, List.takeWhile_cons, if_neg (by simp [hx]), List.append_nil]
  unfold pickP
  rw [e, List.length_take, Nat.min_eq_left (by omega)]
theorem pickP_all {d : Doms} {a : List Int} (he : emptyV d = false) : pickP d a = pickL d a := by
  have e : (d.takeWhile fun x => !(vals x).isEmpty) = d := by
    have hall : ∀ x ∈ d, (!(vals x).isEmpty) = true := by
      intro x hm
      cases h2 : (vals x).isEmpty with
      | false => rfl
      | true => rw [show emptyV d = true from List.any_eq_true.2 ⟨x, hm, h2⟩] at he; cases he
    have := List.takeWhile_append_of_pos (l₂ := []) hall
    simpa using this
  unfold pickP pickL
  rw [e]
theorem spick_spec (d : Doms) (a : List Int) (hd : ∀ x ∈ d, DomB x) (hl : d.length * 24 ≤ 140737488355328) (ha : a.length * 8 ≤ 140737488355328) :
    Spec Try.prog 26 false [doms d, ints a] [.own 3 1 ((pickP d a).map cI), .val (.bool (!emptyV d))] := by
  refine Spec.body Try.func26 rfl rfl rfl fun w0 Z0 => ?_
  repeat' first | refine T.seq ?_ | refine T.block ?_ | refine T.r ?_ | refine J.e rfl rfl rfl rfl ?_ | refine J.nil ?_ | refine J.skip rfl rfl rfl ?_ | refine T.skip ?_ | refine T.exit ?_ | refine T.ret ?_ | refine T.rd rfl (by kernel_rfl) ?_ | refine J.bx rfl rfl rfl rfl rfl rfl ?_
  refine J.bo rfl rfl rfl rfl rfl rfl rfl rfl rfl rfl rfl rfl ?_
  repeat' first | refine T.seq ?_ | refine T.block ?_ | refine T.r ?_ | refine J.e rfl rfl rfl rfl ?_ | refine J.nil ?_ | refine J.skip rfl rfl rfl ?_ | refine T.skip ?_ | refine T.exit ?_ | refine T.ret ?_ | refine T.rd rfl (by kernel_rfl) ?_ | refine J.bx rfl rfl rfl rfl rfl rfl ?_
  refine T.canon (keep := [0, 1, 4, 5, 6, 7]) (os := [6]) rfl (T.ind (fun i : Nat => ⟨[(0, .val false (doms d)), (1, .val false (ints a)), (4, .nilsl), (5, .val true (.bool false)), (6, .ref 0), (7, .val true (.int .i64 i))], [(0, some (.sl 3 1 true (((List.range i).map (pickAt d a)).map cI)))], 1⟩) (fun i => i ≤ d.length ∧ emptyV (d.take i) = false) (fun i => d.length - i) 0 (by simp [emptyV]) (fun _ _ h => h) ?_)
  rintro i ⟨hi, he⟩ ih
  repeat' first | refine T.seq ?_ | refine T.block ?_ | refine T.r ?_ | refine J.e rfl rfl rfl rfl ?_ | refine J.nil ?_ | refine J.skip rfl rfl rfl ?_ | refine T.skip ?_ | refine T.exit ?_ | refine T.ret ?_ | refine T.rd rfl (by kernel_rfl) ?_ | refine J.bx rfl rfl rfl rfl rfl rfl ?_
  refine T.cd rfl (fun h1 => ?_) (fun h1 => ?_)
  · have h1 : i < d.length := by simpa using h1
    have hx := hd d[i] (List.getElem_mem h1)
    repeat' first | refine T.seq ?_ | refine T.block ?_ | refine T.r ?_ | refine J.e rfl rfl rfl rfl ?_ | refine J.nil ?_ | refine J.skip rfl rfl rfl ?_ | refine T.skip ?_ | refine T.exit ?_ | refine T.ret ?_ | refine T.rd rfl (by kernel_rfl) ?_ | refine J.bx rfl rfl rfl rfl rfl rfl ?_
    refine J.i rfl rfl rfl rfl rfl rfl rfl rfl rfl (r := cD d[i]) (by omega) (row_i h1) rfl ?_
    repeat' first | refine T.seq ?_ | refine T.block ?_ | refine T.r ?_ | refine J.e rfl rfl rfl rfl ?_ | refine J.nil ?_ | refine J.skip rfl rfl rfl ?_ | refine T.skip ?_ | refine T.exit ?_ | refine T.ret ?_ | refine T.rd rfl (by kernel_rfl) ?_ | refine J.bx rfl rfl rfl rfl rfl rfl ?_
    refine J.cc rfl rfl rfl rfl rfl (values_spec d[i] hx.1 (by have := hx.2.1; omega) hx.2.2) rfl rfl ?_
    repeat' first | refine T.seq ?_ | refine T.block ?_ | refine T.r ?_ | refine J.e rfl rfl rfl rfl ?_ | refine J.nil ?_ | refine J.skip rfl rfl rfl ?_ | refine T.skip ?_ | refine T.exit ?_ | refine T.ret ?_ | refine T.rd rfl (by kernel_rfl) ?_ | refine J.bx rfl rfl rfl rfl rfl rfl ?_
    refine T.cd rfl (fun h2 => ?_) (fun h2 => ?_)
    · have hev : emptyV d = true := by
        refine List.any_eq_true.2 ⟨d[i], List.getElem_mem h1, ?_⟩
        simp at h2
        simp [h2]
      have hpp : pickP d a = (List.range i).map (pickAt d a) := pickP_at h1 he (by simp at h2; simp [h2])
      repeat' first | refine T.seq ?_ | refine T.block ?_ | refine T.r ?_ | refine J.e rfl rfl rfl rfl ?_ | refine J.nil ?_ | refine J.skip rfl rfl rfl ?_ | refine T.skip ?_ | refine T.exit ?_ | refine T.ret ?_ | refine T.rd rfl (by kernel_rfl) ?_ | refine J.bx rfl rfl rfl rfl rfl rfl ?_
      exact ⟨_, .o rfl rfl (by rw [hpp]) (fun _ => .inl rfl) (by simp) (.v rfl rfl (by rw [hev]; rfl) (fun _ => rfl) .nil)⟩
    · have hne : 0 < (vals d[i]).length := by
        have h2 : ¬ (((vals d[i]).map cI).length : Int) = 0 := h2
        simp only [List.length_map] at h2; omega
      have hgd : d.getD i [] = d[i] := by simp [List.getD_eq_getElem?_getD, List.getElem?_eq_getElem h1]
      have he' : emptyV (d.take (i + 1)) = false := by
        simp only [emptyV] at he ⊢
        rw [List.take_succ_eq_append_getElem h1, List.any_append, he]
        cases hv : vals d[i] with
        | nil => rw [hv] at hne; simp at hne
        | cons x l => simp [hv]
      have hn := pickN_pos a i
      obtain ⟨hm1, hm2⟩ := tmod_in hn hne
      have key : ∀ n : Int, n = pickN a i → (vals d[i])[(n.tmod (vals d[i]).length).toNat]? = some (pickAt d a i) := by
        rintro n rfl
        unfold pickAt
        rw [hgd, List.getD_eq_getElem?_getD, List.getElem?_eq_getElem hm2]; rfl
      have e : (List.range i).map (pickAt d a) ++ [pickAt d a i] = (List.range (i + 1)).map (pickAt d a) := by simp [List.range_succ]
      refine T.skip ?_
      refine T.seq ?_
      refine T.r ?_
      repeat' first | refine J.e rfl rfl rfl rfl ?_ | refine J.skip rfl rfl rfl ?_ | refine J.bx rfl rfl rfl rfl rfl rfl ?_
      refine J.nil ?_
      refine T.mid ⟨[(0, .val false (doms d)), (1, .val false (ints a)), (4, .nilsl), (5, .val true (.bool false)), (6, .ref 0), (7, .val true (.int .i64 i)), (8, .ref 1), (9, .val true (.int .i64 (pickN a i)))], [(0, some (.sl 3 1 true (((List.range i).map (pickAt d a)).map cI))), (1, some (.sl 3 1 true ((vals d[i]).map cI)))], 2⟩ ?_ ?_
      · repeat' first | refine T.seq ?_ | refine T.block ?_ | refine T.r ?_ | refine J.e rfl rfl rfl rfl ?_ | refine J.nil ?_ | refine J.skip rfl rfl rfl ?_ | refine T.skip ?_ | refine T.exit ?_ | refine T.ret ?_ | refine T.rd rfl (by kernel_rfl) ?_ | refine J.bx rfl rfl rfl rfl rfl rfl ?_
        refine T.cd rfl (fun h3 => ?_) (fun h3 => ?_)
        · have h3 : i < a.length := by simpa using h3
          have hpn : pickN a i = andN a[i] := by
            unfold pickN
            rw [if_pos h3, List.getD_eq_getElem?_getD, List.getElem?_eq_getElem h3]; rfl
          rw [hpn]
          repeat' first | refine T.seq ?_ | refine T.block ?_ | refine T.r ?_ | refine J.e rfl rfl rfl rfl ?_ | refine J.nil ?_ | refine J.skip rfl rfl rfl ?_ | refine T.skip ?_ | refine T.exit ?_ | refine T.ret ?_ | refine T.rd rfl (by kernel_rfl) ?_ | refine J.bx rfl rfl rfl rfl rfl rfl ?_
          refine J.i rfl rfl rfl rfl rfl rfl rfl rfl rfl (r := cI a[i]) (by omega) (row_i h3) rfl ?_
          repeat' first | refine T.seq ?_ | refine T.block ?_ | refine T.r ?_ | refine J.e rfl rfl rfl rfl ?_ | refine J.nil ?_ | refine J.skip rfl rfl rfl ?_ | refine T.skip ?_ | refine T.exit ?_ | refine T.ret ?_ | refine T.rd rfl (by kernel_rfl) ?_ | refine J.bx rfl rfl rfl rfl rfl rfl ?_
          exact ⟨rfl, [0, 1, 4, 5, 6, 7, 8, 9], [6, 8], rfl, rfl⟩
        · have hpn : pickN a i = i := by
            unfold pickN
            rw [if_neg (by simpa using h3)]
          rw [hpn]
          repeat' first | refine T.seq ?_ | refine T.block ?_ | refine T.r ?_ | refine J.e rfl rfl rfl rfl ?_ | refine J.nil ?_ | refine J.skip rfl rfl rfl ?_ | refine T.skip ?_ | refine T.exit ?_ | refine T.ret ?_ | refine T.rd rfl (by kernel_rfl) ?_ | refine J.bx rfl rfl rfl rfl rfl rfl ?_
          exact ⟨rfl, [0, 1, 4, 5, 6, 7, 8, 9], [6, 8], rfl, rfl⟩
      · repeat' first | refine T.seq ?_ | refine T.block ?_ | refine T.r ?_ | refine J.e rfl rfl rfl rfl ?_ | refine J.nil ?_ | refine J.skip rfl rfl rfl ?_ | refine T.skip ?_ | refine T.exit ?_ | refine T.ret ?_ | refine T.rd rfl (by kernel_rfl) ?_ | refine J.bx rfl rfl rfl rfl rfl rfl ?_
        refine J.rm rfl rfl rfl rfl rfl rfl (fun h => by simp only [List.length_map] at h; omega) ?_
        rw [List.length_map]
        refine J.io rfl rfl rfl rfl rfl rfl rfl rfl rfl hm1 (by simpa using hm2) rfl ?_
        refine J.lo rfl rfl rfl rfl rfl rfl (r := cI (pickAt d a i)) (by rw [List.getElem?_map, key _ rfl]; rfl) rfl ?_
        repeat' first | refine T.seq ?_ | refine T.block ?_ | refine T.r ?_ | refine J.e rfl rfl rfl rfl ?_ | refine J.nil ?_ | refine J.skip rfl rfl rfl ?_ | refine T.skip ?_ | refine T.exit ?_ | refine T.ret ?_ | refine T.rd rfl (by kernel_rfl) ?_ | refine J.bx rfl rfl rfl rfl rfl rfl ?_
        refine J.bv rfl rfl rfl rfl rfl rfl rfl rfl rfl rfl rfl rfl ?_
        refine J.aI rfl rfl rfl rfl rfl rfl rfl rfl rfl rfl rfl rfl rfl rfl rfl rfl rfl rfl rfl (by simp; omega) ?_
        repeat' first | refine T.seq ?_ | refine T.block ?_ | refine T.r ?_ | refine J.e rfl rfl rfl rfl ?_ | refine J.nil ?_ | refine J.skip rfl rfl rfl ?_ | refine T.skip ?_ | refine T.exit ?_ | refine T.ret ?_ | refine T.rd rfl (by kernel_rfl) ?_ | refine J.bx rfl rfl rfl rfl rfl rfl ?_
        rw [wrap1 (l := d.length) (by omega) (by omega), e]
        exact T.canon (keep := [0, 1, 4, 5, 6, 7]) (os := [6]) rfl (ih (i + 1) ⟨by omega, he'⟩ (by omega))
  · have h1 : i = d.length := by simp at h1; omega
    subst h1
    rw [List.take_length] at he
    repeat' first | refine T.seq ?_ | refine T.block ?_ | refine T.r ?_ | refine J.e rfl rfl rfl rfl ?_ | refine J.nil ?_ | refine J.skip rfl rfl rfl ?_ | refine T.skip ?_ | refine T.exit ?_ | refine T.ret ?_ | refine T.rd rfl (by kernel_rfl) ?_ | refine J.bx rfl rfl rfl rfl rfl rfl ?_
    exact ⟨_, .o rfl rfl (by rw [pickP_all he]; rfl) (fun _ => .inl rfl) (by simp) (.v rfl rfl (by rw [he]; rfl) (fun _ => rfl) .nil)⟩

def cSum (coefs : List Int) (op rhs : Int) : Con := ⟨0, [0, 1], coefs, op, rhs, [], 0⟩
theorem twice_spec : Spec Try.prog 44 false [] [.val (doms [[(0, 5)], [(0, 5)]]), .val (.agg (cC (cSum [2, 1] 0 4)))] := by
  refine Spec.body Try.func44 rfl rfl rfl fun w0 Z0 => ?_
  repeat' first | refine T.seq ?_ | refine T.block ?_ | refine T.r ?_ | refine J.e rfl rfl rfl rfl ?_ | refine J.nil ?_ | refine J.skip rfl rfl rfl ?_ | refine T.skip ?_ | refine T.exit ?_ | refine T.ret ?_ | refine T.rd rfl (by kernel_rfl) ?_ | refine J.bx rfl rfl rfl rfl rfl rfl ?_
  refine J.al rfl rfl rfl rfl rfl rfl rfl ?_
  repeat' first | refine T.seq ?_ | refine T.block ?_ | refine T.r ?_ | refine J.e rfl rfl rfl rfl ?_ | refine J.nil ?_ | refine J.skip rfl rfl rfl ?_ | refine T.skip ?_ | refine T.exit ?_ | refine T.ret ?_ | refine T.rd rfl (by kernel_rfl) ?_ | refine J.bx rfl rfl rfl rfl rfl rfl ?_
  refine J.bv rfl rfl rfl rfl rfl rfl rfl rfl rfl rfl rfl rfl ?_
  repeat' first | refine T.seq ?_ | refine T.block ?_ | refine T.r ?_ | refine J.e rfl rfl rfl rfl ?_ | refine J.nil ?_ | refine J.skip rfl rfl rfl ?_ | refine T.skip ?_ | refine T.exit ?_ | refine T.ret ?_ | refine T.rd rfl (by kernel_rfl) ?_ | refine J.bx rfl rfl rfl rfl rfl rfl ?_
  refine J.bv rfl rfl rfl rfl rfl rfl rfl rfl rfl rfl rfl rfl ?_
  refine J.bv rfl rfl rfl rfl rfl rfl rfl rfl rfl rfl rfl rfl ?_
  refine J.bv rfl rfl rfl rfl rfl rfl rfl rfl rfl rfl rfl rfl ?_
  repeat' first | refine T.seq ?_ | refine T.block ?_ | refine T.r ?_ | refine J.e rfl rfl rfl rfl ?_ | refine J.nil ?_ | refine J.skip rfl rfl rfl ?_ | refine T.skip ?_ | refine T.exit ?_ | refine T.ret ?_ | refine T.rd rfl (by kernel_rfl) ?_ | refine J.bx rfl rfl rfl rfl rfl rfl ?_
  refine J.w rfl rfl rfl rfl rfl rfl rfl rfl rfl rfl ?_
  repeat' first | refine T.seq ?_ | refine T.block ?_ | refine T.r ?_ | refine J.e rfl rfl rfl rfl ?_ | refine J.nil ?_ | refine J.skip rfl rfl rfl ?_ | refine T.skip ?_ | refine T.exit ?_ | refine T.ret ?_ | refine T.rd rfl (by kernel_rfl) ?_ | refine J.bx rfl rfl rfl rfl rfl rfl ?_
  exact ⟨_, .v rfl rfl rfl (fun _ => rfl) (.c rfl rfl rfl rfl (fun _ => rfl) .nil)⟩
theorem fine_one (lo hi : Int) (h1 : lo ≤ hi) (h2 : -1048576 ≤ lo) (h3 : hi ≤ 1048576) : Fine [(lo, hi)] := by
  have hm : ∀ v ∈ vals [(lo, hi)], lo ≤ v ∧ v ≤ hi := by
    intro v hv
    obtain ⟨r, hr, h4, h5⟩ := mem_vals.1 hv
    simp only [List.mem_singleton] at hr
    subst hr
    exact ⟨h4, h5⟩
  refine ⟨⟨by simpa using h1, by simp⟩, fun v hv => by have := hm v hv; omega, ?_⟩
  have : (vals [(lo, hi)]).length = (hi + 1 - lo).toNat := by simp [vals, rng]
  omega
theorem two_sum (lo hi : Int) (coefs : List Int) (op rhs : Int) (h1 : lo ≤ hi) (h2 : -1048576 ≤ lo) (h3 : hi ≤ 1048576) (hl : coefs.length = 2) (hk : ∀ k ∈ coefs, CoefOk k) : SumFine [[(lo, hi)], [(lo, hi)]] (cSum coefs op rhs).vars (cSum coefs op rhs).coefs :=
  ⟨by simp [cSum, hl], by simp [cSum], by simp [cSum], hk, fun x hx => by simp at hx; subst hx; exact fine_one lo hi h1 h2 h3, by simp⟩
theorem fa1 : iter (stepL (cSum [2, 1] 0 4)) 3 [[(0, 5)], [(0, 5)]] = some (some [[(0, 2)], [(0, 4)]]) := by decide +kernel
theorem fa2 : iter (stepL (cSum [2, 1] 0 (-1))) 3 [[(0, 5)], [(0, 5)]] = some none := by decide +kernel
theorem fa3 : iter (stepL (cSum [3, -2] 1 0)) 5 [[(1, 5)], [(1, 5)]] = some (some [[(2, 2)], [(3, 3)]]) := by decide +kernel
theorem fa4 : endsW [[(0, 5)], [(0, 5)]] [0, 1] [2, 1] = (0, 15, true) := by decide +kernel
theorem fa5 : soW (endsW [[(0, 5)], [(0, 5)]] (cSum [2, 1] 0 15).vars (cSum [2, 1] 0 15).coefs) (cSum [2, 1] 0 15) = true := by decide +kernel
theorem fa6 : soW (endsW [[(0, 5)], [(0, 5)]] (cSum [2, 1] 0 (-1)).vars (cSum [2, 1] 0 (-1)).coefs) (cSum [2, 1] 0 (-1)) = false := by decide +kernel
theorem fa7 : soW (endsW [[(0, 5)], [(0, 5)]] (notW (cSum [2, 1] 0 (-1))).vars (notW (cSum [2, 1] 0 (-1))).coefs) (notW (cSum [2, 1] 0 (-1))) = true := by decide +kernel
theorem fa8 : notW (cSum [2, 1] 0 4) = cSum [-2, -1] 0 (-5) := by
  unfold notW cSum turnedW
  simp only [if_true, List.map_cons, List.map_nil]
  have e1 : wr (0 - 2) = -2 := by decide +kernel
  have e2 : wr (0 - 1) = -1 := by decide +kernel
  have e3 : wr (wr (0 - 4) - 1) = -5 := by decide +kernel
  rw [e1, e2, e3]
theorem coefs21 : ∀ k ∈ [(2 : Int), 1], CoefOk k := by intro k hk; simp at hk; rcases hk with rfl | rfl <;> exact ⟨by decide, by decide⟩
theorem coefs32 : ∀ k ∈ [(3 : Int), -2], CoefOk k := by intro k hk; simp at hk; rcases hk with rfl | rfl <;> exact ⟨by decide, by decide⟩
theorem conB_sum (coefs : List Int) (op rhs : Int) (hl : coefs.length = 2) : ConB (cSum coefs op rhs) := ⟨by simp [cSum], by simp [cSum, hl], by simp [cSum], by simp [cSum]⟩
theorem lfixed_spec : Spec Try.prog 14 false [] [.val (.bool true)] := by
  refine Spec.body Try.func14 rfl rfl rfl fun w0 Z0 => ?_
  have hs : ∀ (lo hi : Int), ∀ x ∈ [[(lo, hi)], [(lo, hi)]], x.length * 64 + 1048576 ≤ 140737488355328 := by intro lo hi x hx; simp at hx; subst hx; simp
  have p1 : Spec Try.prog 16 false [doms [[(0, 5)], [(0, 5)]], .agg (cC (cSum [2, 1] 0 4))] [.val (doms [[(0, 2)], [(0, 4)]]), .val (.bool true)] := (lprune_spec _ (cSum [2, 1] 0 4) (two_sum 0 5 [2, 1] 0 4 (by decide) (by decide) (by decide) rfl coefs21) (hs 0 5) (some [[(0, 2)], [(0, 4)]]) 3 (by unfold LinAns; rw [if_neg (by decide), if_neg (by decide)]; exact fa1)).frz
  have p2 : Spec Try.prog 16 false [doms [[(0, 5)], [(0, 5)]], .agg (cC (cSum [2, 1] 0 (-1)))] [.val (doms []), .val (.bool false)] := (lprune_spec _ (cSum [2, 1] 0 (-1)) (two_sum 0 5 [2, 1] 0 (-1) (by decide) (by decide) (by decide) rfl coefs21) (hs 0 5) none 3 (by unfold LinAns; rw [if_neg (by decide), if_neg (by decide)]; exact fa2)).frz
  have p3 : Spec Try.prog 16 false [doms [[(1, 5)], [(1, 5)]], .agg (cC (cSum [3, -2] 1 0))] [.val (doms [[(2, 2)], [(3, 3)]]), .val (.bool true)] := (lprune_spec _ (cSum [3, -2] 1 0) (two_sum 1 5 [3, -2] 1 0 (by decide) (by decide) (by decide) rfl coefs32) (hs 1 5) (some [[(2, 2)], [(3, 3)]]) 5 (by unfold LinAns; rw [if_neg (by decide), if_neg (by decide)]; exact fa3)).frz
  have p4 := lends_spec [[(0, 5)], [(0, 5)]] [0, 1] [2, 1] (two_sum 0 5 [2, 1] 0 4 (by decide) (by decide) (by decide) rfl coefs21).in_
  rw [fa4] at p4
  have p5 := lknown_spec [[(0, 5)], [(0, 5)]] (cSum [2, 1] 0 15) (conB_sum _ _ _ rfl) (two_sum 0 5 [2, 1] 0 15 (by decide) (by decide) (by decide) rfl coefs21).in_
  rw [fa5] at p5
  have p6 := lknown_spec [[(0, 5)], [(0, 5)]] (cSum [2, 1] 0 (-1)) (conB_sum _ _ _ rfl) (two_sum 0 5 [2, 1] 0 (-1) (by decide) (by decide) (by decide) rfl coefs21).in_
  rw [fa6, fa7] at p6
  have p7 := lnot_spec (cSum [2, 1] 0 4) (conB_sum _ _ _ rfl)
  rw [fa8] at p7
  have s1 := sames_spec [[(0, 2)], [(0, 4)]] [[(0, 2)], [(0, 4)]] (by decide) (by decide)
  have s2 := sames_spec [[(2, 2)], [(3, 3)]] [[(2, 2)], [(3, 3)]] (by decide) (by decide)
  have n1 := nums_spec [-2, -1] [-2, -1] (by decide)
  rw [decide_eq_true rfl] at s1 s2 n1
  repeat' first | refine T.seq ?_ | refine T.block ?_ | refine T.r ?_ | refine J.e rfl rfl rfl rfl ?_ | refine J.nil ?_ | refine J.skip rfl rfl rfl ?_ | refine T.skip ?_ | refine T.exit ?_ | refine T.ret ?_ | refine T.rd rfl (by kernel_rfl) ?_ | refine J.bx rfl rfl rfl rfl rfl rfl ?_
  refine J.cc rfl rfl rfl rfl rfl twice_spec rfl rfl ?_
  repeat' first | refine T.seq ?_ | refine T.block ?_ | refine T.r ?_ | refine J.e rfl rfl rfl rfl ?_ | refine J.nil ?_ | refine J.skip rfl rfl rfl ?_ | refine T.skip ?_ | refine T.exit ?_ | refine T.ret ?_ | refine T.rd rfl (by kernel_rfl) ?_ | refine J.bx rfl rfl rfl rfl rfl rfl ?_
  refine J.al rfl rfl rfl rfl rfl rfl rfl ?_
  repeat' first | refine T.seq ?_ | refine T.block ?_ | refine T.r ?_ | refine J.e rfl rfl rfl rfl ?_ | refine J.nil ?_ | refine J.skip rfl rfl rfl ?_ | refine T.skip ?_ | refine T.exit ?_ | refine T.ret ?_ | refine T.rd rfl (by kernel_rfl) ?_ | refine J.bx rfl rfl rfl rfl rfl rfl ?_
  refine J.w rfl rfl rfl rfl rfl rfl rfl rfl rfl rfl ?_
  repeat' first | refine T.seq ?_ | refine T.block ?_ | refine T.r ?_ | refine J.e rfl rfl rfl rfl ?_ | refine J.nil ?_ | refine J.skip rfl rfl rfl ?_ | refine T.skip ?_ | refine T.exit ?_ | refine T.ret ?_ | refine T.rd rfl (by kernel_rfl) ?_ | refine J.bx rfl rfl rfl rfl rfl rfl ?_
  refine J.cc rfl rfl rfl rfl rfl p1 rfl rfl ?_
  repeat' first | refine T.seq ?_ | refine T.block ?_ | refine T.r ?_ | refine J.e rfl rfl rfl rfl ?_ | refine J.nil ?_ | refine J.skip rfl rfl rfl ?_ | refine T.skip ?_ | refine T.exit ?_ | refine T.ret ?_ | refine T.rd rfl (by kernel_rfl) ?_ | refine J.bx rfl rfl rfl rfl rfl rfl ?_
  refine J.cc rfl rfl rfl rfl rfl p4 rfl rfl ?_
  repeat' first | refine T.seq ?_ | refine T.block ?_ | refine T.r ?_ | refine J.e rfl rfl rfl rfl ?_ | refine J.nil ?_ | refine J.skip rfl rfl rfl ?_ | refine T.skip ?_ | refine T.exit ?_ | refine T.ret ?_ | refine T.rd rfl (by kernel_rfl) ?_ | refine J.bx rfl rfl rfl rfl rfl rfl ?_
  refine J.al rfl rfl rfl rfl rfl rfl rfl ?_
  refine J.w rfl rfl rfl rfl rfl rfl rfl rfl rfl rfl ?_
  repeat' first | refine T.seq ?_ | refine T.block ?_ | refine T.r ?_ | refine J.e rfl rfl rfl rfl ?_ | refine J.nil ?_ | refine J.skip rfl rfl rfl ?_ | refine T.skip ?_ | refine T.exit ?_ | refine T.ret ?_ | refine T.rd rfl (by kernel_rfl) ?_ | refine J.bx rfl rfl rfl rfl rfl rfl ?_
  refine J.w rfl rfl rfl rfl rfl rfl rfl rfl rfl rfl ?_
  repeat' first | refine T.seq ?_ | refine T.block ?_ | refine T.r ?_ | refine J.e rfl rfl rfl rfl ?_ | refine J.nil ?_ | refine J.skip rfl rfl rfl ?_ | refine T.skip ?_ | refine T.exit ?_ | refine T.ret ?_ | refine T.rd rfl (by kernel_rfl) ?_ | refine J.bx rfl rfl rfl rfl rfl rfl ?_
  refine J.cc rfl rfl rfl rfl rfl p5 rfl rfl ?_
  repeat' first | refine T.seq ?_ | refine T.block ?_ | refine T.r ?_ | refine J.e rfl rfl rfl rfl ?_ | refine J.nil ?_ | refine J.skip rfl rfl rfl ?_ | refine T.skip ?_ | refine T.exit ?_ | refine T.ret ?_ | refine T.rd rfl (by kernel_rfl) ?_ | refine J.bx rfl rfl rfl rfl rfl rfl ?_
  refine J.w rfl rfl rfl rfl rfl rfl rfl rfl rfl rfl ?_
  repeat' first | refine T.seq ?_ | refine T.block ?_ | refine T.r ?_ | refine J.e rfl rfl rfl rfl ?_ | refine J.nil ?_ | refine J.skip rfl rfl rfl ?_ | refine T.skip ?_ | refine T.exit ?_ | refine T.ret ?_ | refine T.rd rfl (by kernel_rfl) ?_ | refine J.bx rfl rfl rfl rfl rfl rfl ?_
  refine J.cc rfl rfl rfl rfl rfl p6 rfl rfl ?_
  repeat' first | refine T.seq ?_ | refine T.block ?_ | refine T.r ?_ | refine J.e rfl rfl rfl rfl ?_ | refine J.nil ?_ | refine J.skip rfl rfl rfl ?_ | refine T.skip ?_ | refine T.exit ?_ | refine T.ret ?_ | refine T.rd rfl (by kernel_rfl) ?_ | refine J.bx rfl rfl rfl rfl rfl rfl ?_
  refine J.cc rfl rfl rfl rfl rfl p2 rfl rfl ?_
  repeat' first | refine T.seq ?_ | refine T.block ?_ | refine T.r ?_ | refine J.e rfl rfl rfl rfl ?_ | refine J.nil ?_ | refine J.skip rfl rfl rfl ?_ | refine T.skip ?_ | refine T.exit ?_ | refine T.ret ?_ | refine T.rd rfl (by kernel_rfl) ?_ | refine J.bx rfl rfl rfl rfl rfl rfl ?_
  refine J.cc rfl rfl rfl rfl rfl p7 rfl rfl ?_
  repeat' first | refine T.seq ?_ | refine T.block ?_ | refine T.r ?_ | refine J.e rfl rfl rfl rfl ?_ | refine J.nil ?_ | refine J.skip rfl rfl rfl ?_ | refine T.skip ?_ | refine T.exit ?_ | refine T.ret ?_ | refine T.rd rfl (by kernel_rfl) ?_ | refine J.bx rfl rfl rfl rfl rfl rfl ?_
  refine J.al rfl rfl rfl rfl rfl rfl rfl ?_
  refine J.w rfl rfl rfl rfl rfl rfl rfl rfl rfl rfl ?_
  repeat' first | refine T.seq ?_ | refine T.block ?_ | refine T.r ?_ | refine J.e rfl rfl rfl rfl ?_ | refine J.nil ?_ | refine J.skip rfl rfl rfl ?_ | refine T.skip ?_ | refine T.exit ?_ | refine T.ret ?_ | refine T.rd rfl (by kernel_rfl) ?_ | refine J.bx rfl rfl rfl rfl rfl rfl ?_
  refine J.bv rfl rfl rfl rfl rfl rfl rfl rfl rfl rfl rfl rfl ?_
  repeat' first | refine T.seq ?_ | refine T.block ?_ | refine T.r ?_ | refine J.e rfl rfl rfl rfl ?_ | refine J.nil ?_ | refine J.skip rfl rfl rfl ?_ | refine T.skip ?_ | refine T.exit ?_ | refine T.ret ?_ | refine T.rd rfl (by kernel_rfl) ?_ | refine J.bx rfl rfl rfl rfl rfl rfl ?_
  refine J.bv rfl rfl rfl rfl rfl rfl rfl rfl rfl rfl rfl rfl ?_
  refine J.bv rfl rfl rfl rfl rfl rfl rfl rfl rfl rfl rfl rfl ?_
  refine J.bv rfl rfl rfl rfl rfl rfl rfl rfl rfl rfl rfl rfl ?_
  repeat' first | refine T.seq ?_ | refine T.block ?_ | refine T.r ?_ | refine J.e rfl rfl rfl rfl ?_ | refine J.nil ?_ | refine J.skip rfl rfl rfl ?_ | refine T.skip ?_ | refine T.exit ?_ | refine T.ret ?_ | refine T.rd rfl (by kernel_rfl) ?_ | refine J.bx rfl rfl rfl rfl rfl rfl ?_
  refine J.cc rfl rfl rfl rfl rfl p3 rfl rfl ?_
  repeat' first | refine J.e rfl rfl rfl rfl ?_ | refine J.skip rfl rfl rfl ?_ | refine J.bx rfl rfl rfl rfl rfl rfl ?_
  refine J.nil ?_
  refine T.canon (keep := [3, 4, 5, 6, 7, 9, 10, 11, 12, 14, 15, 17, 18]) (os := [15]) rfl ?_
  repeat' first | refine T.seq ?_ | refine T.block ?_ | refine T.r ?_ | refine J.e rfl rfl rfl rfl ?_ | refine J.nil ?_ | refine J.skip rfl rfl rfl ?_ | refine T.skip ?_ | refine T.exit ?_ | refine T.ret ?_ | refine T.rd rfl (by kernel_rfl) ?_ | refine J.bx rfl rfl rfl rfl rfl rfl ?_
  refine J.bv rfl rfl rfl rfl rfl rfl rfl rfl rfl rfl rfl rfl ?_
  repeat' first | refine T.seq ?_ | refine T.block ?_ | refine T.r ?_ | refine J.e rfl rfl rfl rfl ?_ | refine J.nil ?_ | refine J.skip rfl rfl rfl ?_ | refine T.skip ?_ | refine T.exit ?_ | refine T.ret ?_ | refine T.rd rfl (by kernel_rfl) ?_ | refine J.bx rfl rfl rfl rfl rfl rfl ?_
  refine J.bv rfl rfl rfl rfl rfl rfl rfl rfl rfl rfl rfl rfl ?_
  refine J.bv rfl rfl rfl rfl rfl rfl rfl rfl rfl rfl rfl rfl ?_
  refine J.cc rfl rfl rfl rfl rfl s1 rfl rfl ?_
  repeat' first | refine T.seq ?_ | refine T.block ?_ | refine T.r ?_ | refine J.e rfl rfl rfl rfl ?_ | refine J.nil ?_ | refine J.skip rfl rfl rfl ?_ | refine T.skip ?_ | refine T.exit ?_ | refine T.ret ?_ | refine T.rd rfl (by kernel_rfl) ?_ | refine J.bx rfl rfl rfl rfl rfl rfl ?_
  refine J.bv rfl rfl rfl rfl rfl rfl rfl rfl rfl rfl rfl rfl ?_
  refine J.cc rfl rfl rfl rfl rfl n1 rfl rfl ?_
  repeat' first | refine T.seq ?_ | refine T.block ?_ | refine T.r ?_ | refine J.e rfl rfl rfl rfl ?_ | refine J.nil ?_ | refine J.skip rfl rfl rfl ?_ | refine T.skip ?_ | refine T.exit ?_ | refine T.ret ?_ | refine T.rd rfl (by kernel_rfl) ?_ | refine J.bx rfl rfl rfl rfl rfl rfl ?_
  refine J.bv rfl rfl rfl rfl rfl rfl rfl rfl rfl rfl rfl rfl ?_
  repeat' first | refine T.seq ?_ | refine T.block ?_ | refine T.r ?_ | refine J.e rfl rfl rfl rfl ?_ | refine J.nil ?_ | refine J.skip rfl rfl rfl ?_ | refine T.skip ?_ | refine T.exit ?_ | refine T.ret ?_ | refine T.rd rfl (by kernel_rfl) ?_ | refine J.bx rfl rfl rfl rfl rfl rfl ?_
  refine J.bv rfl rfl rfl rfl rfl rfl rfl rfl rfl rfl rfl rfl ?_
  refine J.bv rfl rfl rfl rfl rfl rfl rfl rfl rfl rfl rfl rfl ?_
  refine J.cc rfl rfl rfl rfl rfl s2 rfl rfl ?_
  repeat' first | refine T.seq ?_ | refine T.block ?_ | refine T.r ?_ | refine J.e rfl rfl rfl rfl ?_ | refine J.nil ?_ | refine J.skip rfl rfl rfl ?_ | refine T.skip ?_ | refine T.exit ?_ | refine T.ret ?_ | refine T.rd rfl (by kernel_rfl) ?_ | refine J.bx rfl rfl rfl rfl rfl rfl ?_
  exact ⟨_, .v rfl rfl rfl (fun _ => rfl) .nil⟩
end Go.Proofs.Ytchajofdjeijfaa
