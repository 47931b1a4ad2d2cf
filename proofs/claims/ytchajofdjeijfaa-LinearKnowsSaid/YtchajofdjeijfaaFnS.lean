/- Contracts: a term's ends, a sum's, by the program, by the document; small words of sums. -/
import Derived.Test.YtchajofdjeijfaaFnR
namespace Go.Proofs.Ytchajofdjeijfaa
open Go Go.RowKit
set_option linter.unusedVariables false
set_option linter.unusedSimpArgs false
set_option maxRecDepth 8000

theorem ends_int {d : List (Int × Int)} (h : InB d) : -1048576 ≤ leastR d ∧ leastR d ≤ 1048576 ∧ -1048576 ≤ lastR d ∧ lastR d ≤ 1048576 := by
  constructor
  · cases d with
    | nil => simp [leastR]
    | cons r d => exact (h r (.head _)).1
  · constructor
    · cases d with
      | nil => simp [leastR]
      | cons r d => exact (h r (.head _)).2.1
    · unfold lastR
      cases hl : d.getLast? with
      | none => simp
      | some r =>
        have := h r (List.mem_of_getLast? hl)
        exact ⟨this.2.2.1, this.2.2.2⟩
theorem coef_int {k : Int} (h : CoefOk k) : -4398046511104 ≤ k ∧ k ≤ 4398046511104 := by
  have := h.2
  unfold absK at this
  omega

theorem lend_spec (d : List (Int × Int)) (k : Int) (high : Bool) (hd : DomB d) (hk : CoefOk k) : Spec Try.prog 54 false [dm d, .int .i64 k, .bool high] [.val (.int .i64 (endW d k high).1), .val (.bool (endW d k high).2)] := by
  refine Spec.body Try.func54 rfl rfl rfl fun w0 Z0 => ?_
  obtain ⟨h1, h2, h3, h4⟩ := ends_int hd.1
  have hk2 := coef_int hk
  refine T.seq ?_
  refine T.r ?_
  repeat' first | refine J.e rfl rfl rfl rfl ?_ | refine J.skip rfl rfl rfl ?_ | refine J.bx rfl rfl rfl rfl rfl rfl ?_
  refine J.nil ?_
  refine T.seq ?_
  refine T.r ?_
  repeat' first | refine J.e rfl rfl rfl rfl ?_ | refine J.skip rfl rfl rfl ?_ | refine J.bx rfl rfl rfl rfl rfl rfl ?_
  refine J.cc rfl rfl rfl rfl rfl (least_spec d) rfl rfl ?_
  repeat' first | refine J.e rfl rfl rfl rfl ?_ | refine J.skip rfl rfl rfl ?_ | refine J.bx rfl rfl rfl rfl rfl rfl ?_
  refine J.nil ?_
  refine T.mid ⟨[(1, .val false (.int .i64 k)), (8, .val true (.int .i64 (if decide (0 < k) == high then lastR d else leastR d))), (9, .val true (.bool (!d.isEmpty)))], [], 0⟩ ?_ ?_
  · repeat' first | refine T.seq ?_ | refine T.block ?_ | refine T.r ?_ | refine J.e rfl rfl rfl rfl ?_ | refine J.nil ?_ | refine J.skip rfl rfl rfl ?_ | refine T.skip ?_ | refine T.exit ?_ | refine T.ret ?_ | refine T.rd rfl (by kernel_rfl) ?_ | refine J.bx rfl rfl rfl rfl rfl rfl ?_
    refine T.cond rfl (fun h => ?_) (fun h => ?_)
    · have h : (decide (0 < k) == high) = true := h
      rw [if_pos h]
      repeat' first | refine T.seq ?_ | refine T.block ?_ | refine T.r ?_ | refine J.e rfl rfl rfl rfl ?_ | refine J.nil ?_ | refine J.skip rfl rfl rfl ?_ | refine T.skip ?_ | refine T.exit ?_ | refine T.ret ?_ | refine T.rd rfl (by kernel_rfl) ?_ | refine J.bx rfl rfl rfl rfl rfl rfl ?_
      refine J.cc rfl rfl rfl rfl rfl (most_spec d (by have := hd.2.2; omega)) rfl rfl ?_
      repeat' first | refine T.seq ?_ | refine T.block ?_ | refine T.r ?_ | refine J.e rfl rfl rfl rfl ?_ | refine J.nil ?_ | refine J.skip rfl rfl rfl ?_ | refine T.skip ?_ | refine T.exit ?_ | refine T.ret ?_ | refine T.rd rfl (by kernel_rfl) ?_ | refine J.bx rfl rfl rfl rfl rfl rfl ?_
      exact ⟨rfl, [1, 8, 9], [], rfl, rfl⟩
    · have h : (decide (0 < k) == high) = false := h
      rw [h]
      repeat' first | refine T.seq ?_ | refine T.block ?_ | refine T.r ?_ | refine J.e rfl rfl rfl rfl ?_ | refine J.nil ?_ | refine J.skip rfl rfl rfl ?_ | refine T.skip ?_ | refine T.exit ?_ | refine T.ret ?_ | refine T.rd rfl (by kernel_rfl) ?_ | refine J.bx rfl rfl rfl rfl rfl rfl ?_
      exact ⟨rfl, [1, 8, 9], [], rfl, rfl⟩
  · have hm := imul_spec k (if decide (0 < k) == high then lastR d else leastR d) (by omega) (by omega) (by split <;> omega) (by split <;> omega)
    unfold endW
    generalize (if decide (0 < k) == high then lastR d else leastR d) = x at *
    generalize mulI k x = m at *
    repeat' first | refine T.seq ?_ | refine T.block ?_ | refine T.r ?_ | refine J.e rfl rfl rfl rfl ?_ | refine J.nil ?_ | refine J.skip rfl rfl rfl ?_ | refine T.skip ?_ | refine T.exit ?_ | refine T.ret ?_ | refine T.rd rfl (by kernel_rfl) ?_ | refine J.bx rfl rfl rfl rfl rfl rfl ?_
    refine J.cc rfl rfl rfl rfl rfl hm rfl rfl ?_
    repeat' first | refine T.seq ?_ | refine T.block ?_ | refine T.r ?_ | refine J.e rfl rfl rfl rfl ?_ | refine J.nil ?_ | refine J.skip rfl rfl rfl ?_ | refine T.skip ?_ | refine T.exit ?_ | refine T.ret ?_ | refine T.rd rfl (by kernel_rfl) ?_ | refine J.bx rfl rfl rfl rfl rfl rfl ?_
    refine J.gb rfl rfl rfl (fun h => ?_) (fun h => ?_)
    · rw [h]
      repeat' first | refine T.seq ?_ | refine T.block ?_ | refine T.r ?_ | refine J.e rfl rfl rfl rfl ?_ | refine J.nil ?_ | refine J.skip rfl rfl rfl ?_ | refine T.skip ?_ | refine T.exit ?_ | refine T.ret ?_ | refine T.rd rfl (by kernel_rfl) ?_ | refine J.bx rfl rfl rfl rfl rfl rfl ?_
      exact ⟨_, .v rfl rfl rfl (fun _ => rfl) (.v rfl rfl (by simp) (fun _ => rfl) .nil)⟩
    · rw [h]
      repeat' first | refine T.seq ?_ | refine T.block ?_ | refine T.r ?_ | refine J.e rfl rfl rfl rfl ?_ | refine J.nil ?_ | refine J.skip rfl rfl rfl ?_ | refine T.skip ?_ | refine T.exit ?_ | refine T.ret ?_ | refine T.rd rfl (by kernel_rfl) ?_ | refine J.bx rfl rfl rfl rfl rfl rfl ?_
      exact ⟨_, .v rfl rfl rfl (fun _ => rfl) (.v rfl rfl rfl (fun _ => rfl) .nil)⟩

/-- Domains and a sum over them that may be reckoned. -/
structure SumIn (d : Doms) (vars coefs : List Int) : Prop where
  len : vars.length = coefs.length
  vl : vars.length * 8 ≤ 140737488355328
  vin : ∀ v ∈ vars, 0 ≤ v ∧ v.toNat < d.length
  ck : ∀ k ∈ coefs, CoefOk k
  dom : ∀ x ∈ d, DomB x
  dl : d.length * 24 ≤ 140737488355328
theorem terms_cons {d : Doms} {vars coefs : List Int} {i : Nat} (h1 : i < vars.length) (h2 : i < coefs.length) : (termsOf d vars coefs).drop i = (domAt d vars[i], coefs[i]) :: (termsOf d vars coefs).drop (i + 1) := by
  have hl : i < (termsOf d vars coefs).length := by simp [termsOf]; omega
  rw [List.drop_eq_getElem_cons hl]
  simp [termsOf]
theorem terms_end {d : Doms} {vars coefs : List Int} (h : vars.length = coefs.length) : (termsOf d vars coefs).drop vars.length = [] := by
  refine List.drop_of_length_le ?_
  simp [termsOf]; omega
theorem lends_spec (d : Doms) (vars coefs : List Int) (h : SumIn d vars coefs) : Spec Try.prog 18 false [doms d, ints vars, ints coefs] [.val (.int .i64 (endsW d vars coefs).1), .val (.int .i64 (endsW d vars coefs).2.1), .val (.bool (endsW d vars coefs).2.2)] := by
  refine Spec.body Try.func18 rfl rfl rfl fun w0 Z0 => ?_
  obtain ⟨hlen, hvl, hvin, hck, hdom, hdl⟩ := h
  repeat' first | refine T.seq ?_ | refine T.block ?_ | refine T.r ?_ | refine J.e rfl rfl rfl rfl ?_ | refine J.nil ?_ | refine J.skip rfl rfl rfl ?_ | refine T.skip ?_ | refine T.exit ?_ | refine T.ret ?_ | refine T.rd rfl (by kernel_rfl) ?_ | refine J.bx rfl rfl rfl rfl rfl rfl ?_
  refine T.canon (keep := [0, 2, 9, 10, 17, 18, 19]) (os := []) rfl (T.ind (fun s : Nat × Int × Int => ⟨[(0, .val false (doms d)), (2, .val false (ints coefs)), (9, .val true (.int .i64 s.2.1)), (10, .val true (.int .i64 s.2.2)), (17, .val false (ints vars)), (18, .val true (.int .i64 (vars.map cI).length)), (19, .val true (.int .i64 s.1))], [], 0⟩)
    (fun s => s.1 ≤ vars.length ∧ endsGo ((termsOf d vars coefs).drop s.1) s.2.1 s.2.2 = endsW d vars coefs) (fun s => vars.length - s.1) (0, 0, 0) ⟨by simp, rfl⟩ (fun _ _ h => h) ?_)
  rintro ⟨i, lo, hi⟩ ⟨hil, he⟩ ih
  simp only at hil he
  dsimp only
  repeat' first | refine T.seq ?_ | refine T.block ?_ | refine T.r ?_ | refine J.e rfl rfl rfl rfl ?_ | refine J.nil ?_ | refine J.skip rfl rfl rfl ?_ | refine T.skip ?_ | refine T.exit ?_ | refine T.ret ?_ | refine T.rd rfl (by kernel_rfl) ?_ | refine J.bx rfl rfl rfl rfl rfl rfl ?_
  refine T.cd rfl (fun h1 => ?_) (fun h1 => ?_)
  · have h1 : i < vars.length := by simpa using h1
    have h2 : i < coefs.length := by omega
    have hv := hvin _ (List.getElem_mem h1)
    have hk := hck _ (List.getElem_mem h2)
    have hx := hdom _ (domAt_mem hv.2)
    have hrow : (d.map cD)[vars[i].toNat]? = some (cD (domAt d vars[i])) := by simp [domAt_some hv.2]
    rw [terms_cons h1 h2, endsGo] at he
    repeat' first | refine T.seq ?_ | refine T.block ?_ | refine T.r ?_ | refine J.e rfl rfl rfl rfl ?_ | refine J.nil ?_ | refine J.skip rfl rfl rfl ?_ | refine T.skip ?_ | refine T.exit ?_ | refine T.ret ?_ | refine T.rd rfl (by kernel_rfl) ?_ | refine J.bx rfl rfl rfl rfl rfl rfl ?_
    refine J.i rfl rfl rfl rfl rfl rfl rfl rfl rfl (r := cI vars[i]) (by omega) (row_i h1) rfl ?_
    repeat' first | refine T.seq ?_ | refine T.block ?_ | refine T.r ?_ | refine J.e rfl rfl rfl rfl ?_ | refine J.nil ?_ | refine J.skip rfl rfl rfl ?_ | refine T.skip ?_ | refine T.exit ?_ | refine T.ret ?_ | refine T.rd rfl (by kernel_rfl) ?_ | refine J.bx rfl rfl rfl rfl rfl rfl ?_
    refine J.i rfl rfl rfl rfl rfl rfl rfl rfl rfl (r := cD (domAt d vars[i])) hv.1 hrow rfl ?_
    repeat' first | refine T.seq ?_ | refine T.block ?_ | refine T.r ?_ | refine J.e rfl rfl rfl rfl ?_ | refine J.nil ?_ | refine J.skip rfl rfl rfl ?_ | refine T.skip ?_ | refine T.exit ?_ | refine T.ret ?_ | refine T.rd rfl (by kernel_rfl) ?_ | refine J.bx rfl rfl rfl rfl rfl rfl ?_
    refine J.i rfl rfl rfl rfl rfl rfl rfl rfl rfl (r := cI coefs[i]) (by omega) (row_i h2) rfl ?_
    repeat' first | refine T.seq ?_ | refine T.block ?_ | refine T.r ?_ | refine J.e rfl rfl rfl rfl ?_ | refine J.nil ?_ | refine J.skip rfl rfl rfl ?_ | refine T.skip ?_ | refine T.exit ?_ | refine T.ret ?_ | refine T.rd rfl (by kernel_rfl) ?_ | refine J.bx rfl rfl rfl rfl rfl rfl ?_
    refine J.cc rfl rfl rfl rfl rfl (lend_spec _ _ false hx hk) rfl rfl ?_
    repeat' first | refine T.seq ?_ | refine T.block ?_ | refine T.r ?_ | refine J.e rfl rfl rfl rfl ?_ | refine J.nil ?_ | refine J.skip rfl rfl rfl ?_ | refine T.skip ?_ | refine T.exit ?_ | refine T.ret ?_ | refine T.rd rfl (by kernel_rfl) ?_ | refine J.bx rfl rfl rfl rfl rfl rfl ?_
    refine J.i rfl rfl rfl rfl rfl rfl rfl rfl rfl (r := cD (domAt d vars[i])) hv.1 hrow rfl ?_
    repeat' first | refine T.seq ?_ | refine T.block ?_ | refine T.r ?_ | refine J.e rfl rfl rfl rfl ?_ | refine J.nil ?_ | refine J.skip rfl rfl rfl ?_ | refine T.skip ?_ | refine T.exit ?_ | refine T.ret ?_ | refine T.rd rfl (by kernel_rfl) ?_ | refine J.bx rfl rfl rfl rfl rfl rfl ?_
    refine J.i rfl rfl rfl rfl rfl rfl rfl rfl rfl (r := cI coefs[i]) (by omega) (row_i h2) rfl ?_
    repeat' first | refine T.seq ?_ | refine T.block ?_ | refine T.r ?_ | refine J.e rfl rfl rfl rfl ?_ | refine J.nil ?_ | refine J.skip rfl rfl rfl ?_ | refine T.skip ?_ | refine T.exit ?_ | refine T.ret ?_ | refine T.rd rfl (by kernel_rfl) ?_ | refine J.bx rfl rfl rfl rfl rfl rfl ?_
    refine J.cc rfl rfl rfl rfl rfl (lend_spec _ _ true hx hk) rfl rfl ?_
    generalize endW (domAt d vars[i]) coefs[i] false = e1 at *
    generalize endW (domAt d vars[i]) coefs[i] true = e2 at *
    obtain ⟨n1, b1⟩ := e1
    repeat' first | refine T.seq ?_ | refine T.block ?_ | refine T.r ?_ | refine J.e rfl rfl rfl rfl ?_ | refine J.nil ?_ | refine J.skip rfl rfl rfl ?_ | refine T.skip ?_ | refine T.exit ?_ | refine T.ret ?_ | refine T.rd rfl (by kernel_rfl) ?_ | refine J.bx rfl rfl rfl rfl rfl rfl ?_
    cases b1
    · simp only [Bool.false_eq_true, if_false] at he
      repeat' first | refine T.seq ?_ | refine T.block ?_ | refine T.r ?_ | refine J.e rfl rfl rfl rfl ?_ | refine J.nil ?_ | refine J.skip rfl rfl rfl ?_ | refine T.skip ?_ | refine T.exit ?_ | refine T.ret ?_ | refine T.rd rfl (by kernel_rfl) ?_ | refine J.bx rfl rfl rfl rfl rfl rfl ?_
      refine T.ct rfl ?_
      repeat' first | refine T.seq ?_ | refine T.block ?_ | refine T.r ?_ | refine J.e rfl rfl rfl rfl ?_ | refine J.nil ?_ | refine J.skip rfl rfl rfl ?_ | refine T.skip ?_ | refine T.exit ?_ | refine T.ret ?_ | refine T.rd rfl (by kernel_rfl) ?_ | refine J.bx rfl rfl rfl rfl rfl rfl ?_
      exact ⟨_, .v rfl rfl (by rw [← he]) (fun _ => rfl) (.v rfl rfl (by rw [← he]) (fun _ => rfl) (.v rfl rfl (by rw [← he]) (fun _ => rfl) .nil))⟩
    · simp only [if_true] at he
      repeat' first | refine T.seq ?_ | refine T.block ?_ | refine T.r ?_ | refine J.e rfl rfl rfl rfl ?_ | refine J.nil ?_ | refine J.skip rfl rfl rfl ?_ | refine T.skip ?_ | refine T.exit ?_ | refine T.ret ?_ | refine T.rd rfl (by kernel_rfl) ?_ | refine J.bx rfl rfl rfl rfl rfl rfl ?_
      refine T.cf rfl ?_
      repeat' first | refine T.seq ?_ | refine T.block ?_ | refine T.r ?_ | refine J.e rfl rfl rfl rfl ?_ | refine J.nil ?_ | refine J.skip rfl rfl rfl ?_ | refine T.skip ?_ | refine T.exit ?_ | refine T.ret ?_ | refine T.rd rfl (by kernel_rfl) ?_ | refine J.bx rfl rfl rfl rfl rfl rfl ?_
      rw [wrap1 (l := vars.length) (by omega) (by omega)]
      exact T.canon (keep := [0, 2, 9, 10, 17, 18, 19]) (os := []) rfl (ih (i + 1, wr (lo + n1), wr (hi + e2.1)) ⟨by simp only; omega, he⟩ (by simp only; omega))
  · have h1 : i = vars.length := by simp at h1; omega
    subst h1
    rw [terms_end hlen] at he
    repeat' first | refine T.seq ?_ | refine T.block ?_ | refine T.r ?_ | refine J.e rfl rfl rfl rfl ?_ | refine J.nil ?_ | refine J.skip rfl rfl rfl ?_ | refine T.skip ?_ | refine T.exit ?_ | refine T.ret ?_ | refine T.rd rfl (by kernel_rfl) ?_ | refine J.bx rfl rfl rfl rfl rfl rfl ?_
    exact ⟨_, .v rfl rfl (by rw [← he]; rfl) (fun _ => rfl) (.v rfl rfl (by rw [← he]; rfl) (fun _ => rfl) (.v rfl rfl (by rw [← he]; rfl) (fun _ => rfl) .nil))⟩

theorem rend_spec (d : List (Int × Int)) (k : Int) (hd : DomB d) : Spec Try.prog 55 false [dm d, .int .i64 k] [.val (.int .i64 (endR d k).1), .val (.int .i64 (endR d k).2.1), .val (.bool (endR d k).2.2)] := by
  refine Spec.body Try.func55 rfl rfl rfl fun w0 Z0 => ?_
  repeat' first | refine T.seq ?_ | refine T.block ?_ | refine T.r ?_ | refine J.e rfl rfl rfl rfl ?_ | refine J.nil ?_ | refine J.skip rfl rfl rfl ?_ | refine T.skip ?_ | refine T.exit ?_ | refine T.ret ?_ | refine T.rd rfl (by kernel_rfl) ?_ | refine J.bx rfl rfl rfl rfl rfl rfl ?_
  refine J.cc rfl rfl rfl rfl rfl (ends_spec d hd) rfl rfl ?_
  repeat' first | refine T.seq ?_ | refine T.block ?_ | refine T.r ?_ | refine J.e rfl rfl rfl rfl ?_ | refine J.nil ?_ | refine J.skip rfl rfl rfl ?_ | refine T.skip ?_ | refine T.exit ?_ | refine T.ret ?_ | refine T.rd rfl (by kernel_rfl) ?_ | refine J.bx rfl rfl rfl rfl rfl rfl ?_
  exact ⟨_, .v rfl rfl rfl (fun _ => rfl) (.v rfl rfl rfl (fun _ => rfl) (.v rfl rfl rfl (fun _ => rfl) .nil))⟩
theorem rends_spec (d : Doms) (vars coefs : List Int) (h : SumIn d vars coefs) : Spec Try.prog 19 false [doms d, ints vars, ints coefs] [.val (.int .i64 (endsRW d vars coefs).1), .val (.int .i64 (endsRW d vars coefs).2.1), .val (.bool (endsRW d vars coefs).2.2)] := by
  refine Spec.body Try.func19 rfl rfl rfl fun w0 Z0 => ?_
  obtain ⟨hlen, hvl, hvin, hck, hdom, hdl⟩ := h
  repeat' first | refine T.seq ?_ | refine T.block ?_ | refine T.r ?_ | refine J.e rfl rfl rfl rfl ?_ | refine J.nil ?_ | refine J.skip rfl rfl rfl ?_ | refine T.skip ?_ | refine T.exit ?_ | refine T.ret ?_ | refine T.rd rfl (by kernel_rfl) ?_ | refine J.bx rfl rfl rfl rfl rfl rfl ?_
  refine T.canon (keep := [0, 1, 2, 9, 10, 11]) (os := []) rfl (T.ind (fun s : Nat × Int × Int => ⟨[(0, .val false (doms d)), (1, .val false (ints vars)), (2, .val false (ints coefs)), (9, .val true (.int .i64 s.2.1)), (10, .val true (.int .i64 s.2.2)), (11, .val true (.int .i64 s.1))], [], 0⟩)
    (fun s => s.1 ≤ vars.length ∧ endsRGo ((termsOf d vars coefs).drop s.1) s.2.1 s.2.2 = endsRW d vars coefs) (fun s => vars.length - s.1) (0, 0, 0) ⟨by simp, rfl⟩ (fun _ _ h => h) ?_)
  rintro ⟨i, lo, hi⟩ ⟨hil, he⟩ ih
  simp only at hil he
  dsimp only
  repeat' first | refine T.seq ?_ | refine T.block ?_ | refine T.r ?_ | refine J.e rfl rfl rfl rfl ?_ | refine J.nil ?_ | refine J.skip rfl rfl rfl ?_ | refine T.skip ?_ | refine T.exit ?_ | refine T.ret ?_ | refine T.rd rfl (by kernel_rfl) ?_ | refine J.bx rfl rfl rfl rfl rfl rfl ?_
  refine T.cd rfl (fun h1 => ?_) (fun h1 => ?_)
  · have h1 : i < vars.length := by simpa using h1
    have h2 : i < coefs.length := by omega
    have hv := hvin _ (List.getElem_mem h1)
    have hx := hdom _ (domAt_mem hv.2)
    have hrow : (d.map cD)[vars[i].toNat]? = some (cD (domAt d vars[i])) := by simp [domAt_some hv.2]
    rw [terms_cons h1 h2, endsRGo] at he
    repeat' first | refine T.seq ?_ | refine T.block ?_ | refine T.r ?_ | refine J.e rfl rfl rfl rfl ?_ | refine J.nil ?_ | refine J.skip rfl rfl rfl ?_ | refine T.skip ?_ | refine T.exit ?_ | refine T.ret ?_ | refine T.rd rfl (by kernel_rfl) ?_ | refine J.bx rfl rfl rfl rfl rfl rfl ?_
    refine J.i rfl rfl rfl rfl rfl rfl rfl rfl rfl (r := cI vars[i]) (by omega) (row_i h1) rfl ?_
    repeat' first | refine T.seq ?_ | refine T.block ?_ | refine T.r ?_ | refine J.e rfl rfl rfl rfl ?_ | refine J.nil ?_ | refine J.skip rfl rfl rfl ?_ | refine T.skip ?_ | refine T.exit ?_ | refine T.ret ?_ | refine T.rd rfl (by kernel_rfl) ?_ | refine J.bx rfl rfl rfl rfl rfl rfl ?_
    refine J.i rfl rfl rfl rfl rfl rfl rfl rfl rfl (r := cD (domAt d vars[i])) hv.1 hrow rfl ?_
    repeat' first | refine T.seq ?_ | refine T.block ?_ | refine T.r ?_ | refine J.e rfl rfl rfl rfl ?_ | refine J.nil ?_ | refine J.skip rfl rfl rfl ?_ | refine T.skip ?_ | refine T.exit ?_ | refine T.ret ?_ | refine T.rd rfl (by kernel_rfl) ?_ | refine J.bx rfl rfl rfl rfl rfl rfl ?_
    refine J.i rfl rfl rfl rfl rfl rfl rfl rfl rfl (r := cI coefs[i]) (by omega) (row_i h2) rfl ?_
    repeat' first | refine T.seq ?_ | refine T.block ?_ | refine T.r ?_ | refine J.e rfl rfl rfl rfl ?_ | refine J.nil ?_ | refine J.skip rfl rfl rfl ?_ | refine T.skip ?_ | refine T.exit ?_ | refine T.ret ?_ | refine T.rd rfl (by kernel_rfl) ?_ | refine J.bx rfl rfl rfl rfl rfl rfl ?_
    refine J.cc rfl rfl rfl rfl rfl (rend_spec _ coefs[i] hx) rfl rfl ?_
    generalize endR (domAt d vars[i]) coefs[i] = e1 at *
    obtain ⟨n1, n2, b1⟩ := e1
    cases b1
    · simp only [Bool.false_eq_true, if_false] at he
      repeat' first | refine T.seq ?_ | refine T.block ?_ | refine T.r ?_ | refine J.e rfl rfl rfl rfl ?_ | refine J.nil ?_ | refine J.skip rfl rfl rfl ?_ | refine T.skip ?_ | refine T.exit ?_ | refine T.ret ?_ | refine T.rd rfl (by kernel_rfl) ?_ | refine J.bx rfl rfl rfl rfl rfl rfl ?_
      refine T.ct rfl ?_
      repeat' first | refine T.seq ?_ | refine T.block ?_ | refine T.r ?_ | refine J.e rfl rfl rfl rfl ?_ | refine J.nil ?_ | refine J.skip rfl rfl rfl ?_ | refine T.skip ?_ | refine T.exit ?_ | refine T.ret ?_ | refine T.rd rfl (by kernel_rfl) ?_ | refine J.bx rfl rfl rfl rfl rfl rfl ?_
      exact ⟨_, .v rfl rfl (by rw [← he]) (fun _ => rfl) (.v rfl rfl (by rw [← he]) (fun _ => rfl) (.v rfl rfl (by rw [← he]) (fun _ => rfl) .nil))⟩
    · simp only [if_true] at he
      repeat' first | refine T.seq ?_ | refine T.block ?_ | refine T.r ?_ | refine J.e rfl rfl rfl rfl ?_ | refine J.nil ?_ | refine J.skip rfl rfl rfl ?_ | refine T.skip ?_ | refine T.exit ?_ | refine T.ret ?_ | refine T.rd rfl (by kernel_rfl) ?_ | refine J.bx rfl rfl rfl rfl rfl rfl ?_
      refine T.cf rfl ?_
      repeat' first | refine T.seq ?_ | refine T.block ?_ | refine T.r ?_ | refine J.e rfl rfl rfl rfl ?_ | refine J.nil ?_ | refine J.skip rfl rfl rfl ?_ | refine T.skip ?_ | refine T.exit ?_ | refine T.ret ?_ | refine T.rd rfl (by kernel_rfl) ?_ | refine J.bx rfl rfl rfl rfl rfl rfl ?_
      rw [wrap1 (l := vars.length) (by omega) (by omega)]
      exact T.canon (keep := [0, 1, 2, 9, 10, 11]) (os := []) rfl (ih (i + 1, wr (lo + n1), wr (hi + n2)) ⟨by simp only; omega, he⟩ (by simp only; omega))
  · have h1 : i = vars.length := by simp at h1; omega
    subst h1
    rw [terms_end hlen] at he
    repeat' first | refine T.seq ?_ | refine T.block ?_ | refine T.r ?_ | refine J.e rfl rfl rfl rfl ?_ | refine J.nil ?_ | refine J.skip rfl rfl rfl ?_ | refine T.skip ?_ | refine T.exit ?_ | refine T.ret ?_ | refine T.rd rfl (by kernel_rfl) ?_ | refine J.bx rfl rfl rfl rfl rfl rfl ?_
    exact ⟨_, .v rfl rfl (by rw [← he]; rfl) (fun _ => rfl) (.v rfl rfl (by rw [← he]; rfl) (fun _ => rfl) (.v rfl rfl (by rw [← he]; rfl) (fun _ => rfl) .nil))⟩

theorem lown_spec (d : Doms) (hl : d.length * 24 ≤ 140737488355328) (hx : ∀ x ∈ d, x.length * 16 ≤ 140737488355328) : Spec Try.prog 45 false [doms d] [.own 38 1 ((if [] ∈ d then [] else d).map cD), .val (.bool (!decide ([] ∈ d)))] := by
  refine Spec.body Try.func45 rfl rfl rfl fun w0 Z0 => ?_
  repeat' first | refine T.seq ?_ | refine T.block ?_ | refine T.r ?_ | refine J.e rfl rfl rfl rfl ?_ | refine J.nil ?_ | refine J.skip rfl rfl rfl ?_ | refine T.skip ?_ | refine T.exit ?_ | refine T.ret ?_ | refine T.rd rfl (by kernel_rfl) ?_ | refine J.bx rfl rfl rfl rfl rfl rfl ?_
  refine T.sub (Rel.own0 (s := 4) 38 1 rfl) ?_
  refine T.canon (keep := [4, 7, 8, 9]) (os := [4]) rfl (T.listI d (fun pre => [] ∉ pre) (fun n pre post => ⟨[(4, .ref 0), (7, .val false (doms d)), (8, .val true (.int .i64 (d.map cD).length)), (9, .val true (.int .i64 n))], [(0, some (.sl 38 1 true (pre.map cD)))], 1⟩) (fun _ _ h => h) (by simp) ?_ ?_)
  · rintro n pre x post h hn hi ih
    have hlt := at_lt h hn
    have hxl := hx x (by rw [h]; simp)
    repeat' first | refine T.seq ?_ | refine T.block ?_ | refine T.r ?_ | refine J.e rfl rfl rfl rfl ?_ | refine J.nil ?_ | refine J.skip rfl rfl rfl ?_ | refine T.skip ?_ | refine T.exit ?_ | refine T.ret ?_ | refine T.rd rfl (by kernel_rfl) ?_ | refine J.bx rfl rfl rfl rfl rfl rfl ?_
    refine T.ct2 rfl (lt_at h hn) ?_
    repeat' first | refine T.seq ?_ | refine T.block ?_ | refine T.r ?_ | refine J.e rfl rfl rfl rfl ?_ | refine J.nil ?_ | refine J.skip rfl rfl rfl ?_ | refine T.skip ?_ | refine T.exit ?_ | refine T.ret ?_ | refine T.rd rfl (by kernel_rfl) ?_ | refine J.bx rfl rfl rfl rfl rfl rfl ?_
    refine J.i rfl rfl rfl rfl rfl rfl rfl rfl rfl (r := cD x) (by omega) (row_at h hn) rfl ?_
    repeat' first | refine T.seq ?_ | refine T.block ?_ | refine T.r ?_ | refine J.e rfl rfl rfl rfl ?_ | refine J.nil ?_ | refine J.skip rfl rfl rfl ?_ | refine T.skip ?_ | refine T.exit ?_ | refine T.ret ?_ | refine T.rd rfl (by kernel_rfl) ?_ | refine J.bx rfl rfl rfl rfl rfl rfl ?_
    refine T.cd rfl (fun h1 => ?_) (fun h1 => ?_)
    · have hx : x = [] := by simp at h1; exact h1
      have hm : [] ∈ d := by rw [h, hx]; simp
      rw [if_pos hm, decide_eq_true hm]
      repeat' first | refine T.seq ?_ | refine T.block ?_ | refine T.r ?_ | refine J.e rfl rfl rfl rfl ?_ | refine J.nil ?_ | refine J.skip rfl rfl rfl ?_ | refine T.skip ?_ | refine T.exit ?_ | refine T.ret ?_ | refine T.rd rfl (by kernel_rfl) ?_ | refine J.bx rfl rfl rfl rfl rfl rfl ?_
      exact ⟨_, .ownN rfl (.v rfl rfl rfl (fun _ => rfl) .nil)⟩
    · have hx : x ≠ [] := fun e => h1 (by rw [e]; rfl)
      repeat' first | refine T.seq ?_ | refine T.block ?_ | refine T.r ?_ | refine J.e rfl rfl rfl rfl ?_ | refine J.nil ?_ | refine J.skip rfl rfl rfl ?_ | refine T.skip ?_ | refine T.exit ?_ | refine T.ret ?_ | refine T.rd rfl (by kernel_rfl) ?_ | refine J.bx rfl rfl rfl rfl rfl rfl ?_
      refine J.cc rfl rfl rfl rfl rfl (clone_spec x (by omega)).frz rfl rfl ?_
      repeat' first | refine T.seq ?_ | refine T.block ?_ | refine T.r ?_ | refine J.e rfl rfl rfl rfl ?_ | refine J.nil ?_ | refine J.skip rfl rfl rfl ?_ | refine T.skip ?_ | refine T.exit ?_ | refine T.ret ?_ | refine T.rd rfl (by kernel_rfl) ?_ | refine J.bx rfl rfl rfl rfl rfl rfl ?_
      refine J.bv rfl rfl rfl rfl rfl rfl rfl rfl rfl rfl rfl rfl ?_
      repeat' first | refine T.seq ?_ | refine T.block ?_ | refine T.r ?_ | refine J.e rfl rfl rfl rfl ?_ | refine J.nil ?_ | refine J.skip rfl rfl rfl ?_ | refine T.skip ?_ | refine T.exit ?_ | refine T.ret ?_ | refine T.rd rfl (by kernel_rfl) ?_ | refine J.bx rfl rfl rfl rfl rfl rfl ?_
      refine J.aD rfl rfl rfl rfl rfl rfl rfl rfl rfl rfl rfl rfl rfl rfl rfl rfl rfl rfl rfl (by omega) ?_
      repeat' first | refine T.seq ?_ | refine T.block ?_ | refine T.r ?_ | refine J.e rfl rfl rfl rfl ?_ | refine J.nil ?_ | refine J.skip rfl rfl rfl ?_ | refine T.skip ?_ | refine T.exit ?_ | refine T.ret ?_ | refine T.rd rfl (by kernel_rfl) ?_ | refine J.bx rfl rfl rfl rfl rfl rfl ?_
      rw [wrap1 hlt (by omega)]
      exact T.canon (keep := [4, 7, 8, 9]) (os := [4]) rfl (ih (by simp [hi, Ne.symm hx]))
  · intro hi
    repeat' first | refine T.seq ?_ | refine T.block ?_ | refine T.r ?_ | refine J.e rfl rfl rfl rfl ?_ | refine J.nil ?_ | refine J.skip rfl rfl rfl ?_ | refine T.skip ?_ | refine T.exit ?_ | refine T.ret ?_ | refine T.rd rfl (by kernel_rfl) ?_ | refine J.bx rfl rfl rfl rfl rfl rfl ?_
    refine T.cf2 rfl lt_end ?_
    repeat' first | refine T.seq ?_ | refine T.block ?_ | refine T.r ?_ | refine J.e rfl rfl rfl rfl ?_ | refine J.nil ?_ | refine J.skip rfl rfl rfl ?_ | refine T.skip ?_ | refine T.exit ?_ | refine T.ret ?_ | refine T.rd rfl (by kernel_rfl) ?_ | refine J.bx rfl rfl rfl rfl rfl rfl ?_
    exact ⟨_, .o rfl rfl (by rw [if_neg hi]) (fun _ => .inl rfl) (by simp) (.v rfl rfl (by simp [hi]) (fun _ => rfl) .nil)⟩

/-- A quotient, cut down. -/
def floorW (a b : Int) : Int := if a.tmod b < 0 then wr (wr (a.tdiv b) - 1) else wr (a.tdiv b)
theorem floor_spec (a b : Int) (hb : b ≠ 0) : Spec Try.prog 83 false [.int .i64 a, .int .i64 b] [.val (.int .i64 (floorW a b))] := by
  refine Spec.body Try.func83 rfl rfl rfl fun w0 Z0 => ?_
  unfold floorW
  repeat' first | refine T.seq ?_ | refine T.block ?_ | refine T.r ?_ | refine J.e rfl rfl rfl rfl ?_ | refine J.nil ?_ | refine J.skip rfl rfl rfl ?_ | refine T.skip ?_ | refine T.exit ?_ | refine T.ret ?_ | refine T.rd rfl (by kernel_rfl) ?_ | refine J.bx rfl rfl rfl rfl rfl rfl ?_
  refine J.qu rfl rfl rfl rfl rfl rfl hb ?_
  repeat' first | refine T.seq ?_ | refine T.block ?_ | refine T.r ?_ | refine J.e rfl rfl rfl rfl ?_ | refine J.nil ?_ | refine J.skip rfl rfl rfl ?_ | refine T.skip ?_ | refine T.exit ?_ | refine T.ret ?_ | refine T.rd rfl (by kernel_rfl) ?_ | refine J.bx rfl rfl rfl rfl rfl rfl ?_
  refine J.rm rfl rfl rfl rfl rfl rfl hb ?_
  repeat' first | refine T.seq ?_ | refine T.block ?_ | refine T.r ?_ | refine J.e rfl rfl rfl rfl ?_ | refine J.nil ?_ | refine J.skip rfl rfl rfl ?_ | refine T.skip ?_ | refine T.exit ?_ | refine T.ret ?_ | refine T.rd rfl (by kernel_rfl) ?_ | refine J.bx rfl rfl rfl rfl rfl rfl ?_
  refine T.cd rfl (fun h => ?_) (fun h => ?_)
  · have h : a.tmod b < 0 := h
    repeat' first | refine T.seq ?_ | refine T.block ?_ | refine T.r ?_ | refine J.e rfl rfl rfl rfl ?_ | refine J.nil ?_ | refine J.skip rfl rfl rfl ?_ | refine T.skip ?_ | refine T.exit ?_ | refine T.ret ?_ | refine T.rd rfl (by kernel_rfl) ?_ | refine J.bx rfl rfl rfl rfl rfl rfl ?_
    exact ⟨_, .v rfl rfl (by rw [if_pos h]) (fun _ => rfl) .nil⟩
  · have h : ¬ a.tmod b < 0 := h
    repeat' first | refine T.seq ?_ | refine T.block ?_ | refine T.r ?_ | refine J.e rfl rfl rfl rfl ?_ | refine J.nil ?_ | refine J.skip rfl rfl rfl ?_ | refine T.skip ?_ | refine T.exit ?_ | refine T.ret ?_ | refine T.rd rfl (by kernel_rfl) ?_ | refine J.bx rfl rfl rfl rfl rfl rfl ?_
    exact ⟨_, .v rfl rfl (by rw [if_neg h]) (fun _ => rfl) .nil⟩

def turnedW (l : List Int) : List Int := l.map fun k => wr (0 - k)
theorem lturned_spec (l : List Int) (hl : l.length * 8 ≤ 140737488355328) : Spec Try.prog 47 false [ints l] [.own 3 1 ((turnedW l).map cI)] := by
  refine Spec.body Try.func47 rfl rfl rfl fun w0 Z0 => ?_
  repeat' first | refine T.seq ?_ | refine T.block ?_ | refine T.r ?_ | refine J.e rfl rfl rfl rfl ?_ | refine J.nil ?_ | refine J.skip rfl rfl rfl ?_ | refine T.skip ?_ | refine T.exit ?_ | refine T.ret ?_ | refine T.rd rfl (by kernel_rfl) ?_ | refine J.bx rfl rfl rfl rfl rfl rfl ?_
  refine T.sub (Rel.own0 (s := 3) 3 1 rfl) ?_
  refine T.canon (keep := [3, 6, 7, 8]) (os := [3]) rfl (T.list l (fun n pre post => ⟨[(3, .ref 0), (6, .val false (ints l)), (7, .val true (.int .i64 (l.map cI).length)), (8, .val true (.int .i64 n))], [(0, some (.sl 3 1 true ((turnedW pre).map cI)))], 1⟩) (fun _ _ h => h) ?_ ?_)
  · rintro n pre x post h hn ih
    have hlt := at_lt h hn
    repeat' first | refine T.seq ?_ | refine T.block ?_ | refine T.r ?_ | refine J.e rfl rfl rfl rfl ?_ | refine J.nil ?_ | refine J.skip rfl rfl rfl ?_ | refine T.skip ?_ | refine T.exit ?_ | refine T.ret ?_ | refine T.rd rfl (by kernel_rfl) ?_ | refine J.bx rfl rfl rfl rfl rfl rfl ?_
    refine T.ct2 rfl (lt_at h hn) ?_
    repeat' first | refine T.seq ?_ | refine T.block ?_ | refine T.r ?_ | refine J.e rfl rfl rfl rfl ?_ | refine J.nil ?_ | refine J.skip rfl rfl rfl ?_ | refine T.skip ?_ | refine T.exit ?_ | refine T.ret ?_ | refine T.rd rfl (by kernel_rfl) ?_ | refine J.bx rfl rfl rfl rfl rfl rfl ?_
    refine J.i rfl rfl rfl rfl rfl rfl rfl rfl rfl (r := cI x) (by omega) (row_at h hn) rfl ?_
    repeat' first | refine T.seq ?_ | refine T.block ?_ | refine T.r ?_ | refine J.e rfl rfl rfl rfl ?_ | refine J.nil ?_ | refine J.skip rfl rfl rfl ?_ | refine T.skip ?_ | refine T.exit ?_ | refine T.ret ?_ | refine T.rd rfl (by kernel_rfl) ?_ | refine J.bx rfl rfl rfl rfl rfl rfl ?_
    refine J.bv rfl rfl rfl rfl rfl rfl rfl rfl rfl rfl rfl rfl ?_
    refine J.aI rfl rfl rfl rfl rfl rfl rfl rfl rfl rfl rfl rfl rfl rfl rfl rfl rfl rfl rfl (by simp [turnedW]; omega) ?_
    repeat' first | refine T.seq ?_ | refine T.block ?_ | refine T.r ?_ | refine J.e rfl rfl rfl rfl ?_ | refine J.nil ?_ | refine J.skip rfl rfl rfl ?_ | refine T.skip ?_ | refine T.exit ?_ | refine T.ret ?_ | refine T.rd rfl (by kernel_rfl) ?_ | refine J.bx rfl rfl rfl rfl rfl rfl ?_
    rw [wrap1 hlt (by omega), show turnedW pre ++ [IntKind.i64.wrap (0 - x)] = turnedW (pre ++ [x]) by simp [turnedW]]
    exact T.canon (keep := [3, 6, 7, 8]) (os := [3]) rfl ih
  · repeat' first | refine T.seq ?_ | refine T.block ?_ | refine T.r ?_ | refine J.e rfl rfl rfl rfl ?_ | refine J.nil ?_ | refine J.skip rfl rfl rfl ?_ | refine T.skip ?_ | refine T.exit ?_ | refine T.ret ?_ | refine T.rd rfl (by kernel_rfl) ?_ | refine J.bx rfl rfl rfl rfl rfl rfl ?_
    refine T.cf2 rfl lt_end ?_
    repeat' first | refine T.seq ?_ | refine T.block ?_ | refine T.r ?_ | refine J.e rfl rfl rfl rfl ?_ | refine J.nil ?_ | refine J.skip rfl rfl rfl ?_ | refine T.skip ?_ | refine T.exit ?_ | refine T.ret ?_ | refine T.rd rfl (by kernel_rfl) ?_ | refine J.bx rfl rfl rfl rfl rfl rfl ?_
    exact ⟨_, .o rfl rfl rfl (fun _ => .inl rfl) (by simp) .nil⟩
theorem rturned_spec (l : List Int) (hl : l.length * 8 ≤ 140737488355328) : Spec Try.prog 53 false [ints l] [.own 3 1 ((turnedW l).map cI)] := by
  refine Spec.body Try.func53 rfl rfl rfl fun w0 Z0 => ?_
  repeat' first | refine T.seq ?_ | refine T.block ?_ | refine T.r ?_ | refine J.e rfl rfl rfl rfl ?_ | refine J.nil ?_ | refine J.skip rfl rfl rfl ?_ | refine T.skip ?_ | refine T.exit ?_ | refine T.ret ?_ | refine T.rd rfl (by kernel_rfl) ?_ | refine J.bx rfl rfl rfl rfl rfl rfl ?_
  refine J.bo rfl rfl rfl rfl rfl rfl rfl rfl rfl rfl rfl rfl ?_
  repeat' first | refine T.seq ?_ | refine T.block ?_ | refine T.r ?_ | refine J.e rfl rfl rfl rfl ?_ | refine J.nil ?_ | refine J.skip rfl rfl rfl ?_ | refine T.skip ?_ | refine T.exit ?_ | refine T.ret ?_ | refine T.rd rfl (by kernel_rfl) ?_ | refine J.bx rfl rfl rfl rfl rfl rfl ?_
  refine T.canon (keep := [0, 3, 4]) (os := [3]) rfl (T.list l (fun n pre post => ⟨[(0, .val false (ints l)), (3, .ref 0), (4, .val true (.int .i64 n))], [(0, some (.sl 3 1 true ((turnedW pre).map cI)))], 1⟩) (fun _ _ h => h) ?_ ?_)
  · rintro n pre x post h hn ih
    have hlt := at_lt h hn
    repeat' first | refine T.seq ?_ | refine T.block ?_ | refine T.r ?_ | refine J.e rfl rfl rfl rfl ?_ | refine J.nil ?_ | refine J.skip rfl rfl rfl ?_ | refine T.skip ?_ | refine T.exit ?_ | refine T.ret ?_ | refine T.rd rfl (by kernel_rfl) ?_ | refine J.bx rfl rfl rfl rfl rfl rfl ?_
    refine T.ct2 rfl (lt_at h hn) ?_
    repeat' first | refine T.seq ?_ | refine T.block ?_ | refine T.r ?_ | refine J.e rfl rfl rfl rfl ?_ | refine J.nil ?_ | refine J.skip rfl rfl rfl ?_ | refine T.skip ?_ | refine T.exit ?_ | refine T.ret ?_ | refine T.rd rfl (by kernel_rfl) ?_ | refine J.bx rfl rfl rfl rfl rfl rfl ?_
    refine J.i rfl rfl rfl rfl rfl rfl rfl rfl rfl (r := cI x) (by omega) (row_at h hn) rfl ?_
    repeat' first | refine T.seq ?_ | refine T.block ?_ | refine T.r ?_ | refine J.e rfl rfl rfl rfl ?_ | refine J.nil ?_ | refine J.skip rfl rfl rfl ?_ | refine T.skip ?_ | refine T.exit ?_ | refine T.ret ?_ | refine T.rd rfl (by kernel_rfl) ?_ | refine J.bx rfl rfl rfl rfl rfl rfl ?_
    refine J.bv rfl rfl rfl rfl rfl rfl rfl rfl rfl rfl rfl rfl ?_
    refine J.aI rfl rfl rfl rfl rfl rfl rfl rfl rfl rfl rfl rfl rfl rfl rfl rfl rfl rfl rfl (by simp [turnedW]; omega) ?_
    repeat' first | refine T.seq ?_ | refine T.block ?_ | refine T.r ?_ | refine J.e rfl rfl rfl rfl ?_ | refine J.nil ?_ | refine J.skip rfl rfl rfl ?_ | refine T.skip ?_ | refine T.exit ?_ | refine T.ret ?_ | refine T.rd rfl (by kernel_rfl) ?_ | refine J.bx rfl rfl rfl rfl rfl rfl ?_
    rw [wrap1 hlt (by omega), show turnedW pre ++ [IntKind.i64.wrap (0 - x)] = turnedW (pre ++ [x]) by simp [turnedW]]
    exact T.canon (keep := [0, 3, 4]) (os := [3]) rfl ih
  · repeat' first | refine T.seq ?_ | refine T.block ?_ | refine T.r ?_ | refine J.e rfl rfl rfl rfl ?_ | refine J.nil ?_ | refine J.skip rfl rfl rfl ?_ | refine T.skip ?_ | refine T.exit ?_ | refine T.ret ?_ | refine T.rd rfl (by kernel_rfl) ?_ | refine J.bx rfl rfl rfl rfl rfl rfl ?_
    refine T.cf2 rfl lt_end ?_
    repeat' first | refine T.seq ?_ | refine T.block ?_ | refine T.r ?_ | refine J.e rfl rfl rfl rfl ?_ | refine J.nil ?_ | refine J.skip rfl rfl rfl ?_ | refine T.skip ?_ | refine T.exit ?_ | refine T.ret ?_ | refine T.rd rfl (by kernel_rfl) ?_ | refine J.bx rfl rfl rfl rfl rfl rfl ?_
    exact ⟨_, .o rfl rfl rfl (fun _ => .inl rfl) (by simp) .nil⟩
theorem clonei_spec (l : List Int) (hl : l.length * 8 ≤ 140737488355328) : Spec Try.prog 60 false [ints l] [.own 3 1 (l.map cI)] := by
  refine Spec.body Try.func60 rfl rfl rfl fun w0 Z0 => ?_
  repeat' first | refine T.seq ?_ | refine T.block ?_ | refine T.r ?_ | refine J.e rfl rfl rfl rfl ?_ | refine J.nil ?_ | refine J.skip rfl rfl rfl ?_ | refine T.skip ?_ | refine T.exit ?_ | refine T.ret ?_ | refine T.rd rfl (by kernel_rfl) ?_ | refine J.bx rfl rfl rfl rfl rfl rfl ?_
  refine J.nc rfl rfl rfl rfl rfl rfl rfl fun b hb => ?_
  repeat' first | refine T.seq ?_ | refine T.block ?_ | refine T.r ?_ | refine J.e rfl rfl rfl rfl ?_ | refine J.nil ?_ | refine J.skip rfl rfl rfl ?_ | refine T.skip ?_ | refine T.exit ?_ | refine T.ret ?_ | refine T.rd rfl (by kernel_rfl) ?_ | refine J.bx rfl rfl rfl rfl rfl rfl ?_
  cases b
  · refine T.cf rfl ?_
    repeat' first | refine T.seq ?_ | refine T.block ?_ | refine T.r ?_ | refine J.e rfl rfl rfl rfl ?_ | refine J.nil ?_ | refine J.skip rfl rfl rfl ?_ | refine T.skip ?_ | refine T.exit ?_ | refine T.ret ?_ | refine T.rd rfl (by kernel_rfl) ?_ | refine J.bx rfl rfl rfl rfl rfl rfl ?_
    refine J.bo rfl rfl rfl rfl rfl rfl rfl rfl rfl rfl rfl rfl ?_
    repeat' first | refine T.seq ?_ | refine T.block ?_ | refine T.r ?_ | refine J.e rfl rfl rfl rfl ?_ | refine J.nil ?_ | refine J.skip rfl rfl rfl ?_ | refine T.skip ?_ | refine T.exit ?_ | refine T.ret ?_ | refine T.rd rfl (by kernel_rfl) ?_ | refine J.bx rfl rfl rfl rfl rfl rfl ?_
    refine J.a rfl rfl rfl rfl rfl rfl rfl rfl rfl rfl rfl rfl rfl rfl rfl rfl rfl len_I (by show (0 + List.length _) * 8 ≤ _; simp; omega) ?_
    repeat' first | refine T.seq ?_ | refine T.block ?_ | refine T.r ?_ | refine J.e rfl rfl rfl rfl ?_ | refine J.nil ?_ | refine J.skip rfl rfl rfl ?_ | refine T.skip ?_ | refine T.exit ?_ | refine T.ret ?_ | refine T.rd rfl (by kernel_rfl) ?_ | refine J.bx rfl rfl rfl rfl rfl rfl ?_
    exact ⟨_, .o rfl rfl rfl (fun _ => .inr flat_I) (by simp) .nil⟩
  · have : l = [] := by simpa using hb rfl
    subst this
    refine T.ct rfl ?_
    repeat' first | refine T.seq ?_ | refine T.block ?_ | refine T.r ?_ | refine J.e rfl rfl rfl rfl ?_ | refine J.nil ?_ | refine J.skip rfl rfl rfl ?_ | refine T.skip ?_ | refine T.exit ?_ | refine T.ret ?_ | refine T.rd rfl (by kernel_rfl) ?_ | refine J.bx rfl rfl rfl rfl rfl rfl ?_
    exact ⟨_, .ownN rfl .nil⟩
/-- Domains, if none is empty. -/
theorem told_spec (d : Doms) (hl : d.length * 8 ≤ 140737488355328) : Spec Try.prog 50 true [doms d] ([doms (if [] ∈ d then [] else d), .bool (!decide ([] ∈ d))].map .val) := by
  refine Spec.body Try.func50 rfl rfl rfl fun w0 Z0 => ?_
  repeat' first | refine T.seq ?_ | refine T.block ?_ | refine T.r ?_ | refine J.e rfl rfl rfl rfl ?_ | refine J.nil ?_ | refine J.skip rfl rfl rfl ?_ | refine T.skip ?_ | refine T.exit ?_ | refine T.ret ?_ | refine T.rd rfl (by kernel_rfl) ?_ | refine J.bx rfl rfl rfl rfl rfl rfl ?_
  refine J.cc rfl rfl rfl rfl rfl (empty_spec d hl) rfl rfl ?_
  repeat' first | refine T.seq ?_ | refine T.block ?_ | refine T.r ?_ | refine J.e rfl rfl rfl rfl ?_ | refine J.nil ?_ | refine J.skip rfl rfl rfl ?_ | refine T.skip ?_ | refine T.exit ?_ | refine T.ret ?_ | refine T.rd rfl (by kernel_rfl) ?_ | refine J.bx rfl rfl rfl rfl rfl rfl ?_
  by_cases hm : [] ∈ d
  · rw [if_pos hm, decide_eq_true hm]
    refine T.ct rfl ?_
    repeat' first | refine T.seq ?_ | refine T.block ?_ | refine T.r ?_ | refine J.e rfl rfl rfl rfl ?_ | refine J.nil ?_ | refine J.skip rfl rfl rfl ?_ | refine T.skip ?_ | refine T.exit ?_ | refine T.ret ?_ | refine T.rd rfl (by kernel_rfl) ?_ | refine J.bx rfl rfl rfl rfl rfl rfl ?_
    exact ⟨_, .v rfl rfl rfl (fun h => by cases h) (.v rfl rfl rfl (fun h => by cases h) .nil)⟩
  · rw [if_neg hm, decide_eq_false hm]
    refine T.cf rfl ?_
    repeat' first | refine T.seq ?_ | refine T.block ?_ | refine T.r ?_ | refine J.e rfl rfl rfl rfl ?_ | refine J.nil ?_ | refine J.skip rfl rfl rfl ?_ | refine T.skip ?_ | refine T.exit ?_ | refine T.ret ?_ | refine T.rd rfl (by kernel_rfl) ?_ | refine J.bx rfl rfl rfl rfl rfl rfl ?_
    exact ⟨_, .v rfl rfl rfl (fun h => by cases h) (.v rfl rfl rfl (fun h => by cases h) .nil)⟩
def sizeW (d : List (Int × Int)) : Int := d.foldl (fun n r => wr (n + wr (wr (r.2 - r.1) + 1))) 0
theorem size_spec (d : List (Int × Int)) (hl : d.length * 8 ≤ 140737488355328) : Spec Try.prog 80 false [dm d] [.val (.int .i64 (sizeW d))] := by
  refine Spec.body Try.func80 rfl rfl rfl fun w0 Z0 => ?_
  repeat' first | refine T.seq ?_ | refine T.block ?_ | refine T.r ?_ | refine J.e rfl rfl rfl rfl ?_ | refine J.nil ?_ | refine J.skip rfl rfl rfl ?_ | refine T.skip ?_ | refine T.exit ?_ | refine T.ret ?_ | refine T.rd rfl (by kernel_rfl) ?_ | refine J.bx rfl rfl rfl rfl rfl rfl ?_
  refine T.canon (keep := [3, 6, 7, 8]) (os := []) rfl (T.list d (fun n pre post => ⟨[(3, .val true (.int .i64 (sizeW pre))), (6, .val false (dm d)), (7, .val true (.int .i64 (d.map cR).length)), (8, .val true (.int .i64 n))], [], 0⟩) (fun _ _ h => h) ?_ ?_)
  · rintro n pre x post h hn ih
    have hlt := at_lt h hn
    repeat' first | refine T.seq ?_ | refine T.block ?_ | refine T.r ?_ | refine J.e rfl rfl rfl rfl ?_ | refine J.nil ?_ | refine J.skip rfl rfl rfl ?_ | refine T.skip ?_ | refine T.exit ?_ | refine T.ret ?_ | refine T.rd rfl (by kernel_rfl) ?_ | refine J.bx rfl rfl rfl rfl rfl rfl ?_
    refine T.ct2 rfl (lt_at h hn) ?_
    repeat' first | refine T.seq ?_ | refine T.block ?_ | refine T.r ?_ | refine J.e rfl rfl rfl rfl ?_ | refine J.nil ?_ | refine J.skip rfl rfl rfl ?_ | refine T.skip ?_ | refine T.exit ?_ | refine T.ret ?_ | refine T.rd rfl (by kernel_rfl) ?_ | refine J.bx rfl rfl rfl rfl rfl rfl ?_
    refine J.i rfl rfl rfl rfl rfl rfl rfl rfl rfl (r := cR x) (by omega) (row_at h hn) rfl ?_
    repeat' first | refine T.seq ?_ | refine T.block ?_ | refine T.r ?_ | refine J.e rfl rfl rfl rfl ?_ | refine J.nil ?_ | refine J.skip rfl rfl rfl ?_ | refine T.skip ?_ | refine T.exit ?_ | refine T.ret ?_ | refine T.rd rfl (by kernel_rfl) ?_ | refine J.bx rfl rfl rfl rfl rfl rfl ?_
    refine J.al rfl rfl rfl rfl rfl rfl rfl ?_
    repeat' first | refine T.seq ?_ | refine T.block ?_ | refine T.r ?_ | refine J.e rfl rfl rfl rfl ?_ | refine J.nil ?_ | refine J.skip rfl rfl rfl ?_ | refine T.skip ?_ | refine T.exit ?_ | refine T.ret ?_ | refine T.rd rfl (by kernel_rfl) ?_ | refine J.bx rfl rfl rfl rfl rfl rfl ?_
    refine J.w rfl rfl rfl rfl rfl rfl rfl rfl rfl rfl ?_
    repeat' first | refine T.seq ?_ | refine T.block ?_ | refine T.r ?_ | refine J.e rfl rfl rfl rfl ?_ | refine J.nil ?_ | refine J.skip rfl rfl rfl ?_ | refine T.skip ?_ | refine T.exit ?_ | refine T.ret ?_ | refine T.rd rfl (by kernel_rfl) ?_ | refine J.bx rfl rfl rfl rfl rfl rfl ?_
    rw [wrap1 hlt (by omega), show IntKind.i64.wrap (sizeW pre + IntKind.i64.wrap (IntKind.i64.wrap (x.2 - x.1) + 1)) = sizeW (pre ++ [x]) by simp [sizeW]]
    exact T.canon (keep := [3, 6, 7, 8]) (os := []) rfl ih
  · repeat' first | refine T.seq ?_ | refine T.block ?_ | refine T.r ?_ | refine J.e rfl rfl rfl rfl ?_ | refine J.nil ?_ | refine J.skip rfl rfl rfl ?_ | refine T.skip ?_ | refine T.exit ?_ | refine T.ret ?_ | refine T.rd rfl (by kernel_rfl) ?_ | refine J.bx rfl rfl rfl rfl rfl rfl ?_
    refine T.cf2 rfl lt_end ?_
    repeat' first | refine T.seq ?_ | refine T.block ?_ | refine T.r ?_ | refine J.e rfl rfl rfl rfl ?_ | refine J.nil ?_ | refine J.skip rfl rfl rfl ?_ | refine T.skip ?_ | refine T.exit ?_ | refine T.ret ?_ | refine T.rd rfl (by kernel_rfl) ?_ | refine J.bx rfl rfl rfl rfl rfl rfl ?_
    exact ⟨_, .v rfl rfl rfl (fun _ => rfl) .nil⟩
end Go.Proofs.Ytchajofdjeijfaa
