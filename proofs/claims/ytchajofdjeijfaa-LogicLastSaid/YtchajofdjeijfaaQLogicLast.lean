/- The statement LogicLast: the law, and its row. -/
import Derived.Test.YtchajofdjeijfaaB10
import Derived.Test.YtchajofdjeijfaaRows
import Derived.WalkKit
import Derived.ProofKit
import Derived.OpenShut
import Derived.ShutString
import Derived.ChangeOld
import Derived.Below
import Derived.SizedLaws
/-! The statement LogicLast: what its function answers. -/
namespace Go.Proofs.Ytchajofdjeijfaa
open Go Go.RowKit
set_option linter.unusedVariables false
set_option linter.unusedSimpArgs false
set_option maxRecDepth 8000

theorem domAt_set {d : Doms} {v w : Int} {x : List (Int × Int)} (hv : v.toNat < d.length) : domAt (d.set v.toNat x) w = if v.toNat = w.toNat then x else domAt d w := by
  unfold domAt
  rw [List.getD_eq_getElem?_getD, List.getD_eq_getElem?_getD, List.getElem?_set]
  by_cases h : v.toNat = w.toNat
  · rw [if_pos h, if_pos h, if_pos hv]; rfl
  · rw [if_neg h, if_neg h]
theorem varAt_inj {c : Con} (h : c.vars.Nodup) (h0 : ∀ v ∈ c.vars, 0 ≤ v) {i j : Nat} (hi : i < c.vars.length) (hj : j < c.vars.length) (e : (varAt c i).toNat = (varAt c j).toNat) : i = j := by
  have h1 := h0 _ (varAt_mem hi)
  have h2 := h0 _ (varAt_mem hj)
  have e : varAt c i = varAt c j := by omega
  have e1 : varAt c i = c.vars[i] := by simp [varAt, hi]
  have e2 : varAt c j = c.vars[j] := by simp [varAt, hj]
  rw [e1, e2] at e
  exact (List.getElem_inj h).1 e
def falseOf (k : Int) : Int := if k = 1 then 0 else 1
/-- All literals but one known not to be so. -/
def lastD (d : Doms) (c : Con) (k : Nat) : Nat → Doms
  | 0 => d
  | i + 1 => if i = k then ((lastD d c k i).set (varAt c i).toNat (sing (falseOf (coefAt c i)))).set (varAt c i).toNat [(0, 1)] else (lastD d c k i).set (varAt c i).toNat (sing (falseOf (coefAt c i)))
theorem lastD_len (d : Doms) (c : Con) (k : Nat) : ∀ i, (lastD d c k i).length = d.length
  | 0 => rfl
  | i + 1 => by
    rw [lastD]
    split <;> simp [lastD_len d c k i]
theorem lastD_small {d : Doms} {c : Con} {k : Nat} (h : ∀ x ∈ d, x.length * 64 + 1048576 ≤ 140737488355328) : ∀ i, ∀ x ∈ lastD d c k i, x.length * 64 + 1048576 ≤ 140737488355328
  | 0 => h
  | i + 1 => by
    rw [lastD]
    have ih := lastD_small (c := c) (k := k) h i
    split
    · exact mem_set (mem_set ih (by simp [sing])) (by simp)
    · exact mem_set ih (by simp [sing])
theorem lastD_at {d : Doms} {c : Con} {k : Nat} (hc : ClOk d c) : ∀ (n i : Nat), n ≤ c.vars.length → i < c.vars.length → domAt (lastD d c k n) (varAt c i) = if i < n then (if i = k then [(0, 1)] else sing (falseOf (coefAt c i))) else domAt d (varAt c i)
  | 0, i, _, hi => by rw [lastD, if_neg (by omega)]
  | n + 1, i, hn, hi => by
    have ih := lastD_at (k := k) hc n i (by omega) hi
    have hv := (hc.vin _ (varAt_mem (c := c) (k := n) (by omega))).2
    have hl := lastD_len d c k n
    have hin : (varAt c n).toNat = (varAt c i).toNat ↔ n = i := ⟨varAt_inj hc.nod (fun v hv => (hc.vin v hv).1) (by omega) hi, fun e => by rw [e]⟩
    rw [lastD]
    by_cases e : n = i
    · subst e
      rw [if_pos (by omega : n < n + 1)]
      by_cases h : n = k
      · rw [if_pos h, if_pos h, domAt_set (by simp; omega), if_pos rfl]
      · rw [if_neg h, if_neg h, domAt_set (by omega), if_pos rfl]
    · have e2 : ¬ (varAt c n).toNat = (varAt c i).toNat := fun h => e (hin.1 h)
      have e3 : i < n + 1 ↔ i < n := by omega
      simp only [e3]
      split
      · rw [domAt_set (by simp; omega), if_neg e2, domAt_set (by omega), if_neg e2]; exact ih
      · rw [domAt_set (by omega), if_neg e2]; exact ih
theorem filter_one {α : Type} {p : α → Bool} : ∀ (l : List α) (k : Nat) (x : α), l[k]? = some x → (∀ i y, l[i]? = some y → p y = decide (i = k)) → l.filter p = [x]
  | [], k, x, h, _ => by simp at h
  | y :: l, 0, x, h, hp => by
    simp at h; subst h
    rw [List.filter_cons_of_pos (by simpa using hp 0 y (by simp))]
    congr 1
    rw [List.filter_eq_nil_iff]
    intro z hz
    obtain ⟨i, hi⟩ := List.getElem?_of_mem hz
    have := hp (i + 1) z (by simpa using hi)
    simpa using this
  | y :: l, k + 1, x, h, hp => by
    have h0 := hp 0 y (by simp)
    rw [List.filter_cons_of_neg (by simpa using h0)]
    exact filter_one l k x (by simpa using h) fun i z hz => by
      have := hp (i + 1) z (by simpa using hz)
      simpa using this
theorem last_left {d : Doms} {c : Con} {k : Nat} (hc : ClOk d c) (hk : k < c.vars.length) (hm : [] ∉ lastD d c k c.vars.length) :
    clauseW (lastD d c k c.vars.length) c = some ((lastD d c k c.vars.length).set (varAt c k).toNat (sing (litW (coefAt c k)))) := by
  have hat := fun i hi => lastD_at (k := k) hc c.vars.length i (Nat.le_refl _) hi
  have hun : ∀ i, i < c.vars.length → coefAt c i = 1 ∨ coefAt c i = -1 := fun i hi => by
    have h : i < c.coefs.length := by rw [← hc.len]; exact hi
    have e : coefAt c i = c.coefs[i] := by simp [coefAt, h]
    rw [e]
    exact hc.unit _ (List.getElem_mem h)
  have hz : ∀ i y, (c.vars.zip c.coefs)[i]? = some y → i < c.vars.length ∧ y = (varAt c i, coefAt c i) := by
    intro i y h
    obtain ⟨hi, e⟩ := List.getElem?_eq_some_iff.1 h
    have h1 : i < c.vars.length := by simp at hi; omega
    have h2 : i < c.coefs.length := by rw [← hc.len]; exact h1
    refine ⟨h1, ?_⟩
    rw [← e, List.getElem_zip]
    simp [varAt, coefAt, h1, h2]
  have hkz : (c.vars.zip c.coefs)[k]? = some (varAt c k, coefAt c k) := by
    have h2 : k < c.coefs.length := by rw [← hc.len]; exact hk
    have h3 : k < (c.vars.zip c.coefs).length := by simp; omega
    rw [List.getElem?_eq_getElem h3]
    exact congrArg some (hz k _ (List.getElem?_eq_getElem h3)).2
  rw [clauseW_eq hc.len, if_neg hm]
  rw [filter_one (c.vars.zip c.coefs) k _ hkz (fun i y hy => by
    obtain ⟨h1, rfl⟩ := hz i y hy
    simp only [litB, hat i h1]
    rw [if_pos h1]
    by_cases e : i = k
    · rw [if_pos e, decide_eq_true e]
      rcases hun i h1 with h | h
      · rw [h]; decide +kernel
      · rw [h]; decide +kernel
    · rw [if_neg e, decide_eq_false e]
      rcases hun i h1 with h | h
      · rw [h]; decide +kernel
      · rw [h]; decide +kernel)]
  have hak := hat k hk
  rw [if_pos hk, if_pos rfl] at hak
  simp only [clF, keepO, hak]
  rcases hun k hk with h | h
  · rw [h, show domCut [(0, 1)] (litW 1) (litW 1) = sing (litW 1) by decide +kernel, if_neg (by simp [sing])]
  · rw [h, show domCut [(0, 1)] (litW (-1)) (litW (-1)) = sing (litW (-1)) by decide +kernel, if_neg (by simp [sing])]
theorem law_last (o : Case) (at_ : Int) (ho : CaseB o) : Spec Try.prog 12 true [.agg (cCase o), .int .i64 at_] [.val (.bool true)] := by
  refine Spec.body Try.func12 rfl rfl rfl fun w0 Z0 => ?_
  have ho1 := truthCase_B ho
  have htr := (truths_spec o.d ho.2.1 ho.2.2).frz
  have hlaid := laid_spec (truthCase o) 5 ho1
  have hcb := laid_conB ho1 5
  have hf := laid_fine (truthCase o)
  have hlen := laid_len (truthCase o)
  have hin := fun h => clause_in (d := laidD (truthCase o)) (c := laidC (truthCase o) 5) hcb h rfl
  have hok : laidOK (truthCase o) 5 = decide (conR (laidD (truthCase o)) (laidC (truthCase o) 5) = 0) := rfl
  have hsmall := laid_small (truthCase o)
  generalize laidD (truthCase o) = d at *
  generalize laidC (truthCase o) 5 = c at *
  generalize laidOK (truthCase o) 5 = ok at *
  repeat' first | refine T.seq ?_ | refine T.block ?_ | refine T.r ?_ | refine J.e rfl rfl rfl rfl ?_ | refine J.nil ?_ | refine J.skip rfl rfl rfl ?_ | refine T.skip ?_ | refine T.exit ?_ | refine T.ret ?_ | refine T.rd rfl (by kernel_rfl) ?_ | refine J.bx rfl rfl rfl rfl rfl rfl ?_
  refine J.cc rfl rfl rfl rfl rfl htr rfl rfl ?_
  repeat' first | refine T.seq ?_ | refine T.block ?_ | refine T.r ?_ | refine J.e rfl rfl rfl rfl ?_ | refine J.nil ?_ | refine J.skip rfl rfl rfl ?_ | refine T.skip ?_ | refine T.exit ?_ | refine T.ret ?_ | refine T.rd rfl (by kernel_rfl) ?_ | refine J.bx rfl rfl rfl rfl rfl rfl ?_
  refine J.w rfl rfl rfl rfl rfl rfl rfl rfl rfl rfl ?_
  repeat' first | refine T.seq ?_ | refine T.block ?_ | refine T.r ?_ | refine J.e rfl rfl rfl rfl ?_ | refine J.nil ?_ | refine J.skip rfl rfl rfl ?_ | refine T.skip ?_ | refine T.exit ?_ | refine T.ret ?_ | refine T.rd rfl (by kernel_rfl) ?_ | refine J.bx rfl rfl rfl rfl rfl rfl ?_
  refine J.cc rfl rfl rfl rfl rfl hlaid rfl rfl ?_
  repeat' first | refine T.seq ?_ | refine T.block ?_ | refine T.r ?_ | refine J.e rfl rfl rfl rfl ?_ | refine J.nil ?_ | refine J.skip rfl rfl rfl ?_ | refine T.skip ?_ | refine T.exit ?_ | refine T.ret ?_ | refine T.rd rfl (by kernel_rfl) ?_ | refine J.bx rfl rfl rfl rfl rfl rfl ?_
  refine J.al rfl rfl rfl rfl rfl rfl rfl ?_
  repeat' first | refine T.seq ?_ | refine T.block ?_ | refine T.r ?_ | refine J.e rfl rfl rfl rfl ?_ | refine J.nil ?_ | refine J.skip rfl rfl rfl ?_ | refine T.skip ?_ | refine T.exit ?_ | refine T.ret ?_ | refine T.rd rfl (by kernel_rfl) ?_ | refine J.bx rfl rfl rfl rfl rfl rfl ?_
  refine J.w rfl rfl rfl rfl rfl rfl rfl rfl rfl rfl ?_
  repeat' first | refine T.seq ?_ | refine T.block ?_ | refine T.r ?_ | refine J.e rfl rfl rfl rfl ?_ | refine J.nil ?_ | refine J.skip rfl rfl rfl ?_ | refine T.skip ?_ | refine T.exit ?_ | refine T.ret ?_ | refine T.rd rfl (by kernel_rfl) ?_ | refine J.bx rfl rfl rfl rfl rfl rfl ?_
  cases ok
  · refine T.ct rfl ?_
    repeat' first | refine T.seq ?_ | refine T.block ?_ | refine T.r ?_ | refine J.e rfl rfl rfl rfl ?_ | refine J.nil ?_ | refine J.skip rfl rfl rfl ?_ | refine T.skip ?_ | refine T.exit ?_ | refine T.ret ?_ | refine T.rd rfl (by kernel_rfl) ?_ | refine J.bx rfl rfl rfl rfl rfl rfl ?_
    refine J.cc rfl rfl rfl rfl rfl gfixed_spec rfl rfl ?_
    repeat' first | refine T.seq ?_ | refine T.block ?_ | refine T.r ?_ | refine J.e rfl rfl rfl rfl ?_ | refine J.nil ?_ | refine J.skip rfl rfl rfl ?_ | refine T.skip ?_ | refine T.exit ?_ | refine T.ret ?_ | refine T.rd rfl (by kernel_rfl) ?_ | refine J.bx rfl rfl rfl rfl rfl rfl ?_
    exact ⟨_, .v rfl rfl rfl (fun h => by cases h) .nil⟩
  · refine T.cf rfl ?_
    have hcl := hin (by simpa using hok.symm)
    have hpos := hcl.pos
    have hvl := hcl.vl
    obtain ⟨hm1, hm2⟩ := tmod_in (andN_in at_).1 hcl.pos
    have hmv : (andN at_).tmod c.vars.length = (((andN at_).tmod c.vars.length).toNat : Int) := by omega
    generalize ((andN at_).tmod c.vars.length).toNat = k at *
    have hD := lastD_len d c k c.vars.length
    have hDs := lastD_small (c := c) (k := k) hsmall c.vars.length
    have hvin : ∀ v ∈ c.vars, 0 ≤ v ∧ v.toNat < (lastD d c k c.vars.length).length := fun v hv => by rw [hD]; exact hcl.vin v hv
    have hce := (lclause_spec (lastD d c k c.vars.length) c ⟨hcl.len, hcl.vl, hvin, by omega, fun x hx => by have := hDs x hx; omega⟩).frz
    have hleft := last_left (k := k) hcl hm2
    repeat' first | refine T.seq ?_ | refine T.block ?_ | refine T.r ?_ | refine J.e rfl rfl rfl rfl ?_ | refine J.nil ?_ | refine J.skip rfl rfl rfl ?_ | refine T.skip ?_ | refine T.exit ?_ | refine T.ret ?_ | refine T.rd rfl (by kernel_rfl) ?_ | refine J.bx rfl rfl rfl rfl rfl rfl ?_
    refine J.rm rfl rfl rfl rfl rfl rfl (fun h => by simp only [List.length_map] at h; omega) ?_
    rw [List.length_map, show IntKind.i64.wrap (BitVec.ofInt IntKind.i64.bits at_ &&& BitVec.ofInt IntKind.i64.bits 65535).toNat = andN at_ from rfl, hmv]
    repeat' first | refine T.seq ?_ | refine T.block ?_ | refine T.r ?_ | refine J.e rfl rfl rfl rfl ?_ | refine J.nil ?_ | refine J.skip rfl rfl rfl ?_ | refine T.skip ?_ | refine T.exit ?_ | refine T.ret ?_ | refine T.rd rfl (by kernel_rfl) ?_ | refine J.bx rfl rfl rfl rfl rfl rfl ?_
    refine T.canon (keep := [5, 6, 8, 9]) (os := [5, 6]) rfl (T.ind (fun i : Nat => ⟨[(5, .ref 0), (6, .optr 1 0 0 0), (8, .val true (.int .i64 k)), (9, .val true (.int .i64 i))], [(0, some (.sl 38 1 false ((lastD d c k i).map cD))), (1, some (.box false (cC c)))], 2⟩) (fun i => i ≤ c.vars.length) (fun i => c.vars.length - i) 0 (by simp) (fun _ _ h => h) ?_)
    rintro i hi ih
    repeat' first | refine T.seq ?_ | refine T.block ?_ | refine T.r ?_ | refine J.e rfl rfl rfl rfl ?_ | refine J.nil ?_ | refine J.skip rfl rfl rfl ?_ | refine T.skip ?_ | refine T.exit ?_ | refine T.ret ?_ | refine T.rd rfl (by kernel_rfl) ?_ | refine J.bx rfl rfl rfl rfl rfl rfl ?_
    refine T.cd rfl (fun h1 => ?_) (fun h1 => ?_)
    · have h1 : i < c.vars.length := by simpa using h1
      have h2 : i < c.coefs.length := by rw [← hcl.len]; exact h1
      have hv := hcl.vin _ (varAt_mem h1)
      have hvr := varAt_row h1
      have hkr := coefAt_row h2
      have hl := lastD_len d c k i
      have hstep : lastD d c k (i + 1) = if i = k then ((lastD d c k i).set (varAt c i).toNat (sing (falseOf (coefAt c i)))).set (varAt c i).toNat [(0, 1)] else (lastD d c k i).set (varAt c i).toNat (sing (falseOf (coefAt c i))) := rfl
      have ih := ih (i + 1) (by omega) (by omega)
      rw [hstep] at ih
      clear hstep
      generalize lastD d c k i = di at *
      generalize varAt c i = v at *
      generalize coefAt c i = kk at *
      have hvd : v.toNat < di.length := by omega
      refine T.skip ?_
      refine T.seq ?_
      refine T.block ?_
      refine T.seq ?_
      refine T.r ?_
      repeat' first | refine J.e rfl rfl rfl rfl ?_ | refine J.skip rfl rfl rfl ?_ | refine J.bx rfl rfl rfl rfl rfl rfl ?_
      refine J.nil ?_
      refine T.mid ⟨[(5, .ref 0), (6, .optr 1 0 0 0), (8, .val true (.int .i64 k)), (9, .val true (.int .i64 i)), (10, .val true (.int .i64 (falseOf kk)))], [(0, some (.sl 38 1 false (di.map cD))), (1, some (.box false (cC c)))], 2⟩ ?_ ?_
      · repeat' first | refine T.seq ?_ | refine T.block ?_ | refine T.r ?_ | refine J.e rfl rfl rfl rfl ?_ | refine J.nil ?_ | refine J.skip rfl rfl rfl ?_ | refine T.skip ?_ | refine T.exit ?_ | refine T.ret ?_ | refine T.rd rfl (by kernel_rfl) ?_ | refine J.bx rfl rfl rfl rfl rfl rfl ?_
        refine J.i rfl rfl rfl rfl rfl rfl rfl rfl rfl (r := cI kk) (by omega) hkr rfl ?_
        repeat' first | refine T.seq ?_ | refine T.block ?_ | refine T.r ?_ | refine J.e rfl rfl rfl rfl ?_ | refine J.nil ?_ | refine J.skip rfl rfl rfl ?_ | refine T.skip ?_ | refine T.exit ?_ | refine T.ret ?_ | refine T.rd rfl (by kernel_rfl) ?_ | refine J.bx rfl rfl rfl rfl rfl rfl ?_
        refine T.cd rfl (fun h3 => ?_) (fun h3 => ?_)
        · have h3 : kk = 1 := h3
          rw [falseOf, if_pos h3]
          repeat' first | refine T.seq ?_ | refine T.block ?_ | refine T.r ?_ | refine J.e rfl rfl rfl rfl ?_ | refine J.nil ?_ | refine J.skip rfl rfl rfl ?_ | refine T.skip ?_ | refine T.exit ?_ | refine T.ret ?_ | refine T.rd rfl (by kernel_rfl) ?_ | refine J.bx rfl rfl rfl rfl rfl rfl ?_
          exact ⟨rfl, [5, 6, 8, 9, 10], [5, 6], rfl, rfl⟩
        · have h3 : ¬ kk = 1 := h3
          rw [falseOf, if_neg h3]
          repeat' first | refine T.seq ?_ | refine T.block ?_ | refine T.r ?_ | refine J.e rfl rfl rfl rfl ?_ | refine J.nil ?_ | refine J.skip rfl rfl rfl ?_ | refine T.skip ?_ | refine T.exit ?_ | refine T.ret ?_ | refine T.rd rfl (by kernel_rfl) ?_ | refine J.bx rfl rfl rfl rfl rfl rfl ?_
          exact ⟨rfl, [5, 6, 8, 9, 10], [5, 6], rfl, rfl⟩
      · repeat' first | refine T.seq ?_ | refine T.block ?_ | refine T.r ?_ | refine J.e rfl rfl rfl rfl ?_ | refine J.nil ?_ | refine J.skip rfl rfl rfl ?_ | refine T.skip ?_ | refine T.exit ?_ | refine T.ret ?_ | refine T.rd rfl (by kernel_rfl) ?_ | refine J.bx rfl rfl rfl rfl rfl rfl ?_
        refine J.i rfl rfl rfl rfl rfl rfl rfl rfl rfl (r := cI v) (by omega) hvr rfl ?_
        repeat' first | refine T.seq ?_ | refine T.block ?_ | refine T.r ?_ | refine J.e rfl rfl rfl rfl ?_ | refine J.nil ?_ | refine J.skip rfl rfl rfl ?_ | refine T.skip ?_ | refine T.exit ?_ | refine T.ret ?_ | refine T.rd rfl (by kernel_rfl) ?_ | refine J.bx rfl rfl rfl rfl rfl rfl ?_
        refine J.bv rfl rfl rfl rfl rfl rfl rfl rfl rfl rfl rfl rfl ?_
        refine J.io rfl rfl rfl rfl rfl rfl rfl rfl rfl hv.1 (by simpa using hvd) rfl ?_
        refine J.w1 rfl rfl rfl rfl rfl rfl rfl rfl rfl rfl rfl (z := sing (falseOf kk)) (fun _ => rfl) hvd ?_
        repeat' first | refine T.seq ?_ | refine T.block ?_ | refine T.r ?_ | refine J.e rfl rfl rfl rfl ?_ | refine J.nil ?_ | refine J.skip rfl rfl rfl ?_ | refine T.skip ?_ | refine T.exit ?_ | refine T.ret ?_ | refine T.rd rfl (by kernel_rfl) ?_ | refine J.bx rfl rfl rfl rfl rfl rfl ?_
        refine T.cd rfl (fun h3 => ?_) (fun h3 => ?_)
        · have h3 : i = k := by
            have h3 : (i : Int) = k := h3
            omega
          rw [if_pos h3] at ih
          repeat' first | refine T.seq ?_ | refine T.block ?_ | refine T.r ?_ | refine J.e rfl rfl rfl rfl ?_ | refine J.nil ?_ | refine J.skip rfl rfl rfl ?_ | refine T.skip ?_ | refine T.exit ?_ | refine T.ret ?_ | refine T.rd rfl (by kernel_rfl) ?_ | refine J.bx rfl rfl rfl rfl rfl rfl ?_
          refine J.i rfl rfl rfl rfl rfl rfl rfl rfl rfl (r := cI v) (by omega) hvr rfl ?_
          repeat' first | refine T.seq ?_ | refine T.block ?_ | refine T.r ?_ | refine J.e rfl rfl rfl rfl ?_ | refine J.nil ?_ | refine J.skip rfl rfl rfl ?_ | refine T.skip ?_ | refine T.exit ?_ | refine T.ret ?_ | refine T.rd rfl (by kernel_rfl) ?_ | refine J.bx rfl rfl rfl rfl rfl rfl ?_
          refine J.bv rfl rfl rfl rfl rfl rfl rfl rfl rfl rfl rfl rfl ?_
          refine J.io rfl rfl rfl rfl rfl rfl rfl rfl rfl hv.1 (by simpa using hvd) rfl ?_
          refine J.w1 rfl rfl rfl rfl rfl rfl rfl rfl rfl rfl rfl (z := [(0, 1)]) (fun _ => rfl) (by simpa using hvd) ?_
          repeat' first | refine T.seq ?_ | refine T.block ?_ | refine T.r ?_ | refine J.e rfl rfl rfl rfl ?_ | refine J.nil ?_ | refine J.skip rfl rfl rfl ?_ | refine T.skip ?_ | refine T.exit ?_ | refine T.ret ?_ | refine T.rd rfl (by kernel_rfl) ?_ | refine J.bx rfl rfl rfl rfl rfl rfl ?_
          rw [wrap1 (l := c.vars.length) (by omega) (by omega)]
          exact T.canon (keep := [5, 6, 8, 9]) (os := [5, 6]) rfl ih
        · have h3 : ¬ i = k := by
            have h3 : ¬ (i : Int) = k := h3
            omega
          rw [if_neg h3] at ih
          repeat' first | refine T.seq ?_ | refine T.block ?_ | refine T.r ?_ | refine J.e rfl rfl rfl rfl ?_ | refine J.nil ?_ | refine J.skip rfl rfl rfl ?_ | refine T.skip ?_ | refine T.exit ?_ | refine T.ret ?_ | refine T.rd rfl (by kernel_rfl) ?_ | refine J.bx rfl rfl rfl rfl rfl rfl ?_
          rw [wrap1 (l := c.vars.length) (by omega) (by omega)]
          exact T.canon (keep := [5, 6, 8, 9]) (os := [5, 6]) rfl ih
    · have h1 : i = c.vars.length := by simp at h1; omega
      subst h1
      clear ih
      have hvk := hvin _ (varAt_mem hm2)
      have hvr := varAt_row hm2
      have hk2 : k < c.coefs.length := by rw [← hcl.len]; exact hm2
      have hkr := coefAt_row hk2
      have hlt : litW (coefAt c k) = 0 ∨ litW (coefAt c k) = 1 := by
        have e : coefAt c k = c.coefs[k] := by simp [coefAt, hk2]
        rcases hcl.unit _ (List.getElem_mem hk2) with h | h
        · rw [e, h, lit_1]; exact .inr rfl
        · rw [e, h, lit_m]; exact .inl rfl
      have hlit : IntKind.i64.wrap ((IntKind.i64.wrap (coefAt c k + 1)).tdiv 2) = litW (coefAt c k) := rfl
      generalize varAt c k = v at *
      generalize coefAt c k = kk at *
      generalize litW kk = lt at *
      generalize lastD d c k c.vars.length = D at *
      have hem := fun h : [] ∈ D => (show clauseW D c = none by unfold clauseW; rw [if_pos h])
      by_cases hm : [] ∈ D
      · rw [hem hm] at hce
        have hce : Spec Try.prog 34 false [doms D, .agg (cC c)] [.val (doms []), .val (.bool false)] := hce
        repeat' first | refine T.seq ?_ | refine T.block ?_ | refine T.r ?_ | refine J.e rfl rfl rfl rfl ?_ | refine J.nil ?_ | refine J.skip rfl rfl rfl ?_ | refine T.skip ?_ | refine T.exit ?_ | refine T.ret ?_ | refine T.rd rfl (by kernel_rfl) ?_ | refine J.bx rfl rfl rfl rfl rfl rfl ?_
        refine J.cc rfl rfl rfl rfl rfl hce rfl rfl ?_
        repeat' first | refine T.seq ?_ | refine T.block ?_ | refine T.r ?_ | refine J.e rfl rfl rfl rfl ?_ | refine J.nil ?_ | refine J.skip rfl rfl rfl ?_ | refine T.skip ?_ | refine T.exit ?_ | refine T.ret ?_ | refine T.rd rfl (by kernel_rfl) ?_ | refine J.bx rfl rfl rfl rfl rfl rfl ?_
        refine T.canon (keep := [5, 12, 13]) (os := [5]) rfl (T.ind (fun i : Nat => ⟨[(5, .ref 0), (12, .val true (.bool false)), (13, .val true (.int .i64 i))], [(0, some (.sl 38 1 false (D.map cD)))], 1⟩) (fun i => i ≤ D.length ∧ [] ∉ D.take i) (fun i => D.length - i) 0 (by simp) (fun _ _ h => h) ?_)
        rintro i ⟨hi, he⟩ ih
        repeat' first | refine T.seq ?_ | refine T.block ?_ | refine T.r ?_ | refine J.e rfl rfl rfl rfl ?_ | refine J.nil ?_ | refine J.skip rfl rfl rfl ?_ | refine T.skip ?_ | refine T.exit ?_ | refine T.ret ?_ | refine T.rd rfl (by kernel_rfl) ?_ | refine J.bx rfl rfl rfl rfl rfl rfl ?_
        refine T.cd rfl (fun h1 => ?_) (fun h1 => ?_)
        · have h1 : i < D.length := by simpa using h1
          repeat' first | refine T.seq ?_ | refine T.block ?_ | refine T.r ?_ | refine J.e rfl rfl rfl rfl ?_ | refine J.nil ?_ | refine J.skip rfl rfl rfl ?_ | refine T.skip ?_ | refine T.exit ?_ | refine T.ret ?_ | refine T.rd rfl (by kernel_rfl) ?_ | refine J.bx rfl rfl rfl rfl rfl rfl ?_
          refine J.io rfl rfl rfl rfl rfl rfl rfl rfl rfl (by omega) (by simpa using h1) rfl ?_
          refine J.lo rfl rfl rfl rfl rfl rfl (r := cD D[i]) (row_i h1) rfl ?_
          repeat' first | refine T.seq ?_ | refine T.block ?_ | refine T.r ?_ | refine J.e rfl rfl rfl rfl ?_ | refine J.nil ?_ | refine J.skip rfl rfl rfl ?_ | refine T.skip ?_ | refine T.exit ?_ | refine T.ret ?_ | refine T.rd rfl (by kernel_rfl) ?_ | refine J.bx rfl rfl rfl rfl rfl rfl ?_
          refine T.cd rfl (fun h2 => ?_) (fun h2 => ?_)
          · repeat' first | refine T.seq ?_ | refine T.block ?_ | refine T.r ?_ | refine J.e rfl rfl rfl rfl ?_ | refine J.nil ?_ | refine J.skip rfl rfl rfl ?_ | refine T.skip ?_ | refine T.exit ?_ | refine T.ret ?_ | refine T.rd rfl (by kernel_rfl) ?_ | refine J.bx rfl rfl rfl rfl rfl rfl ?_
            refine J.cc rfl rfl rfl rfl rfl gfixed_spec rfl rfl ?_
            repeat' first | refine T.seq ?_ | refine T.block ?_ | refine T.r ?_ | refine J.e rfl rfl rfl rfl ?_ | refine J.nil ?_ | refine J.skip rfl rfl rfl ?_ | refine T.skip ?_ | refine T.exit ?_ | refine T.ret ?_ | refine T.rd rfl (by kernel_rfl) ?_ | refine J.bx rfl rfl rfl rfl rfl rfl ?_
            exact ⟨_, .v rfl rfl rfl (fun h => by cases h) .nil⟩
          · have h2 : D[i] ≠ [] := fun e => h2 (by rw [e]; rfl)
            repeat' first | refine T.seq ?_ | refine T.block ?_ | refine T.r ?_ | refine J.e rfl rfl rfl rfl ?_ | refine J.nil ?_ | refine J.skip rfl rfl rfl ?_ | refine T.skip ?_ | refine T.exit ?_ | refine T.ret ?_ | refine T.rd rfl (by kernel_rfl) ?_ | refine J.bx rfl rfl rfl rfl rfl rfl ?_
            rw [wrap1 (l := D.length) (by omega) (by omega)]
            exact T.canon (keep := [5, 12, 13]) (os := [5]) rfl (ih (i + 1) ⟨by omega, fun hc => by
              rw [List.take_succ_eq_append_getElem h1] at hc
              rcases List.mem_append.1 hc with h | h
              · exact he h
              · simp at h; exact h2 h⟩ (by omega))
        · have h1 : i = D.length := by simp at h1; omega
          subst h1
          rw [List.take_length] at he
          exact absurd hm he
      · rw [hleft hm] at hce
        have hce : Spec Try.prog 34 false [doms D, .agg (cC c)] [.val (doms (D.set v.toNat (sing lt))), .val (.bool true)] := hce
        have hrow : ((D.set v.toNat (sing lt)).map cD)[v.toNat]? = some (cD (sing lt)) := by simp [hvk.2]
        have hvs := values_spec (sing lt) (by intro r hr; simp [sing] at hr; subst hr; simp only; omega) (by simp [sing, vals, rng_self]) (by simp [sing])
        rw [show vals (sing lt) = [lt] by simp [sing, vals, rng_self]] at hvs
        have hns := nums_spec [lt] [lt] (by simp)
        rw [decide_eq_true rfl] at hns
        repeat' first | refine T.seq ?_ | refine T.block ?_ | refine T.r ?_ | refine J.e rfl rfl rfl rfl ?_ | refine J.nil ?_ | refine J.skip rfl rfl rfl ?_ | refine T.skip ?_ | refine T.exit ?_ | refine T.ret ?_ | refine T.rd rfl (by kernel_rfl) ?_ | refine J.bx rfl rfl rfl rfl rfl rfl ?_
        refine J.cc rfl rfl rfl rfl rfl hce rfl rfl ?_
        repeat' first | refine T.seq ?_ | refine T.block ?_ | refine T.r ?_ | refine J.e rfl rfl rfl rfl ?_ | refine J.nil ?_ | refine J.skip rfl rfl rfl ?_ | refine T.skip ?_ | refine T.exit ?_ | refine T.ret ?_ | refine T.rd rfl (by kernel_rfl) ?_ | refine J.bx rfl rfl rfl rfl rfl rfl ?_
        refine T.canon (keep := [5, 6, 8, 11, 12, 13]) (os := [5, 6]) rfl (T.ind (fun i : Nat => ⟨[(5, .ref 0), (6, .optr 1 0 0 0), (8, .val true (.int .i64 k)), (11, .val true (doms (D.set v.toNat (sing lt)))), (12, .val true (.bool true)), (13, .val true (.int .i64 i))], [(0, some (.sl 38 1 false (D.map cD))), (1, some (.box false (cC c)))], 2⟩) (fun i => i ≤ D.length) (fun i => D.length - i) 0 (by simp) (fun _ _ h => h) ?_)
        rintro i hi ih
        repeat' first | refine T.seq ?_ | refine T.block ?_ | refine T.r ?_ | refine J.e rfl rfl rfl rfl ?_ | refine J.nil ?_ | refine J.skip rfl rfl rfl ?_ | refine T.skip ?_ | refine T.exit ?_ | refine T.ret ?_ | refine T.rd rfl (by kernel_rfl) ?_ | refine J.bx rfl rfl rfl rfl rfl rfl ?_
        refine T.cd rfl (fun h1 => ?_) (fun h1 => ?_)
        · have h1 : i < D.length := by simpa using h1
          have hne : D[i] ≠ [] := fun e => hm (e ▸ List.getElem_mem h1)
          repeat' first | refine T.seq ?_ | refine T.block ?_ | refine T.r ?_ | refine J.e rfl rfl rfl rfl ?_ | refine J.nil ?_ | refine J.skip rfl rfl rfl ?_ | refine T.skip ?_ | refine T.exit ?_ | refine T.ret ?_ | refine T.rd rfl (by kernel_rfl) ?_ | refine J.bx rfl rfl rfl rfl rfl rfl ?_
          refine J.io rfl rfl rfl rfl rfl rfl rfl rfl rfl (by omega) (by simpa using h1) rfl ?_
          refine J.lo rfl rfl rfl rfl rfl rfl (r := cD D[i]) (row_i h1) rfl ?_
          repeat' first | refine T.seq ?_ | refine T.block ?_ | refine T.r ?_ | refine J.e rfl rfl rfl rfl ?_ | refine J.nil ?_ | refine J.skip rfl rfl rfl ?_ | refine T.skip ?_ | refine T.exit ?_ | refine T.ret ?_ | refine T.rd rfl (by kernel_rfl) ?_ | refine J.bx rfl rfl rfl rfl rfl rfl ?_
          refine T.cd rfl (fun h2 => ?_) (fun h2 => ?_)
          · exact absurd (by simp at h2; exact h2) hne
          · repeat' first | refine T.seq ?_ | refine T.block ?_ | refine T.r ?_ | refine J.e rfl rfl rfl rfl ?_ | refine J.nil ?_ | refine J.skip rfl rfl rfl ?_ | refine T.skip ?_ | refine T.exit ?_ | refine T.ret ?_ | refine T.rd rfl (by kernel_rfl) ?_ | refine J.bx rfl rfl rfl rfl rfl rfl ?_
            rw [wrap1 (l := D.length) (by omega) (by omega)]
            exact T.canon (keep := [5, 6, 8, 11, 12, 13]) (os := [5, 6]) rfl (ih (i + 1) (by omega) (by omega))
        · have h1 : i = D.length := by simp at h1; omega
          subst h1
          repeat' first | refine T.seq ?_ | refine T.block ?_ | refine T.r ?_ | refine J.e rfl rfl rfl rfl ?_ | refine J.nil ?_ | refine J.skip rfl rfl rfl ?_ | refine T.skip ?_ | refine T.exit ?_ | refine T.ret ?_ | refine T.rd rfl (by kernel_rfl) ?_ | refine J.bx rfl rfl rfl rfl rfl rfl ?_
          refine J.i rfl rfl rfl rfl rfl rfl rfl rfl rfl (r := cI kk) (by omega) hkr rfl ?_
          repeat' first | refine T.seq ?_ | refine T.block ?_ | refine T.r ?_ | refine J.e rfl rfl rfl rfl ?_ | refine J.nil ?_ | refine J.skip rfl rfl rfl ?_ | refine T.skip ?_ | refine T.exit ?_ | refine T.ret ?_ | refine T.rd rfl (by kernel_rfl) ?_ | refine J.bx rfl rfl rfl rfl rfl rfl ?_
          rw [hlit]
          repeat' first | refine T.seq ?_ | refine T.block ?_ | refine T.r ?_ | refine J.e rfl rfl rfl rfl ?_ | refine J.nil ?_ | refine J.skip rfl rfl rfl ?_ | refine T.skip ?_ | refine T.exit ?_ | refine T.ret ?_ | refine T.rd rfl (by kernel_rfl) ?_ | refine J.bx rfl rfl rfl rfl rfl rfl ?_
          refine J.g rfl rfl rfl (fun h => ?_) (fun h => absurd (by simp) h)
          repeat' first | refine T.seq ?_ | refine T.block ?_ | refine T.r ?_ | refine J.e rfl rfl rfl rfl ?_ | refine J.nil ?_ | refine J.skip rfl rfl rfl ?_ | refine T.skip ?_ | refine T.exit ?_ | refine T.ret ?_ | refine T.rd rfl (by kernel_rfl) ?_ | refine J.bx rfl rfl rfl rfl rfl rfl ?_
          refine J.i rfl rfl rfl rfl rfl rfl rfl rfl rfl (r := cI v) (by omega) hvr rfl ?_
          repeat' first | refine T.seq ?_ | refine T.block ?_ | refine T.r ?_ | refine J.e rfl rfl rfl rfl ?_ | refine J.nil ?_ | refine J.skip rfl rfl rfl ?_ | refine T.skip ?_ | refine T.exit ?_ | refine T.ret ?_ | refine T.rd rfl (by kernel_rfl) ?_ | refine J.bx rfl rfl rfl rfl rfl rfl ?_
          refine J.i rfl rfl rfl rfl rfl rfl rfl rfl rfl (r := cD (sing lt)) hvk.1 hrow rfl ?_
          repeat' first | refine T.seq ?_ | refine T.block ?_ | refine T.r ?_ | refine J.e rfl rfl rfl rfl ?_ | refine J.nil ?_ | refine J.skip rfl rfl rfl ?_ | refine T.skip ?_ | refine T.exit ?_ | refine T.ret ?_ | refine T.rd rfl (by kernel_rfl) ?_ | refine J.bx rfl rfl rfl rfl rfl rfl ?_
          refine J.cc rfl rfl rfl rfl rfl hvs rfl rfl ?_
          repeat' first | refine T.seq ?_ | refine T.block ?_ | refine T.r ?_ | refine J.e rfl rfl rfl rfl ?_ | refine J.nil ?_ | refine J.skip rfl rfl rfl ?_ | refine T.skip ?_ | refine T.exit ?_ | refine T.ret ?_ | refine T.rd rfl (by kernel_rfl) ?_ | refine J.bx rfl rfl rfl rfl rfl rfl ?_
          refine J.bv rfl rfl rfl rfl rfl rfl rfl rfl rfl rfl rfl rfl ?_
          refine J.cc rfl rfl rfl rfl rfl hns rfl rfl ?_
          repeat' first | refine T.seq ?_ | refine T.block ?_ | refine T.r ?_ | refine J.e rfl rfl rfl rfl ?_ | refine J.nil ?_ | refine J.skip rfl rfl rfl ?_ | refine T.skip ?_ | refine T.exit ?_ | refine T.ret ?_ | refine T.rd rfl (by kernel_rfl) ?_ | refine J.bx rfl rfl rfl rfl rfl rfl ?_
          refine J.cc rfl rfl rfl rfl rfl gfixed_spec rfl rfl ?_
          repeat' first | refine T.seq ?_ | refine T.block ?_ | refine T.r ?_ | refine J.e rfl rfl rfl rfl ?_ | refine J.nil ?_ | refine J.skip rfl rfl rfl ?_ | refine T.skip ?_ | refine T.exit ?_ | refine T.ret ?_ | refine T.rd rfl (by kernel_rfl) ?_ | refine J.bx rfl rfl rfl rfl rfl rfl ?_
          exact ⟨_, .v rfl rfl rfl (fun h => by cases h) .nil⟩
end Go.Proofs.Ytchajofdjeijfaa
/-! The row of LogicLast. -/
namespace Go.Proofs.Ytchajofdjeijfaa.logicLast
open Go.ChangeShapes Go.WideShapes Go.ChangeAt Go.RowKit
set_option linter.unusedVariables false
theorem own : ownKnob Try.prog.godebug = none := by kernel_rfl
theorem laidOut : laidOutB Try.prog = true := by kernel_rfl
set_option maxRecDepth 100000 in
theorem lifted (os : Os) (started : os.Started) (H : Type) (enc : TypeId × Value → H) :
    ReturnsInHanded {} Try.checked os 12 .any (Rows.logicLastSpec.pre6 enc Try.prog Try.f12 Rows.logicLastRow.domain false) (Rows.logicLastSpec.post enc Try.prog Try.f12 false true false false) := by
  refine returnsInHanded_of_change_sized (C := Try.checked) own started (by kernel_rfl) Try.func12
    (ChangeSpec.witness6 (enc := enc) (C := Try.checked) false ⟨#[], #[.agg #[.slice none 0 0, .int .i64 0, .slice none 0 0, .slice none 0 0, .int .i64 0, .int .i64 0, .slice none 0 0, .int .i64 0, .slice none 0 0, .slice none 0 0], .int .i64 0], []⟩ 8 (by kernel_rfl) (by kernel_rfl) (by kernel_rfl) (by kernel_rfl)) ?_
  intro W base args ds gs before hval0 hW hcnd hsz0 _
  have hsz : (DataW.weightsEach Try.prog (Try.f12.params.toList ++ Rows.logicLastSpec.plain.varTypes Try.prog) (ds ++ gs)).all (· ≤ reachBytes) = true := hsz0
  have hval : ∀ (j : Nat) t v, Try.f12.params[j]? = some t → args[j]? = some v → Value.okWide Try.prog W .any base t v := hval0
  have hW' := hW
  obtain ⟨p, q, hA0, hV, rfl, hfz, hnd⟩ := hW
  have hA : DataW.TrodAll enc Try.prog W 0 (fun _ => true) true Try.f12.params.toList args.toList ds p := hA0
  rw [Try.params12] at hA hval hsz
  obtain ⟨v0, vs0, d0, ds0, p0, q0, hargs, rfl, rfl, h0, r0⟩ := trodAll_cons hA
  obtain ⟨v1, vs1, d1, ds1, p1, q1, rfl, rfl, rfl, h1, r1⟩ := trodAll_cons r0
  obtain ⟨rfl, rfl, rfl⟩ := trodAll_nil r1
  obtain rfl : args = #[v0, v1] := by cases args; simp_all
  obtain ⟨rfl, rfl⟩ := trodVars_none hV
  have hv0 := hval 0 53 v0 rfl rfl
  obtain ⟨cs0, rfl, _, _⟩ : ∃ cs, v0 = .agg cs ∧ cs.size = Try.prog.cellsOf 53 ∧ Row.okWide Try.prog W .any base 53 cs := by
    unfold Value.okWide at hv0
    rw [Try.underlying53] at hv0
    exact hv0
  have k0 := h0
  have lt0 : ∀ x ∈ p0, x.block < W.heap.size := by obtain ⟨m, hm⟩ := k0; exact DataW.trod_lt m _ _ _ hm
  obtain ⟨fuel0, hf0⟩ := h0
  obtain ⟨a1, rfl, rfl, rfl, w1⟩ := open_int Try.underlying3 (hval 1 3 v1 rfl rfl) h1
  have hw : (DataW.weightsEach Try.prog (53 :: 3 :: Rows.logicLastSpec.plain.varTypes Try.prog) (d0 :: .lit (.int .i64 a1) :: [])).all (· ≤ reachBytes) = true := hsz
  rw [DataW.weightsEach, List.all_append, Bool.and_eq_true] at hw
  obtain ⟨hw0, hw⟩ := hw
  rw [DataW.weightsEach, List.all_append, Bool.and_eq_true] at hw
  obtain ⟨hw1, hw⟩ := hw
  obtain ⟨o, hrep0, ho⟩ := opens_case fuel0 _ (d0, p0) hf0 hw0 (nf hfz fun p hp => by simp [hp])
  clear hA0 hval0 hsz0 hsz hw
  have hcs0 : (Value.agg cs0).cells.toList = cs0.toList := rfl
  rw [hcs0] at hrep0
  have harg0 : Rep W (fun _ => True) (.agg cs0) (.agg (cCase o)) := by
    have := Rep.agg (w := W) (Z := fun _ => True) cs0.toList (cCase o) hrep0 (case_one o)
    simpa using this
  refine ((law_last o a1 ho).out W (fun _ => True) [.agg cs0, .int .i64 a1] (.cons harg0 (.cons (.int _ _) .nil))).mono fun e W' ⟨rs, he, bel, hret⟩ => ?_
  have hrs : rs = [.bool true] := by
    have h := hret.each
    cases h with
    | cons h1 h2 => cases h2; cases h1; rfl
  subst hrs
  subst he
  exact ⟨_, rfl, _, _, _, [], _, [], hW', trodAll_mk1 (shut_bool Try.underlying4 _), trodAll_cons_mk (Below.trod laidOut (by kernel_rfl) (of_decide_eq_true (by kernel_rfl)) k0 bel lt0) (trodAll_cons_mk (shut_int Try.underlying3 w1) trodAll_mk0), rfl, bel.frame _, fun h => by cases h⟩
theorem over : Rows.logicLastRow.holds Try.pinned (OpenSpec.ofChange Rows.logicLastSpec) :=
  OpenClaim.holds_of_wide 12 Try.f12 rfl rfl rfl rfl rfl rfl rfl ⟨rfl, rfl, rfl, rfl, rfl⟩ rfl rfl rfl rfl rfl (by kernel_rfl) Try.func12 (by kernel_rfl)
    (of_decide_eq_true (by kernel_rfl)) (by unfold Func.isWrapper; first | (rw [if_pos (by decide +kernel)]; kernel_rfl) | (rw [if_neg (by decide +kernel)]; exact ⟨rfl, rfl⟩))
    (fun os started H enc _ => lifted os started H enc)
theorem proved : Rows.LogicLastSaid := over
#print axioms proved
end Go.Proofs.Ytchajofdjeijfaa.logicLast
namespace Go.Proofs.Ytchajofdjeijfaa
/-- The row, under a short name, for the claim. -/
theorem logicLast_holds : Rows.LogicLastSaid := logicLast.proved
end Go.Proofs.Ytchajofdjeijfaa
