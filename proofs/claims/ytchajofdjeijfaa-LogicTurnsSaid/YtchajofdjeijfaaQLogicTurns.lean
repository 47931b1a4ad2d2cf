/- The statement LogicTurns: the law, and its row. -/
import Derived.Test.YtchajofdjeijfaaB10
import Derived.Test.YtchajofdjeijfaaRows
import Derived.WalkKit
import Derived.ProofKit
import Derived.OpenShut
import Derived.ShutString
import Derived.ChangeOld
import Derived.Below
import Derived.SizedLaws
/-! The statement LogicTurns: what its function answers. -/
namespace Go.Proofs.Ytchajofdjeijfaa
open Go Go.RowKit
set_option linter.unusedVariables false
set_option linter.unusedSimpArgs false
set_option maxRecDepth 8000

/-- A list, its first i turned. -/
def revP (l : List Int) (i : Nat) : List Int := l.reverse.take i ++ l.drop i
theorem revP_len {l : List Int} {i : Nat} (hi : i ≤ l.length) : (revP l i).length = l.length := by simp [revP]; omega
theorem revP_step {l : List Int} {i : Nat} (hi : i < l.length) : (revP l i).set i (l.getD (l.length - 1 - i) 0) = revP l (i + 1) := by
  have e1 : l.getD (l.length - 1 - i) 0 = l.reverse[i]'(by simpa using hi) := by
    rw [List.getD_eq_getElem?_getD, List.getElem?_eq_getElem (by omega), List.getElem_reverse]
    rfl
  unfold revP
  rw [e1, List.set_append_right _ _ (by simp; omega), List.take_succ_eq_append_getElem (by simpa using hi), List.append_assoc, List.drop_eq_getElem_cons hi]
  congr 1
  rw [show i - (l.reverse.take i).length = 0 by simp; omega]
  rfl
theorem revP_all (l : List Int) : revP l l.length = l.reverse := by
  unfold revP
  rw [List.take_of_length_le (by simp), List.drop_of_length_le (Nat.le_refl _), List.append_nil]
def backC (c : Con) : Con := { c with vars := c.vars.reverse, coefs := c.coefs.reverse }
def tailC (c : Con) : Con := ⟨5, c.vars.drop 1, c.coefs.drop 1, 0, 0, [], 0⟩
theorem zip_reverse {α β : Type} : ∀ {l : List α} {m : List β}, l.length = m.length → l.reverse.zip m.reverse = (l.zip m).reverse
  | [], [], _ => rfl
  | a :: l, b :: m, h => by
    have h : l.length = m.length := by simpa using h
    rw [List.reverse_cons, List.reverse_cons, List.zip_append (by simpa using h), zip_reverse h]
    simp
  | [], _ :: _, h => by simp at h
  | _ :: _, [], h => by simp at h
theorem clF_reverse (d : Doms) (l : List (Int × Int)) : clF d l.reverse = clF d l := by
  cases l with
  | nil => rfl
  | cons p l => cases l with
    | nil => rfl
    | cons q l =>
      have : 2 ≤ (p :: q :: l).reverse.length := by simp
      have e : clF d (p :: q :: l) = some d := rfl
      rw [e]
      generalize (p :: q :: l).reverse = m at *
      cases m with
      | nil => simp at this
      | cons a m => cases m with
        | nil => simp at this
        | cons b m => rfl
theorem turns_same {d : Doms} {c : Con} (h : ClOk d c) : clauseW d (backC c) = clauseW d c := by
  have hl := h.len
  rw [clauseW_eq hl, clauseW_eq (c := backC c) (by simp [backC, hl])]
  have e : (backC c).vars.zip (backC c).coefs = (c.vars.zip c.coefs).reverse := zip_reverse hl
  rw [e, List.filter_reverse, clF_reverse]
theorem sub_within {l m : Doms} (h : Sub l m) : withinR l m = true := by
  rw [withinR_iff]
  refine ⟨h.1, fun i x y hx hy => ?_⟩
  have hs := h.2 i x y hx hy
  have : (vals x).filter (fun v => decide (v ∈ vals y) == false) = [] := by
    rw [List.filter_eq_nil_iff]
    intro v hv
    simp [hs v hv]
  rw [pickR, this]; rfl
theorem keep_sub {d out : Doms} {b v : Int} (hb : b.toNat < d.length) (hf : ∀ x ∈ d, Fine x) (h : keepO d b v = some out) : Sub out d := by
  unfold keepO at h
  split at h
  · cases h
  · cases h
    refine sub_set fun y hy w hw => ?_
    rw [domAt_some hb] at hy
    cases hy
    exact (((domCut_ok (hf _ (domAt_mem hb)).ok v v).2 w).1 hw).1
theorem less_within {d : Doms} {c : Con} (h : ClOk d c) (hf : ∀ x ∈ d, Fine x) {n : Doms} (hn : clauseW d (tailC c) = some n) : ∃ l, clauseW d c = some l ∧ withinR n l = true := by
  have hl := h.len
  rw [clauseW_eq (c := tailC c) (by simp [tailC, hl])] at hn
  rw [clauseW_eq hl]
  by_cases hm : [] ∈ d
  · rw [if_pos hm] at hn; cases hn
  · rw [if_neg hm] at hn ⊢
    have e : (tailC c).vars.zip (tailC c).coefs = (c.vars.zip c.coefs).drop 1 := by
      simp [tailC, List.zip, List.drop_zipWith]
    rw [e] at hn
    have hin : ∀ p ∈ c.vars.zip c.coefs, p.1.toNat < d.length := fun p hp => (h.vin _ (List.of_mem_zip hp).1).2
    cases hz : c.vars.zip c.coefs with
    | nil => rw [hz] at hn; simp [clF] at hn
    | cons p l =>
      rw [hz] at hn hin
      simp only [List.drop_succ_cons, List.drop_zero] at hn
      by_cases hp : litB d p = true
      · rw [List.filter_cons_of_pos hp]
        cases hq : l.filter (litB d) with
        | nil => rw [hq] at hn; cases hn
        | cons q m =>
          have hqm : q ∈ l := (List.mem_filter.1 (hq ▸ List.Mem.head m : q ∈ l.filter (litB d))).1
          refine ⟨d, rfl, ?_⟩
          rw [hq] at hn
          cases m with
          | nil => exact sub_within (keep_sub (hin q (.tail _ hqm)) hf hn)
          | cons r m => cases hn; exact sub_within (Sub.refl d)
      · rw [List.filter_cons_of_neg (by simpa using hp)]
        exact ⟨n, hn, sub_within (Sub.refl n)⟩
theorem law_turns (o : Case) (ho : CaseB o) : Spec Try.prog 11 true [.agg (cCase o)] [.val (.bool true)] := by
  refine Spec.body Try.func11 rfl rfl rfl fun w0 Z0 => ?_
  have ho1 := truthCase_B ho
  have htr := (truths_spec o.d ho.2.1 ho.2.2).frz
  have hlaid := laid_spec (truthCase o) 5 ho1
  have hcb := laid_conB ho1 5
  have hf := laid_fine (truthCase o)
  have hlen := laid_len (truthCase o)
  have hin := fun h => clause_in (d := laidD (truthCase o)) (c := laidC (truthCase o) 5) hcb h rfl
  have hok : laidOK (truthCase o) 5 = decide (conR (laidD (truthCase o)) (laidC (truthCase o) 5) = 0) := rfl
  have hsmall := laid_small (truthCase o)
  generalize laidD (truthCase o) = d at *
  generalize laidC (truthCase o) 5 = c at *
  generalize laidOK (truthCase o) 5 = ok at *
  repeat' first | refine T.seq ?_ | refine T.block ?_ | refine T.r ?_ | refine J.e rfl rfl rfl rfl ?_ | refine J.nil ?_ | refine J.skip rfl rfl rfl ?_ | refine T.skip ?_ | refine T.exit ?_ | refine T.ret ?_ | refine T.rd rfl (by kernel_rfl) ?_ | refine J.bx rfl rfl rfl rfl rfl rfl ?_
  refine J.cc rfl rfl rfl rfl rfl htr rfl rfl ?_
  repeat' first | refine T.seq ?_ | refine T.block ?_ | refine T.r ?_ | refine J.e rfl rfl rfl rfl ?_ | refine J.nil ?_ | refine J.skip rfl rfl rfl ?_ | refine T.skip ?_ | refine T.exit ?_ | refine T.ret ?_ | refine T.rd rfl (by kernel_rfl) ?_ | refine J.bx rfl rfl rfl rfl rfl rfl ?_
  refine J.w rfl rfl rfl rfl rfl rfl rfl rfl rfl rfl ?_
  repeat' first | refine T.seq ?_ | refine T.block ?_ | refine T.r ?_ | refine J.e rfl rfl rfl rfl ?_ | refine J.nil ?_ | refine J.skip rfl rfl rfl ?_ | refine T.skip ?_ | refine T.exit ?_ | refine T.ret ?_ | refine T.rd rfl (by kernel_rfl) ?_ | refine J.bx rfl rfl rfl rfl rfl rfl ?_
  refine J.cc rfl rfl rfl rfl rfl hlaid rfl rfl ?_
  repeat' first | refine T.seq ?_ | refine T.block ?_ | refine T.r ?_ | refine J.e rfl rfl rfl rfl ?_ | refine J.nil ?_ | refine J.skip rfl rfl rfl ?_ | refine T.skip ?_ | refine T.exit ?_ | refine T.ret ?_ | refine T.rd rfl (by kernel_rfl) ?_ | refine J.bx rfl rfl rfl rfl rfl rfl ?_
  refine J.al rfl rfl rfl rfl rfl rfl rfl ?_
  repeat' first | refine T.seq ?_ | refine T.block ?_ | refine T.r ?_ | refine J.e rfl rfl rfl rfl ?_ | refine J.nil ?_ | refine J.skip rfl rfl rfl ?_ | refine T.skip ?_ | refine T.exit ?_ | refine T.ret ?_ | refine T.rd rfl (by kernel_rfl) ?_ | refine J.bx rfl rfl rfl rfl rfl rfl ?_
  refine J.w rfl rfl rfl rfl rfl rfl rfl rfl rfl rfl ?_
  repeat' first | refine T.seq ?_ | refine T.block ?_ | refine T.r ?_ | refine J.e rfl rfl rfl rfl ?_ | refine J.nil ?_ | refine J.skip rfl rfl rfl ?_ | refine T.skip ?_ | refine T.exit ?_ | refine T.ret ?_ | refine T.rd rfl (by kernel_rfl) ?_ | refine J.bx rfl rfl rfl rfl rfl rfl ?_
  cases ok
  · refine T.ct rfl ?_
    repeat' first | refine T.seq ?_ | refine T.block ?_ | refine T.r ?_ | refine J.e rfl rfl rfl rfl ?_ | refine J.nil ?_ | refine J.skip rfl rfl rfl ?_ | refine T.skip ?_ | refine T.exit ?_ | refine T.ret ?_ | refine T.rd rfl (by kernel_rfl) ?_ | refine J.bx rfl rfl rfl rfl rfl rfl ?_
    refine J.cc rfl rfl rfl rfl rfl gfixed_spec rfl rfl ?_
    repeat' first | refine T.seq ?_ | refine T.block ?_ | refine T.r ?_ | refine J.e rfl rfl rfl rfl ?_ | refine J.nil ?_ | refine J.skip rfl rfl rfl ?_ | refine T.skip ?_ | refine T.exit ?_ | refine T.ret ?_ | refine T.rd rfl (by kernel_rfl) ?_ | refine J.bx rfl rfl rfl rfl rfl rfl ?_
    exact ⟨_, .v rfl rfl rfl (fun h => by cases h) .nil⟩
  · refine T.cf rfl ?_
    have hcl := hin (by simpa using hok.symm)
    have hvl := hcl.vl
    have hlc := hcl.len
    repeat' first | refine T.seq ?_ | refine T.block ?_ | refine T.r ?_ | refine J.e rfl rfl rfl rfl ?_ | refine J.nil ?_ | refine J.skip rfl rfl rfl ?_ | refine T.skip ?_ | refine T.exit ?_ | refine T.ret ?_ | refine T.rd rfl (by kernel_rfl) ?_ | refine J.bx rfl rfl rfl rfl rfl rfl ?_
    refine J.co (qs := []) (cs2 := []) false [] [16, 17] rfl rfl rfl rfl rfl rfl (oown_spec c hcb) trivial rfl rfl rfl rfl rfl rfl rfl fun ns hns => ?_
    obtain ⟨n1, n2, rfl⟩ : ∃ n1 n2, ns = [n1, n2] := by
      cases ns with
      | nil => simp at hns
      | cons n1 ns => cases ns with
        | nil => simp at hns
        | cons n2 ns => cases ns with
          | nil => exact ⟨n1, n2, rfl⟩
          | cons n3 ns => simp at hns
    repeat' first | refine T.seq ?_ | refine T.block ?_ | refine T.r ?_ | refine J.e rfl rfl rfl rfl ?_ | refine J.nil ?_ | refine J.skip rfl rfl rfl ?_ | refine T.skip ?_ | refine T.exit ?_ | refine T.ret ?_ | refine T.rd rfl (by kernel_rfl) ?_ | refine J.bx rfl rfl rfl rfl rfl rfl ?_
    refine J.al rfl rfl rfl rfl rfl rfl rfl ?_
    refine J.w rfl rfl rfl rfl rfl rfl rfl rfl rfl rfl ?_
    repeat' first | refine T.seq ?_ | refine T.block ?_ | refine T.r ?_ | refine J.e rfl rfl rfl rfl ?_ | refine J.nil ?_ | refine J.skip rfl rfl rfl ?_ | refine T.skip ?_ | refine T.exit ?_ | refine T.ret ?_ | refine T.rd rfl (by kernel_rfl) ?_ | refine J.bx rfl rfl rfl rfl rfl rfl ?_
    refine T.canon (keep := [3, 4, 6, 7, 16, 17]) (os := [3, 4, 6, 16, 17]) rfl (T.ind (fun i : Nat => ⟨[(3, .ref 0), (4, .optr 1 0 0 0), (6, .optr 2 0 0 0), (7, .val true (.int .i64 i)), (16, .eq n1 3), (17, .eq n2 4)], [(0, some (.sl 38 1 false (d.map cD))), (1, some (.box false (cC c))), (2, some (.box false (cCr c n1 n2))), (3, some (.sl 3 1 false ((revP c.vars i).map cI))), (4, some (.sl 3 1 false ((revP c.coefs i).map cI)))], 5⟩) (fun i => i ≤ c.vars.length) (fun i => c.vars.length - i) 0 (by simp) (fun _ _ h => h) ?_)
    rintro i hi ih
    repeat' first | refine T.seq ?_ | refine T.block ?_ | refine T.r ?_ | refine J.e rfl rfl rfl rfl ?_ | refine J.nil ?_ | refine J.skip rfl rfl rfl ?_ | refine T.skip ?_ | refine T.exit ?_ | refine T.ret ?_ | refine T.rd rfl (by kernel_rfl) ?_ | refine J.bx rfl rfl rfl rfl rfl rfl ?_
    refine T.cd rfl (fun h1 => ?_) (fun h1 => ?_)
    · have h1 : i < c.vars.length := by simpa using h1
      have h2 : i < c.coefs.length := by omega
      have hm : IntKind.i64.wrap (IntKind.i64.wrap (((c.vars.map cI).length : Int) - 1) - (i : Int)) = ((c.vars.length - 1 - i : Nat) : Int) := by
        rw [List.length_map, wrap_id (n := (c.vars.length : Int) - 1) (by omega) (by omega), wrap_id (by omega) (by omega)]
        omega
      have hr1 : (c.vars.map cI)[((c.vars.length - 1 - i : Nat) : Int).toNat]? = some (cI (c.vars.getD (c.vars.length - 1 - i) 0)) := by
        simp [show c.vars.length - 1 - i < c.vars.length by omega]
      have hr2 : (c.coefs.map cI)[((c.vars.length - 1 - i : Nat) : Int).toNat]? = some (cI (c.coefs.getD (c.coefs.length - 1 - i) 0)) := by
        rw [hlc]
        simp [show c.coefs.length - 1 - i < c.coefs.length by omega]
      have hs1 := revP_step h1
      have hs2 := revP_step h2
      have hl1 := revP_len (l := c.vars) (i := i) (by omega)
      have hl2 := revP_len (l := c.coefs) (i := i) (by omega)
      have ih := ih (i + 1) (by omega) (by omega)
      rw [← hs1, ← hs2] at ih
      generalize revP c.vars i = V at *
      generalize revP c.coefs i = W at *
      generalize c.vars.getD (c.vars.length - 1 - i) 0 = x at *
      generalize c.coefs.getD (c.coefs.length - 1 - i) 0 = y at *
      repeat' first | refine T.seq ?_ | refine T.block ?_ | refine T.r ?_ | refine J.e rfl rfl rfl rfl ?_ | refine J.nil ?_ | refine J.skip rfl rfl rfl ?_ | refine T.skip ?_ | refine T.exit ?_ | refine T.ret ?_ | refine J.bx rfl rfl rfl rfl rfl rfl ?_
      refine T.rdm 13 rfl (by kernel_rfl) rfl ?_
      repeat' first | refine J.e rfl rfl rfl rfl ?_ | refine J.skip rfl rfl rfl ?_ | refine J.bx rfl rfl rfl rfl rfl rfl ?_
      rw [hm]
      refine J.i rfl rfl rfl rfl rfl rfl rfl rfl rfl (r := cI x) (by omega) hr1 rfl ?_
      repeat' first | refine J.e rfl rfl rfl rfl ?_ | refine J.skip rfl rfl rfl ?_ | refine J.bx rfl rfl rfl rfl rfl rfl ?_
      refine J.nil ?_
      refine J.sub (Rel.deraw (s := 38) (g := 16) rfl rfl) ?_
      refine J.io rfl rfl rfl rfl rfl rfl rfl rfl rfl (by omega) (by simp; omega) rfl ?_
      refine J.w1 rfl rfl rfl rfl rfl rfl rfl rfl rfl rfl rfl (fun _ => rfl) (by omega) ?_
      repeat' first | refine T.seq ?_ | refine T.block ?_ | refine T.r ?_ | refine J.e rfl rfl rfl rfl ?_ | refine J.nil ?_ | refine J.skip rfl rfl rfl ?_ | refine T.skip ?_ | refine T.exit ?_ | refine T.ret ?_ | refine J.bx rfl rfl rfl rfl rfl rfl ?_
      refine T.rdm 13 rfl (by kernel_rfl) rfl ?_
      repeat' first | refine J.e rfl rfl rfl rfl ?_ | refine J.skip rfl rfl rfl ?_ | refine J.bx rfl rfl rfl rfl rfl rfl ?_
      rw [hm]
      refine J.i rfl rfl rfl rfl rfl rfl rfl rfl rfl (r := cI y) (by omega) hr2 rfl ?_
      repeat' first | refine J.e rfl rfl rfl rfl ?_ | refine J.skip rfl rfl rfl ?_ | refine J.bx rfl rfl rfl rfl rfl rfl ?_
      refine J.nil ?_
      refine J.sub (Rel.deraw (s := 52) (g := 17) rfl rfl) ?_
      refine J.io rfl rfl rfl rfl rfl rfl rfl rfl rfl (by omega) (by simp; omega) rfl ?_
      refine J.w1 rfl rfl rfl rfl rfl rfl rfl rfl rfl rfl rfl (fun _ => rfl) (by omega) ?_
      repeat' first | refine T.seq ?_ | refine T.block ?_ | refine T.r ?_ | refine J.e rfl rfl rfl rfl ?_ | refine J.nil ?_ | refine J.skip rfl rfl rfl ?_ | refine T.skip ?_ | refine T.exit ?_ | refine T.ret ?_ | refine T.rd rfl (by kernel_rfl) ?_ | refine J.bx rfl rfl rfl rfl rfl rfl ?_
      rw [wrap1 (l := c.vars.length) (by omega) (by omega)]
      exact T.canon (keep := [3, 4, 6, 7, 16, 17]) (os := [3, 4, 6, 16, 17]) rfl ih
    · have h1 : i = c.vars.length := by simp at h1; omega
      subst h1
      clear ih
      have e1 : revP c.vars c.vars.length = c.vars.reverse := revP_all _
      have e2 : revP c.coefs c.vars.length = c.coefs.reverse := by rw [hlc]; exact revP_all _
      rw [e1, e2]
      have hdx : ∀ x ∈ d, (x.length + 1) * 16 ≤ 140737488355328 := fun x hx => by have := hsmall x hx; omega
      have hce := (lclause_spec d c (clin_in hcl (by omega) hdx)).frz
      have hcb2 := (lclause_spec d (backC c) ⟨by simp [backC, hlc], by simpa [backC] using hvl, fun v hv => hcl.vin v (by simpa [backC] using hv), by omega, hdx⟩).frz
      rw [turns_same hcl] at hcb2
      have hct := (lclause_spec d (tailC c) ⟨by simp [tailC, hlc], by simp [tailC]; omega, fun v hv => hcl.vin v (List.mem_of_mem_drop hv), by omega, hdx⟩).frz
      have hdb : ∀ out, clauseW d c = some out → out.length ≤ 4 ∧ ∀ x ∈ out, DomB x := fun out ho => by
        obtain ⟨h1, _, h3⟩ := clauseW_some hcl ho hf
        exact ⟨by omega, fun x hx => (h3 x hx).domB⟩
      have hRl : ((clauseW d c).getD []).length ≤ 4 ∧ ∀ x ∈ (clauseW d c).getD [], DomB x := by
        cases h : clauseW d c with
        | none => exact ⟨by simp, by simp⟩
        | some out => exact hdb out h
      have hsr := sames_spec ((clauseW d c).getD []) ((clauseW d c).getD []) (by omega) (fun x hx => by have := (hRl.2 x hx).2.2; omega)
      rw [decide_eq_true rfl] at hsr
      have hless := fun n hn => less_within (d := d) (c := c) hcl hf (n := n) hn
      have hnb : ∀ n, clauseW d (tailC c) = some n → n.length ≤ 4 ∧ ∀ x ∈ n, DomB x := by
        intro n hn
        rw [clauseW_eq (c := tailC c) (by simp [tailC, hlc])] at hn
        split at hn
        · cases hn
        · rename_i hm
          obtain ⟨h1, _, h3⟩ := clF_some hn hm (fun p hp => (hcl.vin _ (List.mem_of_mem_drop (List.of_mem_zip (List.mem_filter.1 hp).1).1)).2) hf
          exact ⟨by omega, fun x hx => (h3 x hx).domB⟩
      have hwt : ∀ n l, clauseW d (tailC c) = some n → clauseW d c = some l → Spec Try.prog 41 false [doms n, doms l] [.val (.bool (withinR n l))] := fun n l hn hl => within_spec n l (by have := (hnb n hn).1; omega) (hnb n hn).2 (hdb l hl).2
      generalize clauseW d (tailC c) = N at *
      generalize clauseW d c = R at *
      refine T.sub (Rel.melt 16 1 (ob := 2) (q := 3) (fun _ h => h) rfl rfl rfl rfl rfl) ?_
      refine T.sub (Rel.melt 17 2 (ob := 2) (q := 4) (fun _ h => h) rfl rfl rfl rfl rfl) ?_
      refine T.canon (keep := [3, 4, 6]) (os := [3, 4, 6]) rfl (?_ : T _ _ ⟨[(3, .ref 0), (4, .optr 1 0 0 0), (6, .optr 2 0 0 0)], [(0, some (.sl 38 1 false (d.map cD))), (1, some (.box false (cC c))), (2, some (.box false (cC (backC c))))], 3⟩ _)
      cases R with
      | none =>
        have hce : Spec Try.prog 34 false [doms d, .agg (cC c)] [.val (doms []), .val (.bool false)] := hce
        have hcb2 : Spec Try.prog 34 false [doms d, .agg (cC (backC c))] [.val (doms []), .val (.bool false)] := hcb2
        cases N with
        | some n =>
          obtain ⟨l, hl, _⟩ := hless n rfl
          cases hl
        | none =>
          have hct : Spec Try.prog 34 false [doms d, .agg (cC (tailC c))] [.val (doms []), .val (.bool false)] := hct
          repeat' first | refine T.seq ?_ | refine T.block ?_ | refine T.r ?_ | refine J.e rfl rfl rfl rfl ?_ | refine J.nil ?_ | refine J.skip rfl rfl rfl ?_ | refine T.skip ?_ | refine T.exit ?_ | refine T.ret ?_ | refine T.rd rfl (by kernel_rfl) ?_ | refine J.bx rfl rfl rfl rfl rfl rfl ?_
          refine J.cc rfl rfl rfl rfl rfl hce rfl rfl ?_
          repeat' first | refine T.seq ?_ | refine T.block ?_ | refine T.r ?_ | refine J.e rfl rfl rfl rfl ?_ | refine J.nil ?_ | refine J.skip rfl rfl rfl ?_ | refine T.skip ?_ | refine T.exit ?_ | refine T.ret ?_ | refine T.rd rfl (by kernel_rfl) ?_ | refine J.bx rfl rfl rfl rfl rfl rfl ?_
          refine J.cc rfl rfl rfl rfl rfl hcb2 rfl rfl ?_
          repeat' first | refine T.seq ?_ | refine T.block ?_ | refine T.r ?_ | refine J.e rfl rfl rfl rfl ?_ | refine J.nil ?_ | refine J.skip rfl rfl rfl ?_ | refine T.skip ?_ | refine T.exit ?_ | refine T.ret ?_ | refine T.rd rfl (by kernel_rfl) ?_ | refine J.bx rfl rfl rfl rfl rfl rfl ?_
          refine J.cc rfl rfl rfl rfl rfl hsr rfl rfl ?_
          repeat' first | refine T.seq ?_ | refine T.block ?_ | refine T.r ?_ | refine J.e rfl rfl rfl rfl ?_ | refine J.nil ?_ | refine J.skip rfl rfl rfl ?_ | refine T.skip ?_ | refine T.exit ?_ | refine T.ret ?_ | refine T.rd rfl (by kernel_rfl) ?_ | refine J.bx rfl rfl rfl rfl rfl rfl ?_
          refine T.cf rfl ?_
          repeat' first | refine T.seq ?_ | refine T.block ?_ | refine T.r ?_ | refine J.e rfl rfl rfl rfl ?_ | refine J.nil ?_ | refine J.skip rfl rfl rfl ?_ | refine T.skip ?_ | refine T.exit ?_ | refine T.ret ?_ | refine T.rd rfl (by kernel_rfl) ?_ | refine J.bx rfl rfl rfl rfl rfl rfl ?_
          refine T.cd rfl (fun h2 => ?_) (fun h2 => ?_)
          · repeat' first | refine T.seq ?_ | refine T.block ?_ | refine T.r ?_ | refine J.e rfl rfl rfl rfl ?_ | refine J.nil ?_ | refine J.skip rfl rfl rfl ?_ | refine T.skip ?_ | refine T.exit ?_ | refine T.ret ?_ | refine T.rd rfl (by kernel_rfl) ?_ | refine J.bx rfl rfl rfl rfl rfl rfl ?_
            refine J.cc rfl rfl rfl rfl rfl gfixed_spec rfl rfl ?_
            repeat' first | refine T.seq ?_ | refine T.block ?_ | refine T.r ?_ | refine J.e rfl rfl rfl rfl ?_ | refine J.nil ?_ | refine J.skip rfl rfl rfl ?_ | refine T.skip ?_ | refine T.exit ?_ | refine T.ret ?_ | refine T.rd rfl (by kernel_rfl) ?_ | refine J.bx rfl rfl rfl rfl rfl rfl ?_
            exact ⟨_, .v rfl rfl rfl (fun h => by cases h) .nil⟩
          · have h2 : 1 ≤ c.vars.length := by
              have h2 : ¬ ((c.vars.map cI).length : Int) < 2 := h2
              simp only [List.length_map] at h2; omega
            repeat' first | refine T.seq ?_ | refine T.block ?_ | refine T.r ?_ | refine J.e rfl rfl rfl rfl ?_ | refine J.nil ?_ | refine J.skip rfl rfl rfl ?_ | refine T.skip ?_ | refine T.exit ?_ | refine T.ret ?_ | refine J.bx rfl rfl rfl rfl rfl rfl ?_
            refine T.rdm 8 rfl (by kernel_rfl) rfl ?_
            repeat' first | refine J.e rfl rfl rfl rfl ?_ | refine J.skip rfl rfl rfl ?_ | refine J.bx rfl rfl rfl rfl rfl rfl ?_
            refine J.s3 (enc := cI) 1 rfl rfl rfl rfl rfl rfl rfl rfl rfl (fun _ => rfl) rfl h2 ?_
            repeat' first | refine J.e rfl rfl rfl rfl ?_ | refine J.skip rfl rfl rfl ?_ | refine J.bx rfl rfl rfl rfl rfl rfl ?_
            refine J.s3 (enc := cI) 1 rfl rfl rfl rfl rfl rfl rfl rfl rfl (fun _ => rfl) rfl (by omega) ?_
            repeat' first | refine J.e rfl rfl rfl rfl ?_ | refine J.skip rfl rfl rfl ?_ | refine J.bx rfl rfl rfl rfl rfl rfl ?_
            refine J.al rfl rfl rfl rfl rfl rfl rfl ?_
            refine J.nil ?_
            refine J.w rfl rfl rfl rfl rfl rfl rfl rfl rfl rfl ?_
            repeat' first | refine T.seq ?_ | refine T.block ?_ | refine T.r ?_ | refine J.e rfl rfl rfl rfl ?_ | refine J.nil ?_ | refine J.skip rfl rfl rfl ?_ | refine T.skip ?_ | refine T.exit ?_ | refine T.ret ?_ | refine T.rd rfl (by kernel_rfl) ?_ | refine J.bx rfl rfl rfl rfl rfl rfl ?_
            refine J.cc rfl rfl rfl rfl rfl hct rfl rfl ?_
            repeat' first | refine T.seq ?_ | refine T.block ?_ | refine T.r ?_ | refine J.e rfl rfl rfl rfl ?_ | refine J.nil ?_ | refine J.skip rfl rfl rfl ?_ | refine T.skip ?_ | refine T.exit ?_ | refine T.ret ?_ | refine T.rd rfl (by kernel_rfl) ?_ | refine J.bx rfl rfl rfl rfl rfl rfl ?_
            refine J.cc rfl rfl rfl rfl rfl gfixed_spec rfl rfl ?_
            repeat' first | refine T.seq ?_ | refine T.block ?_ | refine T.r ?_ | refine J.e rfl rfl rfl rfl ?_ | refine J.nil ?_ | refine J.skip rfl rfl rfl ?_ | refine T.skip ?_ | refine T.exit ?_ | refine T.ret ?_ | refine T.rd rfl (by kernel_rfl) ?_ | refine J.bx rfl rfl rfl rfl rfl rfl ?_
            exact ⟨_, .v rfl rfl rfl (fun h => by cases h) .nil⟩
      | some l =>
        have hce : Spec Try.prog 34 false [doms d, .agg (cC c)] [.val (doms l), .val (.bool true)] := hce
        have hcb2 : Spec Try.prog 34 false [doms d, .agg (cC (backC c))] [.val (doms l), .val (.bool true)] := hcb2
        cases N with
        | none =>
          have hct : Spec Try.prog 34 false [doms d, .agg (cC (tailC c))] [.val (doms []), .val (.bool false)] := hct
          repeat' first | refine T.seq ?_ | refine T.block ?_ | refine T.r ?_ | refine J.e rfl rfl rfl rfl ?_ | refine J.nil ?_ | refine J.skip rfl rfl rfl ?_ | refine T.skip ?_ | refine T.exit ?_ | refine T.ret ?_ | refine T.rd rfl (by kernel_rfl) ?_ | refine J.bx rfl rfl rfl rfl rfl rfl ?_
          refine J.cc rfl rfl rfl rfl rfl hce rfl rfl ?_
          repeat' first | refine T.seq ?_ | refine T.block ?_ | refine T.r ?_ | refine J.e rfl rfl rfl rfl ?_ | refine J.nil ?_ | refine J.skip rfl rfl rfl ?_ | refine T.skip ?_ | refine T.exit ?_ | refine T.ret ?_ | refine T.rd rfl (by kernel_rfl) ?_ | refine J.bx rfl rfl rfl rfl rfl rfl ?_
          refine J.cc rfl rfl rfl rfl rfl hcb2 rfl rfl ?_
          repeat' first | refine T.seq ?_ | refine T.block ?_ | refine T.r ?_ | refine J.e rfl rfl rfl rfl ?_ | refine J.nil ?_ | refine J.skip rfl rfl rfl ?_ | refine T.skip ?_ | refine T.exit ?_ | refine T.ret ?_ | refine T.rd rfl (by kernel_rfl) ?_ | refine J.bx rfl rfl rfl rfl rfl rfl ?_
          refine J.cc rfl rfl rfl rfl rfl hsr rfl rfl ?_
          repeat' first | refine T.seq ?_ | refine T.block ?_ | refine T.r ?_ | refine J.e rfl rfl rfl rfl ?_ | refine J.nil ?_ | refine J.skip rfl rfl rfl ?_ | refine T.skip ?_ | refine T.exit ?_ | refine T.ret ?_ | refine T.rd rfl (by kernel_rfl) ?_ | refine J.bx rfl rfl rfl rfl rfl rfl ?_
          refine T.cf rfl ?_
          repeat' first | refine T.seq ?_ | refine T.block ?_ | refine T.r ?_ | refine J.e rfl rfl rfl rfl ?_ | refine J.nil ?_ | refine J.skip rfl rfl rfl ?_ | refine T.skip ?_ | refine T.exit ?_ | refine T.ret ?_ | refine T.rd rfl (by kernel_rfl) ?_ | refine J.bx rfl rfl rfl rfl rfl rfl ?_
          refine T.cd rfl (fun h2 => ?_) (fun h2 => ?_)
          · repeat' first | refine T.seq ?_ | refine T.block ?_ | refine T.r ?_ | refine J.e rfl rfl rfl rfl ?_ | refine J.nil ?_ | refine J.skip rfl rfl rfl ?_ | refine T.skip ?_ | refine T.exit ?_ | refine T.ret ?_ | refine T.rd rfl (by kernel_rfl) ?_ | refine J.bx rfl rfl rfl rfl rfl rfl ?_
            refine J.cc rfl rfl rfl rfl rfl gfixed_spec rfl rfl ?_
            repeat' first | refine T.seq ?_ | refine T.block ?_ | refine T.r ?_ | refine J.e rfl rfl rfl rfl ?_ | refine J.nil ?_ | refine J.skip rfl rfl rfl ?_ | refine T.skip ?_ | refine T.exit ?_ | refine T.ret ?_ | refine T.rd rfl (by kernel_rfl) ?_ | refine J.bx rfl rfl rfl rfl rfl rfl ?_
            exact ⟨_, .v rfl rfl rfl (fun h => by cases h) .nil⟩
          · have h2 : 1 ≤ c.vars.length := by
              have h2 : ¬ ((c.vars.map cI).length : Int) < 2 := h2
              simp only [List.length_map] at h2; omega
            repeat' first | refine T.seq ?_ | refine T.block ?_ | refine T.r ?_ | refine J.e rfl rfl rfl rfl ?_ | refine J.nil ?_ | refine J.skip rfl rfl rfl ?_ | refine T.skip ?_ | refine T.exit ?_ | refine T.ret ?_ | refine J.bx rfl rfl rfl rfl rfl rfl ?_
            refine T.rdm 8 rfl (by kernel_rfl) rfl ?_
            repeat' first | refine J.e rfl rfl rfl rfl ?_ | refine J.skip rfl rfl rfl ?_ | refine J.bx rfl rfl rfl rfl rfl rfl ?_
            refine J.s3 (enc := cI) 1 rfl rfl rfl rfl rfl rfl rfl rfl rfl (fun _ => rfl) rfl h2 ?_
            repeat' first | refine J.e rfl rfl rfl rfl ?_ | refine J.skip rfl rfl rfl ?_ | refine J.bx rfl rfl rfl rfl rfl rfl ?_
            refine J.s3 (enc := cI) 1 rfl rfl rfl rfl rfl rfl rfl rfl rfl (fun _ => rfl) rfl (by omega) ?_
            repeat' first | refine J.e rfl rfl rfl rfl ?_ | refine J.skip rfl rfl rfl ?_ | refine J.bx rfl rfl rfl rfl rfl rfl ?_
            refine J.al rfl rfl rfl rfl rfl rfl rfl ?_
            refine J.nil ?_
            refine J.w rfl rfl rfl rfl rfl rfl rfl rfl rfl rfl ?_
            repeat' first | refine T.seq ?_ | refine T.block ?_ | refine T.r ?_ | refine J.e rfl rfl rfl rfl ?_ | refine J.nil ?_ | refine J.skip rfl rfl rfl ?_ | refine T.skip ?_ | refine T.exit ?_ | refine T.ret ?_ | refine T.rd rfl (by kernel_rfl) ?_ | refine J.bx rfl rfl rfl rfl rfl rfl ?_
            refine J.cc rfl rfl rfl rfl rfl hct rfl rfl ?_
            repeat' first | refine T.seq ?_ | refine T.block ?_ | refine T.r ?_ | refine J.e rfl rfl rfl rfl ?_ | refine J.nil ?_ | refine J.skip rfl rfl rfl ?_ | refine T.skip ?_ | refine T.exit ?_ | refine T.ret ?_ | refine T.rd rfl (by kernel_rfl) ?_ | refine J.bx rfl rfl rfl rfl rfl rfl ?_
            refine J.cc rfl rfl rfl rfl rfl gfixed_spec rfl rfl ?_
            repeat' first | refine T.seq ?_ | refine T.block ?_ | refine T.r ?_ | refine J.e rfl rfl rfl rfl ?_ | refine J.nil ?_ | refine J.skip rfl rfl rfl ?_ | refine T.skip ?_ | refine T.exit ?_ | refine T.ret ?_ | refine T.rd rfl (by kernel_rfl) ?_ | refine J.bx rfl rfl rfl rfl rfl rfl ?_
            exact ⟨_, .v rfl rfl rfl (fun h => by cases h) .nil⟩
        | some n =>
          have hct : Spec Try.prog 34 false [doms d, .agg (cC (tailC c))] [.val (doms n), .val (.bool true)] := hct
          have hwi := hwt n l rfl rfl
          obtain ⟨l', hl, hw⟩ := hless n rfl
          cases hl
          rw [hw] at hwi
          repeat' first | refine T.seq ?_ | refine T.block ?_ | refine T.r ?_ | refine J.e rfl rfl rfl rfl ?_ | refine J.nil ?_ | refine J.skip rfl rfl rfl ?_ | refine T.skip ?_ | refine T.exit ?_ | refine T.ret ?_ | refine T.rd rfl (by kernel_rfl) ?_ | refine J.bx rfl rfl rfl rfl rfl rfl ?_
          refine J.cc rfl rfl rfl rfl rfl hce rfl rfl ?_
          repeat' first | refine T.seq ?_ | refine T.block ?_ | refine T.r ?_ | refine J.e rfl rfl rfl rfl ?_ | refine J.nil ?_ | refine J.skip rfl rfl rfl ?_ | refine T.skip ?_ | refine T.exit ?_ | refine T.ret ?_ | refine T.rd rfl (by kernel_rfl) ?_ | refine J.bx rfl rfl rfl rfl rfl rfl ?_
          refine J.cc rfl rfl rfl rfl rfl hcb2 rfl rfl ?_
          repeat' first | refine T.seq ?_ | refine T.block ?_ | refine T.r ?_ | refine J.e rfl rfl rfl rfl ?_ | refine J.nil ?_ | refine J.skip rfl rfl rfl ?_ | refine T.skip ?_ | refine T.exit ?_ | refine T.ret ?_ | refine T.rd rfl (by kernel_rfl) ?_ | refine J.bx rfl rfl rfl rfl rfl rfl ?_
          refine J.cc rfl rfl rfl rfl rfl hsr rfl rfl ?_
          repeat' first | refine T.seq ?_ | refine T.block ?_ | refine T.r ?_ | refine J.e rfl rfl rfl rfl ?_ | refine J.nil ?_ | refine J.skip rfl rfl rfl ?_ | refine T.skip ?_ | refine T.exit ?_ | refine T.ret ?_ | refine T.rd rfl (by kernel_rfl) ?_ | refine J.bx rfl rfl rfl rfl rfl rfl ?_
          refine T.cf rfl ?_
          repeat' first | refine T.seq ?_ | refine T.block ?_ | refine T.r ?_ | refine J.e rfl rfl rfl rfl ?_ | refine J.nil ?_ | refine J.skip rfl rfl rfl ?_ | refine T.skip ?_ | refine T.exit ?_ | refine T.ret ?_ | refine T.rd rfl (by kernel_rfl) ?_ | refine J.bx rfl rfl rfl rfl rfl rfl ?_
          refine T.cd rfl (fun h2 => ?_) (fun h2 => ?_)
          · repeat' first | refine T.seq ?_ | refine T.block ?_ | refine T.r ?_ | refine J.e rfl rfl rfl rfl ?_ | refine J.nil ?_ | refine J.skip rfl rfl rfl ?_ | refine T.skip ?_ | refine T.exit ?_ | refine T.ret ?_ | refine T.rd rfl (by kernel_rfl) ?_ | refine J.bx rfl rfl rfl rfl rfl rfl ?_
            refine J.cc rfl rfl rfl rfl rfl gfixed_spec rfl rfl ?_
            repeat' first | refine T.seq ?_ | refine T.block ?_ | refine T.r ?_ | refine J.e rfl rfl rfl rfl ?_ | refine J.nil ?_ | refine J.skip rfl rfl rfl ?_ | refine T.skip ?_ | refine T.exit ?_ | refine T.ret ?_ | refine T.rd rfl (by kernel_rfl) ?_ | refine J.bx rfl rfl rfl rfl rfl rfl ?_
            exact ⟨_, .v rfl rfl rfl (fun h => by cases h) .nil⟩
          · have h2 : 1 ≤ c.vars.length := by
              have h2 : ¬ ((c.vars.map cI).length : Int) < 2 := h2
              simp only [List.length_map] at h2; omega
            repeat' first | refine T.seq ?_ | refine T.block ?_ | refine T.r ?_ | refine J.e rfl rfl rfl rfl ?_ | refine J.nil ?_ | refine J.skip rfl rfl rfl ?_ | refine T.skip ?_ | refine T.exit ?_ | refine T.ret ?_ | refine J.bx rfl rfl rfl rfl rfl rfl ?_
            refine T.rdm 8 rfl (by kernel_rfl) rfl ?_
            repeat' first | refine J.e rfl rfl rfl rfl ?_ | refine J.skip rfl rfl rfl ?_ | refine J.bx rfl rfl rfl rfl rfl rfl ?_
            refine J.s3 (enc := cI) 1 rfl rfl rfl rfl rfl rfl rfl rfl rfl (fun _ => rfl) rfl h2 ?_
            repeat' first | refine J.e rfl rfl rfl rfl ?_ | refine J.skip rfl rfl rfl ?_ | refine J.bx rfl rfl rfl rfl rfl rfl ?_
            refine J.s3 (enc := cI) 1 rfl rfl rfl rfl rfl rfl rfl rfl rfl (fun _ => rfl) rfl (by omega) ?_
            repeat' first | refine J.e rfl rfl rfl rfl ?_ | refine J.skip rfl rfl rfl ?_ | refine J.bx rfl rfl rfl rfl rfl rfl ?_
            refine J.al rfl rfl rfl rfl rfl rfl rfl ?_
            refine J.nil ?_
            refine J.w rfl rfl rfl rfl rfl rfl rfl rfl rfl rfl ?_
            repeat' first | refine T.seq ?_ | refine T.block ?_ | refine T.r ?_ | refine J.e rfl rfl rfl rfl ?_ | refine J.nil ?_ | refine J.skip rfl rfl rfl ?_ | refine T.skip ?_ | refine T.exit ?_ | refine T.ret ?_ | refine T.rd rfl (by kernel_rfl) ?_ | refine J.bx rfl rfl rfl rfl rfl rfl ?_
            refine J.cc rfl rfl rfl rfl rfl hct rfl rfl ?_
            repeat' first | refine T.seq ?_ | refine T.block ?_ | refine T.r ?_ | refine J.e rfl rfl rfl rfl ?_ | refine J.nil ?_ | refine J.skip rfl rfl rfl ?_ | refine T.skip ?_ | refine T.exit ?_ | refine T.ret ?_ | refine T.rd rfl (by kernel_rfl) ?_ | refine J.bx rfl rfl rfl rfl rfl rfl ?_
            refine J.cc rfl rfl rfl rfl rfl hwi rfl rfl ?_
            repeat' first | refine T.seq ?_ | refine T.block ?_ | refine T.r ?_ | refine J.e rfl rfl rfl rfl ?_ | refine J.nil ?_ | refine J.skip rfl rfl rfl ?_ | refine T.skip ?_ | refine T.exit ?_ | refine T.ret ?_ | refine T.rd rfl (by kernel_rfl) ?_ | refine J.bx rfl rfl rfl rfl rfl rfl ?_
            refine J.cc rfl rfl rfl rfl rfl gfixed_spec rfl rfl ?_
            repeat' first | refine T.seq ?_ | refine T.block ?_ | refine T.r ?_ | refine J.e rfl rfl rfl rfl ?_ | refine J.nil ?_ | refine J.skip rfl rfl rfl ?_ | refine T.skip ?_ | refine T.exit ?_ | refine T.ret ?_ | refine T.rd rfl (by kernel_rfl) ?_ | refine J.bx rfl rfl rfl rfl rfl rfl ?_
            exact ⟨_, .v rfl rfl rfl (fun h => by cases h) .nil⟩
end Go.Proofs.Ytchajofdjeijfaa
/-! The row of LogicTurns. -/
namespace Go.Proofs.Ytchajofdjeijfaa.logicTurns
open Go.ChangeShapes Go.WideShapes Go.ChangeAt Go.RowKit
set_option linter.unusedVariables false
theorem own : ownKnob Try.prog.godebug = none := by kernel_rfl
theorem laidOut : laidOutB Try.prog = true := by kernel_rfl
set_option maxRecDepth 100000 in
theorem lifted (os : Os) (started : os.Started) (H : Type) (enc : TypeId × Value → H) :
    ReturnsInHanded {} Try.checked os 11 .any (Rows.logicTurnsSpec.pre6 enc Try.prog Try.f11 Rows.logicTurnsRow.domain false) (Rows.logicTurnsSpec.post enc Try.prog Try.f11 false true false false) := by
  refine returnsInHanded_of_change_sized (C := Try.checked) own started (by kernel_rfl) Try.func11
    (ChangeSpec.witness6 (enc := enc) (C := Try.checked) false ⟨#[], #[.agg #[.slice none 0 0, .int .i64 0, .slice none 0 0, .slice none 0 0, .int .i64 0, .int .i64 0, .slice none 0 0, .int .i64 0, .slice none 0 0, .slice none 0 0]], []⟩ 8 (by kernel_rfl) (by kernel_rfl) (by kernel_rfl) (by kernel_rfl)) ?_
  intro W base args ds gs before hval0 hW hcnd hsz0 _
  have hsz : (DataW.weightsEach Try.prog (Try.f11.params.toList ++ Rows.logicTurnsSpec.plain.varTypes Try.prog) (ds ++ gs)).all (· ≤ reachBytes) = true := hsz0
  have hval : ∀ (j : Nat) t v, Try.f11.params[j]? = some t → args[j]? = some v → Value.okWide Try.prog W .any base t v := hval0
  have hW' := hW
  obtain ⟨p, q, hA0, hV, rfl, hfz, hnd⟩ := hW
  have hA : DataW.TrodAll enc Try.prog W 0 (fun _ => true) true Try.f11.params.toList args.toList ds p := hA0
  rw [Try.params11] at hA hval hsz
  obtain ⟨v0, vs0, d0, ds0, p0, q0, hargs, rfl, rfl, h0, r0⟩ := trodAll_cons hA
  obtain ⟨rfl, rfl, rfl⟩ := trodAll_nil r0
  obtain rfl : args = #[v0] := by cases args; simp_all
  obtain ⟨rfl, rfl⟩ := trodVars_none hV
  have hv0 := hval 0 53 v0 rfl rfl
  obtain ⟨cs0, rfl, _, _⟩ : ∃ cs, v0 = .agg cs ∧ cs.size = Try.prog.cellsOf 53 ∧ Row.okWide Try.prog W .any base 53 cs := by
    unfold Value.okWide at hv0
    rw [Try.underlying53] at hv0
    exact hv0
  have k0 := h0
  have lt0 : ∀ x ∈ p0, x.block < W.heap.size := by obtain ⟨m, hm⟩ := k0; exact DataW.trod_lt m _ _ _ hm
  obtain ⟨fuel0, hf0⟩ := h0
  have hw : (DataW.weightsEach Try.prog (53 :: Rows.logicTurnsSpec.plain.varTypes Try.prog) (d0 :: [])).all (· ≤ reachBytes) = true := hsz
  rw [DataW.weightsEach, List.all_append, Bool.and_eq_true] at hw
  obtain ⟨hw0, hw⟩ := hw
  obtain ⟨o, hrep0, ho⟩ := opens_case fuel0 _ (d0, p0) hf0 hw0 (nf hfz fun p hp => by simp [hp])
  clear hA0 hval0 hsz0 hsz hw
  have hcs0 : (Value.agg cs0).cells.toList = cs0.toList := rfl
  rw [hcs0] at hrep0
  have harg0 : Rep W (fun _ => True) (.agg cs0) (.agg (cCase o)) := by
    have := Rep.agg (w := W) (Z := fun _ => True) cs0.toList (cCase o) hrep0 (case_one o)
    simpa using this
  refine ((law_turns o ho).out W (fun _ => True) [.agg cs0] (.cons harg0 .nil)).mono fun e W' ⟨rs, he, bel, hret⟩ => ?_
  have hrs : rs = [.bool true] := by
    have h := hret.each
    cases h with
    | cons h1 h2 => cases h2; cases h1; rfl
  subst hrs
  subst he
  exact ⟨_, rfl, _, _, _, [], _, [], hW', trodAll_mk1 (shut_bool Try.underlying4 _), trodAll_cons_mk (Below.trod laidOut (by kernel_rfl) (of_decide_eq_true (by kernel_rfl)) k0 bel lt0) trodAll_mk0, rfl, bel.frame _, fun h => by cases h⟩
theorem over : Rows.logicTurnsRow.holds Try.pinned (OpenSpec.ofChange Rows.logicTurnsSpec) :=
  OpenClaim.holds_of_wide 11 Try.f11 rfl rfl rfl rfl rfl rfl rfl ⟨rfl, rfl, rfl, rfl, rfl⟩ rfl rfl rfl rfl rfl (by kernel_rfl) Try.func11 (by kernel_rfl)
    (of_decide_eq_true (by kernel_rfl)) (by unfold Func.isWrapper; first | (rw [if_pos (by decide +kernel)]; kernel_rfl) | (rw [if_neg (by decide +kernel)]; exact ⟨rfl, rfl⟩))
    (fun os started H enc _ => lifted os started H enc)
theorem proved : Rows.LogicTurnsSaid := over
#print axioms proved
end Go.Proofs.Ytchajofdjeijfaa.logicTurns
namespace Go.Proofs.Ytchajofdjeijfaa
/-- The row, under a short name, for the claim. -/
theorem logicTurns_holds : Rows.LogicTurnsSaid := logicTurns.proved
end Go.Proofs.Ytchajofdjeijfaa
