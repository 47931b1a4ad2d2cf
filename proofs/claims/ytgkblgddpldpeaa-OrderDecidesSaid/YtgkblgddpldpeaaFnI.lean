/- Contracts: two lists in order, pruned: the program's, the document's. -/
import Derived.Test.YtgkblgddpldpeaaFnH
namespace Go.Proofs.Ytgkblgddpldpeaa
open Go Go.RowKit
set_option linter.unusedVariables false
set_option maxRecDepth 4000

abbrev Doms := List (List (Int × Int))
/-- A step again and again, till it tells. -/
def iter {α β : Type} (step : α → β ⊕ α) : Nat → α → Option β
  | 0, _ => none
  | n + 1, x => match step x with
    | .inl b => some b
    | .inr y => iter step n y
theorem iter_inl {α β : Type} {step : α → β ⊕ α} {n : Nat} {x : α} {b r : β} (h : iter step n x = some r) (e : step x = .inl b) : b = r := by
  cases n with
  | zero => cases h
  | succ n => simp only [iter, e, Option.some.injEq] at h; exact h
theorem iter_inr {α β : Type} {step : α → β ⊕ α} {n : Nat} {x y : α} {r : β} (h : iter step n x = some r) (e : step x = .inr y) : ∃ m, m < n ∧ iter step m y = some r := by
  cases n with
  | zero => cases h
  | succ n => simp only [iter, e] at h; exact ⟨n, Nat.lt_succ_self n, h⟩

def stepO (c : Con) (out : Doms) : Option Doms ⊕ Doms :=
  if placeO out c = halfOf c then .inl (some out) else
  let a := varAt c (placeO out c)
  let b := varAt c (halfOf c + placeO out c)
  let x := domCut (domAt out a) (-1048576) (lastR (domAt out b))
  let y := domCut (domAt out b) (leastR (domAt out a)) 1048576
  if x = [] ∨ y = [] then .inl none else
  if x = domAt out a ∧ y = domAt out b then .inl (some out) else .inr ((out.set a.toNat x).set b.toNat y)
def stepR (c : Con) (out : Doms) : Option Doms ⊕ Doms :=
  if placeR out c = halfOf c then .inl (some out) else
  let a := varAt c (placeR out c)
  let b := varAt c (halfOf c + placeR out c)
  let low := (endsR (domAt out a)).1
  let high := (endsR (domAt out b)).2.1
  let next := (out.set a.toNat (cutR (domAt out a) low high)).set b.toNat (cutR (domAt out b) low (max low 1048576))
  if [] ∈ next then .inl none else
  if next = out then .inl (some out) else .inr next
def pruneRes (R : Option Doms) : List RV := [.own 37 1 ((R.getD []).map cD), .val (.bool R.isSome)]

theorem meet1_length (r : Int × Int) : ∀ a, (meetR a [r]).length ≤ a.length
  | [] => by simp [meetR_l]
  | x :: xs => by
    have := meet1_length r xs
    rw [meetR_cons]
    simp only [List.length_append, List.length_cons]
    have h2 : (meetR (x :: xs) []).length = 0 := by simp [meetR_r]
    split <;> split <;> simp only [List.length_cons, List.length_nil] <;> omega
theorem domCut_length (d : List (Int × Int)) (lo hi : Int) : (domCut d lo hi).length ≤ d.length := by
  unfold domCut; split
  · simp
  · exact meet1_length _ _

theorem placeF_le (p : Nat → Bool) (h : Nat) : placeF p h ≤ h := by
  unfold placeF
  cases hf : (List.range h).find? (fun k => !p k) with
  | none => simp
  | some k =>
    have := List.mem_range.1 (List.mem_of_find?_eq_some hf)
    simp; omega

/-- Domains that a pruner may be given. -/
def SmallD (d : Doms) : Prop := d.length * 24 ≤ 140737488355328 ∧ ∀ x ∈ d, (x.length + 1) * 16 ≤ 140737488355328
theorem SmallD.set {d : Doms} (h : SmallD d) (i : Nat) {x : List (Int × Int)} (hx : (x.length + 1) * 16 ≤ 140737488355328) : SmallD (d.set i x) := by
  refine ⟨by simpa using h.1, fun y hy => ?_⟩
  rcases List.mem_or_eq_of_mem_set hy with hy | rfl
  · exact h.2 y hy
  · exact hx
theorem VarsIn.set {d : Doms} {c : Con} (h : VarsIn d c) (i : Nat) (x : List (Int × Int)) : VarsIn (d.set i x) c := by
  refine ⟨h.1, fun v hv => ?_⟩
  rw [List.length_set]
  exact h.2 v hv

theorem prune_spec (d : Doms) (c : Con) (hc : VarsIn d c) (hd : SmallD d) (R : Option Doms) (N : Nat) (hR : if [] ∈ d then R = none else iter (stepO c) N d = some R) : Spec Try.prog 12 false [doms d, .agg (cC c)] (pruneRes R) := by
  refine Spec.body Try.func12 rfl rfl rfl fun w0 Z0 => ?_
  have hh := half_le c
  obtain ⟨hd1, hd2⟩ := hd
  repeat' first | refine T.seq ?_ | refine T.block ?_ | refine T.r ?_ | refine J.e rfl rfl rfl rfl ?_ | refine J.nil ?_ | refine J.skip rfl rfl rfl ?_ | refine T.skip ?_ | refine T.exit ?_ | refine T.ret ?_ | refine T.rd rfl (by kernel_rfl) ?_ | refine J.bx rfl rfl rfl rfl rfl rfl ?_
  refine T.sub (Rel.own0 (s := 6) 37 1 rfl) ?_
  refine T.canon (keep := [0, 3, 6, 15, 16, 17]) (os := [3, 6]) rfl (T.listI d (fun pre => [] ∉ pre) (fun n pre post => ⟨[(0, .val false (doms d)), (3, .optr 0 0 0 0), (6, .ref 1), (15, .val false (doms d)), (16, .val true (.int .i64 (d.map cD).length)), (17, .val true (.int .i64 n))], [(0, some (.box false (cC c))), (1, some (.sl 37 1 true (pre.map cD)))], 2⟩) (fun _ _ h => h) (by simp) ?_ ?_)
  · rintro n pre x post h hn hi ih
    have hlt := at_lt h hn
    have hxl := hd2 x (by rw [h]; simp)
    repeat' first | refine T.seq ?_ | refine T.block ?_ | refine T.r ?_ | refine J.e rfl rfl rfl rfl ?_ | refine J.nil ?_ | refine J.skip rfl rfl rfl ?_ | refine T.skip ?_ | refine T.exit ?_ | refine T.ret ?_ | refine T.rd rfl (by kernel_rfl) ?_ | refine J.bx rfl rfl rfl rfl rfl rfl ?_
    refine T.ct2 rfl (lt_at h hn) ?_
    repeat' first | refine T.seq ?_ | refine T.block ?_ | refine T.r ?_ | refine J.e rfl rfl rfl rfl ?_ | refine J.nil ?_ | refine J.skip rfl rfl rfl ?_ | refine T.skip ?_ | refine T.exit ?_ | refine T.ret ?_ | refine T.rd rfl (by kernel_rfl) ?_ | refine J.bx rfl rfl rfl rfl rfl rfl ?_
    refine J.i rfl rfl rfl rfl rfl rfl rfl rfl rfl (r := cD x) (by omega) (row_at h hn) rfl ?_
    repeat' first | refine T.seq ?_ | refine T.block ?_ | refine T.r ?_ | refine J.e rfl rfl rfl rfl ?_ | refine J.nil ?_ | refine J.skip rfl rfl rfl ?_ | refine T.skip ?_ | refine T.exit ?_ | refine T.ret ?_ | refine T.rd rfl (by kernel_rfl) ?_ | refine J.bx rfl rfl rfl rfl rfl rfl ?_
    refine T.cd rfl (fun h1 => ?_) (fun h1 => ?_)
    · have hx : x = [] := by simp at h1; exact h1
      have : R = none := by rw [if_pos (by rw [h, hx]; simp)] at hR; exact hR
      subst this
      repeat' first | refine T.seq ?_ | refine T.block ?_ | refine T.r ?_ | refine J.e rfl rfl rfl rfl ?_ | refine J.nil ?_ | refine J.skip rfl rfl rfl ?_ | refine T.skip ?_ | refine T.exit ?_ | refine T.ret ?_ | refine T.rd rfl (by kernel_rfl) ?_ | refine J.bx rfl rfl rfl rfl rfl rfl ?_
      exact ⟨_, .ownN rfl (.v rfl rfl rfl (fun _ => rfl) .nil)⟩
    · have hx : x ≠ [] := fun e => h1 (by rw [e]; rfl)
      repeat' first | refine T.seq ?_ | refine T.block ?_ | refine T.r ?_ | refine J.e rfl rfl rfl rfl ?_ | refine J.nil ?_ | refine J.skip rfl rfl rfl ?_ | refine T.skip ?_ | refine T.exit ?_ | refine T.ret ?_ | refine T.rd rfl (by kernel_rfl) ?_ | refine J.bx rfl rfl rfl rfl rfl rfl ?_
      refine J.cc rfl rfl rfl rfl rfl (clone_spec x (by omega)).frz rfl rfl ?_
      repeat' first | refine T.seq ?_ | refine T.block ?_ | refine T.r ?_ | refine J.e rfl rfl rfl rfl ?_ | refine J.nil ?_ | refine J.skip rfl rfl rfl ?_ | refine T.skip ?_ | refine T.exit ?_ | refine T.ret ?_ | refine T.rd rfl (by kernel_rfl) ?_ | refine J.bx rfl rfl rfl rfl rfl rfl ?_
      refine J.bv rfl rfl rfl rfl rfl rfl rfl rfl rfl rfl rfl rfl ?_
      repeat' first | refine T.seq ?_ | refine T.block ?_ | refine T.r ?_ | refine J.e rfl rfl rfl rfl ?_ | refine J.nil ?_ | refine J.skip rfl rfl rfl ?_ | refine T.skip ?_ | refine T.exit ?_ | refine T.ret ?_ | refine T.rd rfl (by kernel_rfl) ?_ | refine J.bx rfl rfl rfl rfl rfl rfl ?_
      refine J.aD rfl rfl rfl rfl rfl rfl rfl rfl rfl rfl rfl rfl rfl rfl rfl rfl rfl rfl rfl (by omega) ?_
      repeat' first | refine T.seq ?_ | refine T.block ?_ | refine T.r ?_ | refine J.e rfl rfl rfl rfl ?_ | refine J.nil ?_ | refine J.skip rfl rfl rfl ?_ | refine T.skip ?_ | refine T.exit ?_ | refine T.ret ?_ | refine T.rd rfl (by kernel_rfl) ?_ | refine J.bx rfl rfl rfl rfl rfl rfl ?_
      rw [wrap1 hlt (by omega)]
      exact T.canon (keep := [0, 3, 6, 15, 16, 17]) (os := [3, 6]) rfl (ih (by simp [hi, Ne.symm hx]))
  · intro hi
    rw [if_neg hi] at hR
    repeat' first | refine T.seq ?_ | refine T.block ?_ | refine T.r ?_ | refine J.e rfl rfl rfl rfl ?_ | refine J.nil ?_ | refine J.skip rfl rfl rfl ?_ | refine T.skip ?_ | refine T.exit ?_ | refine T.ret ?_ | refine T.rd rfl (by kernel_rfl) ?_ | refine J.bx rfl rfl rfl rfl rfl rfl ?_
    refine T.cf2 rfl lt_end ?_
    repeat' first | refine T.seq ?_ | refine T.block ?_ | refine T.r ?_ | refine J.e rfl rfl rfl rfl ?_ | refine J.nil ?_ | refine J.skip rfl rfl rfl ?_ | refine T.skip ?_ | refine T.exit ?_ | refine T.ret ?_ | refine T.rd rfl (by kernel_rfl) ?_ | refine J.bx rfl rfl rfl rfl rfl rfl ?_
    have e1 : IntKind.i64.wrap (((c.vars.map cI).length : Int).tdiv 2) = (halfOf c : Int) := by
      have := hc.1
      rw [List.length_map, Int.tdiv_eq_ediv_of_nonneg (by omega), wrap_id (by omega) (by omega)]
      simp [halfOf]
    rw [e1]
    refine T.canon (keep := [3, 6, 9]) (os := [3, 6]) rfl (T.ind (fun (s : Nat × Doms) => ⟨[(3, .optr 0 0 0 0), (6, .ref 1), (9, .val true (.int .i64 (halfOf c)))], [(0, some (.box false (cC c))), (1, some (.sl 37 1 true (s.2.map cD)))], 2⟩)
      (fun s => iter (stepO c) s.1 s.2 = some R ∧ VarsIn s.2 c ∧ SmallD s.2) (fun s => s.1) (N, d) ⟨hR, hc, hd1, hd2⟩ (fun _ _ h => h) ?_)
    rintro ⟨m, out⟩ ⟨hR, hc, hd⟩ ih
    simp only at hR hc hd ih
    dsimp only
    have hcv := hc.1
    have hlen8 : ∀ x ∈ out, x.length * 8 ≤ 140737488355328 := fun x hx => by have := hd.2 x hx; omega
    repeat' first | refine T.seq ?_ | refine T.block ?_ | refine T.r ?_ | refine J.e rfl rfl rfl rfl ?_ | refine J.nil ?_ | refine J.skip rfl rfl rfl ?_ | refine T.skip ?_ | refine T.exit ?_ | refine T.ret ?_ | refine T.rd rfl (by kernel_rfl) ?_ | refine J.bx rfl rfl rfl rfl rfl rfl ?_
    refine J.cc rfl rfl rfl rfl rfl (place_spec out c hc hlen8) rfl rfl ?_
    repeat' first | refine T.seq ?_ | refine T.block ?_ | refine T.r ?_ | refine J.e rfl rfl rfl rfl ?_ | refine J.nil ?_ | refine J.skip rfl rfl rfl ?_ | refine T.skip ?_ | refine T.exit ?_ | refine T.ret ?_ | refine T.rd rfl (by kernel_rfl) ?_ | refine J.bx rfl rfl rfl rfl rfl rfl ?_
    have hpl : placeO out c ≤ halfOf c := placeF_le _ _
    have hst : stepO c out = stepO c out := rfl
    conv at hst => rhs; unfold stepO
    generalize placeO out c = k at *
    refine T.cd rfl (fun h1 => ?_) (fun h1 => ?_)
    · have h1 : k = halfOf c := by omega
      rw [if_pos h1] at hst
      obtain rfl := iter_inl hR hst
      repeat' first | refine T.seq ?_ | refine T.block ?_ | refine T.r ?_ | refine J.e rfl rfl rfl rfl ?_ | refine J.nil ?_ | refine J.skip rfl rfl rfl ?_ | refine T.skip ?_ | refine T.exit ?_ | refine T.ret ?_ | refine T.rd rfl (by kernel_rfl) ?_ | refine J.bx rfl rfl rfl rfl rfl rfl ?_
      exact ⟨_, .o rfl rfl rfl (fun _ => .inl rfl) (by simp) (.v rfl rfl rfl (fun _ => rfl) .nil)⟩
    · have h1 : ¬ k = halfOf c := by omega
      rw [if_neg h1] at hst
      have hv1 := hc.2 _ (varAt_mem (c := c) (k := k) (by omega))
      have hv2 := hc.2 _ (varAt_mem (c := c) (k := halfOf c + k) (by omega))
      have hm1 := hd.2 _ (domAt_mem hv1.2)
      have hm2 := hd.2 _ (domAt_mem hv2.2)
      have ra : (out.map cD)[(varAt c k).toNat]? = some (cD (domAt out (varAt c k))) := by simp [domAt_some hv1.2]
      have rb : (out.map cD)[(varAt c (halfOf c + k)).toNat]? = some (cD (domAt out (varAt c (halfOf c + k)))) := by simp [domAt_some hv2.2]
      have la : (varAt c k).toNat < (out.map cD).length := by simpa using hv1.2
      have lb : (varAt c (halfOf c + k)).toNat < (out.map cD).length := by simpa using hv2.2
      have ka := varAt_row (c := c) (k := k) (by omega)
      have kb := varAt_row (c := c) (k := halfOf c + k) (by omega)
      simp only at hst
      generalize varAt c k = a at *
      generalize varAt c (halfOf c + k) = b at *
      generalize domAt out a = da at *
      generalize domAt out b = db at *
      repeat' first | refine T.seq ?_ | refine T.block ?_ | refine T.r ?_ | refine J.e rfl rfl rfl rfl ?_ | refine J.nil ?_ | refine J.skip rfl rfl rfl ?_ | refine T.skip ?_ | refine T.exit ?_ | refine T.ret ?_ | refine T.rd rfl (by kernel_rfl) ?_ | refine J.bx rfl rfl rfl rfl rfl rfl ?_
      refine J.i rfl rfl rfl rfl rfl rfl rfl rfl rfl (r := cI a) (by omega) ka rfl ?_
      repeat' first | refine T.seq ?_ | refine T.block ?_ | refine T.r ?_ | refine J.e rfl rfl rfl rfl ?_ | refine J.nil ?_ | refine J.skip rfl rfl rfl ?_ | refine T.skip ?_ | refine T.exit ?_ | refine T.ret ?_ | refine T.rd rfl (by kernel_rfl) ?_ | refine J.bx rfl rfl rfl rfl rfl rfl ?_
      rw [show IntKind.i64.wrap ((halfOf c : Int) + (k : Int)) = ((halfOf c + k : Nat) : Int) by rw [wrap_id (by omega) (by omega)]; omega]
      refine J.i rfl rfl rfl rfl rfl rfl rfl rfl rfl (r := cI b) (by omega) kb rfl ?_
      repeat' first | refine T.seq ?_ | refine T.block ?_ | refine T.r ?_ | refine J.e rfl rfl rfl rfl ?_ | refine J.nil ?_ | refine J.skip rfl rfl rfl ?_ | refine T.skip ?_ | refine T.exit ?_ | refine T.ret ?_ | refine T.rd rfl (by kernel_rfl) ?_ | refine J.bx rfl rfl rfl rfl rfl rfl ?_
      refine J.io rfl rfl rfl rfl rfl rfl rfl rfl rfl hv1.1 la rfl ?_
      refine J.lo rfl rfl rfl rfl rfl rfl (r := cD da) ra rfl ?_
      repeat' first | refine T.seq ?_ | refine T.block ?_ | refine T.r ?_ | refine J.e rfl rfl rfl rfl ?_ | refine J.nil ?_ | refine J.skip rfl rfl rfl ?_ | refine T.skip ?_ | refine T.exit ?_ | refine T.ret ?_ | refine T.rd rfl (by kernel_rfl) ?_ | refine J.bx rfl rfl rfl rfl rfl rfl ?_
      refine J.io rfl rfl rfl rfl rfl rfl rfl rfl rfl hv2.1 lb rfl ?_
      refine J.lo rfl rfl rfl rfl rfl rfl (r := cD db) rb rfl ?_
      repeat' first | refine T.seq ?_ | refine T.block ?_ | refine T.r ?_ | refine J.e rfl rfl rfl rfl ?_ | refine J.nil ?_ | refine J.skip rfl rfl rfl ?_ | refine T.skip ?_ | refine T.exit ?_ | refine T.ret ?_ | refine T.rd rfl (by kernel_rfl) ?_ | refine J.bx rfl rfl rfl rfl rfl rfl ?_
      refine J.cc rfl rfl rfl rfl rfl (dof_spec db (by omega)) rfl rfl ?_
      repeat' first | refine T.seq ?_ | refine T.block ?_ | refine T.r ?_ | refine J.e rfl rfl rfl rfl ?_ | refine J.nil ?_ | refine J.skip rfl rfl rfl ?_ | refine T.skip ?_ | refine T.exit ?_ | refine T.ret ?_ | refine T.rd rfl (by kernel_rfl) ?_ | refine J.bx rfl rfl rfl rfl rfl rfl ?_
      refine J.cc rfl rfl rfl rfl rfl (domcut_spec da (-1048576) (lastR db) (by omega)).frz rfl rfl ?_
      repeat' first | refine T.seq ?_ | refine T.block ?_ | refine T.r ?_ | refine J.e rfl rfl rfl rfl ?_ | refine J.nil ?_ | refine J.skip rfl rfl rfl ?_ | refine T.skip ?_ | refine T.exit ?_ | refine T.ret ?_ | refine T.rd rfl (by kernel_rfl) ?_ | refine J.bx rfl rfl rfl rfl rfl rfl ?_
      refine J.io rfl rfl rfl rfl rfl rfl rfl rfl rfl hv2.1 lb rfl ?_
      refine J.lo rfl rfl rfl rfl rfl rfl (r := cD db) rb rfl ?_
      repeat' first | refine T.seq ?_ | refine T.block ?_ | refine T.r ?_ | refine J.e rfl rfl rfl rfl ?_ | refine J.nil ?_ | refine J.skip rfl rfl rfl ?_ | refine T.skip ?_ | refine T.exit ?_ | refine T.ret ?_ | refine T.rd rfl (by kernel_rfl) ?_ | refine J.bx rfl rfl rfl rfl rfl rfl ?_
      refine J.io rfl rfl rfl rfl rfl rfl rfl rfl rfl hv1.1 la rfl ?_
      refine J.lo rfl rfl rfl rfl rfl rfl (r := cD da) ra rfl ?_
      repeat' first | refine T.seq ?_ | refine T.block ?_ | refine T.r ?_ | refine J.e rfl rfl rfl rfl ?_ | refine J.nil ?_ | refine J.skip rfl rfl rfl ?_ | refine T.skip ?_ | refine T.exit ?_ | refine T.ret ?_ | refine T.rd rfl (by kernel_rfl) ?_ | refine J.bx rfl rfl rfl rfl rfl rfl ?_
      refine J.cc rfl rfl rfl rfl rfl (dof_spec da (by omega)) rfl rfl ?_
      repeat' first | refine T.seq ?_ | refine T.block ?_ | refine T.r ?_ | refine J.e rfl rfl rfl rfl ?_ | refine J.nil ?_ | refine J.skip rfl rfl rfl ?_ | refine T.skip ?_ | refine T.exit ?_ | refine T.ret ?_ | refine T.rd rfl (by kernel_rfl) ?_ | refine J.bx rfl rfl rfl rfl rfl rfl ?_
      refine J.cc rfl rfl rfl rfl rfl (domcut_spec db (leastR da) 1048576 (by omega)).frz rfl rfl ?_
      repeat' first | refine T.seq ?_ | refine T.block ?_ | refine T.r ?_ | refine J.e rfl rfl rfl rfl ?_ | refine J.nil ?_ | refine J.skip rfl rfl rfl ?_ | refine T.skip ?_ | refine T.exit ?_ | refine T.ret ?_ | refine T.rd rfl (by kernel_rfl) ?_ | refine J.bx rfl rfl rfl rfl rfl rfl ?_
      have hxl := domCut_length da (-1048576) (lastR db)
      have hyl := domCut_length db (leastR da) 1048576
      generalize domCut da (-1048576) (lastR db) = x at *
      generalize domCut db (leastR da) 1048576 = y at *
      have hnone : x = [] ∨ y = [] → R = none := fun h => by rw [if_pos h] at hst; exact (iter_inl hR hst).symm
      refine J.g rfl rfl rfl (fun h2 => ?_) (fun h2 => ?_)
      · have h2 : x = [] := by simpa using h2
        have := hnone (.inl h2)
        subst this
        repeat' first | refine T.seq ?_ | refine T.block ?_ | refine T.r ?_ | refine J.e rfl rfl rfl rfl ?_ | refine J.nil ?_ | refine J.skip rfl rfl rfl ?_ | refine T.skip ?_ | refine T.exit ?_ | refine T.ret ?_ | refine T.rd rfl (by kernel_rfl) ?_ | refine J.bx rfl rfl rfl rfl rfl rfl ?_
        refine T.ct rfl ?_
        repeat' first | refine T.seq ?_ | refine T.block ?_ | refine T.r ?_ | refine J.e rfl rfl rfl rfl ?_ | refine J.nil ?_ | refine J.skip rfl rfl rfl ?_ | refine T.skip ?_ | refine T.exit ?_ | refine T.ret ?_ | refine T.rd rfl (by kernel_rfl) ?_ | refine J.bx rfl rfl rfl rfl rfl rfl ?_
        exact ⟨_, .ownN rfl (.v rfl rfl rfl (fun _ => rfl) .nil)⟩
      · have h2 : ¬ x = [] := by simpa using h2
        repeat' first | refine T.seq ?_ | refine T.block ?_ | refine T.r ?_ | refine J.e rfl rfl rfl rfl ?_ | refine J.nil ?_ | refine J.skip rfl rfl rfl ?_ | refine T.skip ?_ | refine T.exit ?_ | refine T.ret ?_ | refine T.rd rfl (by kernel_rfl) ?_ | refine J.bx rfl rfl rfl rfl rfl rfl ?_
        refine T.cd rfl (fun h3 => ?_) (fun h3 => ?_)
        · have h3 : y = [] := by simpa using h3
          have := hnone (.inr h3)
          subst this
          repeat' first | refine T.seq ?_ | refine T.block ?_ | refine T.r ?_ | refine J.e rfl rfl rfl rfl ?_ | refine J.nil ?_ | refine J.skip rfl rfl rfl ?_ | refine T.skip ?_ | refine T.exit ?_ | refine T.ret ?_ | refine T.rd rfl (by kernel_rfl) ?_ | refine J.bx rfl rfl rfl rfl rfl rfl ?_
          exact ⟨_, .ownN rfl (.v rfl rfl rfl (fun _ => rfl) .nil)⟩
        · have h3 : ¬ y = [] := by simpa using h3
          rw [if_neg (by simp [h2, h3])] at hst
          repeat' first | refine T.seq ?_ | refine T.block ?_ | refine T.r ?_ | refine J.e rfl rfl rfl rfl ?_ | refine J.nil ?_ | refine J.skip rfl rfl rfl ?_ | refine T.skip ?_ | refine T.exit ?_ | refine T.ret ?_ | refine T.rd rfl (by kernel_rfl) ?_ | refine J.bx rfl rfl rfl rfl rfl rfl ?_
          refine J.io rfl rfl rfl rfl rfl rfl rfl rfl rfl hv1.1 la rfl ?_
          refine J.lo rfl rfl rfl rfl rfl rfl (r := cD da) ra rfl ?_
          repeat' first | refine T.seq ?_ | refine T.block ?_ | refine T.r ?_ | refine J.e rfl rfl rfl rfl ?_ | refine J.nil ?_ | refine J.skip rfl rfl rfl ?_ | refine T.skip ?_ | refine T.exit ?_ | refine T.ret ?_ | refine T.rd rfl (by kernel_rfl) ?_ | refine J.bx rfl rfl rfl rfl rfl rfl ?_
          refine J.cc rfl rfl rfl rfl rfl (domsame_spec x da (by omega)) rfl rfl ?_
          repeat' first | refine T.seq ?_ | refine T.block ?_ | refine T.r ?_ | refine J.e rfl rfl rfl rfl ?_ | refine J.nil ?_ | refine J.skip rfl rfl rfl ?_ | refine T.skip ?_ | refine T.exit ?_ | refine T.ret ?_ | refine T.rd rfl (by kernel_rfl) ?_ | refine J.bx rfl rfl rfl rfl rfl rfl ?_
          refine J.g rfl rfl rfl (fun h4 => ?_) (fun h4 => ?_)
          · have h4 : x = da := h4
            repeat' first | refine T.seq ?_ | refine T.block ?_ | refine T.r ?_ | refine J.e rfl rfl rfl rfl ?_ | refine J.nil ?_ | refine J.skip rfl rfl rfl ?_ | refine T.skip ?_ | refine T.exit ?_ | refine T.ret ?_ | refine T.rd rfl (by kernel_rfl) ?_ | refine J.bx rfl rfl rfl rfl rfl rfl ?_
            refine J.io rfl rfl rfl rfl rfl rfl rfl rfl rfl hv2.1 lb rfl ?_
            refine J.lo rfl rfl rfl rfl rfl rfl (r := cD db) rb rfl ?_
            repeat' first | refine T.seq ?_ | refine T.block ?_ | refine T.r ?_ | refine J.e rfl rfl rfl rfl ?_ | refine J.nil ?_ | refine J.skip rfl rfl rfl ?_ | refine T.skip ?_ | refine T.exit ?_ | refine T.ret ?_ | refine T.rd rfl (by kernel_rfl) ?_ | refine J.bx rfl rfl rfl rfl rfl rfl ?_
            refine J.cc rfl rfl rfl rfl rfl (domsame_spec y db (by omega)) rfl rfl ?_
            repeat' first | refine T.seq ?_ | refine T.block ?_ | refine T.r ?_ | refine J.e rfl rfl rfl rfl ?_ | refine J.nil ?_ | refine J.skip rfl rfl rfl ?_ | refine T.skip ?_ | refine T.exit ?_ | refine T.ret ?_ | refine T.rd rfl (by kernel_rfl) ?_ | refine J.bx rfl rfl rfl rfl rfl rfl ?_
            refine T.cd rfl (fun h5 => ?_) (fun h5 => ?_)
            · rw [if_pos ⟨h4, h5⟩] at hst
              obtain rfl := iter_inl hR hst
              repeat' first | refine T.seq ?_ | refine T.block ?_ | refine T.r ?_ | refine J.e rfl rfl rfl rfl ?_ | refine J.nil ?_ | refine J.skip rfl rfl rfl ?_ | refine T.skip ?_ | refine T.exit ?_ | refine T.ret ?_ | refine T.rd rfl (by kernel_rfl) ?_ | refine J.bx rfl rfl rfl rfl rfl rfl ?_
              exact ⟨_, .o rfl rfl rfl (fun _ => .inl rfl) (by simp) (.v rfl rfl rfl (fun _ => rfl) .nil)⟩
            · rw [if_neg (fun e => h5 e.2)] at hst
              obtain ⟨m', hm', hR'⟩ := iter_inr hR hst
              repeat' first | refine T.seq ?_ | refine T.block ?_ | refine T.r ?_ | refine J.e rfl rfl rfl rfl ?_ | refine J.nil ?_ | refine J.skip rfl rfl rfl ?_ | refine T.skip ?_ | refine T.exit ?_ | refine T.ret ?_ | refine T.rd rfl (by kernel_rfl) ?_ | refine J.bx rfl rfl rfl rfl rfl rfl ?_
              refine J.io rfl rfl rfl rfl rfl rfl rfl rfl rfl hv1.1 la rfl ?_
              refine J.w1 rfl rfl rfl rfl rfl rfl rfl rfl rfl rfl rfl (fun _ => rfl) (by simpa using la) ?_
              refine J.io rfl rfl rfl rfl rfl rfl rfl rfl rfl hv2.1 (by simpa using lb) rfl ?_
              refine J.w1 rfl rfl rfl rfl rfl rfl rfl rfl rfl rfl rfl (fun _ => rfl) (by simpa using lb) ?_
              repeat' first | refine T.seq ?_ | refine T.block ?_ | refine T.r ?_ | refine J.e rfl rfl rfl rfl ?_ | refine J.nil ?_ | refine J.skip rfl rfl rfl ?_ | refine T.skip ?_ | refine T.exit ?_ | refine T.ret ?_ | refine T.rd rfl (by kernel_rfl) ?_ | refine J.bx rfl rfl rfl rfl rfl rfl ?_
              refine T.canon (keep := [3, 6, 9]) (os := [3, 6]) rfl (ih (m', (out.set a.toNat x).set b.toNat y) ⟨hR', (hc.set _ _).set _ _, (hd.set _ (by omega)).set _ (by omega)⟩ hm')
          · have h4 : ¬ x = da := h4
            rw [if_neg (fun e => h4 e.1)] at hst
            obtain ⟨m', hm', hR'⟩ := iter_inr hR hst
            repeat' first | refine T.seq ?_ | refine T.block ?_ | refine T.r ?_ | refine J.e rfl rfl rfl rfl ?_ | refine J.nil ?_ | refine J.skip rfl rfl rfl ?_ | refine T.skip ?_ | refine T.exit ?_ | refine T.ret ?_ | refine T.rd rfl (by kernel_rfl) ?_ | refine J.bx rfl rfl rfl rfl rfl rfl ?_
            refine T.cf rfl ?_
            repeat' first | refine T.seq ?_ | refine T.block ?_ | refine T.r ?_ | refine J.e rfl rfl rfl rfl ?_ | refine J.nil ?_ | refine J.skip rfl rfl rfl ?_ | refine T.skip ?_ | refine T.exit ?_ | refine T.ret ?_ | refine T.rd rfl (by kernel_rfl) ?_ | refine J.bx rfl rfl rfl rfl rfl rfl ?_
            refine J.io rfl rfl rfl rfl rfl rfl rfl rfl rfl hv1.1 la rfl ?_
            refine J.w1 rfl rfl rfl rfl rfl rfl rfl rfl rfl rfl rfl (fun _ => rfl) (by simpa using la) ?_
            refine J.io rfl rfl rfl rfl rfl rfl rfl rfl rfl hv2.1 (by simpa using lb) rfl ?_
            refine J.w1 rfl rfl rfl rfl rfl rfl rfl rfl rfl rfl rfl (fun _ => rfl) (by simpa using lb) ?_
            repeat' first | refine T.seq ?_ | refine T.block ?_ | refine T.r ?_ | refine J.e rfl rfl rfl rfl ?_ | refine J.nil ?_ | refine J.skip rfl rfl rfl ?_ | refine T.skip ?_ | refine T.exit ?_ | refine T.ret ?_ | refine T.rd rfl (by kernel_rfl) ?_ | refine J.bx rfl rfl rfl rfl rfl rfl ?_
            refine T.canon (keep := [3, 6, 9]) (os := [3, 6]) rfl (ih (m', (out.set a.toNat x).set b.toNat y) ⟨hR', (hc.set _ _).set _ _, (hd.set _ (by omega)).set _ (by omega)⟩ hm')
end Go.Proofs.Ytgkblgddpldpeaa
