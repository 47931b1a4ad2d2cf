/- The texts LiH, PuF, FnZ, FgA, FgB, FgC, FgD, PuG, FgE of the workplace, joined. -/
import Derived.Test.YtchajofdjeijfaaB8
/-! The contracts of both pruners of a sum. -/
namespace Go.Proofs.Ytchajofdjeijfaa
open Go Go.RowKit
set_option linter.unusedVariables false
set_option maxRecDepth 8000

/-- The contracts of both pruners of a sum. -/
theorem lin_specs1 {d : Doms} {c : Con} {R : Option Doms} {N N' : Nat} (h : SumOk d c) (h1 : LinAns d c R N) (h2 : LinAnsR d c R N') (hsm : ∀ x ∈ d, x.length * 64 + 1048576 ≤ 140737488355328) : 
    Spec Try.prog 16 false [doms d, .agg (cC c)] (pruneRes R) ∧ Spec Try.prog 17 false [doms d, .agg (cC c)] [.val (doms (R.getD [])), .val (.bool R.isSome)] := by
  refine ⟨(lprune_spec d c h.fine hsm R N h1), ?_⟩
  have hvb : ∀ out : Doms, out.length = d.length → ∀ v ∈ c.vars, 0 ≤ v ∧ v.toNat < out.length := fun out hl v hv => by rw [hl]; exact h.fine.vin v hv
  refine rlprune_spec d c h.fine.len h.fine.vl h.fine.ck h.pos h.fine.vin h.fine.dl h.fine.dom ?_ (fun out => (∀ x ∈ out, Fine x) ∧ out.length = d.length) (fun out hi => ⟨fun x hx => (hi.1 x hx).domB, hi.2⟩)
    (fun out hi => ⟨⟨mostRd_fine _ (hvb out hi.2) hi.1 _ (Nat.le_refl _), by rw [mostD, mostRd_len, hi.2]⟩, ⟨mostRd_fine _ (hvb out hi.2) hi.1 _ (Nat.le_refl _), by rw [mostB, mostRd_len, hi.2]⟩⟩) ⟨h.fine.dom, rfl⟩ R N' h2
  intro x hx
  have hin := rotherGo_in (termsOf d c.vars c.coefs) 0 0 0 0 c.vars.length h.pos (by have := h.fine.len; simp [termsOf]; omega) (Nat.le_refl _)
  have hall : ∀ x ∈ rotherW d c, Fine x := by
    unfold rotherW
    simp only
    split
    · exact h.fine.dom
    · split
      · split
        · exact mem_set h.fine.dom ⟨⟨by simp, .nil⟩, by simp [vals], by simp [vals]⟩
        · exact h.fine.dom
      · exact mem_set h.fine.dom (pack_fine (h.fine.dom _ (domAt_mem (h.fine.vin _ (varAt_mem hin.1)).2)) _)
  exact (hall x hx).domB
theorem lin_specs0 {d : Doms} {c : Con} (h : SumOk d c) (hsm : ∀ x ∈ d, x.length * 64 + 1048576 ≤ 140737488355328) : ∃ R : Option Doms, (∀ out, R = some out → out.length = d.length ∧ [] ∉ out ∧ ∀ x ∈ out, Fine x) ∧
    Spec Try.prog 16 false [doms d, .agg (cC c)] (pruneRes R) ∧ Spec Try.prog 17 false [doms d, .agg (cC c)] [.val (doms (R.getD [])), .val (.bool R.isSome)] := by
  obtain ⟨R, N, N', h1, h2, h3⟩ := lin_ans h
  exact ⟨R, h3, lin_specs1 h h1 h2 hsm⟩
theorem lin_specs {d : Doms} {c : Con} (h : SumOk d c) (hd5 : d.length ≤ 5) (hsm : ∀ x ∈ d, x.length ≤ 30) : ∃ R : Option Doms, (∀ out, R = some out → out.length = d.length ∧ [] ∉ out ∧ ∀ x ∈ out, Fine x) ∧
    Spec Try.prog 16 false [doms d, .agg (cC c)] [.val (doms (R.getD [])), .val (.bool R.isSome)] ∧ Spec Try.prog 17 false [doms d, .agg (cC c)] [.val (doms (R.getD [])), .val (.bool R.isSome)] := by
  obtain ⟨R, h1, h2, h3⟩ := lin_specs0 h (fun x hx => by have := hsm x hx; omega)
  exact ⟨R, h1, h2.frz, h3⟩
end Go.Proofs.Ytchajofdjeijfaa
/-! Plain laws: lists in order, where all is known. -/
namespace Go.Proofs.Ytchajofdjeijfaa
open Go Go.RowKit
set_option linter.unusedVariables false
set_option linter.unusedSimpArgs false

theorem orderR_at : ∀ (k : Nat) (xs ys : List Int) (x y : Int), (∀ j, j < k → xs[j]? = ys[j]?) → xs[k]? = some x → ys[k]? = some y → x ≠ y → orderR xs ys = if x < y then -1 else 1
  | 0, [], _, x, y, _, h, _, _ => by simp at h
  | 0, _ :: _, [], x, y, _, _, h, _ => by simp at h
  | 0, a :: xs, b :: ys, x, y, _, h1, h2, hne => by
    simp at h1 h2
    subst h1 h2
    rw [orderR]
    by_cases h : a < b
    · rw [if_pos h, if_pos h]
    · rw [if_neg h, if_neg h, if_pos (by omega)]
  | k + 1, [], _, x, y, _, h, _, _ => by simp at h
  | k + 1, _ :: _, [], x, y, _, _, h, _ => by simp at h
  | k + 1, a :: xs, b :: ys, x, y, he, h1, h2, hne => by
    have e := he 0 (by omega)
    simp at e
    subst e
    rw [orderR, if_neg (by omega), if_neg (by omega)]
    exact orderR_at k xs ys x y (fun j hj => by simpa using he (j + 1) (by omega)) (by simpa using h1) (by simpa using h2) hne
theorem orderR_self : ∀ xs : List Int, orderR xs xs = 0
  | [] => rfl
  | x :: xs => by rw [orderR, if_neg (by omega), if_neg (by omega), orderR_self xs]

/-- Domains of one value each. -/
def sing (v : Int) : List (Int × Int) := [(v, v)]
def sings (u : List Int) : Doms := u.map sing
theorem domAt_sings {u : List Int} {v : Int} (h0 : 0 ≤ v) (h : v.toNat < u.length) : domAt (sings u) v = sing (atR u v) := by
  unfold domAt sings atR
  rw [if_neg (by omega), List.getD_eq_getElem?_getD, List.getD_eq_getElem?_getD, List.getElem?_map, List.getElem?_eq_getElem h]
  rfl
theorem domCut_sing (v lo hi : Int) (h1 : lo ≤ hi) : domCut (sing v) lo hi = if lo ≤ v ∧ v ≤ hi then sing v else [] := by
  unfold domCut
  rw [if_neg (by omega)]
  simp only [sing]
  rw [meetR_cons, meetR_l, meetR_r]
  simp only [ite_self, List.append_nil]
  by_cases h : lo ≤ v ∧ v ≤ hi
  · rw [if_pos h, if_pos (by omega), show max v lo = v by omega, show min v hi = v by omega]
  · rw [if_neg h, if_neg (by omega)]
theorem knownB_sing (a b x y : Int) (h : a = b → x = y) : knownB a b (sing x) (sing y) = decide (x = y) := by
  simp only [knownB, sing, ofD, leastR, lastR, List.getLast?_singleton, List.length_singleton]
  by_cases e : x = y
  · subst e; simp
  · simp [e]; exact fun e2 => e (h e2)
/-- What is left where all is known. -/
theorem decides_step {u : List Int} {c : Con} (hv : VarsIn (sings u) c) (heven : c.vars.length % 2 = 0) (hb : ∀ v ∈ u, -1048576 ≤ v ∧ v ≤ 1048576) :
    stepO c (sings u) = .inl (if holds6 c.vars u then some (sings u) else none) := by
  have hh := half_le c
  have hl2 : c.vars.length = halfOf c + halfOf c := by unfold halfOf; omega
  have hul : (sings u).length = u.length := by simp [sings]
  have hp : ∀ k, k < halfOf c → pairO (sings u) c k = decide (atR u (varAt c k) = atR u (varAt c (halfOf c + k))) := by
    intro k hk
    have hv1 := hv.2 _ (varAt_mem (c := c) (k := k) (by omega))
    have hv2 := hv.2 _ (varAt_mem (c := c) (k := halfOf c + k) (by omega))
    rw [pairO, domAt_sings hv1.1 (by omega), domAt_sings hv2.1 (by omega), knownB_sing _ _ _ _ fun e => by rw [e]]
  have hx : ∀ k, k < halfOf c → ((pickedR c.vars u).take (c.vars.length / 2))[k]? = some (atR u (varAt c k)) := by
    intro k hk
    have e : c.vars.length / 2 = halfOf c := rfl
    rw [e, List.getElem?_take, if_pos hk, pickedR, List.getElem?_map, varAt, List.getD_eq_getElem?_getD, List.getElem?_eq_getElem (by omega)]
    rfl
  have hy : ∀ k, k < halfOf c → ((pickedR c.vars u).drop (c.vars.length / 2))[k]? = some (atR u (varAt c (halfOf c + k))) := by
    intro k hk
    have e : c.vars.length / 2 = halfOf c := rfl
    rw [e, List.getElem?_drop, pickedR, List.getElem?_map, varAt, List.getD_eq_getElem?_getD, List.getElem?_eq_getElem (by omega)]
    rfl
  have hxl : ((pickedR c.vars u).take (c.vars.length / 2)).length = halfOf c := by simp [pickedR, halfOf]; omega
  have hyl : ((pickedR c.vars u).drop (c.vars.length / 2)).length = halfOf c := by simp [pickedR, halfOf]; omega
  unfold stepO holds6
  by_cases hk : placeO (sings u) c = halfOf c
  · rw [if_pos hk]
    have e : (pickedR c.vars u).take (c.vars.length / 2) = (pickedR c.vars u).drop (c.vars.length / 2) := by
      refine List.ext_getElem? fun k => ?_
      by_cases hkl : k < halfOf c
      · have hb := placeF_before (p := pairO (sings u) c) (h := halfOf c) (j := k) (by unfold placeO at hk; omega)
        rw [hp k hkl] at hb
        rw [hx k hkl, hy k hkl, of_decide_eq_true hb]
      · rw [List.getElem?_eq_none (by omega), List.getElem?_eq_none (by omega)]
    rw [e, orderR_self]
    rfl
  · rw [if_neg hk]
    have hkl : placeO (sings u) c < halfOf c := by have := placeF_le (pairO (sings u) c) (halfOf c); unfold placeO at hk ⊢; omega
    have hn : pairO (sings u) c (placeO (sings u) c) = false := placeF_here hkl
    have hbf : ∀ j, j < placeO (sings u) c → pairO (sings u) c j = true := fun j hj => placeF_before hj
    generalize placeO (sings u) c = k at *
    have hv1 := hv.2 _ (varAt_mem (c := c) (k := k) (by omega))
    have hv2 := hv.2 _ (varAt_mem (c := c) (k := halfOf c + k) (by omega))
    rw [hp k hkl] at hn
    have hne := of_decide_eq_false hn
    have ho := orderR_at k _ _ _ _ (fun j hj => by
      have := hbf j hj
      rw [hp j (by omega)] at this
      rw [hx j (by omega), hy j (by omega), of_decide_eq_true this]) (hx k hkl) (hy k hkl) hne
    rw [ho]
    simp only
    rw [domAt_sings hv1.1 (by omega), domAt_sings hv2.1 (by omega)]
    have hbx : ∀ v : Int, 0 ≤ v → v.toNat < u.length → -1048576 ≤ atR u v ∧ atR u v ≤ 1048576 := by
      intro v h0 hl
      refine hb _ ?_
      unfold atR
      rw [if_neg (by omega), List.getD_eq_getElem?_getD, List.getElem?_eq_getElem hl]
      exact List.getElem_mem hl
    have b1 := hbx _ hv1.1 (by omega)
    have b2 := hbx _ hv2.1 (by omega)
    generalize atR u (varAt c k) = x at *
    generalize atR u (varAt c (halfOf c + k)) = y at *
    have e1 : lastR (sing y) = y := rfl
    have e2 : leastR (sing x) = x := rfl
    rw [e1, e2, domCut_sing _ _ _ b2.1, domCut_sing _ _ _ b1.2]
    by_cases hlt : x < y
    · have f1 : (if -1048576 ≤ x ∧ x ≤ y then sing x else []) = sing x := if_pos (by omega)
      have f2 : (if x ≤ y ∧ y ≤ 1048576 then sing y else []) = sing y := if_pos (by omega)
      rw [f1, f2, if_neg (by simp [sing]), if_pos ⟨rfl, rfl⟩, if_pos hlt]
      rfl
    · have f1 : (if -1048576 ≤ x ∧ x ≤ y then sing x else []) = [] := if_neg (by omega)
      rw [f1, if_pos (.inl rfl), if_neg hlt]
      rfl

theorem emptyV_iff {d : Doms} (hf : ∀ x ∈ d, Fine x) : emptyV d = true ↔ [] ∈ d := by
  unfold emptyV
  rw [List.any_eq_true]
  constructor
  · rintro ⟨x, hx, h⟩
    have := (vals_ne (hf x hx).ok).1 (by simpa using h)
    exact this ▸ hx
  · intro h
    exact ⟨[], h, rfl⟩
/-- Domains of at most one value each, none of them empty, and what is picked of them. -/
theorem pick_sings {d : Doms} (a : List Int) (hf : ∀ x ∈ d, Fine x) (h1 : ∀ x ∈ d, (vals x).length ≤ 1) (he : emptyV d = false) : d = sings (pickL d a) := by
  refine List.ext_getElem? fun i => ?_
  by_cases hi : i < d.length
  · have hx := List.getElem_mem hi
    have hne : (vals d[i]).length = 1 := by
      have h2 := h1 _ hx
      have h3 : (vals d[i]).isEmpty = false := by
        cases h4 : (vals d[i]).isEmpty with
        | false => rfl
        | true => rw [show emptyV d = true from List.any_eq_true.2 ⟨_, hx, h4⟩] at he; cases he
      cases hv : vals d[i] with
      | nil => rw [hv] at h3; cases h3
      | cons x l => rw [hv] at h2; simp at h2; subst h2; rfl
    obtain ⟨x, ex⟩ := (one_iff (hf _ hx).ok).1 hne
    have ev : vals d[i] = [x] := by rw [ex]; simp [vals, rng_self]
    have hg : d.getD i [] = d[i] := by simp [List.getD_eq_getElem?_getD, List.getElem?_eq_getElem hi]
    have hp : pickAt d a i = x := by
      unfold pickAt
      rw [hg, ev]
      have := (tmod_in (pickN_pos a i) (l := 1) (by omega)).2
      have e0 : ((pickN a i).tmod (([x] : List Int).length : Nat)).toNat = 0 := by simp only [List.length_singleton]; omega
      rw [e0]
      rfl
    rw [List.getElem?_eq_getElem hi, sings, List.getElem?_map, pickL, List.getElem?_map, List.getElem?_range hi]
    simp only [Option.map_some, hp, ex, sing]
  · rw [List.getElem?_eq_none (by omega), List.getElem?_eq_none (by simp [sings, pickL]; omega)]
theorem small_le (l : List Int) : (vals (smallR l)).length ≤ l.length := by
  have h0 : ((l.take 30).map fun v => v.tmod 201).length ≤ 30 ∧ ((l.take 30).map fun v => v.tmod 201).length ≤ l.length := by simp; omega
  have h1 := sortU_length ((l.take 30).map fun v => v.tmod 201)
  unfold smallR ofR
  split
  · rw [if_neg (by omega)]
    simp only
    rw [vals_pack (sortU_up _)]
    omega
  · simp [vals]
/-- A list and itself are in order. -/
def twiceC (c : Con) : Con := ⟨6, c.vars.take (halfOf c) ++ c.vars.take (halfOf c), [], 0, 0, [], 0⟩
theorem twice_len (c : Con) : (twiceC c).vars.length = 2 * halfOf c ∧ halfOf (twiceC c) = halfOf c := by
  have hh := half_le c
  have e : (twiceC c).vars.length = 2 * halfOf c := by simp [twiceC]; omega
  exact ⟨e, by rw [halfOf, e]; omega⟩
theorem twice_vars {d : Doms} {c : Con} (hv : VarsIn d c) : VarsIn d (twiceC c) := by
  have hh := half_le c
  refine ⟨by have := (twice_len c).1; have := hv.1; omega, fun v hm => hv.2 v ?_⟩
  rcases List.mem_append.1 hm with hm | hm <;> exact List.mem_of_mem_take hm
theorem twice_step {d : Doms} {c : Con} : stepO (twiceC c) d = .inl (some d) := by
  have hh := half_le c
  obtain ⟨h1, h2⟩ := twice_len c
  unfold stepO
  rw [if_pos]
  unfold placeO
  refine placeF_all fun j hj => ?_
  have e : varAt (twiceC c) j = varAt (twiceC c) (halfOf (twiceC c) + j) := by
    rw [h2] at hj ⊢
    unfold varAt twiceC
    simp only [List.getD_eq_getElem?_getD]
    rw [List.getElem?_append_left (by simp; omega), List.getElem?_append_right (by simp; omega)]
    congr 2
    simp
    omega
  rw [pairO, e]
  simp [knownB]
def oneOf (x : List Int) : List Int := x.take (min x.length 1)
def oneCase (o : Case) : Case := { o with d := o.d.map oneOf }
theorem oneCase_B {o : Case} (h : CaseB o) : CaseB (oneCase o) := by
  refine ⟨h.1, by simpa [oneCase] using h.2.1, fun x hx => ?_⟩
  obtain ⟨y, hy, rfl⟩ := List.mem_map.1 hx
  have := h.2.2 y hy
  simp only [oneOf, List.length_take]
  omega
theorem oneCase_few {o : Case} : ∀ x ∈ laidD (oneCase o), (vals x).length ≤ 1 := by
  intro x hx
  obtain ⟨y, hy, rfl⟩ := List.mem_map.1 hx
  have hy := List.mem_of_mem_take hy
  obtain ⟨z, hz, rfl⟩ := List.mem_map.1 hy
  have := small_le ((oneOf z).take 6)
  simp only [oneOf, List.length_take] at this ⊢
  omega
end Go.Proofs.Ytchajofdjeijfaa
/-! Contracts: domains of one's own, a value that is kept, a value that is looked for; by the program's logic. -/
namespace Go.Proofs.Ytchajofdjeijfaa
open Go Go.RowKit
set_option linter.unusedVariables false
set_option linter.unusedSimpArgs false
set_option maxRecDepth 8000

theorem gown_spec (d : Doms) (hl : d.length * 24 ≤ 140737488355328) (hx : ∀ x ∈ d, x.length * 16 ≤ 140737488355328) : Spec Try.prog 67 false [doms d] [.own 38 1 ((if [] ∈ d then [] else d).map cD), .val (.bool (!decide ([] ∈ d)))] := by
  refine Spec.body Try.func67 rfl rfl rfl fun w0 Z0 => ?_
  repeat' first | refine T.seq ?_ | refine T.block ?_ | refine T.r ?_ | refine J.e rfl rfl rfl rfl ?_ | refine J.nil ?_ | refine J.skip rfl rfl rfl ?_ | refine T.skip ?_ | refine T.exit ?_ | refine T.ret ?_ | refine T.rd rfl (by kernel_rfl) ?_ | refine J.bx rfl rfl rfl rfl rfl rfl ?_
  refine T.sub (Rel.own0 (s := 4) 38 1 rfl) ?_
  refine T.canon (keep := [4, 7, 8, 9]) (os := [4]) rfl (T.listI d (fun pre => [] ∉ pre) (fun n pre post => ⟨[(4, .ref 0), (7, .val false (doms d)), (8, .val true (.int .i64 (d.map cD).length)), (9, .val true (.int .i64 n))], [(0, some (.sl 38 1 true (pre.map cD)))], 1⟩) (fun _ _ h => h) (by simp) ?_ ?_)
  · rintro n pre x post h hn hi ih
    have hlt := at_lt h hn
    have hxl := hx x (by rw [h]; simp)
    repeat' first | refine T.seq ?_ | refine T.block ?_ | refine T.r ?_ | refine J.e rfl rfl rfl rfl ?_ | refine J.nil ?_ | refine J.skip rfl rfl rfl ?_ | refine T.skip ?_ | refine T.exit ?_ | refine T.ret ?_ | refine T.rd rfl (by kernel_rfl) ?_ | refine J.bx rfl rfl rfl rfl rfl rfl ?_
    refine T.ct2 rfl (lt_at h hn) ?_
    repeat' first | refine T.seq ?_ | refine T.block ?_ | refine T.r ?_ | refine J.e rfl rfl rfl rfl ?_ | refine J.nil ?_ | refine J.skip rfl rfl rfl ?_ | refine T.skip ?_ | refine T.exit ?_ | refine T.ret ?_ | refine T.rd rfl (by kernel_rfl) ?_ | refine J.bx rfl rfl rfl rfl rfl rfl ?_
    refine J.i rfl rfl rfl rfl rfl rfl rfl rfl rfl (r := cD x) (by omega) (row_at h hn) rfl ?_
    repeat' first | refine T.seq ?_ | refine T.block ?_ | refine T.r ?_ | refine J.e rfl rfl rfl rfl ?_ | refine J.nil ?_ | refine J.skip rfl rfl rfl ?_ | refine T.skip ?_ | refine T.exit ?_ | refine T.ret ?_ | refine T.rd rfl (by kernel_rfl) ?_ | refine J.bx rfl rfl rfl rfl rfl rfl ?_
    refine T.cd rfl (fun h1 => ?_) (fun h1 => ?_)
    · have hx : x = [] := by simp at h1; exact h1
      have hm : [] ∈ d := by rw [h, hx]; simp
      rw [if_pos hm, decide_eq_true hm]
      repeat' first | refine T.seq ?_ | refine T.block ?_ | refine T.r ?_ | refine J.e rfl rfl rfl rfl ?_ | refine J.nil ?_ | refine J.skip rfl rfl rfl ?_ | refine T.skip ?_ | refine T.exit ?_ | refine T.ret ?_ | refine T.rd rfl (by kernel_rfl) ?_ | refine J.bx rfl rfl rfl rfl rfl rfl ?_
      exact ⟨_, .ownN rfl (.v rfl rfl rfl (fun _ => rfl) .nil)⟩
    · have hx : x ≠ [] := fun e => h1 (by rw [e]; rfl)
      repeat' first | refine T.seq ?_ | refine T.block ?_ | refine T.r ?_ | refine J.e rfl rfl rfl rfl ?_ | refine J.nil ?_ | refine J.skip rfl rfl rfl ?_ | refine T.skip ?_ | refine T.exit ?_ | refine T.ret ?_ | refine T.rd rfl (by kernel_rfl) ?_ | refine J.bx rfl rfl rfl rfl rfl rfl ?_
      refine J.cc rfl rfl rfl rfl rfl (clone_spec x (by omega)).frz rfl rfl ?_
      repeat' first | refine T.seq ?_ | refine T.block ?_ | refine T.r ?_ | refine J.e rfl rfl rfl rfl ?_ | refine J.nil ?_ | refine J.skip rfl rfl rfl ?_ | refine T.skip ?_ | refine T.exit ?_ | refine T.ret ?_ | refine T.rd rfl (by kernel_rfl) ?_ | refine J.bx rfl rfl rfl rfl rfl rfl ?_
      refine J.bv rfl rfl rfl rfl rfl rfl rfl rfl rfl rfl rfl rfl ?_
      repeat' first | refine T.seq ?_ | refine T.block ?_ | refine T.r ?_ | refine J.e rfl rfl rfl rfl ?_ | refine J.nil ?_ | refine J.skip rfl rfl rfl ?_ | refine T.skip ?_ | refine T.exit ?_ | refine T.ret ?_ | refine T.rd rfl (by kernel_rfl) ?_ | refine J.bx rfl rfl rfl rfl rfl rfl ?_
      refine J.aD rfl rfl rfl rfl rfl rfl rfl rfl rfl rfl rfl rfl rfl rfl rfl rfl rfl rfl rfl (by omega) ?_
      repeat' first | refine T.seq ?_ | refine T.block ?_ | refine T.r ?_ | refine J.e rfl rfl rfl rfl ?_ | refine J.nil ?_ | refine J.skip rfl rfl rfl ?_ | refine T.skip ?_ | refine T.exit ?_ | refine T.ret ?_ | refine T.rd rfl (by kernel_rfl) ?_ | refine J.bx rfl rfl rfl rfl rfl rfl ?_
      rw [wrap1 hlt (by omega)]
      exact T.canon (keep := [4, 7, 8, 9]) (os := [4]) rfl (ih (by simp [hi, Ne.symm hx]))
  · intro hi
    repeat' first | refine T.seq ?_ | refine T.block ?_ | refine T.r ?_ | refine J.e rfl rfl rfl rfl ?_ | refine J.nil ?_ | refine J.skip rfl rfl rfl ?_ | refine T.skip ?_ | refine T.exit ?_ | refine T.ret ?_ | refine T.rd rfl (by kernel_rfl) ?_ | refine J.bx rfl rfl rfl rfl rfl rfl ?_
    refine T.cf2 rfl lt_end ?_
    repeat' first | refine T.seq ?_ | refine T.block ?_ | refine T.r ?_ | refine J.e rfl rfl rfl rfl ?_ | refine J.nil ?_ | refine J.skip rfl rfl rfl ?_ | refine T.skip ?_ | refine T.exit ?_ | refine T.ret ?_ | refine T.rd rfl (by kernel_rfl) ?_ | refine J.bx rfl rfl rfl rfl rfl rfl ?_
    exact ⟨_, .o rfl rfl (by rw [if_neg hi]) (fun _ => .inl rfl) (by simp) (.v rfl rfl (by simp [hi]) (fun _ => rfl) .nil)⟩

theorem keep_spec (d : Doms) (v value : Int) (hv : 0 ≤ v ∧ v.toNat < d.length) (hl : ((domAt d v).length + 1) * 16 ≤ 140737488355328) :
    SpecM Try.prog 70 38 1 (d.map cD) [.int .i64 v, .int .i64 value] ((d.set v.toNat (domCut (domAt d v) value value)).map cD) [.bool (!decide (domCut (domAt d v) value value = []))] := by
  refine SpecM.body Try.func70 rfl rfl rfl (by simp [PV.flat]) fun w0 v0 Z1 => ?_
  have hrow : (d.map cD)[v.toNat]? = some (cD (domAt d v)) := by simp [domAt_some hv.2]
  have hc := (domcut_spec (domAt d v) value value hl).frz
  have hrow2 : ((d.set v.toNat (domCut (domAt d v) value value)).map cD)[v.toNat]? = some (cD (domCut (domAt d v) value value)) := by simp [hv.2]
  have hb : decide ((((domCut (domAt d v) value value).map cR).length : Int) > 0) = !decide (domCut (domAt d v) value value = []) := by
    cases domCut (domAt d v) value value <;> simp
  generalize domCut (domAt d v) value value = cx at *
  generalize domAt d v = x at *
  repeat' first | refine T.seq ?_ | refine T.block ?_ | refine T.r ?_ | refine J.e rfl rfl rfl rfl ?_ | refine J.nil ?_ | refine J.skip rfl rfl rfl ?_ | refine T.skip ?_ | refine T.exit ?_ | refine T.ret ?_ | refine T.rd rfl (by kernel_rfl) ?_ | refine J.bx rfl rfl rfl rfl rfl rfl ?_
  refine J.io rfl rfl rfl rfl rfl rfl rfl rfl rfl hv.1 (by simpa using hv.2) rfl ?_
  refine J.lo rfl rfl rfl rfl rfl rfl (r := cD x) hrow rfl ?_
  repeat' first | refine T.seq ?_ | refine T.block ?_ | refine T.r ?_ | refine J.e rfl rfl rfl rfl ?_ | refine J.nil ?_ | refine J.skip rfl rfl rfl ?_ | refine T.skip ?_ | refine T.exit ?_ | refine T.ret ?_ | refine T.rd rfl (by kernel_rfl) ?_ | refine J.bx rfl rfl rfl rfl rfl rfl ?_
  refine J.cc rfl rfl rfl rfl rfl hc rfl rfl ?_
  refine J.io rfl rfl rfl rfl rfl rfl rfl rfl rfl hv.1 (by simpa using hv.2) rfl ?_
  refine J.w1 rfl rfl rfl rfl rfl rfl rfl rfl rfl rfl rfl (fun _ => rfl) hv.2 ?_
  repeat' first | refine T.seq ?_ | refine T.block ?_ | refine T.r ?_ | refine J.e rfl rfl rfl rfl ?_ | refine J.nil ?_ | refine J.skip rfl rfl rfl ?_ | refine T.skip ?_ | refine T.exit ?_ | refine T.ret ?_ | refine T.rd rfl (by kernel_rfl) ?_ | refine J.bx rfl rfl rfl rfl rfl rfl ?_
  refine J.io rfl rfl rfl rfl rfl rfl rfl rfl rfl hv.1 (by simpa using hv.2) rfl ?_
  refine J.lo rfl rfl rfl rfl rfl rfl (r := cD cx) hrow2 rfl ?_
  repeat' first | refine T.seq ?_ | refine T.block ?_ | refine T.r ?_ | refine J.e rfl rfl rfl rfl ?_ | refine J.nil ?_ | refine J.skip rfl rfl rfl ?_ | refine T.skip ?_ | refine T.exit ?_ | refine T.ret ?_ | refine T.rd rfl (by kernel_rfl) ?_ | refine J.bx rfl rfl rfl rfl rfl rfl ?_
  exact ⟨.v rfl rfl (by rw [← hb]) (fun h => by cases h) .nil, _, rfl, rfl⟩

/-- The value with which a literal is so. -/
def litW (k : Int) : Int := wr ((wr (k + 1)).tdiv 2)
theorem lit_spec (k : Int) : Spec Try.prog 69 false [.int .i64 k] [.val (.int .i64 (litW k))] := by
  refine Spec.body Try.func69 rfl rfl rfl fun w0 Z0 => ?_
  repeat' first | refine T.seq ?_ | refine T.block ?_ | refine T.r ?_ | refine J.e rfl rfl rfl rfl ?_ | refine J.nil ?_ | refine J.skip rfl rfl rfl ?_ | refine T.skip ?_ | refine T.exit ?_ | refine T.ret ?_ | refine T.rd rfl (by kernel_rfl) ?_ | refine J.bx rfl rfl rfl rfl rfl rfl ?_
  exact ⟨_, .v rfl rfl rfl (fun _ => rfl) .nil⟩

theorem has1_spec (r : Int × Int) (v : Int) : Spec Try.prog 91 false [.agg (cR r), .ptr [.int .i64 v]] [.val (.bool (decide (r.1 ≤ v) && decide (v ≤ r.2)))] := by
  refine Spec.body Try.func91 rfl rfl rfl fun w0 Z0 => ?_
  repeat' first | refine T.seq ?_ | refine T.block ?_ | refine T.r ?_ | refine J.e rfl rfl rfl rfl ?_ | refine J.nil ?_ | refine J.skip rfl rfl rfl ?_ | refine T.skip ?_ | refine T.exit ?_ | refine T.ret ?_ | refine T.rd rfl (by kernel_rfl) ?_ | refine J.bx rfl rfl rfl rfl rfl rfl ?_
  refine J.g rfl rfl rfl (fun h => ?_) (fun h => ?_)
  · have h : r.1 ≤ v := by simpa using h
    rw [decide_eq_true h]
    repeat' first | refine T.seq ?_ | refine T.block ?_ | refine T.r ?_ | refine J.e rfl rfl rfl rfl ?_ | refine J.nil ?_ | refine J.skip rfl rfl rfl ?_ | refine T.skip ?_ | refine T.exit ?_ | refine T.ret ?_ | refine T.rd rfl (by kernel_rfl) ?_ | refine J.bx rfl rfl rfl rfl rfl rfl ?_
    exact ⟨_, .v rfl rfl rfl (fun _ => rfl) .nil⟩
  · have h : ¬ r.1 ≤ v := by simpa using h
    rw [decide_eq_false h]
    repeat' first | refine T.seq ?_ | refine T.block ?_ | refine T.r ?_ | refine J.e rfl rfl rfl rfl ?_ | refine J.nil ?_ | refine J.skip rfl rfl rfl ?_ | refine T.skip ?_ | refine T.exit ?_ | refine T.ret ?_ | refine T.rd rfl (by kernel_rfl) ?_ | refine J.bx rfl rfl rfl rfl rfl rfl ?_
    exact ⟨_, .v rfl rfl rfl (fun _ => rfl) .nil⟩
theorem find_at {α : Type} {p : α → Bool} {d pre post : List α} {x : α} {n : Nat} (h : d = pre ++ x :: post) (hn : n = pre.length) (hi : ∀ r ∈ pre, p r = false) (hx : p x = true) : (if d.any p then (d.findIdx p : Int) else -1) = n := by
  subst h hn
  have h1 : (pre ++ x :: post).any p = true := by simp [hx]
  rw [if_pos h1, List.findIdx_append]
  have h2 : pre.findIdx p = pre.length := List.findIdx_eq_length.2 hi
  rw [h2, if_neg (by omega), List.findIdx_cons, hx]
  simp
theorem index_spec (f : FuncId) (caps : List PV) (p : Int × Int → Bool) (d : List (Int × Int)) (hl : d.length * 16 ≤ 140737488355328) (hf : ∀ r, Spec Try.prog f false (.agg (cR r) :: caps) [.val (.bool (p r))]) :
    Spec Try.prog 104 false [dm d, .fn (.func f) [] caps] [.val (.int .i64 (if d.any p then d.findIdx p else -1))] := by
  refine Spec.body Try.func104 rfl rfl rfl fun w0 Z0 => ?_
  repeat' first | refine T.seq ?_ | refine T.block ?_ | refine T.r ?_ | refine J.e rfl rfl rfl rfl ?_ | refine J.nil ?_ | refine J.skip rfl rfl rfl ?_ | refine T.skip ?_ | refine T.exit ?_ | refine T.ret ?_ | refine T.rd rfl (by kernel_rfl) ?_ | refine J.bx rfl rfl rfl rfl rfl rfl ?_
  refine T.canon (keep := [0, 1, 6, 7, 8]) (os := []) rfl (T.listI d (fun pre => ∀ r ∈ pre, p r = false) (fun n pre post => ⟨[(0, .val false (dm d)), (1, .val false (.fn (.func f) [] caps)), (6, .val false (dm d)), (7, .val true (.int .i64 (d.map cR).length)), (8, .val true (.int .i64 n))], [], 0⟩) (fun _ _ h => h) (by simp) ?_ ?_)
  · rintro n pre x post h hn hi ih
    have hlt := at_lt h hn
    have hfx := hf x
    repeat' first | refine T.seq ?_ | refine T.block ?_ | refine T.r ?_ | refine J.e rfl rfl rfl rfl ?_ | refine J.nil ?_ | refine J.skip rfl rfl rfl ?_ | refine T.skip ?_ | refine T.exit ?_ | refine T.ret ?_ | refine T.rd rfl (by kernel_rfl) ?_ | refine J.bx rfl rfl rfl rfl rfl rfl ?_
    refine T.ct2 rfl (lt_at h hn) ?_
    repeat' first | refine T.seq ?_ | refine T.block ?_ | refine T.r ?_ | refine J.e rfl rfl rfl rfl ?_ | refine J.nil ?_ | refine J.skip rfl rfl rfl ?_ | refine T.skip ?_ | refine T.exit ?_ | refine T.ret ?_ | refine T.rd rfl (by kernel_rfl) ?_ | refine J.bx rfl rfl rfl rfl rfl rfl ?_
    refine J.i rfl rfl rfl rfl rfl rfl rfl rfl rfl (r := cR x) (by omega) (row_at h hn) rfl ?_
    repeat' first | refine T.seq ?_ | refine T.block ?_ | refine T.r ?_ | refine J.e rfl rfl rfl rfl ?_ | refine J.nil ?_ | refine J.skip rfl rfl rfl ?_ | refine T.skip ?_ | refine T.exit ?_ | refine T.ret ?_ | refine T.rd rfl (by kernel_rfl) ?_ | refine J.bx rfl rfl rfl rfl rfl rfl ?_
    refine J.cc rfl rfl rfl rfl rfl hfx rfl rfl ?_
    repeat' first | refine T.seq ?_ | refine T.block ?_ | refine T.r ?_ | refine J.e rfl rfl rfl rfl ?_ | refine J.nil ?_ | refine J.skip rfl rfl rfl ?_ | refine T.skip ?_ | refine T.exit ?_ | refine T.ret ?_ | refine T.rd rfl (by kernel_rfl) ?_ | refine J.bx rfl rfl rfl rfl rfl rfl ?_
    cases hp : p x
    · refine T.cf rfl ?_
      repeat' first | refine T.seq ?_ | refine T.block ?_ | refine T.r ?_ | refine J.e rfl rfl rfl rfl ?_ | refine J.nil ?_ | refine J.skip rfl rfl rfl ?_ | refine T.skip ?_ | refine T.exit ?_ | refine T.ret ?_ | refine T.rd rfl (by kernel_rfl) ?_ | refine J.bx rfl rfl rfl rfl rfl rfl ?_
      rw [wrap1 hlt (by omega)]
      exact T.canon (keep := [0, 1, 6, 7, 8]) (os := []) rfl (ih (fun r hr => by
        rcases List.mem_append.1 hr with h | h
        · exact hi r h
        · simp at h; subst h; exact hp))
    · refine T.ct rfl ?_
      repeat' first | refine T.seq ?_ | refine T.block ?_ | refine T.r ?_ | refine J.e rfl rfl rfl rfl ?_ | refine J.nil ?_ | refine J.skip rfl rfl rfl ?_ | refine T.skip ?_ | refine T.exit ?_ | refine T.ret ?_ | refine T.rd rfl (by kernel_rfl) ?_ | refine J.bx rfl rfl rfl rfl rfl rfl ?_
      exact ⟨_, .v rfl rfl (by rw [find_at h hn hi hp]) (fun _ => rfl) .nil⟩
  · intro hi
    repeat' first | refine T.seq ?_ | refine T.block ?_ | refine T.r ?_ | refine J.e rfl rfl rfl rfl ?_ | refine J.nil ?_ | refine J.skip rfl rfl rfl ?_ | refine T.skip ?_ | refine T.exit ?_ | refine T.ret ?_ | refine T.rd rfl (by kernel_rfl) ?_ | refine J.bx rfl rfl rfl rfl rfl rfl ?_
    refine T.cf2 rfl lt_end ?_
    repeat' first | refine T.seq ?_ | refine T.block ?_ | refine T.r ?_ | refine J.e rfl rfl rfl rfl ?_ | refine J.nil ?_ | refine J.skip rfl rfl rfl ?_ | refine T.skip ?_ | refine T.exit ?_ | refine T.ret ?_ | refine T.rd rfl (by kernel_rfl) ?_ | refine J.bx rfl rfl rfl rfl rfl rfl ?_
    exact ⟨_, .v rfl rfl (by rw [if_neg (by simpa using hi)]) (fun _ => rfl) .nil⟩
def hasV (d : List (Int × Int)) (v : Int) : Bool := d.any fun r => decide (r.1 ≤ v) && decide (v ≤ r.2)
theorem contains_spec (f : FuncId) (caps : List PV) (p : Int × Int → Bool) (d : List (Int × Int)) (hl : d.length * 16 ≤ 140737488355328) (hf : ∀ r, Spec Try.prog f false (.agg (cR r) :: caps) [.val (.bool (p r))]) :
    Spec Try.prog 90 false [dm d, .fn (.func f) [] caps] [.val (.bool (d.any p))] := by
  refine Spec.body Try.func90 rfl rfl rfl fun w0 Z0 => ?_
  repeat' first | refine T.seq ?_ | refine T.block ?_ | refine T.r ?_ | refine J.e rfl rfl rfl rfl ?_ | refine J.nil ?_ | refine J.skip rfl rfl rfl ?_ | refine T.skip ?_ | refine T.exit ?_ | refine T.ret ?_ | refine T.rd rfl (by kernel_rfl) ?_ | refine J.bx rfl rfl rfl rfl rfl rfl ?_
  refine J.cc rfl rfl rfl rfl rfl (index_spec f caps p d hl hf) rfl rfl ?_
  repeat' first | refine T.seq ?_ | refine T.block ?_ | refine T.r ?_ | refine J.e rfl rfl rfl rfl ?_ | refine J.nil ?_ | refine J.skip rfl rfl rfl ?_ | refine T.skip ?_ | refine T.exit ?_ | refine T.ret ?_ | refine T.rd rfl (by kernel_rfl) ?_ | refine J.bx rfl rfl rfl rfl rfl rfl ?_
  refine ⟨_, .v rfl rfl ?_ (fun _ => rfl) .nil⟩
  cases d.any p
  · rfl
  · show PV.bool (decide ((d.findIdx p : Int) ≥ 0)) = _
    rw [decide_eq_true (by omega)]
theorem dhas_spec (d : List (Int × Int)) (v : Int) (hl : d.length * 16 ≤ 140737488355328) : Spec Try.prog 68 false [dm d, .int .i64 v] [.val (.bool (hasV d v))] := by
  refine Spec.body Try.func68 rfl rfl rfl fun w0 Z0 => ?_
  repeat' first | refine T.seq ?_ | refine T.block ?_ | refine T.r ?_ | refine J.e rfl rfl rfl rfl ?_ | refine J.nil ?_ | refine J.skip rfl rfl rfl ?_ | refine T.skip ?_ | refine T.exit ?_ | refine T.ret ?_ | refine T.rd rfl (by kernel_rfl) ?_ | refine J.bx rfl rfl rfl rfl rfl rfl ?_
  refine J.sub (Rel.unbx (s := 3) (fun _ h => h) rfl rfl) ?_
  refine J.sub (Rel.fp (s := 3) rfl) ?_
  repeat' first | refine T.seq ?_ | refine T.block ?_ | refine T.r ?_ | refine J.e rfl rfl rfl rfl ?_ | refine J.nil ?_ | refine J.skip rfl rfl rfl ?_ | refine T.skip ?_ | refine T.exit ?_ | refine T.ret ?_ | refine T.rd rfl (by kernel_rfl) ?_ | refine J.bx rfl rfl rfl rfl rfl rfl ?_
  refine J.cc rfl rfl rfl rfl rfl (contains_spec _ _ _ d hl fun r => has1_spec r v) rfl rfl ?_
  repeat' first | refine T.seq ?_ | refine T.block ?_ | refine T.r ?_ | refine J.e rfl rfl rfl rfl ?_ | refine J.nil ?_ | refine J.skip rfl rfl rfl ?_ | refine T.skip ?_ | refine T.exit ?_ | refine T.ret ?_ | refine T.rd rfl (by kernel_rfl) ?_ | refine J.bx rfl rfl rfl rfl rfl rfl ?_
  exact ⟨_, .v rfl rfl rfl (fun _ => rfl) .nil⟩
end Go.Proofs.Ytchajofdjeijfaa
/-! Contracts: what tells whether a sum is so, pruned by the program, by the document. -/
namespace Go.Proofs.Ytchajofdjeijfaa
open Go Go.RowKit
set_option linter.unusedVariables false
set_option linter.unusedSimpArgs false
set_option maxRecDepth 8000

/-- A domain's one value kept. -/
def keepO (d : Doms) (b v : Int) : Option Doms := if domCut (domAt d b) v v = [] then none else some (d.set b.toNat (domCut (domAt d b) v v))
/-- The sum that is told of. -/
def sumOf (c : Con) : Con := ⟨0, c.vars, c.coefs, c.op, c.rhs, [], 0⟩
def yesW (d : Doms) (c : Con) : Bool := soW (endsW d c.vars c.coefs) (sumOf c)
def noW (d : Doms) (c : Con) : Bool := soW (endsW d (notW (sumOf c)).vars (notW (sumOf c)).coefs) (notW (sumOf c))
def reifW (d : Doms) (c : Con) (RS RN : Option Doms) : Option Doms :=
  if [] ∈ d then none else
  if yesW d c then keepO d c.b 1 else
  if noW d c then keepO d c.b 0 else
  if hasV (domAt d c.b) 0 = false then RS else
  if hasV (domAt d c.b) 1 = false then RN else some d
theorem lreif_spec (d : Doms) (c : Con) (h : SumIn d c.vars c.coefs) (hcb : ConB (sumOf c)) (hb : 0 ≤ c.b ∧ c.b.toNat < d.length) (hx : ∀ x ∈ d, (x.length + 1) * 16 ≤ 140737488355328) (RS RN : Option Doms)
    (h1 : [] ∉ d → yesW d c = false → noW d c = false → hasV (domAt d c.b) 0 = false → Spec Try.prog 16 false [doms d, .agg (cC (sumOf c))] (pruneRes RS)) (h2 : [] ∉ d → yesW d c = false → noW d c = false → hasV (domAt d c.b) 0 = true → hasV (domAt d c.b) 1 = false → Spec Try.prog 16 false [doms d, .agg (cC (notW (sumOf c)))] (pruneRes RN)) :
    Spec Try.prog 36 false [doms d, .agg (cC c)] (pruneRes (reifW d c RS RN)) := by
  refine Spec.body Try.func36 rfl rfl rfl fun w0 Z0 => ?_
  have hown := gown_spec d h.dl (fun x hm => by have := hx x hm; omega)
  have hkn : Spec Try.prog 21 false [doms d, .agg (cC (sumOf c))] [.val (.bool (yesW d c)), .val (.bool (yesW d c || noW d c))] := lknown_spec d (sumOf c) hcb h
  have hnot := lnot_spec (sumOf c) hcb
  have hrow : (d.map cD)[c.b.toNat]? = some (cD (domAt d c.b)) := by simp [domAt_some hb.2]
  have hxb := hx _ (domAt_mem hb.2)
  have hh0 := dhas_spec (domAt d c.b) 0 (by omega)
  have hh1 := dhas_spec (domAt d c.b) 1 (by omega)
  have hk0 := keep_spec d c.b 0 hb hxb
  have hk1 := keep_spec d c.b 1 hb hxb
  unfold reifW
  unfold keepO
  generalize yesW d c = y at *
  generalize noW d c = z at *
  repeat' first | refine T.seq ?_ | refine T.block ?_ | refine T.r ?_ | refine J.e rfl rfl rfl rfl ?_ | refine J.nil ?_ | refine J.skip rfl rfl rfl ?_ | refine T.skip ?_ | refine T.exit ?_ | refine T.ret ?_ | refine T.rd rfl (by kernel_rfl) ?_ | refine J.bx rfl rfl rfl rfl rfl rfl ?_
  refine J.cc rfl rfl rfl rfl rfl hown rfl rfl ?_
  repeat' first | refine T.seq ?_ | refine T.block ?_ | refine T.r ?_ | refine J.e rfl rfl rfl rfl ?_ | refine J.nil ?_ | refine J.skip rfl rfl rfl ?_ | refine T.skip ?_ | refine T.exit ?_ | refine T.ret ?_ | refine T.rd rfl (by kernel_rfl) ?_ | refine J.bx rfl rfl rfl rfl rfl rfl ?_
  by_cases hm : [] ∈ d
  · rw [if_pos hm, if_pos hm, decide_eq_true hm]
    refine T.ct rfl ?_
    repeat' first | refine T.seq ?_ | refine T.block ?_ | refine T.r ?_ | refine J.e rfl rfl rfl rfl ?_ | refine J.nil ?_ | refine J.skip rfl rfl rfl ?_ | refine T.skip ?_ | refine T.exit ?_ | refine T.ret ?_ | refine T.rd rfl (by kernel_rfl) ?_ | refine J.bx rfl rfl rfl rfl rfl rfl ?_
    exact ⟨_, .ownN rfl (.v rfl rfl rfl (fun _ => rfl) .nil)⟩
  · rw [if_neg hm, if_neg hm, decide_eq_false hm]
    have h1 := h1 hm
    have h2 := h2 hm
    refine T.cf rfl ?_
    repeat' first | refine T.seq ?_ | refine T.block ?_ | refine T.r ?_ | refine J.e rfl rfl rfl rfl ?_ | refine J.nil ?_ | refine J.skip rfl rfl rfl ?_ | refine T.skip ?_ | refine T.exit ?_ | refine T.ret ?_ | refine T.rd rfl (by kernel_rfl) ?_ | refine J.bx rfl rfl rfl rfl rfl rfl ?_
    refine J.al rfl rfl rfl rfl rfl rfl rfl ?_
    refine J.w rfl rfl rfl rfl rfl rfl rfl rfl rfl rfl ?_
    repeat' first | refine T.seq ?_ | refine T.block ?_ | refine T.r ?_ | refine J.e rfl rfl rfl rfl ?_ | refine J.nil ?_ | refine J.skip rfl rfl rfl ?_ | refine T.skip ?_ | refine T.exit ?_ | refine T.ret ?_ | refine T.rd rfl (by kernel_rfl) ?_ | refine J.bx rfl rfl rfl rfl rfl rfl ?_
    refine J.mf rfl rfl rfl rfl rfl rfl rfl ?_
    repeat' first | refine T.seq ?_ | refine T.block ?_ | refine T.r ?_ | refine J.e rfl rfl rfl rfl ?_ | refine J.nil ?_ | refine J.skip rfl rfl rfl ?_ | refine T.skip ?_ | refine T.exit ?_ | refine T.ret ?_ | refine T.rd rfl (by kernel_rfl) ?_ | refine J.bx rfl rfl rfl rfl rfl rfl ?_
    refine J.cc rfl rfl rfl rfl rfl hkn rfl rfl ?_
    repeat' first | refine T.seq ?_ | refine T.block ?_ | refine T.r ?_ | refine J.e rfl rfl rfl rfl ?_ | refine J.nil ?_ | refine J.skip rfl rfl rfl ?_ | refine T.skip ?_ | refine T.exit ?_ | refine T.ret ?_ | refine T.rd rfl (by kernel_rfl) ?_ | refine J.bx rfl rfl rfl rfl rfl rfl ?_
    cases y
    · rw [if_neg (by decide)]
      cases z
      · rw [if_neg (by decide)]
        repeat' first | refine T.seq ?_ | refine T.block ?_ | refine T.r ?_ | refine J.e rfl rfl rfl rfl ?_ | refine J.nil ?_ | refine J.skip rfl rfl rfl ?_ | refine T.skip ?_ | refine T.exit ?_ | refine T.ret ?_ | refine T.rd rfl (by kernel_rfl) ?_ | refine J.bx rfl rfl rfl rfl rfl rfl ?_
        refine T.cf rfl ?_
        repeat' first | refine T.seq ?_ | refine T.block ?_ | refine T.r ?_ | refine J.e rfl rfl rfl rfl ?_ | refine J.nil ?_ | refine J.skip rfl rfl rfl ?_ | refine T.skip ?_ | refine T.exit ?_ | refine T.ret ?_ | refine T.rd rfl (by kernel_rfl) ?_ | refine J.bx rfl rfl rfl rfl rfl rfl ?_
        refine T.cf rfl ?_
        repeat' first | refine T.seq ?_ | refine T.block ?_ | refine T.r ?_ | refine J.e rfl rfl rfl rfl ?_ | refine J.nil ?_ | refine J.skip rfl rfl rfl ?_ | refine T.skip ?_ | refine T.exit ?_ | refine T.ret ?_ | refine T.rd rfl (by kernel_rfl) ?_ | refine J.bx rfl rfl rfl rfl rfl rfl ?_
        refine J.i rfl rfl rfl rfl rfl rfl rfl rfl rfl (r := cD (domAt d c.b)) hb.1 hrow rfl ?_
        repeat' first | refine T.seq ?_ | refine T.block ?_ | refine T.r ?_ | refine J.e rfl rfl rfl rfl ?_ | refine J.nil ?_ | refine J.skip rfl rfl rfl ?_ | refine T.skip ?_ | refine T.exit ?_ | refine T.ret ?_ | refine T.rd rfl (by kernel_rfl) ?_ | refine J.bx rfl rfl rfl rfl rfl rfl ?_
        refine J.cc rfl rfl rfl rfl rfl hh0 rfl rfl ?_
        generalize hasV (domAt d c.b) 0 = e0 at *
        cases e0
        · rw [if_pos rfl]
          repeat' first | refine T.seq ?_ | refine T.block ?_ | refine T.r ?_ | refine J.e rfl rfl rfl rfl ?_ | refine J.nil ?_ | refine J.skip rfl rfl rfl ?_ | refine T.skip ?_ | refine T.exit ?_ | refine T.ret ?_ | refine T.rd rfl (by kernel_rfl) ?_ | refine J.bx rfl rfl rfl rfl rfl rfl ?_
          refine T.ct rfl ?_
          repeat' first | refine T.seq ?_ | refine T.block ?_ | refine T.r ?_ | refine J.e rfl rfl rfl rfl ?_ | refine J.nil ?_ | refine J.skip rfl rfl rfl ?_ | refine T.skip ?_ | refine T.exit ?_ | refine T.ret ?_ | refine T.rd rfl (by kernel_rfl) ?_ | refine J.bx rfl rfl rfl rfl rfl rfl ?_
          refine J.cc rfl rfl rfl rfl rfl (h1 rfl rfl rfl) rfl rfl ?_
          repeat' first | refine T.seq ?_ | refine T.block ?_ | refine T.r ?_ | refine J.e rfl rfl rfl rfl ?_ | refine J.nil ?_ | refine J.skip rfl rfl rfl ?_ | refine T.skip ?_ | refine T.exit ?_ | refine T.ret ?_ | refine T.rd rfl (by kernel_rfl) ?_ | refine J.bx rfl rfl rfl rfl rfl rfl ?_
          exact ⟨_, .o rfl rfl rfl (fun _ => .inl rfl) (by simp) (.v rfl rfl rfl (fun _ => rfl) .nil)⟩
        · rw [if_neg (by decide)]
          repeat' first | refine T.seq ?_ | refine T.block ?_ | refine T.r ?_ | refine J.e rfl rfl rfl rfl ?_ | refine J.nil ?_ | refine J.skip rfl rfl rfl ?_ | refine T.skip ?_ | refine T.exit ?_ | refine T.ret ?_ | refine T.rd rfl (by kernel_rfl) ?_ | refine J.bx rfl rfl rfl rfl rfl rfl ?_
          refine T.cf rfl ?_
          repeat' first | refine T.seq ?_ | refine T.block ?_ | refine T.r ?_ | refine J.e rfl rfl rfl rfl ?_ | refine J.nil ?_ | refine J.skip rfl rfl rfl ?_ | refine T.skip ?_ | refine T.exit ?_ | refine T.ret ?_ | refine T.rd rfl (by kernel_rfl) ?_ | refine J.bx rfl rfl rfl rfl rfl rfl ?_
          refine J.i rfl rfl rfl rfl rfl rfl rfl rfl rfl (r := cD (domAt d c.b)) hb.1 hrow rfl ?_
          repeat' first | refine T.seq ?_ | refine T.block ?_ | refine T.r ?_ | refine J.e rfl rfl rfl rfl ?_ | refine J.nil ?_ | refine J.skip rfl rfl rfl ?_ | refine T.skip ?_ | refine T.exit ?_ | refine T.ret ?_ | refine T.rd rfl (by kernel_rfl) ?_ | refine J.bx rfl rfl rfl rfl rfl rfl ?_
          refine J.cc rfl rfl rfl rfl rfl hh1 rfl rfl ?_
          generalize hasV (domAt d c.b) 1 = e1 at *
          cases e1
          · rw [if_pos rfl]
            repeat' first | refine T.seq ?_ | refine T.block ?_ | refine T.r ?_ | refine J.e rfl rfl rfl rfl ?_ | refine J.nil ?_ | refine J.skip rfl rfl rfl ?_ | refine T.skip ?_ | refine T.exit ?_ | refine T.ret ?_ | refine T.rd rfl (by kernel_rfl) ?_ | refine J.bx rfl rfl rfl rfl rfl rfl ?_
            refine T.ct rfl ?_
            repeat' first | refine T.seq ?_ | refine T.block ?_ | refine T.r ?_ | refine J.e rfl rfl rfl rfl ?_ | refine J.nil ?_ | refine J.skip rfl rfl rfl ?_ | refine T.skip ?_ | refine T.exit ?_ | refine T.ret ?_ | refine T.rd rfl (by kernel_rfl) ?_ | refine J.bx rfl rfl rfl rfl rfl rfl ?_
            refine J.cc rfl rfl rfl rfl rfl hnot rfl rfl ?_
            repeat' first | refine T.seq ?_ | refine T.block ?_ | refine T.r ?_ | refine J.e rfl rfl rfl rfl ?_ | refine J.nil ?_ | refine J.skip rfl rfl rfl ?_ | refine T.skip ?_ | refine T.exit ?_ | refine T.ret ?_ | refine T.rd rfl (by kernel_rfl) ?_ | refine J.bx rfl rfl rfl rfl rfl rfl ?_
            refine J.cc rfl rfl rfl rfl rfl (h2 rfl rfl rfl rfl) rfl rfl ?_
            repeat' first | refine T.seq ?_ | refine T.block ?_ | refine T.r ?_ | refine J.e rfl rfl rfl rfl ?_ | refine J.nil ?_ | refine J.skip rfl rfl rfl ?_ | refine T.skip ?_ | refine T.exit ?_ | refine T.ret ?_ | refine T.rd rfl (by kernel_rfl) ?_ | refine J.bx rfl rfl rfl rfl rfl rfl ?_
            exact ⟨_, .o rfl rfl rfl (fun _ => .inl rfl) (by simp) (.v rfl rfl rfl (fun _ => rfl) .nil)⟩
          · rw [if_neg (by decide)]
            repeat' first | refine T.seq ?_ | refine T.block ?_ | refine T.r ?_ | refine J.e rfl rfl rfl rfl ?_ | refine J.nil ?_ | refine J.skip rfl rfl rfl ?_ | refine T.skip ?_ | refine T.exit ?_ | refine T.ret ?_ | refine T.rd rfl (by kernel_rfl) ?_ | refine J.bx rfl rfl rfl rfl rfl rfl ?_
            refine T.cf rfl ?_
            repeat' first | refine T.seq ?_ | refine T.block ?_ | refine T.r ?_ | refine J.e rfl rfl rfl rfl ?_ | refine J.nil ?_ | refine J.skip rfl rfl rfl ?_ | refine T.skip ?_ | refine T.exit ?_ | refine T.ret ?_ | refine T.rd rfl (by kernel_rfl) ?_ | refine J.bx rfl rfl rfl rfl rfl rfl ?_
            refine T.cf rfl ?_
            repeat' first | refine T.seq ?_ | refine T.block ?_ | refine T.r ?_ | refine J.e rfl rfl rfl rfl ?_ | refine J.nil ?_ | refine J.skip rfl rfl rfl ?_ | refine T.skip ?_ | refine T.exit ?_ | refine T.ret ?_ | refine T.rd rfl (by kernel_rfl) ?_ | refine J.bx rfl rfl rfl rfl rfl rfl ?_
            exact ⟨_, .o rfl rfl rfl (fun _ => .inl rfl) (by simp) (.v rfl rfl rfl (fun _ => rfl) .nil)⟩
      · rw [if_pos rfl]
        repeat' first | refine T.seq ?_ | refine T.block ?_ | refine T.r ?_ | refine J.e rfl rfl rfl rfl ?_ | refine J.nil ?_ | refine J.skip rfl rfl rfl ?_ | refine T.skip ?_ | refine T.exit ?_ | refine T.ret ?_ | refine T.rd rfl (by kernel_rfl) ?_ | refine J.bx rfl rfl rfl rfl rfl rfl ?_
        refine T.cf rfl ?_
        repeat' first | refine T.seq ?_ | refine T.block ?_ | refine T.r ?_ | refine J.e rfl rfl rfl rfl ?_ | refine J.nil ?_ | refine J.skip rfl rfl rfl ?_ | refine T.skip ?_ | refine T.exit ?_ | refine T.ret ?_ | refine T.rd rfl (by kernel_rfl) ?_ | refine J.bx rfl rfl rfl rfl rfl rfl ?_
        refine T.ct rfl ?_
        repeat' first | refine T.seq ?_ | refine T.block ?_ | refine T.r ?_ | refine J.e rfl rfl rfl rfl ?_ | refine J.nil ?_ | refine J.skip rfl rfl rfl ?_ | refine T.skip ?_ | refine T.exit ?_ | refine T.ret ?_ | refine T.rd rfl (by kernel_rfl) ?_ | refine J.bx rfl rfl rfl rfl rfl rfl ?_
        refine J.cmf rfl rfl rfl rfl rfl rfl rfl hk0 rfl rfl rfl ?_
        repeat' first | refine T.seq ?_ | refine T.block ?_ | refine T.r ?_ | refine J.e rfl rfl rfl rfl ?_ | refine J.nil ?_ | refine J.skip rfl rfl rfl ?_ | refine T.skip ?_ | refine T.exit ?_ | refine T.ret ?_ | refine T.rd rfl (by kernel_rfl) ?_ | refine J.bx rfl rfl rfl rfl rfl rfl ?_
        by_cases hk : domCut (domAt d c.b) 0 0 = []
        · rw [if_pos hk, decide_eq_true hk]
          refine T.ct rfl ?_
          repeat' first | refine T.seq ?_ | refine T.block ?_ | refine T.r ?_ | refine J.e rfl rfl rfl rfl ?_ | refine J.nil ?_ | refine J.skip rfl rfl rfl ?_ | refine T.skip ?_ | refine T.exit ?_ | refine T.ret ?_ | refine T.rd rfl (by kernel_rfl) ?_ | refine J.bx rfl rfl rfl rfl rfl rfl ?_
          exact ⟨_, .ownN rfl (.v rfl rfl rfl (fun _ => rfl) .nil)⟩
        · rw [if_neg hk, decide_eq_false hk]
          refine T.cf rfl ?_
          repeat' first | refine T.seq ?_ | refine T.block ?_ | refine T.r ?_ | refine J.e rfl rfl rfl rfl ?_ | refine J.nil ?_ | refine J.skip rfl rfl rfl ?_ | refine T.skip ?_ | refine T.exit ?_ | refine T.ret ?_ | refine T.rd rfl (by kernel_rfl) ?_ | refine J.bx rfl rfl rfl rfl rfl rfl ?_
          exact ⟨_, .o rfl rfl rfl (fun _ => .inl rfl) (by simp) (.v rfl rfl rfl (fun _ => rfl) .nil)⟩
    · rw [if_pos rfl]
      repeat' first | refine T.seq ?_ | refine T.block ?_ | refine T.r ?_ | refine J.e rfl rfl rfl rfl ?_ | refine J.nil ?_ | refine J.skip rfl rfl rfl ?_ | refine T.skip ?_ | refine T.exit ?_ | refine T.ret ?_ | refine T.rd rfl (by kernel_rfl) ?_ | refine J.bx rfl rfl rfl rfl rfl rfl ?_
      refine T.ct rfl ?_
      repeat' first | refine T.seq ?_ | refine T.block ?_ | refine T.r ?_ | refine J.e rfl rfl rfl rfl ?_ | refine J.nil ?_ | refine J.skip rfl rfl rfl ?_ | refine T.skip ?_ | refine T.exit ?_ | refine T.ret ?_ | refine T.rd rfl (by kernel_rfl) ?_ | refine J.bx rfl rfl rfl rfl rfl rfl ?_
      refine J.cmf rfl rfl rfl rfl rfl rfl rfl hk1 rfl rfl rfl ?_
      repeat' first | refine T.seq ?_ | refine T.block ?_ | refine T.r ?_ | refine J.e rfl rfl rfl rfl ?_ | refine J.nil ?_ | refine J.skip rfl rfl rfl ?_ | refine T.skip ?_ | refine T.exit ?_ | refine T.ret ?_ | refine T.rd rfl (by kernel_rfl) ?_ | refine J.bx rfl rfl rfl rfl rfl rfl ?_
      by_cases hk : domCut (domAt d c.b) 1 1 = []
      · rw [if_pos hk, decide_eq_true hk]
        refine T.ct rfl ?_
        repeat' first | refine T.seq ?_ | refine T.block ?_ | refine T.r ?_ | refine J.e rfl rfl rfl rfl ?_ | refine J.nil ?_ | refine J.skip rfl rfl rfl ?_ | refine T.skip ?_ | refine T.exit ?_ | refine T.ret ?_ | refine T.rd rfl (by kernel_rfl) ?_ | refine J.bx rfl rfl rfl rfl rfl rfl ?_
        exact ⟨_, .ownN rfl (.v rfl rfl rfl (fun _ => rfl) .nil)⟩
      · rw [if_neg hk, decide_eq_false hk]
        refine T.cf rfl ?_
        repeat' first | refine T.seq ?_ | refine T.block ?_ | refine T.r ?_ | refine J.e rfl rfl rfl rfl ?_ | refine J.nil ?_ | refine J.skip rfl rfl rfl ?_ | refine T.skip ?_ | refine T.exit ?_ | refine T.ret ?_ | refine T.rd rfl (by kernel_rfl) ?_ | refine J.bx rfl rfl rfl rfl rfl rfl ?_
        exact ⟨_, .o rfl rfl rfl (fun _ => .inl rfl) (by simp) (.v rfl rfl rfl (fun _ => rfl) .nil)⟩
end Go.Proofs.Ytchajofdjeijfaa
/-! Contracts: what tells whether a sum is so, pruned by the document. -/
namespace Go.Proofs.Ytchajofdjeijfaa
open Go Go.RowKit
set_option linter.unusedVariables false
set_option linter.unusedSimpArgs false
set_option maxRecDepth 8000

def toldO (d : Doms) : Option Doms := if [] ∈ d then none else some d
def reifR (d : Doms) (c : Con) (y z : Bool) (RS RN : Option Doms) : Option Doms :=
  if [] ∈ d then none else
  if y then toldO (d.set c.b.toNat (cutR (domAt d c.b) 1 1)) else
  if z then toldO (d.set c.b.toNat (cutR (domAt d c.b) 0 0)) else
  if vals (domAt d c.b) = [1] then RS else
  if vals (domAt d c.b) = [0] then RN else some d
theorem rreif_spec (d : Doms) (c : Con) (h : SumIn d c.vars c.coefs) (hcb : ConB (sumOf c)) (hb : 0 ≤ c.b ∧ c.b.toNat < d.length) (y z : Bool) (hy : soW (endsRW d c.vars c.coefs) (sumOf c) = y) (hz : soW (endsRW d (notW (sumOf c)).vars (notW (sumOf c)).coefs) (notW (sumOf c)) = z) (RS RN : Option Doms)
    (h1 : [] ∉ d → Spec Try.prog 17 false [doms d, .agg (cC (sumOf c))] [.val (doms (RS.getD [])), .val (.bool RS.isSome)]) (h2 : [] ∉ d → Spec Try.prog 17 false [doms d, .agg (cC (notW (sumOf c)))] [.val (doms (RN.getD [])), .val (.bool RN.isSome)]) :
    Spec Try.prog 37 false [doms d, .agg (cC c)] [.val (doms ((reifR d c y z RS RN).getD [])), .val (.bool (reifR d c y z RS RN).isSome)] := by
  refine Spec.body Try.func37 rfl rfl rfl fun w0 Z0 => ?_
  have hkn : Spec Try.prog 22 false [doms d, .agg (cC (sumOf c))] [.val (.bool y), .val (.bool (y || z))] := by
    have := rknown_spec d (sumOf c) hcb h
    rw [show endsRW d (sumOf c).vars (sumOf c).coefs = endsRW d c.vars c.coefs from rfl, hy, hz] at this
    exact this
  have hnot := rnot_spec (sumOf c) hcb
  have hrow : (d.map cD)[c.b.toNat]? = some (cD (domAt d c.b)) := by simp [domAt_some hb.2]
  have hdb := h.dom _ (domAt_mem hb.2)
  have hvl := values_spec (domAt d c.b) hdb.1 (by have := hdb.2.1; omega) hdb.2.2
  have hc0 := (cut_spec (domAt d c.b) 0 0 hdb).frz
  have hc1 := (cut_spec (domAt d c.b) 1 1 hdb).frz
  have ht : ∀ x, Spec Try.prog 50 true [doms (d.set c.b.toNat x)] ([doms (if [] ∈ d.set c.b.toNat x then [] else d.set c.b.toNat x), .bool (!decide ([] ∈ d.set c.b.toNat x))].map .val) := fun x => told_spec _ (by have := h.dl; simp; omega)
  have hem := empty_spec d (by have := h.dl; omega)
  have hli := lists_spec d h.dl fun x hx => (h.dom x hx).2.2
  have hn1 := nums_spec (vals (domAt d c.b)) [1] (by have := hdb.2.1; omega)
  have hn0 := nums_spec (vals (domAt d c.b)) [0] (by have := hdb.2.1; omega)
  unfold reifR
  unfold toldO
  clear hy hz
  repeat' first | refine T.seq ?_ | refine T.block ?_ | refine T.r ?_ | refine J.e rfl rfl rfl rfl ?_ | refine J.nil ?_ | refine J.skip rfl rfl rfl ?_ | refine T.skip ?_ | refine T.exit ?_ | refine T.ret ?_ | refine T.rd rfl (by kernel_rfl) ?_ | refine J.bx rfl rfl rfl rfl rfl rfl ?_
  refine J.cc rfl rfl rfl rfl rfl hem rfl rfl ?_
  repeat' first | refine T.seq ?_ | refine T.block ?_ | refine T.r ?_ | refine J.e rfl rfl rfl rfl ?_ | refine J.nil ?_ | refine J.skip rfl rfl rfl ?_ | refine T.skip ?_ | refine T.exit ?_ | refine T.ret ?_ | refine T.rd rfl (by kernel_rfl) ?_ | refine J.bx rfl rfl rfl rfl rfl rfl ?_
  by_cases hm : [] ∈ d
  · rw [if_pos hm, decide_eq_true hm]
    refine T.ct rfl ?_
    repeat' first | refine T.seq ?_ | refine T.block ?_ | refine T.r ?_ | refine J.e rfl rfl rfl rfl ?_ | refine J.nil ?_ | refine J.skip rfl rfl rfl ?_ | refine T.skip ?_ | refine T.exit ?_ | refine T.ret ?_ | refine T.rd rfl (by kernel_rfl) ?_ | refine J.bx rfl rfl rfl rfl rfl rfl ?_
    exact ⟨_, .v rfl rfl rfl (fun _ => rfl) (.v rfl rfl rfl (fun _ => rfl) .nil)⟩
  · rw [if_neg hm, decide_eq_false hm]
    have h1 := h1 hm
    have h2 := h2 hm
    refine T.cf rfl ?_
    repeat' first | refine T.seq ?_ | refine T.block ?_ | refine T.r ?_ | refine J.e rfl rfl rfl rfl ?_ | refine J.nil ?_ | refine J.skip rfl rfl rfl ?_ | refine T.skip ?_ | refine T.exit ?_ | refine T.ret ?_ | refine T.rd rfl (by kernel_rfl) ?_ | refine J.bx rfl rfl rfl rfl rfl rfl ?_
    refine J.al rfl rfl rfl rfl rfl rfl rfl ?_
    refine J.w rfl rfl rfl rfl rfl rfl rfl rfl rfl rfl ?_
    repeat' first | refine T.seq ?_ | refine T.block ?_ | refine T.r ?_ | refine J.e rfl rfl rfl rfl ?_ | refine J.nil ?_ | refine J.skip rfl rfl rfl ?_ | refine T.skip ?_ | refine T.exit ?_ | refine T.ret ?_ | refine T.rd rfl (by kernel_rfl) ?_ | refine J.bx rfl rfl rfl rfl rfl rfl ?_
    refine J.cc rfl rfl rfl rfl rfl hkn rfl rfl ?_
    repeat' first | refine T.seq ?_ | refine T.block ?_ | refine T.r ?_ | refine J.e rfl rfl rfl rfl ?_ | refine J.nil ?_ | refine J.skip rfl rfl rfl ?_ | refine T.skip ?_ | refine T.exit ?_ | refine T.ret ?_ | refine T.rd rfl (by kernel_rfl) ?_ | refine J.bx rfl rfl rfl rfl rfl rfl ?_
    refine J.i rfl rfl rfl rfl rfl rfl rfl rfl rfl (r := cD (domAt d c.b)) hb.1 hrow rfl ?_
    repeat' first | refine T.seq ?_ | refine T.block ?_ | refine T.r ?_ | refine J.e rfl rfl rfl rfl ?_ | refine J.nil ?_ | refine J.skip rfl rfl rfl ?_ | refine T.skip ?_ | refine T.exit ?_ | refine T.ret ?_ | refine T.rd rfl (by kernel_rfl) ?_ | refine J.bx rfl rfl rfl rfl rfl rfl ?_
    refine J.cc rfl rfl rfl rfl rfl hvl rfl rfl ?_
    repeat' first | refine T.seq ?_ | refine T.block ?_ | refine T.r ?_ | refine J.e rfl rfl rfl rfl ?_ | refine J.nil ?_ | refine J.skip rfl rfl rfl ?_ | refine T.skip ?_ | refine T.exit ?_ | refine T.ret ?_ | refine T.rd rfl (by kernel_rfl) ?_ | refine J.bx rfl rfl rfl rfl rfl rfl ?_
    cases y
    · rw [if_neg (by decide)]
      cases z
      · rw [if_neg (by decide)]
        repeat' first | refine T.seq ?_ | refine T.block ?_ | refine T.r ?_ | refine J.e rfl rfl rfl rfl ?_ | refine J.nil ?_ | refine J.skip rfl rfl rfl ?_ | refine T.skip ?_ | refine T.exit ?_ | refine T.ret ?_ | refine T.rd rfl (by kernel_rfl) ?_ | refine J.bx rfl rfl rfl rfl rfl rfl ?_
        refine T.cf rfl ?_
        repeat' first | refine T.seq ?_ | refine T.block ?_ | refine T.r ?_ | refine J.e rfl rfl rfl rfl ?_ | refine J.nil ?_ | refine J.skip rfl rfl rfl ?_ | refine T.skip ?_ | refine T.exit ?_ | refine T.ret ?_ | refine T.rd rfl (by kernel_rfl) ?_ | refine J.bx rfl rfl rfl rfl rfl rfl ?_
        refine J.bv rfl rfl rfl rfl rfl rfl rfl rfl rfl rfl rfl rfl ?_
        refine J.cc rfl rfl rfl rfl rfl hn1 rfl rfl ?_
        repeat' first | refine T.seq ?_ | refine T.block ?_ | refine T.r ?_ | refine J.e rfl rfl rfl rfl ?_ | refine J.nil ?_ | refine J.skip rfl rfl rfl ?_ | refine T.skip ?_ | refine T.exit ?_ | refine T.ret ?_ | refine T.rd rfl (by kernel_rfl) ?_ | refine J.bx rfl rfl rfl rfl rfl rfl ?_
        by_cases e1 : vals (domAt d c.b) = [1]
        · rw [if_pos e1, decide_eq_true e1]
          refine T.ct rfl ?_
          repeat' first | refine T.seq ?_ | refine T.block ?_ | refine T.r ?_ | refine J.e rfl rfl rfl rfl ?_ | refine J.nil ?_ | refine J.skip rfl rfl rfl ?_ | refine T.skip ?_ | refine T.exit ?_ | refine T.ret ?_ | refine T.rd rfl (by kernel_rfl) ?_ | refine J.bx rfl rfl rfl rfl rfl rfl ?_
          refine J.cc rfl rfl rfl rfl rfl h1 rfl rfl ?_
          repeat' first | refine T.seq ?_ | refine T.block ?_ | refine T.r ?_ | refine J.e rfl rfl rfl rfl ?_ | refine J.nil ?_ | refine J.skip rfl rfl rfl ?_ | refine T.skip ?_ | refine T.exit ?_ | refine T.ret ?_ | refine T.rd rfl (by kernel_rfl) ?_ | refine J.bx rfl rfl rfl rfl rfl rfl ?_
          exact ⟨_, .v rfl rfl rfl (fun _ => rfl) (.v rfl rfl rfl (fun _ => rfl) .nil)⟩
        · rw [if_neg e1, decide_eq_false e1]
          refine T.cf rfl ?_
          repeat' first | refine T.seq ?_ | refine T.block ?_ | refine T.r ?_ | refine J.e rfl rfl rfl rfl ?_ | refine J.nil ?_ | refine J.skip rfl rfl rfl ?_ | refine T.skip ?_ | refine T.exit ?_ | refine T.ret ?_ | refine T.rd rfl (by kernel_rfl) ?_ | refine J.bx rfl rfl rfl rfl rfl rfl ?_
          refine J.bv rfl rfl rfl rfl rfl rfl rfl rfl rfl rfl rfl rfl ?_
          refine J.cc rfl rfl rfl rfl rfl hn0 rfl rfl ?_
          repeat' first | refine T.seq ?_ | refine T.block ?_ | refine T.r ?_ | refine J.e rfl rfl rfl rfl ?_ | refine J.nil ?_ | refine J.skip rfl rfl rfl ?_ | refine T.skip ?_ | refine T.exit ?_ | refine T.ret ?_ | refine T.rd rfl (by kernel_rfl) ?_ | refine J.bx rfl rfl rfl rfl rfl rfl ?_
          by_cases e0 : vals (domAt d c.b) = [0]
          · rw [if_pos e0, decide_eq_true e0]
            refine T.ct rfl ?_
            repeat' first | refine T.seq ?_ | refine T.block ?_ | refine T.r ?_ | refine J.e rfl rfl rfl rfl ?_ | refine J.nil ?_ | refine J.skip rfl rfl rfl ?_ | refine T.skip ?_ | refine T.exit ?_ | refine T.ret ?_ | refine T.rd rfl (by kernel_rfl) ?_ | refine J.bx rfl rfl rfl rfl rfl rfl ?_
            refine J.cc rfl rfl rfl rfl rfl hnot rfl rfl ?_
            refine J.cc rfl rfl rfl rfl rfl h2 rfl rfl ?_
            repeat' first | refine T.seq ?_ | refine T.block ?_ | refine T.r ?_ | refine J.e rfl rfl rfl rfl ?_ | refine J.nil ?_ | refine J.skip rfl rfl rfl ?_ | refine T.skip ?_ | refine T.exit ?_ | refine T.ret ?_ | refine T.rd rfl (by kernel_rfl) ?_ | refine J.bx rfl rfl rfl rfl rfl rfl ?_
            exact ⟨_, .v rfl rfl rfl (fun _ => rfl) (.v rfl rfl rfl (fun _ => rfl) .nil)⟩
          · rw [if_neg e0, decide_eq_false e0]
            refine T.cf rfl ?_
            repeat' first | refine T.seq ?_ | refine T.block ?_ | refine T.r ?_ | refine J.e rfl rfl rfl rfl ?_ | refine J.nil ?_ | refine J.skip rfl rfl rfl ?_ | refine T.skip ?_ | refine T.exit ?_ | refine T.ret ?_ | refine T.rd rfl (by kernel_rfl) ?_ | refine J.bx rfl rfl rfl rfl rfl rfl ?_
            refine J.cc rfl rfl rfl rfl rfl hli rfl rfl ?_
            repeat' first | refine J.e rfl rfl rfl rfl ?_ | refine J.skip rfl rfl rfl ?_ | refine J.bx rfl rfl rfl rfl rfl rfl ?_
            refine J.sub (Rel.frz (s := 4) (fun _ h => h) rfl rfl) ?_
            repeat' first | refine T.seq ?_ | refine T.block ?_ | refine T.r ?_ | refine J.e rfl rfl rfl rfl ?_ | refine J.nil ?_ | refine J.skip rfl rfl rfl ?_ | refine T.skip ?_ | refine T.exit ?_ | refine T.ret ?_ | refine T.rd rfl (by kernel_rfl) ?_ | refine J.bx rfl rfl rfl rfl rfl rfl ?_
            exact ⟨_, .v rfl rfl rfl (fun _ => rfl) (.v rfl rfl rfl (fun _ => rfl) .nil)⟩
      · rw [if_pos rfl]
        repeat' first | refine T.seq ?_ | refine T.block ?_ | refine T.r ?_ | refine J.e rfl rfl rfl rfl ?_ | refine J.nil ?_ | refine J.skip rfl rfl rfl ?_ | refine T.skip ?_ | refine T.exit ?_ | refine T.ret ?_ | refine T.rd rfl (by kernel_rfl) ?_ | refine J.bx rfl rfl rfl rfl rfl rfl ?_
        refine T.ct rfl ?_
        repeat' first | refine T.seq ?_ | refine T.block ?_ | refine T.r ?_ | refine J.e rfl rfl rfl rfl ?_ | refine J.nil ?_ | refine J.skip rfl rfl rfl ?_ | refine T.skip ?_ | refine T.exit ?_ | refine T.ret ?_ | refine T.rd rfl (by kernel_rfl) ?_ | refine J.bx rfl rfl rfl rfl rfl rfl ?_
        refine T.cf rfl ?_
        repeat' first | refine T.seq ?_ | refine T.block ?_ | refine T.r ?_ | refine J.e rfl rfl rfl rfl ?_ | refine J.nil ?_ | refine J.skip rfl rfl rfl ?_ | refine T.skip ?_ | refine T.exit ?_ | refine T.ret ?_ | refine T.rd rfl (by kernel_rfl) ?_ | refine J.bx rfl rfl rfl rfl rfl rfl ?_
        refine J.cc rfl rfl rfl rfl rfl hli rfl rfl ?_
        repeat' first | refine J.e rfl rfl rfl rfl ?_ | refine J.skip rfl rfl rfl ?_ | refine J.bx rfl rfl rfl rfl rfl rfl ?_
        refine J.nil ?_
        refine T.seq ?_
        refine T.rdw 13 rfl (by kernel_rfl) rfl ?_
        repeat' first | refine J.e rfl rfl rfl rfl ?_ | refine J.skip rfl rfl rfl ?_ | refine J.bx rfl rfl rfl rfl rfl rfl ?_
        refine J.i rfl rfl rfl rfl rfl rfl rfl rfl rfl (r := cD (domAt d c.b)) hb.1 hrow rfl ?_
        repeat' first | refine J.e rfl rfl rfl rfl ?_ | refine J.skip rfl rfl rfl ?_ | refine J.bx rfl rfl rfl rfl rfl rfl ?_
        refine J.cc rfl rfl rfl rfl rfl hc0 rfl rfl ?_
        refine J.io rfl rfl rfl rfl rfl rfl rfl rfl rfl hb.1 (by simpa using hb.2) rfl ?_
        refine J.wd1 rfl rfl rfl rfl rfl rfl rfl rfl rfl rfl rfl (enc := cD) (z := cutR (domAt d c.b) 0 0) (fun _ => rfl) hb.2 ?_
        refine J.nil ?_
        refine ⟨rfl, ?_⟩
        refine J.nil ?_
        refine T.sub (Rel.frz (s := 11) (fun _ h => h) rfl rfl) ?_
        repeat' first | refine T.seq ?_ | refine T.block ?_ | refine T.r ?_ | refine J.e rfl rfl rfl rfl ?_ | refine J.nil ?_ | refine J.skip rfl rfl rfl ?_ | refine T.skip ?_ | refine T.exit ?_ | refine T.ret ?_ | refine T.rd rfl (by kernel_rfl) ?_ | refine J.bx rfl rfl rfl rfl rfl rfl ?_
        refine J.ct rfl rfl rfl rfl rfl (ht (cutR (domAt d c.b) 0 0)) rfl rfl ?_
        repeat' first | refine T.seq ?_ | refine T.block ?_ | refine T.r ?_ | refine J.e rfl rfl rfl rfl ?_ | refine J.nil ?_ | refine J.skip rfl rfl rfl ?_ | refine T.skip ?_ | refine T.exit ?_ | refine T.ret ?_ | refine T.rd rfl (by kernel_rfl) ?_ | refine J.bx rfl rfl rfl rfl rfl rfl ?_
        by_cases hk : [] ∈ d.set c.b.toNat (cutR (domAt d c.b) 0 0)
        · rw [if_pos hk, if_pos hk, decide_eq_true hk]
          exact ⟨_, .v rfl rfl rfl (fun _ => rfl) (.v rfl rfl rfl (fun _ => rfl) .nil)⟩
        · rw [if_neg hk, if_neg hk, decide_eq_false hk]
          exact ⟨_, .v rfl rfl rfl (fun _ => rfl) (.v rfl rfl rfl (fun _ => rfl) .nil)⟩
    · rw [if_pos rfl]
      repeat' first | refine T.seq ?_ | refine T.block ?_ | refine T.r ?_ | refine J.e rfl rfl rfl rfl ?_ | refine J.nil ?_ | refine J.skip rfl rfl rfl ?_ | refine T.skip ?_ | refine T.exit ?_ | refine T.ret ?_ | refine T.rd rfl (by kernel_rfl) ?_ | refine J.bx rfl rfl rfl rfl rfl rfl ?_
      refine T.ct rfl ?_
      repeat' first | refine T.seq ?_ | refine T.block ?_ | refine T.r ?_ | refine J.e rfl rfl rfl rfl ?_ | refine J.nil ?_ | refine J.skip rfl rfl rfl ?_ | refine T.skip ?_ | refine T.exit ?_ | refine T.ret ?_ | refine T.rd rfl (by kernel_rfl) ?_ | refine J.bx rfl rfl rfl rfl rfl rfl ?_
      refine T.ct rfl ?_
      repeat' first | refine T.seq ?_ | refine T.block ?_ | refine T.r ?_ | refine J.e rfl rfl rfl rfl ?_ | refine J.nil ?_ | refine J.skip rfl rfl rfl ?_ | refine T.skip ?_ | refine T.exit ?_ | refine T.ret ?_ | refine T.rd rfl (by kernel_rfl) ?_ | refine J.bx rfl rfl rfl rfl rfl rfl ?_
      refine J.cc rfl rfl rfl rfl rfl hli rfl rfl ?_
      repeat' first | refine J.e rfl rfl rfl rfl ?_ | refine J.skip rfl rfl rfl ?_ | refine J.bx rfl rfl rfl rfl rfl rfl ?_
      refine J.nil ?_
      refine T.seq ?_
      refine T.rdw 13 rfl (by kernel_rfl) rfl ?_
      repeat' first | refine J.e rfl rfl rfl rfl ?_ | refine J.skip rfl rfl rfl ?_ | refine J.bx rfl rfl rfl rfl rfl rfl ?_
      refine J.i rfl rfl rfl rfl rfl rfl rfl rfl rfl (r := cD (domAt d c.b)) hb.1 hrow rfl ?_
      repeat' first | refine J.e rfl rfl rfl rfl ?_ | refine J.skip rfl rfl rfl ?_ | refine J.bx rfl rfl rfl rfl rfl rfl ?_
      refine J.cc rfl rfl rfl rfl rfl hc1 rfl rfl ?_
      refine J.io rfl rfl rfl rfl rfl rfl rfl rfl rfl hb.1 (by simpa using hb.2) rfl ?_
      refine J.wd1 rfl rfl rfl rfl rfl rfl rfl rfl rfl rfl rfl (enc := cD) (z := cutR (domAt d c.b) 1 1) (fun _ => rfl) hb.2 ?_
      refine J.nil ?_
      refine ⟨rfl, ?_⟩
      refine J.nil ?_
      refine T.sub (Rel.frz (s := 11) (fun _ h => h) rfl rfl) ?_
      repeat' first | refine T.seq ?_ | refine T.block ?_ | refine T.r ?_ | refine J.e rfl rfl rfl rfl ?_ | refine J.nil ?_ | refine J.skip rfl rfl rfl ?_ | refine T.skip ?_ | refine T.exit ?_ | refine T.ret ?_ | refine T.rd rfl (by kernel_rfl) ?_ | refine J.bx rfl rfl rfl rfl rfl rfl ?_
      refine J.ct rfl rfl rfl rfl rfl (ht (cutR (domAt d c.b) 1 1)) rfl rfl ?_
      repeat' first | refine T.seq ?_ | refine T.block ?_ | refine T.r ?_ | refine J.e rfl rfl rfl rfl ?_ | refine J.nil ?_ | refine J.skip rfl rfl rfl ?_ | refine T.skip ?_ | refine T.exit ?_ | refine T.ret ?_ | refine T.rd rfl (by kernel_rfl) ?_ | refine J.bx rfl rfl rfl rfl rfl rfl ?_
      by_cases hk : [] ∈ d.set c.b.toNat (cutR (domAt d c.b) 1 1)
      · rw [if_pos hk, if_pos hk, decide_eq_true hk]
        exact ⟨_, .v rfl rfl rfl (fun _ => rfl) (.v rfl rfl rfl (fun _ => rfl) .nil)⟩
      · rw [if_neg hk, if_neg hk, decide_eq_false hk]
        exact ⟨_, .v rfl rfl rfl (fun _ => rfl) (.v rfl rfl rfl (fun _ => rfl) .nil)⟩

end Go.Proofs.Ytchajofdjeijfaa
/-! Contracts: a clause, pruned by the program. -/
namespace Go.Proofs.Ytchajofdjeijfaa
open Go Go.RowKit
set_option linter.unusedVariables false
set_option linter.unusedSimpArgs false
set_option maxRecDepth 8000

/-- May a literal be so? -/
def litB (d : Doms) (p : Int × Int) : Bool := hasV (domAt d p.1) (litW p.2)
/-- The place of the one literal that may be so (-1: of none); none: there are two. -/
def clGo (d : Doms) : Nat → List (Int × Int) → Int → Option Int
  | _, [], op => some op
  | i, p :: l, op => if litB d p = false then clGo d (i + 1) l op else if 0 ≤ op then none else clGo d (i + 1) l i
def clauseO (d : Doms) (c : Con) (r : Option Int) : Option Doms :=
  match r with
  | none => some d
  | some op => if op < 0 then none else keepO d (varAt c op.toNat) (litW (coefAt c op.toNat))
def clauseW (d : Doms) (c : Con) : Option Doms := if [] ∈ d then none else clauseO d c (clGo d 0 (c.vars.zip c.coefs) (-1))
/-- Domains and literals over them. -/
structure ClIn (d : Doms) (c : Con) : Prop where
  len : c.vars.length = c.coefs.length
  vl : c.vars.length * 8 ≤ 140737488355328
  vin : ∀ v ∈ c.vars, 0 ≤ v ∧ v.toNat < d.length
  dl : d.length * 24 ≤ 140737488355328
  dom : ∀ x ∈ d, (x.length + 1) * 16 ≤ 140737488355328
theorem lclause_spec (d : Doms) (c : Con) (h : ClIn d c) : Spec Try.prog 34 false [doms d, .agg (cC c)] (pruneRes (clauseW d c)) := by
  refine Spec.body Try.func34 rfl rfl rfl fun w0 Z0 => ?_
  obtain ⟨hlen, hvl, hvin, hdl, hdom⟩ := h
  have hown := gown_spec d hdl (fun x hm => by have := hdom x hm; omega)
  unfold clauseW
  repeat' first | refine T.seq ?_ | refine T.block ?_ | refine T.r ?_ | refine J.e rfl rfl rfl rfl ?_ | refine J.nil ?_ | refine J.skip rfl rfl rfl ?_ | refine T.skip ?_ | refine T.exit ?_ | refine T.ret ?_ | refine T.rd rfl (by kernel_rfl) ?_ | refine J.bx rfl rfl rfl rfl rfl rfl ?_
  refine J.cc rfl rfl rfl rfl rfl hown rfl rfl ?_
  repeat' first | refine T.seq ?_ | refine T.block ?_ | refine T.r ?_ | refine J.e rfl rfl rfl rfl ?_ | refine J.nil ?_ | refine J.skip rfl rfl rfl ?_ | refine T.skip ?_ | refine T.exit ?_ | refine T.ret ?_ | refine T.rd rfl (by kernel_rfl) ?_ | refine J.bx rfl rfl rfl rfl rfl rfl ?_
  by_cases hm : [] ∈ d
  · rw [if_pos hm, if_pos hm, decide_eq_true hm]
    refine T.ct rfl ?_
    repeat' first | refine T.seq ?_ | refine T.block ?_ | refine T.r ?_ | refine J.e rfl rfl rfl rfl ?_ | refine J.nil ?_ | refine J.skip rfl rfl rfl ?_ | refine T.skip ?_ | refine T.exit ?_ | refine T.ret ?_ | refine T.rd rfl (by kernel_rfl) ?_ | refine J.bx rfl rfl rfl rfl rfl rfl ?_
    exact ⟨_, .ownN rfl (.v rfl rfl rfl (fun _ => rfl) .nil)⟩
  · rw [if_neg hm, if_neg hm, decide_eq_false hm]
    refine T.cf rfl ?_
    generalize hres : clGo d 0 (c.vars.zip c.coefs) (-1) = res
    repeat' first | refine T.seq ?_ | refine T.block ?_ | refine T.r ?_ | refine J.e rfl rfl rfl rfl ?_ | refine J.nil ?_ | refine J.skip rfl rfl rfl ?_ | refine T.skip ?_ | refine T.exit ?_ | refine T.ret ?_ | refine T.rd rfl (by kernel_rfl) ?_ | refine J.bx rfl rfl rfl rfl rfl rfl ?_
    refine T.canon (keep := [3, 6, 8, 19, 20, 21]) (os := [3, 6]) rfl (T.ind (fun s : Nat × Int => ⟨[(3, .optr 0 0 0 0), (6, .ref 1), (8, .val true (.int .i64 s.2)), (19, .val false (ints c.vars)), (20, .val true (.int .i64 (c.vars.map cI).length)), (21, .val true (.int .i64 s.1))], [(0, some (.box false (cC c))), (1, some (.sl 38 1 true (d.map cD)))], 2⟩)
      (fun s => s.1 ≤ c.vars.length ∧ clGo d s.1 ((c.vars.zip c.coefs).drop s.1) s.2 = res ∧ s.2 < s.1) (fun s => c.vars.length - s.1) (0, -1) ⟨by simp, hres, by decide⟩ (fun _ _ h => h) ?_)
    rintro ⟨i, op⟩ ⟨hil, he, hop⟩ ih
    simp only at hil he hop
    dsimp only
    repeat' first | refine T.seq ?_ | refine T.block ?_ | refine T.r ?_ | refine J.e rfl rfl rfl rfl ?_ | refine J.nil ?_ | refine J.skip rfl rfl rfl ?_ | refine T.skip ?_ | refine T.exit ?_ | refine T.ret ?_ | refine T.rd rfl (by kernel_rfl) ?_ | refine J.bx rfl rfl rfl rfl rfl rfl ?_
    refine T.cd rfl (fun h1 => ?_) (fun h1 => ?_)
    · have h1 : i < c.vars.length := by simpa using h1
      have h2 : i < c.coefs.length := by omega
      have hv := hvin _ (List.getElem_mem h1)
      have hx := hdom _ (domAt_mem hv.2)
      have hrow : (d.map cD)[c.vars[i].toNat]? = some (cD (domAt d c.vars[i])) := by simp [domAt_some hv.2]
      have hz : i < (c.vars.zip c.coefs).length := by simp; omega
      rw [List.drop_eq_getElem_cons hz, List.getElem_zip, clGo] at he
      have hhas := dhas_spec (domAt d c.vars[i]) (litW c.coefs[i]) (by omega)
      have hlb : litB d (c.vars[i], c.coefs[i]) = hasV (domAt d c.vars[i]) (litW c.coefs[i]) := rfl
      rw [← hlb] at hhas
      generalize litB d (c.vars[i], c.coefs[i]) = b at *
      repeat' first | refine T.seq ?_ | refine T.block ?_ | refine T.r ?_ | refine J.e rfl rfl rfl rfl ?_ | refine J.nil ?_ | refine J.skip rfl rfl rfl ?_ | refine T.skip ?_ | refine T.exit ?_ | refine T.ret ?_ | refine T.rd rfl (by kernel_rfl) ?_ | refine J.bx rfl rfl rfl rfl rfl rfl ?_
      refine J.i rfl rfl rfl rfl rfl rfl rfl rfl rfl (r := cI c.vars[i]) (by omega) (row_i h1) rfl ?_
      repeat' first | refine T.seq ?_ | refine T.block ?_ | refine T.r ?_ | refine J.e rfl rfl rfl rfl ?_ | refine J.nil ?_ | refine J.skip rfl rfl rfl ?_ | refine T.skip ?_ | refine T.exit ?_ | refine T.ret ?_ | refine T.rd rfl (by kernel_rfl) ?_ | refine J.bx rfl rfl rfl rfl rfl rfl ?_
      refine J.io rfl rfl rfl rfl rfl rfl rfl rfl rfl hv.1 (by simpa using hv.2) rfl ?_
      refine J.lo rfl rfl rfl rfl rfl rfl (r := cD (domAt d c.vars[i])) hrow rfl ?_
      repeat' first | refine T.seq ?_ | refine T.block ?_ | refine T.r ?_ | refine J.e rfl rfl rfl rfl ?_ | refine J.nil ?_ | refine J.skip rfl rfl rfl ?_ | refine T.skip ?_ | refine T.exit ?_ | refine T.ret ?_ | refine T.rd rfl (by kernel_rfl) ?_ | refine J.bx rfl rfl rfl rfl rfl rfl ?_
      refine J.i rfl rfl rfl rfl rfl rfl rfl rfl rfl (r := cI c.coefs[i]) (by omega) (row_i h2) rfl ?_
      repeat' first | refine T.seq ?_ | refine T.block ?_ | refine T.r ?_ | refine J.e rfl rfl rfl rfl ?_ | refine J.nil ?_ | refine J.skip rfl rfl rfl ?_ | refine T.skip ?_ | refine T.exit ?_ | refine T.ret ?_ | refine T.rd rfl (by kernel_rfl) ?_ | refine J.bx rfl rfl rfl rfl rfl rfl ?_
      refine J.cc rfl rfl rfl rfl rfl (lit_spec c.coefs[i]) rfl rfl ?_
      refine J.cc rfl rfl rfl rfl rfl hhas rfl rfl ?_
      repeat' first | refine T.seq ?_ | refine T.block ?_ | refine T.r ?_ | refine J.e rfl rfl rfl rfl ?_ | refine J.nil ?_ | refine J.skip rfl rfl rfl ?_ | refine T.skip ?_ | refine T.exit ?_ | refine T.ret ?_ | refine T.rd rfl (by kernel_rfl) ?_ | refine J.bx rfl rfl rfl rfl rfl rfl ?_
      cases b
      · rw [if_pos rfl] at he
        refine T.ct rfl ?_
        repeat' first | refine T.seq ?_ | refine T.block ?_ | refine T.r ?_ | refine J.e rfl rfl rfl rfl ?_ | refine J.nil ?_ | refine J.skip rfl rfl rfl ?_ | refine T.skip ?_ | refine T.exit ?_ | refine T.ret ?_ | refine T.rd rfl (by kernel_rfl) ?_ | refine J.bx rfl rfl rfl rfl rfl rfl ?_
        rw [wrap1 (l := c.vars.length) (by omega) (by omega)]
        exact T.canon (keep := [3, 6, 8, 19, 20, 21]) (os := [3, 6]) rfl (ih (i + 1, op) ⟨by simp only; omega, he, by simp only; omega⟩ (by simp only; omega))
      · rw [if_neg (by decide)] at he
        refine T.cf rfl ?_
        repeat' first | refine T.seq ?_ | refine T.block ?_ | refine T.r ?_ | refine J.e rfl rfl rfl rfl ?_ | refine J.nil ?_ | refine J.skip rfl rfl rfl ?_ | refine T.skip ?_ | refine T.exit ?_ | refine T.ret ?_ | refine T.rd rfl (by kernel_rfl) ?_ | refine J.bx rfl rfl rfl rfl rfl rfl ?_
        refine T.cd rfl (fun h3 => ?_) (fun h3 => ?_)
        · have h3 : 0 ≤ op := h3
          rw [if_pos h3] at he
          subst he
          repeat' first | refine T.seq ?_ | refine T.block ?_ | refine T.r ?_ | refine J.e rfl rfl rfl rfl ?_ | refine J.nil ?_ | refine J.skip rfl rfl rfl ?_ | refine T.skip ?_ | refine T.exit ?_ | refine T.ret ?_ | refine T.rd rfl (by kernel_rfl) ?_ | refine J.bx rfl rfl rfl rfl rfl rfl ?_
          exact ⟨_, .o rfl rfl rfl (fun _ => .inl rfl) (by simp) (.v rfl rfl rfl (fun _ => rfl) .nil)⟩
        · have h3 : ¬ 0 ≤ op := h3
          rw [if_neg h3] at he
          repeat' first | refine T.seq ?_ | refine T.block ?_ | refine T.r ?_ | refine J.e rfl rfl rfl rfl ?_ | refine J.nil ?_ | refine J.skip rfl rfl rfl ?_ | refine T.skip ?_ | refine T.exit ?_ | refine T.ret ?_ | refine T.rd rfl (by kernel_rfl) ?_ | refine J.bx rfl rfl rfl rfl rfl rfl ?_
          rw [wrap1 (l := c.vars.length) (by omega) (by omega)]
          exact T.canon (keep := [3, 6, 8, 19, 20, 21]) (os := [3, 6]) rfl (ih (i + 1, i) ⟨by simp only; omega, he, by simp only; omega⟩ (by simp only; omega))
    · have h1 : i = c.vars.length := by simp at h1; omega
      subst h1
      rw [List.drop_of_length_le (by simp; omega), clGo] at he
      subst he
      clear ih
      unfold clauseO
      dsimp only
      repeat' first | refine T.seq ?_ | refine T.block ?_ | refine T.r ?_ | refine J.e rfl rfl rfl rfl ?_ | refine J.nil ?_ | refine J.skip rfl rfl rfl ?_ | refine T.skip ?_ | refine T.exit ?_ | refine T.ret ?_ | refine J.bx rfl rfl rfl rfl rfl rfl ?_
      refine T.rdm 15 rfl (by kernel_rfl) rfl ?_
      repeat' first | refine J.e rfl rfl rfl rfl ?_ | refine J.skip rfl rfl rfl ?_ | refine J.bx rfl rfl rfl rfl rfl rfl ?_
      refine J.g rfl rfl rfl (fun h3 => ?_) (fun h3 => ?_)
      · have h3 : op < 0 := h3
        rw [if_pos h3]
        repeat' first | refine T.seq ?_ | refine T.block ?_ | refine T.r ?_ | refine J.e rfl rfl rfl rfl ?_ | refine J.nil ?_ | refine J.skip rfl rfl rfl ?_ | refine T.skip ?_ | refine T.exit ?_ | refine T.ret ?_ | refine T.rd rfl (by kernel_rfl) ?_ | refine J.bx rfl rfl rfl rfl rfl rfl ?_
        refine T.ct rfl ?_
        repeat' first | refine T.seq ?_ | refine T.block ?_ | refine T.r ?_ | refine J.e rfl rfl rfl rfl ?_ | refine J.nil ?_ | refine J.skip rfl rfl rfl ?_ | refine T.skip ?_ | refine T.exit ?_ | refine T.ret ?_ | refine T.rd rfl (by kernel_rfl) ?_ | refine J.bx rfl rfl rfl rfl rfl rfl ?_
        exact ⟨_, .ownN rfl (.v rfl rfl rfl (fun _ => rfl) .nil)⟩
      · have h3 : ¬ op < 0 := h3
        rw [if_neg h3]
        have hj : op.toNat < c.vars.length := by omega
        have hj2 : op.toNat < c.coefs.length := by omega
        have hv := hvin _ (varAt_mem hj)
        have hx := hdom _ (domAt_mem hv.2)
        have hk := keep_spec d (varAt c op.toNat) (litW (coefAt c op.toNat)) hv hx
        unfold keepO
        repeat' first | refine J.e rfl rfl rfl rfl ?_ | refine J.skip rfl rfl rfl ?_ | refine J.bx rfl rfl rfl rfl rfl rfl ?_
        refine J.i rfl rfl rfl rfl rfl rfl rfl rfl rfl (r := cI (varAt c op.toNat)) (by omega) (varAt_row hj) rfl ?_
        repeat' first | refine J.e rfl rfl rfl rfl ?_ | refine J.skip rfl rfl rfl ?_ | refine J.bx rfl rfl rfl rfl rfl rfl ?_
        refine J.i rfl rfl rfl rfl rfl rfl rfl rfl rfl (r := cI (coefAt c op.toNat)) (by omega) (coefAt_row hj2) rfl ?_
        repeat' first | refine J.e rfl rfl rfl rfl ?_ | refine J.skip rfl rfl rfl ?_ | refine J.bx rfl rfl rfl rfl rfl rfl ?_
        refine J.cc rfl rfl rfl rfl rfl (lit_spec (coefAt c op.toNat)) rfl rfl ?_
        refine J.nil ?_
        refine J.cm rfl rfl rfl rfl rfl rfl rfl rfl rfl hk rfl rfl rfl ?_
        repeat' first | refine T.seq ?_ | refine T.block ?_ | refine T.r ?_ | refine J.e rfl rfl rfl rfl ?_ | refine J.nil ?_ | refine J.skip rfl rfl rfl ?_ | refine T.skip ?_ | refine T.exit ?_ | refine T.ret ?_ | refine T.rd rfl (by kernel_rfl) ?_ | refine J.bx rfl rfl rfl rfl rfl rfl ?_
        by_cases hk : domCut (domAt d (varAt c op.toNat)) (litW (coefAt c op.toNat)) (litW (coefAt c op.toNat)) = []
        · rw [if_pos hk, decide_eq_true hk]
          refine T.ct rfl ?_
          repeat' first | refine T.seq ?_ | refine T.block ?_ | refine T.r ?_ | refine J.e rfl rfl rfl rfl ?_ | refine J.nil ?_ | refine J.skip rfl rfl rfl ?_ | refine T.skip ?_ | refine T.exit ?_ | refine T.ret ?_ | refine T.rd rfl (by kernel_rfl) ?_ | refine J.bx rfl rfl rfl rfl rfl rfl ?_
          exact ⟨_, .ownN rfl (.v rfl rfl rfl (fun _ => rfl) .nil)⟩
        · rw [if_neg hk, decide_eq_false hk]
          refine T.cf rfl ?_
          repeat' first | refine T.seq ?_ | refine T.block ?_ | refine T.r ?_ | refine J.e rfl rfl rfl rfl ?_ | refine J.nil ?_ | refine J.skip rfl rfl rfl ?_ | refine T.skip ?_ | refine T.exit ?_ | refine T.ret ?_ | refine T.rd rfl (by kernel_rfl) ?_ | refine J.bx rfl rfl rfl rfl rfl rfl ?_
          exact ⟨_, .o rfl rfl rfl (fun _ => .inl rfl) (by simp) (.v rfl rfl rfl (fun _ => rfl) .nil)⟩
end Go.Proofs.Ytchajofdjeijfaa
/-! Contracts: calls whose answers the document fixes; truths; first values alone. -/
namespace Go.Proofs.Ytchajofdjeijfaa
open Go Go.RowKit
set_option linter.unusedVariables false
set_option linter.unusedSimpArgs false
set_option maxRecDepth 8000

def cLits : Con := ⟨5, [0, 1], [1, 1], 0, 0, [], 0⟩
def cReif : Con := ⟨4, [0], [2], 0, 4, [], 1⟩
theorem cl_in (a b : List (Int × Int)) (ha : a.length ≤ 1) (hb : b.length ≤ 1) : ClIn [a, b] cLits :=
  ⟨rfl, by simp [cLits], by simp [cLits], by simp, by simp; omega⟩
theorem re_in (a b : List (Int × Int)) (ha : Fine a) (hb : Fine b) : SumFine [a, b] cReif.vars cReif.coefs :=
  ⟨rfl, by simp [cReif], by simp [cReif], by simp [cReif]; exact ⟨by decide, by decide⟩, by simp; exact ⟨ha, hb⟩, by simp⟩
theorem conB_re : ConB (sumOf cReif) := ⟨by simp [sumOf, cReif], by simp [sumOf, cReif], by simp [sumOf], by simp [sumOf]⟩
theorem fg1 : clauseW [[(0, 1)], [(0, 0)]] cLits = some [[(1, 1)], [(0, 0)]] := by decide +kernel
theorem fg2 : clauseW [[(0, 0)], [(0, 0)]] cLits = none := by decide +kernel
theorem fg3 : yesW [[(0, 2)], [(0, 1)]] cReif = true := by decide +kernel
theorem fg4 : reifW [[(0, 2)], [(0, 1)]] cReif none none = some [[(0, 2)], [(1, 1)]] := by decide +kernel
theorem fg5 : reifW [[(0, 5)], [(0, 0)]] cReif none (some [[(3, 5)], [(0, 0)]]) = some [[(3, 5)], [(0, 0)]] := by decide +kernel
theorem fg6 : hasV (domAt [[(0, 5)], [(0, 0)]] cReif.b) 0 = true := by decide +kernel
theorem fg7 : iter (stepL (notW (sumOf cReif))) 3 [[(0, 5)], [(0, 0)]] = some (some [[(3, 5)], [(0, 0)]]) := by decide +kernel
theorem gfixed_spec : Spec Try.prog 33 false [] [.val (.bool true)] := by
  refine Spec.body Try.func33 rfl rfl rfl fun w0 Z0 => ?_
  have o01 : Fine [(0, 1)] := fine_one 0 1 (by decide) (by decide) (by decide)
  have o00 : Fine [(0, 0)] := fine_one 0 0 (by decide) (by decide) (by decide)
  have o02 : Fine [(0, 2)] := fine_one 0 2 (by decide) (by decide) (by decide)
  have o05 : Fine [(0, 5)] := fine_one 0 5 (by decide) (by decide) (by decide)
  have p1 := (lclause_spec [[(0, 1)], [(0, 0)]] cLits (cl_in _ _ (by decide) (by decide))).frz
  have p2 := (lclause_spec [[(0, 0)], [(0, 0)]] cLits (cl_in _ _ (by decide) (by decide))).frz
  have p3 := (lreif_spec [[(0, 2)], [(0, 1)]] cReif (re_in _ _ o02 o01).in_ conB_re (by decide) (by decide) none none (fun _ h => by rw [fg3] at h; cases h) (fun _ h => by rw [fg3] at h; cases h)).frz
  have p4 := (lreif_spec [[(0, 5)], [(0, 0)]] cReif (re_in _ _ o05 o00).in_ conB_re (by decide) (by decide) none (some [[(3, 5)], [(0, 0)]]) (fun _ _ _ h => by rw [fg6] at h; cases h) (fun _ _ _ _ _ => lprune_spec _ _ (re_in _ _ o05 o00).back (by decide) _ 3 (by unfold LinAns; rw [if_neg (by decide), if_neg (by decide)]; exact fg7))).frz
  rw [fg1] at p1
  rw [fg2] at p2
  rw [fg4] at p3
  rw [fg5] at p4
  have p1 : Spec Try.prog 34 false [doms [[(0, 1)], [(0, 0)]], .agg (cC cLits)] [.val (doms [[(1, 1)], [(0, 0)]]), .val (.bool true)] := p1
  have p2 : Spec Try.prog 34 false [doms [[(0, 0)], [(0, 0)]], .agg (cC cLits)] [.val (doms []), .val (.bool false)] := p2
  have p3 : Spec Try.prog 36 false [doms [[(0, 2)], [(0, 1)]], .agg (cC cReif)] [.val (doms [[(0, 2)], [(1, 1)]]), .val (.bool true)] := p3
  have p4 : Spec Try.prog 36 false [doms [[(0, 5)], [(0, 0)]], .agg (cC cReif)] [.val (doms [[(3, 5)], [(0, 0)]]), .val (.bool true)] := p4
  have s1 := sames_spec [[(1, 1)], [(0, 0)]] [[(1, 1)], [(0, 0)]] (by decide) (by decide)
  have s2 := sames_spec [[(0, 2)], [(1, 1)]] [[(0, 2)], [(1, 1)]] (by decide) (by decide)
  have s3 := sames_spec [[(3, 5)], [(0, 0)]] [[(3, 5)], [(0, 0)]] (by decide) (by decide)
  rw [decide_eq_true rfl] at s1 s2 s3
  repeat' first | refine T.seq ?_ | refine T.block ?_ | refine T.r ?_ | refine J.e rfl rfl rfl rfl ?_ | refine J.nil ?_ | refine J.skip rfl rfl rfl ?_ | refine T.skip ?_ | refine T.exit ?_ | refine T.ret ?_ | refine T.rd rfl (by kernel_rfl) ?_ | refine J.bx rfl rfl rfl rfl rfl rfl ?_
  refine J.bv rfl rfl rfl rfl rfl rfl rfl rfl rfl rfl rfl rfl ?_
  repeat' first | refine T.seq ?_ | refine T.block ?_ | refine T.r ?_ | refine J.e rfl rfl rfl rfl ?_ | refine J.nil ?_ | refine J.skip rfl rfl rfl ?_ | refine T.skip ?_ | refine T.exit ?_ | refine T.ret ?_ | refine T.rd rfl (by kernel_rfl) ?_ | refine J.bx rfl rfl rfl rfl rfl rfl ?_
  refine J.bv rfl rfl rfl rfl rfl rfl rfl rfl rfl rfl rfl rfl ?_
  repeat' first | refine T.seq ?_ | refine T.block ?_ | refine T.r ?_ | refine J.e rfl rfl rfl rfl ?_ | refine J.nil ?_ | refine J.skip rfl rfl rfl ?_ | refine T.skip ?_ | refine T.exit ?_ | refine T.ret ?_ | refine T.rd rfl (by kernel_rfl) ?_ | refine J.bx rfl rfl rfl rfl rfl rfl ?_
  refine J.bv rfl rfl rfl rfl rfl rfl rfl rfl rfl rfl rfl rfl ?_
  repeat' first | refine T.seq ?_ | refine T.block ?_ | refine T.r ?_ | refine J.e rfl rfl rfl rfl ?_ | refine J.nil ?_ | refine J.skip rfl rfl rfl ?_ | refine T.skip ?_ | refine T.exit ?_ | refine T.ret ?_ | refine T.rd rfl (by kernel_rfl) ?_ | refine J.bx rfl rfl rfl rfl rfl rfl ?_
  refine J.bv rfl rfl rfl rfl rfl rfl rfl rfl rfl rfl rfl rfl ?_
  refine J.bv rfl rfl rfl rfl rfl rfl rfl rfl rfl rfl rfl rfl ?_
  refine J.bv rfl rfl rfl rfl rfl rfl rfl rfl rfl rfl rfl rfl ?_
  repeat' first | refine T.seq ?_ | refine T.block ?_ | refine T.r ?_ | refine J.e rfl rfl rfl rfl ?_ | refine J.nil ?_ | refine J.skip rfl rfl rfl ?_ | refine T.skip ?_ | refine T.exit ?_ | refine T.ret ?_ | refine T.rd rfl (by kernel_rfl) ?_ | refine J.bx rfl rfl rfl rfl rfl rfl ?_
  refine J.cc rfl rfl rfl rfl rfl p1 rfl rfl ?_
  repeat' first | refine T.seq ?_ | refine T.block ?_ | refine T.r ?_ | refine J.e rfl rfl rfl rfl ?_ | refine J.nil ?_ | refine J.skip rfl rfl rfl ?_ | refine T.skip ?_ | refine T.exit ?_ | refine T.ret ?_ | refine T.rd rfl (by kernel_rfl) ?_ | refine J.bx rfl rfl rfl rfl rfl rfl ?_
  refine J.bv rfl rfl rfl rfl rfl rfl rfl rfl rfl rfl rfl rfl ?_
  refine J.bv rfl rfl rfl rfl rfl rfl rfl rfl rfl rfl rfl rfl ?_
  refine J.bv rfl rfl rfl rfl rfl rfl rfl rfl rfl rfl rfl rfl ?_
  repeat' first | refine T.seq ?_ | refine T.block ?_ | refine T.r ?_ | refine J.e rfl rfl rfl rfl ?_ | refine J.nil ?_ | refine J.skip rfl rfl rfl ?_ | refine T.skip ?_ | refine T.exit ?_ | refine T.ret ?_ | refine T.rd rfl (by kernel_rfl) ?_ | refine J.bx rfl rfl rfl rfl rfl rfl ?_
  refine J.cc rfl rfl rfl rfl rfl p2 rfl rfl ?_
  repeat' first | refine T.seq ?_ | refine T.block ?_ | refine T.r ?_ | refine J.e rfl rfl rfl rfl ?_ | refine J.nil ?_ | refine J.skip rfl rfl rfl ?_ | refine T.skip ?_ | refine T.exit ?_ | refine T.ret ?_ | refine T.rd rfl (by kernel_rfl) ?_ | refine J.bx rfl rfl rfl rfl rfl rfl ?_
  refine J.bv rfl rfl rfl rfl rfl rfl rfl rfl rfl rfl rfl rfl ?_
  refine J.bv rfl rfl rfl rfl rfl rfl rfl rfl rfl rfl rfl rfl ?_
  repeat' first | refine T.seq ?_ | refine T.block ?_ | refine T.r ?_ | refine J.e rfl rfl rfl rfl ?_ | refine J.nil ?_ | refine J.skip rfl rfl rfl ?_ | refine T.skip ?_ | refine T.exit ?_ | refine T.ret ?_ | refine T.rd rfl (by kernel_rfl) ?_ | refine J.bx rfl rfl rfl rfl rfl rfl ?_
  refine J.al rfl rfl rfl rfl rfl rfl rfl ?_
  refine J.w rfl rfl rfl rfl rfl rfl rfl rfl rfl rfl ?_
  repeat' first | refine T.seq ?_ | refine T.block ?_ | refine T.r ?_ | refine J.e rfl rfl rfl rfl ?_ | refine J.nil ?_ | refine J.skip rfl rfl rfl ?_ | refine T.skip ?_ | refine T.exit ?_ | refine T.ret ?_ | refine T.rd rfl (by kernel_rfl) ?_ | refine J.bx rfl rfl rfl rfl rfl rfl ?_
  refine J.bv rfl rfl rfl rfl rfl rfl rfl rfl rfl rfl rfl rfl ?_
  repeat' first | refine T.seq ?_ | refine T.block ?_ | refine T.r ?_ | refine J.e rfl rfl rfl rfl ?_ | refine J.nil ?_ | refine J.skip rfl rfl rfl ?_ | refine T.skip ?_ | refine T.exit ?_ | refine T.ret ?_ | refine T.rd rfl (by kernel_rfl) ?_ | refine J.bx rfl rfl rfl rfl rfl rfl ?_
  refine J.bv rfl rfl rfl rfl rfl rfl rfl rfl rfl rfl rfl rfl ?_
  repeat' first | refine T.seq ?_ | refine T.block ?_ | refine T.r ?_ | refine J.e rfl rfl rfl rfl ?_ | refine J.nil ?_ | refine J.skip rfl rfl rfl ?_ | refine T.skip ?_ | refine T.exit ?_ | refine T.ret ?_ | refine T.rd rfl (by kernel_rfl) ?_ | refine J.bx rfl rfl rfl rfl rfl rfl ?_
  refine J.cc rfl rfl rfl rfl rfl p3 rfl rfl ?_
  repeat' first | refine T.seq ?_ | refine T.block ?_ | refine T.r ?_ | refine J.e rfl rfl rfl rfl ?_ | refine J.nil ?_ | refine J.skip rfl rfl rfl ?_ | refine T.skip ?_ | refine T.exit ?_ | refine T.ret ?_ | refine T.rd rfl (by kernel_rfl) ?_ | refine J.bx rfl rfl rfl rfl rfl rfl ?_
  refine J.bv rfl rfl rfl rfl rfl rfl rfl rfl rfl rfl rfl rfl ?_
  repeat' first | refine T.seq ?_ | refine T.block ?_ | refine T.r ?_ | refine J.e rfl rfl rfl rfl ?_ | refine J.nil ?_ | refine J.skip rfl rfl rfl ?_ | refine T.skip ?_ | refine T.exit ?_ | refine T.ret ?_ | refine T.rd rfl (by kernel_rfl) ?_ | refine J.bx rfl rfl rfl rfl rfl rfl ?_
  refine J.bv rfl rfl rfl rfl rfl rfl rfl rfl rfl rfl rfl rfl ?_
  repeat' first | refine T.seq ?_ | refine T.block ?_ | refine T.r ?_ | refine J.e rfl rfl rfl rfl ?_ | refine J.nil ?_ | refine J.skip rfl rfl rfl ?_ | refine T.skip ?_ | refine T.exit ?_ | refine T.ret ?_ | refine T.rd rfl (by kernel_rfl) ?_ | refine J.bx rfl rfl rfl rfl rfl rfl ?_
  refine J.cc rfl rfl rfl rfl rfl p4 rfl rfl ?_
  repeat' first | refine T.seq ?_ | refine T.block ?_ | refine T.r ?_ | refine J.e rfl rfl rfl rfl ?_ | refine J.nil ?_ | refine J.skip rfl rfl rfl ?_ | refine T.skip ?_ | refine T.exit ?_ | refine T.ret ?_ | refine T.rd rfl (by kernel_rfl) ?_ | refine J.bx rfl rfl rfl rfl rfl rfl ?_
  refine J.bv rfl rfl rfl rfl rfl rfl rfl rfl rfl rfl rfl rfl ?_
  refine J.cc rfl rfl rfl rfl rfl s1 rfl rfl ?_
  repeat' first | refine T.seq ?_ | refine T.block ?_ | refine T.r ?_ | refine J.e rfl rfl rfl rfl ?_ | refine J.nil ?_ | refine J.skip rfl rfl rfl ?_ | refine T.skip ?_ | refine T.exit ?_ | refine T.ret ?_ | refine T.rd rfl (by kernel_rfl) ?_ | refine J.bx rfl rfl rfl rfl rfl rfl ?_
  refine J.bv rfl rfl rfl rfl rfl rfl rfl rfl rfl rfl rfl rfl ?_
  repeat' first | refine T.seq ?_ | refine T.block ?_ | refine T.r ?_ | refine J.e rfl rfl rfl rfl ?_ | refine J.nil ?_ | refine J.skip rfl rfl rfl ?_ | refine T.skip ?_ | refine T.exit ?_ | refine T.ret ?_ | refine T.rd rfl (by kernel_rfl) ?_ | refine J.bx rfl rfl rfl rfl rfl rfl ?_
  refine J.bv rfl rfl rfl rfl rfl rfl rfl rfl rfl rfl rfl rfl ?_
  refine J.cc rfl rfl rfl rfl rfl s2 rfl rfl ?_
  repeat' first | refine T.seq ?_ | refine T.block ?_ | refine T.r ?_ | refine J.e rfl rfl rfl rfl ?_ | refine J.nil ?_ | refine J.skip rfl rfl rfl ?_ | refine T.skip ?_ | refine T.exit ?_ | refine T.ret ?_ | refine T.rd rfl (by kernel_rfl) ?_ | refine J.bx rfl rfl rfl rfl rfl rfl ?_
  refine J.bv rfl rfl rfl rfl rfl rfl rfl rfl rfl rfl rfl rfl ?_
  repeat' first | refine T.seq ?_ | refine T.block ?_ | refine T.r ?_ | refine J.e rfl rfl rfl rfl ?_ | refine J.nil ?_ | refine J.skip rfl rfl rfl ?_ | refine T.skip ?_ | refine T.exit ?_ | refine T.ret ?_ | refine T.rd rfl (by kernel_rfl) ?_ | refine J.bx rfl rfl rfl rfl rfl rfl ?_
  refine J.bv rfl rfl rfl rfl rfl rfl rfl rfl rfl rfl rfl rfl ?_
  refine J.cc rfl rfl rfl rfl rfl s3 rfl rfl ?_
  repeat' first | refine T.seq ?_ | refine T.block ?_ | refine T.r ?_ | refine J.e rfl rfl rfl rfl ?_ | refine J.nil ?_ | refine J.skip rfl rfl rfl ?_ | refine T.skip ?_ | refine T.exit ?_ | refine T.ret ?_ | refine T.rd rfl (by kernel_rfl) ?_ | refine J.bx rfl rfl rfl rfl rfl rfl ?_
  exact ⟨_, .v rfl rfl rfl (fun _ => rfl) .nil⟩
end Go.Proofs.Ytchajofdjeijfaa
/-! Plain laws: what tells whether a sum is so. -/
namespace Go.Proofs.Ytchajofdjeijfaa
open Go Go.RowKit
set_option linter.unusedVariables false
set_option linter.unusedSimpArgs false

theorem truth_cases {x : List (Int × Int)} (h : DomOk x) (ht : truthR x = true) : x = [] ∨ x = [(0, 0)] ∨ x = [(1, 1)] ∨ x = [(0, 1)] := by
  obtain ⟨h1, h2⟩ := h
  have ht : ∀ r ∈ x, 0 ≤ r.1 ∧ r.2 ≤ 1 := by
    intro r hr
    have := List.all_eq_true.1 ht r hr
    simp at this
    omega
  cases x with
  | nil => exact .inl rfl
  | cons r l =>
    have a1 := h1 r (.head _)
    have a2 := ht r (.head _)
    cases l with
    | cons s l =>
      have b1 := h1 s (.tail _ (.head _))
      have b2 := ht s (.tail _ (.head _))
      have b3 := (List.pairwise_cons.1 h2).1 s (.head _)
      omega
    | nil =>
      obtain ⟨a, b⟩ := r
      simp only at a1 a2
      have : (a = 0 ∧ b = 0) ∨ (a = 1 ∧ b = 1) ∨ (a = 0 ∧ b = 1) := by omega
      rcases this with ⟨rfl, rfl⟩ | ⟨rfl, rfl⟩ | ⟨rfl, rfl⟩
      · exact .inr (.inl rfl)
      · exact .inr (.inr (.inl rfl))
      · exact .inr (.inr (.inr rfl))
theorem keep_told {d : Doms} {b v : Int} (hb : b.toNat < d.length) (hm : [] ∉ d) (hx : DomOk (domAt d b)) : keepO d b v = toldO (d.set b.toNat (cutR (domAt d b) v v)) := by
  unfold keepO toldO
  rw [cut_eq hx (fun w _ => Iff.rfl)]
  by_cases he : cutR (domAt d b) v v = []
  · rw [if_pos he, if_pos ((set_empty hb hm).2 he)]
  · rw [if_neg he, if_neg fun h => he ((set_empty hb hm).1 h)]
theorem reif_same {d : Doms} {c : Con} (hb : 0 ≤ c.b ∧ c.b.toNat < d.length) (hf : ∀ x ∈ d, Fine x) (ht : truthR (domAt d c.b) = true) (RS RN : Option Doms) : reifR d c (yesW d c) (noW d c) RS RN = reifW d c RS RN := by
  unfold reifR reifW
  by_cases hm : [] ∈ d
  · rw [if_pos hm, if_pos hm]
  · have hmem := domAt_mem hb.2
    have hok := (hf _ hmem).ok
    rw [if_neg hm, if_neg hm, ← keep_told hb.2 hm hok, ← keep_told hb.2 hm hok]
    generalize yesW d c = y
    generalize noW d c = z
    cases y
    · cases z
      · simp only [Bool.false_eq_true, if_false]
        rcases truth_cases hok ht with h | h | h | h
        · rw [h] at hmem; exact absurd hmem hm
        · rw [h, if_neg (by decide), if_pos (by decide), if_neg (by decide), if_pos (by decide)]
        · rw [h, if_pos (by decide), if_pos (by decide)]
        · rw [h, if_neg (by decide), if_neg (by decide), if_neg (by decide), if_neg (by decide)]
      · simp
    · simp
/-- A right constraint that tells of a sum. -/
structure ReifOk (d : Doms) (c : Con) : Prop where
  sum : SumOk d (sumOf c)
  sumN : SumOk d (notW (sumOf c))
  con : ConB (sumOf c)
  b : 0 ≤ c.b ∧ c.b.toNat < d.length
  truth : truthR (domAt d c.b) = true
  apart : c.b ∉ c.vars
theorem not_ok {d : Doms} {c : Con} (h : SumOk d c) (hw : weightK c.coefs + absK c.rhs ≤ 4611686018427387904) : SumOk d (notW c) := by
  obtain ⟨h1, h2, h3, h4, h5⟩ := h
  obtain ⟨kind, vars, coefs, op, rhs, rows, b⟩ := c
  simp only at h1 h2 h3 h4 h5 hw
  have hwp := weightK_pos coefs
  have ha : -absK rhs ≤ rhs ∧ rhs ≤ absK rhs := by unfold absK; omega
  unfold notW
  simp only
  split
  · have e1 : wr (0 - rhs) = -rhs := by rw [wr, wrap_id (by omega) (by omega)]; omega
    have e2 : wr (wr (0 - rhs) - 1) = -rhs - 1 := by rw [e1, wr, wrap_id (by omega) (by omega)]
    refine ⟨h1.back, h2, h3, h4, ?_⟩
    simp only
    rw [weightK_turned _ h1.ck, e2]
    unfold absK at *
    omega
  · split
    · exact ⟨h1, h2, h3, ⟨by show (0 : Int) ≤ 2; omega, by show (2 : Int) ≤ 2; omega⟩, h5⟩
    · split
      · exact ⟨h1, h2, h3, ⟨by show (0 : Int) ≤ 1; omega, by show (1 : Int) ≤ 2; omega⟩, h5⟩
      · exact ⟨h1, h2, h3, h4, h5⟩
theorem reif_in {d : Doms} {c : Con} (hc : ConB c) (h : conR d c = 0) (hk : c.kind = 4) (hf : ∀ x ∈ d, Fine x) (hdl : d.length * 24 ≤ 140737488355328) : ReifOk d c := by
  obtain ⟨hv, hr⟩ := con_in hc h
  obtain ⟨h1, h2⟩ := big_no (con_big h)
  have hb : 0 ≤ c.b ∧ c.b.toNat < d.length := by
    unfold conR at h
    split at h
    · cases h
    · split at h
      · cases h
      · rename_i hu
        exact (uses_in hc (by simpa using hu)).2 hk
  unfold rightR at hr
  rw [if_neg (by omega), if_neg (by omega), if_neg (by omega), if_neg (by omega), if_pos hk] at hr
  simp only [sumR, opR, Bool.and_eq_true, decide_eq_true_eq, Bool.not_eq_true', decide_eq_false_iff_not] at hr
  obtain ⟨⟨⟨⟨_, ⟨⟨h4, h5⟩, h6⟩, h7⟩, h8⟩, h9⟩, h10⟩ := hr
  have hs : SumOk d (sumOf c) := ⟨⟨h6, hv.1, hv.2, fun k hk => ⟨fun e => h7 (e ▸ hk), h1 k hk⟩, hf, hdl⟩, h4, h5, h8, by show weightK c.coefs + absK c.rhs ≤ _; omega⟩
  exact ⟨hs, not_ok hs h2, ⟨hc.1, hc.2.1, by simp [sumOf], by simp [sumOf]⟩, hb, h9, h10⟩
end Go.Proofs.Ytchajofdjeijfaa
/-! Contracts: truths alone; first values alone. -/
namespace Go.Proofs.Ytchajofdjeijfaa
open Go Go.RowKit
set_option linter.unusedVariables false
set_option linter.unusedSimpArgs false
set_option maxRecDepth 8000

def bitN (v : Int) : Int := IntKind.i64.wrap (BitVec.ofInt IntKind.i64.bits v &&& BitVec.ofInt IntKind.i64.bits 1).toNat
theorem bitN_in (v : Int) : bitN v = 0 ∨ bitN v = 1 := by
  have h : (BitVec.ofInt IntKind.i64.bits v &&& BitVec.ofInt IntKind.i64.bits 1).toNat ≤ 1 := by
    rw [BitVec.toNat_and]
    exact Nat.le_trans Nat.and_le_right (by decide)
  unfold bitN
  generalize (BitVec.ofInt IntKind.i64.bits v &&& BitVec.ofInt IntKind.i64.bits 1).toNat = n at *
  rw [wrap_id (by omega) (by omega)]
  omega
def truthsL (l : List (List Int)) : List (List Int) := (l.take 4).map (·.map bitN)
theorem truths_spec (l : List (List Int)) (hl : l.length * 24 ≤ 140737488355328) (hx : ∀ x ∈ l, x.length * 8 ≤ 140737488355328) : Spec Try.prog 31 false [.sl (l.map cL)] [.own 23 1 ((truthsL l).map cL)] := by
  refine Spec.body Try.func31 rfl rfl rfl fun w0 Z0 => ?_
  repeat' first | refine T.seq ?_ | refine T.block ?_ | refine T.r ?_ | refine J.e rfl rfl rfl rfl ?_ | refine J.nil ?_ | refine J.skip rfl rfl rfl ?_ | refine T.skip ?_ | refine T.exit ?_ | refine T.ret ?_ | refine T.rd rfl (by kernel_rfl) ?_ | refine J.bx rfl rfl rfl rfl rfl rfl ?_
  refine J.bo rfl rfl rfl rfl rfl rfl rfl rfl rfl rfl rfl rfl ?_
  repeat' first | refine T.seq ?_ | refine T.block ?_ | refine T.r ?_ | refine J.e rfl rfl rfl rfl ?_ | refine J.nil ?_ | refine J.skip rfl rfl rfl ?_ | refine T.skip ?_ | refine T.exit ?_ | refine T.ret ?_ | refine T.rd rfl (by kernel_rfl) ?_ | refine J.bx rfl rfl rfl rfl rfl rfl ?_
  refine T.canon (keep := [0, 3, 4]) (os := [3]) rfl (T.ind (fun i : Nat => ⟨[(0, .val false (.sl (l.map cL))), (3, .ref 0), (4, .val true (.int .i64 i))], [(0, some (.sl 23 1 true (((l.take i).map (·.map bitN)).map cL)))], 1⟩) (fun i => i ≤ l.length ∧ i ≤ 4) (fun i => 4 - i) 0 (by simp) (fun _ _ h => h) ?_)
  rintro i ⟨hi, hi4⟩ ih
  have fin : i = l.length ∨ i = 4 → (l.take i).map (·.map bitN) = truthsL l := by
    intro h
    unfold truthsL
    rcases h with rfl | rfl
    · rw [List.take_of_length_le (Nat.le_refl _), List.take_of_length_le (by omega)]
    · rfl
  repeat' first | refine T.seq ?_ | refine T.block ?_ | refine T.r ?_ | refine J.e rfl rfl rfl rfl ?_ | refine J.nil ?_ | refine J.skip rfl rfl rfl ?_ | refine T.skip ?_ | refine T.exit ?_ | refine T.ret ?_ | refine T.rd rfl (by kernel_rfl) ?_ | refine J.bx rfl rfl rfl rfl rfl rfl ?_
  refine J.g rfl rfl rfl (fun h1 => ?_) (fun h1 => ?_)
  · have h1 : i < l.length := by simpa using h1
    repeat' first | refine T.seq ?_ | refine T.block ?_ | refine T.r ?_ | refine J.e rfl rfl rfl rfl ?_ | refine J.nil ?_ | refine J.skip rfl rfl rfl ?_ | refine T.skip ?_ | refine T.exit ?_ | refine T.ret ?_ | refine T.rd rfl (by kernel_rfl) ?_ | refine J.bx rfl rfl rfl rfl rfl rfl ?_
    refine T.cd rfl (fun h2 => ?_) (fun h2 => ?_)
    · have h2 : i < 4 := by
        have h2 : (i : Int) < 4 := h2
        omega
      have hxl := hx l[i] (List.getElem_mem h1)
      repeat' first | refine T.seq ?_ | refine T.block ?_ | refine T.r ?_ | refine J.e rfl rfl rfl rfl ?_ | refine J.nil ?_ | refine J.skip rfl rfl rfl ?_ | refine T.skip ?_ | refine T.exit ?_ | refine T.ret ?_ | refine T.rd rfl (by kernel_rfl) ?_ | refine J.bx rfl rfl rfl rfl rfl rfl ?_
      refine J.bo rfl rfl rfl rfl rfl rfl rfl rfl rfl rfl rfl rfl ?_
      repeat' first | refine T.seq ?_ | refine T.block ?_ | refine T.r ?_ | refine J.e rfl rfl rfl rfl ?_ | refine J.nil ?_ | refine J.skip rfl rfl rfl ?_ | refine T.skip ?_ | refine T.exit ?_ | refine T.ret ?_ | refine T.rd rfl (by kernel_rfl) ?_ | refine J.bx rfl rfl rfl rfl rfl rfl ?_
      refine T.canon (keep := [0, 3, 4, 5, 6]) (os := [3, 5]) rfl (T.ind (fun k : Nat => ⟨[(0, .val false (.sl (l.map cL))), (3, .ref 0), (4, .val true (.int .i64 i)), (5, .ref 1), (6, .val true (.int .i64 k))], [(0, some (.sl 23 1 true (((l.take i).map (·.map bitN)).map cL))), (1, some (.sl 3 1 true (((l[i].take k).map bitN).map cI)))], 2⟩) (fun k => k ≤ l[i].length) (fun k => l[i].length - k) 0 (by simp) (fun _ _ h => h) ?_)
      rintro k hk ih2
      repeat' first | refine T.seq ?_ | refine T.block ?_ | refine T.r ?_ | refine J.e rfl rfl rfl rfl ?_ | refine J.nil ?_ | refine J.skip rfl rfl rfl ?_ | refine T.skip ?_ | refine T.exit ?_ | refine T.ret ?_ | refine T.rd rfl (by kernel_rfl) ?_ | refine J.bx rfl rfl rfl rfl rfl rfl ?_
      refine J.i rfl rfl rfl rfl rfl rfl rfl rfl rfl (r := cL l[i]) (by omega) (row_i h1) rfl ?_
      repeat' first | refine T.seq ?_ | refine T.block ?_ | refine T.r ?_ | refine J.e rfl rfl rfl rfl ?_ | refine J.nil ?_ | refine J.skip rfl rfl rfl ?_ | refine T.skip ?_ | refine T.exit ?_ | refine T.ret ?_ | refine T.rd rfl (by kernel_rfl) ?_ | refine J.bx rfl rfl rfl rfl rfl rfl ?_
      refine T.cd rfl (fun h3 => ?_) (fun h3 => ?_)
      · have h3 : k < l[i].length := by simpa using h3
        repeat' first | refine T.seq ?_ | refine T.block ?_ | refine T.r ?_ | refine J.e rfl rfl rfl rfl ?_ | refine J.nil ?_ | refine J.skip rfl rfl rfl ?_ | refine T.skip ?_ | refine T.exit ?_ | refine T.ret ?_ | refine T.rd rfl (by kernel_rfl) ?_ | refine J.bx rfl rfl rfl rfl rfl rfl ?_
        refine J.i rfl rfl rfl rfl rfl rfl rfl rfl rfl (r := cL l[i]) (by omega) (row_i h1) rfl ?_
        repeat' first | refine T.seq ?_ | refine T.block ?_ | refine T.r ?_ | refine J.e rfl rfl rfl rfl ?_ | refine J.nil ?_ | refine J.skip rfl rfl rfl ?_ | refine T.skip ?_ | refine T.exit ?_ | refine T.ret ?_ | refine T.rd rfl (by kernel_rfl) ?_ | refine J.bx rfl rfl rfl rfl rfl rfl ?_
        refine J.i rfl rfl rfl rfl rfl rfl rfl rfl rfl (r := cI l[i][k]) (by omega) (row_i h3) rfl ?_
        repeat' first | refine T.seq ?_ | refine T.block ?_ | refine T.r ?_ | refine J.e rfl rfl rfl rfl ?_ | refine J.nil ?_ | refine J.skip rfl rfl rfl ?_ | refine T.skip ?_ | refine T.exit ?_ | refine T.ret ?_ | refine T.rd rfl (by kernel_rfl) ?_ | refine J.bx rfl rfl rfl rfl rfl rfl ?_
        refine J.bv rfl rfl rfl rfl rfl rfl rfl rfl rfl rfl rfl rfl ?_
        refine J.aI rfl rfl rfl rfl rfl rfl rfl rfl rfl rfl rfl rfl rfl rfl rfl rfl rfl rfl rfl (by simp; omega) ?_
        repeat' first | refine T.seq ?_ | refine T.block ?_ | refine T.r ?_ | refine J.e rfl rfl rfl rfl ?_ | refine J.nil ?_ | refine J.skip rfl rfl rfl ?_ | refine T.skip ?_ | refine T.exit ?_ | refine T.ret ?_ | refine T.rd rfl (by kernel_rfl) ?_ | refine J.bx rfl rfl rfl rfl rfl rfl ?_
        have e : (l[i].take k).map bitN ++ [bitN l[i][k]] = (l[i].take (k + 1)).map bitN := by
          rw [List.take_succ_eq_append_getElem h3, List.map_append]; rfl
        rw [wrap1 (l := l[i].length) (by omega) (by omega)]
        have := ih2 (k + 1) (by omega) (by omega)
        rw [← e] at this
        exact T.canon (keep := [0, 3, 4, 5, 6]) (os := [3, 5]) rfl this
      · have h3 : k = l[i].length := by simp at h3; omega
        subst h3
        rw [List.take_length]
        repeat' first | refine J.e rfl rfl rfl rfl ?_ | refine J.skip rfl rfl rfl ?_ | refine J.bx rfl rfl rfl rfl rfl rfl ?_
        refine T.sub (Rel.frz (s := 5) (fun _ h => h) rfl rfl) ?_
        repeat' first | refine T.seq ?_ | refine T.block ?_ | refine T.r ?_ | refine J.e rfl rfl rfl rfl ?_ | refine J.nil ?_ | refine J.skip rfl rfl rfl ?_ | refine T.skip ?_ | refine T.exit ?_ | refine T.ret ?_ | refine T.rd rfl (by kernel_rfl) ?_ | refine J.bx rfl rfl rfl rfl rfl rfl ?_
        refine J.bv rfl rfl rfl rfl rfl rfl rfl rfl rfl rfl rfl rfl ?_
        refine J.a1 (enc := cL) (x := l[i].map bitN) (B := 24) rfl rfl rfl rfl rfl rfl rfl rfl rfl rfl rfl rfl rfl rfl rfl rfl rfl rfl rfl rfl (by simp; omega) ?_
        repeat' first | refine T.seq ?_ | refine T.block ?_ | refine T.r ?_ | refine J.e rfl rfl rfl rfl ?_ | refine J.nil ?_ | refine J.skip rfl rfl rfl ?_ | refine T.skip ?_ | refine T.exit ?_ | refine T.ret ?_ | refine T.rd rfl (by kernel_rfl) ?_ | refine J.bx rfl rfl rfl rfl rfl rfl ?_
        have e : (l.take i).map (·.map bitN) ++ [l[i].map bitN] = (l.take (i + 1)).map (·.map bitN) := by
          rw [List.take_succ_eq_append_getElem h1, List.map_append]; rfl
        rw [wrap1 (l := 4) (by omega) (by omega), e]
        exact T.canon (keep := [0, 3, 4]) (os := [3]) rfl (ih (i + 1) ⟨by omega, by omega⟩ (by omega))
    · have h2 : i = 4 := by
        have h2 : ¬ (i : Int) < 4 := h2
        omega
      rw [fin (.inr h2)]
      repeat' first | refine T.seq ?_ | refine T.block ?_ | refine T.r ?_ | refine J.e rfl rfl rfl rfl ?_ | refine J.nil ?_ | refine J.skip rfl rfl rfl ?_ | refine T.skip ?_ | refine T.exit ?_ | refine T.ret ?_ | refine T.rd rfl (by kernel_rfl) ?_ | refine J.bx rfl rfl rfl rfl rfl rfl ?_
      exact ⟨_, .o rfl rfl rfl (fun _ => .inl rfl) (by simp) .nil⟩
  · have h1 : i = l.length := by simp at h1; omega
    rw [fin (.inl h1)]
    repeat' first | refine T.seq ?_ | refine T.block ?_ | refine T.r ?_ | refine J.e rfl rfl rfl rfl ?_ | refine J.nil ?_ | refine J.skip rfl rfl rfl ?_ | refine T.skip ?_ | refine T.exit ?_ | refine T.ret ?_ | refine T.rd rfl (by kernel_rfl) ?_ | refine J.bx rfl rfl rfl rfl rfl rfl ?_
    refine T.cf rfl ?_
    repeat' first | refine T.seq ?_ | refine T.block ?_ | refine T.r ?_ | refine J.e rfl rfl rfl rfl ?_ | refine J.nil ?_ | refine J.skip rfl rfl rfl ?_ | refine T.skip ?_ | refine T.exit ?_ | refine T.ret ?_ | refine T.rd rfl (by kernel_rfl) ?_ | refine J.bx rfl rfl rfl rfl rfl rfl ?_
    exact ⟨_, .o rfl rfl rfl (fun _ => .inl rfl) (by simp) .nil⟩
theorem one_spec (o : Case) (ho : CaseB o) : Spec Try.prog 38 true [.agg (cCase o)] [.val (.agg (cCase (oneCase o)))] := by
  refine Spec.body Try.func38 rfl rfl rfl fun w0 Z0 => ?_
  obtain ⟨_, hdl, hdx⟩ := id ho
  repeat' first | refine T.seq ?_ | refine T.block ?_ | refine T.r ?_ | refine J.e rfl rfl rfl rfl ?_ | refine J.nil ?_ | refine J.skip rfl rfl rfl ?_ | refine T.skip ?_ | refine T.exit ?_ | refine T.ret ?_ | refine T.rd rfl (by kernel_rfl) ?_ | refine J.bx rfl rfl rfl rfl rfl rfl ?_
  refine J.al rfl rfl rfl rfl rfl rfl rfl ?_
  repeat' first | refine T.seq ?_ | refine T.block ?_ | refine T.r ?_ | refine J.e rfl rfl rfl rfl ?_ | refine J.nil ?_ | refine J.skip rfl rfl rfl ?_ | refine T.skip ?_ | refine T.exit ?_ | refine T.ret ?_ | refine T.rd rfl (by kernel_rfl) ?_ | refine J.bx rfl rfl rfl rfl rfl rfl ?_
  refine J.bo rfl rfl rfl rfl rfl rfl rfl rfl rfl rfl rfl rfl ?_
  repeat' first | refine T.seq ?_ | refine T.block ?_ | refine T.r ?_ | refine J.e rfl rfl rfl rfl ?_ | refine J.nil ?_ | refine J.skip rfl rfl rfl ?_ | refine T.skip ?_ | refine T.exit ?_ | refine T.ret ?_ | refine T.rd rfl (by kernel_rfl) ?_ | refine J.bx rfl rfl rfl rfl rfl rfl ?_
  refine T.sub (Rel.wk (o := 2) rfl) ?_
  refine T.canon (keep := [1, 2, 3, 4]) (os := [1, 2, 3]) rfl (T.ind (fun i : Nat => ⟨[(1, .optr 0 0 0 0), (2, .optr 1 0 0 0), (3, .ref 2), (4, .val true (.int .i64 i))], [(0, some (.box false (cCase o))), (1, some (.box true (cCase ⟨[], ⟨0, [], [], 0, 0, [], 0⟩, [], []⟩))), (2, some (.sl 23 1 false (((o.d.take i).map oneOf).map cL)))], 3⟩) (fun i => i ≤ o.d.length) (fun i => o.d.length - i) 0 (by simp) (fun _ _ h => h) ?_)
  rintro i hi ih
  repeat' first | refine T.seq ?_ | refine T.block ?_ | refine T.r ?_ | refine J.e rfl rfl rfl rfl ?_ | refine J.nil ?_ | refine J.skip rfl rfl rfl ?_ | refine T.skip ?_ | refine T.exit ?_ | refine T.ret ?_ | refine J.bx rfl rfl rfl rfl rfl rfl ?_
  refine T.cd rfl (fun h1 => ?_) (fun h1 => ?_)
  · have h1 : i < o.d.length := by simpa using h1
    have hx := hdx _ (List.getElem_mem h1)
    repeat' first | refine T.seq ?_ | refine T.block ?_ | refine T.r ?_ | refine J.e rfl rfl rfl rfl ?_ | refine J.nil ?_ | refine J.skip rfl rfl rfl ?_ | refine T.skip ?_ | refine T.exit ?_ | refine T.ret ?_ | refine J.bx rfl rfl rfl rfl rfl rfl ?_
    refine T.rdm 15 rfl (by kernel_rfl) rfl ?_
    repeat' first | refine J.e rfl rfl rfl rfl ?_ | refine J.skip rfl rfl rfl ?_ | refine J.bx rfl rfl rfl rfl rfl rfl ?_
    refine J.i rfl rfl rfl rfl rfl rfl rfl rfl rfl (r := cL o.d[i]) (by omega) (row_i h1) rfl ?_
    repeat' first | refine J.e rfl rfl rfl rfl ?_ | refine J.skip rfl rfl rfl ?_ | refine J.bx rfl rfl rfl rfl rfl rfl ?_
    refine J.i rfl rfl rfl rfl rfl rfl rfl rfl rfl (r := cL o.d[i]) (by omega) (row_i h1) rfl ?_
    repeat' first | refine J.e rfl rfl rfl rfl ?_ | refine J.skip rfl rfl rfl ?_ | refine J.bx rfl rfl rfl rfl rfl rfl ?_
    refine J.s1 (enc := cI) (min o.d[i].length 1) rfl rfl rfl rfl rfl rfl rfl rfl rfl (fun _ => rfl) (by simp; omega) (by omega) ?_
    repeat' first | refine J.e rfl rfl rfl rfl ?_ | refine J.skip rfl rfl rfl ?_ | refine J.bx rfl rfl rfl rfl rfl rfl ?_
    refine J.bv rfl rfl rfl rfl rfl rfl rfl rfl rfl rfl rfl rfl ?_
    refine J.nil ?_
    refine J.a1 (enc := cL) (x := oneOf o.d[i]) (B := 24) rfl rfl rfl rfl rfl rfl rfl rfl rfl rfl rfl rfl rfl rfl rfl rfl rfl rfl rfl rfl (by simp; omega) ?_
    repeat' first | refine T.seq ?_ | refine T.block ?_ | refine T.r ?_ | refine J.e rfl rfl rfl rfl ?_ | refine J.nil ?_ | refine J.skip rfl rfl rfl ?_ | refine T.skip ?_ | refine T.exit ?_ | refine T.ret ?_ | refine T.rd rfl (by kernel_rfl) ?_ | refine J.bx rfl rfl rfl rfl rfl rfl ?_
    have e : (o.d.take i).map oneOf ++ [oneOf o.d[i]] = (o.d.take (i + 1)).map oneOf := by
      rw [List.take_succ_eq_append_getElem h1, List.map_append]
      rfl
    rw [wrap1 (l := o.d.length) (by omega) (by omega), e]
    exact T.canon (keep := [1, 2, 3, 4]) (os := [1, 2, 3]) rfl (ih (i + 1) (by omega) (by omega))
  · have h1 : i = o.d.length := by simp at h1; omega
    subst h1
    rw [List.take_length]
    refine T.sub (Rel.frz (s := 3) (fun _ h => h) rfl rfl) ?_
    repeat' first | refine T.seq ?_ | refine T.block ?_ | refine T.r ?_ | refine J.e rfl rfl rfl rfl ?_ | refine J.nil ?_ | refine J.skip rfl rfl rfl ?_ | refine T.skip ?_ | refine T.exit ?_ | refine T.ret ?_ | refine T.rd rfl (by kernel_rfl) ?_ | refine J.bx rfl rfl rfl rfl rfl rfl ?_
    refine J.w rfl rfl rfl rfl rfl rfl rfl rfl rfl rfl ?_
    repeat' first | refine T.seq ?_ | refine T.block ?_ | refine T.r ?_ | refine J.e rfl rfl rfl rfl ?_ | refine J.nil ?_ | refine J.skip rfl rfl rfl ?_ | refine T.skip ?_ | refine T.exit ?_ | refine T.ret ?_ | refine T.rd rfl (by kernel_rfl) ?_ | refine J.bx rfl rfl rfl rfl rfl rfl ?_
    refine J.w rfl rfl rfl rfl rfl rfl rfl rfl rfl rfl ?_
    repeat' first | refine T.seq ?_ | refine T.block ?_ | refine T.r ?_ | refine J.e rfl rfl rfl rfl ?_ | refine J.nil ?_ | refine J.skip rfl rfl rfl ?_ | refine T.skip ?_ | refine T.exit ?_ | refine T.ret ?_ | refine T.rd rfl (by kernel_rfl) ?_ | refine J.bx rfl rfl rfl rfl rfl rfl ?_
    exact ⟨_, .c rfl rfl rfl rfl (fun h => by cases h) .nil⟩
end Go.Proofs.Ytchajofdjeijfaa
