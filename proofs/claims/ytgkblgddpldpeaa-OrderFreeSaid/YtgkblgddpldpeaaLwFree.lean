/- The statement OrderFree: what its function answers. -/
import Derived.Test.YtgkblgddpldpeaaPuC
namespace Go.Proofs.Ytgkblgddpldpeaa
open Go Go.RowKit
set_option linter.unusedVariables false
set_option maxRecDepth 8000

theorem one_fine {lo hi : Int} (h : lo ≤ hi) (h1 : -2000 ≤ lo) (h2 : hi ≤ 2000) : Fine [(lo, hi)] := by
  refine ⟨⟨by simp [h], by simp⟩, fun v hv => ?_, ?_⟩
  · obtain ⟨r, hr, h3, h4⟩ := mem_vals.1 hv
    simp at hr; subst hr
    simp only at h3 h4; omega
  · simp [vals, rng]; omega
theorem free_step {d : Doms} {c : Con} {k : Int} (hf : ∀ x ∈ d, Fine x) (hv : VarsIn d c) (h2 : 2 ≤ c.vars.length) (hk : -1000 ≤ k ∧ k ≤ 1000) (ha : domAt d (varAt c 0) = [(k - 4, k)]) (hb : domAt d (varAt c (halfOf c)) = [(k + 1, k + 3)]) (hab : varAt c 0 ≠ varAt c (halfOf c)) :
    stepO c d = .inl (some d) := by
  have hh := half_le c
  have hpos : 0 < halfOf c := by unfold halfOf; omega
  have hp : pairO d c 0 = false := by
    rw [pairO, Nat.add_zero, ha, hb]
    simp only [knownB, decide_eq_false hab, Bool.false_or, leastR, lastR]
    have : ¬ (k - 4 = k) := by omega
    simp [this]
  have hpl : placeO d c = 0 := placeF_at hpos (fun j hj => absurd hj (Nat.not_lt_zero j)) hp
  unfold stepO
  rw [hpl, if_neg (by omega)]
  simp only [Nat.add_zero, ha, hb, lastR, leastR, List.getLast?_singleton]
  have e1 : domCut [(k - 4, k)] (-1048576) (k + 3) = [(k - 4, k)] := by
    rw [domCut, if_neg (by omega), meetR_cons, if_pos (by simp only; omega), if_pos (by simp only; omega), meetR_l]
    simp only [List.append_nil, List.cons.injEq, Prod.mk.injEq, and_true]
    omega
  have e2 : domCut [(k + 1, k + 3)] (k - 4) 1048576 = [(k + 1, k + 3)] := by
    rw [domCut, if_neg (by omega), meetR_cons, if_pos (by simp only; omega), if_pos (by simp only; omega), meetR_l]
    simp only [List.append_nil, List.cons.injEq, Prod.mk.injEq, and_true]
    omega
  rw [e1, e2, if_neg (by simp), if_pos ⟨rfl, rfl⟩]

theorem law_free (o : Case) (cut : Int) (ho : CaseB o) : Spec Try.prog 8 true [.agg (cCase o), .int .i64 cut] [.val (.bool true)] := by
  refine Spec.body Try.func8 rfl rfl rfl fun w0 Z0 => ?_
  have hlaid := laid_spec o 6 ho
  have hcb := laid_conB ho 6
  have hlex := fun h => lex_in (d := laidD o) (c := laidC o 6) hcb h rfl
  have hok : laidOK o 6 = decide (conR (laidD o) (laidC o 6) = 0) := rfl
  have hf := laid_fine o
  have hlen := laid_len o
  generalize laidD o = d at *
  generalize laidC o 6 = c at *
  generalize laidOK o 6 = ok at *
  repeat' first | refine T.seq ?_ | refine T.block ?_ | refine T.r ?_ | refine J.e rfl rfl rfl rfl ?_ | refine J.nil ?_ | refine J.skip rfl rfl rfl ?_ | refine T.skip ?_ | refine T.exit ?_ | refine T.ret ?_ | refine T.rd rfl (by kernel_rfl) ?_ | refine J.bx rfl rfl rfl rfl rfl rfl ?_
  refine J.cc rfl rfl rfl rfl rfl hlaid rfl rfl ?_
  repeat' first | refine T.seq ?_ | refine T.block ?_ | refine T.r ?_ | refine J.e rfl rfl rfl rfl ?_ | refine J.nil ?_ | refine J.skip rfl rfl rfl ?_ | refine T.skip ?_ | refine T.exit ?_ | refine T.ret ?_ | refine T.rd rfl (by kernel_rfl) ?_ | refine J.bx rfl rfl rfl rfl rfl rfl ?_
  refine J.al rfl rfl rfl rfl rfl rfl rfl ?_
  repeat' first | refine T.seq ?_ | refine T.block ?_ | refine T.r ?_ | refine J.e rfl rfl rfl rfl ?_ | refine J.nil ?_ | refine J.skip rfl rfl rfl ?_ | refine T.skip ?_ | refine T.exit ?_ | refine T.ret ?_ | refine T.rd rfl (by kernel_rfl) ?_ | refine J.bx rfl rfl rfl rfl rfl rfl ?_
  refine J.w rfl rfl rfl rfl rfl rfl rfl rfl rfl rfl ?_
  repeat' first | refine T.seq ?_ | refine T.block ?_ | refine T.r ?_ | refine J.e rfl rfl rfl rfl ?_ | refine J.nil ?_ | refine J.skip rfl rfl rfl ?_ | refine T.skip ?_ | refine T.exit ?_ | refine T.ret ?_ | refine T.rd rfl (by kernel_rfl) ?_ | refine J.bx rfl rfl rfl rfl rfl rfl ?_
  cases ok
  · refine T.ct rfl ?_
    repeat' first | refine T.seq ?_ | refine T.block ?_ | refine T.r ?_ | refine J.e rfl rfl rfl rfl ?_ | refine J.nil ?_ | refine J.skip rfl rfl rfl ?_ | refine T.skip ?_ | refine T.exit ?_ | refine T.ret ?_ | refine T.rd rfl (by kernel_rfl) ?_ | refine J.bx rfl rfl rfl rfl rfl rfl ?_
    refine J.cc rfl rfl rfl rfl rfl fixed_spec rfl rfl ?_
    repeat' first | refine T.seq ?_ | refine T.block ?_ | refine T.r ?_ | refine J.e rfl rfl rfl rfl ?_ | refine J.nil ?_ | refine J.skip rfl rfl rfl ?_ | refine T.skip ?_ | refine T.exit ?_ | refine T.ret ?_ | refine T.rd rfl (by kernel_rfl) ?_ | refine J.bx rfl rfl rfl rfl rfl rfl ?_
    exact ⟨_, .v rfl rfl rfl (fun h => by cases h) .nil⟩
  · refine T.cf rfl ?_
    obtain ⟨hv, h2, h3⟩ := hlex (by simpa using hok.symm)
    have hh := half_le c
    have hpos : 0 < halfOf c := by unfold halfOf; omega
    have hc1 := hv.1
    have e1 : IntKind.i64.wrap (((c.vars.map cI).length : Int).tdiv 2) = (halfOf c : Int) := by
      rw [List.length_map, Int.tdiv_eq_ediv_of_nonneg (by omega), wrap_id (by omega) (by omega)]
      simp [halfOf]
    have hk1 := Int.tmod_lt_of_pos cut (show (0 : Int) < 1000 by decide)
    have hk2 := Int.lt_tmod_of_pos cut (show (0 : Int) < 1000 by decide)
    have hv1 := hv.2 _ (varAt_mem (c := c) (k := 0) (by omega))
    have hv2 := hv.2 _ (varAt_mem (c := c) (k := halfOf c) (by omega))
    have ka := varAt_row (c := c) (k := 0) (by omega)
    have kb := varAt_row (c := c) (k := halfOf c) (by omega)
    have hstep := fun (d' : Doms) (hf : ∀ x ∈ d', Fine x) (hv' : VarsIn d' c) (ha) (hb) (hab) => free_step (k := cut.tmod 1000) hf hv' h2 (by omega) ha hb hab
    repeat' first | refine T.seq ?_ | refine T.block ?_ | refine T.r ?_ | refine J.e rfl rfl rfl rfl ?_ | refine J.nil ?_ | refine J.skip rfl rfl rfl ?_ | refine T.skip ?_ | refine T.exit ?_ | refine T.ret ?_ | refine T.rd rfl (by kernel_rfl) ?_ | refine J.bx rfl rfl rfl rfl rfl rfl ?_
    rw [e1]
    generalize cut.tmod 1000 = k at *
    generalize varAt c 0 = a at *
    generalize varAt c (halfOf c) = b at *
    refine J.i rfl rfl rfl rfl rfl rfl rfl rfl rfl (r := cI a) (by omega) ka rfl ?_
    repeat' first | refine T.seq ?_ | refine T.block ?_ | refine T.r ?_ | refine J.e rfl rfl rfl rfl ?_ | refine J.nil ?_ | refine J.skip rfl rfl rfl ?_ | refine T.skip ?_ | refine T.exit ?_ | refine T.ret ?_ | refine T.rd rfl (by kernel_rfl) ?_ | refine J.bx rfl rfl rfl rfl rfl rfl ?_
    refine J.i rfl rfl rfl rfl rfl rfl rfl rfl rfl (r := cI b) (by omega) kb rfl ?_
    repeat' first | refine T.seq ?_ | refine T.block ?_ | refine T.r ?_ | refine J.e rfl rfl rfl rfl ?_ | refine J.nil ?_ | refine J.skip rfl rfl rfl ?_ | refine T.skip ?_ | refine T.exit ?_ | refine T.ret ?_ | refine T.rd rfl (by kernel_rfl) ?_ | refine J.bx rfl rfl rfl rfl rfl rfl ?_
    refine T.cd rfl (fun hab => ?_) (fun hab => ?_)
    · repeat' first | refine T.seq ?_ | refine T.block ?_ | refine T.r ?_ | refine J.e rfl rfl rfl rfl ?_ | refine J.nil ?_ | refine J.skip rfl rfl rfl ?_ | refine T.skip ?_ | refine T.exit ?_ | refine T.ret ?_ | refine T.rd rfl (by kernel_rfl) ?_ | refine J.bx rfl rfl rfl rfl rfl rfl ?_
      refine J.cc rfl rfl rfl rfl rfl fixed_spec rfl rfl ?_
      repeat' first | refine T.seq ?_ | refine T.block ?_ | refine T.r ?_ | refine J.e rfl rfl rfl rfl ?_ | refine J.nil ?_ | refine J.skip rfl rfl rfl ?_ | refine T.skip ?_ | refine T.exit ?_ | refine T.ret ?_ | refine T.rd rfl (by kernel_rfl) ?_ | refine J.bx rfl rfl rfl rfl rfl rfl ?_
      exact ⟨_, .v rfl rfl rfl (fun h => by cases h) .nil⟩
    · have hab : ¬ a = b := hab
      have hne : a.toNat ≠ b.toNat := by omega
      have la : a.toNat < (d.map cD).length := by simpa using hv1.2
      have lb : b.toNat < (d.map cD).length := by simpa using hv2.2
      have hd1 : ∀ x ∈ (d.set a.toNat [(k - 4, k)]).set b.toNat [(k + 1, k + 3)], Fine x := by
        intro x hx
        rcases List.mem_or_eq_of_mem_set hx with hx | rfl
        · rcases List.mem_or_eq_of_mem_set hx with hx | rfl
          · exact hf x hx
          · exact one_fine (by omega) (by omega) (by omega)
        · exact one_fine (by omega) (by omega) (by omega)
      have hd2 : VarsIn ((d.set a.toNat [(k - 4, k)]).set b.toNat [(k + 1, k + 3)]) c := (hv.set _ _).set _ _
      have hda : domAt ((d.set a.toNat [(k - 4, k)]).set b.toNat [(k + 1, k + 3)]) a = [(k - 4, k)] := by
        rw [domAt, List.getD_eq_getElem?_getD, List.getElem?_set_ne (Ne.symm hne), List.getElem?_set_self hv1.2]; rfl
      have hdb : domAt ((d.set a.toNat [(k - 4, k)]).set b.toNat [(k + 1, k + 3)]) b = [(k + 1, k + 3)] := by
        rw [domAt, List.getD_eq_getElem?_getD, List.getElem?_set_self (by simpa using hv2.2)]; rfl
      have hlen2 : ((d.set a.toNat [(k - 4, k)]).set b.toNat [(k + 1, k + 3)]).length ≤ 4 := by simpa using hlen
      have hst := hstep _ hd1 hd2 hda hdb hab
      repeat' first | refine T.seq ?_ | refine T.block ?_ | refine T.r ?_ | refine J.e rfl rfl rfl rfl ?_ | refine J.nil ?_ | refine J.skip rfl rfl rfl ?_ | refine T.skip ?_ | refine T.exit ?_ | refine T.ret ?_ | refine T.rd rfl (by kernel_rfl) ?_ | refine J.bx rfl rfl rfl rfl rfl rfl ?_
      rw [wrap_id (n := k - 4) (by omega) (by omega)]
      refine J.bv rfl rfl rfl rfl rfl rfl rfl rfl rfl rfl rfl rfl ?_
      refine J.io rfl rfl rfl rfl rfl rfl rfl rfl rfl hv1.1 la rfl ?_
      refine J.w1 rfl rfl rfl rfl rfl rfl rfl rfl rfl rfl rfl (z := [(k - 4, k)]) (fun _ => rfl) (by simpa using la) ?_
      repeat' first | refine T.seq ?_ | refine T.block ?_ | refine T.r ?_ | refine J.e rfl rfl rfl rfl ?_ | refine J.nil ?_ | refine J.skip rfl rfl rfl ?_ | refine T.skip ?_ | refine T.exit ?_ | refine T.ret ?_ | refine T.rd rfl (by kernel_rfl) ?_ | refine J.bx rfl rfl rfl rfl rfl rfl ?_
      rw [wrap_id (n := k + 1) (by omega) (by omega), wrap_id (n := k + 3) (by omega) (by omega)]
      refine J.bv rfl rfl rfl rfl rfl rfl rfl rfl rfl rfl rfl rfl ?_
      refine J.io rfl rfl rfl rfl rfl rfl rfl rfl rfl hv2.1 (by simpa using lb) rfl ?_
      refine J.w1 rfl rfl rfl rfl rfl rfl rfl rfl rfl rfl rfl (z := [(k + 1, k + 3)]) (fun _ => rfl) (by simpa using lb) ?_
      repeat' first | refine T.seq ?_ | refine T.block ?_ | refine T.r ?_ | refine J.e rfl rfl rfl rfl ?_ | refine J.nil ?_ | refine J.skip rfl rfl rfl ?_ | refine T.skip ?_ | refine T.exit ?_ | refine T.ret ?_ | refine T.rd rfl (by kernel_rfl) ?_ | refine J.bx rfl rfl rfl rfl rfl rfl ?_
      clear hstep hda hdb
      generalize (d.set a.toNat [(k - 4, k)]).set b.toNat [(k + 1, k + 3)] = D at *
      have hsm : SmallD D := ⟨by omega, fun x hx => by have := (hd1 x hx).len; omega⟩
      have hpr := (prune_spec D c hd2 hsm (if [] ∈ D then none else some D) 1 (by
        by_cases he : [] ∈ D
        · rw [if_pos he, if_pos he]
        · rw [if_neg he, if_neg he]; simp [iter, hst])).frz
      have hr1 : [] ∈ D → (if [] ∈ D then none else some D) = none := fun h => if_pos h
      have hr2 : ¬ [] ∈ D → (if [] ∈ D then none else some D) = some D := fun h => if_neg h
      generalize (if [] ∈ D then none else some D) = R at *
      refine J.cc rfl rfl rfl rfl rfl hpr rfl rfl ?_
      repeat' first | refine T.seq ?_ | refine T.block ?_ | refine T.r ?_ | refine J.e rfl rfl rfl rfl ?_ | refine J.nil ?_ | refine J.skip rfl rfl rfl ?_ | refine T.skip ?_ | refine T.exit ?_ | refine T.ret ?_ | refine T.rd rfl (by kernel_rfl) ?_ | refine J.bx rfl rfl rfl rfl rfl rfl ?_
      refine T.canon (keep := [5, 12, 13, 14]) (os := [5]) rfl (T.listI D (fun pre => [] ∉ pre) (fun n pre post => ⟨[(5, .ref 0), (12, .val true (doms (R.getD []))), (13, .val true (.bool R.isSome)), (14, .val true (.int .i64 n))], [(0, some (.sl 37 1 false (D.map cD)))], 1⟩) (fun _ _ h => h) (by simp) ?_ ?_)
      · rintro n pre x post h hn hi ih
        have hlt := at_lt h hn
        have hra := row_at (enc := cD) h hn
        repeat' first | refine T.seq ?_ | refine T.block ?_ | refine T.r ?_ | refine J.e rfl rfl rfl rfl ?_ | refine J.nil ?_ | refine J.skip rfl rfl rfl ?_ | refine T.skip ?_ | refine T.exit ?_ | refine T.ret ?_ | refine T.rd rfl (by kernel_rfl) ?_ | refine J.bx rfl rfl rfl rfl rfl rfl ?_
        refine T.ct2 rfl (lt_at h hn) ?_
        repeat' first | refine T.seq ?_ | refine T.block ?_ | refine T.r ?_ | refine J.e rfl rfl rfl rfl ?_ | refine J.nil ?_ | refine J.skip rfl rfl rfl ?_ | refine T.skip ?_ | refine T.exit ?_ | refine T.ret ?_ | refine T.rd rfl (by kernel_rfl) ?_ | refine J.bx rfl rfl rfl rfl rfl rfl ?_
        refine J.io rfl rfl rfl rfl rfl rfl rfl rfl rfl (by omega) (by simp; omega) rfl ?_
        refine J.lo rfl rfl rfl rfl rfl rfl (r := cD x) hra rfl ?_
        repeat' first | refine T.seq ?_ | refine T.block ?_ | refine T.r ?_ | refine J.e rfl rfl rfl rfl ?_ | refine J.nil ?_ | refine J.skip rfl rfl rfl ?_ | refine T.skip ?_ | refine T.exit ?_ | refine T.ret ?_ | refine T.rd rfl (by kernel_rfl) ?_ | refine J.bx rfl rfl rfl rfl rfl rfl ?_
        refine T.cd rfl (fun h4 => ?_) (fun h4 => ?_)
        · have hx : x = [] := by have h4 : ((x.map cR).length : Int) = 0 := h4; simpa using h4
          have hR := hr1 (by rw [h, hx]; simp)
          subst hR
          repeat' first | refine T.seq ?_ | refine T.block ?_ | refine T.r ?_ | refine J.e rfl rfl rfl rfl ?_ | refine J.nil ?_ | refine J.skip rfl rfl rfl ?_ | refine T.skip ?_ | refine T.exit ?_ | refine T.ret ?_ | refine T.rd rfl (by kernel_rfl) ?_ | refine J.bx rfl rfl rfl rfl rfl rfl ?_
          refine J.cc rfl rfl rfl rfl rfl fixed_spec rfl rfl ?_
          repeat' first | refine T.seq ?_ | refine T.block ?_ | refine T.r ?_ | refine J.e rfl rfl rfl rfl ?_ | refine J.nil ?_ | refine J.skip rfl rfl rfl ?_ | refine T.skip ?_ | refine T.exit ?_ | refine T.ret ?_ | refine T.rd rfl (by kernel_rfl) ?_ | refine J.bx rfl rfl rfl rfl rfl rfl ?_
          exact ⟨_, .v rfl rfl rfl (fun h => by cases h) .nil⟩
        · have hx : x ≠ [] := fun e => h4 (by rw [e]; rfl)
          repeat' first | refine T.seq ?_ | refine T.block ?_ | refine T.r ?_ | refine J.e rfl rfl rfl rfl ?_ | refine J.nil ?_ | refine J.skip rfl rfl rfl ?_ | refine T.skip ?_ | refine T.exit ?_ | refine T.ret ?_ | refine T.rd rfl (by kernel_rfl) ?_ | refine J.bx rfl rfl rfl rfl rfl rfl ?_
          rw [wrap1 hlt (by omega)]
          exact T.canon (keep := [5, 12, 13, 14]) (os := [5]) rfl (ih (by simp [hi, Ne.symm hx]))
      · intro hi
        have hR := hr2 hi
        subst hR
        have hsame := sames_spec D D (by omega) (fun x hx => by have := (hd1 x hx).len; omega)
        rw [decide_eq_true (rfl : D = D)] at hsame
        repeat' first | refine T.seq ?_ | refine T.block ?_ | refine T.r ?_ | refine J.e rfl rfl rfl rfl ?_ | refine J.nil ?_ | refine J.skip rfl rfl rfl ?_ | refine T.skip ?_ | refine T.exit ?_ | refine T.ret ?_ | refine T.rd rfl (by kernel_rfl) ?_ | refine J.bx rfl rfl rfl rfl rfl rfl ?_
        refine T.cf2 rfl lt_end ?_
        repeat' first | refine T.seq ?_ | refine T.block ?_ | refine T.r ?_ | refine J.e rfl rfl rfl rfl ?_ | refine J.nil ?_ | refine J.skip rfl rfl rfl ?_ | refine T.skip ?_ | refine T.exit ?_ | refine T.ret ?_ | refine T.rd rfl (by kernel_rfl) ?_ | refine J.bx rfl rfl rfl rfl rfl rfl ?_
        refine J.cc rfl rfl rfl rfl rfl hsame rfl rfl ?_
        repeat' first | refine T.seq ?_ | refine T.block ?_ | refine T.r ?_ | refine J.e rfl rfl rfl rfl ?_ | refine J.nil ?_ | refine J.skip rfl rfl rfl ?_ | refine T.skip ?_ | refine T.exit ?_ | refine T.ret ?_ | refine T.rd rfl (by kernel_rfl) ?_ | refine J.bx rfl rfl rfl rfl rfl rfl ?_
        refine J.cc rfl rfl rfl rfl rfl fixed_spec rfl rfl ?_
        repeat' first | refine T.seq ?_ | refine T.block ?_ | refine T.r ?_ | refine J.e rfl rfl rfl rfl ?_ | refine J.nil ?_ | refine J.skip rfl rfl rfl ?_ | refine T.skip ?_ | refine T.exit ?_ | refine T.ret ?_ | refine T.rd rfl (by kernel_rfl) ?_ | refine J.bx rfl rfl rfl rfl rfl rfl ?_
        exact ⟨_, .v rfl rfl rfl (fun h => by cases h) .nil⟩
end Go.Proofs.Ytgkblgddpldpeaa
