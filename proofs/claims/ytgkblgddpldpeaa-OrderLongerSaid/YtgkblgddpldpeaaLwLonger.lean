/- The statement OrderLonger: what its function answers. -/
import Derived.Test.YtgkblgddpldpeaaPuD
namespace Go.Proofs.Ytgkblgddpldpeaa
open Go Go.RowKit
set_option linter.unusedVariables false
set_option maxRecDepth 8000

/-- The lists without their last ones. -/
def shortC (c : Con) : Con := ⟨6, c.vars.take (halfOf c - 1) ++ (c.vars.take (2 * halfOf c - 1)).drop (halfOf c), [], 0, 0, [], 0⟩
theorem short_len {c : Con} (h : 2 ≤ halfOf c) : (shortC c).vars.length = 2 * (halfOf c - 1) ∧ halfOf (shortC c) = halfOf c - 1 := by
  have hh := half_le c
  have e : (shortC c).vars.length = 2 * (halfOf c - 1) := by simp [shortC]; omega
  exact ⟨e, by unfold halfOf at *; omega⟩
theorem short_begin {c : Con} (h : 2 ≤ halfOf c) : Begin (shortC c) c := by
  have hh := half_le c
  obtain ⟨h1, h2⟩ := short_len h
  refine ⟨by omega, fun k hk => ?_, fun k hk => ?_⟩
  · rw [h2] at hk
    simp only [varAt, shortC, List.getD_eq_getElem?_getD]
    rw [List.getElem?_append_left (by simp; omega), List.getElem?_take, if_pos hk]
  · rw [h2] at hk ⊢
    simp only [varAt, shortC, List.getD_eq_getElem?_getD]
    rw [List.getElem?_append_right (by simp; omega), List.getElem?_drop, List.getElem?_take, if_pos (by simp; omega)]
    congr 2
    simp; omega
theorem short_vars {d : Doms} {c : Con} (hv : VarsIn d c) (h : 2 ≤ halfOf c) : VarsIn d (shortC c) := by
  refine ⟨by have := (short_len h).1; have := hv.1; have := half_le c; omega, fun v hm => hv.2 v ?_⟩
  rcases List.mem_append.1 hm with hm | hm
  · exact List.mem_of_mem_take hm
  · exact List.mem_of_mem_take (List.mem_of_mem_drop hm)

theorem law_longer (o : Case) (ho : CaseB o) : Spec Try.prog 6 true [.agg (cCase o)] [.val (.bool true)] := by
  refine Spec.body Try.func6 rfl rfl rfl fun w0 Z0 => ?_
  have hlaid := laid_spec o 6 ho
  have hcb := laid_conB ho 6
  have hlex := fun h => lex_in (d := laidD o) (c := laidC o 6) hcb h rfl
  have hok : laidOK o 6 = decide (conR (laidD o) (laidC o 6) = 0) := rfl
  have hf := laid_fine o
  have hlen := laid_len o
  generalize laidD o = d at *
  generalize laidC o 6 = c at *
  generalize laidOK o 6 = ok at *
  have hcl := hcb.1
  have e1 : IntKind.i64.wrap (((c.vars.map cI).length : Int).tdiv 2) = (halfOf c : Int) := by
    rw [List.length_map, Int.tdiv_eq_ediv_of_nonneg (by omega), wrap_id (by omega) (by omega)]
    simp [halfOf]
  repeat' first | refine T.seq ?_ | refine T.block ?_ | refine T.r ?_ | refine J.e rfl rfl rfl rfl ?_ | refine J.nil ?_ | refine J.skip rfl rfl rfl ?_ | refine T.skip ?_ | refine T.exit ?_ | refine T.ret ?_ | refine T.rd rfl (by kernel_rfl) ?_ | refine J.bx rfl rfl rfl rfl rfl rfl ?_
  refine J.cc rfl rfl rfl rfl rfl hlaid rfl rfl ?_
  repeat' first | refine T.seq ?_ | refine T.block ?_ | refine T.r ?_ | refine J.e rfl rfl rfl rfl ?_ | refine J.nil ?_ | refine J.skip rfl rfl rfl ?_ | refine T.skip ?_ | refine T.exit ?_ | refine T.ret ?_ | refine T.rd rfl (by kernel_rfl) ?_ | refine J.bx rfl rfl rfl rfl rfl rfl ?_
  refine J.al rfl rfl rfl rfl rfl rfl rfl ?_
  repeat' first | refine T.seq ?_ | refine T.block ?_ | refine T.r ?_ | refine J.e rfl rfl rfl rfl ?_ | refine J.nil ?_ | refine J.skip rfl rfl rfl ?_ | refine T.skip ?_ | refine T.exit ?_ | refine T.ret ?_ | refine T.rd rfl (by kernel_rfl) ?_ | refine J.bx rfl rfl rfl rfl rfl rfl ?_
  refine J.w rfl rfl rfl rfl rfl rfl rfl rfl rfl rfl ?_
  repeat' first | refine T.seq ?_ | refine T.block ?_ | refine T.r ?_ | refine J.e rfl rfl rfl rfl ?_ | refine J.nil ?_ | refine J.skip rfl rfl rfl ?_ | refine T.skip ?_ | refine T.exit ?_ | refine T.ret ?_ | refine T.rd rfl (by kernel_rfl) ?_ | refine J.bx rfl rfl rfl rfl rfl rfl ?_
  rw [e1]
  cases ok
  · repeat' first | refine T.seq ?_ | refine T.block ?_ | refine T.r ?_ | refine J.e rfl rfl rfl rfl ?_ | refine J.nil ?_ | refine J.skip rfl rfl rfl ?_ | refine T.skip ?_ | refine T.exit ?_ | refine T.ret ?_ | refine T.rd rfl (by kernel_rfl) ?_ | refine J.bx rfl rfl rfl rfl rfl rfl ?_
    refine T.ct rfl ?_
    repeat' first | refine T.seq ?_ | refine T.block ?_ | refine T.r ?_ | refine J.e rfl rfl rfl rfl ?_ | refine J.nil ?_ | refine J.skip rfl rfl rfl ?_ | refine T.skip ?_ | refine T.exit ?_ | refine T.ret ?_ | refine T.rd rfl (by kernel_rfl) ?_ | refine J.bx rfl rfl rfl rfl rfl rfl ?_
    refine J.cc rfl rfl rfl rfl rfl fixed_spec rfl rfl ?_
    repeat' first | refine T.seq ?_ | refine T.block ?_ | refine T.r ?_ | refine J.e rfl rfl rfl rfl ?_ | refine J.nil ?_ | refine J.skip rfl rfl rfl ?_ | refine T.skip ?_ | refine T.exit ?_ | refine T.ret ?_ | refine T.rd rfl (by kernel_rfl) ?_ | refine J.bx rfl rfl rfl rfl rfl rfl ?_
    exact ⟨_, .v rfl rfl rfl (fun h => by cases h) .nil⟩
  · repeat' first | refine T.seq ?_ | refine T.block ?_ | refine T.r ?_ | refine J.e rfl rfl rfl rfl ?_ | refine J.nil ?_ | refine J.skip rfl rfl rfl ?_ | refine T.skip ?_ | refine T.exit ?_ | refine T.ret ?_ | refine T.rd rfl (by kernel_rfl) ?_ | refine J.bx rfl rfl rfl rfl rfl rfl ?_
    refine T.cd rfl (fun h4 => ?_) (fun h4 => ?_)
    · repeat' first | refine T.seq ?_ | refine T.block ?_ | refine T.r ?_ | refine J.e rfl rfl rfl rfl ?_ | refine J.nil ?_ | refine J.skip rfl rfl rfl ?_ | refine T.skip ?_ | refine T.exit ?_ | refine T.ret ?_ | refine T.rd rfl (by kernel_rfl) ?_ | refine J.bx rfl rfl rfl rfl rfl rfl ?_
      refine J.cc rfl rfl rfl rfl rfl fixed_spec rfl rfl ?_
      repeat' first | refine T.seq ?_ | refine T.block ?_ | refine T.r ?_ | refine J.e rfl rfl rfl rfl ?_ | refine J.nil ?_ | refine J.skip rfl rfl rfl ?_ | refine T.skip ?_ | refine T.exit ?_ | refine T.ret ?_ | refine T.rd rfl (by kernel_rfl) ?_ | refine J.bx rfl rfl rfl rfl rfl rfl ?_
      exact ⟨_, .v rfl rfl rfl (fun h => by cases h) .nil⟩
    · obtain ⟨hv, h2, h3⟩ := hlex (by simpa using hok.symm)
      have hh := half_le c
      have h4 : 2 ≤ halfOf c := by have h4 : ¬ (halfOf c : Int) < 2 := h4; omega
      have hsv := short_vars hv h4
      have hbg := short_begin h4
      have hsm : SmallD d := ⟨by omega, fun x hx => by have := (hf x hx).len; omega⟩
      obtain ⟨R, N, hR, hres⟩ := pruneO_ex hv hf
      obtain ⟨R2, N2, hR2, hres2⟩ := pruneO_ex hsv hf
      have hpr := (prune_spec d c hv hsm R N hR).frz
      have hpr2 := (prune_spec d (shortC c) hsv hsm R2 N2 hR2).frz
      repeat' first | refine T.seq ?_ | refine T.block ?_ | refine T.r ?_ | refine J.e rfl rfl rfl rfl ?_ | refine J.nil ?_ | refine J.skip rfl rfl rfl ?_ | refine T.skip ?_ | refine T.exit ?_ | refine T.ret ?_ | refine T.rd rfl (by kernel_rfl) ?_ | refine J.bx rfl rfl rfl rfl rfl rfl ?_
      refine J.bo rfl rfl rfl rfl rfl rfl rfl rfl rfl rfl rfl rfl ?_
      repeat' first | refine T.seq ?_ | refine T.block ?_ | refine T.r ?_ | refine J.e rfl rfl rfl rfl ?_ | refine J.nil ?_ | refine J.skip rfl rfl rfl ?_ | refine T.skip ?_ | refine T.exit ?_ | refine T.ret ?_ | refine T.rd rfl (by kernel_rfl) ?_ | refine J.bx rfl rfl rfl rfl rfl rfl ?_
      rw [wrap_id (n := (halfOf c : Int) - 1) (by omega) (by omega)]
      refine J.s1 (enc := cI) (halfOf c - 1) rfl rfl rfl rfl rfl rfl rfl rfl rfl (fun _ => rfl) (by omega) (by omega) ?_
      refine J.am (enc := cI) (l := ([] : List Int)) (l2 := c.vars.take (halfOf c - 1)) (B := 8) rfl rfl rfl rfl rfl rfl rfl rfl rfl rfl rfl rfl rfl rfl rfl rfl rfl (fun _ => rfl) rfl (by simp; omega) ?_
      repeat' first | refine T.seq ?_ | refine T.block ?_ | refine T.r ?_ | refine J.e rfl rfl rfl rfl ?_ | refine J.nil ?_ | refine J.skip rfl rfl rfl ?_ | refine T.skip ?_ | refine T.exit ?_ | refine T.ret ?_ | refine T.rd rfl (by kernel_rfl) ?_ | refine J.bx rfl rfl rfl rfl rfl rfl ?_
      rw [wrap_id (n := 2 * (halfOf c : Int)) (by omega) (by omega), wrap_id (n := 2 * (halfOf c : Int) - 1) (by omega) (by omega)]
      refine J.s2 (enc := cI) (halfOf c) (2 * halfOf c - 1) rfl rfl rfl rfl rfl rfl rfl rfl rfl rfl (fun _ => rfl) rfl (by omega) (by omega) (by omega) ?_
      refine J.am (enc := cI) (l2 := (c.vars.take (2 * halfOf c - 1)).drop (halfOf c)) (B := 8) rfl rfl rfl rfl rfl rfl rfl rfl rfl rfl rfl rfl rfl rfl rfl rfl rfl (fun _ => rfl) rfl (by simp; omega) ?_
      repeat' first | refine T.seq ?_ | refine T.block ?_ | refine T.r ?_ | refine J.e rfl rfl rfl rfl ?_ | refine J.nil ?_ | refine J.skip rfl rfl rfl ?_ | refine T.skip ?_ | refine T.exit ?_ | refine T.ret ?_ | refine T.rd rfl (by kernel_rfl) ?_ | refine J.bx rfl rfl rfl rfl rfl rfl ?_
      refine J.cc rfl rfl rfl rfl rfl hpr rfl rfl ?_
      repeat' first | refine T.seq ?_ | refine T.block ?_ | refine T.r ?_ | refine J.e rfl rfl rfl rfl ?_ | refine J.nil ?_ | refine J.skip rfl rfl rfl ?_ | refine T.skip ?_ | refine T.exit ?_ | refine T.ret ?_ | refine T.rd rfl (by kernel_rfl) ?_ | refine J.bx rfl rfl rfl rfl rfl rfl ?_
      refine J.sub (Rel.frz (s := 53) (fun _ h => h) rfl rfl) ?_
      repeat' first | refine T.seq ?_ | refine T.block ?_ | refine T.r ?_ | refine J.e rfl rfl rfl rfl ?_ | refine J.nil ?_ | refine J.skip rfl rfl rfl ?_ | refine T.skip ?_ | refine T.exit ?_ | refine T.ret ?_ | refine T.rd rfl (by kernel_rfl) ?_ | refine J.bx rfl rfl rfl rfl rfl rfl ?_
      refine J.cc rfl rfl rfl rfl rfl hpr2 rfl rfl ?_
      repeat' first | refine T.seq ?_ | refine T.block ?_ | refine T.r ?_ | refine J.e rfl rfl rfl rfl ?_ | refine J.nil ?_ | refine J.skip rfl rfl rfl ?_ | refine T.skip ?_ | refine T.exit ?_ | refine T.ret ?_ | refine T.rd rfl (by kernel_rfl) ?_ | refine J.bx rfl rfl rfl rfl rfl rfl ?_
      cases R with
      | none =>
        repeat' first | refine T.seq ?_ | refine T.block ?_ | refine T.r ?_ | refine J.e rfl rfl rfl rfl ?_ | refine J.nil ?_ | refine J.skip rfl rfl rfl ?_ | refine T.skip ?_ | refine T.exit ?_ | refine T.ret ?_ | refine T.rd rfl (by kernel_rfl) ?_ | refine J.bx rfl rfl rfl rfl rfl rfl ?_
        refine J.cc rfl rfl rfl rfl rfl fixed_spec rfl rfl ?_
        repeat' first | refine T.seq ?_ | refine T.block ?_ | refine T.r ?_ | refine J.e rfl rfl rfl rfl ?_ | refine J.nil ?_ | refine J.skip rfl rfl rfl ?_ | refine T.skip ?_ | refine T.exit ?_ | refine T.ret ?_ | refine T.rd rfl (by kernel_rfl) ?_ | refine J.bx rfl rfl rfl rfl rfl rfl ?_
        exact ⟨_, .v rfl rfl rfl (fun h => by cases h) .nil⟩
      | some l =>
        obtain ⟨hcut, hst⟩ := hres l rfl
        have he : [] ∉ d := fun he => by rw [if_pos he] at hR; cases hR
        rw [if_neg he] at hR2
        have hvl : VarsIn l c := ⟨hv.1, fun v hm => by rw [hcut.len]; exact hv.2 v hm⟩
        obtain ⟨m, rfl, hm, hho⟩ := longer_ex hbg hvl hsv hf hcut hst he hR2
        have hwi := within_spec l m (by rw [hcut.len]; omega) (fun x hx => (hcut.fine x hx).domB) (fun x hx => (hm.fine x hx).domB)
        rw [within_holds (by rw [hcut.len, hm.len]) hho] at hwi
        repeat' first | refine T.seq ?_ | refine T.block ?_ | refine T.r ?_ | refine J.e rfl rfl rfl rfl ?_ | refine J.nil ?_ | refine J.skip rfl rfl rfl ?_ | refine T.skip ?_ | refine T.exit ?_ | refine T.ret ?_ | refine T.rd rfl (by kernel_rfl) ?_ | refine J.bx rfl rfl rfl rfl rfl rfl ?_
        refine J.cc rfl rfl rfl rfl rfl hwi rfl rfl ?_
        repeat' first | refine T.seq ?_ | refine T.block ?_ | refine T.r ?_ | refine J.e rfl rfl rfl rfl ?_ | refine J.nil ?_ | refine J.skip rfl rfl rfl ?_ | refine T.skip ?_ | refine T.exit ?_ | refine T.ret ?_ | refine T.rd rfl (by kernel_rfl) ?_ | refine J.bx rfl rfl rfl rfl rfl rfl ?_
        refine J.cc rfl rfl rfl rfl rfl fixed_spec rfl rfl ?_
        repeat' first | refine T.seq ?_ | refine T.block ?_ | refine T.r ?_ | refine J.e rfl rfl rfl rfl ?_ | refine J.nil ?_ | refine J.skip rfl rfl rfl ?_ | refine T.skip ?_ | refine T.exit ?_ | refine T.ret ?_ | refine T.rd rfl (by kernel_rfl) ?_ | refine J.bx rfl rfl rfl rfl rfl rfl ?_
        exact ⟨_, .v rfl rfl rfl (fun h => by cases h) .nil⟩
end Go.Proofs.Ytgkblgddpldpeaa
