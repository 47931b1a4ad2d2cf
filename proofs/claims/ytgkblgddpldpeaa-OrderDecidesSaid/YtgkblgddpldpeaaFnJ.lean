/- Contracts: two lists in order, pruned by the document. -/
import Derived.Test.YtgkblgddpldpeaaFnI
namespace Go.Proofs.Ytgkblgddpldpeaa
open Go Go.RowKit
set_option linter.unusedVariables false
set_option maxRecDepth 4000

theorem packF_length : ∀ (l : List Int) (lo x : Int), (packF lo x l).length ≤ l.length + 1
  | [], lo, x => by simp [packF]
  | y :: l, lo, x => by
    have h1 := packF_length l lo y
    have h2 := packF_length l y y
    simp only [packF]; split <;> simp only [List.length_cons] <;> omega
theorem pack_length (l : List Int) : (pack l).length ≤ l.length := by
  cases l with
  | nil => simp [pack]
  | cons x l => have := packF_length l x x; simpa [pack] using this
theorem cutR_length {d : List (Int × Int)} (h : DomB d) (lo hi : Int) : ((cutR d lo hi).length) * 16 ≤ 140737488355328 := by
  have h1 := pack_length ((vals d).filter fun v => decide (lo ≤ v) && decide (v ≤ hi))
  have h2 := List.length_filter_le (fun v => decide (lo ≤ v) && decide (v ≤ hi)) (vals d)
  have h3 := h.2.1
  unfold cutR; omega

theorem pruneR_spec (d : Doms) (c : Con) (hc : VarsIn d c) (hd : d.length * 24 ≤ 140737488355328) (Inv : Doms → Prop) (hi1 : ∀ out, Inv out → ∀ x ∈ out, DomB x) (hi2 : ∀ out next, Inv out → VarsIn out c → stepR c out = .inr next → Inv next) (h0 : Inv d)
    (R : Option Doms) (N : Nat) (hR : if [] ∈ d then R = none else iter (stepR c) N d = some R) : Spec Try.prog 13 false [doms d, .agg (cC c)] (pruneRes R) := by
  refine Spec.body Try.func13 rfl rfl rfl fun w0 Z0 => ?_
  have hh := half_le c
  repeat' first | refine T.seq ?_ | refine T.block ?_ | refine T.r ?_ | refine J.e rfl rfl rfl rfl ?_ | refine J.nil ?_ | refine J.skip rfl rfl rfl ?_ | refine T.skip ?_ | refine T.exit ?_ | refine T.ret ?_ | refine T.rd rfl (by kernel_rfl) ?_ | refine J.bx rfl rfl rfl rfl rfl rfl ?_
  refine J.cc rfl rfl rfl rfl rfl (empty_spec d (by omega)) rfl rfl ?_
  repeat' first | refine T.seq ?_ | refine T.block ?_ | refine T.r ?_ | refine J.e rfl rfl rfl rfl ?_ | refine J.nil ?_ | refine J.skip rfl rfl rfl ?_ | refine T.skip ?_ | refine T.exit ?_ | refine T.ret ?_ | refine T.rd rfl (by kernel_rfl) ?_ | refine J.bx rfl rfl rfl rfl rfl rfl ?_
  refine T.cd rfl (fun h1 => ?_) (fun h1 => ?_)
  · rw [if_pos h1] at hR
    subst hR
    repeat' first | refine T.seq ?_ | refine T.block ?_ | refine T.r ?_ | refine J.e rfl rfl rfl rfl ?_ | refine J.nil ?_ | refine J.skip rfl rfl rfl ?_ | refine T.skip ?_ | refine T.exit ?_ | refine T.ret ?_ | refine T.rd rfl (by kernel_rfl) ?_ | refine J.bx rfl rfl rfl rfl rfl rfl ?_
    exact ⟨_, .ownN rfl (.v rfl rfl rfl (fun _ => rfl) .nil)⟩
  · rw [if_neg h1] at hR
    repeat' first | refine T.seq ?_ | refine T.block ?_ | refine T.r ?_ | refine J.e rfl rfl rfl rfl ?_ | refine J.nil ?_ | refine J.skip rfl rfl rfl ?_ | refine T.skip ?_ | refine T.exit ?_ | refine T.ret ?_ | refine T.rd rfl (by kernel_rfl) ?_ | refine J.bx rfl rfl rfl rfl rfl rfl ?_
    refine J.cc rfl rfl rfl rfl rfl (lists_spec d (by omega) (fun x hx => (hi1 d h0 x hx).2.2)) rfl rfl ?_
    repeat' first | refine T.seq ?_ | refine T.block ?_ | refine T.r ?_ | refine J.e rfl rfl rfl rfl ?_ | refine J.nil ?_ | refine J.skip rfl rfl rfl ?_ | refine T.skip ?_ | refine T.exit ?_ | refine T.ret ?_ | refine T.rd rfl (by kernel_rfl) ?_ | refine J.bx rfl rfl rfl rfl rfl rfl ?_
    have e1 : IntKind.i64.wrap (((c.vars.map cI).length : Int).tdiv 2) = (halfOf c : Int) := by
      have := hc.1
      rw [List.length_map, Int.tdiv_eq_ediv_of_nonneg (by omega), wrap_id (by omega) (by omega)]
      simp [halfOf]
    rw [e1]
    refine T.canon (keep := [3, 6, 7]) (os := [3, 6]) rfl (T.ind (fun (s : Nat × Doms) => ⟨[(3, .optr 0 0 0 0), (6, .ref 1), (7, .val true (.int .i64 (halfOf c)))], [(0, some (.box false (cC c))), (1, some (.sl 37 1 true (s.2.map cD)))], 2⟩)
      (fun s => iter (stepR c) s.1 s.2 = some R ∧ VarsIn s.2 c ∧ s.2.length * 24 ≤ 140737488355328 ∧ Inv s.2) (fun s => s.1) (N, d) ⟨hR, hc, hd, h0⟩ (fun _ _ h => h) ?_)
    rintro ⟨m, out⟩ ⟨hR, hc, hd, hI⟩ ih
    simp only at hR hc hd hI ih
    dsimp only
    have hcv := hc.1
    have hB := hi1 out hI
    repeat' first | refine T.seq ?_ | refine T.block ?_ | refine T.r ?_ | refine J.e rfl rfl rfl rfl ?_ | refine J.nil ?_ | refine J.skip rfl rfl rfl ?_ | refine T.skip ?_ | refine T.exit ?_ | refine T.ret ?_ | refine T.rd rfl (by kernel_rfl) ?_ | refine J.bx rfl rfl rfl rfl rfl rfl ?_
    refine J.cc rfl rfl rfl rfl rfl (placeR_spec out c hc hB) rfl rfl ?_
    repeat' first | refine T.seq ?_ | refine T.block ?_ | refine T.r ?_ | refine J.e rfl rfl rfl rfl ?_ | refine J.nil ?_ | refine J.skip rfl rfl rfl ?_ | refine T.skip ?_ | refine T.exit ?_ | refine T.ret ?_ | refine T.rd rfl (by kernel_rfl) ?_ | refine J.bx rfl rfl rfl rfl rfl rfl ?_
    have hpl : placeR out c ≤ halfOf c := placeF_le _ _
    have hst : stepR c out = stepR c out := rfl
    conv at hst => rhs; unfold stepR
    generalize placeR out c = k at *
    refine T.cd rfl (fun h1 => ?_) (fun h1 => ?_)
    · have h1 : k = halfOf c := by omega
      rw [if_pos h1] at hst
      obtain rfl := iter_inl hR hst
      repeat' first | refine T.seq ?_ | refine T.block ?_ | refine T.r ?_ | refine J.e rfl rfl rfl rfl ?_ | refine J.nil ?_ | refine J.skip rfl rfl rfl ?_ | refine T.skip ?_ | refine T.exit ?_ | refine T.ret ?_ | refine T.rd rfl (by kernel_rfl) ?_ | refine J.bx rfl rfl rfl rfl rfl rfl ?_
      exact ⟨_, .o rfl rfl rfl (fun _ => .inl rfl) (by simp) (.v rfl rfl rfl (fun _ => rfl) .nil)⟩
    · have h1 : ¬ k = halfOf c := by omega
      rw [if_neg h1] at hst
      have hv1 := hc.2 _ (varAt_mem (c := c) (k := k) (by omega))
      have hv2 := hc.2 _ (varAt_mem (c := c) (k := halfOf c + k) (by omega))
      have hm1 := hB _ (domAt_mem hv1.2)
      have hm2 := hB _ (domAt_mem hv2.2)
      have ra : (out.map cD)[(varAt c k).toNat]? = some (cD (domAt out (varAt c k))) := by simp [domAt_some hv1.2]
      have rb : (out.map cD)[(varAt c (halfOf c + k)).toNat]? = some (cD (domAt out (varAt c (halfOf c + k)))) := by simp [domAt_some hv2.2]
      have la : (varAt c k).toNat < (out.map cD).length := by simpa using hv1.2
      have lb : (varAt c (halfOf c + k)).toNat < (out.map cD).length := by simpa using hv2.2
      have ka := varAt_row (c := c) (k := k) (by omega)
      have kb := varAt_row (c := c) (k := halfOf c + k) (by omega)
      simp only at hst
      generalize varAt c k = a at *
      generalize varAt c (halfOf c + k) = b at *
      generalize domAt out a = da at *
      generalize domAt out b = db at *
      repeat' first | refine T.seq ?_ | refine T.block ?_ | refine T.r ?_ | refine J.e rfl rfl rfl rfl ?_ | refine J.nil ?_ | refine J.skip rfl rfl rfl ?_ | refine T.skip ?_ | refine T.exit ?_ | refine T.ret ?_ | refine T.rd rfl (by kernel_rfl) ?_ | refine J.bx rfl rfl rfl rfl rfl rfl ?_
      refine J.i rfl rfl rfl rfl rfl rfl rfl rfl rfl (r := cI a) (by omega) ka rfl ?_
      repeat' first | refine T.seq ?_ | refine T.block ?_ | refine T.r ?_ | refine J.e rfl rfl rfl rfl ?_ | refine J.nil ?_ | refine J.skip rfl rfl rfl ?_ | refine T.skip ?_ | refine T.exit ?_ | refine T.ret ?_ | refine T.rd rfl (by kernel_rfl) ?_ | refine J.bx rfl rfl rfl rfl rfl rfl ?_
      rw [show IntKind.i64.wrap ((halfOf c : Int) + (k : Int)) = ((halfOf c + k : Nat) : Int) by rw [wrap_id (by omega) (by omega)]; omega]
      refine J.i rfl rfl rfl rfl rfl rfl rfl rfl rfl (r := cI b) (by omega) kb rfl ?_
      repeat' first | refine T.seq ?_ | refine T.block ?_ | refine T.r ?_ | refine J.e rfl rfl rfl rfl ?_ | refine J.nil ?_ | refine J.skip rfl rfl rfl ?_ | refine T.skip ?_ | refine T.exit ?_ | refine T.ret ?_ | refine T.rd rfl (by kernel_rfl) ?_ | refine J.bx rfl rfl rfl rfl rfl rfl ?_
      refine J.cc rfl rfl rfl rfl rfl (lists_spec out (by omega) (fun x hx => (hB x hx).2.2)) rfl rfl ?_
      repeat' first | refine T.seq ?_ | refine T.block ?_ | refine T.r ?_ | refine J.e rfl rfl rfl rfl ?_ | refine J.nil ?_ | refine J.skip rfl rfl rfl ?_ | refine T.skip ?_ | refine T.exit ?_ | refine T.ret ?_ | refine T.rd rfl (by kernel_rfl) ?_ | refine J.bx rfl rfl rfl rfl rfl rfl ?_
      refine J.io rfl rfl rfl rfl rfl rfl rfl rfl rfl hv1.1 la rfl ?_
      refine J.lo rfl rfl rfl rfl rfl rfl (r := cD da) ra rfl ?_
      repeat' first | refine T.seq ?_ | refine T.block ?_ | refine T.r ?_ | refine J.e rfl rfl rfl rfl ?_ | refine J.nil ?_ | refine J.skip rfl rfl rfl ?_ | refine T.skip ?_ | refine T.exit ?_ | refine T.ret ?_ | refine T.rd rfl (by kernel_rfl) ?_ | refine J.bx rfl rfl rfl rfl rfl rfl ?_
      refine J.cc rfl rfl rfl rfl rfl (ends_spec da hm1) rfl rfl ?_
      repeat' first | refine T.seq ?_ | refine T.block ?_ | refine T.r ?_ | refine J.e rfl rfl rfl rfl ?_ | refine J.nil ?_ | refine J.skip rfl rfl rfl ?_ | refine T.skip ?_ | refine T.exit ?_ | refine T.ret ?_ | refine T.rd rfl (by kernel_rfl) ?_ | refine J.bx rfl rfl rfl rfl rfl rfl ?_
      refine J.io rfl rfl rfl rfl rfl rfl rfl rfl rfl hv2.1 lb rfl ?_
      refine J.lo rfl rfl rfl rfl rfl rfl (r := cD db) rb rfl ?_
      repeat' first | refine T.seq ?_ | refine T.block ?_ | refine T.r ?_ | refine J.e rfl rfl rfl rfl ?_ | refine J.nil ?_ | refine J.skip rfl rfl rfl ?_ | refine T.skip ?_ | refine T.exit ?_ | refine T.ret ?_ | refine T.rd rfl (by kernel_rfl) ?_ | refine J.bx rfl rfl rfl rfl rfl rfl ?_
      refine J.cc rfl rfl rfl rfl rfl (ends_spec db hm2) rfl rfl ?_
      repeat' first | refine T.seq ?_ | refine T.block ?_ | refine T.r ?_ | refine J.e rfl rfl rfl rfl ?_ | refine J.nil ?_ | refine J.skip rfl rfl rfl ?_ | refine T.skip ?_ | refine T.exit ?_ | refine T.ret ?_ | refine T.rd rfl (by kernel_rfl) ?_ | refine J.bx rfl rfl rfl rfl rfl rfl ?_
      refine J.io rfl rfl rfl rfl rfl rfl rfl rfl rfl hv1.1 la rfl ?_
      refine J.lo rfl rfl rfl rfl rfl rfl (r := cD da) ra rfl ?_
      repeat' first | refine T.seq ?_ | refine T.block ?_ | refine T.r ?_ | refine J.e rfl rfl rfl rfl ?_ | refine J.nil ?_ | refine J.skip rfl rfl rfl ?_ | refine T.skip ?_ | refine T.exit ?_ | refine T.ret ?_ | refine T.rd rfl (by kernel_rfl) ?_ | refine J.bx rfl rfl rfl rfl rfl rfl ?_
      refine J.cc rfl rfl rfl rfl rfl (cut_spec da (endsR da).1 (endsR db).2.1 hm1).frz rfl rfl ?_
      repeat' first | refine T.seq ?_ | refine T.block ?_ | refine T.r ?_ | refine J.e rfl rfl rfl rfl ?_ | refine J.nil ?_ | refine J.skip rfl rfl rfl ?_ | refine T.skip ?_ | refine T.exit ?_ | refine T.ret ?_ | refine T.rd rfl (by kernel_rfl) ?_ | refine J.bx rfl rfl rfl rfl rfl rfl ?_
      refine J.io rfl rfl rfl rfl rfl rfl rfl rfl rfl hv1.1 la rfl ?_
      refine J.w1 rfl rfl rfl rfl rfl rfl rfl rfl rfl rfl rfl (fun _ => rfl) (by simpa using la) ?_
      repeat' first | refine T.seq ?_ | refine T.block ?_ | refine T.r ?_ | refine J.e rfl rfl rfl rfl ?_ | refine J.nil ?_ | refine J.skip rfl rfl rfl ?_ | refine T.skip ?_ | refine T.exit ?_ | refine T.ret ?_ | refine T.rd rfl (by kernel_rfl) ?_ | refine J.bx rfl rfl rfl rfl rfl rfl ?_
      refine J.io rfl rfl rfl rfl rfl rfl rfl rfl rfl hv2.1 lb rfl ?_
      refine J.lo rfl rfl rfl rfl rfl rfl (r := cD db) rb rfl ?_
      repeat' first | refine T.seq ?_ | refine T.block ?_ | refine T.r ?_ | refine J.e rfl rfl rfl rfl ?_ | refine J.nil ?_ | refine J.skip rfl rfl rfl ?_ | refine T.skip ?_ | refine T.exit ?_ | refine T.ret ?_ | refine T.rd rfl (by kernel_rfl) ?_ | refine J.bx rfl rfl rfl rfl rfl rfl ?_
      refine J.cc rfl rfl rfl rfl rfl (cut_spec db (endsR da).1 (max (endsR da).1 1048576) hm2).frz rfl rfl ?_
      repeat' first | refine T.seq ?_ | refine T.block ?_ | refine T.r ?_ | refine J.e rfl rfl rfl rfl ?_ | refine J.nil ?_ | refine J.skip rfl rfl rfl ?_ | refine T.skip ?_ | refine T.exit ?_ | refine T.ret ?_ | refine T.rd rfl (by kernel_rfl) ?_ | refine J.bx rfl rfl rfl rfl rfl rfl ?_
      refine J.io rfl rfl rfl rfl rfl rfl rfl rfl rfl hv2.1 (by simpa using lb) rfl ?_
      refine J.w1 rfl rfl rfl rfl rfl rfl rfl rfl rfl rfl rfl (fun _ => rfl) (by simpa using lb) ?_
      repeat' first | refine T.seq ?_ | refine T.block ?_ | refine T.r ?_ | refine J.e rfl rfl rfl rfl ?_ | refine J.nil ?_ | refine J.skip rfl rfl rfl ?_ | refine T.skip ?_ | refine T.exit ?_ | refine T.ret ?_ | refine T.rd rfl (by kernel_rfl) ?_ | refine J.bx rfl rfl rfl rfl rfl rfl ?_
      have hxl := cutR_length hm1 (endsR da).1 (endsR db).2.1
      have hyl := cutR_length hm2 (endsR da).1 (max (endsR da).1 1048576)
      generalize cutR da (endsR da).1 (endsR db).2.1 = x at *
      generalize cutR db (endsR da).1 (max (endsR da).1 1048576) = y at *
      have hnl : ((out.set a.toNat x).set b.toNat y).length = out.length := by simp
      have hnx : ∀ z ∈ (out.set a.toNat x).set b.toNat y, z.length * 16 ≤ 140737488355328 := by
        intro z hz
        rcases List.mem_or_eq_of_mem_set hz with hz | rfl
        · rcases List.mem_or_eq_of_mem_set hz with hz | rfl
          · exact (hB z hz).2.2
          · exact hxl
        · exact hyl
      have hvn : VarsIn ((out.set a.toNat x).set b.toNat y) c := (hc.set _ _).set _ _
      generalize (out.set a.toNat x).set b.toNat y = next at *
      refine J.cc rfl rfl rfl rfl rfl (empty_spec next (by omega)) rfl rfl ?_
      repeat' first | refine T.seq ?_ | refine T.block ?_ | refine T.r ?_ | refine J.e rfl rfl rfl rfl ?_ | refine J.nil ?_ | refine J.skip rfl rfl rfl ?_ | refine T.skip ?_ | refine T.exit ?_ | refine T.ret ?_ | refine T.rd rfl (by kernel_rfl) ?_ | refine J.bx rfl rfl rfl rfl rfl rfl ?_
      refine T.cd rfl (fun h2 => ?_) (fun h2 => ?_)
      · rw [if_pos h2] at hst
        obtain rfl := iter_inl hR hst
        repeat' first | refine T.seq ?_ | refine T.block ?_ | refine T.r ?_ | refine J.e rfl rfl rfl rfl ?_ | refine J.nil ?_ | refine J.skip rfl rfl rfl ?_ | refine T.skip ?_ | refine T.exit ?_ | refine T.ret ?_ | refine T.rd rfl (by kernel_rfl) ?_ | refine J.bx rfl rfl rfl rfl rfl rfl ?_
        exact ⟨_, .ownN rfl (.v rfl rfl rfl (fun _ => rfl) .nil)⟩
      · rw [if_neg h2] at hst
        repeat' first | refine T.seq ?_ | refine T.block ?_ | refine T.r ?_ | refine J.e rfl rfl rfl rfl ?_ | refine J.nil ?_ | refine J.skip rfl rfl rfl ?_ | refine T.skip ?_ | refine T.exit ?_ | refine T.ret ?_ | refine T.rd rfl (by kernel_rfl) ?_ | refine J.bx rfl rfl rfl rfl rfl rfl ?_
        refine J.cc rfl rfl rfl rfl rfl (sames_spec next out (by omega) (fun z hz => by have := hnx z hz; omega)) rfl rfl ?_
        repeat' first | refine T.seq ?_ | refine T.block ?_ | refine T.r ?_ | refine J.e rfl rfl rfl rfl ?_ | refine J.nil ?_ | refine J.skip rfl rfl rfl ?_ | refine T.skip ?_ | refine T.exit ?_ | refine T.ret ?_ | refine T.rd rfl (by kernel_rfl) ?_ | refine J.bx rfl rfl rfl rfl rfl rfl ?_
        refine T.cd rfl (fun h3 => ?_) (fun h3 => ?_)
        · rw [if_pos h3] at hst
          obtain rfl := iter_inl hR hst
          repeat' first | refine T.seq ?_ | refine T.block ?_ | refine T.r ?_ | refine J.e rfl rfl rfl rfl ?_ | refine J.nil ?_ | refine J.skip rfl rfl rfl ?_ | refine T.skip ?_ | refine T.exit ?_ | refine T.ret ?_ | refine T.rd rfl (by kernel_rfl) ?_ | refine J.bx rfl rfl rfl rfl rfl rfl ?_
          exact ⟨_, .o rfl rfl rfl (fun _ => .inl rfl) (by simp) (.v rfl rfl rfl (fun _ => rfl) .nil)⟩
        · rw [if_neg h3] at hst
          obtain ⟨m', hm', hR'⟩ := iter_inr hR hst
          repeat' first | refine T.seq ?_ | refine T.block ?_ | refine T.r ?_ | refine J.e rfl rfl rfl rfl ?_ | refine J.nil ?_ | refine J.skip rfl rfl rfl ?_ | refine T.skip ?_ | refine T.exit ?_ | refine T.ret ?_ | refine T.rd rfl (by kernel_rfl) ?_ | refine J.bx rfl rfl rfl rfl rfl rfl ?_
          exact T.canon (keep := [3, 6, 7]) (os := [3, 6]) rfl (ih (m', next) ⟨hR', hvn, by simp only; omega, hi2 out next hI hc hst⟩ hm')
end Go.Proofs.Ytgkblgddpldpeaa
