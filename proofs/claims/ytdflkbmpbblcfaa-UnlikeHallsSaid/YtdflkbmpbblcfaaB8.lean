/- The texts FuF, FuG, FuH, FuI, PuM, FuJ, RowB of the workplace, joined. -/
import Derived.Test.YtdflkbmpbblcfaaB7
/-! Contracts: unlike.Match. -/
namespace Go.Proofs.Ytdflkbmpbblcfaa
open Go Go.RowKit
set_option linter.unusedVariables false
set_option linter.unusedSimpArgs false
set_option maxRecDepth 8000

theorem listsP_ok (d : Doms) (vs : List Int) (hl : vs.length * 24 ≤ 140737488355328) : (listsP d vs).length * 24 ≤ 140737488355328 ∧ ∀ x ∈ listsP d vs, x.length * 8 ≤ 140737488355328 := by
  refine ⟨by rw [listsP, List.length_map]; exact hl, fun x hx => ?_⟩
  obtain ⟨v, _, rfl⟩ := List.mem_map.1 hx
  have := valsT_len (d.getD v.toNat [])
  omega
/-- How far a walk through a map has come: what was told stands in the list. -/
def Told (b : By) (bs : List Nat) (seen : Array Nat) (out : List Int) : Prop := ∀ (x : Nat) (p : Int × Int) (t : Nat), b[x]? = some p → bs[x]? = some t → t ∈ seen → out[p.2.toNat]? = some p.1
theorem match_spec (d : Doms) (vs : List Int) (hd : SmallD d) (hb : ∀ x ∈ d, InB x) (hx : ∀ x ∈ d, x.length * 16 ≤ 140737488351232) (hv : ∀ v ∈ vs, 0 ≤ v ∧ v.toNat < d.length) (hl : vs.length * 24 ≤ 140737488355328) :
    Spec Try.prog 15 false [doms d, ints vs] [.own 3 1 ((matchR (listsP d vs)).1.map cI), .val (.bool (matchR (listsP d vs)).2)] := by
  refine Spec.body Try.func15 rfl rfl rfl fun w0 Z0 => ?_
  have hlo := listsP_ok d vs hl
  have hlen : (listsP d vs).length = vs.length := List.length_map ..
  have hsl := (ulists_spec d vs hd hb hx hv hl).frz
  generalize listsP d vs = L at *
  have hsp := matched_spec L hlo.1 hlo.2
  unfold matchR
  cases hm : matchP L with
  | none =>
    rw [hm] at hsp
    dsimp only at hsp ⊢
    repeat' ((first | refine T.G rfl ?_ | refine J.G rfl ?_ | refine J.H rfl ?_ | refine T.rd rfl (by decide +kernel) ?_ | fail); conv => whnf)
    refine J.cc rfl rfl rfl rfl rfl hsl rfl rfl ?_
    repeat' ((first | refine T.G rfl ?_ | refine J.G rfl ?_ | refine J.H rfl ?_ | refine T.rd rfl (by decide +kernel) ?_ | fail); conv => whnf)
    refine J.co (qs := []) (cs2 := []) false [] [] rfl rfl rfl rfl rfl rfl hsp trivial rfl rfl rfl rfl rfl rfl rfl fun ns hns => ?_
    obtain rfl : ns = [] := List.eq_nil_of_length_eq_zero hns
    repeat' ((first | refine T.G rfl ?_ | refine J.G rfl ?_ | refine J.H rfl ?_ | refine T.rd rfl (by decide +kernel) ?_ | fail); conv => whnf)
    refine T.ct rfl ?_
    repeat' ((first | refine T.G rfl ?_ | refine J.G rfl ?_ | refine J.H rfl ?_ | refine T.rd rfl (by decide +kernel) ?_ | fail); conv => whnf)
    exact ⟨_, .ownN rfl (.v rfl rfl rfl (fun _ => rfl) .nil)⟩
  | some b =>
    rw [hm] at hsp
    dsimp only at hsp ⊢
    repeat' ((first | refine T.G rfl ?_ | refine J.G rfl ?_ | refine J.H rfl ?_ | refine T.rd rfl (by decide +kernel) ?_ | fail); conv => whnf)
    refine J.cc rfl rfl rfl rfl rfl hsl rfl rfl ?_
    repeat' ((first | refine T.G rfl ?_ | refine J.G rfl ?_ | refine J.H rfl ?_ | refine T.rd rfl (by decide +kernel) ?_ | fail); conv => whnf)
    refine J.co (qs := []) (cs2 := []) false [] [1001, 1002] rfl rfl rfl rfl rfl rfl hsp trivial rfl rfl rfl rfl rfl rfl rfl fun ns hns => ?_
    obtain ⟨pm, pb, rfl⟩ : ∃ pm pb, ns = [pm, pb] := by
      match ns, hns with
      | [a, b], _ => exact ⟨a, b, rfl⟩
    repeat' ((first | refine T.G rfl ?_ | refine J.G rfl ?_ | refine J.H rfl ?_ | refine T.rd rfl (by decide +kernel) ?_ | fail); conv => whnf)
    refine T.cf rfl ?_
    repeat' ((first | refine T.G rfl ?_ | refine J.G rfl ?_ | refine J.H rfl ?_ | refine T.rd rfl (by decide +kernel) ?_ | fail); conv => whnf)
    refine J.ms (B := 8) (.int .i64 0) vs.length rfl rfl rfl rfl rfl rfl rfl rfl rfl rfl rfl rfl rfl rfl (by simp) (by simp) (fun _ _ => .int _ _) (by omega) ?_
    repeat' ((first | refine T.G rfl ?_ | refine J.G rfl ?_ | refine J.H rfl ?_ | refine T.rd rfl (by decide +kernel) ?_ | fail); conv => whnf)
    refine J.sub (Rel.derawp (s := 23) (g := 1001) rfl rfl rfl) ?_
    repeat' ((first | refine T.G rfl ?_ | refine J.G rfl ?_ | refine J.H rfl ?_ | refine T.rd rfl (by decide +kernel) ?_ | fail); conv => whnf)
    refine J.sub (Rel.deraw (s := 26) (g := 1002) rfl rfl) ?_
    refine J.rg (ek := Value.int .i64) (en := PV.int .i64) (l := b) 1003 rfl rfl rfl rfl rfl rfl rfl rfl fun m bs clock hbl hbn => ?_
    rw [show List.replicate vs.length [PV.int .i64 0] = (List.replicate vs.length (0 : Int)).map cI from by simp [cI]]
    repeat' ((first | refine T.G rfl ?_ | refine J.G rfl ?_ | refine J.H rfl ?_ | refine T.rd rfl (by decide +kernel) ?_ | fail); conv => whnf)
    refine T.canon (keep := [8, 27, 1003]) (os := [8, 27, 1003]) rfl (T.ind (fun x : Array Nat × List Int => ⟨[(8, .ref 0), (27, .ref 1), (1003, .eq (.map (some m)) 2)],
        [(0, some (.sl 3 1 true (x.2.map cI))), (1, some (.it m clock x.1 clock)), (2, some (.mp false (some (bs, clock)) (b.map fun p => (Value.int .i64 p.1, PV.int .i64 p.2))))], 3⟩)
      (fun x => x.2.length = L.length ∧ Told b bs x.1 x.2) (fun x => (bs.filter fun t => decide (t ∉ x.1)).length) (#[], List.replicate vs.length 0) ⟨by simp [hlen], fun x p t _ _ h => by simp at h⟩ (fun _ _ h => h) ?_)
    rintro ⟨seen, out⟩ ⟨hol, ht⟩ ih
    simp only at hol ht
    dsimp only
    repeat' ((first | refine T.G rfl ?_ | refine J.G rfl ?_ | refine J.H rfl ?_ | refine T.rd rfl (by decide +kernel) ?_ | fail); conv => whnf)
    refine J.nxt (ek := Value.int .i64) (en := PV.int .i64) (l := b) (gs := 1003) (ekp := PV.int .i64) rfl rfl rfl rfl rfl rfl rfl rfl (fun _ _ _ => .int _ _) (fun hall => ?_) (fun i p t hp hx1 hx2 => ?_)
    · repeat' ((first | refine T.G rfl ?_ | refine J.G rfl ?_ | refine J.H rfl ?_ | refine T.rd rfl (by decide +kernel) ?_ | fail); conv => whnf)
      refine T.cf rfl ?_
      repeat' ((first | refine T.G rfl ?_ | refine J.G rfl ?_ | refine J.H rfl ?_ | refine T.rd rfl (by decide +kernel) ?_ | fail); conv => whnf)
      have e : out = solP b L.length := by
        refine List.ext_getElem? fun j => ?_
        by_cases hj : j < L.length
        · obtain ⟨p, hp, e⟩ := cover hm hj
          have h1 := (solP_at hm hp).2.2
          obtain ⟨x, hxp⟩ := List.getElem?_of_mem hp
          have hxl : x < bs.length := by rw [hbl]; exact (List.getElem?_eq_some_iff.1 hxp).1
          have hxt : bs[x]? = some bs[x] := List.getElem?_eq_getElem hxl
          have h2 := ht x p _ hxp hxt (hall x _ hxt)
          rw [e] at h1 h2
          rw [show ((j : Nat) : Int).toNat = j from rfl] at h1 h2
          rw [h1, h2]
        · rw [List.getElem?_eq_none (by omega), List.getElem?_eq_none (by rw [solP_len]; omega)]
      rw [← e]
      exact ⟨_, .o rfl rfl rfl (fun _ => .inl rfl) (by simp) (.v rfl rfl rfl (fun _ => rfl) .nil)⟩
    · have hpm := List.mem_of_getElem? hp
      have hpa := solP_at hm hpm
      repeat' ((first | refine T.G rfl ?_ | refine J.G rfl ?_ | refine J.H rfl ?_ | refine T.rd rfl (by decide +kernel) ?_ | fail); conv => whnf)
      refine T.ct rfl ?_
      repeat' ((first | refine T.G rfl ?_ | refine J.G rfl ?_ | refine J.H rfl ?_ | refine T.rd rfl (by decide +kernel) ?_ | fail); conv => whnf)
      refine J.ent (ek := Value.int .i64) (en := PV.int .i64) (l := b) (gs := 1003) (ekp := PV.int .i64) rfl rfl rfl rfl rfl rfl rfl rfl (fun _ _ _ => .int _ _) hp hx1 ?_
      repeat' ((first | refine T.G rfl ?_ | refine J.G rfl ?_ | refine J.H rfl ?_ | refine T.rd rfl (by decide +kernel) ?_ | fail); conv => whnf)
      refine J.io rfl rfl rfl rfl rfl rfl rfl rfl rfl hpa.1 (by rw [List.length_map, hol]; exact hpa.2.1) rfl ?_
      repeat' ((first | refine T.G rfl ?_ | refine J.G rfl ?_ | refine J.H rfl ?_ | refine T.rd rfl (by decide +kernel) ?_ | fail); conv => whnf)
      refine J.w1 rfl rfl rfl rfl rfl rfl rfl rfl rfl rfl rfl (z := p.1) (fun _ => rfl) (by rw [hol]; exact hpa.2.1) ?_
      repeat' ((first | refine T.G rfl ?_ | refine J.G rfl ?_ | refine J.H rfl ?_ | refine T.rd rfl (by decide +kernel) ?_ | fail); conv => whnf)
      refine T.canon (keep := [8, 27, 1003]) (os := [8, 27, 1003]) rfl (ih (seen.push t, out.set p.2.toNat p.1) ⟨by simp [hol], fun x q t2 h1 h2 h3 => ?_⟩ ?_)
      · simp only
        have hc := (matchP_ok hm).2
        rcases Array.mem_push.1 h3 with h4 | h4
        · have h5 := ht x q t2 h1 h2 h4
          rw [List.getElem?_set]
          by_cases e : p.2.toNat = q.2.toNat
          · have hqa := solP_at hm (List.mem_of_getElem? h1)
            have e2 : q.2 = p.2 := by omega
            have := cnt_one (b := b) (j := p.2) (by rw [hc]; split <;> omega) i x p q hp h1 rfl e2
            subst this
            rw [hp] at h1
            obtain rfl := Option.some.inj h1
            rw [if_pos rfl, if_pos (by rw [hol]; exact hpa.2.1)]
          · rw [if_neg e]; exact h5
        · subst h4
          have : x = i := by
            obtain ⟨a1, a2⟩ := List.getElem?_eq_some_iff.1 h2
            obtain ⟨a3, a4⟩ := List.getElem?_eq_some_iff.1 hx1
            exact (List.getElem_inj hbn).1 (a2.trans a4.symm)
          subst this
          rw [hp] at h1
          obtain rfl := Option.some.inj h1
          rw [List.getElem?_set, if_pos rfl, if_pos (by rw [hol]; exact hpa.2.1)]
      · simp only
        refine filter_lt _ t (fun y hy => ?_) (List.mem_of_getElem? hx1) (by simpa using hx2) (by simp)
        simp only [Array.mem_push, not_or, decide_eq_true_eq] at hy ⊢
        exact hy.1
end Go.Proofs.Ytdflkbmpbblcfaa
/-! Contracts: unlike.Prune. -/
namespace Go.Proofs.Ytdflkbmpbblcfaa
open Go Go.RowKit
set_option linter.unusedVariables false
set_option linter.unusedSimpArgs false
set_option maxRecDepth 8000

def leftU (L : List (List Int)) (i : Nat) : List Int := (L.getD i []).filter fun x => (matchR (L.set i [x])).2
def stepU (L : List (List Int)) : List Int → Nat → Doms → Doms
  | [], _, out => out
  | v :: vs, i, out => stepU L vs (i + 1) (out.set v.toNat (domOfP (leftU L i)).1)
def pruneU (d : Doms) (vs : List Int) : Option Doms := if [] ∈ d then none else if (matchR (listsP d vs)).2 = true then some (stepU (listsP d vs) vs 0 d) else none
theorem uprune_spec (d : Doms) (c : Con) (hd : SmallD d) (hb : ∀ x ∈ d, InB x) (hx : ∀ x ∈ d, x.length * 16 ≤ 140737488351232) (hv : ∀ v ∈ c.vars, 0 ≤ v ∧ v.toNat < d.length) (hl : c.vars.length * 24 ≤ 140737488355328) : Spec Try.prog 12 false [doms d, .agg (cC c)] (pruneRes (pruneU d c.vars)) := by
  refine Spec.body Try.func12 rfl rfl rfl fun w0 Z0 => ?_
  obtain ⟨hd1, hd2⟩ := hd
  generalize hR : pruneU d c.vars = R
  unfold pruneU at hR
  repeat' ((first | refine T.G rfl ?_ | refine J.G rfl ?_ | refine J.H rfl ?_ | refine T.rd rfl (by decide +kernel) ?_ | fail); conv => whnf)
  refine T.sub (Rel.own0 (s := 6) 36 1 rfl) ?_
  refine T.canon (keep := [0, 3, 6, 20, 21, 22]) (os := [3, 6]) rfl (T.listI d (fun pre => [] ∉ pre) (fun n pre post => ⟨[(0, .val false (doms d)), (3, .optr 0 0 0 0), (6, .ref 1), (20, .val false (doms d)), (21, .val true (.int .i64 (d.map cD).length)), (22, .val true (.int .i64 n))], [(0, some (.box false (cC c))), (1, some (.sl 36 1 true (pre.map cD)))], 2⟩) (fun _ _ h => h) (by simp) ?_ ?_)
  · rintro n pre x post h hn hi ih
    have hlt := at_lt h hn
    have hxl := hd2 x (by rw [h]; simp)
    repeat' ((first | refine T.G rfl ?_ | refine J.G rfl ?_ | refine J.H rfl ?_ | refine T.rd rfl (by decide +kernel) ?_ | fail); conv => whnf)
    refine T.ct2 rfl (lt_at h hn) ?_
    repeat' ((first | refine T.G rfl ?_ | refine J.G rfl ?_ | refine J.H rfl ?_ | refine T.rd rfl (by decide +kernel) ?_ | fail); conv => whnf)
    refine J.i rfl rfl rfl rfl rfl rfl rfl rfl rfl (r := cD x) (by omega) (row_at h hn) rfl ?_
    repeat' ((first | refine T.G rfl ?_ | refine J.G rfl ?_ | refine J.H rfl ?_ | refine T.rd rfl (by decide +kernel) ?_ | fail); conv => whnf)
    refine T.cd rfl (fun h1 => ?_) (fun h1 => ?_)
    · have hx : x = [] := by simp at h1; exact h1
      have : R = none := by rw [if_pos (by rw [h, hx]; simp)] at hR; exact hR.symm
      subst this
      repeat' ((first | refine T.G rfl ?_ | refine J.G rfl ?_ | refine J.H rfl ?_ | refine T.rd rfl (by decide +kernel) ?_ | fail); conv => whnf)
      exact ⟨_, .ownN rfl (.v rfl rfl rfl (fun _ => rfl) .nil)⟩
    · have hx : x ≠ [] := fun e => h1 (by rw [e]; rfl)
      repeat' ((first | refine T.G rfl ?_ | refine J.G rfl ?_ | refine J.H rfl ?_ | refine T.rd rfl (by decide +kernel) ?_ | fail); conv => whnf)
      refine J.cc rfl rfl rfl rfl rfl (clone_spec x (by omega)).frz rfl rfl ?_
      repeat' ((first | refine T.G rfl ?_ | refine J.G rfl ?_ | refine J.H rfl ?_ | refine T.rd rfl (by decide +kernel) ?_ | fail); conv => whnf)
      refine J.bv rfl rfl rfl rfl rfl rfl rfl rfl rfl rfl rfl rfl ?_
      repeat' ((first | refine T.G rfl ?_ | refine J.G rfl ?_ | refine J.H rfl ?_ | refine T.rd rfl (by decide +kernel) ?_ | fail); conv => whnf)
      refine J.aD rfl rfl rfl rfl rfl rfl rfl rfl rfl rfl rfl rfl rfl rfl rfl rfl rfl rfl rfl (by omega) ?_
      repeat' ((first | refine T.G rfl ?_ | refine J.G rfl ?_ | refine J.H rfl ?_ | refine T.rd rfl (by decide +kernel) ?_ | fail); conv => whnf)
      rw [wrap1 hlt (by omega)]
      exact T.canon (keep := [0, 3, 6, 20, 21, 22]) (os := [3, 6]) rfl (ih (by simp [hi, Ne.symm hx]))
  · intro hi
    rw [if_neg hi] at hR
    have hlo := listsP_ok d c.vars hl
    have hlen : (listsP d c.vars).length = c.vars.length := List.length_map ..
    have hL4 : ∀ x ∈ listsP d c.vars, x.length ≤ 4097 := fun x hx => by
      obtain ⟨v, _, rfl⟩ := List.mem_map.1 hx
      exact valsT_len _
    have hsl := (ulists_spec d c.vars ⟨hd1, hd2⟩ hb hx hv hl).frz
    generalize listsP d c.vars = L at *
    have hsp := matched_spec L hlo.1 hlo.2
    repeat' ((first | refine T.G rfl ?_ | refine J.G rfl ?_ | refine J.H rfl ?_ | refine T.rd rfl (by decide +kernel) ?_ | fail); conv => whnf)
    refine T.cf2 rfl lt_end ?_
    repeat' ((first | refine T.G rfl ?_ | refine J.G rfl ?_ | refine J.H rfl ?_ | refine T.rd rfl (by decide +kernel) ?_ | fail); conv => whnf)
    refine J.cc rfl rfl rfl rfl rfl hsl rfl rfl ?_
    repeat' ((first | refine T.G rfl ?_ | refine J.G rfl ?_ | refine J.H rfl ?_ | refine T.rd rfl (by decide +kernel) ?_ | fail); conv => whnf)
    have hR2 : (matchR L).2 = (matchP L).isSome := by unfold matchR; cases matchP L <;> rfl
    rw [hR2] at hR
    cases hm : matchP L with
    | none =>
      rw [hm] at hsp hR
      dsimp only at hsp
      obtain rfl : R = none := by simpa using hR.symm
      refine J.co (qs := []) (cs2 := []) false [] [] rfl rfl rfl rfl rfl rfl hsp trivial rfl rfl rfl rfl rfl rfl rfl fun ns hns => ?_
      obtain rfl : ns = [] := List.eq_nil_of_length_eq_zero hns
      repeat' ((first | refine T.G rfl ?_ | refine J.G rfl ?_ | refine J.H rfl ?_ | refine T.rd rfl (by decide +kernel) ?_ | fail); conv => whnf)
      refine T.ct rfl ?_
      repeat' ((first | refine T.G rfl ?_ | refine J.G rfl ?_ | refine J.H rfl ?_ | refine T.rd rfl (by decide +kernel) ?_ | fail); conv => whnf)
      exact ⟨_, .ownN rfl (.v rfl rfl rfl (fun _ => rfl) .nil)⟩
    | some b0 =>
    rw [hm] at hsp hR
    dsimp only at hsp
    obtain rfl : R = some (stepU L c.vars 0 d) := by simpa using hR.symm
    refine J.co (qs := []) (cs2 := []) false [] [1001, 1002] rfl rfl rfl rfl rfl rfl hsp trivial rfl rfl rfl rfl rfl rfl rfl fun ns hns => ?_
    obtain ⟨pm, pb, rfl⟩ : ∃ pm pb, ns = [pm, pb] := by
      match ns, hns with
      | [a, b], _ => exact ⟨a, b, rfl⟩
    repeat' ((first | refine T.G rfl ?_ | refine J.G rfl ?_ | refine J.H rfl ?_ | refine T.rd rfl (by decide +kernel) ?_ | fail); conv => whnf)
    refine T.cf rfl ?_
    repeat' ((first | refine T.G rfl ?_ | refine J.G rfl ?_ | refine J.H rfl ?_ | refine T.rd rfl (by decide +kernel) ?_ | fail); conv => whnf)
    refine T.canon (keep := [3, 6, 9, 47, 48, 49]) (os := [3, 6]) rfl (T.ind (fun x : Nat × Doms => ⟨[(3, .optr 0 0 0 0), (6, .ref 1), (9, .val true (lists L)), (47, .val false (ints c.vars)), (48, .val true (.int .i64 (c.vars.map cI).length)), (49, .val true (.int .i64 x.1))], [(0, some (.box false (cC c))), (1, some (.sl 36 1 true (x.2.map cD)))], 2⟩)
      (fun x => x.1 ≤ c.vars.length ∧ x.2.length = d.length ∧ stepU L (c.vars.drop x.1) x.1 x.2 = stepU L c.vars 0 d) (fun x => c.vars.length - x.1) (0, d) ⟨by simp, rfl, rfl⟩ (fun _ _ h => h) ?_)
    rintro ⟨k, out⟩ ⟨hk, hol, hst⟩ ih
    simp only at hk hol hst
    dsimp only
    repeat' ((first | refine T.G rfl ?_ | refine J.G rfl ?_ | refine J.H rfl ?_ | refine T.rd rfl (by decide +kernel) ?_ | fail); conv => whnf)
    refine T.cd rfl (fun h1 => ?_) (fun h1 => ?_)
    rotate_left
    · have h1 : k = c.vars.length := by simp at h1; omega
      subst h1
      rw [List.drop_length, stepU] at hst
      subst hst
      repeat' ((first | refine T.G rfl ?_ | refine J.G rfl ?_ | refine J.H rfl ?_ | refine T.rd rfl (by decide +kernel) ?_ | fail); conv => whnf)
      exact ⟨_, .o rfl rfl rfl (fun _ => .inl rfl) (by simp) (.v rfl rfl rfl (fun _ => rfl) .nil)⟩
    have h1 : k < c.vars.length := by simpa using h1
    rw [List.drop_eq_getElem_cons h1, stepU] at hst
    have hvk := hv _ (List.getElem_mem h1)
    have hvr : (c.vars.map cI)[((k : Nat) : Int).toNat]? = some (cI c.vars[k]) := row_i h1
    have hkL : k < L.length := by omega
    have hrow : (L.map cL)[((k : Nat) : Int).toNat]? = some (cL (L.getD k [])) := by simp [hkL]
    have hml : (L.getD k []).length ≤ 4097 := by
      rw [List.getD_eq_getElem?_getD, List.getElem?_eq_getElem hkL]; exact hL4 _ (List.getElem_mem hkL)
    have hw1 : IntKind.i64.wrap ((k : Int) + 1) = ((k + 1 : Nat) : Int) := wrap1 (l := c.vars.length) h1 (by omega)
    repeat' ((first | refine T.G rfl ?_ | refine J.G rfl ?_ | refine J.H rfl ?_ | refine T.rd rfl (by decide +kernel) ?_ | fail); conv => whnf)
    refine J.i rfl rfl rfl rfl rfl rfl rfl rfl rfl (r := cI c.vars[k]) (by omega) hvr rfl ?_
    generalize c.vars[k] = v at *
    repeat' ((first | refine T.G rfl ?_ | refine J.G rfl ?_ | refine J.H rfl ?_ | refine T.rd rfl (by decide +kernel) ?_ | fail); conv => whnf)
    refine J.sub (Rel.own0 (s := 14) 3 1 rfl) ?_
    refine J.i rfl rfl rfl rfl rfl rfl rfl rfl rfl (r := cL (L.getD k [])) (by omega) hrow rfl ?_
    repeat' ((first | refine T.G rfl ?_ | refine J.G rfl ?_ | refine J.H rfl ?_ | refine T.rd rfl (by decide +kernel) ?_ | fail); conv => whnf)
    have hlf : leftU L k = (L.getD k []).filter fun x => (matchR (L.set k [x])).2 := rfl
    generalize L.getD k [] = Lk at *
    have hlL : (leftU L k).length ≤ Lk.length := by rw [hlf]; exact List.length_filter_le ..
    refine T.canon (keep := [3, 6, 9, 12, 13, 14, 47, 48, 49, 57, 58, 59]) (os := [3, 6, 14]) rfl (T.list Lk (fun n pre post => ⟨[(3, .optr 0 0 0 0), (6, .ref 1), (9, .val true (lists L)), (12, .val true (.int .i64 k)), (13, .val true (.int .i64 v)), (14, .ref 2), (47, .val false (ints c.vars)), (48, .val true (.int .i64 (c.vars.map cI).length)), (49, .val true (.int .i64 k)), (57, .val true (ints Lk)), (58, .val true (.int .i64 (Lk.map cI).length)), (59, .val true (.int .i64 n))],
        [(0, some (.box false (cC c))), (1, some (.sl 36 1 true (out.map cD))), (2, some (.sl 3 1 true ((pre.filter fun x => (matchR (L.set k [x])).2).map cI)))], 3⟩) (fun _ _ h => h) ?_ ?_)
    · rintro n pre x post h hn ih2
      have hlt := at_lt h hn
      have hfl : (pre.filter fun x => (matchR (L.set k [x])).2).length ≤ pre.length := List.length_filter_le ..
      have hwn : IntKind.i64.wrap ((n : Int) + 1) = ((n + 1 : Nat) : Int) := wrap1 hlt (by omega)
      have hset : ∀ y ∈ L.set k [x], y.length * 8 ≤ 140737488355328 := fun y hy => by
        rcases List.mem_or_eq_of_mem_set hy with hy | rfl
        · exact hlo.2 y hy
        · simp
      have hsp2 := matched_spec (L.set k [x]) (by rw [List.length_set]; exact hlo.1) hset
      have hR3 : (matchR (L.set k [x])).2 = (matchP (L.set k [x])).isSome := by unfold matchR; cases matchP (L.set k [x]) <;> rfl
      repeat' ((first | refine T.G rfl ?_ | refine J.G rfl ?_ | refine J.H rfl ?_ | refine T.rd rfl (by decide +kernel) ?_ | fail); conv => whnf)
      refine T.ct2 rfl (lt_at h hn) ?_
      repeat' ((first | refine T.G rfl ?_ | refine J.G rfl ?_ | refine J.H rfl ?_ | refine T.rd rfl (by decide +kernel) ?_ | fail); conv => whnf)
      refine J.i rfl rfl rfl rfl rfl rfl rfl rfl rfl (r := cI x) (by omega) (row_at h hn) rfl ?_
      repeat' ((first | refine T.G rfl ?_ | refine J.G rfl ?_ | refine J.H rfl ?_ | refine T.rd rfl (by decide +kernel) ?_ | fail); conv => whnf)
      refine J.cc rfl rfl rfl rfl rfl (cloneL_spec L hlo.1) rfl rfl ?_
      repeat' ((first | refine T.G rfl ?_ | refine J.G rfl ?_ | refine J.H rfl ?_ | refine T.rd rfl (by decide +kernel) ?_ | fail); conv => whnf)
      refine J.bv rfl rfl rfl rfl rfl rfl rfl rfl rfl rfl rfl rfl ?_
      repeat' ((first | refine T.G rfl ?_ | refine J.G rfl ?_ | refine J.H rfl ?_ | refine T.rd rfl (by decide +kernel) ?_ | fail); conv => whnf)
      refine J.io rfl rfl rfl rfl rfl rfl rfl rfl rfl (by omega) (by rw [List.length_map]; omega) rfl ?_
      repeat' ((first | refine T.G rfl ?_ | refine J.G rfl ?_ | refine J.H rfl ?_ | refine T.rd rfl (by decide +kernel) ?_ | fail); conv => whnf)
      refine J.w1 rfl rfl rfl rfl rfl rfl rfl rfl rfl rfl rfl (z := [x]) (fun _ => rfl) (by omega) ?_
      repeat' ((first | refine T.G rfl ?_ | refine J.G rfl ?_ | refine J.H rfl ?_ | refine T.rd rfl (by decide +kernel) ?_ | fail); conv => whnf)
      refine J.sub (Rel.frz (s := 71) (fun _ h => h) rfl rfl) ?_
      cases hm2 : matchP (L.set k [x]) with
      | none =>
        rw [hm2] at hsp2 hR3
        dsimp only at hsp2
        have hx2 : (pre ++ [x]).filter (fun x => (matchR (L.set k [x])).2) = pre.filter fun x => (matchR (L.set k [x])).2 := by
          rw [List.filter_append, List.filter_cons_of_neg (by rw [hR3]; simp)]; simp
        rw [hx2] at ih2
        refine J.co (qs := []) (cs2 := []) false [] [] rfl rfl rfl rfl rfl rfl hsp2 trivial rfl rfl rfl rfl rfl rfl rfl fun ns hns => ?_
        obtain rfl : ns = [] := List.eq_nil_of_length_eq_zero hns
        repeat' ((first | refine T.G rfl ?_ | refine J.G rfl ?_ | refine J.H rfl ?_ | refine T.rd rfl (by decide +kernel) ?_ | fail); conv => whnf)
        refine T.cf rfl ?_
        repeat' ((first | refine T.G rfl ?_ | refine J.G rfl ?_ | refine J.H rfl ?_ | refine T.rd rfl (by decide +kernel) ?_ | fail); conv => whnf)
        rw [hwn]
        exact T.canon (keep := [3, 6, 9, 12, 13, 14, 47, 48, 49, 57, 58, 59]) (os := [3, 6, 14]) rfl ih2
      | some b2 =>
        rw [hm2] at hsp2 hR3
        dsimp only at hsp2
        have hx2 : (pre ++ [x]).filter (fun x => (matchR (L.set k [x])).2) = pre.filter (fun x => (matchR (L.set k [x])).2) ++ [x] := by
          rw [List.filter_append, List.filter_cons_of_pos (by rw [hR3]; simp)]; simp
        rw [hx2] at ih2
        refine J.co (qs := []) (cs2 := []) false [] [1003, 1004] rfl rfl rfl rfl rfl rfl hsp2 trivial rfl rfl rfl rfl rfl rfl rfl fun ns hns => ?_
        obtain ⟨pm2, pb2, rfl⟩ : ∃ pm2 pb2, ns = [pm2, pb2] := by
          match ns, hns with
          | [a, b], _ => exact ⟨a, b, rfl⟩
        repeat' ((first | refine T.G rfl ?_ | refine J.G rfl ?_ | refine J.H rfl ?_ | refine T.rd rfl (by decide +kernel) ?_ | fail); conv => whnf)
        refine T.ct rfl ?_
        repeat' ((first | refine T.G rfl ?_ | refine J.G rfl ?_ | refine J.H rfl ?_ | refine T.rd rfl (by decide +kernel) ?_ | fail); conv => whnf)
        refine J.bv rfl rfl rfl rfl rfl rfl rfl rfl rfl rfl rfl rfl ?_
        repeat' ((first | refine T.G rfl ?_ | refine J.G rfl ?_ | refine J.H rfl ?_ | refine T.rd rfl (by decide +kernel) ?_ | fail); conv => whnf)
        refine J.aI rfl rfl rfl rfl rfl rfl rfl rfl rfl rfl rfl rfl rfl rfl rfl rfl rfl rfl rfl (by omega) ?_
        repeat' ((first | refine T.G rfl ?_ | refine J.G rfl ?_ | refine J.H rfl ?_ | refine T.rd rfl (by decide +kernel) ?_ | fail); conv => whnf)
        rw [hwn]
        exact T.canon (keep := [3, 6, 9, 12, 13, 14, 47, 48, 49, 57, 58, 59]) (os := [3, 6, 14]) rfl ih2
    · rw [← hlf]
      repeat' ((first | refine T.G rfl ?_ | refine J.G rfl ?_ | refine J.H rfl ?_ | refine T.rd rfl (by decide +kernel) ?_ | fail); conv => whnf)
      refine T.cf2 rfl lt_end ?_
      repeat' ((first | refine T.G rfl ?_ | refine J.G rfl ?_ | refine J.H rfl ?_ | refine T.rd rfl (by decide +kernel) ?_ | fail); conv => whnf)
      refine J.cc rfl rfl rfl rfl rfl (domOf_spec (leftU L k) (by omega)).frz rfl rfl ?_
      repeat' ((first | refine T.G rfl ?_ | refine J.G rfl ?_ | refine J.H rfl ?_ | refine T.rd rfl (by decide +kernel) ?_ | fail); conv => whnf)
      refine J.io rfl rfl rfl rfl rfl rfl rfl rfl rfl hvk.1 (by rw [List.length_map, hol]; exact hvk.2) rfl ?_
      repeat' ((first | refine T.G rfl ?_ | refine J.G rfl ?_ | refine J.H rfl ?_ | refine T.rd rfl (by decide +kernel) ?_ | fail); conv => whnf)
      refine J.w1 rfl rfl rfl rfl rfl rfl rfl rfl rfl rfl rfl (z := (domOfP (leftU L k)).1) (fun _ => rfl) (by rw [hol]; exact hvk.2) ?_
      repeat' ((first | refine T.G rfl ?_ | refine J.G rfl ?_ | refine J.H rfl ?_ | refine T.rd rfl (by decide +kernel) ?_ | fail); conv => whnf)
      rw [hw1]
      exact T.canon (keep := [3, 6, 9, 47, 48, 49]) (os := [3, 6]) rfl (ih (k + 1, out.set v.toNat (domOfP (leftU L k)).1) ⟨by omega, by rw [List.length_set]; exact hol, hst⟩ (by show _ - _ < _ - _; omega))
end Go.Proofs.Ytdflkbmpbblcfaa
/-! Contracts: the document's pruner of what are all others. -/
namespace Go.Proofs.Ytdflkbmpbblcfaa
open Go Go.RowKit
set_option linter.unusedVariables false
set_option linter.unusedSimpArgs false
set_option maxRecDepth 8000

/-- Domains whose values may be told. -/
structure ValD (d : Doms) : Prop where
  small : d.length * 24 ≤ 140737488355328
  inb : ∀ x ∈ d, InB x
  len : ∀ x ∈ d, x.length * 16 ≤ 140737488351232
  vals : ∀ x ∈ d, (vals x).length ≤ 4097
theorem ValD.dom {d : Doms} (h : ValD d) {v : Int} (hv : v.toNat < d.length) : domAt d v ∈ d := by
  unfold domAt
  rw [List.getD_eq_getElem?_getD, List.getElem?_eq_getElem hv]; exact List.getElem_mem hv
theorem dom_row {d : Doms} {v : Int} (hv : v.toNat < d.length) : (d.map cD)[v.toNat]? = some (cD (domAt d v)) := by simp [domAt, hv]
def extP (d : Doms) (vars : List Int) : Nat → List Int → Bool
  | 0, _ => true
  | n + 1, had => (vals (domAt d (vars.getD had.length 0))).any fun x => !decide (x ∈ had) && extP d vars n (had ++ [x])
theorem ext_spec (d : Doms) (vars : List Int) (hd : ValD d) (hv : ∀ v ∈ vars, 0 ≤ v ∧ v.toNat < d.length) (hl : vars.length * 8 ≤ 140737488355328) : ∀ (n : Nat) (had : List Int), n + had.length = vars.length →
    Spec Try.prog 32 false [doms d, ints vars, ints had] [.val (.bool (extP d vars n had))] := by
  intro n
  induction n with
  | zero =>
    intro had hn
    refine Spec.body Try.func32 rfl rfl rfl fun w0 Z0 => ?_
    repeat' ((first | refine T.G rfl ?_ | refine J.G rfl ?_ | refine J.H rfl ?_ | refine T.rd rfl (by decide +kernel) ?_ | fail); conv => whnf)
    refine T.cd rfl (fun h => ?_) (fun h => ?_)
    · repeat' ((first | refine T.G rfl ?_ | refine J.G rfl ?_ | refine J.H rfl ?_ | refine T.rd rfl (by decide +kernel) ?_ | fail); conv => whnf)
      exact ⟨_, .v rfl rfl rfl (fun _ => rfl) .nil⟩
    · simp only [List.length_map] at h; omega
  | succ n ihn =>
    intro had hn
    refine Spec.body Try.func32 rfl rfl rfl fun w0 Z0 => ?_
    have hvm : vars[had.length]'(by omega) ∈ vars := List.getElem_mem _
    have hvr : (vars.map cI)[(((had.map cI).length : Nat) : Int).toNat]? = some (cI (vars.getD had.length 0)) := by
      rw [List.length_map]
      have : had.length < vars.length := by omega
      simp [this]
    have hvd : vars.getD had.length 0 ∈ vars := by
      rw [List.getD_eq_getElem?_getD, List.getElem?_eq_getElem (by omega)]; exact hvm
    have hva := hv _ hvd
    have hdm := hd.dom hva.2
    have hvs := (values_spec (domAt d (vars.getD had.length 0)) (hd.inb _ hdm) (by have := hd.vals _ hdm; omega) (by have := hd.len _ hdm; omega)).frz
    have hvl := hd.vals _ hdm
    rw [extP]
    generalize vars.getD had.length 0 = v at *
    repeat' ((first | refine T.G rfl ?_ | refine J.G rfl ?_ | refine J.H rfl ?_ | refine T.rd rfl (by decide +kernel) ?_ | fail); conv => whnf)
    refine T.cd rfl (fun h => ?_) (fun h => ?_)
    · simp only [List.length_map] at h; omega
    repeat' ((first | refine T.G rfl ?_ | refine J.G rfl ?_ | refine J.H rfl ?_ | refine T.rd rfl (by decide +kernel) ?_ | fail); conv => whnf)
    refine J.i rfl rfl rfl rfl rfl rfl rfl rfl rfl (r := cI v) (by omega) hvr rfl ?_
    repeat' ((first | refine T.G rfl ?_ | refine J.G rfl ?_ | refine J.H rfl ?_ | refine T.rd rfl (by decide +kernel) ?_ | fail); conv => whnf)
    refine J.i rfl rfl rfl rfl rfl rfl rfl rfl rfl (r := cD (domAt d v)) hva.1 (dom_row hva.2) rfl ?_
    repeat' ((first | refine T.G rfl ?_ | refine J.G rfl ?_ | refine J.H rfl ?_ | refine T.rd rfl (by decide +kernel) ?_ | fail); conv => whnf)
    refine J.cc rfl rfl rfl rfl rfl hvs rfl rfl ?_
    repeat' ((first | refine T.G rfl ?_ | refine J.G rfl ?_ | refine J.H rfl ?_ | refine T.rd rfl (by decide +kernel) ?_ | fail); conv => whnf)
    generalize vals (domAt d v) = l at *
    refine T.canon (keep := [0, 1, 2, 7, 8]) (os := []) rfl (T.listI l (fun pre => (pre.any fun x => !decide (x ∈ had) && extP d vars n (had ++ [x])) = false) (fun k pre post => ⟨[(0, .val false (doms d)), (1, .val false (ints vars)), (2, .val false (ints had)), (7, .val true (ints l)), (8, .val true (.int .i64 k))], [], 0⟩) (fun _ _ h => h) rfl ?_ ?_)
    · rintro k pre x post h hk hi ih
      have hlt := at_lt h hk
      have hhs := has_spec had x (by omega)
      repeat' ((first | refine T.G rfl ?_ | refine J.G rfl ?_ | refine J.H rfl ?_ | refine T.rd rfl (by decide +kernel) ?_ | fail); conv => whnf)
      refine T.ct2 rfl (lt_at h hk) ?_
      repeat' ((first | refine T.G rfl ?_ | refine J.G rfl ?_ | refine J.H rfl ?_ | refine T.rd rfl (by decide +kernel) ?_ | fail); conv => whnf)
      refine J.bo rfl rfl rfl rfl rfl rfl rfl rfl rfl rfl rfl rfl ?_
      repeat' ((first | refine T.G rfl ?_ | refine J.G rfl ?_ | refine J.H rfl ?_ | refine T.rd rfl (by decide +kernel) ?_ | fail); conv => whnf)
      refine J.a rfl rfl rfl rfl rfl rfl rfl rfl rfl rfl rfl rfl rfl rfl rfl rfl rfl len_I (by show (0 + List.length _) * 8 ≤ _; simp; omega) ?_
      repeat' ((first | refine T.G rfl ?_ | refine J.G rfl ?_ | refine J.H rfl ?_ | refine T.rd rfl (by decide +kernel) ?_ | fail); conv => whnf)
      refine J.i rfl rfl rfl rfl rfl rfl rfl rfl rfl (r := cI x) (by omega) (row_at h hk) rfl ?_
      repeat' ((first | refine T.G rfl ?_ | refine J.G rfl ?_ | refine J.H rfl ?_ | refine T.rd rfl (by decide +kernel) ?_ | fail); conv => whnf)
      refine J.bv rfl rfl rfl rfl rfl rfl rfl rfl rfl rfl rfl rfl ?_
      repeat' ((first | refine T.G rfl ?_ | refine J.G rfl ?_ | refine J.H rfl ?_ | refine T.rd rfl (by decide +kernel) ?_ | fail); conv => whnf)
      refine J.aI (l := had) (x := x) rfl rfl rfl rfl rfl rfl rfl rfl rfl rfl rfl rfl rfl rfl rfl rfl rfl rfl rfl (by omega) ?_
      repeat' ((first | refine T.G rfl ?_ | refine J.G rfl ?_ | refine J.H rfl ?_ | refine T.rd rfl (by decide +kernel) ?_ | fail); conv => whnf)
      refine J.i rfl rfl rfl rfl rfl rfl rfl rfl rfl (r := cI x) (by omega) (row_at h hk) rfl ?_
      repeat' ((first | refine T.G rfl ?_ | refine J.G rfl ?_ | refine J.H rfl ?_ | refine T.rd rfl (by decide +kernel) ?_ | fail); conv => whnf)
      refine J.cc rfl rfl rfl rfl rfl hhs rfl rfl ?_
      by_cases hm : x ∈ had
      · rw [decide_eq_true hm]
        repeat' ((first | refine T.G rfl ?_ | refine J.G rfl ?_ | refine J.H rfl ?_ | refine T.rd rfl (by decide +kernel) ?_ | fail); conv => whnf)
        refine T.cf rfl ?_
        repeat' ((first | refine T.G rfl ?_ | refine J.G rfl ?_ | refine J.H rfl ?_ | refine T.rd rfl (by decide +kernel) ?_ | fail); conv => whnf)
        rw [wrap1 hlt (by omega)]
        exact T.canon (keep := [0, 1, 2, 7, 8]) (os := []) rfl (ih (by rw [List.any_append, hi]; simp [hm]))
      · rw [decide_eq_false hm]
        repeat' ((first | refine T.G rfl ?_ | refine J.G rfl ?_ | refine J.H rfl ?_ | refine T.rd rfl (by decide +kernel) ?_ | fail); conv => whnf)
        refine J.cc rfl rfl rfl rfl rfl (ihn (had ++ [x]) (by simp; omega)) rfl rfl ?_
        repeat' ((first | refine T.G rfl ?_ | refine J.G rfl ?_ | refine J.H rfl ?_ | refine T.rd rfl (by decide +kernel) ?_ | fail); conv => whnf)
        cases he : extP d vars n (had ++ [x]) with
        | true =>
          refine T.ct rfl ?_
          repeat' ((first | refine T.G rfl ?_ | refine J.G rfl ?_ | refine J.H rfl ?_ | refine T.rd rfl (by decide +kernel) ?_ | fail); conv => whnf)
          refine ⟨_, .v rfl rfl ?_ (fun _ => rfl) .nil⟩
          rw [h]
          simp [hm, he]
        | false =>
          refine T.cf rfl ?_
          repeat' ((first | refine T.G rfl ?_ | refine J.G rfl ?_ | refine J.H rfl ?_ | refine T.rd rfl (by decide +kernel) ?_ | fail); conv => whnf)
          rw [wrap1 hlt (by omega)]
          exact T.canon (keep := [0, 1, 2, 7, 8]) (os := []) rfl (ih (by rw [List.any_append, hi]; simp [hm, he]))
    · intro hi
      rw [hi]
      repeat' ((first | refine T.G rfl ?_ | refine J.G rfl ?_ | refine J.H rfl ?_ | refine T.rd rfl (by decide +kernel) ?_ | fail); conv => whnf)
      refine T.cf2 rfl lt_end ?_
      repeat' ((first | refine T.G rfl ?_ | refine J.G rfl ?_ | refine J.H rfl ?_ | refine T.rd rfl (by decide +kernel) ?_ | fail); conv => whnf)
      exact ⟨_, .v rfl rfl rfl (fun _ => rfl) .nil⟩
theorem oth_spec (d : Doms) (vars : List Int) (hd : ValD d) (hv : ∀ v ∈ vars, 0 ≤ v ∧ v.toNat < d.length) (hl : vars.length * 8 ≤ 140737488355328) :
    Spec Try.prog 16 false [doms d, ints vars] [.val (.bool (extP d vars vars.length []))] := by
  refine Spec.body Try.func16 rfl rfl rfl fun w0 Z0 => ?_
  repeat' ((first | refine T.G rfl ?_ | refine J.G rfl ?_ | refine J.H rfl ?_ | refine T.rd rfl (by decide +kernel) ?_ | fail); conv => whnf)
  refine J.bo rfl rfl rfl rfl rfl rfl rfl rfl rfl rfl rfl rfl ?_
  refine J.cc rfl rfl rfl rfl rfl (ext_spec d vars hd hv hl vars.length [] rfl) rfl rfl ?_
  repeat' ((first | refine T.G rfl ?_ | refine J.G rfl ?_ | refine J.H rfl ?_ | refine T.rd rfl (by decide +kernel) ?_ | fail); conv => whnf)
  exact ⟨_, .v rfl rfl rfl (fun _ => rfl) .nil⟩
def left8 (d : Doms) (vars : List Int) (v : Int) : List Int := (vals (domAt d v)).filter fun x => extP (d.set v.toNat [(x, x)]) vars vars.length []
def step8 (d : Doms) (vars : List Int) : List Int → Doms → Doms
  | [], out => out
  | v :: vs, out => step8 d vars vs (out.set v.toNat (pack (left8 d vars v)))
def prune8 (d : Doms) (vars : List Int) : Option Doms := if [] ∈ d then none else if [] ∈ step8 d vars vars d then none else some (step8 d vars vars d)
theorem ValD.one {d : Doms} (h : ValD d) (i : Nat) {x : Int} (hx : -1048576 ≤ x ∧ x ≤ 1048576) : ValD (d.set i [(x, x)]) := by
  have key : ∀ y ∈ d.set i [(x, x)], y ∈ d ∨ y = [(x, x)] := fun y hy => List.mem_or_eq_of_mem_set hy
  refine ⟨by rw [List.length_set]; exact h.small, fun y hy => ?_, fun y hy => ?_, fun y hy => ?_⟩
  · rcases key y hy with hy | rfl
    · exact h.inb y hy
    · intro r hr
      obtain rfl := List.mem_singleton.1 hr
      exact ⟨hx.1, hx.2, hx.1, hx.2⟩
  · rcases key y hy with hy | rfl
    · exact h.len y hy
    · simp
  · rcases key y hy with hy | rfl
    · exact h.vals y hy
    · have : Go.Proofs.Ytdflkbmpbblcfaa.vals [(x, x)] = [x] := by
        show rng x x ++ [] = _
        rw [rng_self]; rfl
      rw [this]; simp
theorem prune8_spec (d : Doms) (c : Con) (hd : ValD d) (hv : ∀ v ∈ c.vars, 0 ≤ v ∧ v.toNat < d.length) (hl : c.vars.length * 8 ≤ 140737488355328) :
    Spec Try.prog 13 false [doms d, .agg (cC c)] [.val (doms ((prune8 d c.vars).getD [])), .val (.bool (prune8 d c.vars).isSome)] := by
  refine Spec.body Try.func13 rfl rfl rfl fun w0 Z0 => ?_
  have hds := hd.small
  have hls := lists_spec d hd.small (fun x hx => by have := hd.len x hx; omega)
  repeat' ((first | refine T.G rfl ?_ | refine J.G rfl ?_ | refine J.H rfl ?_ | refine T.rd rfl (by decide +kernel) ?_ | fail); conv => whnf)
  refine J.cc rfl rfl rfl rfl rfl (empty_spec d (by omega)) rfl rfl ?_
  repeat' ((first | refine T.G rfl ?_ | refine J.G rfl ?_ | refine J.H rfl ?_ | refine T.rd rfl (by decide +kernel) ?_ | fail); conv => whnf)
  generalize hR : prune8 d c.vars = R
  unfold prune8 at hR
  refine T.cond rfl (fun he => ?_) (fun he => ?_)
  · have he : [] ∈ d := by simpa using he
    rw [if_pos he] at hR
    subst hR
    repeat' ((first | refine T.G rfl ?_ | refine J.G rfl ?_ | refine J.H rfl ?_ | refine T.rd rfl (by decide +kernel) ?_ | fail); conv => whnf)
    exact ⟨_, .v rfl rfl rfl (fun _ => rfl) (.v rfl rfl rfl (fun _ => rfl) .nil)⟩
  have he : [] ∉ d := by simpa using he
  rw [if_neg he] at hR
  repeat' ((first | refine T.G rfl ?_ | refine J.G rfl ?_ | refine J.H rfl ?_ | refine T.rd rfl (by decide +kernel) ?_ | fail); conv => whnf)
  refine J.cc rfl rfl rfl rfl rfl hls rfl rfl ?_
  repeat' ((first | refine T.G rfl ?_ | refine J.G rfl ?_ | refine J.H rfl ?_ | refine T.rd rfl (by decide +kernel) ?_ | fail); conv => whnf)
  refine T.canon (keep := [0, 3, 6, 7]) (os := [3, 6]) rfl (T.ind (fun x : Nat × Doms => ⟨[(0, .val false (doms d)), (3, .optr 0 0 0 0), (6, .ref 1), (7, .val true (.int .i64 x.1))], [(0, some (.box false (cC c))), (1, some (.sl 36 1 true (x.2.map cD)))], 2⟩)
    (fun x => x.1 ≤ c.vars.length ∧ x.2.length = d.length ∧ step8 d c.vars (c.vars.drop x.1) x.2 = step8 d c.vars c.vars d) (fun x => c.vars.length - x.1) (0, d) ⟨by simp, rfl, rfl⟩ (fun _ _ h => h) ?_)
  rintro ⟨k, out⟩ ⟨hk, hol, hst⟩ ih
  simp only at hk hol hst
  dsimp only
  repeat' ((first | refine T.G rfl ?_ | refine J.G rfl ?_ | refine J.H rfl ?_ | refine T.rd rfl (by decide +kernel) ?_ | fail); conv => whnf)
  refine T.cd rfl (fun h1 => ?_) (fun h1 => ?_)
  rotate_left
  · have h1 : k = c.vars.length := by simp at h1; omega
    subst h1
    rw [List.drop_length, step8] at hst
    subst hst
    have hto := told_spec (step8 d c.vars c.vars d) (by rw [hol]; omega)
    generalize step8 d c.vars c.vars d = out at *
    repeat' ((first | refine T.G rfl ?_ | refine J.G rfl ?_ | refine J.H rfl ?_ | refine T.rd rfl (by decide +kernel) ?_ | fail); conv => whnf)
    refine J.sub (Rel.frz (s := 78) (fun _ h => h) rfl rfl) ?_
    refine J.ct rfl rfl rfl rfl rfl hto rfl rfl ?_
    repeat' ((first | refine T.G rfl ?_ | refine J.G rfl ?_ | refine J.H rfl ?_ | refine T.rd rfl (by decide +kernel) ?_ | fail); conv => whnf)
    subst hR
    by_cases hn : [] ∈ out
    · rw [if_pos hn, if_pos hn, decide_eq_true hn]
      exact ⟨_, .v rfl rfl rfl (fun _ => rfl) (.v rfl rfl rfl (fun _ => rfl) .nil)⟩
    · rw [if_neg hn, if_neg hn, decide_eq_false hn]
      exact ⟨_, .v rfl rfl rfl (fun _ => rfl) (.v rfl rfl rfl (fun _ => rfl) .nil)⟩
  have h1 : k < c.vars.length := by simpa using h1
  rw [List.drop_eq_getElem_cons h1, step8] at hst
  have hvk := hv _ (List.getElem_mem h1)
  have hvr : (c.vars.map cI)[((k : Nat) : Int).toNat]? = some (cI c.vars[k]) := row_i h1
  have hw1 : IntKind.i64.wrap ((k : Int) + 1) = ((k + 1 : Nat) : Int) := wrap1 (l := c.vars.length) h1 (by omega)
  generalize c.vars[k] = v at *
  have hdm := hd.dom hvk.2
  have hvs := (values_spec (domAt d v) (hd.inb _ hdm) (by have := hd.vals _ hdm; omega) (by have := hd.len _ hdm; omega)).frz
  have hvl := hd.vals _ hdm
  have hvi := vals_in (hd.inb _ hdm)
  have hl8 : left8 d c.vars v = (vals (domAt d v)).filter fun x => extP (d.set v.toNat [(x, x)]) c.vars c.vars.length [] := rfl
  repeat' ((first | refine T.G rfl ?_ | refine J.G rfl ?_ | refine J.H rfl ?_ | refine T.rd rfl (by decide +kernel) ?_ | fail); conv => whnf)
  refine J.i rfl rfl rfl rfl rfl rfl rfl rfl rfl (r := cI v) (by omega) hvr rfl ?_
  repeat' ((first | refine T.G rfl ?_ | refine J.G rfl ?_ | refine J.H rfl ?_ | refine T.rd rfl (by decide +kernel) ?_ | fail); conv => whnf)
  refine J.i rfl rfl rfl rfl rfl rfl rfl rfl rfl (r := cD (domAt d v)) hvk.1 (dom_row hvk.2) rfl ?_
  repeat' ((first | refine T.G rfl ?_ | refine J.G rfl ?_ | refine J.H rfl ?_ | refine T.rd rfl (by decide +kernel) ?_ | fail); conv => whnf)
  refine J.cc rfl rfl rfl rfl rfl hvs rfl rfl ?_
  refine J.bo rfl rfl rfl rfl rfl rfl rfl rfl rfl rfl rfl rfl ?_
  repeat' ((first | refine T.G rfl ?_ | refine J.G rfl ?_ | refine J.H rfl ?_ | refine T.rd rfl (by decide +kernel) ?_ | fail); conv => whnf)
  generalize vals (domAt d v) = l at *
  have hll : (left8 d c.vars v).length ≤ l.length := by rw [hl8]; exact List.length_filter_le ..
  refine T.canon (keep := [0, 3, 6, 7, 8, 9, 10]) (os := [3, 6, 9]) rfl (T.list l (fun n pre post => ⟨[(0, .val false (doms d)), (3, .optr 0 0 0 0), (6, .ref 1), (7, .val true (.int .i64 k)), (8, .val true (ints l)), (9, .ref 2), (10, .val true (.int .i64 n))],
      [(0, some (.box false (cC c))), (1, some (.sl 36 1 true (out.map cD))), (2, some (.sl 3 1 true ((pre.filter fun x => extP (d.set v.toNat [(x, x)]) c.vars c.vars.length []).map cI)))], 3⟩) (fun _ _ h => h) ?_ ?_)
  · rintro n pre x post h hn ih2
    have hlt := at_lt h hn
    have hfl : (pre.filter fun x => extP (d.set v.toNat [(x, x)]) c.vars c.vars.length []).length ≤ pre.length := List.length_filter_le ..
    have hwn : IntKind.i64.wrap ((n : Int) + 1) = ((n + 1 : Nat) : Int) := wrap1 hlt (by omega)
    have hxi := hvi x (by rw [h]; simp)
    have hos := oth_spec (d.set v.toNat [(x, x)]) c.vars (hd.one v.toNat hxi) (fun u hu => by rw [List.length_set]; exact hv u hu) hl
    repeat' ((first | refine T.G rfl ?_ | refine J.G rfl ?_ | refine J.H rfl ?_ | refine T.rd rfl (by decide +kernel) ?_ | fail); conv => whnf)
    refine T.ct2 rfl (lt_at h hn) ?_
    repeat' ((first | refine T.G rfl ?_ | refine J.G rfl ?_ | refine J.H rfl ?_ | refine T.rd rfl (by decide +kernel) ?_ | fail); conv => whnf)
    refine J.cc rfl rfl rfl rfl rfl hls rfl rfl ?_
    repeat' ((first | refine T.G rfl ?_ | refine J.G rfl ?_ | refine J.H rfl ?_ | refine T.rd rfl (by decide +kernel) ?_ | fail); conv => whnf)
    refine T.rdm 16 rfl (by kernel_rfl) rfl ?_
    repeat' ((first | refine T.G rfl ?_ | refine J.G rfl ?_ | refine J.H rfl ?_); conv => whnf)
    refine J.i rfl rfl rfl rfl rfl rfl rfl rfl rfl (r := cI v) (by omega) hvr rfl ?_
    repeat' ((first | refine T.G rfl ?_ | refine J.G rfl ?_ | refine J.H rfl ?_); conv => whnf)
    refine J.i rfl rfl rfl rfl rfl rfl rfl rfl rfl (r := cI x) (by omega) (row_at h hn) rfl ?_
    repeat' ((first | refine T.G rfl ?_ | refine J.G rfl ?_ | refine J.H rfl ?_); conv => whnf)
    refine J.i rfl rfl rfl rfl rfl rfl rfl rfl rfl (r := cI x) (by omega) (row_at h hn) rfl ?_
    repeat' ((first | refine T.G rfl ?_ | refine J.G rfl ?_ | refine J.H rfl ?_); conv => whnf)
    refine J.bv rfl rfl rfl rfl rfl rfl rfl rfl rfl rfl rfl rfl ?_
    repeat' ((first | refine T.G rfl ?_ | refine J.G rfl ?_ | refine J.H rfl ?_); conv => whnf)
    refine J.io rfl rfl rfl rfl rfl rfl rfl rfl rfl hvk.1 (by rw [List.length_map]; exact hvk.2) rfl ?_
    repeat' ((first | refine T.G rfl ?_ | refine J.G rfl ?_ | refine J.H rfl ?_); conv => whnf)
    refine J.w1 rfl rfl rfl rfl rfl rfl rfl rfl rfl rfl rfl (z := [(x, x)]) (fun _ => rfl) hvk.2 ?_
    repeat' ((first | refine T.G rfl ?_ | refine J.G rfl ?_ | refine J.H rfl ?_ | refine T.rd rfl (by decide +kernel) ?_ | fail); conv => whnf)
    refine J.cc rfl rfl rfl rfl rfl hos rfl rfl ?_
    repeat' ((first | refine T.G rfl ?_ | refine J.G rfl ?_ | refine J.H rfl ?_ | refine T.rd rfl (by decide +kernel) ?_ | fail); conv => whnf)
    cases he2 : extP (d.set v.toNat [(x, x)]) c.vars c.vars.length [] with
    | false =>
      rw [List.filter_append, List.filter_cons_of_neg (by simp [he2]), List.filter_nil, List.append_nil] at ih2
      refine T.cf rfl ?_
      repeat' ((first | refine T.G rfl ?_ | refine J.G rfl ?_ | refine J.H rfl ?_ | refine T.rd rfl (by decide +kernel) ?_ | fail); conv => whnf)
      rw [hwn]
      exact T.canon (keep := [0, 3, 6, 7, 8, 9, 10]) (os := [3, 6, 9]) rfl ih2
    | true =>
      rw [List.filter_append, List.filter_cons_of_pos (by simp [he2]), List.filter_nil] at ih2
      refine T.ct rfl ?_
      repeat' ((first | refine T.G rfl ?_ | refine J.G rfl ?_ | refine J.H rfl ?_ | refine T.rd rfl (by decide +kernel) ?_ | fail); conv => whnf)
      refine J.i rfl rfl rfl rfl rfl rfl rfl rfl rfl (r := cI x) (by omega) (row_at h hn) rfl ?_
      repeat' ((first | refine T.G rfl ?_ | refine J.G rfl ?_ | refine J.H rfl ?_ | refine T.rd rfl (by decide +kernel) ?_ | fail); conv => whnf)
      refine J.bv rfl rfl rfl rfl rfl rfl rfl rfl rfl rfl rfl rfl ?_
      repeat' ((first | refine T.G rfl ?_ | refine J.G rfl ?_ | refine J.H rfl ?_ | refine T.rd rfl (by decide +kernel) ?_ | fail); conv => whnf)
      refine J.aI rfl rfl rfl rfl rfl rfl rfl rfl rfl rfl rfl rfl rfl rfl rfl rfl rfl rfl rfl (by omega) ?_
      repeat' ((first | refine T.G rfl ?_ | refine J.G rfl ?_ | refine J.H rfl ?_ | refine T.rd rfl (by decide +kernel) ?_ | fail); conv => whnf)
      rw [hwn]
      exact T.canon (keep := [0, 3, 6, 7, 8, 9, 10]) (os := [3, 6, 9]) rfl ih2
  · rw [← hl8]
    have hpk := (pack_spec (left8 d c.vars v) (fun x hx => by
      rw [hl8] at hx
      have := hvi x (List.mem_filter.1 hx).1
      omega) (by omega)).frz
    repeat' ((first | refine T.G rfl ?_ | refine J.G rfl ?_ | refine J.H rfl ?_ | refine T.rd rfl (by decide +kernel) ?_ | fail); conv => whnf)
    refine T.cf2 rfl lt_end ?_
    repeat' ((first | refine T.G rfl ?_ | refine J.G rfl ?_ | refine J.H rfl ?_ | refine T.rd rfl (by decide +kernel) ?_ | fail); conv => whnf)
    refine T.rdm 8 rfl (by kernel_rfl) rfl ?_
    repeat' ((first | refine T.G rfl ?_ | refine J.G rfl ?_ | refine J.H rfl ?_); conv => whnf)
    refine J.i rfl rfl rfl rfl rfl rfl rfl rfl rfl (r := cI v) (by omega) hvr rfl ?_
    repeat' ((first | refine T.G rfl ?_ | refine J.G rfl ?_ | refine J.H rfl ?_); conv => whnf)
    refine J.cc rfl rfl rfl rfl rfl hpk rfl rfl ?_
    repeat' ((first | refine T.G rfl ?_ | refine J.G rfl ?_ | refine J.H rfl ?_); conv => whnf)
    refine J.io rfl rfl rfl rfl rfl rfl rfl rfl rfl hvk.1 (by rw [List.length_map, hol]; exact hvk.2) rfl ?_
    repeat' ((first | refine T.G rfl ?_ | refine J.G rfl ?_ | refine J.H rfl ?_); conv => whnf)
    refine J.w1 rfl rfl rfl rfl rfl rfl rfl rfl rfl rfl rfl (z := pack (left8 d c.vars v)) (fun _ => rfl) (by rw [hol]; exact hvk.2) ?_
    repeat' ((first | refine T.G rfl ?_ | refine J.G rfl ?_ | refine J.H rfl ?_ | refine T.rd rfl (by decide +kernel) ?_ | fail); conv => whnf)
    rw [hw1]
    exact T.canon (keep := [0, 3, 6, 7]) (os := [3, 6]) rfl (ih (k + 1, out.set v.toNat (pack (left8 d c.vars v))) ⟨by omega, by rw [List.length_set]; exact hol, hst⟩ (by show _ - _ < _ - _; omega))
end Go.Proofs.Ytdflkbmpbblcfaa
/-! Contracts: what the statements of layer 8 are laid from. -/
namespace Go.Proofs.Ytdflkbmpbblcfaa
open Go Go.RowKit
set_option linter.unusedVariables false
set_option linter.unusedSimpArgs false
set_option maxRecDepth 8000

structure Few where
  d : List (List Int)
  vars : List Int
  a : List Int
  take : List Int
def cFew (o : Few) : List PV := [lists o.d, ints o.vars, ints o.a, ints o.take]
def laidU (o : Few) : Doms := (o.d.take 5).map fun x => smallR (x.take 8)
def conU (vars : List Int) : Con := ⟨1, vars, [], 0, 0, [], 0⟩
def okU (o : Few) : Bool := decide (conR (laidU o) (conU o.vars) = 0)
def FewB (o : Few) : Prop := o.d.length * 24 ≤ 140737488355328 ∧ (∀ x ∈ o.d, x.length * 8 ≤ 140737488355328) ∧ (o.vars.length + 1) * 8 ≤ 140737488355328 ∧ o.a.length * 8 ≤ 140737488355328 ∧ o.take.length * 8 ≤ 140737488355328
theorem conU_B {vars : List Int} (h : (vars.length + 1) * 8 ≤ 140737488355328) : ConB (conU vars) := by
  exact ⟨h, by simp [conU], by simp [conU], fun x hx => by cases hx⟩
theorem laid8_spec (o : Few) (ho : FewB o) : Spec Try.prog 9 true [.agg (cFew o)] [.own 36 1 ((laidU o).map cD), .val (.agg (cC (conU o.vars))), .val (.bool (okU o))] := by
  refine Spec.body Try.func9 rfl rfl rfl fun w0 Z0 => ?_
  obtain ⟨hd1, hd2, hvl, _⟩ := ho
  have hdl : (laidU o).length ≤ 5 := by simp [laidU]; omega
  have hdx : ∀ x ∈ laidU o, x.length * 8 ≤ 140737488355328 := fun x hx => by
    obtain ⟨y, _, rfl⟩ := List.mem_map.1 hx
    have := smallR_length (y.take 8)
    omega
  have hcon := con_spec (laidU o) (conU o.vars) (conU_B hvl) (by omega) hdx
  have hok : okU o = decide (conR (laidU o) (conU o.vars) = 0) := rfl
  have hld : laidU o = (o.d.take 5).map fun x => smallR (x.take 8) := rfl
  generalize laidU o = D at *
  repeat' ((first | refine T.G rfl ?_ | refine J.G rfl ?_ | refine J.H rfl ?_ | refine T.rd rfl (by decide +kernel) ?_ | fail); conv => whnf)
  refine J.al rfl rfl rfl rfl rfl rfl rfl ?_
  repeat' ((first | refine T.G rfl ?_ | refine J.G rfl ?_ | refine J.H rfl ?_ | refine T.rd rfl (by decide +kernel) ?_ | fail); conv => whnf)
  refine J.bo rfl rfl rfl rfl rfl rfl rfl rfl rfl rfl rfl rfl ?_
  repeat' ((first | refine T.G rfl ?_ | refine J.G rfl ?_ | refine J.H rfl ?_ | refine T.rd rfl (by decide +kernel) ?_ | fail); conv => whnf)
  refine T.canon (keep := [1, 3, 5, 6]) (os := [1, 3, 5]) rfl (T.ind (fun (n : Nat) => ⟨[(1, .optr 0 0 0 0), (3, .optr 1 0 0 0), (5, .ref 2), (6, .val true (.int .i64 n))], [(0, some (.box false (cFew o))), (1, some (.box true (cC ⟨0, [], [], 0, 0, [], 0⟩))), (2, some (.sl 36 1 true (((o.d.take n).map fun x => smallR (x.take 8)).map cD)))], 3⟩) (fun n => n ≤ o.d.length ∧ n ≤ 5) (fun n => 5 - n) 0 (by simp) (fun _ _ h => h) ?_)
  rintro n ⟨hn, hn2⟩ ih
  have fin : ¬ (n < o.d.length ∧ n < 5) → (o.d.take n).map (fun x => smallR (x.take 8)) = D := by
    intro h
    rw [hld]
    by_cases h1 : n = 5
    · rw [h1]
    · have : n = o.d.length := by omega
      subst this
      rw [List.take_of_length_le (Nat.le_refl _), List.take_of_length_le (by omega)]
  repeat' ((first | refine T.G rfl ?_ | refine J.G rfl ?_ | refine J.H rfl ?_ | refine T.rd rfl (by decide +kernel) ?_ | fail); conv => whnf)
  by_cases h1 : n < o.d.length
  · have e1 : decide ((n : Int) < ((o.d.map cL).length : Nat)) = true := by simp [h1]
    rw [e1]
    have hxl := hd2 o.d[n] (by simp)
    repeat' ((first | refine T.G rfl ?_ | refine J.G rfl ?_ | refine J.H rfl ?_ | refine T.rd rfl (by decide +kernel) ?_ | fail); conv => whnf)
    refine T.cd rfl (fun h2 => ?_) (fun h2 => ?_)
    · have h2 : n < 5 := by omega
      have hra := row_i (enc := cL) h1
      repeat' ((first | refine T.G rfl ?_ | refine J.G rfl ?_ | refine J.H rfl ?_ | refine T.rd rfl (by decide +kernel) ?_ | fail); conv => whnf)
      refine T.rdm 16 rfl (by kernel_rfl) rfl ?_
      repeat' ((first | refine T.G rfl ?_ | refine J.G rfl ?_ | refine J.H rfl ?_); conv => whnf)
      refine J.i rfl rfl rfl rfl rfl rfl rfl rfl rfl (r := cL o.d[n]) (by omega) hra rfl ?_
      repeat' ((first | refine T.G rfl ?_ | refine J.G rfl ?_ | refine J.H rfl ?_); conv => whnf)
      refine J.i rfl rfl rfl rfl rfl rfl rfl rfl rfl (r := cL o.d[n]) (by omega) hra rfl ?_
      repeat' ((first | refine T.G rfl ?_ | refine J.G rfl ?_ | refine J.H rfl ?_); conv => whnf)
      refine J.s1 (enc := cI) (min o.d[n].length 8) rfl rfl rfl rfl rfl rfl rfl rfl rfl (fun _ => rfl) (by simp; omega) (by omega) ?_
      rw [show o.d[n].take (min o.d[n].length 8) = o.d[n].take 8 by simp; omega]
      refine J.cc rfl rfl rfl rfl rfl (small_spec (o.d[n].take 8) (by simp; omega)).frz rfl rfl ?_
      refine J.bv rfl rfl rfl rfl rfl rfl rfl rfl rfl rfl rfl rfl ?_
      repeat' ((first | refine T.G rfl ?_ | refine J.G rfl ?_ | refine J.H rfl ?_); conv => whnf)
      refine J.aD rfl rfl rfl rfl rfl rfl rfl rfl rfl rfl rfl rfl rfl rfl rfl rfl rfl rfl rfl (by simp; omega) ?_
      repeat' ((first | refine T.G rfl ?_ | refine J.G rfl ?_ | refine J.H rfl ?_ | refine T.rd rfl (by decide +kernel) ?_ | fail); conv => whnf)
      rw [wrap1 h1 (by omega)]
      refine T.canon (keep := [1, 3, 5, 6]) (os := [1, 3, 5]) rfl ?_
      have := ih (n + 1) ⟨by omega, by omega⟩ (by omega)
      rw [List.take_succ_eq_append_getElem h1, List.map_append] at this
      exact this
    · have h2 : ¬ n < 5 := by omega
      rw [fin (by omega)]
      repeat' ((first | refine T.G rfl ?_ | refine J.G rfl ?_ | refine J.H rfl ?_ | refine T.rd rfl (by decide +kernel) ?_ | fail); conv => whnf)
      refine J.bo rfl rfl rfl rfl rfl rfl rfl rfl rfl rfl rfl rfl ?_
      repeat' ((first | refine T.G rfl ?_ | refine J.G rfl ?_ | refine J.H rfl ?_ | refine T.rd rfl (by decide +kernel) ?_ | fail); conv => whnf)
      refine J.a rfl rfl rfl rfl rfl rfl rfl rfl rfl rfl rfl rfl rfl rfl rfl rfl rfl len_I (by show (0 + List.length _) * 8 ≤ _; simp; omega) ?_
      refine J.sub (Rel.frz (s := 40) (fun _ h => h) rfl rfl) ?_
      repeat' ((first | refine T.G rfl ?_ | refine J.G rfl ?_ | refine J.H rfl ?_ | refine T.rd rfl (by decide +kernel) ?_ | fail); conv => whnf)
      refine J.al rfl rfl rfl rfl rfl rfl rfl ?_
      refine J.w rfl rfl rfl rfl rfl rfl rfl rfl rfl rfl ?_
      repeat' ((first | refine T.G rfl ?_ | refine J.G rfl ?_ | refine J.H rfl ?_); conv => whnf)
      refine T.canon (keep := [3, 5, 7]) (os := [3, 5, 7]) rfl (?_ : T _ _ ⟨[(3, .optr 0 0 0 0), (5, .ref 1), (7, .optr 2 0 0 0)], [(0, some (.box true (cC ⟨0, [], [], 0, 0, [], 0⟩))), (1, some (.sl 36 1 true (D.map cD))), (2, some (.box false (cC (conU o.vars))))], 3⟩ _)
      refine T.rdw 9 rfl (by kernel_rfl) rfl ?_
      repeat' ((first | refine T.G rfl ?_ | refine J.G rfl ?_ | refine J.H rfl ?_); conv => whnf)
      refine J.cc rfl rfl rfl rfl rfl hcon rfl rfl ?_
      repeat' ((first | refine T.G rfl ?_ | refine J.G rfl ?_ | refine J.H rfl ?_); conv => whnf)
      refine J.wd rfl rfl rfl rfl rfl rfl rfl rfl rfl rfl ?_
      repeat' ((first | refine T.G rfl ?_ | refine J.G rfl ?_ | refine J.H rfl ?_); conv => whnf)
      refine ⟨rfl, ?_⟩
      repeat' ((first | refine T.G rfl ?_ | refine J.G rfl ?_ | refine J.H rfl ?_); conv => whnf)
      exact ⟨_, .o rfl rfl rfl (fun h => by cases h) (by simp) (.c rfl rfl rfl rfl (fun h => by cases h) (.v rfl rfl (by rw [hok]) (fun h => by cases h) .nil))⟩
  · have e1 : decide ((n : Int) < ((o.d.map cL).length : Nat)) = false := by simp; omega
    rw [e1]
    repeat' ((first | refine T.G rfl ?_ | refine J.G rfl ?_ | refine J.H rfl ?_ | refine T.rd rfl (by decide +kernel) ?_ | fail); conv => whnf)
    refine T.cf rfl ?_
    rw [fin (by omega)]
    repeat' ((first | refine T.G rfl ?_ | refine J.G rfl ?_ | refine J.H rfl ?_ | refine T.rd rfl (by decide +kernel) ?_ | fail); conv => whnf)
    refine J.bo rfl rfl rfl rfl rfl rfl rfl rfl rfl rfl rfl rfl ?_
    repeat' ((first | refine T.G rfl ?_ | refine J.G rfl ?_ | refine J.H rfl ?_ | refine T.rd rfl (by decide +kernel) ?_ | fail); conv => whnf)
    refine J.a rfl rfl rfl rfl rfl rfl rfl rfl rfl rfl rfl rfl rfl rfl rfl rfl rfl len_I (by show (0 + List.length _) * 8 ≤ _; simp; omega) ?_
    refine J.sub (Rel.frz (s := 40) (fun _ h => h) rfl rfl) ?_
    repeat' ((first | refine T.G rfl ?_ | refine J.G rfl ?_ | refine J.H rfl ?_ | refine T.rd rfl (by decide +kernel) ?_ | fail); conv => whnf)
    refine J.al rfl rfl rfl rfl rfl rfl rfl ?_
    refine J.w rfl rfl rfl rfl rfl rfl rfl rfl rfl rfl ?_
    repeat' ((first | refine T.G rfl ?_ | refine J.G rfl ?_ | refine J.H rfl ?_); conv => whnf)
    refine T.canon (keep := [3, 5, 7]) (os := [3, 5, 7]) rfl (?_ : T _ _ ⟨[(3, .optr 0 0 0 0), (5, .ref 1), (7, .optr 2 0 0 0)], [(0, some (.box true (cC ⟨0, [], [], 0, 0, [], 0⟩))), (1, some (.sl 36 1 true (D.map cD))), (2, some (.box false (cC (conU o.vars))))], 3⟩ _)
    refine T.rdw 9 rfl (by kernel_rfl) rfl ?_
    repeat' ((first | refine T.G rfl ?_ | refine J.G rfl ?_ | refine J.H rfl ?_); conv => whnf)
    refine J.cc rfl rfl rfl rfl rfl hcon rfl rfl ?_
    repeat' ((first | refine T.G rfl ?_ | refine J.G rfl ?_ | refine J.H rfl ?_); conv => whnf)
    refine J.wd rfl rfl rfl rfl rfl rfl rfl rfl rfl rfl ?_
    repeat' ((first | refine T.G rfl ?_ | refine J.G rfl ?_ | refine J.H rfl ?_); conv => whnf)
    refine ⟨rfl, ?_⟩
    repeat' ((first | refine T.G rfl ?_ | refine J.G rfl ?_ | refine J.H rfl ?_); conv => whnf)
    exact ⟨_, .o rfl rfl rfl (fun h => by cases h) (by simp) (.c rfl rfl rfl rfl (fun h => by cases h) (.v rfl rfl (by rw [hok]) (fun h => by cases h) .nil))⟩
end Go.Proofs.Ytdflkbmpbblcfaa
/-! Plain: by the program what are all others leaves what the document says. -/
namespace Go.Proofs.Ytdflkbmpbblcfaa
open Go Go.RowKit
set_option linter.unusedVariables false
set_option linter.unusedSimpArgs false

theorem packG_pack {l : List Int} (h : Up l) : packG l = pack l := by
  have key : ∀ (l : List Int) (o : List (Int × Int)) (lo x : Int), Up (x :: l) → l.foldl packS (o ++ [(lo, x)]) = o ++ packF lo x l := by
    intro l
    induction l with
    | nil => intro o lo x _; rfl
    | cons y l ih =>
      intro o lo x hu
      have h1 := List.pairwise_cons.1 hu
      have hxy := h1.1 y (.head _)
      rw [List.foldl_cons, packS_snoc, if_neg (by omega), packF]
      by_cases e : y = x + 1
      · rw [if_pos (by omega), if_pos e, ih _ _ _ h1.2]
      · rw [if_neg (by omega), if_neg e, ih _ _ _ h1.2, List.append_assoc]; rfl
  cases l with
  | nil => rfl
  | cons x l =>
    show l.foldl packS (packS [] x) = _
    rw [packS_nil]
    exact key l [] x x h
theorem sortI_up {l : List Int} (h : Up l) : sortI l = l := List.mergeSort_of_pairwise (h.imp fun h => by simp; omega)
theorem sizeU_eq {d : List (Int × Int)} (h : Fine d) : sizeW d = ((vals d).length : Nat) := by
  have hb := h.domB.1
  have hf := h.few
  have hok := h.ok
  have key : ∀ (d : List (Int × Int)) (n : Nat), InB d → (∀ r ∈ d, r.1 ≤ r.2) → n + (vals d).length ≤ 1000000000000000 → d.foldl (fun n r => wr (n + wr (wr (r.2 - r.1) + 1))) (n : Int) = ((n + (vals d).length : Nat) : Int) := by
    intro d
    induction d with
    | nil => intro n _ _ _; simp [vals]
    | cons r d ih =>
      intro n hb ho hl
      have h1 := hb r (.head _)
      have h2 := ho r (.head _)
      rw [vals_cons, List.length_append, show (rng r.1 r.2).length = (r.2 + 1 - r.1).toNat by simp [rng]] at hl ⊢
      rw [List.foldl_cons]
      have e : wr ((n : Int) + wr (wr (r.2 - r.1) + 1)) = ((n + (r.2 + 1 - r.1).toNat : Nat) : Int) := by
        simp only [wr]
        rw [wrap_id (n := r.2 - r.1) (by omega) (by omega), wrap_id (n := r.2 - r.1 + 1) (by omega) (by omega), wrap_id (by omega) (by omega)]
        omega
      rw [e, ih _ (fun r hr => hb r (.tail _ hr)) (fun r hr => ho r (.tail _ hr)) (by omega)]
      congr 1
      omega
  have := key d 0 hb hok.1 (by omega)
  simpa [sizeW] using this
theorem pack_fine {l : List Int} (h : Up l) (hv : ∀ v ∈ l, -1048576 ≤ v ∧ v ≤ 1048576) (hn : l.length ≤ 4096) : Fine (pack l) := by
  refine ⟨pack_ok h, ?_, ?_⟩
  · rw [vals_pack h]; exact hv
  · rw [vals_pack h]; omega
theorem domOfP_up {l : List Int} (h : Up l) (hv : ∀ v ∈ l, -1048576 ≤ v ∧ v ≤ 1048576) (hn : l.length ≤ 4096) : domOfP l = (pack l, 0) := by
  unfold domOfP
  rw [sortI_up h, packG_pack h, sizeU_eq (pack_fine h hv hn), vals_pack h, if_pos (List.all_eq_true.2 fun v hm => by simpa [valueB] using hv v hm), if_neg (by omega)]
/-- Domains that are right, of few values. -/
structure FewD (d : Doms) : Prop where
  small : d.length * 24 ≤ 140737488355328
  fine : ∀ x ∈ d, Fine x
  few : ∀ x ∈ d, (vals x).length ≤ 4096
theorem FewD.valD {d : Doms} (h : FewD d) : ValD d := ⟨h.small, fun x hx => (h.fine x hx).domB.1, fun x hx => by have := (h.fine x hx).len; omega, fun x hx => by have := h.few x hx; omega⟩
theorem valsT_eq {x : List (Int × Int)} (h : (vals x).length ≤ 4096) : valsT x = vals x := List.take_of_length_le (by omega)
theorem FewD.at {d : Doms} (h : FewD d) (v : Int) : (vals (domAt d v)).length ≤ 4096 ∧ Up (vals (domAt d v)) ∧ ∀ x ∈ vals (domAt d v), -1048576 ≤ x ∧ x ≤ 1048576 := by
  unfold domAt
  by_cases hv : v.toNat < d.length
  · rw [List.getD_eq_getElem?_getD, List.getElem?_eq_getElem hv]
    have hm : d[v.toNat] ∈ d := List.getElem_mem hv
    exact ⟨h.few _ hm, vals_up (h.fine _ hm).ok, (h.fine _ hm).val⟩
  · rw [List.getD_eq_getElem?_getD, List.getElem?_eq_none (by omega)]
    exact ⟨by simp [vals], .nil, fun x hx => by cases hx⟩
theorem listsP_eq {d : Doms} (h : FewD d) (vs : List Int) : listsP d vs = vs.map fun v => vals (domAt d v) :=
  List.map_congr_left fun v _ => valsT_eq (h.at v).1
/-- Values of the others behind some. -/
theorem extP_iff (d : Doms) (vars : List Int) : ∀ (n : Nat) (had : List Int), had.Nodup → (extP d vars n had = true ↔ ∃ rest : List Int, rest.length = n ∧ (∀ k, k < n → rest.getD k 0 ∈ vals (domAt d (vars.getD (had.length + k) 0))) ∧ (had ++ rest).Nodup)
  | 0, had, hn => by
    rw [extP]
    exact ⟨fun _ => ⟨[], rfl, fun k hk => by omega, by simpa using hn⟩, fun _ => rfl⟩
  | n + 1, had, hn => by
    rw [extP, List.any_eq_true]
    constructor
    · rintro ⟨x, hx, h⟩
      simp only [Bool.and_eq_true, Bool.not_eq_true', decide_eq_false_iff_not] at h
      have hn2 : (had ++ [x]).Nodup := List.nodup_append.2 ⟨hn, by simp, fun a ha b hb => by
        obtain rfl := List.mem_singleton.1 hb
        exact fun e => h.1 (e ▸ ha)⟩
      obtain ⟨rest, h1, h2, h3⟩ := (extP_iff d vars n (had ++ [x]) hn2).1 h.2
      refine ⟨x :: rest, by simp [h1], fun k hk => ?_, by simpa using h3⟩
      cases k with
      | zero => exact hx
      | succ k =>
        have := h2 k (by omega)
        rw [List.length_append, show had.length + [x].length + k = had.length + (k + 1) by simp; omega] at this
        exact this
    · rintro ⟨rest, h1, h2, h3⟩
      cases rest with
      | nil => cases h1
      | cons x rest =>
        have hx : x ∉ had := fun hm => by
          have := (List.nodup_append.1 h3).2.2 x hm x (.head _)
          exact this rfl
        have h4 : ((had ++ [x]) ++ rest).Nodup := by simpa using h3
        refine ⟨x, h2 0 (by omega), ?_⟩
        simp only [Bool.and_eq_true, Bool.not_eq_true', decide_eq_false_iff_not]
        refine ⟨hx, (extP_iff d vars n (had ++ [x]) (List.nodup_append.1 h4).1).2 ⟨rest, by simpa using h1, fun k hk => ?_, h4⟩⟩
        have := h2 (k + 1) (by omega)
        rw [List.length_append, show had.length + [x].length + k = had.length + (k + 1) by simp; omega]
        exact this
/-- The document's question is the program's. -/
theorem oth_eq {d : Doms} (h : FewD d) (vars : List Int) : extP d vars vars.length [] = (matchR (listsP d vars)).2 := by
  have key : extP d vars vars.length [] = true ↔ ∃ g, Others (listsP d vars) g := by
    rw [extP_iff d vars vars.length [] .nil, listsP_eq h]
    have hg : ∀ j, j < vars.length → (vars.map fun v => vals (domAt d v)).getD j [] = vals (domAt d (vars.getD j 0)) := fun j hj => by simp [hj]
    constructor
    · rintro ⟨rest, h1, h2, h3⟩
      rw [List.nil_append] at h3
      refine ⟨fun j => rest.getD j 0, fun j hj => ?_, fun j k hj hk e => ?_⟩
      · rw [List.length_map] at hj
        rw [hg j hj]
        have := h2 j hj
        simpa using this
      · rw [List.length_map] at hj hk
        have e : rest.getD j 0 = rest.getD k 0 := e
        rw [List.getD_eq_getElem?_getD, List.getD_eq_getElem?_getD, List.getElem?_eq_getElem (by omega), List.getElem?_eq_getElem (by omega)] at e
        exact (List.getElem_inj h3).1 e
    · rintro ⟨g, h1, h2⟩
      rw [List.length_map] at h1 h2
      refine ⟨(List.range vars.length).map g, by simp, fun k hk => ?_, ?_⟩
      · have := h1 k hk
        rw [hg k hk] at this
        simpa [hk] using this
      · rw [List.nil_append]
        exact nodup_map List.nodup_range fun x hx y hy e => h2 x y (List.mem_range.1 hx) (List.mem_range.1 hy) e
  rw [Bool.eq_iff_iff, key, matchR_iff]
theorem FewD.one {d : Doms} (h : FewD d) (i : Nat) {x : Int} (hx : -1048576 ≤ x ∧ x ≤ 1048576) : FewD (d.set i [(x, x)]) := by
  have key : ∀ y ∈ d.set i [(x, x)], y ∈ d ∨ y = [(x, x)] := fun y hy => List.mem_or_eq_of_mem_set hy
  have hv : vals [(x, x)] = [x] := by
    show rng x x ++ [] = _
    rw [rng_self]; rfl
  refine ⟨by rw [List.length_set]; exact h.small, fun y hy => ?_, fun y hy => ?_⟩
  · rcases key y hy with hy | rfl
    · exact h.fine y hy
    · refine ⟨⟨fun r hr => ?_, by simp⟩, ?_, ?_⟩
      · obtain rfl := List.mem_singleton.1 hr
        exact Int.le_refl _
      · rw [hv]; intro v hm; obtain rfl := List.mem_singleton.1 hm; exact hx
      · rw [hv]; simp
  · rcases key y hy with hy | rfl
    · exact h.few y hy
    · rw [hv]; simp
theorem Up.filter {l : List Int} (h : Up l) (p : Int → Bool) : Up (l.filter p) := List.Pairwise.filter p h
/-- Variables that are others, in range. -/
def VarsU (d : Doms) (vars : List Int) : Prop := vars.Nodup ∧ ∀ v ∈ vars, 0 ≤ v ∧ v.toNat < d.length
theorem listsP_set {d : Doms} (h : FewD d) {vars : List Int} (hv : VarsU d vars) {i : Nat} (hi : i < vars.length) {x : Int} (hx : -1048576 ≤ x ∧ x ≤ 1048576) : listsP (d.set vars[i].toNat [(x, x)]) vars = (listsP d vars).set i [x] := by
  rw [listsP_eq h, listsP_eq (h.one _ hx)]
  apply List.ext_getElem (by simp)
  intro j h1 h2
  have hj : j < vars.length := by simpa using h1
  rw [List.getElem_map, List.getElem_set, List.getElem_map]
  unfold domAt
  rw [List.getD_eq_getElem?_getD, List.getElem?_set]
  by_cases e : i = j
  · subst e
    rw [if_pos rfl, if_pos rfl, if_pos (hv.2 _ (List.getElem_mem hi)).2]
    show rng x x ++ [] = _
    rw [rng_self]; rfl
  · have e2 : ¬ vars[i].toNat = vars[j].toNat := fun e2 => by
      have h3 := (hv.2 _ (List.getElem_mem hi)).1
      have h4 := (hv.2 _ (List.getElem_mem hj)).1
      exact e ((List.getElem_inj hv.1).1 (by omega : vars[i] = vars[j]))
    rw [if_neg e, if_neg e2, ← List.getD_eq_getElem?_getD]
theorem left_eq {d : Doms} (h : FewD d) {vars : List Int} (hv : VarsU d vars) {i : Nat} (hi : i < vars.length) : leftU (listsP d vars) i = left8 d vars vars[i] := by
  unfold leftU left8
  have e : (listsP d vars).getD i [] = vals (domAt d vars[i]) := by rw [listsP_eq h]; simp [hi]
  rw [e]
  refine List.filter_congr fun x hx => ?_
  have hxr := (h.at vars[i]).2.2 x hx
  rw [← listsP_set h hv hi hxr, oth_eq (h.one _ hxr)]
theorem left8_up {d : Doms} (h : FewD d) (vars : List Int) (v : Int) : Up (left8 d vars v) ∧ (left8 d vars v).length ≤ 4096 ∧ (∀ x ∈ left8 d vars v, -1048576 ≤ x ∧ x ≤ 1048576) := by
  obtain ⟨h1, h2, h3⟩ := h.at v
  exact ⟨h2.filter _, Nat.le_trans (List.length_filter_le ..) h1, fun x hx => h3 x (List.mem_filter.1 hx).1⟩
theorem step_eq {d : Doms} (h : FewD d) {vars : List Int} (hv : VarsU d vars) : ∀ (n i : Nat) (out : Doms), n + i = vars.length → stepU (listsP d vars) (vars.drop i) i out = step8 d vars (vars.drop i) out
  | 0, i, out, hi => by
    rw [List.drop_of_length_le (by omega)]; rfl
  | n + 1, i, out, hi => by
    have hil : i < vars.length := by omega
    rw [List.drop_eq_getElem_cons hil, stepU, step8, left_eq h hv hil]
    obtain ⟨h1, h2, h3⟩ := left8_up h vars vars[i]
    rw [domOfP_up h1 h3 h2]
    exact step_eq h hv n (i + 1) _ (by omega)
/-- What stands in the domains behind the steps. -/
theorem step8_len (d : Doms) (vars : List Int) : ∀ (vs : List Int) (out : Doms), (step8 d vars vs out).length = out.length
  | [], out => rfl
  | v :: vs, out => by rw [step8, step8_len d vars vs, List.length_set]
theorem step8_at {d : Doms} {vars : List Int} : ∀ {vs : List Int} {out : Doms} (j : Nat), vs.Nodup → (∀ v ∈ vs, 0 ≤ v ∧ v.toNat < out.length) → (step8 d vars vs out)[j]? = if (j : Int) ∈ vs then some (pack (left8 d vars j)) else out[j]?
  | [], out, j, _, _ => by simp [step8]
  | v :: vs, out, j, hn, hv => by
    obtain ⟨h1, h2⟩ := List.nodup_cons.1 hn
    have hv0 := hv v (.head _)
    rw [step8, step8_at j h2 (fun u hu => by rw [List.length_set]; exact hv u (.tail _ hu)), List.getElem?_set]
    by_cases e : v.toNat = j
    · have e2 : v = (j : Int) := by omega
      subst e2
      rw [if_neg h1, if_pos (List.mem_cons_self ..), if_pos e, if_pos hv0.2]
    · by_cases hm : (j : Int) ∈ vs
      · rw [if_pos hm, if_pos (.tail _ hm)]
      · have hn2 : ¬ (j : Int) ∈ v :: vs := fun h => by
          rcases List.mem_cons.1 h with h | h
          · exact e (by omega)
          · exact hm h
        rw [if_neg hm, if_neg hn2, if_neg e]
/-- A value that is supported: there are values of the others with it. -/
theorem left8_mem {d : Doms} (h : FewD d) {vars : List Int} (hv : VarsU d vars) {i : Nat} (hi : i < vars.length) (x : Int) : x ∈ left8 d vars vars[i] ↔ ∃ g, Others (listsP d vars) g ∧ g i = x := by
  have hL : (listsP d vars).getD i [] = vals (domAt d vars[i]) := by rw [listsP_eq h]; simp [hi]
  have hlen : (listsP d vars).length = vars.length := List.length_map ..
  unfold left8
  rw [List.mem_filter]
  constructor
  · rintro ⟨hx, he⟩
    have hxr := (h.at vars[i]).2.2 x hx
    rw [oth_eq (h.one _ hxr), matchR_iff, listsP_set h hv hi hxr] at he
    obtain ⟨g, h1, h2⟩ := he
    rw [List.length_set] at h1 h2
    have hgi : g i = x := by
      have := h1 i (by omega)
      rw [List.getD_eq_getElem?_getD, List.getElem?_set, if_pos rfl, if_pos (by omega)] at this
      simpa using this
    refine ⟨g, ⟨fun j hj => ?_, h2⟩, hgi⟩
    by_cases e : j = i
    · subst e; rw [hL, hgi]; exact hx
    · have := h1 j hj
      rw [List.getD_eq_getElem?_getD, List.getElem?_set, if_neg (Ne.symm e), ← List.getD_eq_getElem?_getD] at this
      exact this
  · rintro ⟨g, ⟨h1, h2⟩, rfl⟩
    have hx := h1 i (by omega)
    rw [hL] at hx
    have hxr := (h.at vars[i]).2.2 _ hx
    refine ⟨hx, ?_⟩
    rw [oth_eq (h.one _ hxr), matchR_iff, listsP_set h hv hi hxr]
    refine ⟨g, fun j hj => ?_, fun j k hj hk => ?_⟩
    · rw [List.length_set] at hj
      rw [List.getD_eq_getElem?_getD, List.getElem?_set]
      by_cases e : i = j
      · subst e; rw [if_pos rfl, if_pos hj]; simp
      · rw [if_neg e, ← List.getD_eq_getElem?_getD]; exact h1 j hj
    · rw [List.length_set] at hj hk
      exact h2 j k hj hk
theorem pack_ne {l : List Int} (h : l ≠ []) : pack l ≠ [] := by
  cases l with
  | nil => exact absurd rfl h
  | cons x l =>
    have : ∀ (l : List Int) (lo x : Int), packF lo x l ≠ [] := by
      intro l
      induction l with
      | nil => intro lo x; simp [packF]
      | cons y l ih => intro lo x; rw [packF]; split; exact ih _ _; simp
    exact this l x x
theorem prune_eq {d : Doms} (h : FewD d) {vars : List Int} (hv : VarsU d vars) (hne : vars ≠ []) : pruneU d vars = prune8 d vars := by
  unfold pruneU prune8
  by_cases he : [] ∈ d
  · rw [if_pos he, if_pos he]
  rw [if_neg he, if_neg he]
  have hst := step_eq h hv vars.length 0 d (by omega)
  rw [List.drop_zero] at hst
  rw [hst]
  have hat := fun j => step8_at (d := d) (vars := vars) (out := d) j hv.1 hv.2
  by_cases hm : (matchR (listsP d vars)).2 = true
  · rw [if_pos hm, if_neg]
    intro hem
    obtain ⟨j, hj⟩ := List.getElem?_of_mem hem
    rw [hat j] at hj
    split at hj
    · rename_i hjm
      obtain ⟨i, hi, e⟩ := List.getElem_of_mem hjm
      obtain ⟨g, hg⟩ := (matchR_iff _).1 hm
      have hl := (left8_mem h hv hi (g i)).2 ⟨g, hg, rfl⟩
      rw [e] at hl
      exact pack_ne (fun e2 => by rw [e2] at hl; cases hl) (Option.some.inj hj)
    · exact he (List.mem_of_getElem? hj)
  · rw [if_neg hm, if_pos]
    cases hvs : vars with
    | nil => exact absurd hvs hne
    | cons v vs =>
      have hi : 0 < vars.length := by rw [hvs]; simp
      have hv0 := hv.2 _ (List.getElem_mem hi)
      have hl : left8 d vars vars[0] = [] := by
        cases hl : left8 d vars vars[0] with
        | nil => rfl
        | cons x l =>
          obtain ⟨g, hg, _⟩ := (left8_mem h hv hi x).1 (by rw [hl]; exact .head _)
          exact absurd ((matchR_iff _).2 ⟨g, hg⟩) hm
      have := hat vars[0].toNat
      have e : ((vars[0].toNat : Nat) : Int) = vars[0] := by omega
      rw [e, if_pos (List.getElem_mem hi), hl] at this
      rw [← hvs]
      exact List.mem_of_getElem? this
end Go.Proofs.Ytdflkbmpbblcfaa
/-! Contracts of layer 8 at right domains; the calls whose answers the document fixes. -/
namespace Go.Proofs.Ytdflkbmpbblcfaa
open Go Go.RowKit
set_option linter.unusedVariables false
set_option linter.unusedSimpArgs false
set_option maxRecDepth 8000

theorem FewD.smallD {d : Doms} (h : FewD d) : SmallD d := ⟨h.small, fun x hx => by have := (h.fine x hx).len; omega⟩
theorem FewD.len8 {d : Doms} (h : FewD d) : d.length * 8 ≤ 140737488355328 ∧ ∀ x ∈ d, x.length * 8 ≤ 140737488355328 := ⟨by have := h.small; omega, fun x hx => by have := (h.fine x hx).len; omega⟩
theorem VarsU.few {d : Doms} (h : FewD d) {vars : List Int} (hv : VarsU d vars) : vars.length * 24 ≤ 140737488355328 := by
  have : vars.length ≤ d.length := by
    have h1 : (vars.map Int.toNat).Nodup := nodup_map hv.1 fun x hx y hy e => by
      have := (hv.2 x hx).1; have := (hv.2 y hy).1; omega
    have h2 := nodup_sub h1 (b := List.range d.length) fun k hk => by
      obtain ⟨v, hv2, rfl⟩ := List.mem_map.1 hk
      exact List.mem_range.2 (hv.2 v hv2).2
    simpa using h2
  have := h.small
  omega
theorem uprune_few (d : Doms) (vars : List Int) (h : FewD d) (hv : VarsU d vars) (hne : vars ≠ []) : Spec Try.prog 12 false [doms d, .agg (cC (conU vars))] (pruneRes (prune8 d vars)) := by
  have := uprune_spec d (conU vars) h.smallD h.valD.inb h.valD.len hv.2 (hv.few h)
  rw [show (conU vars).vars = vars from rfl, prune_eq h hv hne] at this
  exact this
theorem prune8_few (d : Doms) (vars : List Int) (h : FewD d) (hv : VarsU d vars) : Spec Try.prog 13 false [doms d, .agg (cC (conU vars))] [.val (doms ((prune8 d vars).getD [])), .val (.bool (prune8 d vars).isSome)] :=
  prune8_spec d (conU vars) h.valD hv.2 (by have := hv.few h; show vars.length * 8 ≤ _; omega)
theorem match_few (d : Doms) (vars : List Int) (h : FewD d) (hv : VarsU d vars) : Spec Try.prog 15 false [doms d, ints vars] [.own 3 1 ((matchR (listsP d vars)).1.map cI), .val (.bool (matchR (listsP d vars)).2)] :=
  match_spec d vars h.smallD h.valD.inb h.valD.len hv.2 (hv.few h)
theorem fine1 {a b : Int} (h : a ≤ b) (h1 : -1048576 ≤ a) (h2 : b ≤ 1048576) : Fine [(a, b)] := by
  have hv : vals [(a, b)] = rng a b := by
    show rng a b ++ [] = _
    rw [List.append_nil]
  refine ⟨⟨fun r hr => ?_, by simp⟩, ?_, ?_⟩
  · obtain rfl := List.mem_singleton.1 hr; exact h
  · rw [hv]; intro v hm
    have := mem_rng.1 hm
    omega
  · rw [hv]; simp [rng]; omega
theorem few1 {a b : Int} (h2 : b + 1 - a ≤ 4096) : (vals [(a, b)]).length ≤ 4096 := by
  have hv : vals [(a, b)] = rng a b := by
    show rng a b ++ [] = _
    rw [List.append_nil]
  rw [hv]; simp [rng]; omega
def fxA : Doms := [[(0, 1)], [(0, 1)], [(0, 3)]]
def fxB : Doms := [[(0, 1)], [(0, 1)], [(0, 1)]]
def fxC : Doms := [[(4, 4)]]
theorem fxA_few : FewD fxA := ⟨by decide, fun x hx => by
  simp only [fxA, List.mem_cons, List.not_mem_nil, or_false] at hx
  rcases hx with rfl | rfl | rfl <;> exact fine1 (by decide) (by decide) (by decide), fun x hx => by
  simp only [fxA, List.mem_cons, List.not_mem_nil, or_false] at hx
  rcases hx with rfl | rfl | rfl <;> exact few1 (by decide)⟩
theorem fxB_few : FewD fxB := ⟨by decide, fun x hx => by
  simp only [fxB, List.mem_cons, List.not_mem_nil, or_false] at hx
  rcases hx with rfl | rfl | rfl <;> exact fine1 (by decide) (by decide) (by decide), fun x hx => by
  simp only [fxB, List.mem_cons, List.not_mem_nil, or_false] at hx
  rcases hx with rfl | rfl | rfl <;> exact few1 (by decide)⟩
theorem fxC_few : FewD fxC := ⟨by decide, fun x hx => by
  simp only [fxC, List.mem_cons, List.not_mem_nil, or_false] at hx
  rcases hx with rfl <;> exact fine1 (by decide) (by decide) (by decide), fun x hx => by
  simp only [fxC, List.mem_cons, List.not_mem_nil, or_false] at hx
  rcases hx with rfl <;> exact few1 (by decide)⟩
theorem fxU1 : prune8 fxA [0, 1, 2] = some [[(0, 1)], [(0, 1)], [(2, 3)]] := by decide +kernel
theorem fxU2 : prune8 fxB [0, 1, 2] = none := by decide +kernel
theorem fxU3 : matchR (listsP fxC [0]) = ([4], true) := by decide +kernel
theorem fxU4 : matchR (listsP fxB [0, 1, 2]) = ([], false) := by decide +kernel
theorem fixed8_spec : Spec Try.prog 10 false [] [.val (.bool true)] := by
  refine Spec.body Try.func10 rfl rfl rfl fun w0 Z0 => ?_
  have h1 := (uprune_few fxA [0, 1, 2] fxA_few ⟨by decide, by decide⟩ (by simp)).frz
  have h2 := (uprune_few fxB [0, 1, 2] fxB_few ⟨by decide, by decide⟩ (by simp)).frz
  have h3 := (match_few fxC [0] fxC_few ⟨by decide, by decide⟩).frz
  have h4 := (match_few fxB [0, 1, 2] fxB_few ⟨by decide, by decide⟩).frz
  rw [fxU1] at h1
  rw [fxU2] at h2
  rw [fxU3] at h3
  rw [fxU4] at h4
  have h6 : Spec Try.prog 14 false [doms [[(0, 1)], [(0, 1)], [(2, 3)]], doms [[(0, 1)], [(0, 1)], [(2, 3)]]] [.val (.bool true)] := by
    have := sames_spec [[(0, 1)], [(0, 1)], [(2, 3)]] [[(0, 1)], [(0, 1)], [(2, 3)]] (by decide) (by decide)
    simpa using this
  have h7 : Spec Try.prog 17 false [ints [4], ints [4]] [.val (.bool true)] := by
    have := nums_spec [4] [4] (by decide)
    simpa using this
  repeat' ((first | refine T.G rfl ?_ | refine J.G rfl ?_ | refine J.H rfl ?_ | refine T.rd rfl (by decide +kernel) ?_ | fail); conv => whnf)
  refine J.bv rfl rfl rfl rfl rfl rfl rfl rfl rfl rfl rfl rfl ?_
  repeat' ((first | refine T.G rfl ?_ | refine J.G rfl ?_ | refine J.H rfl ?_ | refine T.rd rfl (by decide +kernel) ?_ | fail); conv => whnf)
  refine J.bv rfl rfl rfl rfl rfl rfl rfl rfl rfl rfl rfl rfl ?_
  repeat' ((first | refine T.G rfl ?_ | refine J.G rfl ?_ | refine J.H rfl ?_ | refine T.rd rfl (by decide +kernel) ?_ | fail); conv => whnf)
  refine J.bv rfl rfl rfl rfl rfl rfl rfl rfl rfl rfl rfl rfl ?_
  repeat' ((first | refine T.G rfl ?_ | refine J.G rfl ?_ | refine J.H rfl ?_ | refine T.rd rfl (by decide +kernel) ?_ | fail); conv => whnf)
  refine J.al rfl rfl rfl rfl rfl rfl rfl ?_
  refine J.w rfl rfl rfl rfl rfl rfl rfl rfl rfl rfl ?_
  repeat' ((first | refine T.G rfl ?_ | refine J.G rfl ?_ | refine J.H rfl ?_ | refine T.rd rfl (by decide +kernel) ?_ | fail); conv => whnf)
  refine J.bv rfl rfl rfl rfl rfl rfl rfl rfl rfl rfl rfl rfl ?_
  repeat' ((first | refine T.G rfl ?_ | refine J.G rfl ?_ | refine J.H rfl ?_ | refine T.rd rfl (by decide +kernel) ?_ | fail); conv => whnf)
  refine J.cc rfl rfl rfl rfl rfl h1 rfl rfl ?_
  repeat' ((first | refine T.G rfl ?_ | refine J.G rfl ?_ | refine J.H rfl ?_ | refine T.rd rfl (by decide +kernel) ?_ | fail); conv => whnf)
  refine J.bv rfl rfl rfl rfl rfl rfl rfl rfl rfl rfl rfl rfl ?_
  repeat' ((first | refine T.G rfl ?_ | refine J.G rfl ?_ | refine J.H rfl ?_ | refine T.rd rfl (by decide +kernel) ?_ | fail); conv => whnf)
  refine J.cc rfl rfl rfl rfl rfl h2 rfl rfl ?_
  repeat' ((first | refine T.G rfl ?_ | refine J.G rfl ?_ | refine J.H rfl ?_ | refine T.rd rfl (by decide +kernel) ?_ | fail); conv => whnf)
  refine J.bv rfl rfl rfl rfl rfl rfl rfl rfl rfl rfl rfl rfl ?_
  refine J.bv rfl rfl rfl rfl rfl rfl rfl rfl rfl rfl rfl rfl ?_
  refine J.bv rfl rfl rfl rfl rfl rfl rfl rfl rfl rfl rfl rfl ?_
  repeat' ((first | refine T.G rfl ?_ | refine J.G rfl ?_ | refine J.H rfl ?_ | refine T.rd rfl (by decide +kernel) ?_ | fail); conv => whnf)
  refine J.cc rfl rfl rfl rfl rfl h3 rfl rfl ?_
  repeat' ((first | refine T.G rfl ?_ | refine J.G rfl ?_ | refine J.H rfl ?_ | refine T.rd rfl (by decide +kernel) ?_ | fail); conv => whnf)
  refine J.bv rfl rfl rfl rfl rfl rfl rfl rfl rfl rfl rfl rfl ?_
  repeat' ((first | refine T.G rfl ?_ | refine J.G rfl ?_ | refine J.H rfl ?_ | refine T.rd rfl (by decide +kernel) ?_ | fail); conv => whnf)
  refine J.cc rfl rfl rfl rfl rfl h4 rfl rfl ?_
  repeat' ((first | refine T.G rfl ?_ | refine J.G rfl ?_ | refine J.H rfl ?_ | refine T.rd rfl (by decide +kernel) ?_ | fail); conv => whnf)
  refine J.bv rfl rfl rfl rfl rfl rfl rfl rfl rfl rfl rfl rfl ?_
  refine J.bv rfl rfl rfl rfl rfl rfl rfl rfl rfl rfl rfl rfl ?_
  refine J.cc rfl rfl rfl rfl rfl h6 rfl rfl ?_
  repeat' ((first | refine T.G rfl ?_ | refine J.G rfl ?_ | refine J.H rfl ?_ | refine T.rd rfl (by decide +kernel) ?_ | fail); conv => whnf)
  refine J.bv rfl rfl rfl rfl rfl rfl rfl rfl rfl rfl rfl rfl ?_
  refine J.cc rfl rfl rfl rfl rfl h7 rfl rfl ?_
  repeat' ((first | refine T.G rfl ?_ | refine J.G rfl ?_ | refine J.H rfl ?_ | refine T.rd rfl (by decide +kernel) ?_ | fail); conv => whnf)
  exact ⟨_, .v rfl rfl rfl (fun _ => rfl) .nil⟩
end Go.Proofs.Ytdflkbmpbblcfaa
/-! The entry of the statements of layer 8: a few, as they are handed in. -/
namespace Go.Proofs.Ytdflkbmpbblcfaa
open Go Go.RowKit
set_option linter.unusedVariables false
set_option maxRecDepth 100000

section
variable {H : Type} {henc : TypeId × Value → H} {w : World}
theorem opens_few : Opens henc Try.prog w 25 cFew FewB := by
  have h := opens_struct (henc := henc) (w := w) Try.underlying25 (opensL_cons opens_LL rfl (opensL_cons opens_IL (by kernel_rfl) (opensL_cons opens_IL (by kernel_rfl) (opensL_cons opens_IL (by kernel_rfl) (opensL_nil _))))) (by kernel_rfl)
  refine h.map (fun x => (⟨x.1, x.2.1, x.2.2.1, x.2.2.2.1⟩ : Few)) (fun _ => rfl) fun x h => ?_
  obtain ⟨h1, h2, h3, h4, _⟩ := h
  have e : reachBytes = 140737488351232 := rfl
  rw [e] at h1 h2 h3 h4
  exact ⟨by simp only; omega, fun y hy => by have := h1.2 y hy; omega, by simp only; omega, by simp only; omega, by simp only; omega⟩
theorem few_one (o : Few) : ∀ p ∈ cFew o, p.one = true := by
  intro p hp
  simp [cFew] at hp
  rcases hp with rfl | rfl | rfl | rfl <;> rfl
end
end Go.Proofs.Ytdflkbmpbblcfaa
