/- Contracts: what the statements of sums are laid from; the calls whose answers the document fixes. -/
import Derived.Test.YtchajofdjeijfaaFnX
import Derived.Test.YtchajofdjeijfaaFnQ
namespace Go.Proofs.Ytchajofdjeijfaa
open Go Go.RowKit
set_option linter.unusedVariables false
set_option linter.unusedSimpArgs false
set_option maxRecDepth 8000

def laidS (o : Case) : Doms := (o.d.take 5).map smallR
def laidSC (o : Case) : Con := { o.c with kind := 0 }
def laidSOK (o : Case) : Bool := decide (conR (laidS o) (laidSC o) = 0)
theorem slaid_spec (o : Case) (ho : CaseB o) : Spec Try.prog 13 true [.agg (cCase o)] [.own 38 1 ((laidS o).map cD), .val (.agg (cC (laidSC o))), .val (.bool (laidSOK o))] := by
  refine Spec.body Try.func13 rfl rfl rfl fun w0 Z0 => ?_
  obtain ⟨hc, hd1, hd2⟩ := ho
  have hcl : ConB (laidSC o) := hc
  have hdl : (laidS o).length ≤ 5 := by simp [laidS]; omega
  have hdx : ∀ x ∈ laidS o, x.length * 8 ≤ 140737488355328 := fun x hx => by
    obtain ⟨y, _, rfl⟩ := List.mem_map.1 hx
    have := smallR_length y
    omega
  have hcon := con_spec (laidS o) (laidSC o) hcl (by omega) hdx
  have hok : laidSOK o = decide (conR (laidS o) (laidSC o) = 0) := rfl
  have hld : laidS o = (o.d.take 5).map smallR := rfl
  generalize laidS o = D at *
  repeat' first | refine T.seq ?_ | refine T.block ?_ | refine T.r ?_ | refine J.e rfl rfl rfl rfl ?_ | refine J.nil ?_ | refine J.skip rfl rfl rfl ?_ | refine T.skip ?_ | refine T.exit ?_ | refine T.ret ?_ | refine T.rd rfl (by kernel_rfl) ?_ | refine J.bx rfl rfl rfl rfl rfl rfl ?_
  refine J.al rfl rfl rfl rfl rfl rfl rfl ?_
  repeat' first | refine T.seq ?_ | refine T.block ?_ | refine T.r ?_ | refine J.e rfl rfl rfl rfl ?_ | refine J.nil ?_ | refine J.skip rfl rfl rfl ?_ | refine T.skip ?_ | refine T.exit ?_ | refine T.ret ?_ | refine T.rd rfl (by kernel_rfl) ?_ | refine J.bx rfl rfl rfl rfl rfl rfl ?_
  refine J.bo rfl rfl rfl rfl rfl rfl rfl rfl rfl rfl rfl rfl ?_
  repeat' first | refine T.seq ?_ | refine T.block ?_ | refine T.r ?_ | refine J.e rfl rfl rfl rfl ?_ | refine J.nil ?_ | refine J.skip rfl rfl rfl ?_ | refine T.skip ?_ | refine T.exit ?_ | refine T.ret ?_ | refine T.rd rfl (by kernel_rfl) ?_ | refine J.bx rfl rfl rfl rfl rfl rfl ?_
  refine T.canon (keep := [1, 3, 5, 6]) (os := [1, 3, 5]) rfl (T.ind (fun (n : Nat) => ⟨[(1, .optr 0 0 0 0), (3, .optr 1 0 0 0), (5, .ref 2), (6, .val true (.int .i64 n))], [(0, some (.box false (cCase o))), (1, some (.box true (cC ⟨0, [], [], 0, 0, [], 0⟩))), (2, some (.sl 38 1 true (((o.d.take n).map smallR).map cD)))], 3⟩) (fun n => n ≤ o.d.length ∧ n ≤ 5) (fun n => 5 - n) 0 (by simp) (fun _ _ h => h) ?_)
  rintro n ⟨hn, hn2⟩ ih
  have fin : ¬ (n < o.d.length ∧ n < 5) → (o.d.take n).map smallR = D := by
    intro h
    rw [hld]
    by_cases h1 : n = 5
    · rw [h1]
    · have : n = o.d.length := by omega
      subst this
      rw [List.take_of_length_le (Nat.le_refl _), List.take_of_length_le (by omega)]
  repeat' first | refine T.seq ?_ | refine T.block ?_ | refine T.r ?_ | refine J.e rfl rfl rfl rfl ?_ | refine J.nil ?_ | refine J.skip rfl rfl rfl ?_ | refine T.skip ?_ | refine T.exit ?_ | refine T.ret ?_ | refine T.rd rfl (by kernel_rfl) ?_ | refine J.bx rfl rfl rfl rfl rfl rfl ?_
  refine J.g rfl rfl rfl (fun h1 => ?_) (fun h1 => ?_)
  · have h1 : n < o.d.length := by simpa using h1
    have hxl := hd2 o.d[n] (by simp)
    repeat' first | refine T.seq ?_ | refine T.block ?_ | refine T.r ?_ | refine J.e rfl rfl rfl rfl ?_ | refine J.nil ?_ | refine J.skip rfl rfl rfl ?_ | refine T.skip ?_ | refine T.exit ?_ | refine T.ret ?_ | refine T.rd rfl (by kernel_rfl) ?_ | refine J.bx rfl rfl rfl rfl rfl rfl ?_
    refine T.cd rfl (fun h2 => ?_) (fun h2 => ?_)
    · have h2 : n < 5 := by omega
      repeat' first | refine T.seq ?_ | refine T.block ?_ | refine T.r ?_ | refine J.e rfl rfl rfl rfl ?_ | refine J.nil ?_ | refine J.skip rfl rfl rfl ?_ | refine T.skip ?_ | refine T.exit ?_ | refine T.ret ?_ | refine T.rd rfl (by kernel_rfl) ?_ | refine J.bx rfl rfl rfl rfl rfl rfl ?_
      refine J.i rfl rfl rfl rfl rfl rfl rfl rfl rfl (r := cL o.d[n]) (by omega) (row_i h1) rfl ?_
      repeat' first | refine T.seq ?_ | refine T.block ?_ | refine T.r ?_ | refine J.e rfl rfl rfl rfl ?_ | refine J.nil ?_ | refine J.skip rfl rfl rfl ?_ | refine T.skip ?_ | refine T.exit ?_ | refine T.ret ?_ | refine T.rd rfl (by kernel_rfl) ?_ | refine J.bx rfl rfl rfl rfl rfl rfl ?_
      refine J.cc rfl rfl rfl rfl rfl (small_spec o.d[n] hxl).frz rfl rfl ?_
      refine J.bv rfl rfl rfl rfl rfl rfl rfl rfl rfl rfl rfl rfl ?_
      refine J.aD rfl rfl rfl rfl rfl rfl rfl rfl rfl rfl rfl rfl rfl rfl rfl rfl rfl rfl rfl (by simp; omega) ?_
      repeat' first | refine T.seq ?_ | refine T.block ?_ | refine T.r ?_ | refine J.e rfl rfl rfl rfl ?_ | refine J.nil ?_ | refine J.skip rfl rfl rfl ?_ | refine T.skip ?_ | refine T.exit ?_ | refine T.ret ?_ | refine T.rd rfl (by kernel_rfl) ?_ | refine J.bx rfl rfl rfl rfl rfl rfl ?_
      rw [wrap1 h1 (by omega)]
      refine T.canon (keep := [1, 3, 5, 6]) (os := [1, 3, 5]) rfl ?_
      have := ih (n + 1) ⟨by omega, by omega⟩ (by omega)
      rw [List.take_succ_eq_append_getElem h1, List.map_append] at this
      exact this
    · have h2 : ¬ n < 5 := by omega
      rw [fin (by omega)]
      repeat' first | refine T.seq ?_ | refine T.block ?_ | refine T.r ?_ | refine J.e rfl rfl rfl rfl ?_ | refine J.nil ?_ | refine J.skip rfl rfl rfl ?_ | refine T.skip ?_ | refine T.exit ?_ | refine T.ret ?_ | refine T.rd rfl (by kernel_rfl) ?_ | refine J.bx rfl rfl rfl rfl rfl rfl ?_
      refine J.cc rfl rfl rfl rfl rfl (own_spec o.c hc) rfl rfl ?_
      repeat' first | refine T.seq ?_ | refine T.block ?_ | refine T.r ?_ | refine J.e rfl rfl rfl rfl ?_ | refine J.nil ?_ | refine J.skip rfl rfl rfl ?_ | refine T.skip ?_ | refine T.exit ?_ | refine T.ret ?_ | refine T.rd rfl (by kernel_rfl) ?_ | refine J.bx rfl rfl rfl rfl rfl rfl ?_
      refine J.al rfl rfl rfl rfl rfl rfl rfl ?_
      refine J.w rfl rfl rfl rfl rfl rfl rfl rfl rfl rfl ?_
      repeat' first | refine T.seq ?_ | refine T.block ?_ | refine T.r ?_ | refine J.e rfl rfl rfl rfl ?_ | refine J.nil ?_ | refine J.skip rfl rfl rfl ?_ | refine T.skip ?_ | refine T.exit ?_ | refine T.ret ?_ | refine T.rd rfl (by kernel_rfl) ?_ | refine J.bx rfl rfl rfl rfl rfl rfl ?_
      refine J.w rfl rfl rfl rfl rfl rfl rfl rfl rfl rfl ?_
      repeat' first | refine T.seq ?_ | refine T.block ?_ | refine T.r ?_ | refine J.e rfl rfl rfl rfl ?_ | refine J.nil ?_ | refine J.skip rfl rfl rfl ?_ | refine T.skip ?_ | refine T.exit ?_ | refine T.ret ?_ | refine J.bx rfl rfl rfl rfl rfl rfl ?_
      refine T.canon (keep := [3, 5, 7]) (os := [3, 5, 7]) rfl (?_ : T _ _ ⟨[(3, .optr 0 0 0 0), (5, .ref 1), (7, .optr 2 0 0 0)], [(0, some (.box true (cC ⟨0, [], [], 0, 0, [], 0⟩))), (1, some (.sl 38 1 true (D.map cD))), (2, some (.box false (cC (laidSC o))))], 3⟩ _)
      refine T.rdw 9 rfl (by kernel_rfl) rfl ?_
      repeat' first | refine T.seq ?_ | refine T.block ?_ | refine T.r ?_ | refine J.e rfl rfl rfl rfl ?_ | refine J.nil ?_ | refine J.skip rfl rfl rfl ?_ | refine T.skip ?_ | refine T.exit ?_ | refine T.ret ?_ | refine T.rd rfl (by kernel_rfl) ?_ | refine J.bx rfl rfl rfl rfl rfl rfl ?_
      refine J.cc rfl rfl rfl rfl rfl hcon rfl rfl ?_
      repeat' first | refine T.seq ?_ | refine T.block ?_ | refine T.r ?_ | refine J.e rfl rfl rfl rfl ?_ | refine J.nil ?_ | refine J.skip rfl rfl rfl ?_ | refine T.skip ?_ | refine T.exit ?_ | refine T.ret ?_ | refine T.rd rfl (by kernel_rfl) ?_ | refine J.bx rfl rfl rfl rfl rfl rfl ?_
      refine J.wd rfl rfl rfl rfl rfl rfl rfl rfl rfl rfl ?_
      repeat' first | refine T.seq ?_ | refine T.block ?_ | refine T.r ?_ | refine J.e rfl rfl rfl rfl ?_ | refine J.nil ?_ | refine J.skip rfl rfl rfl ?_ | refine T.skip ?_ | refine T.exit ?_ | refine T.ret ?_ | refine T.rd rfl (by kernel_rfl) ?_ | refine J.bx rfl rfl rfl rfl rfl rfl ?_
      refine ⟨rfl, ?_⟩
      repeat' first | refine T.seq ?_ | refine T.block ?_ | refine T.r ?_ | refine J.e rfl rfl rfl rfl ?_ | refine J.nil ?_ | refine J.skip rfl rfl rfl ?_ | refine T.skip ?_ | refine T.exit ?_ | refine T.ret ?_ | refine T.rd rfl (by kernel_rfl) ?_ | refine J.bx rfl rfl rfl rfl rfl rfl ?_
      exact ⟨_, .o rfl rfl rfl (fun h => by cases h) (by simp) (.c rfl rfl rfl rfl (fun h => by cases h) (.v rfl rfl (by rw [hok]) (fun h => by cases h) .nil))⟩
  · have h1 : ¬ n < o.d.length := by simpa using h1
    repeat' first | refine T.seq ?_ | refine T.block ?_ | refine T.r ?_ | refine J.e rfl rfl rfl rfl ?_ | refine J.nil ?_ | refine J.skip rfl rfl rfl ?_ | refine T.skip ?_ | refine T.exit ?_ | refine T.ret ?_ | refine T.rd rfl (by kernel_rfl) ?_ | refine J.bx rfl rfl rfl rfl rfl rfl ?_
    refine T.cf rfl ?_
    rw [fin (by omega)]
    repeat' first | refine T.seq ?_ | refine T.block ?_ | refine T.r ?_ | refine J.e rfl rfl rfl rfl ?_ | refine J.nil ?_ | refine J.skip rfl rfl rfl ?_ | refine T.skip ?_ | refine T.exit ?_ | refine T.ret ?_ | refine T.rd rfl (by kernel_rfl) ?_ | refine J.bx rfl rfl rfl rfl rfl rfl ?_
    refine J.cc rfl rfl rfl rfl rfl (own_spec o.c hc) rfl rfl ?_
    repeat' first | refine T.seq ?_ | refine T.block ?_ | refine T.r ?_ | refine J.e rfl rfl rfl rfl ?_ | refine J.nil ?_ | refine J.skip rfl rfl rfl ?_ | refine T.skip ?_ | refine T.exit ?_ | refine T.ret ?_ | refine T.rd rfl (by kernel_rfl) ?_ | refine J.bx rfl rfl rfl rfl rfl rfl ?_
    refine J.al rfl rfl rfl rfl rfl rfl rfl ?_
    refine J.w rfl rfl rfl rfl rfl rfl rfl rfl rfl rfl ?_
    repeat' first | refine T.seq ?_ | refine T.block ?_ | refine T.r ?_ | refine J.e rfl rfl rfl rfl ?_ | refine J.nil ?_ | refine J.skip rfl rfl rfl ?_ | refine T.skip ?_ | refine T.exit ?_ | refine T.ret ?_ | refine T.rd rfl (by kernel_rfl) ?_ | refine J.bx rfl rfl rfl rfl rfl rfl ?_
    refine J.w rfl rfl rfl rfl rfl rfl rfl rfl rfl rfl ?_
    repeat' first | refine T.seq ?_ | refine T.block ?_ | refine T.r ?_ | refine J.e rfl rfl rfl rfl ?_ | refine J.nil ?_ | refine J.skip rfl rfl rfl ?_ | refine T.skip ?_ | refine T.exit ?_ | refine T.ret ?_ | refine J.bx rfl rfl rfl rfl rfl rfl ?_
    refine T.canon (keep := [3, 5, 7]) (os := [3, 5, 7]) rfl (?_ : T _ _ ⟨[(3, .optr 0 0 0 0), (5, .ref 1), (7, .optr 2 0 0 0)], [(0, some (.box true (cC ⟨0, [], [], 0, 0, [], 0⟩))), (1, some (.sl 38 1 true (D.map cD))), (2, some (.box false (cC (laidSC o))))], 3⟩ _)
    refine T.rdw 9 rfl (by kernel_rfl) rfl ?_
    repeat' first | refine T.seq ?_ | refine T.block ?_ | refine T.r ?_ | refine J.e rfl rfl rfl rfl ?_ | refine J.nil ?_ | refine J.skip rfl rfl rfl ?_ | refine T.skip ?_ | refine T.exit ?_ | refine T.ret ?_ | refine T.rd rfl (by kernel_rfl) ?_ | refine J.bx rfl rfl rfl rfl rfl rfl ?_
    refine J.cc rfl rfl rfl rfl rfl hcon rfl rfl ?_
    repeat' first | refine T.seq ?_ | refine T.block ?_ | refine T.r ?_ | refine J.e rfl rfl rfl rfl ?_ | refine J.nil ?_ | refine J.skip rfl rfl rfl ?_ | refine T.skip ?_ | refine T.exit ?_ | refine T.ret ?_ | refine T.rd rfl (by kernel_rfl) ?_ | refine J.bx rfl rfl rfl rfl rfl rfl ?_
    refine J.wd rfl rfl rfl rfl rfl rfl rfl rfl rfl rfl ?_
    repeat' first | refine T.seq ?_ | refine T.block ?_ | refine T.r ?_ | refine J.e rfl rfl rfl rfl ?_ | refine J.nil ?_ | refine J.skip rfl rfl rfl ?_ | refine T.skip ?_ | refine T.exit ?_ | refine T.ret ?_ | refine T.rd rfl (by kernel_rfl) ?_ | refine J.bx rfl rfl rfl rfl rfl rfl ?_
    refine ⟨rfl, ?_⟩
    repeat' first | refine T.seq ?_ | refine T.block ?_ | refine T.r ?_ | refine J.e rfl rfl rfl rfl ?_ | refine J.nil ?_ | refine J.skip rfl rfl rfl ?_ | refine T.skip ?_ | refine T.exit ?_ | refine T.ret ?_ | refine T.rd rfl (by kernel_rfl) ?_ | refine J.bx rfl rfl rfl rfl rfl rfl ?_
    exact ⟨_, .o rfl rfl rfl (fun h => by cases h) (by simp) (.c rfl rfl rfl rfl (fun h => by cases h) (.v rfl rfl (by rw [hok]) (fun h => by cases h) .nil))⟩

def pickP (d : Doms) (a : List Int) : List Int := (List.range (d.takeWhile fun x => !(vals x).isEmpty).length).map (pickAt d a)
theorem pickP_at {d : Doms} {a : List Int} {i : Nat} (h : i < d.length) (he : emptyV (d.take i) = false) (hx : (vals d[i]).isEmpty = true) : pickP d a = (List.range i).map (pickAt d a) := by
  have e : (d.takeWhile fun x => !(vals x).isEmpty) = d.take i := by
    have hd : d = d.take i ++ d[i] :: d.drop (i + 1) := by rw [← List.drop_eq_getElem_cons h, List.take_append_drop]
    have hall : ∀ x ∈ d.take i, (!(vals x).isEmpty) = true := by
      intro x hm
      cases h2 : (vals x).isEmpty with
      | false => rfl
      | true => rw [show emptyV (d.take i) = true from List.any_eq_true.2 ⟨x, hm, h2⟩] at he; cases he
    conv => lhs; rw [hd]
    rw [List.takeWhile_append_of_pos hall, List.takeWhile_cons, if_neg (by simp [hx]), List.append_nil]
  unfold pickP
  rw [e, List.length_take, Nat.min_eq_left (by omega)]
theorem pickP_all {d : Doms} {a : List Int} (he : emptyV d = false) : pickP d a = pickL d a := by
  have e : (d.takeWhile fun x => !(vals x).isEmpty) = d := by
    have hall : ∀ x ∈ d, (!(vals x).isEmpty) = true := by
      intro x hm
      cases h2 : (vals x).isEmpty with
      | false => rfl
      | true => rw [show emptyV d = true from List.any_eq_true.2 ⟨x, hm, h2⟩] at he; cases he
    have := List.takeWhile_append_of_pos (l₂ := []) hall
    simpa using this
  unfold pickP pickL
  rw [e]
theorem spick_spec (d : Doms) (a : List Int) (hd : ∀ x ∈ d, DomB x) (hl : d.length * 24 ≤ 140737488355328) (ha : a.length * 8 ≤ 140737488355328) :
    Spec Try.prog 26 false [doms d, ints a] [.own 3 1 ((pickP d a).map cI), .val (.bool (!emptyV d))] := by
  refine Spec.body Try.func26 rfl rfl rfl fun w0 Z0 => ?_
  repeat' first | refine T.seq ?_ | refine T.block ?_ | refine T.r ?_ | refine J.e rfl rfl rfl rfl ?_ | refine J.nil ?_ | refine J.skip rfl rfl rfl ?_ | refine T.skip ?_ | refine T.exit ?_ | refine T.ret ?_ | refine T.rd rfl (by kernel_rfl) ?_ | refine J.bx rfl rfl rfl rfl rfl rfl ?_
  refine J.bo rfl rfl rfl rfl rfl rfl rfl rfl rfl rfl rfl rfl ?_
  repeat' first | refine T.seq ?_ | refine T.block ?_ | refine T.r ?_ | refine J.e rfl rfl rfl rfl ?_ | refine J.nil ?_ | refine J.skip rfl rfl rfl ?_ | refine T.skip ?_ | refine T.exit ?_ | refine T.ret ?_ | refine T.rd rfl (by kernel_rfl) ?_ | refine J.bx rfl rfl rfl rfl rfl rfl ?_
  refine T.canon (keep := [0, 1, 4, 5, 6, 7]) (os := [6]) rfl (T.ind (fun i : Nat => ⟨[(0, .val false (doms d)), (1, .val false (ints a)), (4, .nilsl), (5, .val true (.bool false)), (6, .ref 0), (7, .val true (.int .i64 i))], [(0, some (.sl 3 1 true (((List.range i).map (pickAt d a)).map cI)))], 1⟩) (fun i => i ≤ d.length ∧ emptyV (d.take i) = false) (fun i => d.length - i) 0 (by simp [emptyV]) (fun _ _ h => h) ?_)
  rintro i ⟨hi, he⟩ ih
  repeat' first | refine T.seq ?_ | refine T.block ?_ | refine T.r ?_ | refine J.e rfl rfl rfl rfl ?_ | refine J.nil ?_ | refine J.skip rfl rfl rfl ?_ | refine T.skip ?_ | refine T.exit ?_ | refine T.ret ?_ | refine T.rd rfl (by kernel_rfl) ?_ | refine J.bx rfl rfl rfl rfl rfl rfl ?_
  refine T.cd rfl (fun h1 => ?_) (fun h1 => ?_)
  · have h1 : i < d.length := by simpa using h1
    have hx := hd d[i] (List.getElem_mem h1)
    repeat' first | refine T.seq ?_ | refine T.block ?_ | refine T.r ?_ | refine J.e rfl rfl rfl rfl ?_ | refine J.nil ?_ | refine J.skip rfl rfl rfl ?_ | refine T.skip ?_ | refine T.exit ?_ | refine T.ret ?_ | refine T.rd rfl (by kernel_rfl) ?_ | refine J.bx rfl rfl rfl rfl rfl rfl ?_
    refine J.i rfl rfl rfl rfl rfl rfl rfl rfl rfl (r := cD d[i]) (by omega) (row_i h1) rfl ?_
    repeat' first | refine T.seq ?_ | refine T.block ?_ | refine T.r ?_ | refine J.e rfl rfl rfl rfl ?_ | refine J.nil ?_ | refine J.skip rfl rfl rfl ?_ | refine T.skip ?_ | refine T.exit ?_ | refine T.ret ?_ | refine T.rd rfl (by kernel_rfl) ?_ | refine J.bx rfl rfl rfl rfl rfl rfl ?_
    refine J.cc rfl rfl rfl rfl rfl (values_spec d[i] hx.1 (by have := hx.2.1; omega) hx.2.2) rfl rfl ?_
    repeat' first | refine T.seq ?_ | refine T.block ?_ | refine T.r ?_ | refine J.e rfl rfl rfl rfl ?_ | refine J.nil ?_ | refine J.skip rfl rfl rfl ?_ | refine T.skip ?_ | refine T.exit ?_ | refine T.ret ?_ | refine T.rd rfl (by kernel_rfl) ?_ | refine J.bx rfl rfl rfl rfl rfl rfl ?_
    refine T.cd rfl (fun h2 => ?_) (fun h2 => ?_)
    · have hev : emptyV d = true := by
        refine List.any_eq_true.2 ⟨d[i], List.getElem_mem h1, ?_⟩
        simp at h2
        simp [h2]
      have hpp : pickP d a = (List.range i).map (pickAt d a) := pickP_at h1 he (by simp at h2; simp [h2])
      repeat' first | refine T.seq ?_ | refine T.block ?_ | refine T.r ?_ | refine J.e rfl rfl rfl rfl ?_ | refine J.nil ?_ | refine J.skip rfl rfl rfl ?_ | refine T.skip ?_ | refine T.exit ?_ | refine T.ret ?_ | refine T.rd rfl (by kernel_rfl) ?_ | refine J.bx rfl rfl rfl rfl rfl rfl ?_
      exact ⟨_, .o rfl rfl (by rw [hpp]) (fun _ => .inl rfl) (by simp) (.v rfl rfl (by rw [hev]; rfl) (fun _ => rfl) .nil)⟩
    · have hne : 0 < (vals d[i]).length := by
        have h2 : ¬ (((vals d[i]).map cI).length : Int) = 0 := h2
        simp only [List.length_map] at h2; omega
      have hgd : d.getD i [] = d[i] := by simp [List.getD_eq_getElem?_getD, List.getElem?_eq_getElem h1]
      have he' : emptyV (d.take (i + 1)) = false := by
        simp only [emptyV] at he ⊢
        rw [List.take_succ_eq_append_getElem h1, List.any_append, he]
        cases hv : vals d[i] with
        | nil => rw [hv] at hne; simp at hne
        | cons x l => simp [hv]
      have hn := pickN_pos a i
      obtain ⟨hm1, hm2⟩ := tmod_in hn hne
      have key : ∀ n : Int, n = pickN a i → (vals d[i])[(n.tmod (vals d[i]).length).toNat]? = some (pickAt d a i) := by
        rintro n rfl
        unfold pickAt
        rw [hgd, List.getD_eq_getElem?_getD, List.getElem?_eq_getElem hm2]; rfl
      have e : (List.range i).map (pickAt d a) ++ [pickAt d a i] = (List.range (i + 1)).map (pickAt d a) := by simp [List.range_succ]
      refine T.skip ?_
      refine T.seq ?_
      refine T.r ?_
      repeat' first | refine J.e rfl rfl rfl rfl ?_ | refine J.skip rfl rfl rfl ?_ | refine J.bx rfl rfl rfl rfl rfl rfl ?_
      refine J.nil ?_
      refine T.mid ⟨[(0, .val false (doms d)), (1, .val false (ints a)), (4, .nilsl), (5, .val true (.bool false)), (6, .ref 0), (7, .val true (.int .i64 i)), (8, .ref 1), (9, .val true (.int .i64 (pickN a i)))], [(0, some (.sl 3 1 true (((List.range i).map (pickAt d a)).map cI))), (1, some (.sl 3 1 true ((vals d[i]).map cI)))], 2⟩ ?_ ?_
      · repeat' first | refine T.seq ?_ | refine T.block ?_ | refine T.r ?_ | refine J.e rfl rfl rfl rfl ?_ | refine J.nil ?_ | refine J.skip rfl rfl rfl ?_ | refine T.skip ?_ | refine T.exit ?_ | refine T.ret ?_ | refine T.rd rfl (by kernel_rfl) ?_ | refine J.bx rfl rfl rfl rfl rfl rfl ?_
        refine T.cd rfl (fun h3 => ?_) (fun h3 => ?_)
        · have h3 : i < a.length := by simpa using h3
          have hpn : pickN a i = andN a[i] := by
            unfold pickN
            rw [if_pos h3, List.getD_eq_getElem?_getD, List.getElem?_eq_getElem h3]; rfl
          rw [hpn]
          repeat' first | refine T.seq ?_ | refine T.block ?_ | refine T.r ?_ | refine J.e rfl rfl rfl rfl ?_ | refine J.nil ?_ | refine J.skip rfl rfl rfl ?_ | refine T.skip ?_ | refine T.exit ?_ | refine T.ret ?_ | refine T.rd rfl (by kernel_rfl) ?_ | refine J.bx rfl rfl rfl rfl rfl rfl ?_
          refine J.i rfl rfl rfl rfl rfl rfl rfl rfl rfl (r := cI a[i]) (by omega) (row_i h3) rfl ?_
          repeat' first | refine T.seq ?_ | refine T.block ?_ | refine T.r ?_ | refine J.e rfl rfl rfl rfl ?_ | refine J.nil ?_ | refine J.skip rfl rfl rfl ?_ | refine T.skip ?_ | refine T.exit ?_ | refine T.ret ?_ | refine T.rd rfl (by kernel_rfl) ?_ | refine J.bx rfl rfl rfl rfl rfl rfl ?_
          exact ⟨rfl, [0, 1, 4, 5, 6, 7, 8, 9], [6, 8], rfl, rfl⟩
        · have hpn : pickN a i = i := by
            unfold pickN
            rw [if_neg (by simpa using h3)]
          rw [hpn]
          repeat' first | refine T.seq ?_ | refine T.block ?_ | refine T.r ?_ | refine J.e rfl rfl rfl rfl ?_ | refine J.nil ?_ | refine J.skip rfl rfl rfl ?_ | refine T.skip ?_ | refine T.exit ?_ | refine T.ret ?_ | refine T.rd rfl (by kernel_rfl) ?_ | refine J.bx rfl rfl rfl rfl rfl rfl ?_
          exact ⟨rfl, [0, 1, 4, 5, 6, 7, 8, 9], [6, 8], rfl, rfl⟩
      · repeat' first | refine T.seq ?_ | refine T.block ?_ | refine T.r ?_ | refine J.e rfl rfl rfl rfl ?_ | refine J.nil ?_ | refine J.skip rfl rfl rfl ?_ | refine T.skip ?_ | refine T.exit ?_ | refine T.ret ?_ | refine T.rd rfl (by kernel_rfl) ?_ | refine J.bx rfl rfl rfl rfl rfl rfl ?_
        refine J.rm rfl rfl rfl rfl rfl rfl (fun h => by simp only [List.length_map] at h; omega) ?_
        rw [List.length_map]
        refine J.io rfl rfl rfl rfl rfl rfl rfl rfl rfl hm1 (by simpa using hm2) rfl ?_
        refine J.lo rfl rfl rfl rfl rfl rfl (r := cI (pickAt d a i)) (by rw [List.getElem?_map, key _ rfl]; rfl) rfl ?_
        repeat' first | refine T.seq ?_ | refine T.block ?_ | refine T.r ?_ | refine J.e rfl rfl rfl rfl ?_ | refine J.nil ?_ | refine J.skip rfl rfl rfl ?_ | refine T.skip ?_ | refine T.exit ?_ | refine T.ret ?_ | refine T.rd rfl (by kernel_rfl) ?_ | refine J.bx rfl rfl rfl rfl rfl rfl ?_
        refine J.bv rfl rfl rfl rfl rfl rfl rfl rfl rfl rfl rfl rfl ?_
        refine J.aI rfl rfl rfl rfl rfl rfl rfl rfl rfl rfl rfl rfl rfl rfl rfl rfl rfl rfl rfl (by simp; omega) ?_
        repeat' first | refine T.seq ?_ | refine T.block ?_ | refine T.r ?_ | refine J.e rfl rfl rfl rfl ?_ | refine J.nil ?_ | refine J.skip rfl rfl rfl ?_ | refine T.skip ?_ | refine T.exit ?_ | refine T.ret ?_ | refine T.rd rfl (by kernel_rfl) ?_ | refine J.bx rfl rfl rfl rfl rfl rfl ?_
        rw [wrap1 (l := d.length) (by omega) (by omega), e]
        exact T.canon (keep := [0, 1, 4, 5, 6, 7]) (os := [6]) rfl (ih (i + 1) ⟨by omega, he'⟩ (by omega))
  · have h1 : i = d.length := by simp at h1; omega
    subst h1
    rw [List.take_length] at he
    repeat' first | refine T.seq ?_ | refine T.block ?_ | refine T.r ?_ | refine J.e rfl rfl rfl rfl ?_ | refine J.nil ?_ | refine J.skip rfl rfl rfl ?_ | refine T.skip ?_ | refine T.exit ?_ | refine T.ret ?_ | refine T.rd rfl (by kernel_rfl) ?_ | refine J.bx rfl rfl rfl rfl rfl rfl ?_
    exact ⟨_, .o rfl rfl (by rw [pickP_all he]; rfl) (fun _ => .inl rfl) (by simp) (.v rfl rfl (by rw [he]; rfl) (fun _ => rfl) .nil)⟩

def cSum (coefs : List Int) (op rhs : Int) : Con := ⟨0, [0, 1], coefs, op, rhs, [], 0⟩
theorem twice_spec : Spec Try.prog 44 false [] [.val (doms [[(0, 5)], [(0, 5)]]), .val (.agg (cC (cSum [2, 1] 0 4)))] := by
  refine Spec.body Try.func44 rfl rfl rfl fun w0 Z0 => ?_
  repeat' first | refine T.seq ?_ | refine T.block ?_ | refine T.r ?_ | refine J.e rfl rfl rfl rfl ?_ | refine J.nil ?_ | refine J.skip rfl rfl rfl ?_ | refine T.skip ?_ | refine T.exit ?_ | refine T.ret ?_ | refine T.rd rfl (by kernel_rfl) ?_ | refine J.bx rfl rfl rfl rfl rfl rfl ?_
  refine J.al rfl rfl rfl rfl rfl rfl rfl ?_
  repeat' first | refine T.seq ?_ | refine T.block ?_ | refine T.r ?_ | refine J.e rfl rfl rfl rfl ?_ | refine J.nil ?_ | refine J.skip rfl rfl rfl ?_ | refine T.skip ?_ | refine T.exit ?_ | refine T.ret ?_ | refine T.rd rfl (by kernel_rfl) ?_ | refine J.bx rfl rfl rfl rfl rfl rfl ?_
  refine J.bv rfl rfl rfl rfl rfl rfl rfl rfl rfl rfl rfl rfl ?_
  repeat' first | refine T.seq ?_ | refine T.block ?_ | refine T.r ?_ | refine J.e rfl rfl rfl rfl ?_ | refine J.nil ?_ | refine J.skip rfl rfl rfl ?_ | refine T.skip ?_ | refine T.exit ?_ | refine T.ret ?_ | refine T.rd rfl (by kernel_rfl) ?_ | refine J.bx rfl rfl rfl rfl rfl rfl ?_
  refine J.bv rfl rfl rfl rfl rfl rfl rfl rfl rfl rfl rfl rfl ?_
  refine J.bv rfl rfl rfl rfl rfl rfl rfl rfl rfl rfl rfl rfl ?_
  refine J.bv rfl rfl rfl rfl rfl rfl rfl rfl rfl rfl rfl rfl ?_
  repeat' first | refine T.seq ?_ | refine T.block ?_ | refine T.r ?_ | refine J.e rfl rfl rfl rfl ?_ | refine J.nil ?_ | refine J.skip rfl rfl rfl ?_ | refine T.skip ?_ | refine T.exit ?_ | refine T.ret ?_ | refine T.rd rfl (by kernel_rfl) ?_ | refine J.bx rfl rfl rfl rfl rfl rfl ?_
  refine J.w rfl rfl rfl rfl rfl rfl rfl rfl rfl rfl ?_
  repeat' first | refine T.seq ?_ | refine T.block ?_ | refine T.r ?_ | refine J.e rfl rfl rfl rfl ?_ | refine J.nil ?_ | refine J.skip rfl rfl rfl ?_ | refine T.skip ?_ | refine T.exit ?_ | refine T.ret ?_ | refine T.rd rfl (by kernel_rfl) ?_ | refine J.bx rfl rfl rfl rfl rfl rfl ?_
  exact ⟨_, .v rfl rfl rfl (fun _ => rfl) (.c rfl rfl rfl rfl (fun _ => rfl) .nil)⟩
theorem fine_one (lo hi : Int) (h1 : lo ≤ hi) (h2 : -1048576 ≤ lo) (h3 : hi ≤ 1048576) : Fine [(lo, hi)] := by
  have hm : ∀ v ∈ vals [(lo, hi)], lo ≤ v ∧ v ≤ hi := by
    intro v hv
    obtain ⟨r, hr, h4, h5⟩ := mem_vals.1 hv
    simp only [List.mem_singleton] at hr
    subst hr
    exact ⟨h4, h5⟩
  refine ⟨⟨by simpa using h1, by simp⟩, fun v hv => by have := hm v hv; omega, ?_⟩
  have : (vals [(lo, hi)]).length = (hi + 1 - lo).toNat := by simp [vals, rng]
  omega
theorem two_sum (lo hi : Int) (coefs : List Int) (op rhs : Int) (h1 : lo ≤ hi) (h2 : -1048576 ≤ lo) (h3 : hi ≤ 1048576) (hl : coefs.length = 2) (hk : ∀ k ∈ coefs, CoefOk k) : SumFine [[(lo, hi)], [(lo, hi)]] (cSum coefs op rhs).vars (cSum coefs op rhs).coefs :=
  ⟨by simp [cSum, hl], by simp [cSum], by simp [cSum], hk, fun x hx => by simp at hx; subst hx; exact fine_one lo hi h1 h2 h3, by simp⟩
theorem fa1 : iter (stepL (cSum [2, 1] 0 4)) 3 [[(0, 5)], [(0, 5)]] = some (some [[(0, 2)], [(0, 4)]]) := by decide +kernel
theorem fa2 : iter (stepL (cSum [2, 1] 0 (-1))) 3 [[(0, 5)], [(0, 5)]] = some none := by decide +kernel
theorem fa3 : iter (stepL (cSum [3, -2] 1 0)) 5 [[(1, 5)], [(1, 5)]] = some (some [[(2, 2)], [(3, 3)]]) := by decide +kernel
theorem fa4 : endsW [[(0, 5)], [(0, 5)]] [0, 1] [2, 1] = (0, 15, true) := by decide +kernel
theorem fa5 : soW (endsW [[(0, 5)], [(0, 5)]] (cSum [2, 1] 0 15).vars (cSum [2, 1] 0 15).coefs) (cSum [2, 1] 0 15) = true := by decide +kernel
theorem fa6 : soW (endsW [[(0, 5)], [(0, 5)]] (cSum [2, 1] 0 (-1)).vars (cSum [2, 1] 0 (-1)).coefs) (cSum [2, 1] 0 (-1)) = false := by decide +kernel
theorem fa7 : soW (endsW [[(0, 5)], [(0, 5)]] (notW (cSum [2, 1] 0 (-1))).vars (notW (cSum [2, 1] 0 (-1))).coefs) (notW (cSum [2, 1] 0 (-1))) = true := by decide +kernel
theorem fa8 : notW (cSum [2, 1] 0 4) = cSum [-2, -1] 0 (-5) := by
  unfold notW cSum turnedW
  simp only [if_true, List.map_cons, List.map_nil]
  have e1 : wr (0 - 2) = -2 := by decide +kernel
  have e2 : wr (0 - 1) = -1 := by decide +kernel
  have e3 : wr (wr (0 - 4) - 1) = -5 := by decide +kernel
  rw [e1, e2, e3]
theorem coefs21 : ∀ k ∈ [(2 : Int), 1], CoefOk k := by intro k hk; simp at hk; rcases hk with rfl | rfl <;> exact ⟨by decide, by decide⟩
theorem coefs32 : ∀ k ∈ [(3 : Int), -2], CoefOk k := by intro k hk; simp at hk; rcases hk with rfl | rfl <;> exact ⟨by decide, by decide⟩
theorem conB_sum (coefs : List Int) (op rhs : Int) (hl : coefs.length = 2) : ConB (cSum coefs op rhs) := ⟨by simp [cSum], by simp [cSum, hl], by simp [cSum], by simp [cSum]⟩
theorem lfixed_spec : Spec Try.prog 14 false [] [.val (.bool true)] := by
  refine Spec.body Try.func14 rfl rfl rfl fun w0 Z0 => ?_
  have hs : ∀ (lo hi : Int), ∀ x ∈ [[(lo, hi)], [(lo, hi)]], x.length * 64 + 1048576 ≤ 140737488355328 := by intro lo hi x hx; simp at hx; subst hx; simp
  have p1 : Spec Try.prog 16 false [doms [[(0, 5)], [(0, 5)]], .agg (cC (cSum [2, 1] 0 4))] [.val (doms [[(0, 2)], [(0, 4)]]), .val (.bool true)] := (lprune_spec _ (cSum [2, 1] 0 4) (two_sum 0 5 [2, 1] 0 4 (by decide) (by decide) (by decide) rfl coefs21) (hs 0 5) (some [[(0, 2)], [(0, 4)]]) 3 (by unfold LinAns; rw [if_neg (by decide), if_neg (by decide)]; exact fa1)).frz
  have p2 : Spec Try.prog 16 false [doms [[(0, 5)], [(0, 5)]], .agg (cC (cSum [2, 1] 0 (-1)))] [.val (doms []), .val (.bool false)] := (lprune_spec _ (cSum [2, 1] 0 (-1)) (two_sum 0 5 [2, 1] 0 (-1) (by decide) (by decide) (by decide) rfl coefs21) (hs 0 5) none 3 (by unfold LinAns; rw [if_neg (by decide), if_neg (by decide)]; exact fa2)).frz
  have p3 : Spec Try.prog 16 false [doms [[(1, 5)], [(1, 5)]], .agg (cC (cSum [3, -2] 1 0))] [.val (doms [[(2, 2)], [(3, 3)]]), .val (.bool true)] := (lprune_spec _ (cSum [3, -2] 1 0) (two_sum 1 5 [3, -2] 1 0 (by decide) (by decide) (by decide) rfl coefs32) (hs 1 5) (some [[(2, 2)], [(3, 3)]]) 5 (by unfold LinAns; rw [if_neg (by decide), if_neg (by decide)]; exact fa3)).frz
  have p4 := lends_spec [[(0, 5)], [(0, 5)]] [0, 1] [2, 1] (two_sum 0 5 [2, 1] 0 4 (by decide) (by decide) (by decide) rfl coefs21).in_
  rw [fa4] at p4
  have p5 := lknown_spec [[(0, 5)], [(0, 5)]] (cSum [2, 1] 0 15) (conB_sum _ _ _ rfl) (two_sum 0 5 [2, 1] 0 15 (by decide) (by decide) (by decide) rfl coefs21).in_
  rw [fa5] at p5
  have p6 := lknown_spec [[(0, 5)], [(0, 5)]] (cSum [2, 1] 0 (-1)) (conB_sum _ _ _ rfl) (two_sum 0 5 [2, 1] 0 (-1) (by decide) (by decide) (by decide) rfl coefs21).in_
  rw [fa6, fa7] at p6
  have p7 := lnot_spec (cSum [2, 1] 0 4) (conB_sum _ _ _ rfl)
  rw [fa8] at p7
  have s1 := sames_spec [[(0, 2)], [(0, 4)]] [[(0, 2)], [(0, 4)]] (by decide) (by decide)
  have s2 := sames_spec [[(2, 2)], [(3, 3)]] [[(2, 2)], [(3, 3)]] (by decide) (by decide)
  have n1 := nums_spec [-2, -1] [-2, -1] (by decide)
  rw [decide_eq_true rfl] at s1 s2 n1
  repeat' first | refine T.seq ?_ | refine T.block ?_ | refine T.r ?_ | refine J.e rfl rfl rfl rfl ?_ | refine J.nil ?_ | refine J.skip rfl rfl rfl ?_ | refine T.skip ?_ | refine T.exit ?_ | refine T.ret ?_ | refine T.rd rfl (by kernel_rfl) ?_ | refine J.bx rfl rfl rfl rfl rfl rfl ?_
  refine J.cc rfl rfl rfl rfl rfl twice_spec rfl rfl ?_
  repeat' first | refine T.seq ?_ | refine T.block ?_ | refine T.r ?_ | refine J.e rfl rfl rfl rfl ?_ | refine J.nil ?_ | refine J.skip rfl rfl rfl ?_ | refine T.skip ?_ | refine T.exit ?_ | refine T.ret ?_ | refine T.rd rfl (by kernel_rfl) ?_ | refine J.bx rfl rfl rfl rfl rfl rfl ?_
  refine J.al rfl rfl rfl rfl rfl rfl rfl ?_
  repeat' first | refine T.seq ?_ | refine T.block ?_ | refine T.r ?_ | refine J.e rfl rfl rfl rfl ?_ | refine J.nil ?_ | refine J.skip rfl rfl rfl ?_ | refine T.skip ?_ | refine T.exit ?_ | refine T.ret ?_ | refine T.rd rfl (by kernel_rfl) ?_ | refine J.bx rfl rfl rfl rfl rfl rfl ?_
  refine J.w rfl rfl rfl rfl rfl rfl rfl rfl rfl rfl ?_
  repeat' first | refine T.seq ?_ | refine T.block ?_ | refine T.r ?_ | refine J.e rfl rfl rfl rfl ?_ | refine J.nil ?_ | refine J.skip rfl rfl rfl ?_ | refine T.skip ?_ | refine T.exit ?_ | refine T.ret ?_ | refine T.rd rfl (by kernel_rfl) ?_ | refine J.bx rfl rfl rfl rfl rfl rfl ?_
  refine J.cc rfl rfl rfl rfl rfl p1 rfl rfl ?_
  repeat' first | refine T.seq ?_ | refine T.block ?_ | refine T.r ?_ | refine J.e rfl rfl rfl rfl ?_ | refine J.nil ?_ | refine J.skip rfl rfl rfl ?_ | refine T.skip ?_ | refine T.exit ?_ | refine T.ret ?_ | refine T.rd rfl (by kernel_rfl) ?_ | refine J.bx rfl rfl rfl rfl rfl rfl ?_
  refine J.cc rfl rfl rfl rfl rfl p4 rfl rfl ?_
  repeat' first | refine T.seq ?_ | refine T.block ?_ | refine T.r ?_ | refine J.e rfl rfl rfl rfl ?_ | refine J.nil ?_ | refine J.skip rfl rfl rfl ?_ | refine T.skip ?_ | refine T.exit ?_ | refine T.ret ?_ | refine T.rd rfl (by kernel_rfl) ?_ | refine J.bx rfl rfl rfl rfl rfl rfl ?_
  refine J.al rfl rfl rfl rfl rfl rfl rfl ?_
  refine J.w rfl rfl rfl rfl rfl rfl rfl rfl rfl rfl ?_
  repeat' first | refine T.seq ?_ | refine T.block ?_ | refine T.r ?_ | refine J.e rfl rfl rfl rfl ?_ | refine J.nil ?_ | refine J.skip rfl rfl rfl ?_ | refine T.skip ?_ | refine T.exit ?_ | refine T.ret ?_ | refine T.rd rfl (by kernel_rfl) ?_ | refine J.bx rfl rfl rfl rfl rfl rfl ?_
  refine J.w rfl rfl rfl rfl rfl rfl rfl rfl rfl rfl ?_
  repeat' first | refine T.seq ?_ | refine T.block ?_ | refine T.r ?_ | refine J.e rfl rfl rfl rfl ?_ | refine J.nil ?_ | refine J.skip rfl rfl rfl ?_ | refine T.skip ?_ | refine T.exit ?_ | refine T.ret ?_ | refine T.rd rfl (by kernel_rfl) ?_ | refine J.bx rfl rfl rfl rfl rfl rfl ?_
  refine J.cc rfl rfl rfl rfl rfl p5 rfl rfl ?_
  repeat' first | refine T.seq ?_ | refine T.block ?_ | refine T.r ?_ | refine J.e rfl rfl rfl rfl ?_ | refine J.nil ?_ | refine J.skip rfl rfl rfl ?_ | refine T.skip ?_ | refine T.exit ?_ | refine T.ret ?_ | refine T.rd rfl (by kernel_rfl) ?_ | refine J.bx rfl rfl rfl rfl rfl rfl ?_
  refine J.w rfl rfl rfl rfl rfl rfl rfl rfl rfl rfl ?_
  repeat' first | refine T.seq ?_ | refine T.block ?_ | refine T.r ?_ | refine J.e rfl rfl rfl rfl ?_ | refine J.nil ?_ | refine J.skip rfl rfl rfl ?_ | refine T.skip ?_ | refine T.exit ?_ | refine T.ret ?_ | refine T.rd rfl (by kernel_rfl) ?_ | refine J.bx rfl rfl rfl rfl rfl rfl ?_
  refine J.cc rfl rfl rfl rfl rfl p6 rfl rfl ?_
  repeat' first | refine T.seq ?_ | refine T.block ?_ | refine T.r ?_ | refine J.e rfl rfl rfl rfl ?_ | refine J.nil ?_ | refine J.skip rfl rfl rfl ?_ | refine T.skip ?_ | refine T.exit ?_ | refine T.ret ?_ | refine T.rd rfl (by kernel_rfl) ?_ | refine J.bx rfl rfl rfl rfl rfl rfl ?_
  refine J.cc rfl rfl rfl rfl rfl p2 rfl rfl ?_
  repeat' first | refine T.seq ?_ | refine T.block ?_ | refine T.r ?_ | refine J.e rfl rfl rfl rfl ?_ | refine J.nil ?_ | refine J.skip rfl rfl rfl ?_ | refine T.skip ?_ | refine T.exit ?_ | refine T.ret ?_ | refine T.rd rfl (by kernel_rfl) ?_ | refine J.bx rfl rfl rfl rfl rfl rfl ?_
  refine J.cc rfl rfl rfl rfl rfl p7 rfl rfl ?_
  repeat' first | refine T.seq ?_ | refine T.block ?_ | refine T.r ?_ | refine J.e rfl rfl rfl rfl ?_ | refine J.nil ?_ | refine J.skip rfl rfl rfl ?_ | refine T.skip ?_ | refine T.exit ?_ | refine T.ret ?_ | refine T.rd rfl (by kernel_rfl) ?_ | refine J.bx rfl rfl rfl rfl rfl rfl ?_
  refine J.al rfl rfl rfl rfl rfl rfl rfl ?_
  refine J.w rfl rfl rfl rfl rfl rfl rfl rfl rfl rfl ?_
  repeat' first | refine T.seq ?_ | refine T.block ?_ | refine T.r ?_ | refine J.e rfl rfl rfl rfl ?_ | refine J.nil ?_ | refine J.skip rfl rfl rfl ?_ | refine T.skip ?_ | refine T.exit ?_ | refine T.ret ?_ | refine T.rd rfl (by kernel_rfl) ?_ | refine J.bx rfl rfl rfl rfl rfl rfl ?_
  refine J.bv rfl rfl rfl rfl rfl rfl rfl rfl rfl rfl rfl rfl ?_
  repeat' first | refine T.seq ?_ | refine T.block ?_ | refine T.r ?_ | refine J.e rfl rfl rfl rfl ?_ | refine J.nil ?_ | refine J.skip rfl rfl rfl ?_ | refine T.skip ?_ | refine T.exit ?_ | refine T.ret ?_ | refine T.rd rfl (by kernel_rfl) ?_ | refine J.bx rfl rfl rfl rfl rfl rfl ?_
  refine J.bv rfl rfl rfl rfl rfl rfl rfl rfl rfl rfl rfl rfl ?_
  refine J.bv rfl rfl rfl rfl rfl rfl rfl rfl rfl rfl rfl rfl ?_
  refine J.bv rfl rfl rfl rfl rfl rfl rfl rfl rfl rfl rfl rfl ?_
  repeat' first | refine T.seq ?_ | refine T.block ?_ | refine T.r ?_ | refine J.e rfl rfl rfl rfl ?_ | refine J.nil ?_ | refine J.skip rfl rfl rfl ?_ | refine T.skip ?_ | refine T.exit ?_ | refine T.ret ?_ | refine T.rd rfl (by kernel_rfl) ?_ | refine J.bx rfl rfl rfl rfl rfl rfl ?_
  refine J.cc rfl rfl rfl rfl rfl p3 rfl rfl ?_
  repeat' first | refine J.e rfl rfl rfl rfl ?_ | refine J.skip rfl rfl rfl ?_ | refine J.bx rfl rfl rfl rfl rfl rfl ?_
  refine J.nil ?_
  refine T.canon (keep := [3, 4, 5, 6, 7, 9, 10, 11, 12, 14, 15, 17, 18]) (os := [15]) rfl ?_
  repeat' first | refine T.seq ?_ | refine T.block ?_ | refine T.r ?_ | refine J.e rfl rfl rfl rfl ?_ | refine J.nil ?_ | refine J.skip rfl rfl rfl ?_ | refine T.skip ?_ | refine T.exit ?_ | refine T.ret ?_ | refine T.rd rfl (by kernel_rfl) ?_ | refine J.bx rfl rfl rfl rfl rfl rfl ?_
  refine J.bv rfl rfl rfl rfl rfl rfl rfl rfl rfl rfl rfl rfl ?_
  repeat' first | refine T.seq ?_ | refine T.block ?_ | refine T.r ?_ | refine J.e rfl rfl rfl rfl ?_ | refine J.nil ?_ | refine J.skip rfl rfl rfl ?_ | refine T.skip ?_ | refine T.exit ?_ | refine T.ret ?_ | refine T.rd rfl (by kernel_rfl) ?_ | refine J.bx rfl rfl rfl rfl rfl rfl ?_
  refine J.bv rfl rfl rfl rfl rfl rfl rfl rfl rfl rfl rfl rfl ?_
  refine J.bv rfl rfl rfl rfl rfl rfl rfl rfl rfl rfl rfl rfl ?_
  refine J.cc rfl rfl rfl rfl rfl s1 rfl rfl ?_
  repeat' first | refine T.seq ?_ | refine T.block ?_ | refine T.r ?_ | refine J.e rfl rfl rfl rfl ?_ | refine J.nil ?_ | refine J.skip rfl rfl rfl ?_ | refine T.skip ?_ | refine T.exit ?_ | refine T.ret ?_ | refine T.rd rfl (by kernel_rfl) ?_ | refine J.bx rfl rfl rfl rfl rfl rfl ?_
  refine J.bv rfl rfl rfl rfl rfl rfl rfl rfl rfl rfl rfl rfl ?_
  refine J.cc rfl rfl rfl rfl rfl n1 rfl rfl ?_
  repeat' first | refine T.seq ?_ | refine T.block ?_ | refine T.r ?_ | refine J.e rfl rfl rfl rfl ?_ | refine J.nil ?_ | refine J.skip rfl rfl rfl ?_ | refine T.skip ?_ | refine T.exit ?_ | refine T.ret ?_ | refine T.rd rfl (by kernel_rfl) ?_ | refine J.bx rfl rfl rfl rfl rfl rfl ?_
  refine J.bv rfl rfl rfl rfl rfl rfl rfl rfl rfl rfl rfl rfl ?_
  repeat' first | refine T.seq ?_ | refine T.block ?_ | refine T.r ?_ | refine J.e rfl rfl rfl rfl ?_ | refine J.nil ?_ | refine J.skip rfl rfl rfl ?_ | refine T.skip ?_ | refine T.exit ?_ | refine T.ret ?_ | refine T.rd rfl (by kernel_rfl) ?_ | refine J.bx rfl rfl rfl rfl rfl rfl ?_
  refine J.bv rfl rfl rfl rfl rfl rfl rfl rfl rfl rfl rfl rfl ?_
  refine J.bv rfl rfl rfl rfl rfl rfl rfl rfl rfl rfl rfl rfl ?_
  refine J.cc rfl rfl rfl rfl rfl s2 rfl rfl ?_
  repeat' first | refine T.seq ?_ | refine T.block ?_ | refine T.r ?_ | refine J.e rfl rfl rfl rfl ?_ | refine J.nil ?_ | refine J.skip rfl rfl rfl ?_ | refine T.skip ?_ | refine T.exit ?_ | refine T.ret ?_ | refine T.rd rfl (by kernel_rfl) ?_ | refine J.bx rfl rfl rfl rfl rfl rfl ?_
  exact ⟨_, .v rfl rfl rfl (fun _ => rfl) .nil⟩
end Go.Proofs.Ytchajofdjeijfaa
