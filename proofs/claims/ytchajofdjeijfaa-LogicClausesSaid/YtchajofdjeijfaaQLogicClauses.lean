/- The statement LogicClauses: the law, and its row. -/
import Derived.Test.YtchajofdjeijfaaB10
import Derived.Test.YtchajofdjeijfaaRows
import Derived.WalkKit
import Derived.ProofKit
import Derived.OpenShut
import Derived.ShutString
import Derived.ChangeOld
import Derived.Below
import Derived.SizedLaws
/-! Contract: all values of some domains. -/
namespace Go.Proofs.Ytchajofdjeijfaa
open Go Go.RowKit
set_option linter.unusedVariables false
set_option linter.unusedSimpArgs false
set_option maxRecDepth 8000

/-- Values of the first n of some domains. -/
def growR (d : Doms) : Nat → List (List Int)
  | 0 => [[]]
  | n + 1 => (growR d n).flatMap fun a => (vals (d.getD n [])).map fun v => a ++ [v]
theorem growR_len (d : Doms) : ∀ (n : Nat) (a : List Int), a ∈ growR d n → a.length = n
  | 0, a, h => by simp [growR] at h; simp [h]
  | n + 1, a, h => by
    simp only [growR, List.mem_flatMap, List.mem_map] at h
    obtain ⟨b, hb, v, _, rfl⟩ := h
    simp [growR_len d n b hb]
theorem grow_spec (d : Doms) (hd : ∀ x ∈ d, DomB x) (hdl : d.length * 8 ≤ 140737488355328) : ∀ n, n ≤ d.length → (∀ m, m ≤ n → (growR d m).length * 24 ≤ 140737488355328) →
    Spec Try.prog 92 false [doms d, .int .i64 n] [.own 23 1 ((growR d n).map cL)] := by
  intro n
  induction n with
  | zero =>
    intro _ _
    refine Spec.body Try.func92 rfl rfl rfl fun w0 Z0 => ?_
    repeat' ((first | refine T.G rfl ?_ | refine J.G rfl ?_ | refine J.H rfl ?_ | refine T.rd rfl (by decide +kernel) ?_ | fail); conv => whnf)
    refine T.ct rfl ?_
    repeat' ((first | refine T.G rfl ?_ | refine J.G rfl ?_ | refine J.H rfl ?_ | refine T.rd rfl (by decide +kernel) ?_ | fail); conv => whnf)
    refine J.bv rfl rfl rfl rfl rfl rfl rfl rfl rfl rfl rfl rfl ?_
    refine J.bo rfl rfl rfl rfl rfl rfl rfl rfl rfl rfl rfl rfl ?_
    repeat' ((first | refine T.G rfl ?_ | refine J.G rfl ?_ | refine J.H rfl ?_ | refine T.rd rfl (by decide +kernel) ?_ | fail); conv => whnf)
    exact ⟨_, .o rfl rfl rfl (fun _ => .inl rfl) (by simp) .nil⟩
  | succ n ih =>
    intro hn hm
    have hrec := ih (by omega) (fun m h => hm m (by omega))
    have hx := hd _ (List.getElem_mem (show n < d.length by omega))
    have hval := values_spec d[n] hx.1 (by have := hx.2.1; omega) hx.2.2
    have hg : d.getD n [] = d[n] := by rw [List.getD_eq_getElem?_getD, List.getElem?_eq_getElem (by omega)]; rfl
    have hgl := growR_len d n
    have hG : growR d (n + 1) = (growR d n).flatMap fun a => (vals d[n]).map fun v => a ++ [v] := by rw [← hg]; rfl
    have h1 := hm n (by omega)
    have h2 := hm (n + 1) (Nat.le_refl _)
    have hsub : IntKind.i64.wrap (((n + 1 : Nat) : Int) - 1) = (n : Nat) := by rw [wrap_id (by omega) (by omega)]; omega
    have hrow : (d.map cD)[((n : Nat) : Int).toNat]? = some (cD d[n]) := row_i (by omega)
    have hvl : (vals d[n]).length * 16 ≤ 140737488355328 := hx.2.1
    rw [hG] at h2 ⊢
    clear hm ih hG hg
    generalize growR d n = l at *
    generalize vals d[n] = v at *
    refine Spec.body Try.func92 rfl rfl rfl fun w0 Z0 => ?_
    repeat' ((first | refine T.G rfl ?_ | refine J.G rfl ?_ | refine J.H rfl ?_ | refine T.rd rfl (by decide +kernel) ?_ | fail); conv => whnf)
    refine T.cd rfl (fun h => absurd h (by show ¬ ((n + 1 : Nat) : Int) = 0; omega)) (fun _ => ?_)
    repeat' ((first | refine T.G rfl ?_ | refine J.G rfl ?_ | refine J.H rfl ?_ | refine T.rd rfl (by decide +kernel) ?_ | fail); conv => whnf)
    rw [hsub]
    refine J.cc rfl rfl rfl rfl rfl hrec rfl rfl ?_
    repeat' ((first | refine T.G rfl ?_ | refine J.G rfl ?_ | refine J.H rfl ?_ | refine T.rd rfl (by decide +kernel) ?_ | fail); conv => whnf)
    rw [hsub]
    refine J.i rfl rfl rfl rfl rfl rfl rfl rfl rfl (r := cD d[n]) (by omega) hrow rfl ?_
    repeat' ((first | refine T.G rfl ?_ | refine J.G rfl ?_ | refine J.H rfl ?_ | refine T.rd rfl (by decide +kernel) ?_ | fail); conv => whnf)
    refine J.cc rfl rfl rfl rfl rfl hval rfl rfl ?_
    repeat' ((first | refine T.G rfl ?_ | refine J.G rfl ?_ | refine J.H rfl ?_ | refine T.rd rfl (by decide +kernel) ?_ | fail); conv => whnf)
    refine J.bo rfl rfl rfl rfl rfl rfl rfl rfl rfl rfl rfl rfl ?_
    repeat' ((first | refine T.G rfl ?_ | refine J.G rfl ?_ | refine J.H rfl ?_ | refine T.rd rfl (by decide +kernel) ?_ | fail); conv => whnf)
    refine T.sub (Rel.frz (s := 5) (fun _ h => h) rfl rfl) ?_
    refine T.sub (Rel.frz (s := 6) (fun _ h => h) rfl rfl) ?_
    have hsum : ∀ (l : List (List Int)), (l.flatMap fun a => v.map fun v => a ++ [v]).length = l.length * v.length := by
      intro l
      induction l with
      | nil => simp
      | cons a l ih => rw [List.flatMap_cons, List.length_append, ih, List.length_map, List.length_cons, Nat.succ_mul]; omega
    rw [hsum] at h2
    refine T.canon (keep := [5, 6, 7, 8]) (os := [7]) rfl (T.ind (fun i : Nat => ⟨[(5, .val true (lists l)), (6, .val true (ints v)), (7, .ref 0), (8, .val true (.int .i64 i))], [(0, some (.sl 23 1 true (((l.take i).flatMap fun a => v.map fun v => a ++ [v]).map cL)))], 1⟩) (fun i => i ≤ l.length) (fun i => l.length - i) 0 (by simp) (fun _ _ h => h) ?_)
    rintro i hi ih
    repeat' ((first | refine T.G rfl ?_ | refine J.G rfl ?_ | refine J.H rfl ?_ | refine T.rd rfl (by decide +kernel) ?_ | fail); conv => whnf)
    refine T.cd rfl (fun h3 => ?_) (fun h3 => ?_)
    · have h3 : i < l.length := by simpa using h3
      have hil : l[i].length = n := hgl _ (List.getElem_mem h3)
      repeat' ((first | refine T.G rfl ?_ | refine J.G rfl ?_ | refine J.H rfl ?_ | refine T.rd rfl (by decide +kernel) ?_ | fail); conv => whnf)
      have e0 : (l.take i).flatMap (fun a => v.map fun v => a ++ [v]) = (l.take i).flatMap (fun a => v.map fun v => a ++ [v]) ++ (v.take 0).map fun v => l[i] ++ [v] := by simp
      rw [e0]
      refine T.canon (keep := [5, 6, 7, 8, 9]) (os := [7]) rfl (T.ind (fun k : Nat => ⟨[(5, .val true (lists l)), (6, .val true (ints v)), (7, .ref 0), (8, .val true (.int .i64 i)), (9, .val true (.int .i64 k))], [(0, some (.sl 23 1 true (((l.take i).flatMap (fun a => v.map fun v => a ++ [v]) ++ (v.take k).map fun v => l[i] ++ [v]).map cL)))], 1⟩) (fun k => k ≤ v.length) (fun k => v.length - k) 0 (by simp) (fun _ _ h => h) ?_)
      rintro k hk ih2
      repeat' ((first | refine T.G rfl ?_ | refine J.G rfl ?_ | refine J.H rfl ?_ | refine T.rd rfl (by decide +kernel) ?_ | fail); conv => whnf)
      refine T.cd rfl (fun h4 => ?_) (fun h4 => ?_)
      · have h4 : k < v.length := by simpa using h4
        repeat' ((first | refine T.G rfl ?_ | refine J.G rfl ?_ | refine J.H rfl ?_ | refine T.rd rfl (by decide +kernel) ?_ | fail); conv => whnf)
        refine J.bo rfl rfl rfl rfl rfl rfl rfl rfl rfl rfl rfl rfl ?_
        repeat' ((first | refine T.G rfl ?_ | refine J.G rfl ?_ | refine J.H rfl ?_ | refine T.rd rfl (by decide +kernel) ?_ | fail); conv => whnf)
        refine J.i rfl rfl rfl rfl rfl rfl rfl rfl rfl (r := cL l[i]) (by omega) (row_i h3) rfl ?_
        repeat' ((first | refine T.G rfl ?_ | refine J.G rfl ?_ | refine J.H rfl ?_ | refine T.rd rfl (by decide +kernel) ?_ | fail); conv => whnf)
        refine J.a rfl rfl rfl rfl rfl rfl rfl rfl rfl rfl rfl rfl rfl rfl rfl rfl rfl len_I (by show (0 + List.length _) * 8 ≤ _; simp; omega) ?_
        repeat' ((first | refine T.G rfl ?_ | refine J.G rfl ?_ | refine J.H rfl ?_ | refine T.rd rfl (by decide +kernel) ?_ | fail); conv => whnf)
        refine J.i rfl rfl rfl rfl rfl rfl rfl rfl rfl (r := cI v[k]) (by omega) (row_i h4) rfl ?_
        repeat' ((first | refine T.G rfl ?_ | refine J.G rfl ?_ | refine J.H rfl ?_ | refine T.rd rfl (by decide +kernel) ?_ | fail); conv => whnf)
        refine J.bv rfl rfl rfl rfl rfl rfl rfl rfl rfl rfl rfl rfl ?_
        refine J.aI rfl rfl rfl rfl rfl rfl rfl rfl rfl rfl rfl rfl rfl rfl rfl rfl rfl rfl rfl (by omega) ?_
        repeat' ((first | refine T.G rfl ?_ | refine J.G rfl ?_ | refine J.H rfl ?_ | refine T.rd rfl (by decide +kernel) ?_ | fail); conv => whnf)
        refine J.sub (Rel.frz (s := 52) (fun _ h => h) rfl rfl) ?_
        repeat' ((first | refine T.G rfl ?_ | refine J.G rfl ?_ | refine J.H rfl ?_ | refine T.rd rfl (by decide +kernel) ?_ | fail); conv => whnf)
        refine J.bv rfl rfl rfl rfl rfl rfl rfl rfl rfl rfl rfl rfl ?_
        have hb : ((l.take i).flatMap (fun a => v.map fun v => a ++ [v]) ++ (v.take k).map fun v => l[i] ++ [v]).length + 1 ≤ l.length * v.length := by
          rw [List.length_append, hsum, List.length_map, List.length_take, List.length_take, Nat.min_eq_left (by omega), Nat.min_eq_left (by omega)]
          have : i * v.length + v.length ≤ l.length * v.length := by
            rw [← Nat.succ_mul]
            exact Nat.mul_le_mul_right _ h3
          omega
        refine J.a1 (enc := cL) (x := l[i] ++ [v[k]]) (B := 24) rfl rfl rfl rfl rfl rfl rfl rfl rfl rfl rfl rfl rfl rfl rfl rfl rfl rfl rfl rfl (by omega) ?_
        repeat' ((first | refine T.G rfl ?_ | refine J.G rfl ?_ | refine J.H rfl ?_ | refine T.rd rfl (by decide +kernel) ?_ | fail); conv => whnf)
        have e : (l.take i).flatMap (fun a => v.map fun v => a ++ [v]) ++ ((v.take k).map fun v => l[i] ++ [v]) ++ [l[i] ++ [v[k]]] = (l.take i).flatMap (fun a => v.map fun v => a ++ [v]) ++ (v.take (k + 1)).map fun v => l[i] ++ [v] := by
          rw [List.take_succ_eq_append_getElem h4, List.map_append, List.append_assoc]; rfl
        rw [e, wrap1 (l := v.length) (by omega) (by omega)]
        exact T.canon (keep := [5, 6, 7, 8, 9]) (os := [7]) rfl (ih2 (k + 1) (by omega) (by omega))
      · have h4 : k = v.length := by simp at h4; omega
        subst h4
        rw [List.take_length]
        repeat' ((first | refine T.G rfl ?_ | refine J.G rfl ?_ | refine J.H rfl ?_ | refine T.rd rfl (by decide +kernel) ?_ | fail); conv => whnf)
        have e : (l.take i).flatMap (fun a => v.map fun v => a ++ [v]) ++ (v.map fun v => l[i] ++ [v]) = (l.take (i + 1)).flatMap fun a => v.map fun v => a ++ [v] := by
          rw [List.take_succ_eq_append_getElem h3, List.flatMap_append]; simp
        rw [e, wrap1 (l := l.length) (by omega) (by omega)]
        exact T.canon (keep := [5, 6, 7, 8]) (os := [7]) rfl (ih (i + 1) (by omega) (by omega))
    · have h3 : i = l.length := by simp at h3; omega
      subst h3
      rw [List.take_length]
      repeat' ((first | refine T.G rfl ?_ | refine J.G rfl ?_ | refine J.H rfl ?_ | refine T.rd rfl (by decide +kernel) ?_ | fail); conv => whnf)
      exact ⟨_, .o rfl rfl rfl (fun _ => .inl rfl) (by simp) .nil⟩
end Go.Proofs.Ytchajofdjeijfaa
/-! Contract: the values that are supported by any constraint, by all values of its variables. -/
namespace Go.Proofs.Ytchajofdjeijfaa
open Go Go.RowKit
set_option linter.unusedVariables false
set_option linter.unusedSimpArgs false
set_option maxRecDepth 8000

def fillW (n : Nat) (us t : List Int) (k : Nat) : List Int := ((us.zip t).take k).foldl (fun a p => a.set p.1.toNat p.2) (List.replicate n 0)
def keepsW (P : List Int → Bool) (m : Nat) (all : List (List Int)) : List (List Int) := (List.range m).map fun k => (all.filter P).map (·.getD k 0)
def putsW (d : Doms) (us : List Int) (ks : List (List Int)) (k : Nat) : Doms := ((us.zip ks).take k).foldl (fun o p => o.set p.1.toNat (pack (sortU p.2))) d
def keptR (d : Doms) (us : List Int) (P : List Int → Bool) : Option Doms :=
  if [] ∈ d then none else toldO (putsW d us (keepsW P us.length (growR (us.map (domAt d)) us.length)) us.length)
theorem fillW_len (n : Nat) (us t : List Int) (k : Nat) : (fillW n us t k).length = n := by
  unfold fillW
  generalize (us.zip t).take k = l
  have : ∀ (l : List (Int × Int)) (a : List Int), (l.foldl (fun a p => a.set p.1.toNat p.2) a).length = a.length := by
    intro l
    induction l with
    | nil => simp
    | cons p l ih => intro a; rw [List.foldl_cons, ih]; simp
  rw [this]; simp
theorem putsW_len (d : Doms) (us : List Int) (ks : List (List Int)) (k : Nat) : (putsW d us ks k).length = d.length := by
  unfold putsW
  generalize (us.zip ks).take k = l
  have : ∀ (l : List (Int × List Int)) (a : Doms), (l.foldl (fun o p => o.set p.1.toNat (pack (sortU p.2))) a).length = a.length := by
    intro l
    induction l with
    | nil => simp
    | cons p l ih => intro a; rw [List.foldl_cons, ih]; simp
  rw [this]
theorem zip_take_succ {α β : Type} {l : List α} {m : List β} {k : Nat} (h1 : k < l.length) (h2 : k < m.length) : (l.zip m).take (k + 1) = (l.zip m).take k ++ [(l[k], m[k])] := by
  rw [List.take_succ_eq_append_getElem (by simp; omega), List.getElem_zip]
theorem fillW_succ {n : Nat} {us t : List Int} {k : Nat} (h1 : k < us.length) (h2 : k < t.length) : fillW n us t (k + 1) = (fillW n us t k).set us[k].toNat t[k] := by
  unfold fillW
  rw [zip_take_succ h1 h2, List.foldl_append]; rfl
theorem putsW_succ {d : Doms} {us : List Int} {ks : List (List Int)} {k : Nat} (h1 : k < us.length) (h2 : k < ks.length) : putsW d us ks (k + 1) = (putsW d us ks k).set us[k].toNat (pack (sortU ks[k])) := by
  unfold putsW
  rw [zip_take_succ h1 h2, List.foldl_append]; rfl
theorem at_sl {e : TypeId} {sz : Nat} {fr : Bool} {rows : List (List PV)} {i : Nat} {r : List PV} (h : rows[i]? = some r) : (Own.sl e sz fr rows).at_ i 0 sz = some (fr, r) := by
  simp only [Own.at_, Nat.beq_refl, h, List.drop_zero]
theorem range_set {α : Type} {m k : Nat} (f : Nat → α) (x : α) : ((List.range m).map f).set k x = (List.range m).map fun j => if j = k then x else f j := by
  apply List.ext_getElem?
  intro i
  rw [List.getElem?_set, List.getElem?_map, List.getElem?_map]
  by_cases hi : i < m
  · have hr : (List.range m)[i]? = some i := by simp [hi]
    rw [hr]
    by_cases e : k = i
    · subst e
      rw [if_pos rfl, if_pos (by simpa using hi)]
      simp
    · rw [if_neg e]
      simp only [Option.map_some]
      rw [if_neg (Ne.symm e)]
  · have hr : (List.range m)[i]? = none := by simp; omega
    rw [hr]
    by_cases e : k = i
    · subst e
      rw [if_pos rfl, if_neg (by simpa using hi)]; rfl
    · rw [if_neg e]; rfl
/-- What the lists hold: the first i, and of the next one the first k values. -/
def kpW (P : List Int → Bool) (all : List (List Int)) (i k j : Nat) : List Int := ((all.take i).filter P).map (·.getD j 0) ++ if j < k then [(all.getD i []).getD j 0] else []
theorem kpW_set {P : List Int → Bool} {all : List (List Int)} {i k m : Nat} : ((List.range m).map fun j => (kpW P all i k j).map cI).set k ((kpW P all i k k ++ [(all.getD i []).getD k 0]).map cI) = (List.range m).map fun j => (kpW P all i (k + 1) j).map cI := by
  rw [range_set]
  refine List.map_congr_left fun j _ => ?_
  by_cases e : j = k
  · subst e
    rw [if_pos rfl]
    simp [kpW]
  · rw [if_neg e]
    have : (j < k + 1) = (j < k) := by simp; omega
    simp only [kpW, this]
theorem kpW_next {P : List Int → Bool} {all : List (List Int)} {i m : Nat} (hi : i < all.length) (hp : P all[i] = true) : ((List.range m).map fun j => (kpW P all i m j).map cI) = (List.range m).map fun j => (kpW P all (i + 1) 0 j).map cI := by
  refine List.map_congr_left fun j hj => ?_
  have hj : j < m := List.mem_range.1 hj
  have e : all.getD i [] = all[i] := by rw [List.getD_eq_getElem?_getD, List.getElem?_eq_getElem hi]; rfl
  simp only [kpW, hj, if_true, Nat.not_lt_zero, if_false, List.append_nil, e]
  rw [List.take_succ_eq_append_getElem hi, List.filter_append, List.filter_cons_of_pos hp]
  simp
theorem kpW_skip {P : List Int → Bool} {all : List (List Int)} {i m : Nat} (hi : i < all.length) (hp : ¬ P all[i] = true) : ((List.range m).map fun j => (kpW P all i 0 j).map cI) = (List.range m).map fun j => (kpW P all (i + 1) 0 j).map cI := by
  refine List.map_congr_left fun j hj => ?_
  simp only [kpW, Nat.not_lt_zero, if_false, List.append_nil]
  rw [List.take_succ_eq_append_getElem hi, List.filter_append, List.filter_cons_of_neg hp]
  simp
theorem kpW_len {P : List Int → Bool} {all : List (List Int)} {i k j : Nat} (hi : i ≤ all.length) : (kpW P all i k j).length ≤ all.length + 1 := by
  have h : ((all.take i).filter P).length ≤ all.length := Nat.le_trans (List.length_filter_le _ _) (by simp; omega)
  simp only [kpW, List.length_append, List.length_map]
  split <;> simp <;> omega
abbrev FamL := List (Value × List (List PV))
def famE (p : Value × List (List PV)) : List PV := [.raw p.1]
theorem kept_spec (d : Doms) (c : Con) (us : List Int) (P : List Int → Bool) (hd : ∀ x ∈ d, DomB x) (hdl : d.length * 24 ≤ 140737488355328) (hul : us.length * 24 ≤ 140737488355328) (hus : ∀ u ∈ us, 0 ≤ u ∧ u.toNat < d.length)
    (hall : ∀ m, m ≤ us.length → (growR (us.map (domAt d)) m).length * 24 + 1048576 ≤ 140737488355328) (hin : ∀ t ∈ growR (us.map (domAt d)) us.length, ∀ v ∈ t, -1048576 ≤ v ∧ v ≤ 1048576)
    (hh : ∀ t ∈ growR (us.map (domAt d)) us.length, Spec Try.prog 27 false [.agg (cC c), ints (fillW d.length us t us.length)] [.val (.bool (P t))]) :
    Spec Try.prog 71 false [doms d, .agg (cC c), ints us] [.val (doms ((keptR d us P).getD [])), .val (.bool (keptR d us P).isSome)] := by
  refine Spec.body Try.func71 rfl rfl rfl fun w0 Z0 => ?_
  have hem := empty_spec d (by omega)
  have hli := lists_spec d hdl fun x hx => (hd x hx).2.2
  have hgl := growR_len (us.map (domAt d)) us.length
  have hgr := grow_spec (us.map (domAt d)) (fun x hx => by obtain ⟨u, hu, rfl⟩ := List.mem_map.1 hx; exact hd _ (domAt_mem (hus u hu).2)) (by simp; omega) us.length (by simp) fun m hm => by have := hall m hm; omega
  have hbig := hall us.length (Nat.le_refl _)
  unfold keptR
  clear hall
  generalize growR (us.map (domAt d)) us.length = all at *
  repeat' ((first | refine T.G rfl ?_ | refine J.G rfl ?_ | refine J.H rfl ?_ | refine T.rd rfl (by decide +kernel) ?_ | fail); conv => whnf)
  refine J.cc rfl rfl rfl rfl rfl hem rfl rfl ?_
  repeat' ((first | refine T.G rfl ?_ | refine J.G rfl ?_ | refine J.H rfl ?_ | refine T.rd rfl (by decide +kernel) ?_ | fail); conv => whnf)
  by_cases hm : [] ∈ d
  · rw [if_pos hm, decide_eq_true hm]
    refine T.ct rfl ?_
    repeat' ((first | refine T.G rfl ?_ | refine J.G rfl ?_ | refine J.H rfl ?_ | refine T.rd rfl (by decide +kernel) ?_ | fail); conv => whnf)
    exact ⟨_, .v rfl rfl rfl (fun _ => rfl) (.v rfl rfl rfl (fun _ => rfl) .nil)⟩
  rw [if_neg hm, decide_eq_false hm]
  refine T.cf rfl ?_
  repeat' ((first | refine T.G rfl ?_ | refine J.G rfl ?_ | refine J.H rfl ?_ | refine T.rd rfl (by decide +kernel) ?_ | fail); conv => whnf)
  refine J.bo rfl rfl rfl rfl rfl rfl rfl rfl rfl rfl rfl rfl ?_
  repeat' ((first | refine T.G rfl ?_ | refine J.G rfl ?_ | refine J.H rfl ?_ | refine T.rd rfl (by decide +kernel) ?_ | fail); conv => whnf)
  refine T.sub (Rel.wk (o := 1) rfl) ?_
  refine T.canon (keep := [0, 2, 4, 8, 9]) (os := [4, 8]) rfl (T.ind (fun i : Nat => ⟨[(0, .val false (doms d)), (2, .val false (ints us)), (4, .optr 0 0 0 0), (8, .ref 1), (9, .val true (.int .i64 i))], [(0, some (.box false (cC c))), (1, some (.sl 38 1 false (((us.take i).map (domAt d)).map cD)))], 2⟩) (fun i => i ≤ us.length) (fun i => us.length - i) 0 (by simp) (fun _ _ h => h) ?_)
  rintro i hi ih
  repeat' ((first | refine T.G rfl ?_ | refine J.G rfl ?_ | refine J.H rfl ?_ | refine T.rd rfl (by decide +kernel) ?_ | fail); conv => whnf)
  refine T.cd rfl (fun h1 => ?_) (fun h1 => ?_)
  · have h1 : i < us.length := by simpa using h1
    have hu := hus _ (List.getElem_mem h1)
    have hrow : (d.map cD)[us[i].toNat]? = some (cD (domAt d us[i])) := by simp [domAt_some hu.2]
    repeat' ((first | refine T.G rfl ?_ | refine J.G rfl ?_ | refine J.H rfl ?_ | refine T.rd rfl (by decide +kernel) ?_ | fail); conv => whnf)
    refine J.i rfl rfl rfl rfl rfl rfl rfl rfl rfl (r := cI us[i]) (by omega) (row_i h1) rfl ?_
    repeat' ((first | refine T.G rfl ?_ | refine J.G rfl ?_ | refine J.H rfl ?_ | refine T.rd rfl (by decide +kernel) ?_ | fail); conv => whnf)
    refine J.i rfl rfl rfl rfl rfl rfl rfl rfl rfl (r := cD (domAt d us[i])) hu.1 hrow rfl ?_
    repeat' ((first | refine T.G rfl ?_ | refine J.G rfl ?_ | refine J.H rfl ?_ | refine T.rd rfl (by decide +kernel) ?_ | fail); conv => whnf)
    refine J.bv rfl rfl rfl rfl rfl rfl rfl rfl rfl rfl rfl rfl ?_
    refine J.aD rfl rfl rfl rfl rfl rfl rfl rfl rfl rfl rfl rfl rfl rfl rfl rfl rfl rfl rfl (by simp; omega) ?_
    repeat' ((first | refine T.G rfl ?_ | refine J.G rfl ?_ | refine J.H rfl ?_ | refine T.rd rfl (by decide +kernel) ?_ | fail); conv => whnf)
    have e : (us.take i).map (domAt d) ++ [domAt d us[i]] = (us.take (i + 1)).map (domAt d) := by rw [List.take_succ_eq_append_getElem h1, List.map_append]; rfl
    rw [e, wrap1 (l := us.length) (by omega) (by omega)]
    exact T.canon (keep := [0, 2, 4, 8, 9]) (os := [4, 8]) rfl (ih (i + 1) (by omega) (by omega))
  have h1 : i = us.length := by simp at h1; omega
  subst h1
  rw [List.take_length]
  clear ih hi
  repeat' ((first | refine T.G rfl ?_ | refine J.G rfl ?_ | refine J.H rfl ?_ | refine T.rd rfl (by decide +kernel) ?_ | fail); conv => whnf)
  refine J.cc rfl rfl rfl rfl rfl hgr rfl (by simp [doms]) ?_
  repeat' ((first | refine T.G rfl ?_ | refine J.G rfl ?_ | refine J.H rfl ?_ | refine T.rd rfl (by decide +kernel) ?_ | fail); conv => whnf)
  refine J.ms (.raw (.slice none 0 0)) us.length rfl rfl rfl rfl rfl rfl rfl rfl rfl rfl rfl rfl rfl rfl (by simp) (by simp) (fun _ _ => .raw _ rfl) hul ?_
  repeat' ((first | refine T.G rfl ?_ | refine J.G rfl ?_ | refine J.H rfl ?_ | refine T.rd rfl (by decide +kernel) ?_ | fail); conv => whnf)
  refine T.sub (Rel.frz (s := 10) (fun _ h => h) rfl rfl) ?_
  refine T.sub (fun a w h => Rel.fam0 us.length 3 1 h) ?_
  refine T.nameO 9 4 rfl rfl fun U0 => ?_
  rw [show List.replicate us.length [PV.raw (.slice none 0 0)] = (List.replicate us.length ((.slice none 0 0 : Value), ([] : List (List PV)))).map famE from by simp [famE]]
  refine T.canon (keep := [0, 2, 4, 9, 10, 11, 12]) (os := [4, 11, 9]) rfl (T.ind (fun s : Nat × Value × FamL => ⟨[(0, .val false (doms d)), (2, .val false (ints us)), (4, .optr 0 0 0 0), (9, .eq s.2.1 2), (10, .val true (lists all)), (11, .ref 1), (12, .val true (.int .i64 s.1))], [(0, some (.box false (cC c))), (1, some (.sl 23 1 true (s.2.2.map famE))), (2, some (.fam 3 1 true s.2.2))], 3⟩)
    (fun s => s.1 ≤ all.length ∧ s.2.2.map (·.2) = (List.range us.length).map fun j => (kpW P all s.1 0 j).map cI) (fun s => all.length - s.1) (0, U0, List.replicate us.length (.slice none 0 0, [])) ⟨by simp, by simp [kpW, List.map_const']⟩ (fun _ _ h => h) ?_)
  rintro ⟨i, U, L⟩ ⟨hi, hL⟩ ih
  simp only at hi hL
  dsimp only
  repeat' ((first | refine T.G rfl ?_ | refine J.G rfl ?_ | refine J.H rfl ?_ | refine T.rd rfl (by decide +kernel) ?_ | fail); conv => whnf)
  refine T.cd rfl (fun h1 => ?_) (fun h1 => ?_)
  · have h1 : i < all.length := by simpa using h1
    have hil : all[i].length = us.length := hgl _ (List.getElem_mem h1)
    repeat' ((first | refine T.G rfl ?_ | refine J.G rfl ?_ | refine J.H rfl ?_ | refine T.rd rfl (by decide +kernel) ?_ | fail); conv => whnf)
    refine J.ms (B := 8) (.int .i64 0) d.length rfl rfl rfl rfl rfl rfl rfl rfl rfl rfl rfl rfl rfl rfl (by simp) (by simp) (fun _ _ => .int _ _) (by omega) ?_
    repeat' ((first | refine T.G rfl ?_ | refine J.G rfl ?_ | refine J.H rfl ?_ | refine T.rd rfl (by decide +kernel) ?_ | fail); conv => whnf)
    rw [show List.replicate d.length [PV.int .i64 0] = (fillW d.length us all[i] 0).map cI from by simp [fillW, cI]]
    refine T.canon (keep := [0, 2, 4, 9, 10, 11, 12, 13, 14]) (os := [4, 11, 9, 13]) rfl (T.ind (fun k : Nat => ⟨[(0, .val false (doms d)), (2, .val false (ints us)), (4, .optr 0 0 0 0), (9, .eq U 2), (10, .val true (lists all)), (11, .ref 1), (12, .val true (.int .i64 i)), (13, .ref 3), (14, .val true (.int .i64 k))], [(0, some (.box false (cC c))), (1, some (.sl 23 1 true (L.map famE))), (2, some (.fam 3 1 true L)), (3, some (.sl 3 1 true ((fillW d.length us all[i] k).map cI)))], 4⟩) (fun k => k ≤ us.length) (fun k => us.length - k) 0 (by simp) (fun _ _ h => h) ?_)
    rintro k hk ih2
    repeat' ((first | refine T.G rfl ?_ | refine J.G rfl ?_ | refine J.H rfl ?_ | refine T.rd rfl (by decide +kernel) ?_ | fail); conv => whnf)
    refine T.cd rfl (fun h2 => ?_) (fun h2 => ?_)
    · have h2 : k < us.length := by simpa using h2
      have hu := hus _ (List.getElem_mem h2)
      have h3 : k < all[i].length := by omega
      repeat' ((first | refine T.G rfl ?_ | refine J.G rfl ?_ | refine J.H rfl ?_ | refine T.rd rfl (by decide +kernel) ?_ | fail); conv => whnf)
      refine T.rdm 13 rfl (by kernel_rfl) rfl ?_
      repeat' ((first | refine T.G rfl ?_ | refine J.G rfl ?_ | refine J.H rfl ?_); conv => whnf)
      refine J.i rfl rfl rfl rfl rfl rfl rfl rfl rfl (r := cI us[k]) (by omega) (row_i h2) rfl ?_
      repeat' ((first | refine T.G rfl ?_ | refine J.G rfl ?_ | refine J.H rfl ?_); conv => whnf)
      refine J.i rfl rfl rfl rfl rfl rfl rfl rfl rfl (r := cL all[i]) (by omega) (row_i h1) rfl ?_
      repeat' ((first | refine T.G rfl ?_ | refine J.G rfl ?_ | refine J.H rfl ?_); conv => whnf)
      refine J.i rfl rfl rfl rfl rfl rfl rfl rfl rfl (r := cI all[i][k]) (by omega) (row_i h3) rfl ?_
      repeat' ((first | refine T.G rfl ?_ | refine J.G rfl ?_ | refine J.H rfl ?_); conv => whnf)
      refine J.io rfl rfl rfl rfl rfl rfl rfl rfl rfl hu.1 (by simp [fillW_len]; exact hu.2) rfl ?_
      repeat' ((first | refine T.G rfl ?_ | refine J.G rfl ?_ | refine J.H rfl ?_); conv => whnf)
      refine J.w1 rfl rfl rfl rfl rfl rfl rfl rfl rfl rfl rfl (z := all[i][k]) (fun _ => rfl) (by rw [fillW_len]; exact hu.2) ?_
      repeat' ((first | refine T.G rfl ?_ | refine J.G rfl ?_ | refine J.H rfl ?_ | refine T.rd rfl (by decide +kernel) ?_ | fail); conv => whnf)
      rw [wrap1 (l := us.length) (by omega) (by omega)]
      have := ih2 (k + 1) (by omega) (by omega)
      rw [fillW_succ h2 h3] at this
      exact T.canon (keep := [0, 2, 4, 9, 10, 11, 12, 13, 14]) (os := [4, 11, 9, 13]) rfl this
    have h2 : k = us.length := by simp at h2; omega
    subst h2
    clear ih2 hk
    repeat' ((first | refine T.G rfl ?_ | refine J.G rfl ?_ | refine J.H rfl ?_ | refine T.rd rfl (by decide +kernel) ?_ | fail); conv => whnf)
    refine J.cc rfl rfl rfl rfl rfl (hh _ (List.getElem_mem h1)) rfl rfl ?_
    repeat' ((first | refine T.G rfl ?_ | refine J.G rfl ?_ | refine J.H rfl ?_ | refine T.rd rfl (by decide +kernel) ?_ | fail); conv => whnf)
    by_cases hp : P all[i] = true
    · rw [hp]
      refine T.ct rfl ?_
      repeat' ((first | refine T.G rfl ?_ | refine J.G rfl ?_ | refine J.H rfl ?_ | refine T.rd rfl (by decide +kernel) ?_ | fail); conv => whnf)
      refine T.canon (keep := [0, 2, 4, 9, 10, 11, 12, 15]) (os := [4, 11, 9]) rfl (T.ind (fun s : Nat × Value × FamL => ⟨[(0, .val false (doms d)), (2, .val false (ints us)), (4, .optr 0 0 0 0), (9, .eq s.2.1 2), (10, .val true (lists all)), (11, .ref 1), (12, .val true (.int .i64 i)), (15, .val true (.int .i64 s.1))], [(0, some (.box false (cC c))), (1, some (.sl 23 1 true (s.2.2.map famE))), (2, some (.fam 3 1 true s.2.2))], 3⟩)
        (fun s => s.1 ≤ us.length ∧ s.2.2.map (·.2) = (List.range us.length).map fun j => (kpW P all i s.1 j).map cI) (fun s => us.length - s.1) (0, U, L) ⟨by simp, hL⟩ (fun _ _ h => h) ?_)
      rintro ⟨k, U2, L2⟩ ⟨hk, hL2⟩ ih2
      simp only at hk hL2
      dsimp only
      repeat' ((first | refine T.G rfl ?_ | refine J.G rfl ?_ | refine J.H rfl ?_ | refine T.rd rfl (by decide +kernel) ?_ | fail); conv => whnf)
      refine T.cd rfl (fun h2 => ?_) (fun h2 => ?_)
      · have h2 : k < us.length := by simpa using h2
        have h3 : k < all[i].length := by omega
        have hLl : L2.length = us.length := by have := congrArg List.length hL2; simpa using this
        obtain ⟨u, hk2⟩ : ∃ u, L2[k]? = some (u, (kpW P all i k k).map cI) := by
          have h4 : (L2.map (·.2))[k]? = some ((kpW P all i k k).map cI) := by rw [hL2]; simp [h2]
          rw [List.getElem?_map] at h4
          obtain ⟨p, hp1, hp2⟩ := Option.map_eq_some_iff.1 h4
          exact ⟨p.1, by rw [hp1, ← hp2]⟩
        have hfe : (L2.map famE)[k]? = some [.raw u] := by simp [famE, hk2]
        have hkl := kpW_len (P := P) (k := k) (j := k) (Nat.le_of_lt h1)
        repeat' ((first | refine T.G rfl ?_ | refine J.G rfl ?_ | refine J.H rfl ?_); conv => whnf)
        refine T.sub (fun a w h => Rel.split 13 k (q := 2) rfl rfl hk2 h) ?_
        refine T.rdw 16 rfl (by kernel_rfl) rfl ?_
        repeat' ((first | refine T.G rfl ?_ | refine J.G rfl ?_ | refine J.H rfl ?_); conv => whnf)
        refine J.io rfl rfl rfl rfl rfl rfl rfl rfl rfl (by omega) (by simpa [hLl] using h2) rfl ?_
        refine J.lr 13 (q := 3) (u := u) rfl rfl rfl rfl rfl (at_sl (e := 23) hfe) rfl rfl rfl ?_
        repeat' ((first | refine T.G rfl ?_ | refine J.G rfl ?_ | refine J.H rfl ?_); conv => whnf)
        refine J.i rfl rfl rfl rfl rfl rfl rfl rfl rfl (r := cL all[i]) (by omega) (row_i h1) rfl ?_
        repeat' ((first | refine T.G rfl ?_ | refine J.G rfl ?_ | refine J.H rfl ?_); conv => whnf)
        refine J.i rfl rfl rfl rfl rfl rfl rfl rfl rfl (r := cI all[i][k]) (by omega) (row_i h3) rfl ?_
        repeat' ((first | refine T.G rfl ?_ | refine J.G rfl ?_ | refine J.H rfl ?_); conv => whnf)
        refine J.bv rfl rfl rfl rfl rfl rfl rfl rfl rfl rfl rfl rfl ?_
        refine J.ad rfl rfl rfl rfl rfl rfl rfl rfl rfl rfl rfl rfl rfl rfl rfl rfl rfl rfl (one_len rfl) (by show (List.length _ + 1) * 8 ≤ _; simp; omega) ?_
        refine J.io rfl rfl rfl rfl rfl rfl rfl rfl rfl (by omega) (by simpa [hLl] using h2) rfl ?_
        refine J.nil ⟨rfl, ?_⟩
        refine J.name 14 (s := 95) rfl rfl rfl fun u' => ?_
        refine J.sub (Rel.raw (s := 95) (g := 14) rfl (.inl rfl) rfl rfl rfl) ?_
        refine J.w1 (enc := famE) (z := (u', ((kpW P all i k k) ++ [all[i][k]]).map cI)) rfl rfl rfl rfl rfl rfl rfl rfl rfl rfl rfl (fun _ => rfl) (by omega) ?_
        refine J.sub (fun a w h => Rel.join k (g := 14) (q := 4) (n := 5) (rows := ((kpW P all i k k) ++ [all[i][k]]).map cI) rfl (by rw [List.map_append]; rfl) rfl rfl h) ?_
        refine J.nil ?_
        refine T.nameO 9 6 rfl rfl fun U3 => ?_
        repeat' ((first | refine T.G rfl ?_ | refine J.G rfl ?_ | refine J.H rfl ?_ | refine T.rd rfl (by decide +kernel) ?_ | fail); conv => whnf)
        rw [wrap1 (l := us.length) (by omega) (by omega), List.set_set]
        have e2 : (all.getD i []).getD k 0 = all[i][k] := by
          rw [List.getD_eq_getElem?_getD, List.getD_eq_getElem?_getD, List.getElem?_eq_getElem h1]
          simp [h3]
        have := ih2 (k + 1, U3, L2.set k (u', ((kpW P all i k k) ++ [all[i][k]]).map cI)) ⟨by omega, by rw [List.map_set, hL2, ← kpW_set, e2]⟩ (by show _ - _ < _ - _; omega)
        exact T.canon (keep := [0, 2, 4, 9, 10, 11, 12, 15]) (os := [4, 11, 9]) rfl this
      have h2 : k = us.length := by simp at h2; omega
      subst h2
      clear ih2 hk
      repeat' ((first | refine T.G rfl ?_ | refine J.G rfl ?_ | refine J.H rfl ?_ | refine T.rd rfl (by decide +kernel) ?_ | fail); conv => whnf)
      rw [wrap1 (l := all.length) (by omega) (by omega)]
      exact T.canon (keep := [0, 2, 4, 9, 10, 11, 12]) (os := [4, 11, 9]) rfl (ih (i + 1, U2, L2) ⟨by omega, by rw [← kpW_next h1 hp]; exact hL2⟩ (by show _ - _ < _ - _; omega))
    · rw [eq_false_of_ne_true hp]
      refine T.cf rfl ?_
      repeat' ((first | refine T.G rfl ?_ | refine J.G rfl ?_ | refine J.H rfl ?_ | refine T.rd rfl (by decide +kernel) ?_ | fail); conv => whnf)
      rw [wrap1 (l := all.length) (by omega) (by omega)]
      exact T.canon (keep := [0, 2, 4, 9, 10, 11, 12]) (os := [4, 11, 9]) rfl (ih (i + 1, U, L) ⟨by omega, by rw [← kpW_skip h1 hp]; exact hL⟩ (by show _ - _ < _ - _; omega))
  have h1 : i = all.length := by simp at h1; omega
  subst h1
  clear ih hi
  have hks : (L.map fun p => [PV.sl p.2]) = (keepsW P us.length all).map cL := by
    have e : (L.map fun p => [PV.sl p.2]) = (L.map (·.2)).map fun r => [PV.sl r] := by rw [List.map_map]; rfl
    rw [e, hL, keepsW, List.map_map, List.map_map]
    refine List.map_congr_left fun j _ => ?_
    simp [kpW, cL, ints]
  refine T.sub (fun a w h => Rel.meltF (qc := 1) (q := 2) (l := L) (fun _ h => h) rfl rfl rfl h) ?_
  rw [hks]
  have hkl : (keepsW P us.length all).length = us.length := by simp [keepsW]
  have hkin : ∀ l ∈ keepsW P us.length all, l.length ≤ all.length ∧ ∀ v ∈ l, -1048576 ≤ v ∧ v ≤ 1048576 := by
    intro l hl
    obtain ⟨j, hj, rfl⟩ := List.mem_map.1 hl
    refine ⟨by rw [List.length_map]; exact List.length_filter_le _ _, fun v hv => ?_⟩
    obtain ⟨t, ht, rfl⟩ := List.mem_map.1 hv
    have ht := (List.mem_filter.1 ht).1
    rw [List.getD_eq_getElem?_getD]
    cases hg : t[j]? with
    | none => simp
    | some x => simpa using hin t ht x (List.mem_of_getElem? hg)
  generalize keepsW P us.length all = ks at *
  refine T.sub (Rel.frz (s := 11) (fun _ h => h) rfl rfl) ?_
  repeat' ((first | refine T.G rfl ?_ | refine J.G rfl ?_ | refine J.H rfl ?_ | refine T.rd rfl (by decide +kernel) ?_ | fail); conv => whnf)
  refine J.cc rfl rfl rfl rfl rfl hli rfl rfl ?_
  repeat' ((first | refine T.G rfl ?_ | refine J.G rfl ?_ | refine J.H rfl ?_ | refine T.rd rfl (by decide +kernel) ?_ | fail); conv => whnf)
  refine T.canon (keep := [2, 11, 16, 17]) (os := [16]) rfl (T.ind (fun k : Nat => ⟨[(2, .val false (ints us)), (11, .val true (lists ks)), (16, .ref 0), (17, .val true (.int .i64 k))], [(0, some (.sl 38 1 true ((putsW d us ks k).map cD)))], 1⟩) (fun k => k ≤ us.length) (fun k => us.length - k) 0 (by simp) (fun _ _ h => h) ?_)
  rintro k hk ih2
  repeat' ((first | refine T.G rfl ?_ | refine J.G rfl ?_ | refine J.H rfl ?_ | refine T.rd rfl (by decide +kernel) ?_ | fail); conv => whnf)
  refine T.cd rfl (fun h2 => ?_) (fun h2 => ?_)
  · have h2 : k < us.length := by simpa using h2
    have h3 : k < ks.length := by omega
    have hu := hus _ (List.getElem_mem h2)
    have hki := hkin _ (List.getElem_mem h3)
    have hso := (sorted_spec ks[k] (by omega)).frz
    have hpa := (pack_spec (sortU ks[k]) (fun v hv => by have := hki.2 v ((sortU_mem v _).1 hv); omega) (by have := sortU_length ks[k]; omega)).frz
    repeat' ((first | refine T.G rfl ?_ | refine J.G rfl ?_ | refine J.H rfl ?_ | refine T.rd rfl (by decide +kernel) ?_ | fail); conv => whnf)
    refine T.rdm 12 rfl (by kernel_rfl) rfl ?_
    repeat' ((first | refine T.G rfl ?_ | refine J.G rfl ?_ | refine J.H rfl ?_); conv => whnf)
    refine J.i rfl rfl rfl rfl rfl rfl rfl rfl rfl (r := cI us[k]) (by omega) (row_i h2) rfl ?_
    repeat' ((first | refine T.G rfl ?_ | refine J.G rfl ?_ | refine J.H rfl ?_); conv => whnf)
    refine J.i rfl rfl rfl rfl rfl rfl rfl rfl rfl (r := cL ks[k]) (by omega) (row_i h3) rfl ?_
    repeat' ((first | refine T.G rfl ?_ | refine J.G rfl ?_ | refine J.H rfl ?_); conv => whnf)
    refine J.cc rfl rfl rfl rfl rfl hso rfl rfl ?_
    repeat' ((first | refine T.G rfl ?_ | refine J.G rfl ?_ | refine J.H rfl ?_); conv => whnf)
    refine J.cc rfl rfl rfl rfl rfl hpa rfl rfl ?_
    repeat' ((first | refine T.G rfl ?_ | refine J.G rfl ?_ | refine J.H rfl ?_); conv => whnf)
    refine J.io rfl rfl rfl rfl rfl rfl rfl rfl rfl hu.1 (by rw [List.length_map, putsW_len]; exact hu.2) rfl ?_
    repeat' ((first | refine T.G rfl ?_ | refine J.G rfl ?_ | refine J.H rfl ?_); conv => whnf)
    refine J.w1 rfl rfl rfl rfl rfl rfl rfl rfl rfl rfl rfl (z := pack (sortU ks[k])) (fun _ => rfl) (by rw [putsW_len]; exact hu.2) ?_
    repeat' ((first | refine T.G rfl ?_ | refine J.G rfl ?_ | refine J.H rfl ?_ | refine T.rd rfl (by decide +kernel) ?_ | fail); conv => whnf)
    rw [wrap1 (l := us.length) (by omega) (by omega)]
    have := ih2 (k + 1) (by omega) (by omega)
    rw [putsW_succ h2 h3] at this
    exact T.canon (keep := [2, 11, 16, 17]) (os := [16]) rfl this
  have h2 : k = us.length := by simp at h2; omega
  subst h2
  have hto := told_spec (putsW d us ks us.length) (by rw [putsW_len]; omega)
  unfold toldO
  generalize putsW d us ks us.length = out at *
  repeat' ((first | refine T.G rfl ?_ | refine J.G rfl ?_ | refine J.H rfl ?_ | refine T.rd rfl (by decide +kernel) ?_ | fail); conv => whnf)
  refine J.sub (Rel.frz (s := 117) (fun _ h => h) rfl rfl) ?_
  refine J.ct rfl rfl rfl rfl rfl hto rfl rfl ?_
  repeat' ((first | refine T.G rfl ?_ | refine J.G rfl ?_ | refine J.H rfl ?_ | refine T.rd rfl (by decide +kernel) ?_ | fail); conv => whnf)
  by_cases hn : [] ∈ out
  · rw [if_pos hn, if_pos hn, decide_eq_true hn]
    exact ⟨_, .v rfl rfl rfl (fun _ => rfl) (.v rfl rfl rfl (fun _ => rfl) .nil)⟩
  · rw [if_neg hn, if_neg hn, decide_eq_false hn]
    exact ⟨_, .v rfl rfl rfl (fun _ => rfl) (.v rfl rfl rfl (fun _ => rfl) .nil)⟩
end Go.Proofs.Ytchajofdjeijfaa
/-! Plain law: what is supported by a constraint, by all values of its variables. -/
namespace Go.Proofs.Ytchajofdjeijfaa
open Go Go.RowKit
set_option linter.unusedVariables false
set_option linter.unusedSimpArgs false

theorem mem_growR {D : Doms} : ∀ {n : Nat} {t : List Int}, t ∈ growR D n ↔ t.length = n ∧ ∀ k, k < n → t.getD k 0 ∈ vals (D.getD k [])
  | 0, t => by simp [growR]
  | n + 1, t => by
    simp only [growR, List.mem_flatMap, List.mem_map]
    constructor
    · rintro ⟨a, ha, v, hv, rfl⟩
      obtain ⟨hl, h⟩ := mem_growR.1 ha
      refine ⟨by simp [hl], fun k hk => ?_⟩
      by_cases e : k = n
      · subst e; subst hl
        simp only [List.getD_eq_getElem?_getD]
        rw [List.getElem?_append_right (Nat.le_refl _)]
        simpa using hv
      · have := h k (by omega)
        simp only [List.getD_eq_getElem?_getD] at this ⊢
        rw [List.getElem?_append_left (by omega)]
        exact this
    · rintro ⟨hl, h⟩
      refine ⟨t.take n, mem_growR.2 ⟨by simp; omega, fun k hk => ?_⟩, t.getD n 0, h n (by omega), ?_⟩
      · have := h k (by omega)
        simp only [List.getD_eq_getElem?_getD] at this ⊢
        rw [List.getElem?_take, if_pos hk]
        exact this
      · have e : t = t.take n ++ [t[n]] := by
          rw [← List.take_succ_eq_append_getElem (by omega), List.take_of_length_le (by omega)]
        rw [List.getD_eq_getElem?_getD, List.getElem?_eq_getElem (by omega)]
        exact e.symm
theorem nodup_idx {us : List Int} (h : us.Nodup) {k : Nat} (hk : k < us.length) : us.idxOf us[k] = k := by
  have h1 : us.idxOf us[k] < us.length := List.idxOf_lt_length_iff.2 (List.getElem_mem hk)
  have h2 := List.getElem_idxOf h1
  exact (List.getElem_inj h).1 h2
theorem grow_fun {d : Doms} {us : List Int} (h : us.Nodup) {t : List Int} : t ∈ growR (us.map (domAt d)) us.length ↔ ∃ f : Int → Int, t = us.map f ∧ ∀ v ∈ us, f v ∈ vals (domAt d v) := by
  rw [mem_growR]
  have hD : ∀ k (hk : k < us.length), (us.map (domAt d)).getD k [] = domAt d us[k] := fun k hk => by
    rw [List.getD_eq_getElem?_getD, List.getElem?_map, List.getElem?_eq_getElem hk]; rfl
  constructor
  · rintro ⟨hl, hk⟩
    refine ⟨fun v => t.getD (us.idxOf v) 0, ?_, fun v hv => ?_⟩
    · apply List.ext_getElem (by simp [hl])
      intro k h1 h2
      have h3 : k < us.length := by simpa using h2
      rw [List.getElem_map, nodup_idx h h3, List.getD_eq_getElem?_getD, List.getElem?_eq_getElem h1]; rfl
    · obtain ⟨k, hk2, rfl⟩ := List.getElem_of_mem hv
      have := hk k hk2
      rw [hD k hk2] at this
      simp only [nodup_idx h hk2]
      exact this
  · rintro ⟨f, rfl, hf⟩
    refine ⟨by simp, fun k hk => ?_⟩
    rw [hD k hk, List.getD_eq_getElem?_getD, List.getElem?_map, List.getElem?_eq_getElem hk]
    exact hf _ (List.getElem_mem hk)
/-- Places of a list, written one after the other. -/
theorem foldl_set_at {α : Type} (f : Int → α) : ∀ (us : List Int) (a : List α) (i : Nat), (∀ u ∈ us, 0 ≤ u) → (us.foldl (fun a u => a.set u.toNat (f u)) a)[i]? = if (i : Int) ∈ us ∧ i < a.length then some (f i) else a[i]?
  | [], a, i, _ => by simp
  | u :: us, a, i, h => by
    rw [List.foldl_cons, foldl_set_at f us _ i fun v hv => h v (.tail _ hv)]
    have hu := h u (.head _)
    simp only [List.length_set, List.mem_cons]
    by_cases h1 : (i : Int) ∈ us ∧ i < a.length
    · rw [if_pos h1, if_pos ⟨.inr h1.1, h1.2⟩]
    · rw [if_neg h1, List.getElem?_set]
      by_cases e : u.toNat = i
      · have e2 : (i : Int) = u := by omega
        rw [if_pos e]
        by_cases hl : i < a.length
        · rw [if_pos (by omega), if_pos ⟨.inl e2, hl⟩, e2]
        · rw [if_neg (by omega), if_neg (fun h => hl h.2), List.getElem?_eq_none (by omega)]
      · rw [if_neg e, if_neg]
        rintro ⟨h2 | h2, h3⟩
        · omega
        · exact h1 ⟨h2, h3⟩
theorem zip_foldl {β γ : Type} (g : Int → β) (st : γ → Int × β → γ) : ∀ (us : List Int) (a : γ), (us.zip (us.map g)).foldl st a = us.foldl (fun a u => st a (u, g u)) a
  | [], _ => rfl
  | u :: us, a => by rw [List.map_cons, List.zip_cons_cons, List.foldl_cons, List.foldl_cons, zip_foldl g st us]
theorem fillW_at {n : Nat} {us : List Int} (f : Int → Int) (h0 : ∀ u ∈ us, 0 ≤ u ∧ u.toNat < n) {v : Int} (hv : v ∈ us) : atR (fillW n us (us.map f) us.length) v = f v := by
  have hl := fillW_len n us (us.map f) us.length
  have h1 := h0 v hv
  have e : fillW n us (us.map f) us.length = us.foldl (fun a u => a.set u.toNat (f u)) (List.replicate n 0) := by
    unfold fillW
    rw [List.take_of_length_le (by simp), zip_foldl (γ := List Int) f]
  unfold atR
  rw [if_neg (by omega), List.getD_eq_getElem?_getD, e, foldl_set_at f us _ _ (fun u hu => (h0 u hu).1), Int.toNat_of_nonneg h1.1, if_pos ⟨hv, by simpa using h1.2⟩]
  rfl
/-- A value is supported. -/
def SuppK (d : Doms) (us : List Int) (P : List Int → Bool) (v x : Int) : Prop := ∃ f : Int → Int, (∀ u ∈ us, f u ∈ vals (domAt d u)) ∧ P (us.map f) = true ∧ f v = x
theorem puts_at {d : Doms} {us : List Int} {P : List Int → Bool} (hn : us.Nodup) (h0 : ∀ u ∈ us, 0 ≤ u ∧ u.toNat < d.length) (i : Nat) :
    ((i : Int) ∉ us → (putsW d us (keepsW P us.length (growR (us.map (domAt d)) us.length)) us.length)[i]? = d[i]?) ∧
    ((i : Int) ∈ us → ∃ y, (putsW d us (keepsW P us.length (growR (us.map (domAt d)) us.length)) us.length)[i]? = some y ∧ DomOk y ∧ ∀ x, x ∈ vals y ↔ SuppK d us P i x) := by
  let G : Int → List Int := fun v => ((growR (us.map (domAt d)) us.length).filter P).map (·.getD (us.idxOf v) 0)
  have hG : ∀ v ∈ us, ∀ x, x ∈ G v ↔ SuppK d us P v x := by
    intro v hv x
    have hk : us.idxOf v < us.length := List.idxOf_lt_length_iff.2 hv
    have hf : ∀ f : Int → Int, (us.map f).getD (us.idxOf v) 0 = f v := fun f => by
      rw [List.getD_eq_getElem?_getD, List.getElem?_map, List.getElem?_eq_getElem hk, List.getElem_idxOf]; rfl
    simp only [G, List.mem_map, List.mem_filter]
    constructor
    · rintro ⟨t, ⟨ht, hp⟩, rfl⟩
      obtain ⟨f, rfl, h⟩ := (grow_fun hn).1 ht
      exact ⟨f, h, hp, (hf f).symm⟩
    · rintro ⟨f, h, hp, rfl⟩
      exact ⟨us.map f, ⟨(grow_fun hn).2 ⟨f, rfl, h⟩, hp⟩, hf f⟩
  have hks : keepsW P us.length (growR (us.map (domAt d)) us.length) = us.map G := by
    apply List.ext_getElem (by simp [keepsW])
    intro k h1 h2
    have h3 : k < us.length := by simpa using h2
    simp only [keepsW, List.getElem_map, List.getElem_range, G, nodup_idx hn h3]
  have e : putsW d us (keepsW P us.length (growR (us.map (domAt d)) us.length)) us.length = us.foldl (fun a u => a.set u.toNat (pack (sortU (G u)))) d := by
    rw [hks]
    unfold putsW
    rw [List.take_of_length_le (by simp), zip_foldl (γ := Doms) G]
  rw [e, foldl_set_at (fun u => pack (sortU (G u))) us d i fun u hu => (h0 u hu).1]
  constructor
  · intro h; rw [if_neg fun h2 => h h2.1]
  · intro h
    have := h0 _ h
    rw [if_pos ⟨h, by simpa using this.2⟩]
    refine ⟨_, rfl, pack_ok (sortU_up _), fun x => ?_⟩
    rw [vals_pack (sortU_up _), sortU_mem]
    exact hG _ h x
/-- WHAT IS KEPT IS WHAT IS SUPPORTED. -/
theorem kept_eq {d out : Doms} {us : List Int} {P : List Int → Bool} (hn : us.Nodup) (h0 : ∀ u ∈ us, 0 ≤ u ∧ u.toNat < d.length) (hl : out.length = d.length) (hok : ∀ x ∈ out, DomOk x)
    (h1 : ∀ v ∈ us, ∀ x, x ∈ vals (domAt out v) ↔ SuppK d us P v x) (h2 : ∀ i : Nat, (i : Int) ∉ us → out[i]? = d[i]?) : putsW d us (keepsW P us.length (growR (us.map (domAt d)) us.length)) us.length = out := by
  apply List.ext_getElem?
  intro i
  obtain ⟨h3, h4⟩ := puts_at (P := P) hn h0 i
  by_cases hi : (i : Int) ∈ us
  · obtain ⟨y, hy, hd, hx⟩ := h4 hi
    have hlt := (h0 _ hi).2
    have ho : out[i]? = some (domAt out i) := by
      have := domAt_some (d := out) (v := (i : Int)) (by omega)
      simpa using this
    rw [hy, ho]
    congr 1
    refine dom_ext hd (hok _ (List.mem_of_getElem? ho)) (up_ext (vals_up hd) (vals_up (hok _ (List.mem_of_getElem? ho))) fun x => ?_)
    rw [hx x, h1 _ hi x]
  · rw [h3 hi, h2 i hi]
end Go.Proofs.Ytchajofdjeijfaa
/-! The statement LogicClauses: what its function answers. -/
namespace Go.Proofs.Ytchajofdjeijfaa
open Go Go.RowKit
set_option linter.unusedVariables false
set_option linter.unusedSimpArgs false
set_option maxRecDepth 8000

def clP (d : Doms) (c : Con) (us t : List Int) : Bool := holdsR c (fillW d.length us t us.length)
theorem lit_iff {x k : Int} (hk : k = 1 ∨ k = -1) : litH (x, k) = true ↔ x = litW k := by
  rcases hk with rfl | rfl
  · rw [lit_1]; simp [litH]
  · rw [lit_m]; simp [litH]
theorem clP_iff {d : Doms} {c : Con} (h : ClOk d c) (hk : c.kind = 5) (f : Int → Int) : clP d c (sortU c.vars) ((sortU c.vars).map f) = true ↔ ∃ p ∈ c.vars.zip c.coefs, f p.1 = litW p.2 := by
  have hin : ∀ u ∈ sortU c.vars, 0 ≤ u ∧ u.toNat < d.length := fun u hu => h.vin u ((sortU_mem u _).1 hu)
  have hat : ∀ v ∈ c.vars, atR (fillW d.length (sortU c.vars) ((sortU c.vars).map f) (sortU c.vars).length) v = f v := fun v hv => fillW_at f hin ((sortU_mem v _).2 hv)
  have hp : pickedR c.vars (fillW d.length (sortU c.vars) ((sortU c.vars).map f) (sortU c.vars).length) = c.vars.map f := List.map_congr_left fun v hv => hat v hv
  unfold clP holdsR
  rw [if_neg (by omega), if_neg (by omega), if_neg (by omega), if_neg (by omega), if_neg (by omega), if_pos hk, hp, List.any_eq_true]
  constructor
  · rintro ⟨q, hq, hl⟩
    obtain ⟨i, hi⟩ := List.getElem?_of_mem hq
    rw [List.getElem?_zip_eq_some] at hi
    obtain ⟨h1, h2⟩ := hi
    rw [List.getElem?_map] at h1
    obtain ⟨v, hv, e⟩ := Option.map_eq_some_iff.1 h1
    refine ⟨(v, q.2), List.mem_of_getElem? (i := i) (List.getElem?_zip_eq_some.2 ⟨hv, h2⟩), ?_⟩
    rw [show q = (q.1, q.2) from rfl, lit_iff (h.unit _ (List.mem_of_getElem? h2))] at hl
    rw [← hl, ← e]
  · rintro ⟨p, hp, e⟩
    obtain ⟨i, hi⟩ := List.getElem?_of_mem hp
    rw [List.getElem?_zip_eq_some] at hi
    refine ⟨(f p.1, p.2), List.mem_of_getElem? (i := i) (List.getElem?_zip_eq_some.2 ⟨by rw [List.getElem?_map, hi.1]; rfl, hi.2⟩), ?_⟩
    rw [lit_iff (h.unit _ (List.mem_of_getElem? hi.2))]
    exact e
theorem has_iff {d : List (Int × Int)} {v : Int} : hasV d v = true ↔ v ∈ vals d := by
  rw [mem_vals]
  simp [hasV]
theorem zip_inj {c : Con} (hn : c.vars.Nodup) {p q : Int × Int} (hp : p ∈ c.vars.zip c.coefs) (hq : q ∈ c.vars.zip c.coefs) (h : p.1 = q.1) : p = q := by
  obtain ⟨i, hi⟩ := List.getElem?_of_mem hp
  obtain ⟨j, hj⟩ := List.getElem?_of_mem hq
  have e : i = j := by
    rw [List.getElem?_zip_eq_some] at hi hj
    obtain ⟨h1, h2⟩ := List.getElem?_eq_some_iff.1 hi.1
    obtain ⟨h3, h4⟩ := List.getElem?_eq_some_iff.1 hj.1
    exact (List.getElem_inj hn).1 (h2.trans (h.trans h4.symm))
  subst e
  exact Option.some.inj (hi.symm.trans hj)
theorem clause_kept {d : Doms} {c : Con} (h : ClOk d c) (hk : c.kind = 5) (hf : ∀ x ∈ d, Fine x) : keptR d (sortU c.vars) (clP d c (sortU c.vars)) = clauseW d c := by
  have hus : ∀ u, u ∈ sortU c.vars ↔ u ∈ c.vars := fun u => sortU_mem u _
  have hnd : (sortU c.vars).Nodup := up_nodup (sortU_up _)
  have hin : ∀ u ∈ sortU c.vars, 0 ≤ u ∧ u.toNat < d.length := fun u hu => h.vin u ((hus u).1 hu)
  have hP := clP_iff h hk
  have hpv : ∀ p ∈ c.vars.zip c.coefs, p.1 ∈ c.vars := fun p hp => (List.of_mem_zip hp).1
  have hlb : ∀ p, litB d p = true ↔ litW p.2 ∈ vals (domAt d p.1) := fun p => has_iff
  unfold keptR
  rw [clauseW_eq h.len]
  by_cases hm : [] ∈ d
  · rw [if_pos hm, if_pos hm]
  rw [if_neg hm, if_neg hm]
  have hne : ∀ v ∈ c.vars, ∃ x, x ∈ vals (domAt d v) := by
    intro v hv
    have hd := hf _ (domAt_mem (h.vin v hv).2)
    have : domAt d v ≠ [] := fun e => hm (e ▸ domAt_mem (h.vin v hv).2)
    exact ⟨_, least_mem hd.ok this⟩
  -- values of one's own for all, but for some that are told
  obtain ⟨g, hg⟩ : ∃ g : Int → Int, ∀ v ∈ c.vars, g v ∈ vals (domAt d v) := ⟨fun v => leastR (domAt d v), fun v hv => least_mem (hf _ (domAt_mem (h.vin v hv).2)).ok fun e => hm (e ▸ domAt_mem (h.vin v hv).2)⟩
  cases hL : (c.vars.zip c.coefs).filter (litB d) with
  | nil =>
    have hno : ∀ p ∈ c.vars.zip c.coefs, litB d p = false := fun p hp => by
      have := List.filter_eq_nil_iff.1 hL p hp
      simpa using this
    obtain ⟨v, hv⟩ : ∃ v, v ∈ c.vars := ⟨c.vars[0]'h.pos, List.getElem_mem _⟩
    have hvi := h.vin v hv
    obtain ⟨y, hy, hyd, hyv⟩ := (puts_at (P := clP d c (sortU c.vars)) hnd hin v.toNat).2 (by rw [Int.toNat_of_nonneg hvi.1]; exact (hus v).2 hv)
    have hy0 : y = [] := by
      refine (vals_ne hyd).1 (List.eq_nil_iff_forall_not_mem.2 fun x hx => ?_)
      obtain ⟨f, hf1, hf2, _⟩ := (hyv x).1 hx
      obtain ⟨p, hp, e⟩ := (hP f).1 hf2
      have := hf1 p.1 ((hus _).2 (hpv p hp))
      rw [e] at this
      have := hno p hp
      rw [(hlb p).2 ‹_›] at this
      cases this
    subst hy0
    unfold toldO
    rw [if_pos (List.mem_of_getElem? hy)]
    rfl
  | cons p l =>
    have hp : p ∈ c.vars.zip c.coefs ∧ litB d p = true := List.mem_filter.1 (by rw [hL]; exact .head _)
    have hpl := (hlb p).1 hp.2
    have hpi := h.vin _ (hpv p hp.1)
    have hpd := hf _ (domAt_mem hpi.2)
    cases l with
    | nil =>
      obtain ⟨hc1, hc2⟩ := domCut_ok hpd.ok (litW p.2) (litW p.2)
      have hcv : ∀ x, x ∈ vals (domCut (domAt d p.1) (litW p.2) (litW p.2)) ↔ x = litW p.2 := fun x => by
        rw [hc2]
        constructor
        · rintro ⟨_, h1, h2⟩; omega
        · rintro rfl; exact ⟨hpl, by omega, by omega⟩
      have hcn : domCut (domAt d p.1) (litW p.2) (litW p.2) ≠ [] := fun e => by
        have := (hcv (litW p.2)).2 rfl
        rw [e] at this
        cases this
      have honly : ∀ q ∈ c.vars.zip c.coefs, litB d q = true → q = p := fun q hq hb => by
        have : q ∈ (c.vars.zip c.coefs).filter (litB d) := List.mem_filter.2 ⟨hq, hb⟩
        rw [hL] at this
        simpa using this
      have hkeep : clF d [p] = some (d.set p.1.toNat (domCut (domAt d p.1) (litW p.2) (litW p.2))) := by
        show keepO d p.1 (litW p.2) = _
        unfold keepO
        rw [if_neg hcn]
      rw [hkeep, kept_eq (out := d.set p.1.toNat (domCut (domAt d p.1) (litW p.2) (litW p.2))) hnd hin (by simp) ?_ ?_ ?_]
      · unfold toldO
        rw [if_neg fun hc => hcn ((set_empty hpi.2 hm).1 hc)]
      · intro x hx
        rcases List.mem_or_eq_of_mem_set hx with hx | rfl
        · exact (hf x hx).ok
        · exact hc1
      · intro v hv x
        have hvc := (hus v).1 hv
        have hvi := h.vin v hvc
        rw [domAt_set hpi.2]
        by_cases e : p.1.toNat = v.toNat
        · have e2 : p.1 = v := by omega
          rw [if_pos e, hcv]
          subst e2
          constructor
          · rintro rfl
            refine ⟨fun u => if u = p.1 then litW p.2 else g u, fun u hu => ?_, (hP _).2 ⟨p, hp.1, if_pos rfl⟩, if_pos rfl⟩
            by_cases e3 : u = p.1
            · simp only [e3, if_true]; exact hpl
            · simp only [e3, if_false]; exact hg u ((hus u).1 hu)
          · rintro ⟨f, hf1, hf2, rfl⟩
            obtain ⟨q, hq, e3⟩ := (hP f).1 hf2
            have := hf1 q.1 ((hus _).2 (hpv q hq))
            rw [e3] at this
            have := honly q hq ((hlb q).2 this)
            subst this
            exact e3
        · have e2 : p.1 ≠ v := fun e2 => e (by rw [e2])
          rw [if_neg e]
          constructor
          · intro hx
            refine ⟨fun u => if u = p.1 then litW p.2 else if u = v then x else g u, fun u hu => ?_, (hP _).2 ⟨p, hp.1, if_pos rfl⟩, by simp only [Ne.symm e2, if_false, if_true]⟩
            by_cases e3 : u = p.1
            · simp only [e3, if_true]; exact hpl
            · by_cases e4 : u = v
              · subst e4; simp only [e3, if_false, if_true]; exact hx
              · simp only [e3, e4, if_false]; exact hg u ((hus u).1 hu)
          · rintro ⟨f, hf1, _, rfl⟩
            exact hf1 v hv
      · intro i hi
        rw [List.getElem?_set_ne]
        rintro rfl
        exact hi (by rw [Int.toNat_of_nonneg hpi.1]; exact (hus _).2 (hpv p hp.1))
    | cons q l =>
      have hq : q ∈ c.vars.zip c.coefs ∧ litB d q = true := List.mem_filter.1 (by rw [hL]; exact .tail _ (.head _))
      have hql := (hlb q).1 hq.2
      have hpq : p.1 ≠ q.1 := by
        intro e
        have e2 := zip_inj h.nod hp.1 hq.1 e
        have hz : (c.vars.zip c.coefs).Nodup := by
          refine List.Pairwise.of_map (S := (· ≠ ·)) Prod.fst (fun a b hne e => hne (by rw [e])) ?_
          rw [List.map_fst_zip (by rw [h.len]; exact Nat.le_refl _)]
          exact h.nod
        have := hz.filter (litB d)
        rw [hL, e2] at this
        simp at this
      have hcl : clF d (p :: q :: l) = some d := rfl
      rw [hcl, kept_eq (out := d) hnd hin rfl (fun x hx => (hf x hx).ok) ?_ (fun _ _ => rfl)]
      · unfold toldO; rw [if_neg hm]
      · intro v hv x
        constructor
        · intro hx
          obtain ⟨r, hr, hrv⟩ : ∃ r, (r ∈ c.vars.zip c.coefs ∧ litW r.2 ∈ vals (domAt d r.1)) ∧ r.1 ≠ v := by
            by_cases e : p.1 = v
            · exact ⟨q, ⟨hq.1, hql⟩, fun e2 => hpq (e.trans e2.symm)⟩
            · exact ⟨p, ⟨hp.1, hpl⟩, e⟩
          refine ⟨fun u => if u = r.1 then litW r.2 else if u = v then x else g u, fun u hu => ?_, (hP _).2 ⟨r, hr.1, if_pos rfl⟩, by simp only [Ne.symm hrv, if_false, if_true]⟩
          by_cases e3 : u = r.1
          · simp only [e3, if_true]; exact hr.2
          · by_cases e4 : u = v
            · subst e4; simp only [e3, if_false, if_true]; exact hx
            · simp only [e3, e4, if_false]; exact hg u ((hus u).1 hu)
        · rintro ⟨f, hf1, _, rfl⟩
          exact hf1 v hv
theorem rclause_spec (d : Doms) (c : Con) (us : List Int) (hu : us = sortU c.vars) (P : List Int → Bool) (hcl : c.vars.length * 8 ≤ 140737488355328) (hk : Spec Try.prog 71 false [doms d, .agg (cC c), ints us] [.val (doms ((keptR d us P).getD [])), .val (.bool (keptR d us P).isSome)]) :
    Spec Try.prog 35 false [doms d, .agg (cC c)] [.val (doms ((keptR d us P).getD [])), .val (.bool (keptR d us P).isSome)] := by
  refine Spec.body Try.func35 rfl rfl rfl fun w0 Z0 => ?_
  have hso := sorted_spec c.vars hcl
  rw [← hu] at hso
  generalize (keptR d us P).getD [] = D at *
  generalize (keptR d us P).isSome = b at *
  repeat' ((first | refine T.G rfl ?_ | refine J.G rfl ?_ | refine J.H rfl ?_ | refine T.rd rfl (by decide +kernel) ?_ | fail); conv => whnf)
  refine J.cc rfl rfl rfl rfl rfl hso rfl rfl ?_
  repeat' ((first | refine T.G rfl ?_ | refine J.G rfl ?_ | refine J.H rfl ?_ | refine T.rd rfl (by decide +kernel) ?_ | fail); conv => whnf)
  refine J.cc rfl rfl rfl rfl rfl hk rfl rfl ?_
  repeat' ((first | refine T.G rfl ?_ | refine J.G rfl ?_ | refine J.H rfl ?_ | refine T.rd rfl (by decide +kernel) ?_ | fail); conv => whnf)
  exact ⟨_, .v rfl rfl rfl (fun _ => rfl) (.v rfl rfl rfl (fun _ => rfl) .nil)⟩
theorem grow_count {D : Doms} (hD : ∀ x ∈ D, (vals x).length ≤ 2) : ∀ n, n ≤ D.length → (growR D n).length ≤ 2 ^ n
  | 0, _ => by simp [growR]
  | n + 1, hn => by
    have ih := grow_count hD n (by omega)
    have hx : (vals (D.getD n [])).length ≤ 2 := by
      rw [List.getD_eq_getElem?_getD, List.getElem?_eq_getElem (by omega)]
      exact hD _ (List.getElem_mem _)
    have : ∀ (l : List (List Int)) (v : List Int), (l.flatMap fun a => v.map fun v => a ++ [v]).length = l.length * v.length := by
      intro l v
      induction l with
      | nil => simp
      | cons a l ih => rw [List.flatMap_cons, List.length_append, ih, List.length_map, List.length_cons, Nat.succ_mul]; omega
    rw [growR, this, Nat.pow_succ]
    exact Nat.mul_le_mul ih hx
theorem truth_two {x : List (Int × Int)} (h : DomOk x) (ht : truthR x = true) : (vals x).length ≤ 2 := by
  rcases truth_cases h ht with rfl | rfl | rfl | rfl <;> decide
theorem clause_specs {d : Doms} {c : Con} (h : ClOk d c) (hcb : ConB c) (hk : c.kind = 5) (hf : ∀ x ∈ d, Fine x) (hdl : d.length ≤ 4) :
    Spec Try.prog 35 false [doms d, .agg (cC c)] [.val (doms ((clauseW d c).getD [])), .val (.bool (clauseW d c).isSome)] := by
  have hus : ∀ u, u ∈ sortU c.vars ↔ u ∈ c.vars := fun u => sortU_mem u _
  have hnd : (sortU c.vars).Nodup := up_nodup (sortU_up _)
  have hin : ∀ u ∈ sortU c.vars, 0 ≤ u ∧ u.toNat < d.length := fun u hu => h.vin u ((hus u).1 hu)
  have hul : (sortU c.vars).length ≤ 4 := by
    have h1 : ((sortU c.vars).map Int.toNat).Nodup := by
      exact List.pairwise_map.2 (hnd.imp_of_mem fun {x y} hx hy hne e => hne (by have := hin x hx; have := hin y hy; omega))
    have h2 := h1.length_le_of_subset (l₂ := List.range d.length) fun x hx => by
      obtain ⟨u, hu, rfl⟩ := List.mem_map.1 hx
      exact List.mem_range.2 (hin u hu).2
    simp at h2
    omega
  have htw : ∀ x ∈ (sortU c.vars).map (domAt d), (vals x).length ≤ 2 := by
    intro x hx
    obtain ⟨u, hu, rfl⟩ := List.mem_map.1 hx
    exact truth_two (hf _ (domAt_mem (hin u hu).2)).ok (h.truth u ((hus u).1 hu))
  have hct : ∀ m, m ≤ (sortU c.vars).length → (growR ((sortU c.vars).map (domAt d)) m).length ≤ 16 := by
    intro m hm
    have h1 := grow_count htw m (by simpa using hm)
    have h2 : 2 ^ m ≤ 2 ^ 4 := Nat.pow_le_pow_right (by decide) (by omega)
    omega
  have := kept_spec d c (sortU c.vars) (clP d c (sortU c.vars)) (fun x hx => (hf x hx).domB) (by omega) (by omega) hin (fun m hm => by have := hct m hm; omega) ?_ ?_
  · have h2 := rclause_spec d c _ rfl _ h.vl this
    rwa [clause_kept h hk hf] at h2
  · intro t ht v hv
    obtain ⟨f, rfl, hfv⟩ := (grow_fun hnd).1 ht
    obtain ⟨u, hu, rfl⟩ := List.mem_map.1 hv
    exact (hf _ (domAt_mem (hin u hu).2)).val _ (hfv u hu)
  · intro t ht
    exact holds_spec c _ hcb (by rw [fillW_len]; omega) (fun _ => by rw [h.len]; exact Nat.le_refl _) (fun e => by omega)
theorem law_clauses (o : Case) (ho : CaseB o) : Spec Try.prog 7 true [.agg (cCase o)] [.val (.bool true)] := by
  refine Spec.body Try.func7 rfl rfl rfl fun w0 Z0 => ?_
  have ho1 := truthCase_B ho
  have htr := (truths_spec o.d ho.2.1 ho.2.2).frz
  have hlaid := laid_spec (truthCase o) 5 ho1
  have hcb := laid_conB ho1 5
  have hf := laid_fine (truthCase o)
  have hlen := laid_len (truthCase o)
  have hin := fun h => clause_in (d := laidD (truthCase o)) (c := laidC (truthCase o) 5) hcb h rfl
  have hk5 : (laidC (truthCase o) 5).kind = 5 := rfl
  have hok : laidOK (truthCase o) 5 = decide (conR (laidD (truthCase o)) (laidC (truthCase o) 5) = 0) := rfl
  have hsmall := laid_small (truthCase o)
  generalize laidD (truthCase o) = d at *
  generalize laidC (truthCase o) 5 = c at *
  generalize laidOK (truthCase o) 5 = ok at *
  repeat' first | refine T.seq ?_ | refine T.block ?_ | refine T.r ?_ | refine J.e rfl rfl rfl rfl ?_ | refine J.nil ?_ | refine J.skip rfl rfl rfl ?_ | refine T.skip ?_ | refine T.exit ?_ | refine T.ret ?_ | refine T.rd rfl (by kernel_rfl) ?_ | refine J.bx rfl rfl rfl rfl rfl rfl ?_
  refine J.cc rfl rfl rfl rfl rfl htr rfl rfl ?_
  repeat' first | refine T.seq ?_ | refine T.block ?_ | refine T.r ?_ | refine J.e rfl rfl rfl rfl ?_ | refine J.nil ?_ | refine J.skip rfl rfl rfl ?_ | refine T.skip ?_ | refine T.exit ?_ | refine T.ret ?_ | refine T.rd rfl (by kernel_rfl) ?_ | refine J.bx rfl rfl rfl rfl rfl rfl ?_
  refine J.w rfl rfl rfl rfl rfl rfl rfl rfl rfl rfl ?_
  repeat' first | refine T.seq ?_ | refine T.block ?_ | refine T.r ?_ | refine J.e rfl rfl rfl rfl ?_ | refine J.nil ?_ | refine J.skip rfl rfl rfl ?_ | refine T.skip ?_ | refine T.exit ?_ | refine T.ret ?_ | refine T.rd rfl (by kernel_rfl) ?_ | refine J.bx rfl rfl rfl rfl rfl rfl ?_
  refine J.cc rfl rfl rfl rfl rfl hlaid rfl rfl ?_
  repeat' first | refine T.seq ?_ | refine T.block ?_ | refine T.r ?_ | refine J.e rfl rfl rfl rfl ?_ | refine J.nil ?_ | refine J.skip rfl rfl rfl ?_ | refine T.skip ?_ | refine T.exit ?_ | refine T.ret ?_ | refine T.rd rfl (by kernel_rfl) ?_ | refine J.bx rfl rfl rfl rfl rfl rfl ?_
  refine J.al rfl rfl rfl rfl rfl rfl rfl ?_
  repeat' first | refine T.seq ?_ | refine T.block ?_ | refine T.r ?_ | refine J.e rfl rfl rfl rfl ?_ | refine J.nil ?_ | refine J.skip rfl rfl rfl ?_ | refine T.skip ?_ | refine T.exit ?_ | refine T.ret ?_ | refine T.rd rfl (by kernel_rfl) ?_ | refine J.bx rfl rfl rfl rfl rfl rfl ?_
  refine J.w rfl rfl rfl rfl rfl rfl rfl rfl rfl rfl ?_
  repeat' first | refine T.seq ?_ | refine T.block ?_ | refine T.r ?_ | refine J.e rfl rfl rfl rfl ?_ | refine J.nil ?_ | refine J.skip rfl rfl rfl ?_ | refine T.skip ?_ | refine T.exit ?_ | refine T.ret ?_ | refine T.rd rfl (by kernel_rfl) ?_ | refine J.bx rfl rfl rfl rfl rfl rfl ?_
  cases ok
  · refine T.ct rfl ?_
    repeat' first | refine T.seq ?_ | refine T.block ?_ | refine T.r ?_ | refine J.e rfl rfl rfl rfl ?_ | refine J.nil ?_ | refine J.skip rfl rfl rfl ?_ | refine T.skip ?_ | refine T.exit ?_ | refine T.ret ?_ | refine T.rd rfl (by kernel_rfl) ?_ | refine J.bx rfl rfl rfl rfl rfl rfl ?_
    refine J.cc rfl rfl rfl rfl rfl gfixed_spec rfl rfl ?_
    repeat' first | refine T.seq ?_ | refine T.block ?_ | refine T.r ?_ | refine J.e rfl rfl rfl rfl ?_ | refine J.nil ?_ | refine J.skip rfl rfl rfl ?_ | refine T.skip ?_ | refine T.exit ?_ | refine T.ret ?_ | refine T.rd rfl (by kernel_rfl) ?_ | refine J.bx rfl rfl rfl rfl rfl rfl ?_
    exact ⟨_, .v rfl rfl rfl (fun h => by cases h) .nil⟩
  · refine T.cf rfl ?_
    have hcl := hin (by simpa using hok.symm)
    have hpr : Spec Try.prog 34 false [doms d, .agg (cC c)] [.val (doms ((clauseW d c).getD [])), .val (.bool (clauseW d c).isSome)] := (lclause_spec d c (clin_in hcl (by omega) fun x hx => by have := hsmall x hx; omega)).frz
    have hpr2 := clause_specs hcl hcb hk5 hf hlen
    have hres := fun out h => clauseW_some (out := out) hcl h hf
    generalize clauseW d c = R at *
    have hsd := sames_spec d d (by omega) (fun x hx => by have := (hf x hx).len; omega)
    rw [decide_eq_true rfl] at hsd
    have hRl : (R.getD []).length ≤ 4 ∧ ∀ x ∈ R.getD [], x.length * 16 + 1048576 ≤ 140737488355328 := by
      cases R with
      | none => exact ⟨by simp, by simp⟩
      | some out => exact ⟨by simp only [Option.getD_some]; rw [(hres out rfl).1]; omega, fun x hx => ((hres out rfl).2.2 x hx).len⟩
    have hsr := sames_spec (R.getD []) (R.getD []) (by omega) (fun x hx => by have := hRl.2 x hx; omega)
    rw [decide_eq_true rfl] at hsr
    refine T.skip ?_
    refine T.seq ?_
    refine T.r ?_
    repeat' first | refine J.e rfl rfl rfl rfl ?_ | refine J.skip rfl rfl rfl ?_ | refine J.bx rfl rfl rfl rfl rfl rfl ?_
    refine J.cc rfl rfl rfl rfl rfl (lists_spec d (by omega) (fun x hx => by have := (hf x hx).len; omega)) rfl rfl ?_
    repeat' first | refine J.e rfl rfl rfl rfl ?_ | refine J.skip rfl rfl rfl ?_ | refine J.bx rfl rfl rfl rfl rfl rfl ?_
    refine J.nil ?_
    refine T.sub (Rel.frz (s := 3) (fun _ h => h) rfl rfl) ?_
    refine T.sub (Rel.frz (s := 6) (fun _ h => h) rfl rfl) ?_
    refine T.sub (Rel.unbx (s := 4) (fun _ h => h) rfl rfl) ?_
    refine T.canon (keep := [3, 4, 6]) (os := []) rfl ?_
    refine T.snap [3, 6] [4] fun w1 vs hfx => ?_
    have hfx3 := hfx 3 _ _ rfl
    have hfx6 := hfx 6 _ _ rfl
    clear hfx
    generalize R.getD [] = D at *
    generalize R.isSome = bs at *
    repeat' first | refine T.seq ?_ | refine T.block ?_ | refine T.r ?_ | refine J.e rfl rfl rfl rfl ?_ | refine J.nil ?_ | refine J.skip rfl rfl rfl ?_ | refine T.skip ?_ | refine T.exit ?_ | refine T.ret ?_ | refine T.rd rfl (by kernel_rfl) ?_ | refine J.bx rfl rfl rfl rfl rfl rfl ?_
    refine J.cc rfl rfl rfl rfl rfl hpr rfl rfl ?_
    repeat' first | refine T.seq ?_ | refine T.block ?_ | refine T.r ?_ | refine J.e rfl rfl rfl rfl ?_ | refine J.nil ?_ | refine J.skip rfl rfl rfl ?_ | refine T.skip ?_ | refine T.exit ?_ | refine T.ret ?_ | refine T.rd rfl (by kernel_rfl) ?_ | refine J.bx rfl rfl rfl rfl rfl rfl ?_
    refine J.cc rfl rfl rfl rfl rfl hpr2 rfl rfl ?_
    repeat' first | refine T.seq ?_ | refine T.block ?_ | refine T.r ?_ | refine J.e rfl rfl rfl rfl ?_ | refine J.nil ?_ | refine J.skip rfl rfl rfl ?_ | refine T.skip ?_ | refine T.exit ?_ | refine T.ret ?_ | refine T.rd rfl (by kernel_rfl) ?_ | refine J.bx rfl rfl rfl rfl rfl rfl ?_
    cases bs
    all_goals
      repeat' first | refine T.seq ?_ | refine T.block ?_ | refine T.r ?_ | refine J.e rfl rfl rfl rfl ?_ | refine J.nil ?_ | refine J.skip rfl rfl rfl ?_ | refine T.skip ?_ | refine T.exit ?_ | refine T.ret ?_ | refine T.rd rfl (by kernel_rfl) ?_ | refine J.bx rfl rfl rfl rfl rfl rfl ?_
      refine J.cc rfl rfl rfl rfl rfl hsr rfl rfl ?_
      repeat' first | refine T.seq ?_ | refine T.block ?_ | refine T.r ?_ | refine J.e rfl rfl rfl rfl ?_ | refine J.nil ?_ | refine J.skip rfl rfl rfl ?_ | refine T.skip ?_ | refine T.exit ?_ | refine T.ret ?_ | refine T.rd rfl (by kernel_rfl) ?_ | refine J.bx rfl rfl rfl rfl rfl rfl ?_
      refine T.cf rfl ?_
      repeat' first | refine T.seq ?_ | refine T.block ?_ | refine T.r ?_ | refine J.e rfl rfl rfl rfl ?_ | refine J.nil ?_ | refine J.skip rfl rfl rfl ?_ | refine T.skip ?_ | refine T.exit ?_ | refine T.ret ?_ | refine T.rd rfl (by kernel_rfl) ?_ | refine J.bx rfl rfl rfl rfl rfl rfl ?_
      refine T.canon (keep := [3, 6, 7, 11]) (os := []) rfl (T.ind (fun s : Nat × Doms => ⟨[(3, .fix (vs 3) (doms d)), (6, .fix (vs 6) (doms d)), (7, .val true (doms s.2)), (11, .val true (.int .i64 s.1))], [], 0⟩) (fun s => s.1 ≤ D.length ∧ s.2.map List.length = D.map List.length) (fun s => D.length - s.1) (0, D) ⟨by simp, rfl⟩ (fun _ _ h => h) ?_)
      rintro ⟨i, D1⟩ ⟨hi, hD1⟩ ih
      have hl1 : D1.length = D.length := by have := congrArg List.length hD1; simpa using this
      repeat' first | refine T.seq ?_ | refine T.block ?_ | refine T.r ?_ | refine J.e rfl rfl rfl rfl ?_ | refine J.nil ?_ | refine J.skip rfl rfl rfl ?_ | refine T.skip ?_ | refine T.exit ?_ | refine T.ret ?_ | refine T.rd rfl (by kernel_rfl) ?_ | refine J.bx rfl rfl rfl rfl rfl rfl ?_
      refine T.cd rfl (fun h4 => ?_) (fun h4 => ?_)
      · have h4 : i < D1.length := by simpa using h4
        repeat' first | refine T.seq ?_ | refine T.block ?_ | refine T.r ?_ | refine J.e rfl rfl rfl rfl ?_ | refine J.nil ?_ | refine J.skip rfl rfl rfl ?_ | refine T.skip ?_ | refine T.exit ?_ | refine T.ret ?_ | refine T.rd rfl (by kernel_rfl) ?_ | refine J.bx rfl rfl rfl rfl rfl rfl ?_
        refine T.canon (keep := [3, 6, 7, 11, 12]) (os := []) rfl (T.ind (fun s : Nat × Doms => ⟨[(3, .fix (vs 3) (doms d)), (6, .fix (vs 6) (doms d)), (7, .val true (doms s.2)), (11, .val true (.int .i64 i)), (12, .val true (.int .i64 s.1))], [], 0⟩) (fun s => s.1 ≤ D1[i].length ∧ s.2.map List.length = D.map List.length) (fun s => D1[i].length - s.1) (0, D1) ⟨by simp, hD1⟩ (fun _ _ h => h) ?_)
        rintro ⟨k, D2⟩ ⟨hk, hD2⟩ ih2
        have hl2 : D2.length = D.length := by have := congrArg List.length hD2; simpa using this
        have hi2 : i < D2.length := by omega
        have hle : D2[i].length = D1[i].length := by
          have e := hD2.trans hD1.symm
          have e2 : (D2.map List.length)[i]? = (D1.map List.length)[i]? := by rw [e]
          simpa [List.getElem?_eq_getElem hi2, List.getElem?_eq_getElem h4] using e2
        have hsz : D1[i].length * 16 ≤ 140737488355328 := by
          have e2 : (D1.map List.length)[i]? = (D.map List.length)[i]? := by rw [hD1]
          have hi3 : i < D.length := by omega
          simp only [List.getElem?_map, List.getElem?_eq_getElem h4, List.getElem?_eq_getElem hi3, Option.map_some, Option.some.injEq] at e2
          have := hRl.2 D[i] (List.getElem_mem hi3)
          omega
        repeat' first | refine T.seq ?_ | refine T.block ?_ | refine T.r ?_ | refine J.e rfl rfl rfl rfl ?_ | refine J.nil ?_ | refine J.skip rfl rfl rfl ?_ | refine T.skip ?_ | refine T.exit ?_ | refine T.ret ?_ | refine T.rd rfl (by kernel_rfl) ?_ | refine J.bx rfl rfl rfl rfl rfl rfl ?_
        refine J.i rfl rfl rfl rfl rfl rfl rfl rfl rfl (r := cD D2[i]) (by omega) (row_i hi2) rfl ?_
        repeat' first | refine T.seq ?_ | refine T.block ?_ | refine T.r ?_ | refine J.e rfl rfl rfl rfl ?_ | refine J.nil ?_ | refine J.skip rfl rfl rfl ?_ | refine T.skip ?_ | refine T.exit ?_ | refine T.ret ?_ | refine T.rd rfl (by kernel_rfl) ?_ | refine J.bx rfl rfl rfl rfl rfl rfl ?_
        refine T.cd rfl (fun h5 => ?_) (fun h5 => ?_)
        · have h5 : k < D2[i].length := by simpa using h5
          repeat' first | refine T.seq ?_ | refine T.block ?_ | refine T.r ?_ | refine J.e rfl rfl rfl rfl ?_ | refine J.nil ?_ | refine J.skip rfl rfl rfl ?_ | refine T.skip ?_ | refine T.exit ?_ | refine T.ret ?_ | refine T.rd rfl (by kernel_rfl) ?_ | refine J.bx rfl rfl rfl rfl rfl rfl ?_
          refine J.i rfl rfl rfl rfl rfl rfl rfl rfl rfl (r := cD D2[i]) (by omega) (row_i hi2) rfl ?_
          repeat' first | refine T.seq ?_ | refine T.block ?_ | refine T.r ?_ | refine J.e rfl rfl rfl rfl ?_ | refine J.nil ?_ | refine J.skip rfl rfl rfl ?_ | refine T.skip ?_ | refine T.exit ?_ | refine T.ret ?_ | refine T.rd rfl (by kernel_rfl) ?_ | refine J.bx rfl rfl rfl rfl rfl rfl ?_
          refine J.i rfl rfl rfl rfl rfl rfl rfl rfl rfl (r := cR D2[i][k]) (by omega) (row_i h5) rfl ?_
          repeat' first | refine T.seq ?_ | refine T.block ?_ | refine T.r ?_ | refine J.e rfl rfl rfl rfl ?_ | refine J.nil ?_ | refine J.skip rfl rfl rfl ?_ | refine T.skip ?_ | refine T.exit ?_ | refine T.ret ?_ | refine T.rd rfl (by kernel_rfl) ?_ | refine J.bx rfl rfl rfl rfl rfl rfl ?_
          refine J.tr (s := 7) (D := doms D2) [3, 6] [11, 12] (fun _ h => h) (fun _ h => h) rfl rfl rfl rfl rfl rfl rfl rfl (fun q u p hq h => by
            simp only [List.mem_cons, List.not_mem_nil, or_false] at hq
            rcases hq with rfl | rfl
            · cases h; exact hfx3
            · cases h; exact hfx6) fun D3 hsh => ?_
          obtain ⟨D3, rfl, e3⟩ := sh_doms hsh
          repeat' first | refine T.seq ?_ | refine T.block ?_ | refine T.r ?_ | refine J.e rfl rfl rfl rfl ?_ | refine J.nil ?_ | refine J.skip rfl rfl rfl ?_ | refine T.skip ?_ | refine T.exit ?_ | refine T.ret ?_ | refine T.rd rfl (by kernel_rfl) ?_ | refine J.bx rfl rfl rfl rfl rfl rfl ?_
          rw [wrap1 (l := D1[i].length) (by omega) (by omega)]
          exact T.canon (keep := [3, 6, 7, 11, 12]) (os := []) rfl (ih2 (k + 1, D3) ⟨by omega, e3.trans hD2⟩ (by simp only; omega))
        · have h5 : k = D2[i].length := by simp at h5; omega
          repeat' first | refine T.seq ?_ | refine T.block ?_ | refine T.r ?_ | refine J.e rfl rfl rfl rfl ?_ | refine J.nil ?_ | refine J.skip rfl rfl rfl ?_ | refine T.skip ?_ | refine T.exit ?_ | refine T.ret ?_ | refine T.rd rfl (by kernel_rfl) ?_ | refine J.bx rfl rfl rfl rfl rfl rfl ?_
          rw [wrap1 (l := D.length) (by omega) (by omega)]
          exact T.canon (keep := [3, 6, 7, 11]) (os := []) rfl (ih (i + 1, D2) ⟨by omega, hD2⟩ (by simp only; omega))
      · repeat' first | refine T.seq ?_ | refine T.block ?_ | refine T.r ?_ | refine J.e rfl rfl rfl rfl ?_ | refine J.nil ?_ | refine J.skip rfl rfl rfl ?_ | refine T.skip ?_ | refine T.exit ?_ | refine T.ret ?_ | refine T.rd rfl (by kernel_rfl) ?_ | refine J.bx rfl rfl rfl rfl rfl rfl ?_
        refine J.cc rfl rfl rfl rfl rfl hsd rfl rfl ?_
        repeat' first | refine T.seq ?_ | refine T.block ?_ | refine T.r ?_ | refine J.e rfl rfl rfl rfl ?_ | refine J.nil ?_ | refine J.skip rfl rfl rfl ?_ | refine T.skip ?_ | refine T.exit ?_ | refine T.ret ?_ | refine T.rd rfl (by kernel_rfl) ?_ | refine J.bx rfl rfl rfl rfl rfl rfl ?_
        refine J.cc rfl rfl rfl rfl rfl gfixed_spec rfl rfl ?_
        repeat' first | refine T.seq ?_ | refine T.block ?_ | refine T.r ?_ | refine J.e rfl rfl rfl rfl ?_ | refine J.nil ?_ | refine J.skip rfl rfl rfl ?_ | refine T.skip ?_ | refine T.exit ?_ | refine T.ret ?_ | refine T.rd rfl (by kernel_rfl) ?_ | refine J.bx rfl rfl rfl rfl rfl rfl ?_
        exact ⟨_, .v rfl rfl rfl (fun h => by cases h) .nil⟩
end Go.Proofs.Ytchajofdjeijfaa
/-! The row of LogicClauses. -/
namespace Go.Proofs.Ytchajofdjeijfaa.logicClauses
open Go.ChangeShapes Go.WideShapes Go.ChangeAt Go.RowKit
set_option linter.unusedVariables false
theorem own : ownKnob Try.prog.godebug = none := by kernel_rfl
theorem laidOut : laidOutB Try.prog = true := by kernel_rfl
set_option maxRecDepth 100000 in
theorem lifted (os : Os) (started : os.Started) (H : Type) (enc : TypeId × Value → H) :
    ReturnsInHanded {} Try.checked os 7 .any (Rows.logicClausesSpec.pre6 enc Try.prog Try.f7 Rows.logicClausesRow.domain false) (Rows.logicClausesSpec.post enc Try.prog Try.f7 false true false false) := by
  refine returnsInHanded_of_change_sized (C := Try.checked) own started (by kernel_rfl) Try.func7
    (ChangeSpec.witness6 (enc := enc) (C := Try.checked) false ⟨#[], #[.agg #[.slice none 0 0, .int .i64 0, .slice none 0 0, .slice none 0 0, .int .i64 0, .int .i64 0, .slice none 0 0, .int .i64 0, .slice none 0 0, .slice none 0 0]], []⟩ 8 (by kernel_rfl) (by kernel_rfl) (by kernel_rfl) (by kernel_rfl)) ?_
  intro W base args ds gs before hval0 hW hcnd hsz0 _
  have hsz : (DataW.weightsEach Try.prog (Try.f7.params.toList ++ Rows.logicClausesSpec.plain.varTypes Try.prog) (ds ++ gs)).all (· ≤ reachBytes) = true := hsz0
  have hval : ∀ (j : Nat) t v, Try.f7.params[j]? = some t → args[j]? = some v → Value.okWide Try.prog W .any base t v := hval0
  have hW' := hW
  obtain ⟨p, q, hA0, hV, rfl, hfz, hnd⟩ := hW
  have hA : DataW.TrodAll enc Try.prog W 0 (fun _ => true) true Try.f7.params.toList args.toList ds p := hA0
  rw [Try.params7] at hA hval hsz
  obtain ⟨v0, vs0, d0, ds0, p0, q0, hargs, rfl, rfl, h0, r0⟩ := trodAll_cons hA
  obtain ⟨rfl, rfl, rfl⟩ := trodAll_nil r0
  obtain rfl : args = #[v0] := by cases args; simp_all
  obtain ⟨rfl, rfl⟩ := trodVars_none hV
  have hv := hval 0 53 v0 rfl rfl
  obtain ⟨cs, rfl, _, _⟩ : ∃ cs, v0 = .agg cs ∧ cs.size = Try.prog.cellsOf 53 ∧ Row.okWide Try.prog W .any base 53 cs := by
    unfold Value.okWide at hv
    rw [Try.underlying53] at hv
    exact hv
  have k0 := h0
  have lt0 : ∀ x ∈ p0, x.block < W.heap.size := by obtain ⟨m, hm⟩ := k0; exact DataW.trod_lt m _ _ _ hm
  obtain ⟨fuel, hf⟩ := h0
  have hw : (DataW.weights Try.prog 53 d0).all (· ≤ reachBytes) = true := by
    have e : DataW.weightsEach Try.prog (([53] : List TypeId) ++ Rows.logicClausesSpec.plain.varTypes Try.prog) ([d0] ++ []) = DataW.weights Try.prog 53 d0 ++ [] := by
      have e0 : ∀ l : List TypeId, DataW.weightsEach (H := H) Try.prog l [] = [] := by intro l; cases l <;> rfl
      simp only [List.append_nil, List.singleton_append, DataW.weightsEach, e0]
    have h2 : (DataW.weightsEach Try.prog (([53] : List TypeId) ++ Rows.logicClausesSpec.plain.varTypes Try.prog) ([d0] ++ [])).all (· ≤ reachBytes) = true := hsz
    rw [e, List.append_nil] at h2
    exact h2
  obtain ⟨o, hrep, ho⟩ := opens_case fuel _ (d0, p0) hf hw (nf hfz fun p hp => by simp [hp])
  clear hA0 hval0 hsz0 hsz
  have hcs : (Value.agg cs).cells.toList = cs.toList := rfl
  rw [hcs] at hrep
  have harg : Rep W (fun _ => True) (.agg cs) (.agg (cCase o)) := by
    have := Rep.agg (w := W) (Z := fun _ => True) cs.toList (cCase o) hrep (case_one o)
    simpa using this
  refine ((law_clauses o ho).out W (fun _ => True) [.agg cs] (.cons harg .nil)).mono fun e W' ⟨rs, he, bel, hret⟩ => ?_
  have hrs : rs = [.bool true] := by
    have h := hret.each
    cases h with
    | cons h1 h2 => cases h2; cases h1; rfl
  subst hrs
  subst he
  exact ⟨_, rfl, _, _, _, [], _, [], hW', trodAll_mk1 (shut_bool Try.underlying4 _), trodAll_cons_mk (Below.trod laidOut (by kernel_rfl) (of_decide_eq_true (by kernel_rfl)) k0 bel lt0) trodAll_mk0, rfl, bel.frame _, fun h => by cases h⟩
theorem over : Rows.logicClausesRow.holds Try.pinned (OpenSpec.ofChange Rows.logicClausesSpec) :=
  OpenClaim.holds_of_wide 7 Try.f7 rfl rfl rfl rfl rfl rfl rfl ⟨rfl, rfl, rfl, rfl, rfl⟩ rfl rfl rfl rfl rfl (by kernel_rfl) Try.func7 (by kernel_rfl)
    (of_decide_eq_true (by kernel_rfl)) (by unfold Func.isWrapper; first | (rw [if_pos (by decide +kernel)]; kernel_rfl) | (rw [if_neg (by decide +kernel)]; exact ⟨rfl, rfl⟩))
    (fun os started H enc _ => lifted os started H enc)
theorem proved : Rows.LogicClausesSaid := over
#print axioms proved
end Go.Proofs.Ytchajofdjeijfaa.logicClauses
namespace Go.Proofs.Ytchajofdjeijfaa
/-- The row, under a short name, for the claim. -/
theorem logicClauses_holds : Rows.LogicClausesSaid := logicClauses.proved
end Go.Proofs.Ytchajofdjeijfaa
