/- Contracts: what is left of domains, if a sum is at most a number: by the program, by the document. -/
import Derived.Test.YtchajofdjeijfaaFnS
namespace Go.Proofs.Ytchajofdjeijfaa
open Go Go.RowKit
set_option linter.unusedVariables false
set_option linter.unusedSimpArgs false
set_option maxRecDepth 8000

def cutW (x : List (Int × Int)) (k rest : Int) : List (Int × Int) := if 0 < k then domCut x (-1048576) (floorW rest k) else domCut x (wr (0 - floorW rest (wr (0 - k)))) 1048576
theorem cutW_ok {x : List (Int × Int)} (h : DomOk x) (k rest : Int) : DomOk (cutW x k rest) ∧ ∀ v, v ∈ vals (cutW x k rest) → v ∈ vals x := by
  unfold cutW
  split
  · exact ⟨(domCut_ok h _ _).1, fun v hv => (((domCut_ok h _ _).2 v).1 hv).1⟩
  · exact ⟨(domCut_ok h _ _).1, fun v hv => (((domCut_ok h _ _).2 v).1 hv).1⟩
theorem cutW_fine {x : List (Int × Int)} (h : Fine x) (k rest : Int) : Fine (cutW x k rest) := h.cut (cutW_ok h.ok k rest).1 (cutW_ok h.ok k rest).2
def restW (low rhs : Int) (x : List (Int × Int)) (k : Int) : Int := wr (rhs - wr (low - (endW x k false).1))
def mostGo (low rhs : Int) : List (Int × Int) → Doms → Bool → Doms × Bool × Bool
  | [], d, ch => (d, ch, true)
  | (v, k) :: l, d, ch =>
    if cutW (domAt d v) k (restW low rhs (domAt d v) k) = [] then (d, false, false)
    else mostGo low rhs l (d.set v.toNat (cutW (domAt d v) k (restW low rhs (domAt d v) k))) (ch || !decide (cutW (domAt d v) k (restW low rhs (domAt d v) k) = domAt d v))
def mostW (d : Doms) (vars coefs : List Int) (rhs : Int) : Doms × Bool × Bool := mostGo (endsW d vars coefs).1 rhs (vars.zip coefs) d false
/-- Domains and a sum over them. -/
structure SumFine (d : Doms) (vars coefs : List Int) : Prop where
  len : vars.length = coefs.length
  vl : vars.length * 8 ≤ 140737488355328
  vin : ∀ v ∈ vars, 0 ≤ v ∧ v.toNat < d.length
  ck : ∀ k ∈ coefs, CoefOk k
  dom : ∀ x ∈ d, Fine x
  dl : d.length * 24 ≤ 140737488355328
theorem SumFine.in_ {d : Doms} {vars coefs : List Int} (h : SumFine d vars coefs) : SumIn d vars coefs := ⟨h.len, h.vl, h.vin, h.ck, fun x hx => (h.dom x hx).domB, h.dl⟩
theorem mem_set {d : Doms} {i : Nat} {x : List (Int × Int)} {p : List (Int × Int) → Prop} (h : ∀ z ∈ d, p z) (hx : p x) : ∀ z ∈ d.set i x, p z := by
  intro z hz
  rcases List.mem_or_eq_of_mem_set hz with hz | rfl
  · exact h z hz
  · exact hx

theorem lmost_spec (d : Doms) (vars coefs : List Int) (rhs : Int) (h : SumFine d vars coefs) :
    SpecM Try.prog 48 38 1 (d.map cD) [ints vars, ints coefs, .int .i64 rhs] ((mostW d vars coefs rhs).1.map cD) [.bool (mostW d vars coefs rhs).2.1, .bool (mostW d vars coefs rhs).2.2] := by
  refine SpecM.body Try.func48 rfl rfl rfl (by simp [PV.flat]) fun w0 v0 Z1 => ?_
  have hends := lends_spec d vars coefs h.in_
  obtain ⟨hlen, hvl, hvin, hck, hdom, hdl⟩ := h
  unfold mostW
  generalize endsW d vars coefs = es at *
  obtain ⟨low, high, is⟩ := es
  simp only at hends ⊢
  generalize hres : mostGo low rhs (vars.zip coefs) d false = res
  repeat' first | refine T.seq ?_ | refine T.block ?_ | refine T.r ?_ | refine J.e rfl rfl rfl rfl ?_ | refine J.nil ?_ | refine J.skip rfl rfl rfl ?_ | refine T.skip ?_ | refine T.exit ?_ | refine T.ret ?_ | refine T.rd rfl (by kernel_rfl) ?_ | refine J.bx rfl rfl rfl rfl rfl rfl ?_
  refine J.cc rfl rfl rfl rfl rfl hends rfl rfl ?_
  repeat' first | refine T.seq ?_ | refine T.block ?_ | refine T.r ?_ | refine J.e rfl rfl rfl rfl ?_ | refine J.nil ?_ | refine J.skip rfl rfl rfl ?_ | refine T.skip ?_ | refine T.exit ?_ | refine T.ret ?_ | refine T.rd rfl (by kernel_rfl) ?_ | refine J.bx rfl rfl rfl rfl rfl rfl ?_
  refine T.canon (keep := [0, 2, 3, 10, 13, 29, 30, 31]) (os := [0]) rfl (T.ind (fun s : Nat × Doms × Bool => ⟨[(0, .ref 0), (2, .val false (ints coefs)), (3, .val false (.int .i64 rhs)), (10, .val true (.int .i64 low)), (13, .val true (.bool s.2.2)), (29, .val false (ints vars)), (30, .val true (.int .i64 (vars.map cI).length)), (31, .val true (.int .i64 s.1))], [(0, some (.sl 38 1 true (s.2.1.map cD)))], 1⟩)
    (fun s => s.1 ≤ vars.length ∧ mostGo low rhs ((vars.zip coefs).drop s.1) s.2.1 s.2.2 = res ∧ s.2.1.length = d.length ∧ ∀ x ∈ s.2.1, Fine x) (fun s => vars.length - s.1) (0, d, false) ⟨by simp, hres, rfl, hdom⟩ (fun _ _ h => h) ?_)
  rintro ⟨i, d1, ch⟩ ⟨hil, he, hl1, hf1⟩ ih
  simp only at hil he hl1 hf1
  dsimp only
  repeat' first | refine T.seq ?_ | refine T.block ?_ | refine T.r ?_ | refine J.e rfl rfl rfl rfl ?_ | refine J.nil ?_ | refine J.skip rfl rfl rfl ?_ | refine T.skip ?_ | refine T.exit ?_ | refine T.ret ?_ | refine T.rd rfl (by kernel_rfl) ?_ | refine J.bx rfl rfl rfl rfl rfl rfl ?_
  refine T.cd rfl (fun h1 => ?_) (fun h1 => ?_)
  · have h1 : i < vars.length := by simpa using h1
    have h2 : i < coefs.length := by omega
    have hv := hvin _ (List.getElem_mem h1)
    have hk := hck _ (List.getElem_mem h2)
    have hk2 := coef_int hk
    have hvd : vars[i].toNat < d1.length := by omega
    have hx := hf1 _ (domAt_mem hvd)
    have hrow : (d1.map cD)[vars[i].toNat]? = some (cD (domAt d1 vars[i])) := by simp [domAt_some hvd]
    have hz : i < (vars.zip coefs).length := by simp; omega
    rw [List.drop_eq_getElem_cons hz, List.getElem_zip, mostGo] at he
    have hend := lend_spec (domAt d1 vars[i]) coefs[i] false hx.domB hk
    have hfl : coefs[i] ≠ 0 := hk.1
    have hng : IntKind.i64.wrap (0 - coefs[i]) ≠ 0 := by rw [wrap_id (by omega) (by omega)]; omega
    have hfine := cutW_fine hx coefs[i] (restW low rhs (domAt d1 vars[i]) coefs[i])
    have hdc := fun lo hi => (domcut_spec (domAt d1 vars[i]) lo hi (by have := hx.len; omega)).frz
    have hcw : cutW (domAt d1 vars[i]) coefs[i] (restW low rhs (domAt d1 vars[i]) coefs[i]) = if 0 < coefs[i] then domCut (domAt d1 vars[i]) (-1048576) (floorW (restW low rhs (domAt d1 vars[i]) coefs[i]) coefs[i]) else domCut (domAt d1 vars[i]) (wr (0 - floorW (restW low rhs (domAt d1 vars[i]) coefs[i]) (wr (0 - coefs[i])))) 1048576 := rfl
    have hsame := fun x hxl => domsame_spec x (domAt d1 vars[i]) hxl
    generalize cutW (domAt d1 vars[i]) coefs[i] (restW low rhs (domAt d1 vars[i]) coefs[i]) = cx at *
    unfold restW at hcw
    generalize endW (domAt d1 vars[i]) coefs[i] false = e1 at *
    generalize hvi : vars[i] = v at *
    generalize hki : coefs[i] = k at *
    generalize domAt d1 v = dv at *
    repeat' first | refine T.seq ?_ | refine T.block ?_ | refine T.r ?_ | refine J.e rfl rfl rfl rfl ?_ | refine J.nil ?_ | refine J.skip rfl rfl rfl ?_ | refine T.skip ?_ | refine T.exit ?_ | refine T.ret ?_ | refine T.rd rfl (by kernel_rfl) ?_ | refine J.bx rfl rfl rfl rfl rfl rfl ?_
    refine J.i rfl rfl rfl rfl rfl rfl rfl rfl rfl (r := cI v) (by omega) (by rw [← hvi]; exact row_i h1) rfl ?_
    repeat' first | refine T.seq ?_ | refine T.block ?_ | refine T.r ?_ | refine J.e rfl rfl rfl rfl ?_ | refine J.nil ?_ | refine J.skip rfl rfl rfl ?_ | refine T.skip ?_ | refine T.exit ?_ | refine T.ret ?_ | refine T.rd rfl (by kernel_rfl) ?_ | refine J.bx rfl rfl rfl rfl rfl rfl ?_
    refine J.i rfl rfl rfl rfl rfl rfl rfl rfl rfl (r := cI k) (by omega) (by rw [← hki]; exact row_i h2) rfl ?_
    repeat' first | refine T.seq ?_ | refine T.block ?_ | refine T.r ?_ | refine J.e rfl rfl rfl rfl ?_ | refine J.nil ?_ | refine J.skip rfl rfl rfl ?_ | refine T.skip ?_ | refine T.exit ?_ | refine T.ret ?_ | refine T.rd rfl (by kernel_rfl) ?_ | refine J.bx rfl rfl rfl rfl rfl rfl ?_
    refine J.io rfl rfl rfl rfl rfl rfl rfl rfl rfl hv.1 (by simpa using hvd) rfl ?_
    refine J.lo rfl rfl rfl rfl rfl rfl (r := cD dv) hrow rfl ?_
    repeat' first | refine T.seq ?_ | refine T.block ?_ | refine T.r ?_ | refine J.e rfl rfl rfl rfl ?_ | refine J.nil ?_ | refine J.skip rfl rfl rfl ?_ | refine T.skip ?_ | refine T.exit ?_ | refine T.ret ?_ | refine T.rd rfl (by kernel_rfl) ?_ | refine J.bx rfl rfl rfl rfl rfl rfl ?_
    refine J.cc rfl rfl rfl rfl rfl hend rfl rfl ?_
    repeat' first | refine T.seq ?_ | refine T.block ?_ | refine T.r ?_ | refine J.e rfl rfl rfl rfl ?_ | refine J.nil ?_ | refine J.skip rfl rfl rfl ?_ | refine T.skip ?_ | refine T.exit ?_ | refine T.ret ?_ | refine T.rd rfl (by kernel_rfl) ?_ | refine J.bx rfl rfl rfl rfl rfl rfl ?_
    refine J.io rfl rfl rfl rfl rfl rfl rfl rfl rfl hv.1 (by simpa using hvd) rfl ?_
    refine J.lo rfl rfl rfl rfl rfl rfl (r := cD dv) hrow rfl ?_
    repeat' first | refine J.e rfl rfl rfl rfl ?_ | refine J.skip rfl rfl rfl ?_ | refine J.bx rfl rfl rfl rfl rfl rfl ?_
    refine J.nil ?_
    refine T.mid ⟨[(0, .ref 0), (2, .val false (ints coefs)), (3, .val false (.int .i64 rhs)), (10, .val true (.int .i64 low)), (13, .val true (.bool ch)), (29, .val false (ints vars)), (30, .val true (.int .i64 (vars.map cI).length)), (31, .val true (.int .i64 i)), (15, .val true (.int .i64 v)), (20, .val true (dm cx))], [(0, some (.sl 38 1 true (d1.map cD)))], 1⟩ ?_ ?_
    · repeat' first | refine T.seq ?_ | refine T.block ?_ | refine T.r ?_ | refine J.e rfl rfl rfl rfl ?_ | refine J.nil ?_ | refine J.skip rfl rfl rfl ?_ | refine T.skip ?_ | refine T.exit ?_ | refine T.ret ?_ | refine T.rd rfl (by kernel_rfl) ?_ | refine J.bx rfl rfl rfl rfl rfl rfl ?_
      refine T.cd rfl (fun h3 => ?_) (fun h3 => ?_)
      · have h3 : 0 < k := h3
        rw [if_pos h3] at hcw
        repeat' first | refine T.seq ?_ | refine T.block ?_ | refine T.r ?_ | refine J.e rfl rfl rfl rfl ?_ | refine J.nil ?_ | refine J.skip rfl rfl rfl ?_ | refine T.skip ?_ | refine T.exit ?_ | refine T.ret ?_ | refine T.rd rfl (by kernel_rfl) ?_ | refine J.bx rfl rfl rfl rfl rfl rfl ?_
        refine J.cc rfl rfl rfl rfl rfl (floor_spec _ k hfl) rfl rfl ?_
        refine J.cc rfl rfl rfl rfl rfl (hdc _ _) rfl rfl ?_
        rw [hcw]
        repeat' first | refine T.seq ?_ | refine T.block ?_ | refine T.r ?_ | refine J.e rfl rfl rfl rfl ?_ | refine J.nil ?_ | refine J.skip rfl rfl rfl ?_ | refine T.skip ?_ | refine T.exit ?_ | refine T.ret ?_ | refine T.rd rfl (by kernel_rfl) ?_ | refine J.bx rfl rfl rfl rfl rfl rfl ?_
        exact ⟨rfl, [0, 2, 3, 10, 13, 29, 30, 31, 15, 20], [0], rfl, rfl⟩
      · have h3 : ¬ 0 < k := h3
        rw [if_neg h3] at hcw
        repeat' first | refine T.seq ?_ | refine T.block ?_ | refine T.r ?_ | refine J.e rfl rfl rfl rfl ?_ | refine J.nil ?_ | refine J.skip rfl rfl rfl ?_ | refine T.skip ?_ | refine T.exit ?_ | refine T.ret ?_ | refine T.rd rfl (by kernel_rfl) ?_ | refine J.bx rfl rfl rfl rfl rfl rfl ?_
        refine J.cc rfl rfl rfl rfl rfl (floor_spec _ _ hng) rfl rfl ?_
        repeat' first | refine T.seq ?_ | refine T.block ?_ | refine T.r ?_ | refine J.e rfl rfl rfl rfl ?_ | refine J.nil ?_ | refine J.skip rfl rfl rfl ?_ | refine T.skip ?_ | refine T.exit ?_ | refine T.ret ?_ | refine T.rd rfl (by kernel_rfl) ?_ | refine J.bx rfl rfl rfl rfl rfl rfl ?_
        refine J.cc rfl rfl rfl rfl rfl (hdc _ _) rfl rfl ?_
        rw [hcw]
        repeat' first | refine T.seq ?_ | refine T.block ?_ | refine T.r ?_ | refine J.e rfl rfl rfl rfl ?_ | refine J.nil ?_ | refine J.skip rfl rfl rfl ?_ | refine T.skip ?_ | refine T.exit ?_ | refine T.ret ?_ | refine T.rd rfl (by kernel_rfl) ?_ | refine J.bx rfl rfl rfl rfl rfl rfl ?_
        exact ⟨rfl, [0, 2, 3, 10, 13, 29, 30, 31, 15, 20], [0], rfl, rfl⟩
    · clear hcw
      repeat' first | refine T.seq ?_ | refine T.block ?_ | refine T.r ?_ | refine J.e rfl rfl rfl rfl ?_ | refine J.nil ?_ | refine J.skip rfl rfl rfl ?_ | refine T.skip ?_ | refine T.exit ?_ | refine T.ret ?_ | refine T.rd rfl (by kernel_rfl) ?_ | refine J.bx rfl rfl rfl rfl rfl rfl ?_
      refine T.cd rfl (fun h4 => ?_) (fun h4 => ?_)
      · have h4 : cx = [] := by simp at h4; exact h4
        rw [if_pos h4] at he
        subst he
        repeat' first | refine T.seq ?_ | refine T.block ?_ | refine T.r ?_ | refine J.e rfl rfl rfl rfl ?_ | refine J.nil ?_ | refine J.skip rfl rfl rfl ?_ | refine T.skip ?_ | refine T.exit ?_ | refine T.ret ?_ | refine T.rd rfl (by kernel_rfl) ?_ | refine J.bx rfl rfl rfl rfl rfl rfl ?_
        exact ⟨.v rfl rfl rfl (fun h => by cases h) (.v rfl rfl rfl (fun h => by cases h) .nil), _, rfl, rfl⟩
      · have h4 : cx ≠ [] := fun e => h4 (by rw [e]; rfl)
        rw [if_neg h4] at he
        have hset := mem_set (p := Fine) (i := v.toNat) hf1 hfine
        cases ch
        · repeat' first | refine T.seq ?_ | refine T.block ?_ | refine T.r ?_ | refine J.e rfl rfl rfl rfl ?_ | refine J.nil ?_ | refine J.skip rfl rfl rfl ?_ | refine T.skip ?_ | refine T.exit ?_ | refine T.ret ?_ | refine T.rd rfl (by kernel_rfl) ?_ | refine J.bx rfl rfl rfl rfl rfl rfl ?_
          refine J.io rfl rfl rfl rfl rfl rfl rfl rfl rfl hv.1 (by simpa using hvd) rfl ?_
          refine J.lo rfl rfl rfl rfl rfl rfl (r := cD dv) hrow rfl ?_
          repeat' first | refine T.seq ?_ | refine T.block ?_ | refine T.r ?_ | refine J.e rfl rfl rfl rfl ?_ | refine J.nil ?_ | refine J.skip rfl rfl rfl ?_ | refine T.skip ?_ | refine T.exit ?_ | refine T.ret ?_ | refine T.rd rfl (by kernel_rfl) ?_ | refine J.bx rfl rfl rfl rfl rfl rfl ?_
          refine J.cc rfl rfl rfl rfl rfl (hsame cx (by have := hfine.len; omega)) rfl rfl ?_
          repeat' first | refine T.seq ?_ | refine T.block ?_ | refine T.r ?_ | refine J.e rfl rfl rfl rfl ?_ | refine J.nil ?_ | refine J.skip rfl rfl rfl ?_ | refine T.skip ?_ | refine T.exit ?_ | refine T.ret ?_ | refine T.rd rfl (by kernel_rfl) ?_ | refine J.bx rfl rfl rfl rfl rfl rfl ?_
          refine J.io rfl rfl rfl rfl rfl rfl rfl rfl rfl hv.1 (by simpa using hvd) rfl ?_
          refine J.w1 rfl rfl rfl rfl rfl rfl rfl rfl rfl rfl rfl (fun _ => rfl) hvd ?_
          repeat' first | refine T.seq ?_ | refine T.block ?_ | refine T.r ?_ | refine J.e rfl rfl rfl rfl ?_ | refine J.nil ?_ | refine J.skip rfl rfl rfl ?_ | refine T.skip ?_ | refine T.exit ?_ | refine T.ret ?_ | refine T.rd rfl (by kernel_rfl) ?_ | refine J.bx rfl rfl rfl rfl rfl rfl ?_
          rw [wrap1 (l := vars.length) (by omega) (by omega)]
          exact T.canon (keep := [0, 2, 3, 10, 13, 29, 30, 31]) (os := [0]) rfl (ih (i + 1, d1.set v.toNat cx, !decide (cx = dv)) ⟨by simp only; omega, he, by simp [hl1], hset⟩ (by simp only; omega))
        · repeat' first | refine T.seq ?_ | refine T.block ?_ | refine T.r ?_ | refine J.e rfl rfl rfl rfl ?_ | refine J.nil ?_ | refine J.skip rfl rfl rfl ?_ | refine T.skip ?_ | refine T.exit ?_ | refine T.ret ?_ | refine T.rd rfl (by kernel_rfl) ?_ | refine J.bx rfl rfl rfl rfl rfl rfl ?_
          refine J.io rfl rfl rfl rfl rfl rfl rfl rfl rfl hv.1 (by simpa using hvd) rfl ?_
          refine J.w1 rfl rfl rfl rfl rfl rfl rfl rfl rfl rfl rfl (fun _ => rfl) hvd ?_
          repeat' first | refine T.seq ?_ | refine T.block ?_ | refine T.r ?_ | refine J.e rfl rfl rfl rfl ?_ | refine J.nil ?_ | refine J.skip rfl rfl rfl ?_ | refine T.skip ?_ | refine T.exit ?_ | refine T.ret ?_ | refine T.rd rfl (by kernel_rfl) ?_ | refine J.bx rfl rfl rfl rfl rfl rfl ?_
          rw [wrap1 (l := vars.length) (by omega) (by omega)]
          exact T.canon (keep := [0, 2, 3, 10, 13, 29, 30, 31]) (os := [0]) rfl (ih (i + 1, d1.set v.toNat cx, true) ⟨by simp only; omega, he, by simp [hl1], hset⟩ (by simp only; omega))
  · have h1 : i = vars.length := by simp at h1; omega
    subst h1
    rw [List.drop_of_length_le (by simp; omega), mostGo] at he
    subst he
    repeat' first | refine T.seq ?_ | refine T.block ?_ | refine T.r ?_ | refine J.e rfl rfl rfl rfl ?_ | refine J.nil ?_ | refine J.skip rfl rfl rfl ?_ | refine T.skip ?_ | refine T.exit ?_ | refine T.ret ?_ | refine T.rd rfl (by kernel_rfl) ?_ | refine J.bx rfl rfl rfl rfl rfl rfl ?_
    exact ⟨.v rfl rfl rfl (fun h => by cases h) (.v rfl rfl rfl (fun h => by cases h) .nil), _, rfl, rfl⟩

/-! The document's. -/
def restRGo (i : Nat) : Nat → List (List (Int × Int) × Int) → Int → Int
  | _, [], n => n
  | k, t :: ts, n => restRGo i (k + 1) ts (if k = i then n else wr (n + (endR t.1 t.2).1))
def leftR (x : List Int) (k rhs rest : Int) : List Int := x.filter fun v => decide (wr (k * v) ≤ wr (rhs - rest))
def mostRAt (d : Doms) (vars coefs : List Int) (rhs : Int) (i : Nat) : List (Int × Int) := pack (leftR (vals (domAt d (vars.getD i 0))) (coefs.getD i 0) rhs (restRGo i 0 (termsOf d vars coefs) 0))
def mostRd (d : Doms) (vars coefs : List Int) (rhs : Int) : Nat → Doms
  | 0 => d
  | n + 1 => (mostRd d vars coefs rhs n).set (vars.getD n 0).toNat (mostRAt d vars coefs rhs n)
theorem mostRd_len (d : Doms) (vars coefs : List Int) (rhs : Int) : ∀ n, (mostRd d vars coefs rhs n).length = d.length
  | 0 => rfl
  | n + 1 => by simp [mostRd, mostRd_len d vars coefs rhs n]
theorem getD_at {l : List Int} {i : Nat} (h : i < l.length) : l.getD i 0 = l[i] := by simp [List.getD_eq_getElem?_getD, List.getElem?_eq_getElem h]
theorem rmost_spec (d : Doms) (vars coefs : List Int) (rhs : Int) (h : SumIn d vars coefs) :
    Spec Try.prog 52 false [doms d, ints vars, ints coefs, .int .i64 rhs] [.own 38 1 ((mostRd d vars coefs rhs vars.length).map cD)] := by
  refine Spec.body Try.func52 rfl rfl rfl fun w0 Z0 => ?_
  obtain ⟨hlen, hvl, hvin, hck, hdom, hdl⟩ := h
  repeat' first | refine T.seq ?_ | refine T.block ?_ | refine T.r ?_ | refine J.e rfl rfl rfl rfl ?_ | refine J.nil ?_ | refine J.skip rfl rfl rfl ?_ | refine T.skip ?_ | refine T.exit ?_ | refine T.ret ?_ | refine T.rd rfl (by kernel_rfl) ?_ | refine J.bx rfl rfl rfl rfl rfl rfl ?_
  refine J.cc rfl rfl rfl rfl rfl (lists_spec d hdl (fun x hx => (hdom x hx).2.2)) rfl rfl ?_
  repeat' first | refine T.seq ?_ | refine T.block ?_ | refine T.r ?_ | refine J.e rfl rfl rfl rfl ?_ | refine J.nil ?_ | refine J.skip rfl rfl rfl ?_ | refine T.skip ?_ | refine T.exit ?_ | refine T.ret ?_ | refine T.rd rfl (by kernel_rfl) ?_ | refine J.bx rfl rfl rfl rfl rfl rfl ?_
  refine T.canon (keep := [0, 1, 2, 3, 9, 10]) (os := [9]) rfl (T.ind (fun i : Nat => ⟨[(0, .val false (doms d)), (1, .val false (ints vars)), (2, .val false (ints coefs)), (3, .val false (.int .i64 rhs)), (9, .ref 0), (10, .val true (.int .i64 i))], [(0, some (.sl 38 1 true ((mostRd d vars coefs rhs i).map cD)))], 1⟩) (fun i => i ≤ vars.length) (fun i => vars.length - i) 0 (by simp) (fun _ _ h => h) ?_)
  rintro i hil ih
  repeat' first | refine T.seq ?_ | refine T.block ?_ | refine T.r ?_ | refine J.e rfl rfl rfl rfl ?_ | refine J.nil ?_ | refine J.skip rfl rfl rfl ?_ | refine T.skip ?_ | refine T.exit ?_ | refine T.ret ?_ | refine T.rd rfl (by kernel_rfl) ?_ | refine J.bx rfl rfl rfl rfl rfl rfl ?_
  refine T.cd rfl (fun h1 => ?_) (fun h1 => ?_)
  · have h1 : i < vars.length := by simpa using h1
    have h2 : i < coefs.length := by omega
    have hv := hvin _ (List.getElem_mem h1)
    have hx := hdom _ (domAt_mem hv.2)
    have hrow : (d.map cD)[vars[i].toNat]? = some (cD (domAt d vars[i])) := by simp [domAt_some hv.2]
    have hat : mostRAt d vars coefs rhs i = pack (leftR (vals (domAt d vars[i])) coefs[i] rhs (restRGo i 0 (termsOf d vars coefs) 0)) := by
      unfold mostRAt
      rw [getD_at h1, getD_at h2]
    have hnext : mostRd d vars coefs rhs (i + 1) = (mostRd d vars coefs rhs i).set vars[i].toNat (mostRAt d vars coefs rhs i) := by
      rw [mostRd, getD_at h1]
    repeat' first | refine T.seq ?_ | refine T.block ?_ | refine T.r ?_ | refine J.e rfl rfl rfl rfl ?_ | refine J.nil ?_ | refine J.skip rfl rfl rfl ?_ | refine T.skip ?_ | refine T.exit ?_ | refine T.ret ?_ | refine T.rd rfl (by kernel_rfl) ?_ | refine J.bx rfl rfl rfl rfl rfl rfl ?_
    refine T.canon (keep := [0, 1, 2, 3, 9, 10, 11, 12]) (os := [9]) rfl (T.ind (fun s : Nat × Int => ⟨[(0, .val false (doms d)), (1, .val false (ints vars)), (2, .val false (ints coefs)), (3, .val false (.int .i64 rhs)), (9, .ref 0), (10, .val true (.int .i64 i)), (11, .val true (.int .i64 s.2)), (12, .val true (.int .i64 s.1))], [(0, some (.sl 38 1 true ((mostRd d vars coefs rhs i).map cD)))], 1⟩)
      (fun s => s.1 ≤ vars.length ∧ restRGo i s.1 ((termsOf d vars coefs).drop s.1) s.2 = restRGo i 0 (termsOf d vars coefs) 0) (fun s => vars.length - s.1) (0, 0) ⟨by simp, rfl⟩ (fun _ _ h => h) ?_)
    rintro ⟨k, n⟩ ⟨hkl, hn⟩ ih2
    simp only at hkl hn
    dsimp only
    repeat' first | refine T.seq ?_ | refine T.block ?_ | refine T.r ?_ | refine J.e rfl rfl rfl rfl ?_ | refine J.nil ?_ | refine J.skip rfl rfl rfl ?_ | refine T.skip ?_ | refine T.exit ?_ | refine T.ret ?_ | refine T.rd rfl (by kernel_rfl) ?_ | refine J.bx rfl rfl rfl rfl rfl rfl ?_
    refine T.cd rfl (fun h3 => ?_) (fun h3 => ?_)
    · have h3 : k < vars.length := by simpa using h3
      have h4 : k < coefs.length := by omega
      have hvk := hvin _ (List.getElem_mem h3)
      have hxk := hdom _ (domAt_mem hvk.2)
      have hrowk : (d.map cD)[vars[k].toNat]? = some (cD (domAt d vars[k])) := by simp [domAt_some hvk.2]
      rw [terms_cons h3 h4, restRGo] at hn
      repeat' first | refine T.seq ?_ | refine T.block ?_ | refine T.r ?_ | refine J.e rfl rfl rfl rfl ?_ | refine J.nil ?_ | refine J.skip rfl rfl rfl ?_ | refine T.skip ?_ | refine T.exit ?_ | refine T.ret ?_ | refine T.rd rfl (by kernel_rfl) ?_ | refine J.bx rfl rfl rfl rfl rfl rfl ?_
      refine J.i rfl rfl rfl rfl rfl rfl rfl rfl rfl (r := cI vars[k]) (by omega) (row_i h3) rfl ?_
      repeat' first | refine T.seq ?_ | refine T.block ?_ | refine T.r ?_ | refine J.e rfl rfl rfl rfl ?_ | refine J.nil ?_ | refine J.skip rfl rfl rfl ?_ | refine T.skip ?_ | refine T.exit ?_ | refine T.ret ?_ | refine T.rd rfl (by kernel_rfl) ?_ | refine J.bx rfl rfl rfl rfl rfl rfl ?_
      refine J.i rfl rfl rfl rfl rfl rfl rfl rfl rfl (r := cD (domAt d vars[k])) hvk.1 hrowk rfl ?_
      repeat' first | refine T.seq ?_ | refine T.block ?_ | refine T.r ?_ | refine J.e rfl rfl rfl rfl ?_ | refine J.nil ?_ | refine J.skip rfl rfl rfl ?_ | refine T.skip ?_ | refine T.exit ?_ | refine T.ret ?_ | refine T.rd rfl (by kernel_rfl) ?_ | refine J.bx rfl rfl rfl rfl rfl rfl ?_
      refine J.i rfl rfl rfl rfl rfl rfl rfl rfl rfl (r := cI coefs[k]) (by omega) (row_i h4) rfl ?_
      repeat' first | refine T.seq ?_ | refine T.block ?_ | refine T.r ?_ | refine J.e rfl rfl rfl rfl ?_ | refine J.nil ?_ | refine J.skip rfl rfl rfl ?_ | refine T.skip ?_ | refine T.exit ?_ | refine T.ret ?_ | refine T.rd rfl (by kernel_rfl) ?_ | refine J.bx rfl rfl rfl rfl rfl rfl ?_
      refine J.cc rfl rfl rfl rfl rfl (rend_spec _ coefs[k] hxk) rfl rfl ?_
      generalize endR (domAt d vars[k]) coefs[k] = e1 at *
      repeat' first | refine T.seq ?_ | refine T.block ?_ | refine T.r ?_ | refine J.e rfl rfl rfl rfl ?_ | refine J.nil ?_ | refine J.skip rfl rfl rfl ?_ | refine T.skip ?_ | refine T.exit ?_ | refine T.ret ?_ | refine T.rd rfl (by kernel_rfl) ?_ | refine J.bx rfl rfl rfl rfl rfl rfl ?_
      refine T.cd rfl (fun h5 => ?_) (fun h5 => ?_)
      · have h5 : ¬ k = i := by intro e; exact h5 (by rw [e])
        rw [if_neg h5] at hn
        repeat' first | refine T.seq ?_ | refine T.block ?_ | refine T.r ?_ | refine J.e rfl rfl rfl rfl ?_ | refine J.nil ?_ | refine J.skip rfl rfl rfl ?_ | refine T.skip ?_ | refine T.exit ?_ | refine T.ret ?_ | refine T.rd rfl (by kernel_rfl) ?_ | refine J.bx rfl rfl rfl rfl rfl rfl ?_
        rw [wrap1 (l := vars.length) (by omega) (by omega)]
        exact T.canon (keep := [0, 1, 2, 3, 9, 10, 11, 12]) (os := [9]) rfl (ih2 (k + 1, wr (n + e1.1)) ⟨by simp only; omega, hn⟩ (by simp only; omega))
      · have h5 : k = i := by
          have h5 : ¬ ((k : Int) ≠ i) := h5
          omega
        rw [if_pos h5] at hn
        repeat' first | refine T.seq ?_ | refine T.block ?_ | refine T.r ?_ | refine J.e rfl rfl rfl rfl ?_ | refine J.nil ?_ | refine J.skip rfl rfl rfl ?_ | refine T.skip ?_ | refine T.exit ?_ | refine T.ret ?_ | refine T.rd rfl (by kernel_rfl) ?_ | refine J.bx rfl rfl rfl rfl rfl rfl ?_
        rw [wrap1 (l := vars.length) (by omega) (by omega)]
        exact T.canon (keep := [0, 1, 2, 3, 9, 10, 11, 12]) (os := [9]) rfl (ih2 (k + 1, n) ⟨by simp only; omega, hn⟩ (by simp only; omega))
    · have h3 : k = vars.length := by simp at h3; omega
      subst h3
      rw [terms_end hlen, restRGo] at hn
      rw [← hn] at hat
      clear ih2
      have hvx := values_spec (domAt d vars[i]) hx.1 (by have := hx.2.1; omega) hx.2.2
      have hvin2 := vals_in hx.1
      have hvl2 := hx.2.1
      generalize vals (domAt d vars[i]) = l at *
      repeat' first | refine T.seq ?_ | refine T.block ?_ | refine T.r ?_ | refine J.e rfl rfl rfl rfl ?_ | refine J.nil ?_ | refine J.skip rfl rfl rfl ?_ | refine T.skip ?_ | refine T.exit ?_ | refine T.ret ?_ | refine T.rd rfl (by kernel_rfl) ?_ | refine J.bx rfl rfl rfl rfl rfl rfl ?_
      refine J.i rfl rfl rfl rfl rfl rfl rfl rfl rfl (r := cI vars[i]) (by omega) (row_i h1) rfl ?_
      repeat' first | refine T.seq ?_ | refine T.block ?_ | refine T.r ?_ | refine J.e rfl rfl rfl rfl ?_ | refine J.nil ?_ | refine J.skip rfl rfl rfl ?_ | refine T.skip ?_ | refine T.exit ?_ | refine T.ret ?_ | refine T.rd rfl (by kernel_rfl) ?_ | refine J.bx rfl rfl rfl rfl rfl rfl ?_
      refine J.i rfl rfl rfl rfl rfl rfl rfl rfl rfl (r := cD (domAt d vars[i])) hv.1 hrow rfl ?_
      repeat' first | refine T.seq ?_ | refine T.block ?_ | refine T.r ?_ | refine J.e rfl rfl rfl rfl ?_ | refine J.nil ?_ | refine J.skip rfl rfl rfl ?_ | refine T.skip ?_ | refine T.exit ?_ | refine T.ret ?_ | refine T.rd rfl (by kernel_rfl) ?_ | refine J.bx rfl rfl rfl rfl rfl rfl ?_
      refine J.cc rfl rfl rfl rfl rfl hvx rfl rfl ?_
      refine J.bo rfl rfl rfl rfl rfl rfl rfl rfl rfl rfl rfl rfl ?_
      repeat' first | refine T.seq ?_ | refine T.block ?_ | refine T.r ?_ | refine J.e rfl rfl rfl rfl ?_ | refine J.nil ?_ | refine J.skip rfl rfl rfl ?_ | refine T.skip ?_ | refine T.exit ?_ | refine T.ret ?_ | refine T.rd rfl (by kernel_rfl) ?_ | refine J.bx rfl rfl rfl rfl rfl rfl ?_
      refine T.canon (keep := [0, 1, 2, 3, 9, 10, 11, 16, 17, 18]) (os := [9, 16, 17]) rfl (T.ind (fun k : Nat => ⟨[(0, .val false (doms d)), (1, .val false (ints vars)), (2, .val false (ints coefs)), (3, .val false (.int .i64 rhs)), (9, .ref 0), (10, .val true (.int .i64 i)), (11, .val true (.int .i64 n)), (16, .ref 1), (17, .ref 2), (18, .val true (.int .i64 k))], [(0, some (.sl 38 1 true ((mostRd d vars coefs rhs i).map cD))), (1, some (.sl 3 1 true (l.map cI))), (2, some (.sl 3 1 true ((leftR (l.take k) coefs[i] rhs n).map cI)))], 3⟩)
        (fun k => k ≤ l.length) (fun k => l.length - k) 0 (by simp) (fun _ _ h => h) ?_)
      rintro k hk ih3
      repeat' first | refine T.seq ?_ | refine T.block ?_ | refine T.r ?_ | refine J.e rfl rfl rfl rfl ?_ | refine J.nil ?_ | refine J.skip rfl rfl rfl ?_ | refine T.skip ?_ | refine T.exit ?_ | refine T.ret ?_ | refine T.rd rfl (by kernel_rfl) ?_ | refine J.bx rfl rfl rfl rfl rfl rfl ?_
      refine T.cd rfl (fun h3 => ?_) (fun h3 => ?_)
      · have h3 : k < l.length := by simpa using h3
        have hfl : (leftR (l.take k) coefs[i] rhs n).length ≤ k := by
          unfold leftR
          refine Nat.le_trans (List.length_filter_le _ _) ?_
          simp; omega
        have e : leftR (l.take (k + 1)) coefs[i] rhs n = leftR (l.take k) coefs[i] rhs n ++ if wr (coefs[i] * l[k]) ≤ wr (rhs - n) then [l[k]] else [] := by
          unfold leftR
          rw [List.take_succ_eq_append_getElem h3, List.filter_append]
          congr 1
          by_cases hc : wr (coefs[i] * l[k]) ≤ wr (rhs - n)
          · simp [hc]
          · simp [hc]
        repeat' first | refine T.seq ?_ | refine T.block ?_ | refine T.r ?_ | refine J.e rfl rfl rfl rfl ?_ | refine J.nil ?_ | refine J.skip rfl rfl rfl ?_ | refine T.skip ?_ | refine T.exit ?_ | refine T.ret ?_ | refine T.rd rfl (by kernel_rfl) ?_ | refine J.bx rfl rfl rfl rfl rfl rfl ?_
        refine J.i rfl rfl rfl rfl rfl rfl rfl rfl rfl (r := cI coefs[i]) (by omega) (row_i h2) rfl ?_
        repeat' first | refine T.seq ?_ | refine T.block ?_ | refine T.r ?_ | refine J.e rfl rfl rfl rfl ?_ | refine J.nil ?_ | refine J.skip rfl rfl rfl ?_ | refine T.skip ?_ | refine T.exit ?_ | refine T.ret ?_ | refine T.rd rfl (by kernel_rfl) ?_ | refine J.bx rfl rfl rfl rfl rfl rfl ?_
        refine J.io rfl rfl rfl rfl rfl rfl rfl rfl rfl (by omega) (by simpa using h3) rfl ?_
        refine J.lo rfl rfl rfl rfl rfl rfl (r := cI l[k]) (row_i h3) rfl ?_
        repeat' first | refine T.seq ?_ | refine T.block ?_ | refine T.r ?_ | refine J.e rfl rfl rfl rfl ?_ | refine J.nil ?_ | refine J.skip rfl rfl rfl ?_ | refine T.skip ?_ | refine T.exit ?_ | refine T.ret ?_ | refine T.rd rfl (by kernel_rfl) ?_ | refine J.bx rfl rfl rfl rfl rfl rfl ?_
        refine T.cd rfl (fun h4 => ?_) (fun h4 => ?_)
        · rw [if_pos h4] at e
          repeat' first | refine T.seq ?_ | refine T.block ?_ | refine T.r ?_ | refine J.e rfl rfl rfl rfl ?_ | refine J.nil ?_ | refine J.skip rfl rfl rfl ?_ | refine T.skip ?_ | refine T.exit ?_ | refine T.ret ?_ | refine T.rd rfl (by kernel_rfl) ?_ | refine J.bx rfl rfl rfl rfl rfl rfl ?_
          refine J.io rfl rfl rfl rfl rfl rfl rfl rfl rfl (by omega) (by simpa using h3) rfl ?_
          refine J.lo rfl rfl rfl rfl rfl rfl (r := cI l[k]) (row_i h3) rfl ?_
          repeat' first | refine T.seq ?_ | refine T.block ?_ | refine T.r ?_ | refine J.e rfl rfl rfl rfl ?_ | refine J.nil ?_ | refine J.skip rfl rfl rfl ?_ | refine T.skip ?_ | refine T.exit ?_ | refine T.ret ?_ | refine T.rd rfl (by kernel_rfl) ?_ | refine J.bx rfl rfl rfl rfl rfl rfl ?_
          refine J.bv rfl rfl rfl rfl rfl rfl rfl rfl rfl rfl rfl rfl ?_
          refine J.aI rfl rfl rfl rfl rfl rfl rfl rfl rfl rfl rfl rfl rfl rfl rfl rfl rfl rfl rfl (by omega) ?_
          repeat' first | refine T.seq ?_ | refine T.block ?_ | refine T.r ?_ | refine J.e rfl rfl rfl rfl ?_ | refine J.nil ?_ | refine J.skip rfl rfl rfl ?_ | refine T.skip ?_ | refine T.exit ?_ | refine T.ret ?_ | refine T.rd rfl (by kernel_rfl) ?_ | refine J.bx rfl rfl rfl rfl rfl rfl ?_
          rw [wrap1 (l := l.length) (by omega) (by omega), ← e]
          exact T.canon (keep := [0, 1, 2, 3, 9, 10, 11, 16, 17, 18]) (os := [9, 16, 17]) rfl (ih3 (k + 1) (by omega) (by omega))
        · rw [if_neg h4, List.append_nil] at e
          repeat' first | refine T.seq ?_ | refine T.block ?_ | refine T.r ?_ | refine J.e rfl rfl rfl rfl ?_ | refine J.nil ?_ | refine J.skip rfl rfl rfl ?_ | refine T.skip ?_ | refine T.exit ?_ | refine T.ret ?_ | refine T.rd rfl (by kernel_rfl) ?_ | refine J.bx rfl rfl rfl rfl rfl rfl ?_
          rw [wrap1 (l := l.length) (by omega) (by omega), ← e]
          exact T.canon (keep := [0, 1, 2, 3, 9, 10, 11, 16, 17, 18]) (os := [9, 16, 17]) rfl (ih3 (k + 1) (by omega) (by omega))
      · have h3 : k = l.length := by simp at h3; omega
        subst h3
        rw [List.take_length]
        have hpk := (pack_spec (leftR l coefs[i] rhs n) (fun v hv => by
          have := hvin2 v (List.mem_filter.1 hv).1
          omega) (by
          have : (leftR l coefs[i] rhs n).length ≤ l.length := List.length_filter_le _ _
          omega)).frz
        rw [← hat] at *
        have hdl2 := mostRd_len d vars coefs rhs i
        repeat' first | refine T.seq ?_ | refine T.block ?_ | refine T.r ?_ | refine J.e rfl rfl rfl rfl ?_ | refine J.nil ?_ | refine J.skip rfl rfl rfl ?_ | refine T.skip ?_ | refine T.exit ?_ | refine T.ret ?_ | refine J.bx rfl rfl rfl rfl rfl rfl ?_
        refine T.rdw 9 rfl (by kernel_rfl) rfl ?_
        repeat' first | refine J.e rfl rfl rfl rfl ?_ | refine J.skip rfl rfl rfl ?_ | refine J.bx rfl rfl rfl rfl rfl rfl ?_
        refine J.i rfl rfl rfl rfl rfl rfl rfl rfl rfl (r := cI vars[i]) (by omega) (row_i h1) rfl ?_
        repeat' first | refine J.e rfl rfl rfl rfl ?_ | refine J.skip rfl rfl rfl ?_ | refine J.bx rfl rfl rfl rfl rfl rfl ?_
        refine J.cc rfl rfl rfl rfl rfl hpk rfl rfl ?_
        refine J.io rfl rfl rfl rfl rfl rfl rfl rfl rfl hv.1 (by simp [hdl2]; omega) rfl ?_
        refine J.wd1 rfl rfl rfl rfl rfl rfl rfl rfl rfl rfl rfl (z := mostRAt d vars coefs rhs i) (fun _ => rfl) (by omega) ?_
        refine J.nil ?_
        refine ⟨rfl, ?_⟩
        repeat' first | refine T.seq ?_ | refine T.block ?_ | refine T.r ?_ | refine J.e rfl rfl rfl rfl ?_ | refine J.nil ?_ | refine J.skip rfl rfl rfl ?_ | refine T.skip ?_ | refine T.exit ?_ | refine T.ret ?_ | refine T.rd rfl (by kernel_rfl) ?_ | refine J.bx rfl rfl rfl rfl rfl rfl ?_
        rw [wrap1 (l := vars.length) (by omega) (by omega), ← hnext]
        exact T.canon (keep := [0, 1, 2, 3, 9, 10]) (os := [9]) rfl (ih (i + 1) (by omega) (by omega))
  · have h1 : i = vars.length := by simp at h1; omega
    subst h1
    repeat' first | refine T.seq ?_ | refine T.block ?_ | refine T.r ?_ | refine J.e rfl rfl rfl rfl ?_ | refine J.nil ?_ | refine J.skip rfl rfl rfl ?_ | refine T.skip ?_ | refine T.exit ?_ | refine T.ret ?_ | refine T.rd rfl (by kernel_rfl) ?_ | refine J.bx rfl rfl rfl rfl rfl rfl ?_
    exact ⟨_, .o rfl rfl rfl (fun _ => .inl rfl) (by simp) .nil⟩
end Go.Proofs.Ytchajofdjeijfaa
