/- The texts FnT, FnU, FnV of the workplace, joined. -/
import Derived.Test.YtchajofdjeijfaaB5
/-! Contracts: what is left of domains, if a sum is at most a number: by the program, by the document. -/
namespace Go.Proofs.Ytchajofdjeijfaa
open Go Go.RowKit
set_option linter.unusedVariables false
set_option linter.unusedSimpArgs false
set_option maxRecDepth 8000

def cutW (x : List (Int × Int)) (k rest : Int) : List (Int × Int) := if 0 < k then domCut x (-1048576) (floorW rest k) else domCut x (wr (0 - floorW rest (wr (0 - k)))) 1048576
theorem cutW_ok {x : List (Int × Int)} (h : DomOk x) (k rest : Int) : DomOk (cutW x k rest) ∧ ∀ v, v ∈ vals (cutW x k rest) → v ∈ vals x := by
  unfold cutW
  split
  · exact ⟨(domCut_ok h _ _).1, fun v hv => (((domCut_ok h _ _).2 v).1 hv).1⟩
  · exact ⟨(domCut_ok h _ _).1, fun v hv => (((domCut_ok h _ _).2 v).1 hv).1⟩
theorem cutW_fine {x : List (Int × Int)} (h : Fine x) (k rest : Int) : Fine (cutW x k rest) := h.cut (cutW_ok h.ok k rest).1 (cutW_ok h.ok k rest).2
def restW (low rhs : Int) (x : List (Int × Int)) (k : Int) : Int := wr (rhs - wr (low - (endW x k false).1))
def mostGo (low rhs : Int) : List (Int × Int) → Doms → Bool → Doms × Bool × Bool
  | [], d, ch => (d, ch, true)
  | (v, k) :: l, d, ch =>
    if cutW (domAt d v) k (restW low rhs (domAt d v) k) = [] then (d, false, false)
    else mostGo low rhs l (d.set v.toNat (cutW (domAt d v) k (restW low rhs (domAt d v) k))) (ch || !decide (cutW (domAt d v) k (restW low rhs (domAt d v) k) = domAt d v))
def mostW (d : Doms) (vars coefs : List Int) (rhs : Int) : Doms × Bool × Bool := mostGo (endsW d vars coefs).1 rhs (vars.zip coefs) d false
/-- Domains and a sum over them. -/
structure SumFine (d : Doms) (vars coefs : List Int) : Prop where
  len : vars.length = coefs.length
  vl : vars.length * 8 ≤ 140737488355328
  vin : ∀ v ∈ vars, 0 ≤ v ∧ v.toNat < d.length
  ck : ∀ k ∈ coefs, CoefOk k
  dom : ∀ x ∈ d, Fine x
  dl : d.length * 24 ≤ 140737488355328
theorem SumFine.in_ {d : Doms} {vars coefs : List Int} (h : SumFine d vars coefs) : SumIn d vars coefs := ⟨h.len, h.vl, h.vin, h.ck, fun x hx => (h.dom x hx).domB, h.dl⟩
theorem mem_set {d : Doms} {i : Nat} {x : List (Int × Int)} {p : List (Int × Int) → Prop} (h : ∀ z ∈ d, p z) (hx : p x) : ∀ z ∈ d.set i x, p z := by
  intro z hz
  rcases List.mem_or_eq_of_mem_set hz with hz | rfl
  · exact h z hz
  · exact hx

theorem lmost_spec (d : Doms) (vars coefs : List Int) (rhs : Int) (h : SumFine d vars coefs) :
    SpecM Try.prog 48 38 1 (d.map cD) [ints vars, ints coefs, .int .i64 rhs] ((mostW d vars coefs rhs).1.map cD) [.bool (mostW d vars coefs rhs).2.1, .bool (mostW d vars coefs rhs).2.2] := by
  refine SpecM.body Try.func48 rfl rfl rfl (by simp [PV.flat]) fun w0 v0 Z1 => ?_
  have hends := lends_spec d vars coefs h.in_
  obtain ⟨hlen, hvl, hvin, hck, hdom, hdl⟩ := h
  unfold mostW
  generalize endsW d vars coefs = es at *
  obtain ⟨low, high, is⟩ := es
  simp only at hends ⊢
  generalize hres : mostGo low rhs (vars.zip coefs) d false = res
  repeat' first | refine T.seq ?_ | refine T.block ?_ | refine T.r ?_ | refine J.e rfl rfl rfl rfl ?_ | refine J.nil ?_ | refine J.skip rfl rfl rfl ?_ | refine T.skip ?_ | refine T.exit ?_ | refine T.ret ?_ | refine T.rd rfl (by kernel_rfl) ?_ | refine J.bx rfl rfl rfl rfl rfl rfl ?_
  refine J.cc rfl rfl rfl rfl rfl hends rfl rfl ?_
  repeat' first | refine T.seq ?_ | refine T.block ?_ | refine T.r ?_ | refine J.e rfl rfl rfl rfl ?_ | refine J.nil ?_ | refine J.skip rfl rfl rfl ?_ | refine T.skip ?_ | refine T.exit ?_ | refine T.ret ?_ | refine T.rd rfl (by kernel_rfl) ?_ | refine J.bx rfl rfl rfl rfl rfl rfl ?_
  refine T.canon (keep := [0, 2, 3, 10, 13, 29, 30, 31]) (os := [0]) rfl (T.ind (fun s : Nat × Doms × Bool => ⟨[(0, .ref 0), (2, .val false (ints coefs)), (3, .val false (.int .i64 rhs)), (10, .val true (.int .i64 low)), (13, .val true (.bool s.2.2)), (29, .val false (ints vars)), (30, .val true (.int .i64 (vars.map cI).length)), (31, .val true (.int .i64 s.1))], [(0, some (.sl 38 1 true (s.2.1.map cD)))], 1⟩)
    (fun s => s.1 ≤ vars.length ∧ mostGo low rhs ((vars.zip coefs).drop s.1) s.2.1 s.2.2 = res ∧ s.2.1.length = d.length ∧ ∀ x ∈ s.2.1, Fine x) (fun s => vars.length - s.1) (0, d, false) ⟨by simp, hres, rfl, hdom⟩ (fun _ _ h => h) ?_)
  rintro ⟨i, d1, ch⟩ ⟨hil, he, hl1, hf1⟩ ih
  simp only at hil he hl1 hf1
  dsimp only
  repeat' first | refine T.seq ?_ | refine T.block ?_ | refine T.r ?_ | refine J.e rfl rfl rfl rfl ?_ | refine J.nil ?_ | refine J.skip rfl rfl rfl ?_ | refine T.skip ?_ | refine T.exit ?_ | refine T.ret ?_ | refine T.rd rfl (by kernel_rfl) ?_ | refine J.bx rfl rfl rfl rfl rfl rfl ?_
  refine T.cd rfl (fun h1 => ?_) (fun h1 => ?_)
  · have h1 : i < vars.length := by simpa using h1
    have h2 : i < coefs.length := by omega
    have hv := hvin _ (List.getElem_mem h1)
    have hk := hck _ (List.getElem_mem h2)
    have hk2 := coef_int hk
    have hvd : vars[i].toNat < d1.length := by omega
    have hx := hf1 _ (domAt_mem hvd)
    have hrow : (d1.map cD)[vars[i].toNat]? = some (cD (domAt d1 vars[i])) := by simp [domAt_some hvd]
    have hz : i < (vars.zip coefs).length := by simp; omega
    rw [List.drop_eq_getElem_cons hz, List.getElem_zip, mostGo] at he
    have hend := lend_spec (domAt d1 vars[i]) coefs[i] false hx.domB hk
    have hfl : coefs[i] ≠ 0 := hk.1
    have hng : IntKind.i64.wrap (0 - coefs[i]) ≠ 0 := by rw [wrap_id (by omega) (by omega)]; omega
    have hfine := cutW_fine hx coefs[i] (restW low rhs (domAt d1 vars[i]) coefs[i])
    have hdc := fun lo hi => (domcut_spec (domAt d1 vars[i]) lo hi (by have := hx.len; omega)).frz
    have hcw : cutW (domAt d1 vars[i]) coefs[i] (restW low rhs (domAt d1 vars[i]) coefs[i]) = if 0 < coefs[i] then domCut (domAt d1 vars[i]) (-1048576) (floorW (restW low rhs (domAt d1 vars[i]) coefs[i]) coefs[i]) else domCut (domAt d1 vars[i]) (wr (0 - floorW (restW low rhs (domAt d1 vars[i]) coefs[i]) (wr (0 - coefs[i])))) 1048576 := rfl
    have hsame := fun x hxl => domsame_spec x (domAt d1 vars[i]) hxl
    generalize cutW (domAt d1 vars[i]) coefs[i] (restW low rhs (domAt d1 vars[i]) coefs[i]) = cx at *
    unfold restW at hcw
    generalize endW (domAt d1 vars[i]) coefs[i] false = e1 at *
    generalize hvi : vars[i] = v at *
    generalize hki : coefs[i] = k at *
    generalize domAt d1 v = dv at *
    repeat' first | refine T.seq ?_ | refine T.block ?_ | refine T.r ?_ | refine J.e rfl rfl rfl rfl ?_ | refine J.nil ?_ | refine J.skip rfl rfl rfl ?_ | refine T.skip ?_ | refine T.exit ?_ | refine T.ret ?_ | refine T.rd rfl (by kernel_rfl) ?_ | refine J.bx rfl rfl rfl rfl rfl rfl ?_
    refine J.i rfl rfl rfl rfl rfl rfl rfl rfl rfl (r := cI v) (by omega) (by rw [← hvi]; exact row_i h1) rfl ?_
    repeat' first | refine T.seq ?_ | refine T.block ?_ | refine T.r ?_ | refine J.e rfl rfl rfl rfl ?_ | refine J.nil ?_ | refine J.skip rfl rfl rfl ?_ | refine T.skip ?_ | refine T.exit ?_ | refine T.ret ?_ | refine T.rd rfl (by kernel_rfl) ?_ | refine J.bx rfl rfl rfl rfl rfl rfl ?_
    refine J.i rfl rfl rfl rfl rfl rfl rfl rfl rfl (r := cI k) (by omega) (by rw [← hki]; exact row_i h2) rfl ?_
    repeat' first | refine T.seq ?_ | refine T.block ?_ | refine T.r ?_ | refine J.e rfl rfl rfl rfl ?_ | refine J.nil ?_ | refine J.skip rfl rfl rfl ?_ | refine T.skip ?_ | refine T.exit ?_ | refine T.ret ?_ | refine T.rd rfl (by kernel_rfl) ?_ | refine J.bx rfl rfl rfl rfl rfl rfl ?_
    refine J.io rfl rfl rfl rfl rfl rfl rfl rfl rfl hv.1 (by simpa using hvd) rfl ?_
    refine J.lo rfl rfl rfl rfl rfl rfl (r := cD dv) hrow rfl ?_
    repeat' first | refine T.seq ?_ | refine T.block ?_ | refine T.r ?_ | refine J.e rfl rfl rfl rfl ?_ | refine J.nil ?_ | refine J.skip rfl rfl rfl ?_ | refine T.skip ?_ | refine T.exit ?_ | refine T.ret ?_ | refine T.rd rfl (by kernel_rfl) ?_ | refine J.bx rfl rfl rfl rfl rfl rfl ?_
    refine J.cc rfl rfl rfl rfl rfl hend rfl rfl ?_
    repeat' first | refine T.seq ?_ | refine T.block ?_ | refine T.r ?_ | refine J.e rfl rfl rfl rfl ?_ | refine J.nil ?_ | refine J.skip rfl rfl rfl ?_ | refine T.skip ?_ | refine T.exit ?_ | refine T.ret ?_ | refine T.rd rfl (by kernel_rfl) ?_ | refine J.bx rfl rfl rfl rfl rfl rfl ?_
    refine J.io rfl rfl rfl rfl rfl rfl rfl rfl rfl hv.1 (by simpa using hvd) rfl ?_
    refine J.lo rfl rfl rfl rfl rfl rfl (r := cD dv) hrow rfl ?_
    repeat' first | refine J.e rfl rfl rfl rfl ?_ | refine J.skip rfl rfl rfl ?_ | refine J.bx rfl rfl rfl rfl rfl rfl ?_
    refine J.nil ?_
    refine T.mid ⟨[(0, .ref 0), (2, .val false (ints coefs)), (3, .val false (.int .i64 rhs)), (10, .val true (.int .i64 low)), (13, .val true (.bool ch)), (29, .val false (ints vars)), (30, .val true (.int .i64 (vars.map cI).length)), (31, .val true (.int .i64 i)), (15, .val true (.int .i64 v)), (20, .val true (dm cx))], [(0, some (.sl 38 1 true (d1.map cD)))], 1⟩ ?_ ?_
    · repeat' first | refine T.seq ?_ | refine T.block ?_ | refine T.r ?_ | refine J.e rfl rfl rfl rfl ?_ | refine J.nil ?_ | refine J.skip rfl rfl rfl ?_ | refine T.skip ?_ | refine T.exit ?_ | refine T.ret ?_ | refine T.rd rfl (by kernel_rfl) ?_ | refine J.bx rfl rfl rfl rfl rfl rfl ?_
      refine T.cd rfl (fun h3 => ?_) (fun h3 => ?_)
      · have h3 : 0 < k := h3
        rw [if_pos h3] at hcw
        repeat' first | refine T.seq ?_ | refine T.block ?_ | refine T.r ?_ | refine J.e rfl rfl rfl rfl ?_ | refine J.nil ?_ | refine J.skip rfl rfl rfl ?_ | refine T.skip ?_ | refine T.exit ?_ | refine T.ret ?_ | refine T.rd rfl (by kernel_rfl) ?_ | refine J.bx rfl rfl rfl rfl rfl rfl ?_
        refine J.cc rfl rfl rfl rfl rfl (floor_spec _ k hfl) rfl rfl ?_
        refine J.cc rfl rfl rfl rfl rfl (hdc _ _) rfl rfl ?_
        rw [hcw]
        repeat' first | refine T.seq ?_ | refine T.block ?_ | refine T.r ?_ | refine J.e rfl rfl rfl rfl ?_ | refine J.nil ?_ | refine J.skip rfl rfl rfl ?_ | refine T.skip ?_ | refine T.exit ?_ | refine T.ret ?_ | refine T.rd rfl (by kernel_rfl) ?_ | refine J.bx rfl rfl rfl rfl rfl rfl ?_
        exact ⟨rfl, [0, 2, 3, 10, 13, 29, 30, 31, 15, 20], [0], rfl, rfl⟩
      · have h3 : ¬ 0 < k := h3
        rw [if_neg h3] at hcw
        repeat' first | refine T.seq ?_ | refine T.block ?_ | refine T.r ?_ | refine J.e rfl rfl rfl rfl ?_ | refine J.nil ?_ | refine J.skip rfl rfl rfl ?_ | refine T.skip ?_ | refine T.exit ?_ | refine T.ret ?_ | refine T.rd rfl (by kernel_rfl) ?_ | refine J.bx rfl rfl rfl rfl rfl rfl ?_
        refine J.cc rfl rfl rfl rfl rfl (floor_spec _ _ hng) rfl rfl ?_
        repeat' first | refine T.seq ?_ | refine T.block ?_ | refine T.r ?_ | refine J.e rfl rfl rfl rfl ?_ | refine J.nil ?_ | refine J.skip rfl rfl rfl ?_ | refine T.skip ?_ | refine T.exit ?_ | refine T.ret ?_ | refine T.rd rfl (by kernel_rfl) ?_ | refine J.bx rfl rfl rfl rfl rfl rfl ?_
        refine J.cc rfl rfl rfl rfl rfl (hdc _ _) rfl rfl ?_
        rw [hcw]
        repeat' first | refine T.seq ?_ | refine T.block ?_ | refine T.r ?_ | refine J.e rfl rfl rfl rfl ?_ | refine J.nil ?_ | refine J.skip rfl rfl rfl ?_ | refine T.skip ?_ | refine T.exit ?_ | refine T.ret ?_ | refine T.rd rfl (by kernel_rfl) ?_ | refine J.bx rfl rfl rfl rfl rfl rfl ?_
        exact ⟨rfl, [0, 2, 3, 10, 13, 29, 30, 31, 15, 20], [0], rfl, rfl⟩
    · clear hcw
      repeat' first | refine T.seq ?_ | refine T.block ?_ | refine T.r ?_ | refine J.e rfl rfl rfl rfl ?_ | refine J.nil ?_ | refine J.skip rfl rfl rfl ?_ | refine T.skip ?_ | refine T.exit ?_ | refine T.ret ?_ | refine T.rd rfl (by kernel_rfl) ?_ | refine J.bx rfl rfl rfl rfl rfl rfl ?_
      refine T.cd rfl (fun h4 => ?_) (fun h4 => ?_)
      · have h4 : cx = [] := by simp at h4; exact h4
        rw [if_pos h4] at he
        subst he
        repeat' first | refine T.seq ?_ | refine T.block ?_ | refine T.r ?_ | refine J.e rfl rfl rfl rfl ?_ | refine J.nil ?_ | refine J.skip rfl rfl rfl ?_ | refine T.skip ?_ | refine T.exit ?_ | refine T.ret ?_ | refine T.rd rfl (by kernel_rfl) ?_ | refine J.bx rfl rfl rfl rfl rfl rfl ?_
        exact ⟨.v rfl rfl rfl (fun h => by cases h) (.v rfl rfl rfl (fun h => by cases h) .nil), _, rfl, rfl⟩
      · have h4 : cx ≠ [] := fun e => h4 (by rw [e]; rfl)
        rw [if_neg h4] at he
        have hset := mem_set (p := Fine) (i := v.toNat) hf1 hfine
        cases ch
        · repeat' first | refine T.seq ?_ | refine T.block ?_ | refine T.r ?_ | refine J.e rfl rfl rfl rfl ?_ | refine J.nil ?_ | refine J.skip rfl rfl rfl ?_ | refine T.skip ?_ | refine T.exit ?_ | refine T.ret ?_ | refine T.rd rfl (by kernel_rfl) ?_ | refine J.bx rfl rfl rfl rfl rfl rfl ?_
          refine J.io rfl rfl rfl rfl rfl rfl rfl rfl rfl hv.1 (by simpa using hvd) rfl ?_
          refine J.lo rfl rfl rfl rfl rfl rfl (r := cD dv) hrow rfl ?_
          repeat' first | refine T.seq ?_ | refine T.block ?_ | refine T.r ?_ | refine J.e rfl rfl rfl rfl ?_ | refine J.nil ?_ | refine J.skip rfl rfl rfl ?_ | refine T.skip ?_ | refine T.exit ?_ | refine T.ret ?_ | refine T.rd rfl (by kernel_rfl) ?_ | refine J.bx rfl rfl rfl rfl rfl rfl ?_
          refine J.cc rfl rfl rfl rfl rfl (hsame cx (by have := hfine.len; omega)) rfl rfl ?_
          repeat' first | refine T.seq ?_ | refine T.block ?_ | refine T.r ?_ | refine J.e rfl rfl rfl rfl ?_ | refine J.nil ?_ | refine J.skip rfl rfl rfl ?_ | refine T.skip ?_ | refine T.exit ?_ | refine T.ret ?_ | refine T.rd rfl (by kernel_rfl) ?_ | refine J.bx rfl rfl rfl rfl rfl rfl ?_
          refine J.io rfl rfl rfl rfl rfl rfl rfl rfl rfl hv.1 (by simpa using hvd) rfl ?_
          refine J.w1 rfl rfl rfl rfl rfl rfl rfl rfl rfl rfl rfl (fun _ => rfl) hvd ?_
          repeat' first | refine T.seq ?_ | refine T.block ?_ | refine T.r ?_ | refine J.e rfl rfl rfl rfl ?_ | refine J.nil ?_ | refine J.skip rfl rfl rfl ?_ | refine T.skip ?_ | refine T.exit ?_ | refine T.ret ?_ | refine T.rd rfl (by kernel_rfl) ?_ | refine J.bx rfl rfl rfl rfl rfl rfl ?_
          rw [wrap1 (l := vars.length) (by omega) (by omega)]
          exact T.canon (keep := [0, 2, 3, 10, 13, 29, 30, 31]) (os := [0]) rfl (ih (i + 1, d1.set v.toNat cx, !decide (cx = dv)) ⟨by simp only; omega, he, by simp [hl1], hset⟩ (by simp only; omega))
        · repeat' first | refine T.seq ?_ | refine T.block ?_ | refine T.r ?_ | refine J.e rfl rfl rfl rfl ?_ | refine J.nil ?_ | refine J.skip rfl rfl rfl ?_ | refine T.skip ?_ | refine T.exit ?_ | refine T.ret ?_ | refine T.rd rfl (by kernel_rfl) ?_ | refine J.bx rfl rfl rfl rfl rfl rfl ?_
          refine J.io rfl rfl rfl rfl rfl rfl rfl rfl rfl hv.1 (by simpa using hvd) rfl ?_
          refine J.w1 rfl rfl rfl rfl rfl rfl rfl rfl rfl rfl rfl (fun _ => rfl) hvd ?_
          repeat' first | refine T.seq ?_ | refine T.block ?_ | refine T.r ?_ | refine J.e rfl rfl rfl rfl ?_ | refine J.nil ?_ | refine J.skip rfl rfl rfl ?_ | refine T.skip ?_ | refine T.exit ?_ | refine T.ret ?_ | refine T.rd rfl (by kernel_rfl) ?_ | refine J.bx rfl rfl rfl rfl rfl rfl ?_
          rw [wrap1 (l := vars.length) (by omega) (by omega)]
          exact T.canon (keep := [0, 2, 3, 10, 13, 29, 30, 31]) (os := [0]) rfl (ih (i + 1, d1.set v.toNat cx, true) ⟨by simp only; omega, he, by simp [hl1], hset⟩ (by simp only; omega))
  · have h1 : i = vars.length := by simp at h1; omega
    subst h1
    rw [List.drop_of_length_le (by simp; omega), mostGo] at he
    subst he
    repeat' first | refine T.seq ?_ | refine T.block ?_ | refine T.r ?_ | refine J.e rfl rfl rfl rfl ?_ | refine J.nil ?_ | refine J.skip rfl rfl rfl ?_ | refine T.skip ?_ | refine T.exit ?_ | refine T.ret ?_ | refine T.rd rfl (by kernel_rfl) ?_ | refine J.bx rfl rfl rfl rfl rfl rfl ?_
    exact ⟨.v rfl rfl rfl (fun h => by cases h) (.v rfl rfl rfl (fun h => by cases h) .nil), _, rfl, rfl⟩

/-! The document's. -/
def restRGo (i : Nat) : Nat → List (List (Int × Int) × Int) → Int → Int
  | _, [], n => n
  | k, t :: ts, n => restRGo i (k + 1) ts (if k = i then n else wr (n + (endR t.1 t.2).1))
def leftR (x : List Int) (k rhs rest : Int) : List Int := x.filter fun v => decide (wr (k * v) ≤ wr (rhs - rest))
def mostRAt (d : Doms) (vars coefs : List Int) (rhs : Int) (i : Nat) : List (Int × Int) := pack (leftR (vals (domAt d (vars.getD i 0))) (coefs.getD i 0) rhs (restRGo i 0 (termsOf d vars coefs) 0))
def mostRd (d : Doms) (vars coefs : List Int) (rhs : Int) : Nat → Doms
  | 0 => d
  | n + 1 => (mostRd d vars coefs rhs n).set (vars.getD n 0).toNat (mostRAt d vars coefs rhs n)
theorem mostRd_len (d : Doms) (vars coefs : List Int) (rhs : Int) : ∀ n, (mostRd d vars coefs rhs n).length = d.length
  | 0 => rfl
  | n + 1 => by simp [mostRd, mostRd_len d vars coefs rhs n]
theorem getD_at {l : List Int} {i : Nat} (h : i < l.length) : l.getD i 0 = l[i] := by simp [List.getD_eq_getElem?_getD, List.getElem?_eq_getElem h]
theorem rmost_spec (d : Doms) (vars coefs : List Int) (rhs : Int) (h : SumIn d vars coefs) :
    Spec Try.prog 52 false [doms d, ints vars, ints coefs, .int .i64 rhs] [.own 38 1 ((mostRd d vars coefs rhs vars.length).map cD)] := by
  refine Spec.body Try.func52 rfl rfl rfl fun w0 Z0 => ?_
  obtain ⟨hlen, hvl, hvin, hck, hdom, hdl⟩ := h
  repeat' first | refine T.seq ?_ | refine T.block ?_ | refine T.r ?_ | refine J.e rfl rfl rfl rfl ?_ | refine J.nil ?_ | refine J.skip rfl rfl rfl ?_ | refine T.skip ?_ | refine T.exit ?_ | refine T.ret ?_ | refine T.rd rfl (by kernel_rfl) ?_ | refine J.bx rfl rfl rfl rfl rfl rfl ?_
  refine J.cc rfl rfl rfl rfl rfl (lists_spec d hdl (fun x hx => (hdom x hx).2.2)) rfl rfl ?_
  repeat' first | refine T.seq ?_ | refine T.block ?_ | refine T.r ?_ | refine J.e rfl rfl rfl rfl ?_ | refine J.nil ?_ | refine J.skip rfl rfl rfl ?_ | refine T.skip ?_ | refine T.exit ?_ | refine T.ret ?_ | refine T.rd rfl (by kernel_rfl) ?_ | refine J.bx rfl rfl rfl rfl rfl rfl ?_
  refine T.canon (keep := [0, 1, 2, 3, 9, 10]) (os := [9]) rfl (T.ind (fun i : Nat => ⟨[(0, .val false (doms d)), (1, .val false (ints vars)), (2, .val false (ints coefs)), (3, .val false (.int .i64 rhs)), (9, .ref 0), (10, .val true (.int .i64 i))], [(0, some (.sl 38 1 true ((mostRd d vars coefs rhs i).map cD)))], 1⟩) (fun i => i ≤ vars.length) (fun i => vars.length - i) 0 (by simp) (fun _ _ h => h) ?_)
  rintro i hil ih
  repeat' first | refine T.seq ?_ | refine T.block ?_ | refine T.r ?_ | refine J.e rfl rfl rfl rfl ?_ | refine J.nil ?_ | refine J.skip rfl rfl rfl ?_ | refine T.skip ?_ | refine T.exit ?_ | refine T.ret ?_ | refine T.rd rfl (by kernel_rfl) ?_ | refine J.bx rfl rfl rfl rfl rfl rfl ?_
  refine T.cd rfl (fun h1 => ?_) (fun h1 => ?_)
  · have h1 : i < vars.length := by simpa using h1
    have h2 : i < coefs.length := by omega
    have hv := hvin _ (List.getElem_mem h1)
    have hx := hdom _ (domAt_mem hv.2)
    have hrow : (d.map cD)[vars[i].toNat]? = some (cD (domAt d vars[i])) := by simp [domAt_some hv.2]
    have hat : mostRAt d vars coefs rhs i = pack (leftR (vals (domAt d vars[i])) coefs[i] rhs (restRGo i 0 (termsOf d vars coefs) 0)) := by
      unfold mostRAt
      rw [getD_at h1, getD_at h2]
    have hnext : mostRd d vars coefs rhs (i + 1) = (mostRd d vars coefs rhs i).set vars[i].toNat (mostRAt d vars coefs rhs i) := by
      rw [mostRd, getD_at h1]
    repeat' first | refine T.seq ?_ | refine T.block ?_ | refine T.r ?_ | refine J.e rfl rfl rfl rfl ?_ | refine J.nil ?_ | refine J.skip rfl rfl rfl ?_ | refine T.skip ?_ | refine T.exit ?_ | refine T.ret ?_ | refine T.rd rfl (by kernel_rfl) ?_ | refine J.bx rfl rfl rfl rfl rfl rfl ?_
    refine T.canon (keep := [0, 1, 2, 3, 9, 10, 11, 12]) (os := [9]) rfl (T.ind (fun s : Nat × Int => ⟨[(0, .val false (doms d)), (1, .val false (ints vars)), (2, .val false (ints coefs)), (3, .val false (.int .i64 rhs)), (9, .ref 0), (10, .val true (.int .i64 i)), (11, .val true (.int .i64 s.2)), (12, .val true (.int .i64 s.1))], [(0, some (.sl 38 1 true ((mostRd d vars coefs rhs i).map cD)))], 1⟩)
      (fun s => s.1 ≤ vars.length ∧ restRGo i s.1 ((termsOf d vars coefs).drop s.1) s.2 = restRGo i 0 (termsOf d vars coefs) 0) (fun s => vars.length - s.1) (0, 0) ⟨by simp, rfl⟩ (fun _ _ h => h) ?_)
    rintro ⟨k, n⟩ ⟨hkl, hn⟩ ih2
    simp only at hkl hn
    dsimp only
    repeat' first | refine T.seq ?_ | refine T.block ?_ | refine T.r ?_ | refine J.e rfl rfl rfl rfl ?_ | refine J.nil ?_ | refine J.skip rfl rfl rfl ?_ | refine T.skip ?_ | refine T.exit ?_ | refine T.ret ?_ | refine T.rd rfl (by kernel_rfl) ?_ | refine J.bx rfl rfl rfl rfl rfl rfl ?_
    refine T.cd rfl (fun h3 => ?_) (fun h3 => ?_)
    · have h3 : k < vars.length := by simpa using h3
      have h4 : k < coefs.length := by omega
      have hvk := hvin _ (List.getElem_mem h3)
      have hxk := hdom _ (domAt_mem hvk.2)
      have hrowk : (d.map cD)[vars[k].toNat]? = some (cD (domAt d vars[k])) := by simp [domAt_some hvk.2]
      rw [terms_cons h3 h4, restRGo] at hn
      repeat' first | refine T.seq ?_ | refine T.block ?_ | refine T.r ?_ | refine J.e rfl rfl rfl rfl ?_ | refine J.nil ?_ | refine J.skip rfl rfl rfl ?_ | refine T.skip ?_ | refine T.exit ?_ | refine T.ret ?_ | refine T.rd rfl (by kernel_rfl) ?_ | refine J.bx rfl rfl rfl rfl rfl rfl ?_
      refine J.i rfl rfl rfl rfl rfl rfl rfl rfl rfl (r := cI vars[k]) (by omega) (row_i h3) rfl ?_
      repeat' first | refine T.seq ?_ | refine T.block ?_ | refine T.r ?_ | refine J.e rfl rfl rfl rfl ?_ | refine J.nil ?_ | refine J.skip rfl rfl rfl ?_ | refine T.skip ?_ | refine T.exit ?_ | refine T.ret ?_ | refine T.rd rfl (by kernel_rfl) ?_ | refine J.bx rfl rfl rfl rfl rfl rfl ?_
      refine J.i rfl rfl rfl rfl rfl rfl rfl rfl rfl (r := cD (domAt d vars[k])) hvk.1 hrowk rfl ?_
      repeat' first | refine T.seq ?_ | refine T.block ?_ | refine T.r ?_ | refine J.e rfl rfl rfl rfl ?_ | refine J.nil ?_ | refine J.skip rfl rfl rfl ?_ | refine T.skip ?_ | refine T.exit ?_ | refine T.ret ?_ | refine T.rd rfl (by kernel_rfl) ?_ | refine J.bx rfl rfl rfl rfl rfl rfl ?_
      refine J.i rfl rfl rfl rfl rfl rfl rfl rfl rfl (r := cI coefs[k]) (by omega) (row_i h4) rfl ?_
      repeat' first | refine T.seq ?_ | refine T.block ?_ | refine T.r ?_ | refine J.e rfl rfl rfl rfl ?_ | refine J.nil ?_ | refine J.skip rfl rfl rfl ?_ | refine T.skip ?_ | refine T.exit ?_ | refine T.ret ?_ | refine T.rd rfl (by kernel_rfl) ?_ | refine J.bx rfl rfl rfl rfl rfl rfl ?_
      refine J.cc rfl rfl rfl rfl rfl (rend_spec _ coefs[k] hxk) rfl rfl ?_
      generalize endR (domAt d vars[k]) coefs[k] = e1 at *
      repeat' first | refine T.seq ?_ | refine T.block ?_ | refine T.r ?_ | refine J.e rfl rfl rfl rfl ?_ | refine J.nil ?_ | refine J.skip rfl rfl rfl ?_ | refine T.skip ?_ | refine T.exit ?_ | refine T.ret ?_ | refine T.rd rfl (by kernel_rfl) ?_ | refine J.bx rfl rfl rfl rfl rfl rfl ?_
      refine T.cd rfl (fun h5 => ?_) (fun h5 => ?_)
      · have h5 : ¬ k = i := by intro e; exact h5 (by rw [e])
        rw [if_neg h5] at hn
        repeat' first | refine T.seq ?_ | refine T.block ?_ | refine T.r ?_ | refine J.e rfl rfl rfl rfl ?_ | refine J.nil ?_ | refine J.skip rfl rfl rfl ?_ | refine T.skip ?_ | refine T.exit ?_ | refine T.ret ?_ | refine T.rd rfl (by kernel_rfl) ?_ | refine J.bx rfl rfl rfl rfl rfl rfl ?_
        rw [wrap1 (l := vars.length) (by omega) (by omega)]
        exact T.canon (keep := [0, 1, 2, 3, 9, 10, 11, 12]) (os := [9]) rfl (ih2 (k + 1, wr (n + e1.1)) ⟨by simp only; omega, hn⟩ (by simp only; omega))
      · have h5 : k = i := by
          have h5 : ¬ ((k : Int) ≠ i) := h5
          omega
        rw [if_pos h5] at hn
        repeat' first | refine T.seq ?_ | refine T.block ?_ | refine T.r ?_ | refine J.e rfl rfl rfl rfl ?_ | refine J.nil ?_ | refine J.skip rfl rfl rfl ?_ | refine T.skip ?_ | refine T.exit ?_ | refine T.ret ?_ | refine T.rd rfl (by kernel_rfl) ?_ | refine J.bx rfl rfl rfl rfl rfl rfl ?_
        rw [wrap1 (l := vars.length) (by omega) (by omega)]
        exact T.canon (keep := [0, 1, 2, 3, 9, 10, 11, 12]) (os := [9]) rfl (ih2 (k + 1, n) ⟨by simp only; omega, hn⟩ (by simp only; omega))
    · have h3 : k = vars.length := by simp at h3; omega
      subst h3
      rw [terms_end hlen, restRGo] at hn
      rw [← hn] at hat
      clear ih2
      have hvx := values_spec (domAt d vars[i]) hx.1 (by have := hx.2.1; omega) hx.2.2
      have hvin2 := vals_in hx.1
      have hvl2 := hx.2.1
      generalize vals (domAt d vars[i]) = l at *
      repeat' first | refine T.seq ?_ | refine T.block ?_ | refine T.r ?_ | refine J.e rfl rfl rfl rfl ?_ | refine J.nil ?_ | refine J.skip rfl rfl rfl ?_ | refine T.skip ?_ | refine T.exit ?_ | refine T.ret ?_ | refine T.rd rfl (by kernel_rfl) ?_ | refine J.bx rfl rfl rfl rfl rfl rfl ?_
      refine J.i rfl rfl rfl rfl rfl rfl rfl rfl rfl (r := cI vars[i]) (by omega) (row_i h1) rfl ?_
      repeat' first | refine T.seq ?_ | refine T.block ?_ | refine T.r ?_ | refine J.e rfl rfl rfl rfl ?_ | refine J.nil ?_ | refine J.skip rfl rfl rfl ?_ | refine T.skip ?_ | refine T.exit ?_ | refine T.ret ?_ | refine T.rd rfl (by kernel_rfl) ?_ | refine J.bx rfl rfl rfl rfl rfl rfl ?_
      refine J.i rfl rfl rfl rfl rfl rfl rfl rfl rfl (r := cD (domAt d vars[i])) hv.1 hrow rfl ?_
      repeat' first | refine T.seq ?_ | refine T.block ?_ | refine T.r ?_ | refine J.e rfl rfl rfl rfl ?_ | refine J.nil ?_ | refine J.skip rfl rfl rfl ?_ | refine T.skip ?_ | refine T.exit ?_ | refine T.ret ?_ | refine T.rd rfl (by kernel_rfl) ?_ | refine J.bx rfl rfl rfl rfl rfl rfl ?_
      refine J.cc rfl rfl rfl rfl rfl hvx rfl rfl ?_
      refine J.bo rfl rfl rfl rfl rfl rfl rfl rfl rfl rfl rfl rfl ?_
      repeat' first | refine T.seq ?_ | refine T.block ?_ | refine T.r ?_ | refine J.e rfl rfl rfl rfl ?_ | refine J.nil ?_ | refine J.skip rfl rfl rfl ?_ | refine T.skip ?_ | refine T.exit ?_ | refine T.ret ?_ | refine T.rd rfl (by kernel_rfl) ?_ | refine J.bx rfl rfl rfl rfl rfl rfl ?_
      refine T.canon (keep := [0, 1, 2, 3, 9, 10, 11, 16, 17, 18]) (os := [9, 16, 17]) rfl (T.ind (fun k : Nat => ⟨[(0, .val false (doms d)), (1, .val false (ints vars)), (2, .val false (ints coefs)), (3, .val false (.int .i64 rhs)), (9, .ref 0), (10, .val true (.int .i64 i)), (11, .val true (.int .i64 n)), (16, .ref 1), (17, .ref 2), (18, .val true (.int .i64 k))], [(0, some (.sl 38 1 true ((mostRd d vars coefs rhs i).map cD))), (1, some (.sl 3 1 true (l.map cI))), (2, some (.sl 3 1 true ((leftR (l.take k) coefs[i] rhs n).map cI)))], 3⟩)
        (fun k => k ≤ l.length) (fun k => l.length - k) 0 (by simp) (fun _ _ h => h) ?_)
      rintro k hk ih3
      repeat' first | refine T.seq ?_ | refine T.block ?_ | refine T.r ?_ | refine J.e rfl rfl rfl rfl ?_ | refine J.nil ?_ | refine J.skip rfl rfl rfl ?_ | refine T.skip ?_ | refine T.exit ?_ | refine T.ret ?_ | refine T.rd rfl (by kernel_rfl) ?_ | refine J.bx rfl rfl rfl rfl rfl rfl ?_
      refine T.cd rfl (fun h3 => ?_) (fun h3 => ?_)
      · have h3 : k < l.length := by simpa using h3
        have hfl : (leftR (l.take k) coefs[i] rhs n).length ≤ k := by
          unfold leftR
          refine Nat.le_trans (List.length_filter_le _ _) ?_
          simp; omega
        have e : leftR (l.take (k + 1)) coefs[i] rhs n = leftR (l.take k) coefs[i] rhs n ++ if wr (coefs[i] * l[k]) ≤ wr (rhs - n) then [l[k]] else [] := by
          unfold leftR
          rw [List.take_succ_eq_append_getElem h3, List.filter_append]
          congr 1
          by_cases hc : wr (coefs[i] * l[k]) ≤ wr (rhs - n)
          · simp [hc]
          · simp [hc]
        repeat' first | refine T.seq ?_ | refine T.block ?_ | refine T.r ?_ | refine J.e rfl rfl rfl rfl ?_ | refine J.nil ?_ | refine J.skip rfl rfl rfl ?_ | refine T.skip ?_ | refine T.exit ?_ | refine T.ret ?_ | refine T.rd rfl (by kernel_rfl) ?_ | refine J.bx rfl rfl rfl rfl rfl rfl ?_
        refine J.i rfl rfl rfl rfl rfl rfl rfl rfl rfl (r := cI coefs[i]) (by omega) (row_i h2) rfl ?_
        repeat' first | refine T.seq ?_ | refine T.block ?_ | refine T.r ?_ | refine J.e rfl rfl rfl rfl ?_ | refine J.nil ?_ | refine J.skip rfl rfl rfl ?_ | refine T.skip ?_ | refine T.exit ?_ | refine T.ret ?_ | refine T.rd rfl (by kernel_rfl) ?_ | refine J.bx rfl rfl rfl rfl rfl rfl ?_
        refine J.io rfl rfl rfl rfl rfl rfl rfl rfl rfl (by omega) (by simpa using h3) rfl ?_
        refine J.lo rfl rfl rfl rfl rfl rfl (r := cI l[k]) (row_i h3) rfl ?_
        repeat' first | refine T.seq ?_ | refine T.block ?_ | refine T.r ?_ | refine J.e rfl rfl rfl rfl ?_ | refine J.nil ?_ | refine J.skip rfl rfl rfl ?_ | refine T.skip ?_ | refine T.exit ?_ | refine T.ret ?_ | refine T.rd rfl (by kernel_rfl) ?_ | refine J.bx rfl rfl rfl rfl rfl rfl ?_
        refine T.cd rfl (fun h4 => ?_) (fun h4 => ?_)
        · rw [if_pos h4] at e
          repeat' first | refine T.seq ?_ | refine T.block ?_ | refine T.r ?_ | refine J.e rfl rfl rfl rfl ?_ | refine J.nil ?_ | refine J.skip rfl rfl rfl ?_ | refine T.skip ?_ | refine T.exit ?_ | refine T.ret ?_ | refine T.rd rfl (by kernel_rfl) ?_ | refine J.bx rfl rfl rfl rfl rfl rfl ?_
          refine J.io rfl rfl rfl rfl rfl rfl rfl rfl rfl (by omega) (by simpa using h3) rfl ?_
          refine J.lo rfl rfl rfl rfl rfl rfl (r := cI l[k]) (row_i h3) rfl ?_
          repeat' first | refine T.seq ?_ | refine T.block ?_ | refine T.r ?_ | refine J.e rfl rfl rfl rfl ?_ | refine J.nil ?_ | refine J.skip rfl rfl rfl ?_ | refine T.skip ?_ | refine T.exit ?_ | refine T.ret ?_ | refine T.rd rfl (by kernel_rfl) ?_ | refine J.bx rfl rfl rfl rfl rfl rfl ?_
          refine J.bv rfl rfl rfl rfl rfl rfl rfl rfl rfl rfl rfl rfl ?_
          refine J.aI rfl rfl rfl rfl rfl rfl rfl rfl rfl rfl rfl rfl rfl rfl rfl rfl rfl rfl rfl (by omega) ?_
          repeat' first | refine T.seq ?_ | refine T.block ?_ | refine T.r ?_ | refine J.e rfl rfl rfl rfl ?_ | refine J.nil ?_ | refine J.skip rfl rfl rfl ?_ | refine T.skip ?_ | refine T.exit ?_ | refine T.ret ?_ | refine T.rd rfl (by kernel_rfl) ?_ | refine J.bx rfl rfl rfl rfl rfl rfl ?_
          rw [wrap1 (l := l.length) (by omega) (by omega), ← e]
          exact T.canon (keep := [0, 1, 2, 3, 9, 10, 11, 16, 17, 18]) (os := [9, 16, 17]) rfl (ih3 (k + 1) (by omega) (by omega))
        · rw [if_neg h4, List.append_nil] at e
          repeat' first | refine T.seq ?_ | refine T.block ?_ | refine T.r ?_ | refine J.e rfl rfl rfl rfl ?_ | refine J.nil ?_ | refine J.skip rfl rfl rfl ?_ | refine T.skip ?_ | refine T.exit ?_ | refine T.ret ?_ | refine T.rd rfl (by kernel_rfl) ?_ | refine J.bx rfl rfl rfl rfl rfl rfl ?_
          rw [wrap1 (l := l.length) (by omega) (by omega), ← e]
          exact T.canon (keep := [0, 1, 2, 3, 9, 10, 11, 16, 17, 18]) (os := [9, 16, 17]) rfl (ih3 (k + 1) (by omega) (by omega))
      · have h3 : k = l.length := by simp at h3; omega
        subst h3
        rw [List.take_length]
        have hpk := (pack_spec (leftR l coefs[i] rhs n) (fun v hv => by
          have := hvin2 v (List.mem_filter.1 hv).1
          omega) (by
          have : (leftR l coefs[i] rhs n).length ≤ l.length := List.length_filter_le _ _
          omega)).frz
        rw [← hat] at *
        have hdl2 := mostRd_len d vars coefs rhs i
        repeat' first | refine T.seq ?_ | refine T.block ?_ | refine T.r ?_ | refine J.e rfl rfl rfl rfl ?_ | refine J.nil ?_ | refine J.skip rfl rfl rfl ?_ | refine T.skip ?_ | refine T.exit ?_ | refine T.ret ?_ | refine J.bx rfl rfl rfl rfl rfl rfl ?_
        refine T.rdw 9 rfl (by kernel_rfl) rfl ?_
        repeat' first | refine J.e rfl rfl rfl rfl ?_ | refine J.skip rfl rfl rfl ?_ | refine J.bx rfl rfl rfl rfl rfl rfl ?_
        refine J.i rfl rfl rfl rfl rfl rfl rfl rfl rfl (r := cI vars[i]) (by omega) (row_i h1) rfl ?_
        repeat' first | refine J.e rfl rfl rfl rfl ?_ | refine J.skip rfl rfl rfl ?_ | refine J.bx rfl rfl rfl rfl rfl rfl ?_
        refine J.cc rfl rfl rfl rfl rfl hpk rfl rfl ?_
        refine J.io rfl rfl rfl rfl rfl rfl rfl rfl rfl hv.1 (by simp [hdl2]; omega) rfl ?_
        refine J.wd1 rfl rfl rfl rfl rfl rfl rfl rfl rfl rfl rfl (z := mostRAt d vars coefs rhs i) (fun _ => rfl) (by omega) ?_
        refine J.nil ?_
        refine ⟨rfl, ?_⟩
        repeat' first | refine T.seq ?_ | refine T.block ?_ | refine T.r ?_ | refine J.e rfl rfl rfl rfl ?_ | refine J.nil ?_ | refine J.skip rfl rfl rfl ?_ | refine T.skip ?_ | refine T.exit ?_ | refine T.ret ?_ | refine T.rd rfl (by kernel_rfl) ?_ | refine J.bx rfl rfl rfl rfl rfl rfl ?_
        rw [wrap1 (l := vars.length) (by omega) (by omega), ← hnext]
        exact T.canon (keep := [0, 1, 2, 3, 9, 10]) (os := [9]) rfl (ih (i + 1) (by omega) (by omega))
  · have h1 : i = vars.length := by simp at h1; omega
    subst h1
    repeat' first | refine T.seq ?_ | refine T.block ?_ | refine T.r ?_ | refine J.e rfl rfl rfl rfl ?_ | refine J.nil ?_ | refine J.skip rfl rfl rfl ?_ | refine T.skip ?_ | refine T.exit ?_ | refine T.ret ?_ | refine T.rd rfl (by kernel_rfl) ?_ | refine J.bx rfl rfl rfl rfl rfl rfl ?_
    exact ⟨_, .o rfl rfl rfl (fun _ => .inl rfl) (by simp) .nil⟩
end Go.Proofs.Ytchajofdjeijfaa
/-! Contracts: what is left of domains, if a sum is not a number: by the program, by the document. -/
namespace Go.Proofs.Ytchajofdjeijfaa
open Go Go.RowKit
set_option linter.unusedVariables false
set_option linter.unusedSimpArgs false
set_option maxRecDepth 8000

def minusIn : List (Int × Int) → Int → Int → List (Int × Int) → Int × List (Int × Int)
  | [], lo, hi, out => (lo, out)
  | y :: b, lo, hi, out => if y.2 < lo ∨ hi < y.1 then minusIn b lo hi out else minusIn b (wr (y.2 + 1)) hi (if lo < y.1 then out ++ [(lo, wr (y.1 - 1))] else out)
def minusOne (b : List (Int × Int)) (out : List (Int × Int)) (x : Int × Int) : List (Int × Int) := if (minusIn b x.1 x.2 out).1 ≤ x.2 then (minusIn b x.1 x.2 out).2 ++ [((minusIn b x.1 x.2 out).1, x.2)] else (minusIn b x.1 x.2 out).2
def minusW (a b : List (Int × Int)) : List (Int × Int) := a.foldl (minusOne b) []
theorem minusIn_len : ∀ (b : List (Int × Int)) (lo hi : Int) (out : List (Int × Int)), (minusIn b lo hi out).2.length ≤ out.length + b.length
  | [], lo, hi, out => by simp [minusIn]
  | y :: b, lo, hi, out => by
    rw [minusIn]
    split
    · have := minusIn_len b lo hi out
      simp only [List.length_cons]; omega
    · have := minusIn_len b (wr (y.2 + 1)) hi (if lo < y.1 then out ++ [(lo, wr (y.1 - 1))] else out)
      simp only [List.length_cons]
      split at this
      · simp only [List.length_append, List.length_singleton] at this; split <;> omega
      · split <;> omega
theorem minus_spec (a b : List (Int × Int)) (hb : b.length * 8 ≤ 140737488355328) (hl : (a.length + 1) * (b.length + 1) * 16 ≤ 140737488355328) : Spec Try.prog 81 false [dm a, dm b] [.own 40 2 ((minusW a b).map cR)] := by
  refine Spec.body Try.func81 rfl rfl rfl fun w0 Z0 => ?_
  have hal : a.length * 8 ≤ 140737488355328 := by
    have : a.length + 1 ≤ (a.length + 1) * (b.length + 1) := Nat.le_mul_of_pos_right _ (by omega)
    omega
  repeat' first | refine T.seq ?_ | refine T.block ?_ | refine T.r ?_ | refine J.e rfl rfl rfl rfl ?_ | refine J.nil ?_ | refine J.skip rfl rfl rfl ?_ | refine T.skip ?_ | refine T.exit ?_ | refine T.ret ?_ | refine T.rd rfl (by kernel_rfl) ?_ | refine J.bx rfl rfl rfl rfl rfl rfl ?_
  refine T.sub (Rel.own0 (s := 5) 40 2 rfl) ?_
  refine T.canon (keep := [1, 5, 10, 11, 12]) (os := [5]) rfl (T.ind (fun s : Nat × List (Int × Int) => ⟨[(1, .val false (dm b)), (5, .ref 0), (10, .val false (dm a)), (11, .val true (.int .i64 (a.map cR).length)), (12, .val true (.int .i64 s.1))], [(0, some (.sl 40 2 true (s.2.map cR)))], 1⟩)
    (fun s => s.1 ≤ a.length ∧ (a.drop s.1).foldl (minusOne b) s.2 = minusW a b ∧ s.2.length ≤ s.1 * (b.length + 1)) (fun s => a.length - s.1) (0, []) ⟨by simp, rfl, by simp⟩ (fun _ _ h => h) ?_)
  rintro ⟨n, out⟩ ⟨hn, he, hlo⟩ ih
  simp only at hn he hlo
  dsimp only
  repeat' first | refine T.seq ?_ | refine T.block ?_ | refine T.r ?_ | refine J.e rfl rfl rfl rfl ?_ | refine J.nil ?_ | refine J.skip rfl rfl rfl ?_ | refine T.skip ?_ | refine T.exit ?_ | refine T.ret ?_ | refine T.rd rfl (by kernel_rfl) ?_ | refine J.bx rfl rfl rfl rfl rfl rfl ?_
  refine T.cd rfl (fun h1 => ?_) (fun h1 => ?_)
  · have h1 : n < a.length := by simpa using h1
    rw [List.drop_eq_getElem_cons h1, List.foldl_cons] at he
    have hmul : (n + 1) * (b.length + 1) ≤ (a.length + 1) * (b.length + 1) := Nat.mul_le_mul_right _ (by omega)
    have hmul2 : (n + 1) * (b.length + 1) = n * (b.length + 1) + (b.length + 1) := by rw [Nat.add_mul, Nat.one_mul]
    have hr : (a.map cR)[((n : Nat) : Int).toNat]? = some (cR a[n]) := row_i h1
    generalize a[n] = x at *
    obtain ⟨lo0, hi⟩ := x
    repeat' first | refine T.seq ?_ | refine T.block ?_ | refine T.r ?_ | refine J.e rfl rfl rfl rfl ?_ | refine J.nil ?_ | refine J.skip rfl rfl rfl ?_ | refine T.skip ?_ | refine T.exit ?_ | refine T.ret ?_ | refine T.rd rfl (by kernel_rfl) ?_ | refine J.bx rfl rfl rfl rfl rfl rfl ?_
    refine J.i rfl rfl rfl rfl rfl rfl rfl rfl rfl (r := cR (lo0, hi)) (by omega) hr rfl ?_
    repeat' first | refine T.seq ?_ | refine T.block ?_ | refine T.r ?_ | refine J.e rfl rfl rfl rfl ?_ | refine J.nil ?_ | refine J.skip rfl rfl rfl ?_ | refine T.skip ?_ | refine T.exit ?_ | refine T.ret ?_ | refine T.rd rfl (by kernel_rfl) ?_ | refine J.bx rfl rfl rfl rfl rfl rfl ?_
    refine J.al rfl rfl rfl rfl rfl rfl rfl ?_
    repeat' first | refine T.seq ?_ | refine T.block ?_ | refine T.r ?_ | refine J.e rfl rfl rfl rfl ?_ | refine J.nil ?_ | refine J.skip rfl rfl rfl ?_ | refine T.skip ?_ | refine T.exit ?_ | refine T.ret ?_ | refine T.rd rfl (by kernel_rfl) ?_ | refine J.bx rfl rfl rfl rfl rfl rfl ?_
    refine J.w rfl rfl rfl rfl rfl rfl rfl rfl rfl rfl ?_
    repeat' first | refine T.seq ?_ | refine T.block ?_ | refine T.r ?_ | refine J.e rfl rfl rfl rfl ?_ | refine J.nil ?_ | refine J.skip rfl rfl rfl ?_ | refine T.skip ?_ | refine T.exit ?_ | refine T.ret ?_ | refine T.rd rfl (by kernel_rfl) ?_ | refine J.bx rfl rfl rfl rfl rfl rfl ?_
    refine T.canon (keep := [1, 5, 7, 10, 11, 12, 16, 17, 18]) (os := [5, 7]) rfl (T.ind (fun s : Nat × Int × List (Int × Int) => ⟨[(1, .val false (dm b)), (5, .ref 0), (7, .optr 1 0 0 0), (10, .val false (dm a)), (11, .val true (.int .i64 (a.map cR).length)), (12, .val true (.int .i64 n)), (16, .val false (dm b)), (17, .val true (.int .i64 (b.map cR).length)), (18, .val true (.int .i64 s.1))], [(0, some (.sl 40 2 true (s.2.2.map cR))), (1, some (.box false (cR (s.2.1, hi))))], 2⟩)
      (fun s => s.1 ≤ b.length ∧ minusIn (b.drop s.1) s.2.1 hi s.2.2 = minusIn b lo0 hi out ∧ s.2.2.length ≤ out.length + s.1) (fun s => b.length - s.1) (0, lo0, out) ⟨by simp, rfl, by simp⟩ (fun _ _ h => h) ?_)
    rintro ⟨m, lo, out2⟩ ⟨hm, he2, hlo2⟩ ih2
    simp only at hm he2 hlo2
    dsimp only
    repeat' first | refine T.seq ?_ | refine T.block ?_ | refine T.r ?_ | refine J.e rfl rfl rfl rfl ?_ | refine J.nil ?_ | refine J.skip rfl rfl rfl ?_ | refine T.skip ?_ | refine T.exit ?_ | refine T.ret ?_ | refine T.rd rfl (by kernel_rfl) ?_ | refine J.bx rfl rfl rfl rfl rfl rfl ?_
    refine T.cd rfl (fun h2 => ?_) (fun h2 => ?_)
    · have h2 : m < b.length := by simpa using h2
      rw [List.drop_eq_getElem_cons h2, minusIn] at he2
      have hr2 : (b.map cR)[((m : Nat) : Int).toNat]? = some (cR b[m]) := row_i h2
      generalize b[m] = y at *
      obtain ⟨y1, y2⟩ := y
      simp only at he2
      have skip : (y2 < lo ∨ hi < y1) → minusIn (b.drop (m + 1)) lo hi out2 = minusIn b lo0 hi out := fun h => by rw [if_pos h] at he2; exact he2
      have keep : ¬ (y2 < lo ∨ hi < y1) → minusIn (b.drop (m + 1)) (wr (y2 + 1)) hi (if lo < y1 then out2 ++ [(lo, wr (y1 - 1))] else out2) = minusIn b lo0 hi out := fun h => by rw [if_neg h] at he2; exact he2
      repeat' first | refine T.seq ?_ | refine T.block ?_ | refine T.r ?_ | refine J.e rfl rfl rfl rfl ?_ | refine J.nil ?_ | refine J.skip rfl rfl rfl ?_ | refine T.skip ?_ | refine T.exit ?_ | refine T.ret ?_ | refine T.rd rfl (by kernel_rfl) ?_ | refine J.bx rfl rfl rfl rfl rfl rfl ?_
      refine J.i rfl rfl rfl rfl rfl rfl rfl rfl rfl (r := cR (y1, y2)) (by omega) hr2 rfl ?_
      repeat' first | refine T.seq ?_ | refine T.block ?_ | refine T.r ?_ | refine J.e rfl rfl rfl rfl ?_ | refine J.nil ?_ | refine J.skip rfl rfl rfl ?_ | refine T.skip ?_ | refine T.exit ?_ | refine T.ret ?_ | refine T.rd rfl (by kernel_rfl) ?_ | refine J.bx rfl rfl rfl rfl rfl rfl ?_
      refine J.al rfl rfl rfl rfl rfl rfl rfl ?_
      repeat' first | refine T.seq ?_ | refine T.block ?_ | refine T.r ?_ | refine J.e rfl rfl rfl rfl ?_ | refine J.nil ?_ | refine J.skip rfl rfl rfl ?_ | refine T.skip ?_ | refine T.exit ?_ | refine T.ret ?_ | refine T.rd rfl (by kernel_rfl) ?_ | refine J.bx rfl rfl rfl rfl rfl rfl ?_
      refine J.w rfl rfl rfl rfl rfl rfl rfl rfl rfl rfl ?_
      repeat' first | refine T.seq ?_ | refine T.block ?_ | refine T.r ?_ | refine J.e rfl rfl rfl rfl ?_ | refine J.nil ?_ | refine J.skip rfl rfl rfl ?_ | refine T.skip ?_ | refine T.exit ?_ | refine T.ret ?_ | refine T.rd rfl (by kernel_rfl) ?_ | refine J.bx rfl rfl rfl rfl rfl rfl ?_
      refine J.g rfl rfl rfl (fun h3 => ?_) (fun h3 => ?_)
      · have h3 : y2 < lo := h3
        repeat' first | refine T.seq ?_ | refine T.block ?_ | refine T.r ?_ | refine J.e rfl rfl rfl rfl ?_ | refine J.nil ?_ | refine J.skip rfl rfl rfl ?_ | refine T.skip ?_ | refine T.exit ?_ | refine T.ret ?_ | refine T.rd rfl (by kernel_rfl) ?_ | refine J.bx rfl rfl rfl rfl rfl rfl ?_
        refine T.ct rfl ?_
        repeat' first | refine T.seq ?_ | refine T.block ?_ | refine T.r ?_ | refine J.e rfl rfl rfl rfl ?_ | refine J.nil ?_ | refine J.skip rfl rfl rfl ?_ | refine T.skip ?_ | refine T.exit ?_ | refine T.ret ?_ | refine T.rd rfl (by kernel_rfl) ?_ | refine J.bx rfl rfl rfl rfl rfl rfl ?_
        rw [wrap1 (l := b.length) (by omega) (by omega)]
        exact T.canon (keep := [1, 5, 7, 10, 11, 12, 16, 17, 18]) (os := [5, 7]) rfl (ih2 (m + 1, lo, out2) ⟨by simp only; omega, skip (.inl h3), by simp only; omega⟩ (by simp only; omega))
      · have h3 : ¬ y2 < lo := h3
        repeat' first | refine T.seq ?_ | refine T.block ?_ | refine T.r ?_ | refine J.e rfl rfl rfl rfl ?_ | refine J.nil ?_ | refine J.skip rfl rfl rfl ?_ | refine T.skip ?_ | refine T.exit ?_ | refine T.ret ?_ | refine T.rd rfl (by kernel_rfl) ?_ | refine J.bx rfl rfl rfl rfl rfl rfl ?_
        refine T.cd rfl (fun h4 => ?_) (fun h4 => ?_)
        · have h4 : hi < y1 := h4
          repeat' first | refine T.seq ?_ | refine T.block ?_ | refine T.r ?_ | refine J.e rfl rfl rfl rfl ?_ | refine J.nil ?_ | refine J.skip rfl rfl rfl ?_ | refine T.skip ?_ | refine T.exit ?_ | refine T.ret ?_ | refine T.rd rfl (by kernel_rfl) ?_ | refine J.bx rfl rfl rfl rfl rfl rfl ?_
          rw [wrap1 (l := b.length) (by omega) (by omega)]
          exact T.canon (keep := [1, 5, 7, 10, 11, 12, 16, 17, 18]) (os := [5, 7]) rfl (ih2 (m + 1, lo, out2) ⟨by simp only; omega, skip (.inr h4), by simp only; omega⟩ (by simp only; omega))
        · have h4 : ¬ hi < y1 := h4
          have keep := keep (fun h => h.elim h3 h4)
          repeat' first | refine T.seq ?_ | refine T.block ?_ | refine T.r ?_ | refine J.e rfl rfl rfl rfl ?_ | refine J.nil ?_ | refine J.skip rfl rfl rfl ?_ | refine T.skip ?_ | refine T.exit ?_ | refine T.ret ?_ | refine T.rd rfl (by kernel_rfl) ?_ | refine J.bx rfl rfl rfl rfl rfl rfl ?_
          refine T.cd rfl (fun h5 => ?_) (fun h5 => ?_)
          · have h5 : lo < y1 := h5
            rw [if_pos h5] at keep
            repeat' first | refine T.seq ?_ | refine T.block ?_ | refine T.r ?_ | refine J.e rfl rfl rfl rfl ?_ | refine J.nil ?_ | refine J.skip rfl rfl rfl ?_ | refine T.skip ?_ | refine T.exit ?_ | refine T.ret ?_ | refine T.rd rfl (by kernel_rfl) ?_ | refine J.bx rfl rfl rfl rfl rfl rfl ?_
            refine J.bv rfl rfl rfl rfl rfl rfl rfl rfl rfl rfl rfl rfl ?_
            refine J.aR rfl rfl rfl rfl rfl rfl rfl rfl rfl rfl rfl rfl rfl rfl rfl rfl rfl rfl rfl (a := lo) (b := IntKind.i64.wrap (y1 - 1)) (by omega) ?_
            repeat' first | refine T.seq ?_ | refine T.block ?_ | refine T.r ?_ | refine J.e rfl rfl rfl rfl ?_ | refine J.nil ?_ | refine J.skip rfl rfl rfl ?_ | refine T.skip ?_ | refine T.exit ?_ | refine T.ret ?_ | refine T.rd rfl (by kernel_rfl) ?_ | refine J.bx rfl rfl rfl rfl rfl rfl ?_
            refine J.w rfl rfl rfl rfl rfl rfl rfl rfl rfl rfl ?_
            repeat' first | refine T.seq ?_ | refine T.block ?_ | refine T.r ?_ | refine J.e rfl rfl rfl rfl ?_ | refine J.nil ?_ | refine J.skip rfl rfl rfl ?_ | refine T.skip ?_ | refine T.exit ?_ | refine T.ret ?_ | refine T.rd rfl (by kernel_rfl) ?_ | refine J.bx rfl rfl rfl rfl rfl rfl ?_
            rw [wrap1 (l := b.length) (by omega) (by omega)]
            exact T.canon (keep := [1, 5, 7, 10, 11, 12, 16, 17, 18]) (os := [5, 7]) rfl (ih2 (m + 1, wr (y2 + 1), out2 ++ [(lo, wr (y1 - 1))]) ⟨by simp only; omega, keep, by simp; omega⟩ (by simp only; omega))
          · have h5 : ¬ lo < y1 := h5
            rw [if_neg h5] at keep
            repeat' first | refine T.seq ?_ | refine T.block ?_ | refine T.r ?_ | refine J.e rfl rfl rfl rfl ?_ | refine J.nil ?_ | refine J.skip rfl rfl rfl ?_ | refine T.skip ?_ | refine T.exit ?_ | refine T.ret ?_ | refine T.rd rfl (by kernel_rfl) ?_ | refine J.bx rfl rfl rfl rfl rfl rfl ?_
            refine J.w rfl rfl rfl rfl rfl rfl rfl rfl rfl rfl ?_
            repeat' first | refine T.seq ?_ | refine T.block ?_ | refine T.r ?_ | refine J.e rfl rfl rfl rfl ?_ | refine J.nil ?_ | refine J.skip rfl rfl rfl ?_ | refine T.skip ?_ | refine T.exit ?_ | refine T.ret ?_ | refine T.rd rfl (by kernel_rfl) ?_ | refine J.bx rfl rfl rfl rfl rfl rfl ?_
            rw [wrap1 (l := b.length) (by omega) (by omega)]
            exact T.canon (keep := [1, 5, 7, 10, 11, 12, 16, 17, 18]) (os := [5, 7]) rfl (ih2 (m + 1, wr (y2 + 1), out2) ⟨by simp only; omega, keep, by simp only; omega⟩ (by simp only; omega))
    · have h2 : m = b.length := by simp at h2; omega
      subst h2
      rw [List.drop_length, minusIn] at he2
      clear ih2
      have hmo : minusOne b out (lo0, hi) = if lo ≤ hi then out2 ++ [(lo, hi)] else out2 := by
        unfold minusOne
        simp only [← he2]
      rw [hmo] at he
      repeat' first | refine T.seq ?_ | refine T.block ?_ | refine T.r ?_ | refine J.e rfl rfl rfl rfl ?_ | refine J.nil ?_ | refine J.skip rfl rfl rfl ?_ | refine T.skip ?_ | refine T.exit ?_ | refine T.ret ?_ | refine T.rd rfl (by kernel_rfl) ?_ | refine J.bx rfl rfl rfl rfl rfl rfl ?_
      refine T.cd rfl (fun h5 => ?_) (fun h5 => ?_)
      · have h5 : lo ≤ hi := h5
        rw [if_pos h5] at he
        repeat' first | refine T.seq ?_ | refine T.block ?_ | refine T.r ?_ | refine J.e rfl rfl rfl rfl ?_ | refine J.nil ?_ | refine J.skip rfl rfl rfl ?_ | refine T.skip ?_ | refine T.exit ?_ | refine T.ret ?_ | refine T.rd rfl (by kernel_rfl) ?_ | refine J.bx rfl rfl rfl rfl rfl rfl ?_
        refine J.bv rfl rfl rfl rfl rfl rfl rfl rfl rfl rfl rfl rfl ?_
        refine J.aR rfl rfl rfl rfl rfl rfl rfl rfl rfl rfl rfl rfl rfl rfl rfl rfl rfl rfl rfl (by omega) ?_
        refine J.sub (Rel.flat (o := 2) rfl flat_R) ?_
        repeat' first | refine T.seq ?_ | refine T.block ?_ | refine T.r ?_ | refine J.e rfl rfl rfl rfl ?_ | refine J.nil ?_ | refine J.skip rfl rfl rfl ?_ | refine T.skip ?_ | refine T.exit ?_ | refine T.ret ?_ | refine T.rd rfl (by kernel_rfl) ?_ | refine J.bx rfl rfl rfl rfl rfl rfl ?_
        rw [wrap1 (l := a.length) (by omega) (by omega)]
        exact T.canon (keep := [1, 5, 10, 11, 12]) (os := [5]) rfl (ih (n + 1, out2 ++ [(lo, hi)]) ⟨by simp only; omega, he, by simp; omega⟩ (by simp only; omega))
      · have h5 : ¬ lo ≤ hi := h5
        rw [if_neg h5] at he
        repeat' first | refine T.seq ?_ | refine T.block ?_ | refine T.r ?_ | refine J.e rfl rfl rfl rfl ?_ | refine J.nil ?_ | refine J.skip rfl rfl rfl ?_ | refine T.skip ?_ | refine T.exit ?_ | refine T.ret ?_ | refine T.rd rfl (by kernel_rfl) ?_ | refine J.bx rfl rfl rfl rfl rfl rfl ?_
        rw [wrap1 (l := a.length) (by omega) (by omega)]
        exact T.canon (keep := [1, 5, 10, 11, 12]) (os := [5]) rfl (ih (n + 1, out2) ⟨by simp only; omega, he, by simp only; omega⟩ (by simp only; omega))
  · have h1 : n = a.length := by simp at h1; omega
    subst h1
    rw [List.drop_length, List.foldl_nil] at he
    subst he
    repeat' first | refine T.seq ?_ | refine T.block ?_ | refine T.r ?_ | refine J.e rfl rfl rfl rfl ?_ | refine J.nil ?_ | refine J.skip rfl rfl rfl ?_ | refine T.skip ?_ | refine T.exit ?_ | refine T.ret ?_ | refine T.rd rfl (by kernel_rfl) ?_ | refine J.bx rfl rfl rfl rfl rfl rfl ?_
    exact ⟨_, .o rfl rfl rfl (fun _ => .inl rfl) (by simp) .nil⟩

/-! Not a number: by the program. -/
def otherGo : Nat → List (List (Int × Int) × Int) → Int → Int → Option (Int × Int)
  | _, [], op, s => some (op, s)
  | i, t :: ts, op, s => if 1 < sizeW t.1 then (if 0 ≤ op then none else otherGo (i + 1) ts i s) else otherGo (i + 1) ts op (wr (s + (endW t.1 t.2 false).1))
def otherW (d : Doms) (c : Con) : Doms × Bool :=
  match otherGo 0 (termsOf d c.vars c.coefs) (-1) 0 with
  | none => (d, true)
  | some (op, s) =>
    if op < 0 then (d, decide (s ≠ c.rhs)) else
    if (wr (c.rhs - s)).tmod (coefAt c op.toNat) = 0 then
      (d.set (varAt c op.toNat).toNat (minusW (domAt d (varAt c op.toNat)) [(wr ((wr (c.rhs - s)).tdiv (coefAt c op.toNat)), wr ((wr (c.rhs - s)).tdiv (coefAt c op.toNat)))]),
        decide (0 < (minusW (domAt d (varAt c op.toNat)) [(wr ((wr (c.rhs - s)).tdiv (coefAt c op.toNat)), wr ((wr (c.rhs - s)).tdiv (coefAt c op.toNat)))]).length))
    else (d, decide (0 < (domAt d (varAt c op.toNat)).length))
theorem otherGo_in : ∀ (ts : List (List (Int × Int) × Int)) (i : Nat) (op s op' s' : Int) (n : Nat), op < n → i + ts.length ≤ n → otherGo i ts op s = some (op', s') → op' < n
  | [], i, op, s, op', s', n, h, _, e => by
    simp only [otherGo, Option.some.injEq, Prod.mk.injEq] at e
    omega
  | t :: ts, i, op, s, op', s', n, h, hn, e => by
    simp only [List.length_cons] at hn
    rw [otherGo] at e
    split at e
    · split at e
      · cases e
      · exact otherGo_in ts (i + 1) i s op' s' n (by omega) (by omega) e
    · exact otherGo_in ts (i + 1) op _ op' s' n h (by omega) e
theorem lother_spec (d : Doms) (c : Con) (h : SumFine d c.vars c.coefs) (hsm : ∀ x ∈ d, x.length * 64 + 1048576 ≤ 140737488355328) :
    SpecM Try.prog 46 38 1 (d.map cD) [.agg (cC c)] ((otherW d c).1.map cD) [.bool (otherW d c).2] := by
  refine SpecM.body Try.func46 rfl rfl rfl (by simp [PV.flat]) fun w0 v0 Z1 => ?_
  obtain ⟨hlen, hvl, hvin, hck, hdom, hdl⟩ := h
  have hin := otherGo_in (termsOf d c.vars c.coefs) 0 (-1) 0
  generalize hgo : otherGo 0 (termsOf d c.vars c.coefs) (-1) 0 = go at hin
  repeat' first | refine T.seq ?_ | refine T.block ?_ | refine T.r ?_ | refine J.e rfl rfl rfl rfl ?_ | refine J.nil ?_ | refine J.skip rfl rfl rfl ?_ | refine T.skip ?_ | refine T.exit ?_ | refine T.ret ?_ | refine T.rd rfl (by kernel_rfl) ?_ | refine J.bx rfl rfl rfl rfl rfl rfl ?_
  refine T.canon (keep := [0, 3, 5, 6, 15, 16, 17]) (os := [0, 3]) rfl (T.ind (fun s : Nat × Int × Int => ⟨[(0, .ref 0), (3, .optr 1 0 0 0), (5, .val true (.int .i64 s.2.1)), (6, .val true (.int .i64 s.2.2)), (15, .val false (ints c.vars)), (16, .val true (.int .i64 (c.vars.map cI).length)), (17, .val true (.int .i64 s.1))], [(0, some (.sl 38 1 true (d.map cD))), (1, some (.box false (cC c)))], 2⟩)
    (fun s => s.1 ≤ c.vars.length ∧ otherGo s.1 ((termsOf d c.vars c.coefs).drop s.1) s.2.1 s.2.2 = go) (fun s => c.vars.length - s.1) (0, -1, 0) ⟨by simp, hgo⟩ (fun _ _ h => h) ?_)
  rintro ⟨i, op, s⟩ ⟨hil, he⟩ ih
  simp only at hil he
  dsimp only
  repeat' first | refine T.seq ?_ | refine T.block ?_ | refine T.r ?_ | refine J.e rfl rfl rfl rfl ?_ | refine J.nil ?_ | refine J.skip rfl rfl rfl ?_ | refine T.skip ?_ | refine T.exit ?_ | refine T.ret ?_ | refine T.rd rfl (by kernel_rfl) ?_ | refine J.bx rfl rfl rfl rfl rfl rfl ?_
  refine T.cd rfl (fun h1 => ?_) (fun h1 => ?_)
  · have h1 : i < c.vars.length := by simpa using h1
    have h2 : i < c.coefs.length := by omega
    have hv := hvin _ (List.getElem_mem h1)
    have hk := hck _ (List.getElem_mem h2)
    have hx := hdom _ (domAt_mem hv.2)
    have hrow : (d.map cD)[c.vars[i].toNat]? = some (cD (domAt d c.vars[i])) := by simp [domAt_some hv.2]
    rw [terms_cons h1 h2, otherGo] at he
    repeat' first | refine T.seq ?_ | refine T.block ?_ | refine T.r ?_ | refine J.e rfl rfl rfl rfl ?_ | refine J.nil ?_ | refine J.skip rfl rfl rfl ?_ | refine T.skip ?_ | refine T.exit ?_ | refine T.ret ?_ | refine T.rd rfl (by kernel_rfl) ?_ | refine J.bx rfl rfl rfl rfl rfl rfl ?_
    refine J.i rfl rfl rfl rfl rfl rfl rfl rfl rfl (r := cI c.vars[i]) (by omega) (row_i h1) rfl ?_
    repeat' first | refine T.seq ?_ | refine T.block ?_ | refine T.r ?_ | refine J.e rfl rfl rfl rfl ?_ | refine J.nil ?_ | refine J.skip rfl rfl rfl ?_ | refine T.skip ?_ | refine T.exit ?_ | refine T.ret ?_ | refine T.rd rfl (by kernel_rfl) ?_ | refine J.bx rfl rfl rfl rfl rfl rfl ?_
    refine J.io rfl rfl rfl rfl rfl rfl rfl rfl rfl hv.1 (by simpa using hv.2) rfl ?_
    refine J.lo rfl rfl rfl rfl rfl rfl (r := cD (domAt d c.vars[i])) hrow rfl ?_
    refine J.cc rfl rfl rfl rfl rfl (size_spec (domAt d c.vars[i]) (by have := hx.len; omega)) rfl rfl ?_
    repeat' first | refine T.seq ?_ | refine T.block ?_ | refine T.r ?_ | refine J.e rfl rfl rfl rfl ?_ | refine J.nil ?_ | refine J.skip rfl rfl rfl ?_ | refine T.skip ?_ | refine T.exit ?_ | refine T.ret ?_ | refine T.rd rfl (by kernel_rfl) ?_ | refine J.bx rfl rfl rfl rfl rfl rfl ?_
    refine T.cd rfl (fun h3 => ?_) (fun h3 => ?_)
    · have h3 : 1 < sizeW (domAt d c.vars[i]) := h3
      rw [if_pos h3] at he
      repeat' first | refine T.seq ?_ | refine T.block ?_ | refine T.r ?_ | refine J.e rfl rfl rfl rfl ?_ | refine J.nil ?_ | refine J.skip rfl rfl rfl ?_ | refine T.skip ?_ | refine T.exit ?_ | refine T.ret ?_ | refine T.rd rfl (by kernel_rfl) ?_ | refine J.bx rfl rfl rfl rfl rfl rfl ?_
      refine T.cd rfl (fun h4 => ?_) (fun h4 => ?_)
      · have h4 : 0 ≤ op := h4
        rw [if_pos h4] at he
        subst he
        have ho : otherW d c = (d, true) := by unfold otherW; rw [hgo]
        rw [ho]
        repeat' first | refine T.seq ?_ | refine T.block ?_ | refine T.r ?_ | refine J.e rfl rfl rfl rfl ?_ | refine J.nil ?_ | refine J.skip rfl rfl rfl ?_ | refine T.skip ?_ | refine T.exit ?_ | refine T.ret ?_ | refine T.rd rfl (by kernel_rfl) ?_ | refine J.bx rfl rfl rfl rfl rfl rfl ?_
        exact ⟨.v rfl rfl rfl (fun h => by cases h) .nil, _, rfl, rfl⟩
      · have h4 : ¬ 0 ≤ op := h4
        rw [if_neg h4] at he
        repeat' first | refine T.seq ?_ | refine T.block ?_ | refine T.r ?_ | refine J.e rfl rfl rfl rfl ?_ | refine J.nil ?_ | refine J.skip rfl rfl rfl ?_ | refine T.skip ?_ | refine T.exit ?_ | refine T.ret ?_ | refine T.rd rfl (by kernel_rfl) ?_ | refine J.bx rfl rfl rfl rfl rfl rfl ?_
        rw [wrap1 (l := c.vars.length) (by omega) (by omega)]
        exact T.canon (keep := [0, 3, 5, 6, 15, 16, 17]) (os := [0, 3]) rfl (ih (i + 1, i, s) ⟨by simp only; omega, he⟩ (by simp only; omega))
    · have h3 : ¬ 1 < sizeW (domAt d c.vars[i]) := h3
      rw [if_neg h3] at he
      repeat' first | refine T.seq ?_ | refine T.block ?_ | refine T.r ?_ | refine J.e rfl rfl rfl rfl ?_ | refine J.nil ?_ | refine J.skip rfl rfl rfl ?_ | refine T.skip ?_ | refine T.exit ?_ | refine T.ret ?_ | refine T.rd rfl (by kernel_rfl) ?_ | refine J.bx rfl rfl rfl rfl rfl rfl ?_
      refine J.io rfl rfl rfl rfl rfl rfl rfl rfl rfl hv.1 (by simpa using hv.2) rfl ?_
      refine J.lo rfl rfl rfl rfl rfl rfl (r := cD (domAt d c.vars[i])) hrow rfl ?_
      repeat' first | refine T.seq ?_ | refine T.block ?_ | refine T.r ?_ | refine J.e rfl rfl rfl rfl ?_ | refine J.nil ?_ | refine J.skip rfl rfl rfl ?_ | refine T.skip ?_ | refine T.exit ?_ | refine T.ret ?_ | refine T.rd rfl (by kernel_rfl) ?_ | refine J.bx rfl rfl rfl rfl rfl rfl ?_
      refine J.i rfl rfl rfl rfl rfl rfl rfl rfl rfl (r := cI c.coefs[i]) (by omega) (row_i h2) rfl ?_
      repeat' first | refine T.seq ?_ | refine T.block ?_ | refine T.r ?_ | refine J.e rfl rfl rfl rfl ?_ | refine J.nil ?_ | refine J.skip rfl rfl rfl ?_ | refine T.skip ?_ | refine T.exit ?_ | refine T.ret ?_ | refine T.rd rfl (by kernel_rfl) ?_ | refine J.bx rfl rfl rfl rfl rfl rfl ?_
      refine J.cc rfl rfl rfl rfl rfl (lend_spec _ _ false hx.domB hk) rfl rfl ?_
      repeat' first | refine T.seq ?_ | refine T.block ?_ | refine T.r ?_ | refine J.e rfl rfl rfl rfl ?_ | refine J.nil ?_ | refine J.skip rfl rfl rfl ?_ | refine T.skip ?_ | refine T.exit ?_ | refine T.ret ?_ | refine T.rd rfl (by kernel_rfl) ?_ | refine J.bx rfl rfl rfl rfl rfl rfl ?_
      rw [wrap1 (l := c.vars.length) (by omega) (by omega)]
      exact T.canon (keep := [0, 3, 5, 6, 15, 16, 17]) (os := [0, 3]) rfl (ih (i + 1, op, wr (s + (endW (domAt d c.vars[i]) c.coefs[i] false).1)) ⟨by simp only; omega, he⟩ (by simp only; omega))
  · have h1 : i = c.vars.length := by simp at h1; omega
    subst h1
    rw [terms_end hlen, otherGo] at he
    subst he
    clear ih
    have hop := hin op s c.vars.length (by omega) (by simp [termsOf]; omega) rfl
    unfold otherW
    rw [hgo]
    simp only
    repeat' first | refine T.seq ?_ | refine T.block ?_ | refine T.r ?_ | refine J.e rfl rfl rfl rfl ?_ | refine J.nil ?_ | refine J.skip rfl rfl rfl ?_ | refine T.skip ?_ | refine T.exit ?_ | refine T.ret ?_ | refine T.rd rfl (by kernel_rfl) ?_ | refine J.bx rfl rfl rfl rfl rfl rfl ?_
    refine T.cd rfl (fun h3 => ?_) (fun h3 => ?_)
    · have h3 : op < 0 := h3
      rw [if_pos h3]
      repeat' first | refine T.seq ?_ | refine T.block ?_ | refine T.r ?_ | refine J.e rfl rfl rfl rfl ?_ | refine J.nil ?_ | refine J.skip rfl rfl rfl ?_ | refine T.skip ?_ | refine T.exit ?_ | refine T.ret ?_ | refine T.rd rfl (by kernel_rfl) ?_ | refine J.bx rfl rfl rfl rfl rfl rfl ?_
      exact ⟨.v rfl rfl rfl (fun h => by cases h) .nil, _, rfl, rfl⟩
    · have h3 : ¬ op < 0 := h3
      rw [if_neg h3]
      obtain ⟨j, rfl⟩ : ∃ j : Nat, op = j := ⟨op.toNat, by omega⟩
      rw [Int.toNat_natCast]
      have hj : j < c.vars.length := by omega
      have hv := hvin _ (varAt_mem hj)
      have hk := hck _ (show coefAt c j ∈ c.coefs by unfold coefAt; rw [getD_at (by omega)]; exact List.getElem_mem _)
      have hx := hdom _ (domAt_mem hv.2)
      have hrow : (d.map cD)[(varAt c j).toNat]? = some (cD (domAt d (varAt c j))) := by simp [domAt_some hv.2]
      have hkr := coefAt_row (c := c) (k := j) (by omega)
      have hvr := varAt_row (c := c) (k := j) hj
      have hk0 := hk.1
      have hln := hx.len
      have hls := hsm _ (domAt_mem hv.2)
      have hm := fun x => (minus_spec (domAt d (varAt c j)) [(x, x)] (by simp) (by simp only [List.length_singleton]; omega)).frz
      generalize varAt c j = v at *
      generalize coefAt c j = k at *
      generalize domAt d v = dv at *
      repeat' first | refine T.seq ?_ | refine T.block ?_ | refine T.r ?_ | refine J.e rfl rfl rfl rfl ?_ | refine J.nil ?_ | refine J.skip rfl rfl rfl ?_ | refine T.skip ?_ | refine T.exit ?_ | refine T.ret ?_ | refine T.rd rfl (by kernel_rfl) ?_ | refine J.bx rfl rfl rfl rfl rfl rfl ?_
      refine J.i rfl rfl rfl rfl rfl rfl rfl rfl rfl (r := cI v) (by omega) hvr rfl ?_
      repeat' first | refine T.seq ?_ | refine T.block ?_ | refine T.r ?_ | refine J.e rfl rfl rfl rfl ?_ | refine J.nil ?_ | refine J.skip rfl rfl rfl ?_ | refine T.skip ?_ | refine T.exit ?_ | refine T.ret ?_ | refine T.rd rfl (by kernel_rfl) ?_ | refine J.bx rfl rfl rfl rfl rfl rfl ?_
      refine J.i rfl rfl rfl rfl rfl rfl rfl rfl rfl (r := cI k) (by omega) hkr rfl ?_
      repeat' first | refine T.seq ?_ | refine T.block ?_ | refine T.r ?_ | refine J.e rfl rfl rfl rfl ?_ | refine J.nil ?_ | refine J.skip rfl rfl rfl ?_ | refine T.skip ?_ | refine T.exit ?_ | refine T.ret ?_ | refine T.rd rfl (by kernel_rfl) ?_ | refine J.bx rfl rfl rfl rfl rfl rfl ?_
      refine J.rm rfl rfl rfl rfl rfl rfl hk0 ?_
      repeat' first | refine T.seq ?_ | refine T.block ?_ | refine T.r ?_ | refine J.e rfl rfl rfl rfl ?_ | refine J.nil ?_ | refine J.skip rfl rfl rfl ?_ | refine T.skip ?_ | refine T.exit ?_ | refine T.ret ?_ | refine T.rd rfl (by kernel_rfl) ?_ | refine J.bx rfl rfl rfl rfl rfl rfl ?_
      refine T.cd rfl (fun h4 => ?_) (fun h4 => ?_)
      · have h4 : (wr (c.rhs - s)).tmod k = 0 := h4
        rw [if_pos h4]
        repeat' first | refine T.seq ?_ | refine T.block ?_ | refine T.r ?_ | refine J.e rfl rfl rfl rfl ?_ | refine J.nil ?_ | refine J.skip rfl rfl rfl ?_ | refine T.skip ?_ | refine T.exit ?_ | refine T.ret ?_ | refine T.rd rfl (by kernel_rfl) ?_ | refine J.bx rfl rfl rfl rfl rfl rfl ?_
        refine J.qu rfl rfl rfl rfl rfl rfl hk0 ?_
        repeat' first | refine T.seq ?_ | refine T.block ?_ | refine T.r ?_ | refine J.e rfl rfl rfl rfl ?_ | refine J.nil ?_ | refine J.skip rfl rfl rfl ?_ | refine T.skip ?_ | refine T.exit ?_ | refine T.ret ?_ | refine T.rd rfl (by kernel_rfl) ?_ | refine J.bx rfl rfl rfl rfl rfl rfl ?_
        refine J.io rfl rfl rfl rfl rfl rfl rfl rfl rfl hv.1 (by simpa using hv.2) rfl ?_
        refine J.lo rfl rfl rfl rfl rfl rfl (r := cD dv) hrow rfl ?_
        repeat' first | refine T.seq ?_ | refine T.block ?_ | refine T.r ?_ | refine J.e rfl rfl rfl rfl ?_ | refine J.nil ?_ | refine J.skip rfl rfl rfl ?_ | refine T.skip ?_ | refine T.exit ?_ | refine T.ret ?_ | refine T.rd rfl (by kernel_rfl) ?_ | refine J.bx rfl rfl rfl rfl rfl rfl ?_
        refine J.bv rfl rfl rfl rfl rfl rfl rfl rfl rfl rfl rfl rfl ?_
        refine J.cc rfl rfl rfl rfl rfl (hm _) rfl rfl ?_
        refine J.io rfl rfl rfl rfl rfl rfl rfl rfl rfl hv.1 (by simpa using hv.2) rfl ?_
        refine J.w1 rfl rfl rfl rfl rfl rfl rfl rfl rfl rfl rfl (fun _ => rfl) hv.2 ?_
        repeat' first | refine T.seq ?_ | refine T.block ?_ | refine T.r ?_ | refine J.e rfl rfl rfl rfl ?_ | refine J.nil ?_ | refine J.skip rfl rfl rfl ?_ | refine T.skip ?_ | refine T.exit ?_ | refine T.ret ?_ | refine T.rd rfl (by kernel_rfl) ?_ | refine J.bx rfl rfl rfl rfl rfl rfl ?_
        refine J.io rfl rfl rfl rfl rfl rfl rfl rfl rfl hv.1 (by simpa using hv.2) rfl ?_
        refine J.lo rfl rfl rfl rfl rfl rfl (r := cD (minusW dv [(wr ((wr (c.rhs - s)).tdiv k), wr ((wr (c.rhs - s)).tdiv k))])) (by rw [List.getElem?_map, List.getElem?_set_self hv.2]; rfl) rfl ?_
        repeat' first | refine T.seq ?_ | refine T.block ?_ | refine T.r ?_ | refine J.e rfl rfl rfl rfl ?_ | refine J.nil ?_ | refine J.skip rfl rfl rfl ?_ | refine T.skip ?_ | refine T.exit ?_ | refine T.ret ?_ | refine T.rd rfl (by kernel_rfl) ?_ | refine J.bx rfl rfl rfl rfl rfl rfl ?_
        exact ⟨.v rfl rfl (by simp only [List.length_map]; congr 1; simp) (fun h => by cases h) .nil, _, rfl, rfl⟩
      · have h4 : ¬ (wr (c.rhs - s)).tmod k = 0 := h4
        rw [if_neg h4]
        repeat' first | refine T.seq ?_ | refine T.block ?_ | refine T.r ?_ | refine J.e rfl rfl rfl rfl ?_ | refine J.nil ?_ | refine J.skip rfl rfl rfl ?_ | refine T.skip ?_ | refine T.exit ?_ | refine T.ret ?_ | refine T.rd rfl (by kernel_rfl) ?_ | refine J.bx rfl rfl rfl rfl rfl rfl ?_
        refine J.io rfl rfl rfl rfl rfl rfl rfl rfl rfl hv.1 (by simpa using hv.2) rfl ?_
        refine J.lo rfl rfl rfl rfl rfl rfl (r := cD dv) hrow rfl ?_
        repeat' first | refine T.seq ?_ | refine T.block ?_ | refine T.r ?_ | refine J.e rfl rfl rfl rfl ?_ | refine J.nil ?_ | refine J.skip rfl rfl rfl ?_ | refine T.skip ?_ | refine T.exit ?_ | refine T.ret ?_ | refine T.rd rfl (by kernel_rfl) ?_ | refine J.bx rfl rfl rfl rfl rfl rfl ?_
        exact ⟨.v rfl rfl (by simp only [List.length_map]; congr 1; simp) (fun h => by cases h) .nil, _, rfl, rfl⟩
end Go.Proofs.Ytchajofdjeijfaa
/-! Contracts: sums, pruned: the rest. -/
namespace Go.Proofs.Ytchajofdjeijfaa
open Go Go.RowKit
set_option linter.unusedVariables false
set_option linter.unusedSimpArgs false
set_option maxRecDepth 8000

theorem mostGo_fine (low rhs : Int) : ∀ (l : List (Int × Int)) (d : Doms) (ch : Bool), (∀ p ∈ l, 0 ≤ p.1 ∧ p.1.toNat < d.length) → (∀ x ∈ d, Fine x) → (mostGo low rhs l d ch).1.length = d.length ∧ ∀ x ∈ (mostGo low rhs l d ch).1, Fine x
  | [], d, ch, _, hf => ⟨rfl, hf⟩
  | (v, k) :: l, d, ch, hv, hf => by
    rw [mostGo]
    split
    · exact ⟨rfl, hf⟩
    · have hx := hf _ (domAt_mem (hv _ (.head _)).2)
      obtain ⟨h1, h2⟩ := mostGo_fine low rhs l (d.set v.toNat (cutW (domAt d v) k (restW low rhs (domAt d v) k))) (ch || !decide (cutW (domAt d v) k (restW low rhs (domAt d v) k) = domAt d v)) (fun p hp => by rw [List.length_set]; exact hv p (.tail _ hp)) (mem_set hf (cutW_fine hx k _))
      exact ⟨by rw [h1, List.length_set], h2⟩
theorem SumFine.most {d : Doms} {vars coefs : List Int} (h : SumFine d vars coefs) (rhs : Int) : SumFine (mostW d vars coefs rhs).1 vars coefs := by
  obtain ⟨h1, h2⟩ := mostGo_fine (endsW d vars coefs).1 rhs (vars.zip coefs) d false (fun p hp => h.vin _ (List.of_mem_zip hp).1) h.dom
  have h1 : (mostW d vars coefs rhs).1.length = d.length := h1
  exact ⟨h.len, h.vl, fun v hv => by rw [h1]; exact h.vin v hv, h.ck, h2, by rw [h1]; exact h.dl⟩
theorem turned_ok {k : Int} (h : CoefOk k) : wr (0 - k) = -k ∧ CoefOk (wr (0 - k)) := by
  have := coef_int h
  have e : wr (0 - k) = -k := by rw [wr, wrap_id (by omega) (by omega)]; omega
  refine ⟨e, ?_⟩
  rw [e]
  unfold CoefOk absK at *
  omega
theorem SumFine.back {d : Doms} {vars coefs : List Int} (h : SumFine d vars coefs) : SumFine d vars (turnedW coefs) :=
  ⟨by simp [turnedW, h.len], h.vl, h.vin, fun k hk => by
    obtain ⟨k0, hk0, rfl⟩ := List.mem_map.1 hk
    exact (turned_ok (h.ck _ hk0)).2, h.dom, h.dl⟩

def stepL (c : Con) (out : Doms) : Option Doms ⊕ Doms :=
  if (mostW out c.vars c.coefs c.rhs).2.2 = false then .inl none else
  if c.op = 0 then .inl (some (mostW out c.vars c.coefs c.rhs).1) else
  if (mostW (mostW out c.vars c.coefs c.rhs).1 c.vars (turnedW c.coefs) (wr (0 - c.rhs))).2.2 = false then .inl none else
  if (mostW out c.vars c.coefs c.rhs).2.1 = false ∧ (mostW (mostW out c.vars c.coefs c.rhs).1 c.vars (turnedW c.coefs) (wr (0 - c.rhs))).2.1 = false then .inl (some (mostW (mostW out c.vars c.coefs c.rhs).1 c.vars (turnedW c.coefs) (wr (0 - c.rhs))).1)
  else .inr (mostW (mostW out c.vars c.coefs c.rhs).1 c.vars (turnedW c.coefs) (wr (0 - c.rhs))).1
/-- What the program's pruner answers. -/
def LinAns (d : Doms) (c : Con) (R : Option Doms) (N : Nat) : Prop :=
  if [] ∈ d then R = none else if c.op = 2 then R = (if (otherW d c).2 then some (otherW d c).1 else none) else iter (stepL c) N d = some R
theorem lprune_spec (d : Doms) (c : Con) (h : SumFine d c.vars c.coefs) (hsm : ∀ x ∈ d, x.length * 64 + 1048576 ≤ 140737488355328) (R : Option Doms) (N : Nat) (hR : LinAns d c R N) :
    Spec Try.prog 16 false [doms d, .agg (cC c)] (pruneRes R) := by
  refine Spec.body Try.func16 rfl rfl rfl fun w0 Z0 => ?_
  have hown := lown_spec d h.dl (fun x hx => by have := (h.dom x hx).len; omega)
  unfold LinAns at hR
  repeat' first | refine T.seq ?_ | refine T.block ?_ | refine T.r ?_ | refine J.e rfl rfl rfl rfl ?_ | refine J.nil ?_ | refine J.skip rfl rfl rfl ?_ | refine T.skip ?_ | refine T.exit ?_ | refine T.ret ?_ | refine T.rd rfl (by kernel_rfl) ?_ | refine J.bx rfl rfl rfl rfl rfl rfl ?_
  refine T.scope (fun _ _ h => h) ?_
  repeat' first | refine T.seq ?_ | refine T.block ?_ | refine T.r ?_ | refine J.e rfl rfl rfl rfl ?_ | refine J.nil ?_ | refine J.skip rfl rfl rfl ?_ | refine T.skip ?_ | refine T.exit ?_ | refine T.ret ?_ | refine T.rd rfl (by kernel_rfl) ?_ | refine J.bx rfl rfl rfl rfl rfl rfl ?_
  refine J.cc rfl rfl rfl rfl rfl hown rfl rfl ?_
  repeat' first | refine T.seq ?_ | refine T.block ?_ | refine T.r ?_ | refine J.e rfl rfl rfl rfl ?_ | refine J.nil ?_ | refine J.skip rfl rfl rfl ?_ | refine T.skip ?_ | refine T.exit ?_ | refine T.ret ?_ | refine T.rd rfl (by kernel_rfl) ?_ | refine J.bx rfl rfl rfl rfl rfl rfl ?_
  by_cases hm : [] ∈ d
  · rw [if_pos hm] at hR
    subst hR
    rw [if_pos hm, decide_eq_true hm]
    refine T.ct rfl ?_
    repeat' first | refine T.seq ?_ | refine T.block ?_ | refine T.r ?_ | refine J.e rfl rfl rfl rfl ?_ | refine J.nil ?_ | refine J.skip rfl rfl rfl ?_ | refine T.skip ?_ | refine T.exit ?_ | refine T.ret ?_ | refine T.rd rfl (by kernel_rfl) ?_ | refine J.bx rfl rfl rfl rfl rfl rfl ?_
    exact ⟨_, .ownN rfl (.v rfl rfl rfl (fun _ => rfl) .nil)⟩
  · rw [if_neg hm] at hR
    rw [if_neg hm, decide_eq_false hm]
    refine T.cf rfl ?_
    repeat' first | refine T.seq ?_ | refine T.block ?_ | refine T.r ?_ | refine J.e rfl rfl rfl rfl ?_ | refine J.nil ?_ | refine J.skip rfl rfl rfl ?_ | refine T.skip ?_ | refine T.exit ?_ | refine T.ret ?_ | refine T.rd rfl (by kernel_rfl) ?_ | refine J.bx rfl rfl rfl rfl rfl rfl ?_
    refine T.cd rfl (fun h1 => ?_) (fun h1 => ?_)
    · have h1 : c.op = 2 := h1
      rw [if_pos h1] at hR
      repeat' first | refine T.seq ?_ | refine T.block ?_ | refine T.r ?_ | refine J.e rfl rfl rfl rfl ?_ | refine J.nil ?_ | refine J.skip rfl rfl rfl ?_ | refine T.skip ?_ | refine T.exit ?_ | refine T.ret ?_ | refine T.rd rfl (by kernel_rfl) ?_ | refine J.bx rfl rfl rfl rfl rfl rfl ?_
      have ho := lother_spec d c h hsm
      generalize otherW d c = ow at *
      obtain ⟨d2, b⟩ := ow
      refine J.cm rfl rfl rfl rfl rfl rfl rfl rfl rfl ho rfl rfl rfl ?_
      repeat' first | refine T.seq ?_ | refine T.block ?_ | refine T.r ?_ | refine J.e rfl rfl rfl rfl ?_ | refine J.nil ?_ | refine J.skip rfl rfl rfl ?_ | refine T.skip ?_ | refine T.exit ?_ | refine T.ret ?_ | refine T.rd rfl (by kernel_rfl) ?_ | refine J.bx rfl rfl rfl rfl rfl rfl ?_
      cases b
      · subst hR
        refine T.ct rfl ?_
        repeat' first | refine T.seq ?_ | refine T.block ?_ | refine T.r ?_ | refine J.e rfl rfl rfl rfl ?_ | refine J.nil ?_ | refine J.skip rfl rfl rfl ?_ | refine T.skip ?_ | refine T.exit ?_ | refine T.ret ?_ | refine T.rd rfl (by kernel_rfl) ?_ | refine J.bx rfl rfl rfl rfl rfl rfl ?_
        exact ⟨_, .ownN rfl (.v rfl rfl rfl (fun _ => rfl) .nil)⟩
      · subst hR
        refine T.cf rfl ?_
        repeat' first | refine T.seq ?_ | refine T.block ?_ | refine T.r ?_ | refine J.e rfl rfl rfl rfl ?_ | refine J.nil ?_ | refine J.skip rfl rfl rfl ?_ | refine T.skip ?_ | refine T.exit ?_ | refine T.ret ?_ | refine T.rd rfl (by kernel_rfl) ?_ | refine J.bx rfl rfl rfl rfl rfl rfl ?_
        exact ⟨_, .o rfl rfl rfl (fun _ => .inl rfl) (by simp) (.v rfl rfl rfl (fun _ => rfl) .nil)⟩
    · have h1 : ¬ c.op = 2 := h1
      rw [if_neg h1] at hR
      repeat' first | refine T.seq ?_ | refine T.block ?_ | refine T.r ?_ | refine J.e rfl rfl rfl rfl ?_ | refine J.nil ?_ | refine J.skip rfl rfl rfl ?_ | refine T.skip ?_ | refine T.exit ?_ | refine T.ret ?_ | refine T.rd rfl (by kernel_rfl) ?_ | refine J.bx rfl rfl rfl rfl rfl rfl ?_
      refine J.cc rfl rfl rfl rfl rfl (lturned_spec c.coefs (by have := h.vl; have := h.len; omega)) rfl rfl ?_
      repeat' first | refine T.seq ?_ | refine T.block ?_ | refine T.r ?_ | refine J.e rfl rfl rfl rfl ?_ | refine J.nil ?_ | refine J.skip rfl rfl rfl ?_ | refine T.skip ?_ | refine T.exit ?_ | refine T.ret ?_ | refine T.rd rfl (by kernel_rfl) ?_ | refine J.bx rfl rfl rfl rfl rfl rfl ?_
      refine T.label ?_
      repeat' first | refine T.seq ?_ | refine T.block ?_ | refine T.r ?_ | refine J.e rfl rfl rfl rfl ?_ | refine J.nil ?_ | refine J.skip rfl rfl rfl ?_ | refine T.skip ?_ | refine T.exit ?_ | refine T.ret ?_ | refine T.rd rfl (by kernel_rfl) ?_ | refine J.bx rfl rfl rfl rfl rfl rfl ?_
      refine T.canon (keep := [3, 6, 8]) (os := [3, 6, 8]) rfl (T.ind (fun s : Nat × Doms => ⟨[(3, .optr 0 0 0 0), (6, .ref 1), (8, .ref 2)], [(0, some (.box false (cC c))), (1, some (.sl 38 1 true (s.2.map cD))), (2, some (.sl 3 1 true ((turnedW c.coefs).map cI)))], 3⟩)
        (fun s => iter (stepL c) s.1 s.2 = some R ∧ SumFine s.2 c.vars c.coefs) (fun s => s.1) (N, d) ⟨hR, h⟩ (fun _ _ h => h) ?_)
      rintro ⟨m, out⟩ ⟨hR, hs⟩ ih
      simp only at hR hs
      dsimp only
      have hm1 := lmost_spec out c.vars c.coefs c.rhs hs
      have hs1 := hs.most c.rhs
      have hm2 := lmost_spec (mostW out c.vars c.coefs c.rhs).1 c.vars (turnedW c.coefs) (wr (0 - c.rhs)) hs1.back
      have hs2 := hs1.back.most (wr (0 - c.rhs))
      have hs3 : SumFine (mostW (mostW out c.vars c.coefs c.rhs).1 c.vars (turnedW c.coefs) (wr (0 - c.rhs))).1 c.vars c.coefs := ⟨hs.len, hs2.vl, hs2.vin, hs.ck, hs2.dom, hs2.dl⟩
      have hst : stepL c out = stepL c out := rfl
      conv at hst => rhs; unfold stepL
      generalize mostW (mostW out c.vars c.coefs c.rhs).1 c.vars (turnedW c.coefs) (wr (0 - c.rhs)) = m2 at *
      generalize mostW out c.vars c.coefs c.rhs = m1 at *
      obtain ⟨d1, ch1, ok1⟩ := m1
      obtain ⟨d2, ch2, ok2⟩ := m2
      simp only at hm1 hm2 hst hs1 hs3
      repeat' first | refine T.seq ?_ | refine T.block ?_ | refine T.r ?_ | refine J.e rfl rfl rfl rfl ?_ | refine J.nil ?_ | refine J.skip rfl rfl rfl ?_ | refine T.skip ?_ | refine T.exit ?_ | refine T.ret ?_ | refine T.rd rfl (by kernel_rfl) ?_ | refine J.bx rfl rfl rfl rfl rfl rfl ?_
      refine J.cm rfl rfl rfl rfl rfl rfl rfl rfl rfl hm1 rfl rfl rfl ?_
      repeat' first | refine T.seq ?_ | refine T.block ?_ | refine T.r ?_ | refine J.e rfl rfl rfl rfl ?_ | refine J.nil ?_ | refine J.skip rfl rfl rfl ?_ | refine T.skip ?_ | refine T.exit ?_ | refine T.ret ?_ | refine T.rd rfl (by kernel_rfl) ?_ | refine J.bx rfl rfl rfl rfl rfl rfl ?_
      cases ok1
      · rw [if_pos rfl] at hst
        obtain rfl := iter_inl hR hst
        refine T.ct rfl ?_
        repeat' first | refine T.seq ?_ | refine T.block ?_ | refine T.r ?_ | refine J.e rfl rfl rfl rfl ?_ | refine J.nil ?_ | refine J.skip rfl rfl rfl ?_ | refine T.skip ?_ | refine T.exit ?_ | refine T.ret ?_ | refine T.rd rfl (by kernel_rfl) ?_ | refine J.bx rfl rfl rfl rfl rfl rfl ?_
        exact ⟨_, .ownN rfl (.v rfl rfl rfl (fun _ => rfl) .nil)⟩
      · rw [if_neg (by decide)] at hst
        refine T.cf rfl ?_
        repeat' first | refine T.seq ?_ | refine T.block ?_ | refine T.r ?_ | refine J.e rfl rfl rfl rfl ?_ | refine J.nil ?_ | refine J.skip rfl rfl rfl ?_ | refine T.skip ?_ | refine T.exit ?_ | refine T.ret ?_ | refine T.rd rfl (by kernel_rfl) ?_ | refine J.bx rfl rfl rfl rfl rfl rfl ?_
        refine T.cd rfl (fun h2 => ?_) (fun h2 => ?_)
        · have h2 : c.op = 0 := h2
          rw [if_pos h2] at hst
          obtain rfl := iter_inl hR hst
          repeat' first | refine T.seq ?_ | refine T.block ?_ | refine T.r ?_ | refine J.e rfl rfl rfl rfl ?_ | refine J.nil ?_ | refine J.skip rfl rfl rfl ?_ | refine T.skip ?_ | refine T.exit ?_ | refine T.ret ?_ | refine T.rd rfl (by kernel_rfl) ?_ | refine J.bx rfl rfl rfl rfl rfl rfl ?_
          exact ⟨_, .o rfl rfl rfl (fun _ => .inl rfl) (by simp) (.v rfl rfl rfl (fun _ => rfl) .nil)⟩
        · have h2 : ¬ c.op = 0 := h2
          rw [if_neg h2] at hst
          repeat' first | refine T.seq ?_ | refine T.block ?_ | refine T.r ?_ | refine J.e rfl rfl rfl rfl ?_ | refine J.nil ?_ | refine J.skip rfl rfl rfl ?_ | refine T.skip ?_ | refine T.exit ?_ | refine T.ret ?_ | refine T.rd rfl (by kernel_rfl) ?_ | refine J.bx rfl rfl rfl rfl rfl rfl ?_
          refine J.cm rfl rfl rfl rfl rfl rfl rfl rfl rfl hm2 rfl rfl rfl ?_
          repeat' first | refine T.seq ?_ | refine T.block ?_ | refine T.r ?_ | refine J.e rfl rfl rfl rfl ?_ | refine J.nil ?_ | refine J.skip rfl rfl rfl ?_ | refine T.skip ?_ | refine T.exit ?_ | refine T.ret ?_ | refine T.rd rfl (by kernel_rfl) ?_ | refine J.bx rfl rfl rfl rfl rfl rfl ?_
          cases ok2
          · rw [if_pos rfl] at hst
            obtain rfl := iter_inl hR hst
            refine T.ct rfl ?_
            repeat' first | refine T.seq ?_ | refine T.block ?_ | refine T.r ?_ | refine J.e rfl rfl rfl rfl ?_ | refine J.nil ?_ | refine J.skip rfl rfl rfl ?_ | refine T.skip ?_ | refine T.exit ?_ | refine T.ret ?_ | refine T.rd rfl (by kernel_rfl) ?_ | refine J.bx rfl rfl rfl rfl rfl rfl ?_
            exact ⟨_, .ownN rfl (.v rfl rfl rfl (fun _ => rfl) .nil)⟩
          · rw [if_neg (by decide)] at hst
            refine T.cf rfl ?_
            repeat' first | refine T.seq ?_ | refine T.block ?_ | refine T.r ?_ | refine J.e rfl rfl rfl rfl ?_ | refine J.nil ?_ | refine J.skip rfl rfl rfl ?_ | refine T.skip ?_ | refine T.exit ?_ | refine T.ret ?_ | refine T.rd rfl (by kernel_rfl) ?_ | refine J.bx rfl rfl rfl rfl rfl rfl ?_
            cases ch1
            · cases ch2
              · rw [if_pos ⟨rfl, rfl⟩] at hst
                obtain rfl := iter_inl hR hst
                repeat' first | refine T.seq ?_ | refine T.block ?_ | refine T.r ?_ | refine J.e rfl rfl rfl rfl ?_ | refine J.nil ?_ | refine J.skip rfl rfl rfl ?_ | refine T.skip ?_ | refine T.exit ?_ | refine T.ret ?_ | refine T.rd rfl (by kernel_rfl) ?_ | refine J.bx rfl rfl rfl rfl rfl rfl ?_
                refine T.ct rfl ?_
                repeat' first | refine T.seq ?_ | refine T.block ?_ | refine T.r ?_ | refine J.e rfl rfl rfl rfl ?_ | refine J.nil ?_ | refine J.skip rfl rfl rfl ?_ | refine T.skip ?_ | refine T.exit ?_ | refine T.ret ?_ | refine T.rd rfl (by kernel_rfl) ?_ | refine J.bx rfl rfl rfl rfl rfl rfl ?_
                exact ⟨_, .o rfl rfl rfl (fun _ => .inl rfl) (by simp) (.v rfl rfl rfl (fun _ => rfl) .nil)⟩
              · rw [if_neg (by simp)] at hst
                obtain ⟨m', hlt, hR'⟩ := iter_inr hR hst
                repeat' first | refine T.seq ?_ | refine T.block ?_ | refine T.r ?_ | refine J.e rfl rfl rfl rfl ?_ | refine J.nil ?_ | refine J.skip rfl rfl rfl ?_ | refine T.skip ?_ | refine T.exit ?_ | refine T.ret ?_ | refine T.rd rfl (by kernel_rfl) ?_ | refine J.bx rfl rfl rfl rfl rfl rfl ?_
                refine T.cf rfl ?_
                repeat' first | refine T.seq ?_ | refine T.block ?_ | refine T.r ?_ | refine J.e rfl rfl rfl rfl ?_ | refine J.nil ?_ | refine J.skip rfl rfl rfl ?_ | refine T.skip ?_ | refine T.exit ?_ | refine T.ret ?_ | refine T.rd rfl (by kernel_rfl) ?_ | refine J.bx rfl rfl rfl rfl rfl rfl ?_
                exact T.canon (keep := [3, 6, 8]) (os := [3, 6, 8]) rfl (ih (m', d2) ⟨hR', hs3⟩ hlt)
            · rw [if_neg (by simp)] at hst
              obtain ⟨m', hlt, hR'⟩ := iter_inr hR hst
              repeat' first | refine T.seq ?_ | refine T.block ?_ | refine T.r ?_ | refine J.e rfl rfl rfl rfl ?_ | refine J.nil ?_ | refine J.skip rfl rfl rfl ?_ | refine T.skip ?_ | refine T.exit ?_ | refine T.ret ?_ | refine T.rd rfl (by kernel_rfl) ?_ | refine J.bx rfl rfl rfl rfl rfl rfl ?_
              refine T.cf rfl ?_
              repeat' first | refine T.seq ?_ | refine T.block ?_ | refine T.r ?_ | refine J.e rfl rfl rfl rfl ?_ | refine J.nil ?_ | refine J.skip rfl rfl rfl ?_ | refine T.skip ?_ | refine T.exit ?_ | refine T.ret ?_ | refine T.rd rfl (by kernel_rfl) ?_ | refine J.bx rfl rfl rfl rfl rfl rfl ?_
              exact T.canon (keep := [3, 6, 8]) (os := [3, 6, 8]) rfl (ih (m', d2) ⟨hR', hs3⟩ hlt)
end Go.Proofs.Ytchajofdjeijfaa
