/- The texts FnP, FnQ, PuA, PuB, PuC, PuT, LiA, FnR, FnS of the workplace, joined. -/
import Derived.Test.YtchajofdjeijfaaB4
import Derived.Lib.Mul64
/-! Contracts: what a constraint means. -/
namespace Go.Proofs.Ytchajofdjeijfaa
open Go Go.RowKit
set_option linter.unusedVariables false
set_option maxRecDepth 8000

def atR (a : List Int) (v : Int) : Int := if v < 0 then 0 else a.getD v.toNat 0
theorem at_spec (a : List Int) (v : Int) (hl : a.length * 8 ≤ 140737488355328) : Spec Try.prog 65 false [ints a, .int .i64 v] [.val (.int .i64 (atR a v))] := by
  refine Spec.body Try.func65 rfl rfl rfl fun w0 Z0 => ?_
  unfold atR
  repeat' first | refine T.seq ?_ | refine T.block ?_ | refine T.r ?_ | refine J.e rfl rfl rfl rfl ?_ | refine J.nil ?_ | refine J.skip rfl rfl rfl ?_ | refine T.skip ?_ | refine T.exit ?_ | refine T.ret ?_ | refine T.rd rfl (by kernel_rfl) ?_ | refine J.bx rfl rfl rfl rfl rfl rfl ?_
  refine J.g rfl rfl rfl (fun h => ?_) (fun h => ?_)
  · repeat' first | refine T.seq ?_ | refine T.block ?_ | refine T.r ?_ | refine J.e rfl rfl rfl rfl ?_ | refine J.nil ?_ | refine J.skip rfl rfl rfl ?_ | refine T.skip ?_ | refine T.exit ?_ | refine T.ret ?_ | refine T.rd rfl (by kernel_rfl) ?_ | refine J.bx rfl rfl rfl rfl rfl rfl ?_
    refine T.ct rfl ?_
    repeat' first | refine T.seq ?_ | refine T.block ?_ | refine T.r ?_ | refine J.e rfl rfl rfl rfl ?_ | refine J.nil ?_ | refine J.skip rfl rfl rfl ?_ | refine T.skip ?_ | refine T.exit ?_ | refine T.ret ?_ | refine T.rd rfl (by kernel_rfl) ?_ | refine J.bx rfl rfl rfl rfl rfl rfl ?_
    exact ⟨_, .v rfl rfl (by rw [if_pos h]) (fun _ => rfl) .nil⟩
  · repeat' first | refine T.seq ?_ | refine T.block ?_ | refine T.r ?_ | refine J.e rfl rfl rfl rfl ?_ | refine J.nil ?_ | refine J.skip rfl rfl rfl ?_ | refine T.skip ?_ | refine T.exit ?_ | refine T.ret ?_ | refine T.rd rfl (by kernel_rfl) ?_ | refine J.bx rfl rfl rfl rfl rfl rfl ?_
    refine T.cd rfl (fun h2 => ?_) (fun h2 => ?_)
    · repeat' first | refine T.seq ?_ | refine T.block ?_ | refine T.r ?_ | refine J.e rfl rfl rfl rfl ?_ | refine J.nil ?_ | refine J.skip rfl rfl rfl ?_ | refine T.skip ?_ | refine T.exit ?_ | refine T.ret ?_ | refine T.rd rfl (by kernel_rfl) ?_ | refine J.bx rfl rfl rfl rfl rfl rfl ?_
      refine ⟨_, .v rfl rfl ?_ (fun _ => rfl) .nil⟩
      rw [if_neg h, List.getD_eq_getElem?_getD, List.getElem?_eq_none (by simp at h2; omega)]; rfl
    · have h2 : v.toNat < a.length := by simp at h2; omega
      repeat' first | refine T.seq ?_ | refine T.block ?_ | refine T.r ?_ | refine J.e rfl rfl rfl rfl ?_ | refine J.nil ?_ | refine J.skip rfl rfl rfl ?_ | refine T.skip ?_ | refine T.exit ?_ | refine T.ret ?_ | refine T.rd rfl (by kernel_rfl) ?_ | refine J.bx rfl rfl rfl rfl rfl rfl ?_
      refine J.i rfl rfl rfl rfl rfl rfl rfl rfl rfl (r := cI a[v.toNat]) (by omega) (row_i h2) rfl ?_
      repeat' first | refine T.seq ?_ | refine T.block ?_ | refine T.r ?_ | refine J.e rfl rfl rfl rfl ?_ | refine J.nil ?_ | refine J.skip rfl rfl rfl ?_ | refine T.skip ?_ | refine T.exit ?_ | refine T.ret ?_ | refine T.rd rfl (by kernel_rfl) ?_ | refine J.bx rfl rfl rfl rfl rfl rfl ?_
      refine ⟨_, .v rfl rfl ?_ (fun _ => rfl) .nil⟩
      rw [if_neg h, List.getD_eq_getElem?_getD, List.getElem?_eq_getElem h2]; rfl

def pickedR (vars a : List Int) : List Int := vars.map (atR a)
theorem picked_spec (vars a : List Int) (hv : vars.length * 8 ≤ 140737488355328) (hl : a.length * 8 ≤ 140737488355328) : Spec Try.prog 61 false [ints vars, ints a] [.own 3 1 ((pickedR vars a).map cI)] := by
  refine Spec.body Try.func61 rfl rfl rfl fun w0 Z0 => ?_
  repeat' first | refine T.seq ?_ | refine T.block ?_ | refine T.r ?_ | refine J.e rfl rfl rfl rfl ?_ | refine J.nil ?_ | refine J.skip rfl rfl rfl ?_ | refine T.skip ?_ | refine T.exit ?_ | refine T.ret ?_ | refine T.rd rfl (by kernel_rfl) ?_ | refine J.bx rfl rfl rfl rfl rfl rfl ?_
  refine J.bo rfl rfl rfl rfl rfl rfl rfl rfl rfl rfl rfl rfl ?_
  repeat' first | refine T.seq ?_ | refine T.block ?_ | refine T.r ?_ | refine J.e rfl rfl rfl rfl ?_ | refine J.nil ?_ | refine J.skip rfl rfl rfl ?_ | refine T.skip ?_ | refine T.exit ?_ | refine T.ret ?_ | refine T.rd rfl (by kernel_rfl) ?_ | refine J.bx rfl rfl rfl rfl rfl rfl ?_
  refine T.canon (keep := [0, 1, 4, 5, 6]) (os := [5]) rfl (T.ind (fun i : Nat => ⟨[(0, .val false (ints vars)), (1, .val false (ints a)), (4, .nilsl), (5, .ref 0), (6, .val true (.int .i64 i))], [(0, some (.sl 3 1 true ((pickedR (vars.take i) a).map cI)))], 1⟩) (fun i => i ≤ vars.length) (fun i => vars.length - i) 0 (by simp) (fun _ _ h => h) ?_)
  rintro i hi ih
  repeat' first | refine T.seq ?_ | refine T.block ?_ | refine T.r ?_ | refine J.e rfl rfl rfl rfl ?_ | refine J.nil ?_ | refine J.skip rfl rfl rfl ?_ | refine T.skip ?_ | refine T.exit ?_ | refine T.ret ?_ | refine T.rd rfl (by kernel_rfl) ?_ | refine J.bx rfl rfl rfl rfl rfl rfl ?_
  refine T.cd rfl (fun h1 => ?_) (fun h1 => ?_)
  · have h1 : i < vars.length := by simpa using h1
    repeat' first | refine T.seq ?_ | refine T.block ?_ | refine T.r ?_ | refine J.e rfl rfl rfl rfl ?_ | refine J.nil ?_ | refine J.skip rfl rfl rfl ?_ | refine T.skip ?_ | refine T.exit ?_ | refine T.ret ?_ | refine T.rd rfl (by kernel_rfl) ?_ | refine J.bx rfl rfl rfl rfl rfl rfl ?_
    refine J.i rfl rfl rfl rfl rfl rfl rfl rfl rfl (r := cI vars[i]) (by omega) (row_i h1) rfl ?_
    repeat' first | refine T.seq ?_ | refine T.block ?_ | refine T.r ?_ | refine J.e rfl rfl rfl rfl ?_ | refine J.nil ?_ | refine J.skip rfl rfl rfl ?_ | refine T.skip ?_ | refine T.exit ?_ | refine T.ret ?_ | refine T.rd rfl (by kernel_rfl) ?_ | refine J.bx rfl rfl rfl rfl rfl rfl ?_
    refine J.cc rfl rfl rfl rfl rfl (at_spec a vars[i] hl) rfl rfl ?_
    repeat' first | refine T.seq ?_ | refine T.block ?_ | refine T.r ?_ | refine J.e rfl rfl rfl rfl ?_ | refine J.nil ?_ | refine J.skip rfl rfl rfl ?_ | refine T.skip ?_ | refine T.exit ?_ | refine T.ret ?_ | refine T.rd rfl (by kernel_rfl) ?_ | refine J.bx rfl rfl rfl rfl rfl rfl ?_
    refine J.bv rfl rfl rfl rfl rfl rfl rfl rfl rfl rfl rfl rfl ?_
    refine J.aI rfl rfl rfl rfl rfl rfl rfl rfl rfl rfl rfl rfl rfl rfl rfl rfl rfl rfl rfl (by simp [pickedR]; omega) ?_
    repeat' first | refine T.seq ?_ | refine T.block ?_ | refine T.r ?_ | refine J.e rfl rfl rfl rfl ?_ | refine J.nil ?_ | refine J.skip rfl rfl rfl ?_ | refine T.skip ?_ | refine T.exit ?_ | refine T.ret ?_ | refine T.rd rfl (by kernel_rfl) ?_ | refine J.bx rfl rfl rfl rfl rfl rfl ?_
    rw [wrap1 (l := vars.length) (by omega) (by omega)]
    have e : pickedR (vars.take i) a ++ [atR a vars[i]] = pickedR (vars.take (i + 1)) a := by
      rw [List.take_succ_eq_append_getElem h1]
      unfold pickedR
      rw [List.map_append]
      rfl
    rw [e]
    exact T.canon (keep := [0, 1, 4, 5, 6]) (os := [5]) rfl (ih (i + 1) (by omega) (by omega))
  · have h1 : i = vars.length := by simp at h1; omega
    subst h1
    repeat' first | refine T.seq ?_ | refine T.block ?_ | refine T.r ?_ | refine J.e rfl rfl rfl rfl ?_ | refine J.nil ?_ | refine J.skip rfl rfl rfl ?_ | refine T.skip ?_ | refine T.exit ?_ | refine T.ret ?_ | refine T.rd rfl (by kernel_rfl) ?_ | refine J.bx rfl rfl rfl rfl rfl rfl ?_
    refine ⟨_, .o rfl rfl (by rw [List.take_length]) (fun _ => .inl rfl) (by simp) .nil⟩

def heldR (op n rhs : Int) : Bool := if op = 0 then decide (n ≤ rhs) else (decide (n = rhs) == decide (op = 1))
theorem held_spec (op n rhs : Int) : Spec Try.prog 62 false [.int .i64 op, .int .i64 n, .int .i64 rhs] [.val (.bool (heldR op n rhs))] := by
  refine Spec.body Try.func62 rfl rfl rfl fun w0 Z0 => ?_
  unfold heldR
  repeat' first | refine T.seq ?_ | refine T.block ?_ | refine T.r ?_ | refine J.e rfl rfl rfl rfl ?_ | refine J.nil ?_ | refine J.skip rfl rfl rfl ?_ | refine T.skip ?_ | refine T.exit ?_ | refine T.ret ?_ | refine T.rd rfl (by kernel_rfl) ?_ | refine J.bx rfl rfl rfl rfl rfl rfl ?_
  refine T.cd rfl (fun h => ?_) (fun h => ?_)
  · repeat' first | refine T.seq ?_ | refine T.block ?_ | refine T.r ?_ | refine J.e rfl rfl rfl rfl ?_ | refine J.nil ?_ | refine J.skip rfl rfl rfl ?_ | refine T.skip ?_ | refine T.exit ?_ | refine T.ret ?_ | refine T.rd rfl (by kernel_rfl) ?_ | refine J.bx rfl rfl rfl rfl rfl rfl ?_
    exact ⟨_, .v rfl rfl (by rw [if_pos h]) (fun _ => rfl) .nil⟩
  · repeat' first | refine T.seq ?_ | refine T.block ?_ | refine T.r ?_ | refine J.e rfl rfl rfl rfl ?_ | refine J.nil ?_ | refine J.skip rfl rfl rfl ?_ | refine T.skip ?_ | refine T.exit ?_ | refine T.ret ?_ | refine T.rd rfl (by kernel_rfl) ?_ | refine J.bx rfl rfl rfl rfl rfl rfl ?_
    exact ⟨_, .v rfl rfl (by rw [if_neg h]) (fun _ => rfl) .nil⟩

/-- A sum as the machine counts it. -/
def sumW (vars coefs a : List Int) : Int := (vars.zip coefs).foldl (fun n p => IntKind.i64.wrap (n + IntKind.i64.wrap (p.2 * atR a p.1))) 0
theorem rsum_spec (vars coefs a : List Int) (hv : vars.length * 8 ≤ 140737488355328) (hc : coefs.length * 8 ≤ 140737488355328) (hl : a.length * 8 ≤ 140737488355328) : Spec Try.prog 63 false [ints vars, ints coefs, ints a] [.val (.int .i64 (sumW vars coefs a))] := by
  refine Spec.body Try.func63 rfl rfl rfl fun w0 Z0 => ?_
  repeat' first | refine T.seq ?_ | refine T.block ?_ | refine T.r ?_ | refine J.e rfl rfl rfl rfl ?_ | refine J.nil ?_ | refine J.skip rfl rfl rfl ?_ | refine T.skip ?_ | refine T.exit ?_ | refine T.ret ?_ | refine T.rd rfl (by kernel_rfl) ?_ | refine J.bx rfl rfl rfl rfl rfl rfl ?_
  refine T.canon (keep := [0, 1, 2, 7, 8]) (os := []) rfl (T.ind (fun i : Nat => ⟨[(0, .val false (ints vars)), (1, .val false (ints coefs)), (2, .val false (ints a)), (7, .val true (.int .i64 (sumW (vars.take i) (coefs.take i) a))), (8, .val true (.int .i64 i))], [], 0⟩) (fun i => i ≤ vars.length ∧ i ≤ coefs.length) (fun i => vars.length - i) 0 (by simp) (fun _ _ h => h) ?_)
  rintro i ⟨hi, hi2⟩ ih
  have fin : ∀ (h : i = vars.length ∨ i = coefs.length), sumW (vars.take i) (coefs.take i) a = sumW vars coefs a := by
    intro h
    unfold sumW
    rw [List.zip_eq_zipWith, List.zip_eq_zipWith, ← List.take_zipWith, List.take_of_length_le]
    simp; omega
  repeat' first | refine T.seq ?_ | refine T.block ?_ | refine T.r ?_ | refine J.e rfl rfl rfl rfl ?_ | refine J.nil ?_ | refine J.skip rfl rfl rfl ?_ | refine T.skip ?_ | refine T.exit ?_ | refine T.ret ?_ | refine T.rd rfl (by kernel_rfl) ?_ | refine J.bx rfl rfl rfl rfl rfl rfl ?_
  refine J.g rfl rfl rfl (fun h => ?_) (fun h => ?_)
  · have h : i < vars.length := by simpa using h
    repeat' first | refine T.seq ?_ | refine T.block ?_ | refine T.r ?_ | refine J.e rfl rfl rfl rfl ?_ | refine J.nil ?_ | refine J.skip rfl rfl rfl ?_ | refine T.skip ?_ | refine T.exit ?_ | refine T.ret ?_ | refine T.rd rfl (by kernel_rfl) ?_ | refine J.bx rfl rfl rfl rfl rfl rfl ?_
    refine T.cd rfl (fun h1 => ?_) (fun h1 => ?_)
    · have h1 : i < coefs.length := by simpa using h1
      repeat' first | refine T.seq ?_ | refine T.block ?_ | refine T.r ?_ | refine J.e rfl rfl rfl rfl ?_ | refine J.nil ?_ | refine J.skip rfl rfl rfl ?_ | refine T.skip ?_ | refine T.exit ?_ | refine T.ret ?_ | refine T.rd rfl (by kernel_rfl) ?_ | refine J.bx rfl rfl rfl rfl rfl rfl ?_
      refine J.i rfl rfl rfl rfl rfl rfl rfl rfl rfl (r := cI coefs[i]) (by omega) (row_i h1) rfl ?_
      repeat' first | refine T.seq ?_ | refine T.block ?_ | refine T.r ?_ | refine J.e rfl rfl rfl rfl ?_ | refine J.nil ?_ | refine J.skip rfl rfl rfl ?_ | refine T.skip ?_ | refine T.exit ?_ | refine T.ret ?_ | refine T.rd rfl (by kernel_rfl) ?_ | refine J.bx rfl rfl rfl rfl rfl rfl ?_
      refine J.i rfl rfl rfl rfl rfl rfl rfl rfl rfl (r := cI vars[i]) (by omega) (row_i h) rfl ?_
      repeat' first | refine T.seq ?_ | refine T.block ?_ | refine T.r ?_ | refine J.e rfl rfl rfl rfl ?_ | refine J.nil ?_ | refine J.skip rfl rfl rfl ?_ | refine T.skip ?_ | refine T.exit ?_ | refine T.ret ?_ | refine T.rd rfl (by kernel_rfl) ?_ | refine J.bx rfl rfl rfl rfl rfl rfl ?_
      refine J.cc rfl rfl rfl rfl rfl (at_spec a vars[i] hl) rfl rfl ?_
      repeat' first | refine T.seq ?_ | refine T.block ?_ | refine T.r ?_ | refine J.e rfl rfl rfl rfl ?_ | refine J.nil ?_ | refine J.skip rfl rfl rfl ?_ | refine T.skip ?_ | refine T.exit ?_ | refine T.ret ?_ | refine T.rd rfl (by kernel_rfl) ?_ | refine J.bx rfl rfl rfl rfl rfl rfl ?_
      have e : IntKind.i64.wrap (sumW (vars.take i) (coefs.take i) a + IntKind.i64.wrap (coefs[i] * atR a vars[i])) = sumW (vars.take (i + 1)) (coefs.take (i + 1)) a := by
        unfold sumW
        rw [List.take_succ_eq_append_getElem h, List.take_succ_eq_append_getElem h1, List.zip_append (by simp; omega), List.foldl_append]
        rfl
      rw [e, wrap1 (l := vars.length) (by omega) (by omega)]
      exact T.canon (keep := [0, 1, 2, 7, 8]) (os := []) rfl (ih (i + 1) ⟨by omega, by omega⟩ (by omega))
    · repeat' first | refine T.seq ?_ | refine T.block ?_ | refine T.r ?_ | refine J.e rfl rfl rfl rfl ?_ | refine J.nil ?_ | refine J.skip rfl rfl rfl ?_ | refine T.skip ?_ | refine T.exit ?_ | refine T.ret ?_ | refine T.rd rfl (by kernel_rfl) ?_ | refine J.bx rfl rfl rfl rfl rfl rfl ?_
      refine ⟨_, .v rfl rfl (by rw [fin]; simp at h1; omega) (fun _ => rfl) .nil⟩
  · repeat' first | refine T.seq ?_ | refine T.block ?_ | refine T.r ?_ | refine J.e rfl rfl rfl rfl ?_ | refine J.nil ?_ | refine J.skip rfl rfl rfl ?_ | refine T.skip ?_ | refine T.exit ?_ | refine T.ret ?_ | refine T.rd rfl (by kernel_rfl) ?_ | refine J.bx rfl rfl rfl rfl rfl rfl ?_
    refine T.cf rfl ?_
    repeat' first | refine T.seq ?_ | refine T.block ?_ | refine T.r ?_ | refine J.e rfl rfl rfl rfl ?_ | refine J.nil ?_ | refine J.skip rfl rfl rfl ?_ | refine T.skip ?_ | refine T.exit ?_ | refine T.ret ?_ | refine T.rd rfl (by kernel_rfl) ?_ | refine J.bx rfl rfl rfl rfl rfl rfl ?_
    refine ⟨_, .v rfl rfl (by rw [fin]; simp at h; omega) (fun _ => rfl) .nil⟩

def orderR : List Int → List Int → Int
  | [], [] => 0
  | [], _ :: _ => -1
  | _ :: _, [] => 1
  | x :: xs, y :: ys => if x < y then -1 else if y < x then 1 else orderR xs ys
theorem order_spec (a b : List Int) (ha : a.length * 8 ≤ 140737488355328) (hb : b.length * 8 ≤ 140737488355328) : Spec Try.prog 66 false [ints a, ints b] [.val (.int .i64 (orderR a b))] := by
  refine Spec.body Try.func66 rfl rfl rfl fun w0 Z0 => ?_
  repeat' first | refine T.seq ?_ | refine T.block ?_ | refine T.r ?_ | refine J.e rfl rfl rfl rfl ?_ | refine J.nil ?_ | refine J.skip rfl rfl rfl ?_ | refine T.skip ?_ | refine T.exit ?_ | refine T.ret ?_ | refine T.rd rfl (by kernel_rfl) ?_ | refine J.bx rfl rfl rfl rfl rfl rfl ?_
  refine T.canon (keep := [0, 1, 5]) (os := []) rfl (T.ind (fun i : Nat => ⟨[(0, .val false (ints a)), (1, .val false (ints b)), (5, .val true (.int .i64 i))], [], 0⟩) (fun i => i ≤ a.length ∧ i ≤ b.length ∧ orderR (a.drop i) (b.drop i) = orderR a b) (fun i => a.length - i) 0 (by simp) (fun _ _ h => h) ?_)
  rintro i ⟨hi, hi2, he⟩ ih
  repeat' first | refine T.seq ?_ | refine T.block ?_ | refine T.r ?_ | refine J.e rfl rfl rfl rfl ?_ | refine J.nil ?_ | refine J.skip rfl rfl rfl ?_ | refine T.skip ?_ | refine T.exit ?_ | refine T.ret ?_ | refine T.rd rfl (by kernel_rfl) ?_ | refine J.bx rfl rfl rfl rfl rfl rfl ?_
  refine J.g rfl rfl rfl (fun h => ?_) (fun h => ?_)
  · have h : i < a.length := by simpa using h
    repeat' first | refine T.seq ?_ | refine T.block ?_ | refine T.r ?_ | refine J.e rfl rfl rfl rfl ?_ | refine J.nil ?_ | refine J.skip rfl rfl rfl ?_ | refine T.skip ?_ | refine T.exit ?_ | refine T.ret ?_ | refine T.rd rfl (by kernel_rfl) ?_ | refine J.bx rfl rfl rfl rfl rfl rfl ?_
    refine T.cd rfl (fun h1 => ?_) (fun h1 => ?_)
    · have h1 : i < b.length := by simpa using h1
      have ed : orderR (a.drop i) (b.drop i) = if a[i] < b[i] then -1 else if b[i] < a[i] then 1 else orderR (a.drop (i + 1)) (b.drop (i + 1)) := by
        rw [List.drop_eq_getElem_cons h, List.drop_eq_getElem_cons h1, orderR]
      repeat' first | refine T.seq ?_ | refine T.block ?_ | refine T.r ?_ | refine J.e rfl rfl rfl rfl ?_ | refine J.nil ?_ | refine J.skip rfl rfl rfl ?_ | refine T.skip ?_ | refine T.exit ?_ | refine T.ret ?_ | refine T.rd rfl (by kernel_rfl) ?_ | refine J.bx rfl rfl rfl rfl rfl rfl ?_
      refine J.i rfl rfl rfl rfl rfl rfl rfl rfl rfl (r := cI a[i]) (by omega) (row_i h) rfl ?_
      repeat' first | refine T.seq ?_ | refine T.block ?_ | refine T.r ?_ | refine J.e rfl rfl rfl rfl ?_ | refine J.nil ?_ | refine J.skip rfl rfl rfl ?_ | refine T.skip ?_ | refine T.exit ?_ | refine T.ret ?_ | refine T.rd rfl (by kernel_rfl) ?_ | refine J.bx rfl rfl rfl rfl rfl rfl ?_
      refine J.i rfl rfl rfl rfl rfl rfl rfl rfl rfl (r := cI b[i]) (by omega) (row_i h1) rfl ?_
      repeat' first | refine T.seq ?_ | refine T.block ?_ | refine T.r ?_ | refine J.e rfl rfl rfl rfl ?_ | refine J.nil ?_ | refine J.skip rfl rfl rfl ?_ | refine T.skip ?_ | refine T.exit ?_ | refine T.ret ?_ | refine T.rd rfl (by kernel_rfl) ?_ | refine J.bx rfl rfl rfl rfl rfl rfl ?_
      refine T.cd rfl (fun h2 => ?_) (fun h2 => ?_)
      · repeat' first | refine T.seq ?_ | refine T.block ?_ | refine T.r ?_ | refine J.e rfl rfl rfl rfl ?_ | refine J.nil ?_ | refine J.skip rfl rfl rfl ?_ | refine T.skip ?_ | refine T.exit ?_ | refine T.ret ?_ | refine T.rd rfl (by kernel_rfl) ?_ | refine J.bx rfl rfl rfl rfl rfl rfl ?_
        refine ⟨_, .v rfl rfl ?_ (fun _ => rfl) .nil⟩
        rw [← he, ed, if_pos h2]
      · repeat' first | refine T.seq ?_ | refine T.block ?_ | refine T.r ?_ | refine J.e rfl rfl rfl rfl ?_ | refine J.nil ?_ | refine J.skip rfl rfl rfl ?_ | refine T.skip ?_ | refine T.exit ?_ | refine T.ret ?_ | refine T.rd rfl (by kernel_rfl) ?_ | refine J.bx rfl rfl rfl rfl rfl rfl ?_
        refine J.i rfl rfl rfl rfl rfl rfl rfl rfl rfl (r := cI a[i]) (by omega) (row_i h) rfl ?_
        repeat' first | refine T.seq ?_ | refine T.block ?_ | refine T.r ?_ | refine J.e rfl rfl rfl rfl ?_ | refine J.nil ?_ | refine J.skip rfl rfl rfl ?_ | refine T.skip ?_ | refine T.exit ?_ | refine T.ret ?_ | refine T.rd rfl (by kernel_rfl) ?_ | refine J.bx rfl rfl rfl rfl rfl rfl ?_
        refine J.i rfl rfl rfl rfl rfl rfl rfl rfl rfl (r := cI b[i]) (by omega) (row_i h1) rfl ?_
        repeat' first | refine T.seq ?_ | refine T.block ?_ | refine T.r ?_ | refine J.e rfl rfl rfl rfl ?_ | refine J.nil ?_ | refine J.skip rfl rfl rfl ?_ | refine T.skip ?_ | refine T.exit ?_ | refine T.ret ?_ | refine T.rd rfl (by kernel_rfl) ?_ | refine J.bx rfl rfl rfl rfl rfl rfl ?_
        refine T.cd rfl (fun h3 => ?_) (fun h3 => ?_)
        · repeat' first | refine T.seq ?_ | refine T.block ?_ | refine T.r ?_ | refine J.e rfl rfl rfl rfl ?_ | refine J.nil ?_ | refine J.skip rfl rfl rfl ?_ | refine T.skip ?_ | refine T.exit ?_ | refine T.ret ?_ | refine T.rd rfl (by kernel_rfl) ?_ | refine J.bx rfl rfl rfl rfl rfl rfl ?_
          refine ⟨_, .v rfl rfl ?_ (fun _ => rfl) .nil⟩
          rw [← he, ed, if_neg h2, if_pos h3]
        · repeat' first | refine T.seq ?_ | refine T.block ?_ | refine T.r ?_ | refine J.e rfl rfl rfl rfl ?_ | refine J.nil ?_ | refine J.skip rfl rfl rfl ?_ | refine T.skip ?_ | refine T.exit ?_ | refine T.ret ?_ | refine T.rd rfl (by kernel_rfl) ?_ | refine J.bx rfl rfl rfl rfl rfl rfl ?_
          rw [wrap1 (l := a.length) (by omega) (by omega)]
          refine T.canon (keep := [0, 1, 5]) (os := []) rfl (ih (i + 1) ⟨by omega, by omega, ?_⟩ (by omega))
          rw [← he, ed, if_neg h2, if_neg h3]
    · have h1 : i = b.length := by simp at h1; omega
      repeat' first | refine T.seq ?_ | refine T.block ?_ | refine T.r ?_ | refine J.e rfl rfl rfl rfl ?_ | refine J.nil ?_ | refine J.skip rfl rfl rfl ?_ | refine T.skip ?_ | refine T.exit ?_ | refine T.ret ?_ | refine T.rd rfl (by kernel_rfl) ?_ | refine J.bx rfl rfl rfl rfl rfl rfl ?_
      refine T.cd rfl (fun h2 => ?_) (fun h2 => ?_)
      · exact absurd h2 (by simp; omega)
      · repeat' first | refine T.seq ?_ | refine T.block ?_ | refine T.r ?_ | refine J.e rfl rfl rfl rfl ?_ | refine J.nil ?_ | refine J.skip rfl rfl rfl ?_ | refine T.skip ?_ | refine T.exit ?_ | refine T.ret ?_ | refine T.rd rfl (by kernel_rfl) ?_ | refine J.bx rfl rfl rfl rfl rfl rfl ?_
        refine T.cd rfl (fun h3 => ?_) (fun h3 => ?_)
        · repeat' first | refine T.seq ?_ | refine T.block ?_ | refine T.r ?_ | refine J.e rfl rfl rfl rfl ?_ | refine J.nil ?_ | refine J.skip rfl rfl rfl ?_ | refine T.skip ?_ | refine T.exit ?_ | refine T.ret ?_ | refine T.rd rfl (by kernel_rfl) ?_ | refine J.bx rfl rfl rfl rfl rfl rfl ?_
          refine ⟨_, .v rfl rfl ?_ (fun _ => rfl) .nil⟩
          rw [← he, h1, List.drop_length, List.drop_eq_getElem_cons (by omega), orderR]
        · exact absurd (by simp; omega) h3
  · have h : i = a.length := by simp at h; omega
    repeat' first | refine T.seq ?_ | refine T.block ?_ | refine T.r ?_ | refine J.e rfl rfl rfl rfl ?_ | refine J.nil ?_ | refine J.skip rfl rfl rfl ?_ | refine T.skip ?_ | refine T.exit ?_ | refine T.ret ?_ | refine T.rd rfl (by kernel_rfl) ?_ | refine J.bx rfl rfl rfl rfl rfl rfl ?_
    refine T.cf rfl ?_
    repeat' first | refine T.seq ?_ | refine T.block ?_ | refine T.r ?_ | refine J.e rfl rfl rfl rfl ?_ | refine J.nil ?_ | refine J.skip rfl rfl rfl ?_ | refine T.skip ?_ | refine T.exit ?_ | refine T.ret ?_ | refine T.rd rfl (by kernel_rfl) ?_ | refine J.bx rfl rfl rfl rfl rfl rfl ?_
    refine T.cd rfl (fun h2 => ?_) (fun h2 => ?_)
    · have h2 : a.length < b.length := by simpa using h2
      repeat' first | refine T.seq ?_ | refine T.block ?_ | refine T.r ?_ | refine J.e rfl rfl rfl rfl ?_ | refine J.nil ?_ | refine J.skip rfl rfl rfl ?_ | refine T.skip ?_ | refine T.exit ?_ | refine T.ret ?_ | refine T.rd rfl (by kernel_rfl) ?_ | refine J.bx rfl rfl rfl rfl rfl rfl ?_
      refine ⟨_, .v rfl rfl ?_ (fun _ => rfl) .nil⟩
      rw [← he, h, List.drop_length, List.drop_eq_getElem_cons h2, orderR]
    · have h2 : ¬ a.length < b.length := by simpa using h2
      repeat' first | refine T.seq ?_ | refine T.block ?_ | refine T.r ?_ | refine J.e rfl rfl rfl rfl ?_ | refine J.nil ?_ | refine J.skip rfl rfl rfl ?_ | refine T.skip ?_ | refine T.exit ?_ | refine T.ret ?_ | refine T.rd rfl (by kernel_rfl) ?_ | refine J.bx rfl rfl rfl rfl rfl rfl ?_
      refine T.cd rfl (fun h3 => ?_) (fun h3 => ?_)
      · exact absurd h3 (by simp; omega)
      · repeat' first | refine T.seq ?_ | refine T.block ?_ | refine T.r ?_ | refine J.e rfl rfl rfl rfl ?_ | refine J.nil ?_ | refine J.skip rfl rfl rfl ?_ | refine T.skip ?_ | refine T.exit ?_ | refine T.ret ?_ | refine T.rd rfl (by kernel_rfl) ?_ | refine J.bx rfl rfl rfl rfl rfl rfl ?_
        refine ⟨_, .v rfl rfl ?_ (fun _ => rfl) .nil⟩
        rw [← he, h, List.drop_length, List.drop_eq_nil_of_le (by omega), orderR]
end Go.Proofs.Ytchajofdjeijfaa
/-! Contracts: whether two lists stand in order; values picked out of domains. -/
namespace Go.Proofs.Ytchajofdjeijfaa
open Go Go.RowKit
set_option linter.unusedVariables false
set_option maxRecDepth 8000

def holds6 (vars a : List Int) : Bool := decide (orderR ((pickedR vars a).take (vars.length / 2)) ((pickedR vars a).drop (vars.length / 2)) ≤ 0)
theorem holds6_spec (c : Con) (a : List Int) (hk : c.kind = 6) (hc : ConB c) (hl : a.length * 8 ≤ 140737488355328) : Spec Try.prog 27 false [.agg (cC c), ints a] [.val (.bool (holds6 c.vars a))] := by
  obtain ⟨kind, vars, coefs, op, rhs, rows, b⟩ := c
  obtain rfl : kind = 6 := hk
  obtain ⟨h1, h2, h3, h4⟩ := hc
  simp only at h1 h2 h3 h4
  refine Spec.body Try.func27 rfl rfl rfl fun w0 Z0 => ?_
  repeat' first | refine T.seq ?_ | refine T.block ?_ | refine T.r ?_ | refine J.e rfl rfl rfl rfl ?_ | refine J.nil ?_ | refine J.skip rfl rfl rfl ?_ | refine T.skip ?_ | refine T.exit ?_ | refine T.ret ?_ | refine T.rd rfl (by kernel_rfl) ?_ | refine J.bx rfl rfl rfl rfl rfl rfl ?_
  refine J.cc rfl rfl rfl rfl rfl (picked_spec vars a (by omega) hl) rfl rfl ?_
  repeat' first | refine T.seq ?_ | refine T.block ?_ | refine T.r ?_ | refine J.e rfl rfl rfl rfl ?_ | refine J.nil ?_ | refine J.skip rfl rfl rfl ?_ | refine T.skip ?_ | refine T.exit ?_ | refine T.ret ?_ | refine T.rd rfl (by kernel_rfl) ?_ | refine J.bx rfl rfl rfl rfl rfl rfl ?_
  refine J.cc rfl rfl rfl rfl rfl (rsum_spec vars coefs a (by omega) h2 hl) rfl rfl ?_
  repeat' first | refine T.seq ?_ | refine T.block ?_ | refine T.r ?_ | refine J.e rfl rfl rfl rfl ?_ | refine J.nil ?_ | refine J.skip rfl rfl rfl ?_ | refine T.skip ?_ | refine T.exit ?_ | refine T.ret ?_ | refine T.rd rfl (by kernel_rfl) ?_ | refine J.bx rfl rfl rfl rfl rfl rfl ?_
  refine J.cc rfl rfl rfl rfl rfl (held_spec op _ rhs) rfl rfl ?_
  repeat' first | refine T.seq ?_ | refine T.block ?_ | refine T.r ?_ | refine J.e rfl rfl rfl rfl ?_ | refine J.nil ?_ | refine J.skip rfl rfl rfl ?_ | refine T.skip ?_ | refine T.exit ?_ | refine T.ret ?_ | refine T.rd rfl (by kernel_rfl) ?_ | refine J.bx rfl rfl rfl rfl rfl rfl ?_
  refine T.cf rfl ?_
  repeat' first | refine T.seq ?_ | refine T.block ?_ | refine T.r ?_ | refine J.e rfl rfl rfl rfl ?_ | refine J.nil ?_ | refine J.skip rfl rfl rfl ?_ | refine T.skip ?_ | refine T.exit ?_ | refine T.ret ?_ | refine T.rd rfl (by kernel_rfl) ?_ | refine J.bx rfl rfl rfl rfl rfl rfl ?_
  refine T.cf rfl ?_
  repeat' first | refine T.seq ?_ | refine T.block ?_ | refine T.r ?_ | refine J.e rfl rfl rfl rfl ?_ | refine J.nil ?_ | refine J.skip rfl rfl rfl ?_ | refine T.skip ?_ | refine T.exit ?_ | refine T.ret ?_ | refine T.rd rfl (by kernel_rfl) ?_ | refine J.bx rfl rfl rfl rfl rfl rfl ?_
  refine T.cf rfl ?_
  repeat' first | refine T.seq ?_ | refine T.block ?_ | refine T.r ?_ | refine J.e rfl rfl rfl rfl ?_ | refine J.nil ?_ | refine J.skip rfl rfl rfl ?_ | refine T.skip ?_ | refine T.exit ?_ | refine T.ret ?_ | refine T.rd rfl (by kernel_rfl) ?_ | refine J.bx rfl rfl rfl rfl rfl rfl ?_
  refine T.cf rfl ?_
  repeat' first | refine T.seq ?_ | refine T.block ?_ | refine T.r ?_ | refine J.e rfl rfl rfl rfl ?_ | refine J.nil ?_ | refine J.skip rfl rfl rfl ?_ | refine T.skip ?_ | refine T.exit ?_ | refine T.ret ?_ | refine T.rd rfl (by kernel_rfl) ?_ | refine J.bx rfl rfl rfl rfl rfl rfl ?_
  refine T.cf rfl ?_
  repeat' first | refine T.seq ?_ | refine T.block ?_ | refine T.r ?_ | refine J.e rfl rfl rfl rfl ?_ | refine J.nil ?_ | refine J.skip rfl rfl rfl ?_ | refine T.skip ?_ | refine T.exit ?_ | refine T.ret ?_ | refine T.rd rfl (by kernel_rfl) ?_ | refine J.bx rfl rfl rfl rfl rfl rfl ?_
  refine T.cf rfl ?_
  repeat' first | refine T.seq ?_ | refine T.block ?_ | refine T.r ?_ | refine J.e rfl rfl rfl rfl ?_ | refine J.nil ?_ | refine J.skip rfl rfl rfl ?_ | refine T.skip ?_ | refine T.exit ?_ | refine T.ret ?_ | refine J.bx rfl rfl rfl rfl rfl rfl ?_
  have hpl : (pickedR vars a).length = vars.length := by simp [pickedR]
  have e1 : IntKind.i64.wrap ((((pickedR vars a).map cI).length : Int).tdiv 2) = ((vars.length / 2 : Nat) : Int) := by
    rw [List.length_map, hpl, Int.tdiv_eq_ediv_of_nonneg (by omega), wrap_id (by omega) (by omega)]
    simp
  rw [e1]
  refine T.sub (Rel.frz (s := 5) (fun _ h => h) rfl rfl) ?_
  repeat' first | refine T.seq ?_ | refine T.block ?_ | refine T.r ?_ | refine J.e rfl rfl rfl rfl ?_ | refine J.nil ?_ | refine J.skip rfl rfl rfl ?_ | refine T.skip ?_ | refine T.exit ?_ | refine T.ret ?_ | refine T.rd rfl (by kernel_rfl) ?_ | refine J.bx rfl rfl rfl rfl rfl rfl ?_
  refine J.s1 (enc := cI) (vars.length / 2) rfl rfl rfl rfl rfl rfl rfl rfl rfl (fun _ => rfl) rfl (by omega) ?_
  repeat' first | refine T.seq ?_ | refine T.block ?_ | refine T.r ?_ | refine J.e rfl rfl rfl rfl ?_ | refine J.nil ?_ | refine J.skip rfl rfl rfl ?_ | refine T.skip ?_ | refine T.exit ?_ | refine T.ret ?_ | refine T.rd rfl (by kernel_rfl) ?_ | refine J.bx rfl rfl rfl rfl rfl rfl ?_
  refine J.s3 (enc := cI) (vars.length / 2) rfl rfl rfl rfl rfl rfl rfl rfl rfl (fun _ => rfl) rfl (by omega) ?_
  repeat' first | refine T.seq ?_ | refine T.block ?_ | refine T.r ?_ | refine J.e rfl rfl rfl rfl ?_ | refine J.nil ?_ | refine J.skip rfl rfl rfl ?_ | refine T.skip ?_ | refine T.exit ?_ | refine T.ret ?_ | refine T.rd rfl (by kernel_rfl) ?_ | refine J.bx rfl rfl rfl rfl rfl rfl ?_
  refine J.cc rfl rfl rfl rfl rfl (order_spec _ _ (by simp; omega) (by simp; omega)) rfl rfl ?_
  repeat' first | refine T.seq ?_ | refine T.block ?_ | refine T.r ?_ | refine J.e rfl rfl rfl rfl ?_ | refine J.nil ?_ | refine J.skip rfl rfl rfl ?_ | refine T.skip ?_ | refine T.exit ?_ | refine T.ret ?_ | refine T.rd rfl (by kernel_rfl) ?_ | refine J.bx rfl rfl rfl rfl rfl rfl ?_
  exact ⟨_, .v rfl rfl rfl (fun _ => rfl) .nil⟩

/-- The low bits of a number. -/
def andN (v : Int) : Int := IntKind.i64.wrap (BitVec.ofInt IntKind.i64.bits v &&& BitVec.ofInt IntKind.i64.bits 65535).toNat
theorem andN_in (v : Int) : 0 ≤ andN v ∧ andN v ≤ 65535 := by
  have h : (BitVec.ofInt IntKind.i64.bits v &&& BitVec.ofInt IntKind.i64.bits 65535).toNat ≤ 65535 := by
    rw [BitVec.toNat_and]
    exact Nat.le_trans Nat.and_le_right (by decide)
  unfold andN
  rw [wrap_id (by omega) (by omega)]
  omega
def pickN (a : List Int) (i : Nat) : Int := if i < a.length then andN (a.getD i 0) else i
theorem pickN_pos (a : List Int) (i : Nat) : 0 ≤ pickN a i := by
  unfold pickN
  split
  · exact (andN_in _).1
  · omega
def pickAt (d : Doms) (a : List Int) (i : Nat) : Int := (vals (d.getD i [])).getD ((pickN a i).tmod (vals (d.getD i [])).length).toNat 0
def emptyV (d : Doms) : Bool := d.any fun x => (vals x).isEmpty
def pickL (d : Doms) (a : List Int) : List Int := (List.range d.length).map (pickAt d a)
theorem tmod_in {n : Int} {l : Nat} (hn : 0 ≤ n) (hl : 0 < l) : 0 ≤ n.tmod l ∧ (n.tmod l).toNat < l := by
  have h1 := Int.tmod_lt_of_pos n (b := (l : Int)) (by omega)
  have h2 := Int.tmod_nonneg (l : Int) hn
  omega
theorem lpick_spec (d : Doms) (a : List Int) (hd : ∀ x ∈ d, DomB x) (hl : d.length * 24 ≤ 140737488355328) (ha : a.length * 8 ≤ 140737488355328) :
    Spec Try.prog 39 false [doms d, ints a] [.own 3 1 ((if emptyV d then [] else pickL d a).map cI), .val (.bool (!emptyV d))] := by
  refine Spec.body Try.func39 rfl rfl rfl fun w0 Z0 => ?_
  repeat' first | refine T.seq ?_ | refine T.block ?_ | refine T.r ?_ | refine J.e rfl rfl rfl rfl ?_ | refine J.nil ?_ | refine J.skip rfl rfl rfl ?_ | refine T.skip ?_ | refine T.exit ?_ | refine T.ret ?_ | refine T.rd rfl (by kernel_rfl) ?_ | refine J.bx rfl rfl rfl rfl rfl rfl ?_
  refine J.bo rfl rfl rfl rfl rfl rfl rfl rfl rfl rfl rfl rfl ?_
  repeat' first | refine T.seq ?_ | refine T.block ?_ | refine T.r ?_ | refine J.e rfl rfl rfl rfl ?_ | refine J.nil ?_ | refine J.skip rfl rfl rfl ?_ | refine T.skip ?_ | refine T.exit ?_ | refine T.ret ?_ | refine T.rd rfl (by kernel_rfl) ?_ | refine J.bx rfl rfl rfl rfl rfl rfl ?_
  refine T.canon (keep := [0, 1, 4, 5, 6, 7]) (os := [6]) rfl (T.ind (fun i : Nat => ⟨[(0, .val false (doms d)), (1, .val false (ints a)), (4, .nilsl), (5, .val true (.bool false)), (6, .ref 0), (7, .val true (.int .i64 i))], [(0, some (.sl 3 1 true (((List.range i).map (pickAt d a)).map cI)))], 1⟩) (fun i => i ≤ d.length ∧ emptyV (d.take i) = false) (fun i => d.length - i) 0 (by simp [emptyV]) (fun _ _ h => h) ?_)
  rintro i ⟨hi, he⟩ ih
  repeat' first | refine T.seq ?_ | refine T.block ?_ | refine T.r ?_ | refine J.e rfl rfl rfl rfl ?_ | refine J.nil ?_ | refine J.skip rfl rfl rfl ?_ | refine T.skip ?_ | refine T.exit ?_ | refine T.ret ?_ | refine T.rd rfl (by kernel_rfl) ?_ | refine J.bx rfl rfl rfl rfl rfl rfl ?_
  refine T.cd rfl (fun h1 => ?_) (fun h1 => ?_)
  · have h1 : i < d.length := by simpa using h1
    have hx := hd d[i] (List.getElem_mem h1)
    repeat' first | refine T.seq ?_ | refine T.block ?_ | refine T.r ?_ | refine J.e rfl rfl rfl rfl ?_ | refine J.nil ?_ | refine J.skip rfl rfl rfl ?_ | refine T.skip ?_ | refine T.exit ?_ | refine T.ret ?_ | refine T.rd rfl (by kernel_rfl) ?_ | refine J.bx rfl rfl rfl rfl rfl rfl ?_
    refine J.i rfl rfl rfl rfl rfl rfl rfl rfl rfl (r := cD d[i]) (by omega) (row_i h1) rfl ?_
    repeat' first | refine T.seq ?_ | refine T.block ?_ | refine T.r ?_ | refine J.e rfl rfl rfl rfl ?_ | refine J.nil ?_ | refine J.skip rfl rfl rfl ?_ | refine T.skip ?_ | refine T.exit ?_ | refine T.ret ?_ | refine T.rd rfl (by kernel_rfl) ?_ | refine J.bx rfl rfl rfl rfl rfl rfl ?_
    refine J.cc rfl rfl rfl rfl rfl (values_spec d[i] hx.1 (by have := hx.2.1; omega) hx.2.2) rfl rfl ?_
    repeat' first | refine T.seq ?_ | refine T.block ?_ | refine T.r ?_ | refine J.e rfl rfl rfl rfl ?_ | refine J.nil ?_ | refine J.skip rfl rfl rfl ?_ | refine T.skip ?_ | refine T.exit ?_ | refine T.ret ?_ | refine T.rd rfl (by kernel_rfl) ?_ | refine J.bx rfl rfl rfl rfl rfl rfl ?_
    refine T.cd rfl (fun h2 => ?_) (fun h2 => ?_)
    · have hev : emptyV d = true := by
        refine List.any_eq_true.2 ⟨d[i], List.getElem_mem h1, ?_⟩
        simp at h2
        simp [h2]
      repeat' first | refine T.seq ?_ | refine T.block ?_ | refine T.r ?_ | refine J.e rfl rfl rfl rfl ?_ | refine J.nil ?_ | refine J.skip rfl rfl rfl ?_ | refine T.skip ?_ | refine T.exit ?_ | refine T.ret ?_ | refine T.rd rfl (by kernel_rfl) ?_ | refine J.bx rfl rfl rfl rfl rfl rfl ?_
      refine J.bo rfl rfl rfl rfl rfl rfl rfl rfl rfl rfl rfl rfl ?_
      repeat' first | refine T.seq ?_ | refine T.block ?_ | refine T.r ?_ | refine J.e rfl rfl rfl rfl ?_ | refine J.nil ?_ | refine J.skip rfl rfl rfl ?_ | refine T.skip ?_ | refine T.exit ?_ | refine T.ret ?_ | refine T.rd rfl (by kernel_rfl) ?_ | refine J.bx rfl rfl rfl rfl rfl rfl ?_
      exact ⟨_, .o rfl rfl (by rw [hev]; rfl) (fun _ => .inl rfl) (by simp) (.v rfl rfl (by rw [hev]; rfl) (fun _ => rfl) .nil)⟩
    · have hne : 0 < (vals d[i]).length := by
        have h2 : ¬ (((vals d[i]).map cI).length : Int) = 0 := h2
        simp only [List.length_map] at h2; omega
      have hgd : d.getD i [] = d[i] := by simp [List.getD_eq_getElem?_getD, List.getElem?_eq_getElem h1]
      have he' : emptyV (d.take (i + 1)) = false := by
        simp only [emptyV] at he ⊢
        rw [List.take_succ_eq_append_getElem h1, List.any_append, he]
        cases hv : vals d[i] with
        | nil => rw [hv] at hne; simp at hne
        | cons x l => simp [hv]
      have hn := pickN_pos a i
      obtain ⟨hm1, hm2⟩ := tmod_in hn hne
      have key : ∀ n : Int, n = pickN a i → (vals d[i])[(n.tmod (vals d[i]).length).toNat]? = some (pickAt d a i) := by
        rintro n rfl
        unfold pickAt
        rw [hgd, List.getD_eq_getElem?_getD, List.getElem?_eq_getElem hm2]; rfl
      have e : (List.range i).map (pickAt d a) ++ [pickAt d a i] = (List.range (i + 1)).map (pickAt d a) := by simp [List.range_succ]
      refine T.skip ?_
      refine T.seq ?_
      refine T.r ?_
      repeat' first | refine J.e rfl rfl rfl rfl ?_ | refine J.skip rfl rfl rfl ?_ | refine J.bx rfl rfl rfl rfl rfl rfl ?_
      refine J.nil ?_
      refine T.mid ⟨[(0, .val false (doms d)), (1, .val false (ints a)), (4, .nilsl), (5, .val true (.bool false)), (6, .ref 0), (7, .val true (.int .i64 i)), (8, .ref 1), (9, .val true (.int .i64 (pickN a i)))], [(0, some (.sl 3 1 true (((List.range i).map (pickAt d a)).map cI))), (1, some (.sl 3 1 true ((vals d[i]).map cI)))], 2⟩ ?_ ?_
      · repeat' first | refine T.seq ?_ | refine T.block ?_ | refine T.r ?_ | refine J.e rfl rfl rfl rfl ?_ | refine J.nil ?_ | refine J.skip rfl rfl rfl ?_ | refine T.skip ?_ | refine T.exit ?_ | refine T.ret ?_ | refine T.rd rfl (by kernel_rfl) ?_ | refine J.bx rfl rfl rfl rfl rfl rfl ?_
        refine T.cd rfl (fun h3 => ?_) (fun h3 => ?_)
        · have h3 : i < a.length := by simpa using h3
          have hpn : pickN a i = andN a[i] := by
            unfold pickN
            rw [if_pos h3, List.getD_eq_getElem?_getD, List.getElem?_eq_getElem h3]; rfl
          rw [hpn]
          repeat' first | refine T.seq ?_ | refine T.block ?_ | refine T.r ?_ | refine J.e rfl rfl rfl rfl ?_ | refine J.nil ?_ | refine J.skip rfl rfl rfl ?_ | refine T.skip ?_ | refine T.exit ?_ | refine T.ret ?_ | refine T.rd rfl (by kernel_rfl) ?_ | refine J.bx rfl rfl rfl rfl rfl rfl ?_
          refine J.i rfl rfl rfl rfl rfl rfl rfl rfl rfl (r := cI a[i]) (by omega) (row_i h3) rfl ?_
          repeat' first | refine T.seq ?_ | refine T.block ?_ | refine T.r ?_ | refine J.e rfl rfl rfl rfl ?_ | refine J.nil ?_ | refine J.skip rfl rfl rfl ?_ | refine T.skip ?_ | refine T.exit ?_ | refine T.ret ?_ | refine T.rd rfl (by kernel_rfl) ?_ | refine J.bx rfl rfl rfl rfl rfl rfl ?_
          exact ⟨rfl, [0, 1, 4, 5, 6, 7, 8, 9], [6, 8], rfl, rfl⟩
        · have hpn : pickN a i = i := by
            unfold pickN
            rw [if_neg (by simpa using h3)]
          rw [hpn]
          repeat' first | refine T.seq ?_ | refine T.block ?_ | refine T.r ?_ | refine J.e rfl rfl rfl rfl ?_ | refine J.nil ?_ | refine J.skip rfl rfl rfl ?_ | refine T.skip ?_ | refine T.exit ?_ | refine T.ret ?_ | refine T.rd rfl (by kernel_rfl) ?_ | refine J.bx rfl rfl rfl rfl rfl rfl ?_
          exact ⟨rfl, [0, 1, 4, 5, 6, 7, 8, 9], [6, 8], rfl, rfl⟩
      · repeat' first | refine T.seq ?_ | refine T.block ?_ | refine T.r ?_ | refine J.e rfl rfl rfl rfl ?_ | refine J.nil ?_ | refine J.skip rfl rfl rfl ?_ | refine T.skip ?_ | refine T.exit ?_ | refine T.ret ?_ | refine T.rd rfl (by kernel_rfl) ?_ | refine J.bx rfl rfl rfl rfl rfl rfl ?_
        refine J.rm rfl rfl rfl rfl rfl rfl (fun h => by simp only [List.length_map] at h; omega) ?_
        rw [List.length_map]
        refine J.io rfl rfl rfl rfl rfl rfl rfl rfl rfl hm1 (by simpa using hm2) rfl ?_
        refine J.lo rfl rfl rfl rfl rfl rfl (r := cI (pickAt d a i)) (by rw [List.getElem?_map, key _ rfl]; rfl) rfl ?_
        repeat' first | refine T.seq ?_ | refine T.block ?_ | refine T.r ?_ | refine J.e rfl rfl rfl rfl ?_ | refine J.nil ?_ | refine J.skip rfl rfl rfl ?_ | refine T.skip ?_ | refine T.exit ?_ | refine T.ret ?_ | refine T.rd rfl (by kernel_rfl) ?_ | refine J.bx rfl rfl rfl rfl rfl rfl ?_
        refine J.bv rfl rfl rfl rfl rfl rfl rfl rfl rfl rfl rfl rfl ?_
        refine J.aI rfl rfl rfl rfl rfl rfl rfl rfl rfl rfl rfl rfl rfl rfl rfl rfl rfl rfl rfl (by simp; omega) ?_
        repeat' first | refine T.seq ?_ | refine T.block ?_ | refine T.r ?_ | refine J.e rfl rfl rfl rfl ?_ | refine J.nil ?_ | refine J.skip rfl rfl rfl ?_ | refine T.skip ?_ | refine T.exit ?_ | refine T.ret ?_ | refine T.rd rfl (by kernel_rfl) ?_ | refine J.bx rfl rfl rfl rfl rfl rfl ?_
        rw [wrap1 (l := d.length) (by omega) (by omega), e]
        exact T.canon (keep := [0, 1, 4, 5, 6, 7]) (os := [6]) rfl (ih (i + 1) ⟨by omega, he'⟩ (by omega))
  · have h1 : i = d.length := by simp at h1; omega
    subst h1
    rw [List.take_length] at he
    repeat' first | refine T.seq ?_ | refine T.block ?_ | refine T.r ?_ | refine J.e rfl rfl rfl rfl ?_ | refine J.nil ?_ | refine J.skip rfl rfl rfl ?_ | refine T.skip ?_ | refine T.exit ?_ | refine T.ret ?_ | refine T.rd rfl (by kernel_rfl) ?_ | refine J.bx rfl rfl rfl rfl rfl rfl ?_
    exact ⟨_, .o rfl rfl (by rw [he]; rfl) (fun _ => .inl rfl) (by simp) (.v rfl rfl (by rw [he]; rfl) (fun _ => rfl) .nil)⟩
end Go.Proofs.Ytchajofdjeijfaa
/-! Plain laws: domains, their values, packed. -/
namespace Go.Proofs.Ytchajofdjeijfaa
open Go Go.RowKit
set_option linter.unusedVariables false

/-- A right domain: ranges, rising, with a gap between. -/
def DomOk (d : List (Int × Int)) : Prop := (∀ r ∈ d, r.1 ≤ r.2) ∧ d.Pairwise fun r s => r.2 + 2 ≤ s.1
def Up (l : List Int) : Prop := l.Pairwise (· < ·)

theorem mem_rng {lo hi v : Int} : v ∈ rng lo hi ↔ lo ≤ v ∧ v ≤ hi := by
  simp only [rng, List.mem_map, List.mem_range]
  constructor
  · rintro ⟨k, hk, rfl⟩; omega
  · intro h; exact ⟨(v - lo).toNat, by omega, by omega⟩
theorem mem_vals {d : List (Int × Int)} {v : Int} : v ∈ vals d ↔ ∃ r ∈ d, r.1 ≤ v ∧ v ≤ r.2 := by
  simp only [vals, List.mem_flatMap, mem_rng]
theorem rng_snoc {lo x : Int} (h : lo ≤ x + 1) : rng lo (x + 1) = rng lo x ++ [x + 1] := by
  unfold rng
  rw [show (x + 1 + 1 - lo).toNat = (x + 1 - lo).toNat + 1 by omega, List.range_succ, List.map_append]
  simp; omega
theorem rng_self (x : Int) : rng x x = [x] := by
  unfold rng
  rw [show (x + 1 - x).toNat = 1 by omega]
  simp [List.range_succ]
theorem rng_cons {lo hi : Int} (h : lo ≤ hi) : rng lo hi = lo :: rng (lo + 1) hi := by
  unfold rng
  rw [show (hi + 1 - lo).toNat = (hi + 1 - (lo + 1)).toNat + 1 by omega, List.range_succ_eq_map, List.map_cons, List.map_map]
  simp only [Int.natCast_zero, Int.add_zero, List.cons.injEq, true_and]
  apply List.map_congr_left
  intro a _
  simp; omega
theorem rng_none {lo hi : Int} (h : hi < lo) : rng lo hi = [] := by
  unfold rng
  rw [show (hi + 1 - lo).toNat = 0 by omega]; rfl
theorem rng_up (lo hi : Int) : Up (rng lo hi) := by
  unfold Up rng
  rw [List.pairwise_map]
  exact List.pairwise_lt_range.imp fun h => by omega
theorem DomOk.tail {r : Int × Int} {d : List (Int × Int)} (h : DomOk (r :: d)) : DomOk d := ⟨fun s hs => h.1 s (.tail _ hs), (List.pairwise_cons.1 h.2).2⟩
theorem vals_cons (r : Int × Int) (d : List (Int × Int)) : vals (r :: d) = rng r.1 r.2 ++ vals d := rfl
theorem vals_up : ∀ {d : List (Int × Int)}, DomOk d → Up (vals d)
  | [], _ => .nil
  | r :: d, h => by
    rw [vals_cons]
    refine List.pairwise_append.2 ⟨rng_up _ _, vals_up h.tail, fun a ha b hb => ?_⟩
    obtain ⟨s, hs, h1, h2⟩ := mem_vals.1 hb
    have := (mem_rng.1 ha).2
    have := (List.pairwise_cons.1 h.2).1 s hs
    omega

theorem vals_packF : ∀ (l : List Int) (lo x : Int), lo ≤ x → Up (x :: l) → vals (packF lo x l) = rng lo x ++ l
  | [], lo, x, _, _ => by simp [packF, vals]
  | y :: l, lo, x, hlo, hu => by
    have h1 := List.pairwise_cons.1 hu
    have hxy := h1.1 y (.head _)
    simp only [packF]
    split
    · rename_i e
      rw [vals_packF l lo y (by omega) h1.2, e, rng_snoc (by omega)]
      simp
    · rw [vals_cons, vals_packF l y y (Int.le_refl _) h1.2, rng_self]
      simp
theorem vals_pack {l : List Int} (h : Up l) : vals (pack l) = l := by
  cases l with
  | nil => rfl
  | cons x l => rw [pack, vals_packF l x x (Int.le_refl _) h, rng_self]; rfl
theorem packF_ok : ∀ (l : List Int) (lo x : Int), lo ≤ x → Up (x :: l) → DomOk (packF lo x l) ∧ ∀ r ∈ packF lo x l, lo ≤ r.1
  | [], lo, x, h, _ => by simp [packF, DomOk, h]
  | y :: l, lo, x, hlo, hu => by
    have h1 := List.pairwise_cons.1 hu
    have hxy := h1.1 y (.head _)
    simp only [packF]
    split
    · exact packF_ok l lo y (by omega) h1.2
    · obtain ⟨h2, h3⟩ := packF_ok l y y (Int.le_refl _) h1.2
      refine ⟨⟨fun r hr => ?_, List.pairwise_cons.2 ⟨fun r hr => ?_, h2.2⟩⟩, fun r hr => ?_⟩
      · rcases List.mem_cons.1 hr with rfl | hr
        · exact hlo
        · exact h2.1 r hr
      · have := h3 r hr
        simp only; omega
      · rcases List.mem_cons.1 hr with rfl | hr
        · exact Int.le_refl _
        · have := h3 r hr; omega
theorem pack_ok {l : List Int} (h : Up l) : DomOk (pack l) := by
  cases l with
  | nil => exact ⟨by simp [pack], .nil⟩
  | cons x l => exact (packF_ok l x x (Int.le_refl _) h).1

theorem packF_run : ∀ (n : Nat) (lo x hi : Int) (l : List Int), hi = x + n → (∀ y ∈ l.head?, hi + 2 ≤ y) → packF lo x (rng (x + 1) hi ++ l) = (lo, hi) :: pack l
  | 0, lo, x, hi, l, e, h => by
    have : hi = x := by omega
    subst this
    rw [rng_none (by omega), List.nil_append]
    cases l with
    | nil => rfl
    | cons y l =>
      have := h y rfl
      simp only [packF]
      rw [if_neg (by omega)]
      rfl
  | n + 1, lo, x, hi, l, e, h => by
    rw [rng_cons (by omega), List.cons_append, packF, if_pos rfl]
    exact packF_run n lo (x + 1) hi l (by omega) h
theorem pack_vals : ∀ {d : List (Int × Int)}, DomOk d → pack (vals d) = d
  | [], _ => rfl
  | r :: d, h => by
    have hr := h.1 r (.head _)
    rw [vals_cons, rng_cons hr, List.cons_append, pack, packF_run (r.2 - r.1).toNat r.1 r.1 r.2 (vals d) (by omega) ?_, pack_vals h.tail]
    intro y hy
    have hm : y ∈ vals d := List.mem_of_mem_head? hy
    obtain ⟨s, hs, h1, h2⟩ := mem_vals.1 hm
    have := (List.pairwise_cons.1 h.2).1 s hs
    omega
theorem dom_ext {d d' : List (Int × Int)} (h : DomOk d) (h' : DomOk d') (e : vals d = vals d') : d = d' := by
  rw [← pack_vals h, ← pack_vals h', e]

theorem insS_up {v : Int} : ∀ {l : List Int}, Up l → v ∉ l → Up (insS v l)
  | [], _, _ => by simp [insS, Up]
  | x :: l, h, hn => by
    have h1 := List.pairwise_cons.1 h
    simp only [insS]
    split
    · refine List.pairwise_cons.2 ⟨fun y hy => ?_, h⟩
      rcases List.mem_cons.1 hy with rfl | hy
      · assumption
      · have := h1.1 y hy; omega
    · refine List.pairwise_cons.2 ⟨fun y hy => ?_, insS_up h1.2 fun h => hn (.tail _ h)⟩
      have hm : y ∈ insU v l := by unfold insU; rw [if_neg (show ¬ v ∈ l from fun h => hn (.tail _ h))]; exact hy
      rcases (insU_mem v y l).1 hm with rfl | hy
      · have : y ≠ x := fun e => hn (e ▸ .head _)
        omega
      · exact h1.1 y hy
theorem insU_up {v : Int} {l : List Int} (h : Up l) : Up (insU v l) := by
  unfold insU; split
  · exact h
  · rename_i hn; exact insS_up h hn
theorem sortU_up (l : List Int) : Up (sortU l) := by
  have key : ∀ (l out : List Int), Up out → Up (l.foldl (fun out v => insU v out) out) := by
    intro l
    induction l with
    | nil => intro out h; exact h
    | cons v l ih => intro out h; exact ih _ (insU_up h)
  exact key l [] .nil

theorem filter_up {l : List Int} {p : Int → Bool} (h : Up l) : Up (l.filter p) := List.Pairwise.sublist List.filter_sublist h
theorem up_nodup {l : List Int} (h : Up l) : l.Nodup := h.imp fun h => Int.ne_of_lt h

/-- Ends. -/
theorem vals_ne {d : List (Int × Int)} (h : DomOk d) : vals d = [] ↔ d = [] := by
  cases d with
  | nil => simp [vals]
  | cons r d =>
    rw [vals_cons, rng_cons (h.1 r (.head _))]
    simp
theorem vals_head {r : Int × Int} {d : List (Int × Int)} (h : DomOk (r :: d)) : ∃ l, vals (r :: d) = r.1 :: l := by
  rw [vals_cons, rng_cons (h.1 r (.head _))]
  exact ⟨_, rfl⟩
theorem vals_last {d : List (Int × Int)} (h : DomOk d) (hne : d ≠ []) : (vals d).getLast? = some (lastR d) := by
  obtain ⟨d', r, rfl⟩ : ∃ d' r, d = d' ++ [r] := ⟨d.dropLast, d.getLast hne, (List.dropLast_concat_getLast hne).symm⟩
  have hr := h.1 r (by simp)
  have e : vals (d' ++ [r]) = vals d' ++ rng r.1 r.2 := by simp [vals]
  rw [e]
  have e2 : rng r.1 r.2 = rng r.1 (r.2 - 1) ++ [r.2] := by
    have := rng_snoc (lo := r.1) (x := r.2 - 1) (by omega)
    rwa [show r.2 - 1 + 1 = r.2 by omega] at this
  rw [e2, ← List.append_assoc]
  simp [lastR]
theorem endsR_eq {d : List (Int × Int)} (h : DomOk d) (hne : d ≠ []) : endsR d = (leastR d, lastR d, true) := by
  cases d with
  | nil => exact absurd rfl hne
  | cons r d =>
    obtain ⟨l, hl⟩ := vals_head h
    have hlast := vals_last h hne
    unfold endsR
    split
    · rename_i e; rw [hl] at e; cases e
    · rename_i x l' e
      rw [hl] at e
      obtain ⟨rfl, rfl⟩ := List.cons.inj e
      rw [hl, List.getLast?_eq_some_getLast (by simp)] at hlast
      simp only [Option.some.injEq] at hlast
      rw [hlast]
      rfl
theorem least_mem {d : List (Int × Int)} (h : DomOk d) (hne : d ≠ []) : leastR d ∈ vals d := by
  cases d with
  | nil => exact absurd rfl hne
  | cons r d => obtain ⟨l, hl⟩ := vals_head h; rw [hl]; exact .head _
theorem last_mem {d : List (Int × Int)} (h : DomOk d) (hne : d ≠ []) : lastR d ∈ vals d := List.mem_of_getLast? (vals_last h hne)
theorem least_le {d : List (Int × Int)} (h : DomOk d) {v : Int} (hv : v ∈ vals d) : leastR d ≤ v := by
  cases d with
  | nil => simp [vals] at hv
  | cons r d =>
    obtain ⟨l, hl⟩ := vals_head h
    have hu := vals_up h
    rw [hl] at hu hv
    rcases List.mem_cons.1 hv with rfl | hv
    · exact Int.le_refl _
    · exact Int.le_of_lt ((List.pairwise_cons.1 hu).1 v hv)
theorem le_last {d : List (Int × Int)} (h : DomOk d) {v : Int} (hv : v ∈ vals d) : v ≤ lastR d := by
  have hne : d ≠ [] := fun e => by rw [e] at hv; simp [vals] at hv
  have hu := vals_up h
  obtain ⟨l, hl⟩ : ∃ l, vals d = l ++ [lastR d] := by
    have := vals_last h hne
    obtain ⟨l, hl⟩ := List.getLast?_eq_some_iff.1 this
    exact ⟨l, hl⟩
  rw [hl] at hu hv
  rcases List.mem_append.1 hv with hv | hv
  · exact Int.le_of_lt ((List.pairwise_append.1 hu).2.2 v hv _ (by simp))
  · simp at hv; omega

theorem up_ext : ∀ {l l' : List Int}, Up l → Up l' → (∀ v, v ∈ l ↔ v ∈ l') → l = l'
  | [], [], _, _, _ => rfl
  | [], y :: l', _, _, h => by have := (h y).2 (.head _); cases this
  | x :: l, [], _, _, h => by have := (h x).1 (.head _); cases this
  | x :: l, y :: l', h1, h2, h => by
    have a1 := List.pairwise_cons.1 h1
    have a2 := List.pairwise_cons.1 h2
    have e : x = y := by
      rcases List.mem_cons.1 ((h x).1 (.head _)) with e | e
      · exact e
      · rcases List.mem_cons.1 ((h y).2 (.head _)) with e2 | e2
        · exact e2.symm
        · have := a2.1 x e; have := a1.1 y e2; omega
    subst e
    congr 1
    refine up_ext a1.2 a2.2 fun v => ⟨fun hv => ?_, fun hv => ?_⟩
    · rcases List.mem_cons.1 ((h v).1 (.tail _ hv)) with rfl | h3
      · have := a1.1 v hv; omega
      · exact h3
    · rcases List.mem_cons.1 ((h v).2 (.tail _ hv)) with rfl | h3
      · have := a2.1 v hv; omega
      · exact h3

/-- What is cut out. -/
theorem meet1_ok {lo hi : Int} : ∀ {d : List (Int × Int)}, DomOk d → DomOk (meetR d [(lo, hi)]) ∧ (∀ r ∈ meetR d [(lo, hi)], ∃ s ∈ d, s.1 ≤ r.1 ∧ r.2 ≤ s.2) ∧ ∀ v, v ∈ vals (meetR d [(lo, hi)]) ↔ v ∈ vals d ∧ lo ≤ v ∧ v ≤ hi
  | [], _ => by rw [meetR_l]; exact ⟨⟨by simp, .nil⟩, by simp, by simp [vals]⟩
  | x :: d, h => by
    obtain ⟨h1, h2, h3⟩ := meet1_ok (lo := lo) (hi := hi) h.tail
    have hx := h.1 x (.head _)
    have hp := (List.pairwise_cons.1 h.2).1
    have hvd : ∀ v ∈ vals d, x.2 + 2 ≤ v := fun v hv => by
      obtain ⟨s, hs, h4, h5⟩ := mem_vals.1 hv
      have := hp s hs; omega
    rw [meetR_cons, meetR_r]
    have tailOk : DomOk (if x.2 < hi then meetR d [(lo, hi)] else []) ∧ (∀ r ∈ (if x.2 < hi then meetR d [(lo, hi)] else []), ∃ s ∈ d, s.1 ≤ r.1 ∧ r.2 ≤ s.2) ∧ ∀ v, v ∈ vals (if x.2 < hi then meetR d [(lo, hi)] else []) ↔ v ∈ vals d ∧ lo ≤ v ∧ v ≤ hi := by
      split
      · exact ⟨h1, h2, h3⟩
      · refine ⟨⟨by simp, .nil⟩, by simp, fun v => ⟨fun h => by simp [vals] at h, fun h => ?_⟩⟩
        have := hvd v h.1; omega
    generalize (if x.2 < hi then meetR d [(lo, hi)] else []) = t at *
    obtain ⟨t1, t2, t3⟩ := tailOk
    split
    · rename_i hc
      refine ⟨⟨fun r hr => ?_, ?_⟩, fun r hr => ?_, fun v => ?_⟩
      · rcases List.mem_cons.1 hr with rfl | hr
        · exact hc
        · exact t1.1 r hr
      · refine List.pairwise_cons.2 ⟨fun r hr => ?_, t1.2⟩
        obtain ⟨s, hs, h5, h6⟩ := t2 r hr
        have := hp s hs
        simp only; omega
      · rcases List.mem_cons.1 hr with rfl | hr
        · exact ⟨x, .head _, by simp only; omega, by simp only; omega⟩
        · obtain ⟨s, hs, h5, h6⟩ := t2 r hr
          exact ⟨s, .tail _ hs, h5, h6⟩
      · rw [List.singleton_append, vals_cons, vals_cons, List.mem_append, List.mem_append, mem_rng, mem_rng, t3]
        constructor
        · rintro (h7 | h7)
          · exact ⟨.inl (by omega), by omega, by omega⟩
          · exact ⟨.inr h7.1, h7.2⟩
        · rintro ⟨h7 | h7, h8⟩
          · exact .inl (by simp only; omega)
          · exact .inr ⟨h7, h8⟩
    · rename_i hc
      rw [List.nil_append]
      refine ⟨t1, fun r hr => ?_, fun v => ?_⟩
      · obtain ⟨s, hs, h5, h6⟩ := t2 r hr
        exact ⟨s, .tail _ hs, h5, h6⟩
      · rw [vals_cons, List.mem_append, mem_rng, t3]
        constructor
        · exact fun h7 => ⟨.inr h7.1, h7.2⟩
        · rintro ⟨h7 | h7, h8⟩
          · omega
          · exact ⟨h7, h8⟩
theorem domCut_ok {d : List (Int × Int)} (h : DomOk d) (lo hi : Int) : DomOk (domCut d lo hi) ∧ ∀ v, v ∈ vals (domCut d lo hi) ↔ v ∈ vals d ∧ lo ≤ v ∧ v ≤ hi := by
  unfold domCut
  split
  · exact ⟨⟨by simp, .nil⟩, fun v => ⟨fun h => by simp [vals] at h, fun h => by omega⟩⟩
  · exact ⟨(meet1_ok h).1, (meet1_ok h).2.2⟩
theorem cutR_ok {d : List (Int × Int)} (h : DomOk d) (lo hi : Int) : DomOk (cutR d lo hi) ∧ ∀ v, v ∈ vals (cutR d lo hi) ↔ v ∈ vals d ∧ lo ≤ v ∧ v ≤ hi := by
  have hu := filter_up (p := fun v => decide (lo ≤ v) && decide (v ≤ hi)) (vals_up h)
  exact ⟨pack_ok hu, fun v => by rw [cutR, vals_pack hu]; simp⟩
theorem cut_eq {d : List (Int × Int)} (h : DomOk d) {lo hi lo' hi' : Int} (he : ∀ v ∈ vals d, (lo ≤ v ∧ v ≤ hi ↔ lo' ≤ v ∧ v ≤ hi')) : domCut d lo hi = cutR d lo' hi' := by
  obtain ⟨h1, h2⟩ := domCut_ok h lo hi
  obtain ⟨h3, h4⟩ := cutR_ok h lo' hi'
  refine dom_ext h1 h3 (up_ext (vals_up h1) (vals_up h3) fun v => ?_)
  rw [h2, h4]
  exact ⟨fun ⟨a, b⟩ => ⟨a, (he v a).1 b⟩, fun ⟨a, b⟩ => ⟨a, (he v a).2 b⟩⟩

/-- Of one value. -/
theorem one_iff {d : List (Int × Int)} (h : DomOk d) : (vals d).length = 1 ↔ ∃ x, d = [(x, x)] := by
  constructor
  · intro hl
    obtain ⟨x, hx⟩ := List.length_eq_one_iff.1 hl
    exact ⟨x, by rw [← pack_vals h, hx]; rfl⟩
  · rintro ⟨x, rfl⟩
    rw [vals_cons, rng_self]; rfl
theorem known_iff {d : List (Int × Int)} (h : DomOk d) : (d ≠ [] ∧ leastR d = lastR d) ↔ ∃ x, d = [(x, x)] := by
  constructor
  · rintro ⟨hne, he⟩
    refine (one_iff h).1 ?_
    have hu := vals_up h
    have hm := least_mem h hne
    cases hv : vals d with
    | nil => rw [hv] at hm; cases hm
    | cons y l =>
      cases l with
      | nil => rfl
      | cons z l =>
        have h1 := least_le h (v := y) (by rw [hv]; simp)
        have h2 := le_last h (v := z) (by rw [hv]; simp)
        rw [hv] at hu
        have := (List.pairwise_cons.1 hu).1 z (by simp)
        omega
  · rintro ⟨x, rfl⟩
    exact ⟨by simp, rfl⟩
theorem knownB_iff {a b : Int} {da db : List (Int × Int)} (ha : DomOk da) (hb : DomOk db) : knownB a b da db = true ↔ a = b ∨ ((vals da).length = 1 ∧ da = db) := by
  simp only [knownB, Bool.or_eq_true, Bool.and_eq_true, decide_eq_true_eq, ofD, Prod.mk.injEq]
  refine or_congr_right ⟨?_, ?_⟩
  · rintro ⟨⟨⟨h1, h2⟩, h3⟩, h4, h5⟩
    obtain ⟨x, rfl⟩ := (known_iff ha).1 ⟨List.ne_nil_of_length_pos h1, h3⟩
    obtain ⟨y, rfl⟩ := (known_iff hb).1 ⟨List.ne_nil_of_length_pos h2, by omega⟩
    refine ⟨(one_iff ha).2 ⟨x, rfl⟩, ?_⟩
    have : x = y := h4
    rw [this]
  · rintro ⟨h1, rfl⟩
    obtain ⟨x, rfl⟩ := (one_iff ha).1 h1
    exact ⟨⟨⟨by simp, by simp⟩, rfl⟩, rfl, rfl⟩
theorem known_eq {a b : Int} {da db : List (Int × Int)} (ha : DomOk da) (hb : DomOk db) : knownB a b da db = knownR a b da db := by
  rw [Bool.eq_iff_iff, knownB_iff ha hb]
  simp only [knownR, Bool.or_eq_true, Bool.and_eq_true, decide_eq_true_eq]
  refine or_congr_right (and_congr_right fun _ => ⟨fun e => by rw [e], fun e => dom_ext ha hb e⟩)
end Go.Proofs.Ytchajofdjeijfaa
/-! Plain laws: the domains of a case. -/
namespace Go.Proofs.Ytchajofdjeijfaa
open Go Go.RowKit
set_option linter.unusedVariables false

theorem smallR_ok (l : List Int) : DomOk (smallR l) ∧ (∀ v ∈ vals (smallR l), -200 ≤ v ∧ v ≤ 200) ∧ (vals (smallR l)).length ≤ 30 := by
  have hm : ∀ v ∈ (l.take 30).map (fun v => v.tmod 201), -200 ≤ v ∧ v ≤ 200 := by
    intro v hv
    obtain ⟨w, _, rfl⟩ := List.mem_map.1 hv
    have h1 := Int.tmod_lt_of_pos w (show (0 : Int) < 201 by decide)
    have h2 := Int.lt_tmod_of_pos w (show (0 : Int) < 201 by decide)
    omega
  have h0 : ((l.take 30).map fun v => v.tmod 201).length ≤ 30 := by simp; omega
  have h1 := sortU_length ((l.take 30).map fun v => v.tmod 201)
  have hok : okV ((l.take 30).map fun v => v.tmod 201) = true := by
    simp only [okV, List.all_eq_true]
    intro v hv
    have := hm v hv
    simp [valueB]; omega
  have hu := sortU_up ((l.take 30).map fun v => v.tmod 201)
  have e : smallR l = pack (sortU ((l.take 30).map fun v => v.tmod 201)) := by
    unfold smallR ofR
    rw [if_pos hok, if_neg (by omega)]
  rw [e, vals_pack hu]
  exact ⟨pack_ok hu, fun v hv => hm v ((sortU_mem v _).1 hv), by omega⟩

theorem dom_inB {d : List (Int × Int)} (h : DomOk d) (hv : ∀ v ∈ vals d, -1048576 ≤ v ∧ v ≤ 1048576) : InB d := by
  intro r hr
  have h1 := h.1 r hr
  have h2 := hv r.1 (mem_vals.2 ⟨r, hr, Int.le_refl _, h1⟩)
  have h3 := hv r.2 (mem_vals.2 ⟨r, hr, h1, Int.le_refl _⟩)
  omega
theorem dom_length_le : ∀ {d : List (Int × Int)}, DomOk d → d.length ≤ (vals d).length
  | [], _ => by simp
  | r :: d, h => by
    have := dom_length_le h.tail
    have hr := h.1 r (.head _)
    rw [vals_cons, rng_cons hr]
    simp only [List.length_cons, List.length_append]; omega
/-- Domains that all contracts let in. -/
structure Fine (d : List (Int × Int)) : Prop where
  ok : DomOk d
  val : ∀ v ∈ vals d, -1048576 ≤ v ∧ v ≤ 1048576
  few : (vals d).length * 16 + 1048576 ≤ 140737488355328
theorem Fine.domB {d : List (Int × Int)} (h : Fine d) : DomB d := ⟨dom_inB h.ok h.val, by have := h.few; omega, by have := h.few; have := dom_length_le h.ok; omega⟩
theorem Fine.len {d : List (Int × Int)} (h : Fine d) : d.length * 16 + 1048576 ≤ 140737488355328 := by have := h.few; have := dom_length_le h.ok; omega
theorem up_length_le {l l' : List Int} (h : Up l) (hs : ∀ v ∈ l, v ∈ l') : l.length ≤ l'.length := (up_nodup h).length_le_of_subset hs
theorem Fine.cut {d d' : List (Int × Int)} (h : Fine d) (h' : DomOk d') (hs : ∀ v ∈ vals d', v ∈ vals d) : Fine d' :=
  ⟨h', fun v hv => h.val v (hs v hv), by have := h.few; have := up_length_le (vals_up h') hs; omega⟩
theorem small_fine (l : List Int) : Fine (smallR l) := by
  obtain ⟨h1, h2, h3⟩ := smallR_ok l
  exact ⟨h1, fun v hv => by have := h2 v hv; omega, by omega⟩
theorem laid_fine (o : Case) : ∀ x ∈ laidD o, Fine x := by
  intro x hx
  obtain ⟨y, _, rfl⟩ := List.mem_map.1 hx
  exact small_fine _
theorem laid_len (o : Case) : (laidD o).length ≤ 4 := by simp [laidD]; omega

theorem placeF_before {p : Nat → Bool} {h j : Nat} (hj : j < placeF p h) : p j = true := by
  unfold placeF at hj
  cases hf : (List.range h).find? (fun k => !p k) with
  | none =>
    rw [hf] at hj
    have := List.find?_eq_none.1 hf j (List.mem_range.2 (by simpa using hj))
    simpa using this
  | some k =>
    rw [hf] at hj
    have := (List.find?_range_eq_some.1 hf).2.2 j (by simpa using hj)
    simpa using this
theorem placeF_here {p : Nat → Bool} {h : Nat} (hlt : placeF p h < h) : p (placeF p h) = false := by
  unfold placeF at hlt ⊢
  cases hf : (List.range h).find? (fun k => !p k) with
  | none => rw [hf] at hlt; simp at hlt
  | some k =>
    have := (List.find?_range_eq_some.1 hf).1
    simpa using this

/-- What a right constraint of a case is. -/
theorem con_in {d : Doms} {c : Con} (hc : ConB c) (h : conR d c = 0) : VarsIn d c ∧ rightR d c = true := by
  unfold conR at h
  split at h
  · cases h
  · split at h
    · cases h
    · rename_i hu
      split at h
      · cases h
      · rename_i hr
        exact ⟨(uses_in hc (by simpa using hu)).1, by simpa using hr⟩
theorem lex_in {d : Doms} {c : Con} (hc : ConB c) (h : conR d c = 0) (hk : c.kind = 6) : VarsIn d c ∧ 2 ≤ c.vars.length ∧ c.vars.length % 2 = 0 := by
  obtain ⟨h1, h2⟩ := con_in hc h
  refine ⟨h1, ?_⟩
  simp [rightR, hk] at h2
  exact ⟨h2.1.2, h2.2⟩
theorem laid_conB {o : Case} (h : CaseB o) (kind : Int) : ConB (laidC o kind) :=
  ⟨h.1.1, h.1.2.1, by simp [laidC]; have := h.1.2.2.1; omega, fun x hx => h.1.2.2.2 x (List.mem_of_mem_take hx)⟩
end Go.Proofs.Ytchajofdjeijfaa
/-! Plain laws: steps that come to an end; what the program's pruner of two lists leaves. -/
namespace Go.Proofs.Ytchajofdjeijfaa
open Go Go.RowKit
set_option linter.unusedVariables false

theorem iter_ex {α β : Type} {step : α → β ⊕ α} (Inv : α → Prop) (μ : α → Nat) (h : ∀ x y, Inv x → step x = .inr y → Inv y ∧ μ y < μ x) : ∀ x, Inv x → ∃ N R, iter step N x = some R := by
  have key : ∀ n x, μ x = n → Inv x → ∃ N R, iter step N x = some R := by
    intro n
    induction n using Nat.strongRecOn with
    | _ n ih =>
      intro x hx hi
      cases e : step x with
      | inl b => exact ⟨1, b, by simp [iter, e]⟩
      | inr y =>
        obtain ⟨h1, h2⟩ := h x y hi e
        obtain ⟨N, R, hR⟩ := ih (μ y) (hx ▸ h2) y rfl h1
        exact ⟨N + 1, R, by simp [iter, e, hR]⟩
  exact fun x hi => key _ x rfl hi
theorem iter_end {α β : Type} {step : α → β ⊕ α} (Inv : α → Prop) (h : ∀ x y, Inv x → step x = .inr y → Inv y) : ∀ (N : Nat) (x : α) (R : β), Inv x → iter step N x = some R → ∃ z, Inv z ∧ step z = .inl R
  | 0, x, R, _, e => by cases e
  | n + 1, x, R, hi, e => by
    cases hs : step x with
    | inl b => simp only [iter, hs, Option.some.injEq] at e; exact ⟨x, hi, by rw [hs, e]⟩
    | inr y => simp only [iter, hs] at e; exact iter_end Inv h n y R (h x y hi hs) e
/-- Two steps that do the same come to the same. -/
theorem iter_same {α β : Type} {s1 s2 : α → β ⊕ α} (Inv : α → Prop) (h : ∀ x y, Inv x → s1 x = .inr y → Inv y) (he : ∀ x, Inv x → s1 x = s2 x) : ∀ (N : Nat) (x : α), Inv x → iter s1 N x = iter s2 N x
  | 0, _, _ => rfl
  | n + 1, x, hi => by
    simp only [iter, ← he x hi]
    cases hs : s1 x with
    | inl b => rfl
    | inr y => exact iter_same Inv h he n y (h x y hi hs)

def weight (d : Doms) : Nat := (d.map fun x => (vals x).length).sum
theorem weight_set : ∀ {d : Doms} {i : Nat} {y : List (Int × Int)} (x : List (Int × Int)), d[i]? = some y → weight (d.set i x) + (vals y).length = weight d + (vals x).length
  | [], i, y, x, h => by simp at h
  | z :: d, 0, y, x, h => by
    simp at h; subst h
    simp only [List.set_cons_zero, weight, List.map_cons, List.sum_cons]; omega
  | z :: d, i + 1, y, x, h => by
    have := weight_set (d := d) (i := i) x (by simpa using h)
    simp only [List.set_cons_succ, weight, List.map_cons, List.sum_cons] at this ⊢; omega
theorem sub_lt {d d' : List (Int × Int)} (h : DomOk d) (h' : DomOk d') (hs : ∀ v ∈ vals d', v ∈ vals d) : (vals d').length ≤ (vals d).length ∧ (d' ≠ d → (vals d').length < (vals d).length) := by
  have hle := up_length_le (vals_up h') hs
  refine ⟨hle, fun hne => Nat.lt_of_le_of_ne hle fun e => hne ?_⟩
  refine dom_ext h' h (up_ext (vals_up h') (vals_up h) fun v => ⟨hs v, fun hv => ?_⟩)
  refine Classical.byContradiction fun hn => ?_
  have h1 : (v :: vals d').Nodup := List.nodup_cons.2 ⟨hn, up_nodup (vals_up h')⟩
  have h2 : (v :: vals d').length ≤ (vals d).length := h1.length_le_of_subset fun w hw => by
    rcases List.mem_cons.1 hw with rfl | hw
    · exact hv
    · exact hs w hw
  simp at h2; omega

/-- Domains made smaller, none of them empty. -/
structure Cutd (d out : Doms) : Prop where
  len : out.length = d.length
  fine : ∀ x ∈ out, Fine x
  ne : ∀ x ∈ out, x ≠ []
  sub : ∀ (i : Nat) x y, out[i]? = some x → d[i]? = some y → ∀ v ∈ vals x, v ∈ vals y

theorem Cutd.set {d out : Doms} (h : Cutd d out) {i : Nat} {x y : List (Int × Int)} (hy : out[i]? = some y) (hx : DomOk x) (hne : x ≠ []) (hs : ∀ v ∈ vals x, v ∈ vals y) : Cutd d (out.set i x) := by
  have hym := List.mem_of_getElem? hy
  refine ⟨by simp [h.len], fun z hz => ?_, fun z hz => ?_, fun j z w hz hw v hv => ?_⟩
  · rcases List.mem_or_eq_of_mem_set hz with hz | rfl
    · exact h.fine z hz
    · exact (h.fine y hym).cut hx hs
  · rcases List.mem_or_eq_of_mem_set hz with hz | rfl
    · exact h.ne z hz
    · exact hne
  · by_cases e : i = j
    · subst e
      have hlt := (List.getElem?_eq_some_iff.1 hy).1
      rw [List.getElem?_set_self hlt] at hz
      obtain rfl := Option.some.inj hz
      exact h.sub i y w hy hw v (hs v hv)
    · rw [List.getElem?_set_ne e] at hz
      exact h.sub j z w hz hw v hv

theorem stepO_inr {c : Con} {d out next : Doms} (hv : VarsIn out c) (h : Cutd d out) (hs : stepO c out = .inr next) : Cutd d next ∧ VarsIn next c ∧ weight next < weight out := by
  have hh := half_le c
  unfold stepO at hs
  split at hs
  · cases hs
  · rename_i hk
    have hkl : placeO out c < halfOf c := by have := placeF_le (pairO out c) (halfOf c); unfold placeO at hk ⊢; omega
    have hp : pairO out c (placeO out c) = false := placeF_here hkl
    have hv1 := hv.2 _ (varAt_mem (c := c) (k := placeO out c) (by omega))
    have hv2 := hv.2 _ (varAt_mem (c := c) (k := halfOf c + placeO out c) (by omega))
    have hab : varAt c (placeO out c) ≠ varAt c (halfOf c + placeO out c) := fun e => by rw [pairO, e] at hp; simp [knownB] at hp
    simp only at hs
    generalize varAt c (placeO out c) = a at *
    generalize varAt c (halfOf c + placeO out c) = b at *
    have ha := domAt_some hv1.2
    have hb := domAt_some hv2.2
    have fa := h.fine _ (domAt_mem hv1.2)
    have fb := h.fine _ (domAt_mem hv2.2)
    generalize domAt out a = da at *
    generalize domAt out b = db at *
    obtain ⟨x1, x2⟩ := domCut_ok fa.ok (-1048576) (lastR db)
    obtain ⟨y1, y2⟩ := domCut_ok fb.ok (leastR da) 1048576
    generalize domCut da (-1048576) (lastR db) = x at *
    generalize domCut db (leastR da) 1048576 = y at *
    split at hs
    · cases hs
    · rename_i hne
      split at hs
      · cases hs
      · rename_i hns
        obtain rfl := Sum.inr.inj hs
        have hsx : ∀ v ∈ vals x, v ∈ vals da := fun v hv => ((x2 v).1 hv).1
        have hsy : ∀ v ∈ vals y, v ∈ vals db := fun v hv => ((y2 v).1 hv).1
        have hne' : a.toNat ≠ b.toNat := by omega
        have hb' : (out.set a.toNat x)[b.toNat]? = some db := by rw [List.getElem?_set_ne hne']; exact hb
        refine ⟨(h.set ha x1 (fun e => hne (.inl e)) hsx).set hb' y1 (fun e => hne (.inr e)) hsy, (hv.set _ _).set _ _, ?_⟩
        have w1 := weight_set x ha
        have w2 := weight_set y hb'
        have l1 := sub_lt fa.ok x1 hsx
        have l2 := sub_lt fb.ok y1 hsy
        by_cases e1 : x = da
        · have e2 : y ≠ db := fun e => hns ⟨e1, e⟩
          have := l2.2 e2
          subst e1; omega
        · have := l1.2 e1
          omega

/-- What the program's pruner answers. -/
theorem pruneO_ex {c : Con} {d : Doms} (hv : VarsIn d c) (hf : ∀ x ∈ d, Fine x) : ∃ R N, (if [] ∈ d then R = none else iter (stepO c) N d = some R) ∧ (∀ out, R = some out → Cutd d out ∧ stepO c out = .inl (some out)) := by
  by_cases he : [] ∈ d
  · exact ⟨none, 0, by rw [if_pos he], fun out h => by cases h⟩
  · have h0 : Cutd d d := ⟨rfl, hf, fun x hx e => he (e ▸ hx), fun i x y hx hy v hv => by rw [hx] at hy; exact Option.some.inj hy ▸ hv⟩
    have hst : ∀ x y, (Cutd d x ∧ VarsIn x c) → stepO c x = .inr y → (Cutd d y ∧ VarsIn y c) ∧ weight y < weight x := fun x y hi hs => by
      have := stepO_inr hi.2 hi.1 hs
      exact ⟨⟨this.1, this.2.1⟩, this.2.2⟩
    obtain ⟨N, R, hR⟩ := iter_ex (step := stepO c) (fun x => Cutd d x ∧ VarsIn x c) weight hst d ⟨h0, hv⟩
    refine ⟨R, N, by rw [if_neg he]; exact hR, fun out h => ?_⟩
    obtain ⟨z, hz, hs⟩ := iter_end (fun x => Cutd d x ∧ VarsIn x c) (fun x y hi hs => (hst x y hi hs).1) N d R ⟨h0, hv⟩ hR
    have : z = out := by
      subst h
      unfold stepO at hs
      split at hs
      · simpa using hs
      · simp only at hs
        split at hs
        · simp at hs
        · split at hs
          · simpa using hs
          · cases hs
    subst this
    rw [h] at hs
    exact ⟨hz.1, hs⟩

/-- At the first place the one's values stand at most at the other's greatest, and so on. -/
theorem pruneO_first {c : Con} {d out : Doms} (hv : VarsIn out c) (h : Cutd d out) (hs : stepO c out = .inl (some out)) (h2 : 2 ≤ c.vars.length) :
    lastR (domAt out (varAt c 0)) ≤ lastR (domAt out (varAt c (halfOf c))) ∧ leastR (domAt out (varAt c 0)) ≤ leastR (domAt out (varAt c (halfOf c))) := by
  have hh := half_le c
  have hpos : 0 < halfOf c := by unfold halfOf; omega
  have hv1 := hv.2 _ (varAt_mem (c := c) (k := 0) (by omega))
  have hv2 := hv.2 _ (varAt_mem (c := c) (k := halfOf c) (by omega))
  have fa := h.fine _ (domAt_mem hv1.2)
  have fb := h.fine _ (domAt_mem hv2.2)
  have na := h.ne _ (domAt_mem hv1.2)
  have nb := h.ne _ (domAt_mem hv2.2)
  by_cases hk : 0 < placeO out c
  · have hp : pairO out c 0 = true := placeF_before hk
    rw [pairO, Nat.add_zero, knownB_iff fa.ok fb.ok] at hp
    rcases hp with e | ⟨_, e⟩
    · rw [e]; exact ⟨Int.le_refl _, Int.le_refl _⟩
    · rw [e]; exact ⟨Int.le_refl _, Int.le_refl _⟩
  · have hk0 : placeO out c = 0 := by omega
    unfold stepO at hs
    rw [hk0] at hs
    rw [if_neg (by omega)] at hs
    simp only [Nat.add_zero] at hs
    generalize domAt out (varAt c 0) = da at *
    generalize domAt out (varAt c (halfOf c)) = db at *
    split at hs
    · simp at hs
    · split at hs
      · rename_i e
        have e1 := (domCut_ok fa.ok (-1048576) (lastR db)).2 (lastR da)
        have e2 := (domCut_ok fb.ok (leastR da) 1048576).2 (leastR db)
        rw [e.1] at e1
        rw [e.2] at e2
        exact ⟨(e1.1 (last_mem fa.ok na)).2.2, (e2.1 (least_mem fb.ok nb)).2.1⟩
      · cases hs
theorem within_cutd {d out : Doms} (h : Cutd d out) : withinR out d = true := by
  rw [withinR_iff]
  refine ⟨h.len, fun i x y hx hy => ?_⟩
  have hs := h.sub i x y hx hy
  have : (vals x).filter (fun v => decide (v ∈ vals y) == false) = [] := by
    rw [List.filter_eq_nil_iff]
    intro v hv
    simp [hs v hv]
  rw [pickR, this]; rfl
end Go.Proofs.Ytchajofdjeijfaa
/-! Lists of domains of one shape. -/
namespace Go.Proofs.Ytchajofdjeijfaa
open Go Go.RowKit
set_option linter.unusedVariables false

/-- Of one shape: lists of domains. -/
theorem sh_doms {D : Doms} {p : PV} (h : Sh (doms D) p) : ∃ D' : Doms, p = doms D' ∧ D'.map List.length = D.map List.length := by
  cases h with
  | sl rs ts h =>
    have : ∀ (D : Doms) (ts : List (List PV)), L2 (L2 Sh) (D.map cD) ts → ∃ D' : Doms, ts = D'.map cD ∧ D'.map List.length = D.map List.length := by
      intro D
      induction D with
      | nil => intro ts h; cases h; exact ⟨[], rfl, rfl⟩
      | cons x D ih =>
        intro ts h
        cases h with
        | cons h1 h2 =>
          obtain ⟨D', rfl, e⟩ := ih _ h2
          cases h1 with
          | cons h3 h4 =>
            cases h4
            cases h3 with
            | sl rs ts h5 =>
              have : ∀ (x : List (Int × Int)) (ts : List (List PV)), L2 (L2 Sh) (x.map cR) ts → ∃ x' : List (Int × Int), ts = x'.map cR ∧ x'.length = x.length := by
                intro x
                induction x with
                | nil => intro ts h; cases h; exact ⟨[], rfl, rfl⟩
                | cons r x ih =>
                  intro ts h
                  cases h with
                  | cons h1 h2 =>
                    obtain ⟨x', rfl, e⟩ := ih _ h2
                    cases h1 with
                    | cons h3 h4 => cases h4 with
                      | cons h5 h6 =>
                        cases h6
                        cases h3
                        cases h5
                        rename_i a b
                        exact ⟨(a, b) :: x', rfl, by simp [e]⟩
              obtain ⟨x', rfl, e2⟩ := this _ _ h5
              exact ⟨x' :: D', rfl, by simp [e, e2]⟩
    obtain ⟨D', rfl, e⟩ := this _ _ h
    exact ⟨D', rfl, e⟩
end Go.Proofs.Ytchajofdjeijfaa
/-! Sums over domains: what the machine counts is what it says. -/
namespace Go.Proofs.Ytchajofdjeijfaa
open Go Go.RowKit
set_option linter.unusedVariables false
set_option linter.unusedSimpArgs false

abbrev wr (n : Int) : Int := IntKind.i64.wrap n
/-- A product that is watched. -/
def smallI (n : Int) : Bool := decide (-4611686018427387904 ≤ n) && decide (n ≤ 4611686018427387904)
def mulI (a b : Int) : Int × Bool := if smallI a && smallI b && smallI (a * b) then (a * b, true) else (0, false)
/-- A term's end, as the program counts it. -/
def endW (d : List (Int × Int)) (k : Int) (high : Bool) : Int × Bool := ((mulI k (if decide (0 < k) == high then lastR d else leastR d)).1, !d.isEmpty && (mulI k (if decide (0 < k) == high then lastR d else leastR d)).2)
def endsGo : List (List (Int × Int) × Int) → Int → Int → Int × Int × Bool
  | [], lo, hi => (lo, hi, true)
  | (x, k) :: ts, lo, hi => if (endW x k false).2 then endsGo ts (wr (lo + (endW x k false).1)) (wr (hi + (endW x k true).1)) else (0, 0, false)
def termsOf (d : Doms) (vars coefs : List Int) : List (List (Int × Int) × Int) := (vars.zip coefs).map fun p => (domAt d p.1, p.2)
def endsW (d : Doms) (vars coefs : List Int) : Int × Int × Bool := endsGo (termsOf d vars coefs) 0 0
/-- The same by the document. -/
def endR (d : List (Int × Int)) (k : Int) : Int × Int × Bool := (min (wr (k * (endsR d).1)) (wr (k * (endsR d).2.1)), max (wr (k * (endsR d).1)) (wr (k * (endsR d).2.1)), (endsR d).2.2)
def endsRGo : List (List (Int × Int) × Int) → Int → Int → Int × Int × Bool
  | [], lo, hi => (lo, hi, true)
  | (x, k) :: ts, lo, hi => if (endR x k).2.2 then endsRGo ts (wr (lo + (endR x k).1)) (wr (hi + (endR x k).2.1)) else (0, 0, false)
def endsRW (d : Doms) (vars coefs : List Int) : Int × Int × Bool := endsRGo (termsOf d vars coefs) 0 0

/-! Plain numbers. -/
def lowE (d : List (Int × Int)) (k : Int) : Int := if 0 < k then k * leastR d else k * lastR d
def highE (d : List (Int × Int)) (k : Int) : Int := if 0 < k then k * lastR d else k * leastR d
def lowS (ts : List (List (Int × Int) × Int)) : Int := (ts.map fun t => lowE t.1 t.2).sum
def highS (ts : List (List (Int × Int) × Int)) : Int := (ts.map fun t => highE t.1 t.2).sum
def absK (k : Int) : Int := max k (-k)
def weightK (coefs : List Int) : Int := (coefs.map fun k => absK k * 1048576).sum

theorem absK_pos (k : Int) : 0 ≤ absK k := by unfold absK; omega
theorem mul_in (k x : Int) (h1 : -1048576 ≤ x) (h2 : x ≤ 1048576) : -(absK k * 1048576) ≤ k * x ∧ k * x ≤ absK k * 1048576 := by
  unfold absK
  by_cases hk : 0 ≤ k
  · have e1 := Int.mul_le_mul_of_nonneg_left h2 hk
    have e2 := Int.mul_le_mul_of_nonneg_left h1 hk
    rw [show max k (-k) = k by omega]
    omega
  · have hk' : 0 ≤ -k := by omega
    have e1 := Int.mul_le_mul_of_nonneg_left h2 hk'
    have e2 := Int.mul_le_mul_of_nonneg_left h1 hk'
    rw [Int.neg_mul] at e1 e2
    rw [show max k (-k) = -k by omega]
    rw [Int.neg_mul] at e1 e2 ⊢
    omega
theorem ends_in {d : List (Int × Int)} (h : Fine d) (hne : d ≠ []) : -1048576 ≤ leastR d ∧ leastR d ≤ lastR d ∧ lastR d ≤ 1048576 := by
  have h1 := least_mem h.ok hne
  have h2 := last_mem h.ok hne
  have := h.val _ h1
  have := h.val _ h2
  have := le_last h.ok h1
  omega
theorem lowE_in {d : List (Int × Int)} (h : Fine d) (hne : d ≠ []) (k : Int) : -(absK k * 1048576) ≤ lowE d k ∧ lowE d k ≤ highE d k ∧ highE d k ≤ absK k * 1048576 := by
  obtain ⟨h1, h2, h3⟩ := ends_in h hne
  have m1 := mul_in k (leastR d) h1 (by omega)
  have m2 := mul_in k (lastR d) (by omega) h3
  unfold lowE highE
  by_cases hk : 0 < k
  · rw [if_pos hk, if_pos hk]
    have := Int.mul_le_mul_of_nonneg_left h2 (show 0 ≤ k by omega)
    omega
  · rw [if_neg hk, if_neg hk]
    have := Int.mul_le_mul_of_nonpos_left (show k ≤ 0 by omega) h2
    omega
/-- Right coefficients: not 0, not too great. -/
def CoefOk (k : Int) : Prop := k ≠ 0 ∧ absK k ≤ 4398046511104
theorem mulI_ok {k x : Int} (hk : CoefOk k) (h1 : -1048576 ≤ x) (h2 : x ≤ 1048576) : mulI k x = (k * x, true) := by
  have m := mul_in k x h1 h2
  have h3 := hk.2
  unfold mulI smallI
  have e : absK k = max k (-k) := rfl
  rw [if_pos]
  simp only [Bool.and_eq_true, decide_eq_true_eq]
  omega
theorem endW_ok {d : List (Int × Int)} {k : Int} (h : Fine d) (hne : d ≠ []) (hk : CoefOk k) : endW d k false = (lowE d k, true) ∧ endW d k true = (highE d k, true) := by
  obtain ⟨h1, h2, h3⟩ := ends_in h hne
  have hb : d.isEmpty = false := by cases d with
    | nil => exact absurd rfl hne
    | cons r d => rfl
  unfold endW lowE highE
  rw [hb]
  by_cases hp : 0 < k
  · rw [decide_eq_true hp, if_pos hp, if_pos hp]
    simp only [Bool.not_false, Bool.true_and, beq_self_eq_true, if_true]
    rw [if_neg (by decide), mulI_ok hk h1 (by omega), mulI_ok hk (by omega) h3]
    exact ⟨rfl, rfl⟩
  · rw [decide_eq_false hp, if_neg hp, if_neg hp]
    simp only [Bool.not_false, Bool.true_and, beq_self_eq_true, if_true]
    rw [if_neg (by decide), mulI_ok hk h1 (by omega), mulI_ok hk (by omega) h3]
    exact ⟨rfl, rfl⟩
theorem endW_empty (k : Int) (hk : CoefOk k) (high : Bool) : endW [] k high = (0, false) := by
  unfold endW
  have : mulI k 0 = (0, true) := by have := mulI_ok hk (x := 0) (by decide) (by decide); simpa using this
  simp only [lastR, leastR, List.getLast?_nil, ite_self, this]
  rfl
theorem endR_ok {d : List (Int × Int)} {k : Int} (h : Fine d) (hne : d ≠ []) (hk : CoefOk k) : endR d k = (lowE d k, highE d k, true) := by
  obtain ⟨h1, h2, h3⟩ := ends_in h hne
  have m1 := mul_in k (leastR d) h1 (by omega)
  have m2 := mul_in k (lastR d) (by omega) h3
  have h4 := hk.2
  unfold endR wr
  rw [endsR_eq h.ok hne]
  simp only
  rw [wrap_id (by omega) (by omega), wrap_id (by omega) (by omega)]
  unfold lowE highE
  by_cases hp : 0 < k
  · rw [if_pos hp, if_pos hp]
    have := Int.mul_le_mul_of_nonneg_left h2 (show 0 ≤ k by omega)
    rw [show min (k * leastR d) (k * lastR d) = k * leastR d by omega, show max (k * leastR d) (k * lastR d) = k * lastR d by omega]
  · rw [if_neg hp, if_neg hp]
    have := Int.mul_le_mul_of_nonpos_left (show k ≤ 0 by omega) h2
    rw [show min (k * leastR d) (k * lastR d) = k * lastR d by omega, show max (k * leastR d) (k * lastR d) = k * leastR d by omega]
theorem endR_empty (k : Int) : (endR [] k).2.2 = false := rfl

/-- Terms that fit. -/
def TermsOk (ts : List (List (Int × Int) × Int)) : Prop := ∀ t ∈ ts, Fine t.1 ∧ CoefOk t.2
def weightT (ts : List (List (Int × Int) × Int)) : Int := weightK (ts.map (·.2))
theorem weightT_cons (t : List (Int × Int) × Int) (ts) : weightT (t :: ts) = absK t.2 * 1048576 + weightT ts := by simp [weightT, weightK]
theorem weightT_pos : ∀ ts, 0 ≤ weightT ts
  | [] => by simp [weightT, weightK]
  | t :: ts => by
    rw [weightT_cons]
    have := weightT_pos ts
    have := absK_pos t.2
    omega
theorem sums_in : ∀ {ts : List (List (Int × Int) × Int)}, TermsOk ts → (∀ t ∈ ts, t.1 ≠ []) → -weightT ts ≤ lowS ts ∧ lowS ts ≤ highS ts ∧ highS ts ≤ weightT ts
  | [], _, _ => by simp [weightT, weightK, lowS, highS]
  | t :: ts, h, hne => by
    obtain ⟨h1, h2, h3⟩ := sums_in (ts := ts) (fun t ht => h t (.tail _ ht)) (fun t ht => hne t (.tail _ ht))
    obtain ⟨h4, h5, h6⟩ := lowE_in (h t (.head _)).1 (hne t (.head _)) t.2
    rw [weightT_cons]
    simp only [lowS, highS, List.map_cons, List.sum_cons] at h1 h2 h3 ⊢
    omega
theorem endsGo_ok : ∀ {ts : List (List (Int × Int) × Int)} (lo hi : Int), TermsOk ts → (∀ t ∈ ts, t.1 ≠ []) → -4611686018427388928 ≤ lo - weightT ts → lo + weightT ts ≤ 4611686018427388928 → -4611686018427388928 ≤ hi - weightT ts → hi + weightT ts ≤ 4611686018427388928 → endsGo ts lo hi = (lo + lowS ts, hi + highS ts, true)
  | [], lo, hi, _, _, _, _, _, _ => by simp [endsGo, lowS, highS]
  | (x, k) :: ts, lo, hi, h, hne, h1, h2, h3, h4 => by
    obtain ⟨hf, hk⟩ := h _ (.head _)
    have hx := hne _ (.head _)
    obtain ⟨e1, e2⟩ := endW_ok hf hx hk
    obtain ⟨b1, b2, b3⟩ := lowE_in hf hx k
    have hp := weightT_pos ts
    rw [weightT_cons] at h1 h2 h3 h4
    simp only at h1 h2 h3 h4 e1 e2 b1 b2 b3
    rw [endsGo, e1, e2, if_pos rfl]
    simp only [wr]
    rw [wrap_id (by omega) (by omega), wrap_id (by omega) (by omega), endsGo_ok _ _ (fun t ht => h t (.tail _ ht)) (fun t ht => hne t (.tail _ ht)) (by omega) (by omega) (by omega) (by omega)]
    simp only [lowS, highS, List.map_cons, List.sum_cons, Prod.mk.injEq, and_true]
    omega
theorem endsRGo_ok : ∀ {ts : List (List (Int × Int) × Int)} (lo hi : Int), TermsOk ts → (∀ t ∈ ts, t.1 ≠ []) → -4611686018427388928 ≤ lo - weightT ts → lo + weightT ts ≤ 4611686018427388928 → -4611686018427388928 ≤ hi - weightT ts → hi + weightT ts ≤ 4611686018427388928 → endsRGo ts lo hi = (lo + lowS ts, hi + highS ts, true)
  | [], lo, hi, _, _, _, _, _, _ => by simp [endsRGo, lowS, highS]
  | (x, k) :: ts, lo, hi, h, hne, h1, h2, h3, h4 => by
    obtain ⟨hf, hk⟩ := h _ (.head _)
    have hx := hne _ (.head _)
    have e1 := endR_ok hf hx hk
    obtain ⟨b1, b2, b3⟩ := lowE_in hf hx k
    have hp := weightT_pos ts
    rw [weightT_cons] at h1 h2 h3 h4
    simp only at h1 h2 h3 h4 e1 b1 b2 b3
    rw [endsRGo, e1, if_pos rfl]
    simp only [wr]
    rw [wrap_id (by omega) (by omega), wrap_id (by omega) (by omega), endsRGo_ok _ _ (fun t ht => h t (.tail _ ht)) (fun t ht => hne t (.tail _ ht)) (by omega) (by omega) (by omega) (by omega)]
    simp only [lowS, highS, List.map_cons, List.sum_cons, Prod.mk.injEq, and_true]
    omega
theorem endsGo_empty : ∀ {ts : List (List (Int × Int) × Int)} (lo hi : Int), TermsOk ts → (∃ t ∈ ts, t.1 = []) → endsGo ts lo hi = (0, 0, false) ∧ endsRGo ts lo hi = (0, 0, false)
  | [], lo, hi, _, h => by obtain ⟨t, ht, _⟩ := h; cases ht
  | (x, k) :: ts, lo, hi, h, he => by
    obtain ⟨hf, hk⟩ := h _ (.head _)
    by_cases hx : x = []
    · subst hx
      rw [endsGo, endsRGo, endW_empty k hk, endR_empty]
      exact ⟨rfl, rfl⟩
    · obtain ⟨e1, e2⟩ := endW_ok hf hx hk
      have e3 := endR_ok hf hx hk
      simp only at e1 e2 e3
      rw [endsGo, endsRGo, e1, e2, e3, if_pos rfl, if_pos rfl]
      refine endsGo_empty _ _ (fun t ht => h t (.tail _ ht)) ?_
      obtain ⟨t, ht, e⟩ := he
      cases ht with
      | head => exact absurd e hx
      | tail _ ht => exact ⟨t, ht, e⟩
/-- Both count the same. -/
theorem ends_same {ts : List (List (Int × Int) × Int)} (h : TermsOk ts) (hw : weightT ts ≤ 4611686018427388928) : endsGo ts 0 0 = endsRGo ts 0 0 := by
  by_cases he : ∃ t ∈ ts, t.1 = []
  · obtain ⟨h1, h2⟩ := endsGo_empty 0 0 h he
    rw [h1, h2]
  · have hne : ∀ t ∈ ts, t.1 ≠ [] := fun t ht e => he ⟨t, ht, e⟩
    rw [endsGo_ok 0 0 h hne (by omega) (by omega) (by omega) (by omega), endsRGo_ok 0 0 h hne (by omega) (by omega) (by omega) (by omega)]
end Go.Proofs.Ytchajofdjeijfaa
/-! Contracts: numbers that are watched; a term's ends, a sum's. -/
namespace Go.Proofs.Ytchajofdjeijfaa
open Go Go.RowKit
set_option linter.unusedVariables false
set_option linter.unusedSimpArgs false
set_option maxRecDepth 8000

theorem ismall_spec (l : List Int) (hl : l.length * 8 ≤ 140737488355328) : Spec Try.prog 101 false [ints l] [.val (.bool (l.all smallI))] := by
  refine Spec.body Try.func101 rfl rfl rfl fun w0 Z0 => ?_
  repeat' first | refine T.seq ?_ | refine T.block ?_ | refine T.r ?_ | refine J.e rfl rfl rfl rfl ?_ | refine J.nil ?_ | refine J.skip rfl rfl rfl ?_ | refine T.skip ?_ | refine T.exit ?_ | refine T.ret ?_ | refine T.rd rfl (by kernel_rfl) ?_ | refine J.bx rfl rfl rfl rfl rfl rfl ?_
  refine T.canon (keep := [5, 6, 7]) (os := []) rfl (T.ind (fun i : Nat => ⟨[(5, .val false (ints l)), (6, .val true (.int .i64 (l.map cI).length)), (7, .val true (.int .i64 i))], [], 0⟩) (fun i => i ≤ l.length ∧ (l.take i).all smallI = true) (fun i => l.length - i) 0 (by simp) (fun _ _ h => h) ?_)
  rintro i ⟨hi, hd⟩ ih
  repeat' first | refine T.seq ?_ | refine T.block ?_ | refine T.r ?_ | refine J.e rfl rfl rfl rfl ?_ | refine J.nil ?_ | refine J.skip rfl rfl rfl ?_ | refine T.skip ?_ | refine T.exit ?_ | refine T.ret ?_ | refine T.rd rfl (by kernel_rfl) ?_ | refine J.bx rfl rfl rfl rfl rfl rfl ?_
  refine T.cd rfl (fun h1 => ?_) (fun h1 => ?_)
  · have h1 : i < l.length := by simpa using h1
    have hno : smallI l[i] = false → l.all smallI = false := fun h => by
      cases h2 : l.all smallI with
      | false => rfl
      | true => rw [List.all_eq_true.1 h2 _ (List.getElem_mem h1)] at h; cases h
    repeat' first | refine T.seq ?_ | refine T.block ?_ | refine T.r ?_ | refine J.e rfl rfl rfl rfl ?_ | refine J.nil ?_ | refine J.skip rfl rfl rfl ?_ | refine T.skip ?_ | refine T.exit ?_ | refine T.ret ?_ | refine T.rd rfl (by kernel_rfl) ?_ | refine J.bx rfl rfl rfl rfl rfl rfl ?_
    refine J.i rfl rfl rfl rfl rfl rfl rfl rfl rfl (r := cI l[i]) (by omega) (row_i h1) rfl ?_
    repeat' first | refine T.seq ?_ | refine T.block ?_ | refine T.r ?_ | refine J.e rfl rfl rfl rfl ?_ | refine J.nil ?_ | refine J.skip rfl rfl rfl ?_ | refine T.skip ?_ | refine T.exit ?_ | refine T.ret ?_ | refine T.rd rfl (by kernel_rfl) ?_ | refine J.bx rfl rfl rfl rfl rfl rfl ?_
    refine J.g rfl rfl rfl (fun h2 => ?_) (fun h2 => ?_)
    · repeat' first | refine T.seq ?_ | refine T.block ?_ | refine T.r ?_ | refine J.e rfl rfl rfl rfl ?_ | refine J.nil ?_ | refine J.skip rfl rfl rfl ?_ | refine T.skip ?_ | refine T.exit ?_ | refine T.ret ?_ | refine T.rd rfl (by kernel_rfl) ?_ | refine J.bx rfl rfl rfl rfl rfl rfl ?_
      refine T.ct rfl ?_
      repeat' first | refine T.seq ?_ | refine T.block ?_ | refine T.r ?_ | refine J.e rfl rfl rfl rfl ?_ | refine J.nil ?_ | refine J.skip rfl rfl rfl ?_ | refine T.skip ?_ | refine T.exit ?_ | refine T.ret ?_ | refine T.rd rfl (by kernel_rfl) ?_ | refine J.bx rfl rfl rfl rfl rfl rfl ?_
      exact ⟨_, .v rfl rfl (by rw [hno]; simp [smallI]; omega) (fun _ => rfl) .nil⟩
    · repeat' first | refine T.seq ?_ | refine T.block ?_ | refine T.r ?_ | refine J.e rfl rfl rfl rfl ?_ | refine J.nil ?_ | refine J.skip rfl rfl rfl ?_ | refine T.skip ?_ | refine T.exit ?_ | refine T.ret ?_ | refine T.rd rfl (by kernel_rfl) ?_ | refine J.bx rfl rfl rfl rfl rfl rfl ?_
      refine T.cd rfl (fun h3 => ?_) (fun h3 => ?_)
      · repeat' first | refine T.seq ?_ | refine T.block ?_ | refine T.r ?_ | refine J.e rfl rfl rfl rfl ?_ | refine J.nil ?_ | refine J.skip rfl rfl rfl ?_ | refine T.skip ?_ | refine T.exit ?_ | refine T.ret ?_ | refine T.rd rfl (by kernel_rfl) ?_ | refine J.bx rfl rfl rfl rfl rfl rfl ?_
        exact ⟨_, .v rfl rfl (by rw [hno]; simp [smallI]; omega) (fun _ => rfl) .nil⟩
      · repeat' first | refine T.seq ?_ | refine T.block ?_ | refine T.r ?_ | refine J.e rfl rfl rfl rfl ?_ | refine J.nil ?_ | refine J.skip rfl rfl rfl ?_ | refine T.skip ?_ | refine T.exit ?_ | refine T.ret ?_ | refine T.rd rfl (by kernel_rfl) ?_ | refine J.bx rfl rfl rfl rfl rfl rfl ?_
        rw [wrap1 (l := l.length) (by omega) (by omega)]
        refine T.canon (keep := [5, 6, 7]) (os := []) rfl (ih (i + 1) ⟨by omega, ?_⟩ (by omega))
        rw [List.take_succ_eq_append_getElem h1, List.all_append, hd]
        simp [smallI]; omega
  · have h1 : i = l.length := by simp at h1; omega
    subst h1
    rw [List.take_length] at hd
    repeat' first | refine T.seq ?_ | refine T.block ?_ | refine T.r ?_ | refine J.e rfl rfl rfl rfl ?_ | refine J.nil ?_ | refine J.skip rfl rfl rfl ?_ | refine T.skip ?_ | refine T.exit ?_ | refine T.ret ?_ | refine T.rd rfl (by kernel_rfl) ?_ | refine J.bx rfl rfl rfl rfl rfl rfl ?_
    exact ⟨_, .v rfl rfl (by rw [hd]) (fun _ => rfl) .nil⟩

theorem wrapU (n : Int) : IntKind.u64.wrap n = n % 18446744073709551616 := by simp [IntKind.wrap, IntKind.bits, IntKind.signed]
theorem isize_spec (n : Int) (h : -9223372036854775808 ≤ n) (h2 : n ≤ 9223372036854775807) : Spec Try.prog 103 false [.int .i64 n] [.val (.int .u64 ((n.natAbs : Nat) : Int))] := by
  refine Spec.body Try.func103 rfl rfl rfl fun w0 Z0 => ?_
  repeat' first | refine T.seq ?_ | refine T.block ?_ | refine T.r ?_ | refine J.e rfl rfl rfl rfl ?_ | refine J.nil ?_ | refine J.skip rfl rfl rfl ?_ | refine T.skip ?_ | refine T.exit ?_ | refine T.ret ?_ | refine T.rd rfl (by kernel_rfl) ?_ | refine J.bx rfl rfl rfl rfl rfl rfl ?_
  refine T.cd rfl (fun h3 => ?_) (fun h3 => ?_)
  · have h3 : n < 0 := h3
    repeat' first | refine T.seq ?_ | refine T.block ?_ | refine T.r ?_ | refine J.e rfl rfl rfl rfl ?_ | refine J.nil ?_ | refine J.skip rfl rfl rfl ?_ | refine T.skip ?_ | refine T.exit ?_ | refine T.ret ?_ | refine T.rd rfl (by kernel_rfl) ?_ | refine J.bx rfl rfl rfl rfl rfl rfl ?_
    exact ⟨_, .v rfl rfl (by rw [wrapU, wrapU]; congr 1; omega) (fun _ => rfl) .nil⟩
  · have h3 : ¬ n < 0 := h3
    repeat' first | refine T.seq ?_ | refine T.block ?_ | refine T.r ?_ | refine J.e rfl rfl rfl rfl ?_ | refine J.nil ?_ | refine J.skip rfl rfl rfl ?_ | refine T.skip ?_ | refine T.exit ?_ | refine T.ret ?_ | refine T.rd rfl (by kernel_rfl) ?_ | refine J.bx rfl rfl rfl rfl rfl rfl ?_
    exact ⟨_, .v rfl rfl (by rw [wrapU]; congr 1; omega) (fun _ => rfl) .nil⟩

theorem maskU (a : Nat) (ha : a < 18446744073709551616) : IntKind.u64.wrap (BitVec.ofInt IntKind.u64.bits (a : Int) &&& BitVec.ofInt IntKind.u64.bits 4294967295).toNat = ((a % 4294967296 : Nat) : Int) := by
  have e : (BitVec.ofInt IntKind.u64.bits (a : Int) &&& BitVec.ofInt IntKind.u64.bits 4294967295).toNat = a % 4294967296 := by
    rw [BitVec.toNat_and]
    have e1 : (BitVec.ofInt IntKind.u64.bits (a : Int)).toNat = a := by
      rw [BitVec.toNat_ofInt]
      have : ((2 ^ IntKind.u64.bits : Nat) : Int) = 18446744073709551616 := rfl
      rw [this]
      omega
    have e2 : (BitVec.ofInt IntKind.u64.bits 4294967295).toNat = 2 ^ 32 - 1 := rfl
    rw [e1, e2, Nat.and_two_pow_sub_one_eq_mod]
  rw [e, wrapU]
  omega
theorem shrU (a : Nat) : ((a : Int)).fdiv (2 ^ (min (32 : Int).toNat IntKind.u64.bits)) = ((a / 4294967296 : Nat) : Int) := by
  have : (2 : Int) ^ (min (32 : Int).toNat IntKind.u64.bits) = 4294967296 := rfl
  rw [this, Int.fdiv_eq_ediv_of_nonneg _ (by decide)]
  omega
theorem mulU (a b : Nat) : (a : Int) * (b : Int) = ((a * b : Nat) : Int) := (Int.natCast_mul a b).symm
theorem addU_ (a b : Nat) : (a : Int) + (b : Int) = ((a + b : Nat) : Int) := (Int.natCast_add a b).symm
theorem wrapN (a : Nat) (ha : a < 18446744073709551616) : IntKind.u64.wrap (a : Int) = (a : Int) := by rw [wrapU]; omega
theorem wrapM (a : Nat) : IntKind.u64.wrap (a : Int) = ((a % 18446744073709551616 : Nat) : Int) := by rw [wrapU]; omega
theorem mul64_spec (x y : Nat) (hx : x < 18446744073709551616) (hy : y < 18446744073709551616) : Spec Try.prog 102 false [.int .u64 (x : Int), .int .u64 (y : Int)] [.val (.int .u64 ((x * y / 18446744073709551616 : Nat) : Int)), .val (.int .u64 ((x * y % 18446744073709551616 : Nat) : Int))] := by
  obtain ⟨bd, bt, bw, hhi⟩ := Lib.mul64_hi x y hx hy
  have ba := Lib.half_mul_le (a := x / 4294967296) (b := y / 4294967296) (by omega) (by omega)
  have bb := Lib.half_mul_le (a := x / 4294967296) (b := y % 4294967296) (by omega) (by omega)
  have bc := Lib.half_mul_le (a := x % 4294967296) (b := y / 4294967296) (by omega) (by omega)
  have ba' : x / 4294967296 * (y / 4294967296) < 18446744073709551616 := by omega
  have bb' : x / 4294967296 * (y % 4294967296) < 18446744073709551616 := by omega
  have bc' : x % 4294967296 * (y / 4294967296) < 18446744073709551616 := by omega
  have bh1 : x / 4294967296 * (y / 4294967296) + (x / 4294967296 * (y % 4294967296) + x % 4294967296 * (y % 4294967296) / 4294967296) / 4294967296 < 18446744073709551616 := by omega
  have bh : x / 4294967296 * (y / 4294967296) + (x / 4294967296 * (y % 4294967296) + x % 4294967296 * (y % 4294967296) / 4294967296) / 4294967296 + ((x / 4294967296 * (y % 4294967296) + x % 4294967296 * (y % 4294967296) / 4294967296) % 4294967296 + x % 4294967296 * (y / 4294967296)) / 4294967296 < 18446744073709551616 := by
    generalize (x / 4294967296) * (y / 4294967296) = a at *
    generalize (x / 4294967296) * (y % 4294967296) = b at *
    generalize (x % 4294967296) * (y / 4294967296) = c at *
    generalize (x % 4294967296) * (y % 4294967296) = d at *
    omega
  refine Spec.body Try.func102 rfl rfl rfl fun w0 Z0 => ?_
  repeat' first | refine T.seq ?_ | refine T.block ?_ | refine T.r ?_ | refine J.e rfl rfl rfl rfl ?_ | refine J.nil ?_ | refine J.skip rfl rfl rfl ?_ | refine T.skip ?_ | refine T.exit ?_ | refine T.ret ?_ | refine T.rd rfl (by kernel_rfl) ?_ | refine J.bx rfl rfl rfl rfl rfl rfl ?_
  refine ⟨_, .v rfl rfl ?_ (fun _ => rfl) (.v rfl rfl ?_ (fun _ => rfl) .nil)⟩
  · simp only [maskU x hx, maskU y hy, shrU, mulU, addU_, wrapN _ bd, wrapN _ bb', wrapN _ bt, maskU _ bt, wrapN _ bc', wrapN _ bw, wrapN _ ba', wrapN _ bh1, wrapN _ bh]
    rw [hhi]
  · rw [mulU, wrapM]

theorem imul_spec (a b : Int) (ha1 : -9223372036854775808 ≤ a) (ha2 : a ≤ 9223372036854775807) (hb1 : -9223372036854775808 ≤ b) (hb2 : b ≤ 9223372036854775807) :
    Spec Try.prog 88 false [.int .i64 a, .int .i64 b] [.val (.int .i64 (mulI a b).1), .val (.bool (mulI a b).2)] := by
  refine Spec.body Try.func88 rfl rfl rfl fun w0 Z0 => ?_
  have hs := ismall_spec [a, b] (by simp)
  repeat' first | refine T.seq ?_ | refine T.block ?_ | refine T.r ?_ | refine J.e rfl rfl rfl rfl ?_ | refine J.nil ?_ | refine J.skip rfl rfl rfl ?_ | refine T.skip ?_ | refine T.exit ?_ | refine T.ret ?_ | refine T.rd rfl (by kernel_rfl) ?_ | refine J.bx rfl rfl rfl rfl rfl rfl ?_
  refine J.bv rfl rfl rfl rfl rfl rfl rfl rfl rfl rfl rfl rfl ?_
  refine J.cc rfl rfl rfl rfl rfl hs rfl rfl ?_
  repeat' first | refine T.seq ?_ | refine T.block ?_ | refine T.r ?_ | refine J.e rfl rfl rfl rfl ?_ | refine J.nil ?_ | refine J.skip rfl rfl rfl ?_ | refine T.skip ?_ | refine T.exit ?_ | refine T.ret ?_ | refine T.rd rfl (by kernel_rfl) ?_ | refine J.bx rfl rfl rfl rfl rfl rfl ?_
  refine T.cond rfl (fun h => ?_) (fun h => ?_)
  · have e : mulI a b = (0, false) := by
      unfold mulI
      rw [if_neg]
      intro h2
      simp at h h2
      rcases h with h | h
      · rw [h2.1.1] at h; cases h
      · rw [h2.1.2] at h; cases h
    rw [e]
    repeat' first | refine T.seq ?_ | refine T.block ?_ | refine T.r ?_ | refine J.e rfl rfl rfl rfl ?_ | refine J.nil ?_ | refine J.skip rfl rfl rfl ?_ | refine T.skip ?_ | refine T.exit ?_ | refine T.ret ?_ | refine T.rd rfl (by kernel_rfl) ?_ | refine J.bx rfl rfl rfl rfl rfl rfl ?_
    exact ⟨_, .v rfl rfl rfl (fun _ => rfl) (.v rfl rfl rfl (fun _ => rfl) .nil)⟩
  · have hsa : smallI a = true ∧ smallI b = true := by simpa using h
    obtain ⟨hsa, hsb⟩ := hsa
    have ha : -4611686018427387904 ≤ a ∧ a ≤ 4611686018427387904 := by simpa [smallI] using hsa
    have hb : -4611686018427387904 ≤ b ∧ b ≤ 4611686018427387904 := by simpa [smallI] using hsb
    have hm := mul64_spec a.natAbs b.natAbs (by omega) (by omega)
    have hab : (a * b).natAbs = a.natAbs * b.natAbs := Int.natAbs_mul a b
    have hp1 : (a < 0) ≠ (b < 0) → a * b ≤ 0 := by
      intro hne
      by_cases h1 : a < 0
      · have h2 : ¬ b < 0 := fun h2 => hne (by simp [h1, h2])
        exact Int.mul_nonpos_of_nonpos_of_nonneg (by omega) (by omega)
      · have h2 : b < 0 := by
          by_cases h2 : b < 0
          · exact h2
          · exact absurd (by simp [h1, h2]) hne
        exact Int.mul_nonpos_of_nonneg_of_nonpos (by omega) (by omega)
    have hp2 : (a < 0) = (b < 0) → 0 ≤ a * b := by
      intro heq
      by_cases h1 : a < 0
      · have h2 : b < 0 := by rw [← heq]; exact h1
        exact Int.mul_nonneg_of_nonpos_of_nonpos (by omega) (by omega)
      · have h2 : ¬ b < 0 := by rw [← heq]; exact h1
        exact Int.mul_nonneg (by omega) (by omega)
    have hmi : mulI a b = if smallI (a * b) then (a * b, true) else (0, false) := by simp [mulI, hsa, hsb]
    rw [hmi]
    rw [← hab] at hm
    clear hab hmi
    generalize a * b = p at *
    repeat' first | refine T.seq ?_ | refine T.block ?_ | refine T.r ?_ | refine J.e rfl rfl rfl rfl ?_ | refine J.nil ?_ | refine J.skip rfl rfl rfl ?_ | refine T.skip ?_ | refine T.exit ?_ | refine T.ret ?_ | refine T.rd rfl (by kernel_rfl) ?_ | refine J.bx rfl rfl rfl rfl rfl rfl ?_
    refine J.cc rfl rfl rfl rfl rfl (isize_spec a ha1 ha2) rfl rfl ?_
    repeat' first | refine T.seq ?_ | refine T.block ?_ | refine T.r ?_ | refine J.e rfl rfl rfl rfl ?_ | refine J.nil ?_ | refine J.skip rfl rfl rfl ?_ | refine T.skip ?_ | refine T.exit ?_ | refine T.ret ?_ | refine T.rd rfl (by kernel_rfl) ?_ | refine J.bx rfl rfl rfl rfl rfl rfl ?_
    refine J.cc rfl rfl rfl rfl rfl (isize_spec b hb1 hb2) rfl rfl ?_
    refine J.cc rfl rfl rfl rfl rfl hm rfl rfl ?_
    repeat' first | refine T.seq ?_ | refine T.block ?_ | refine T.r ?_ | refine J.e rfl rfl rfl rfl ?_ | refine J.nil ?_ | refine J.skip rfl rfl rfl ?_ | refine T.skip ?_ | refine T.exit ?_ | refine T.ret ?_ | refine T.rd rfl (by kernel_rfl) ?_ | refine J.bx rfl rfl rfl rfl rfl rfl ?_
    refine J.g rfl rfl rfl (fun h4 => ?_) (fun h4 => ?_)
    · have h4 : ((p.natAbs / 18446744073709551616 : Nat) : Int) ≠ 0 := h4
      repeat' first | refine T.seq ?_ | refine T.block ?_ | refine T.r ?_ | refine J.e rfl rfl rfl rfl ?_ | refine J.nil ?_ | refine J.skip rfl rfl rfl ?_ | refine T.skip ?_ | refine T.exit ?_ | refine T.ret ?_ | refine T.rd rfl (by kernel_rfl) ?_ | refine J.bx rfl rfl rfl rfl rfl rfl ?_
      refine T.ct rfl ?_
      have e : smallI p = false := by simp [smallI]; omega
      rw [e]
      repeat' first | refine T.seq ?_ | refine T.block ?_ | refine T.r ?_ | refine J.e rfl rfl rfl rfl ?_ | refine J.nil ?_ | refine J.skip rfl rfl rfl ?_ | refine T.skip ?_ | refine T.exit ?_ | refine T.ret ?_ | refine T.rd rfl (by kernel_rfl) ?_ | refine J.bx rfl rfl rfl rfl rfl rfl ?_
      exact ⟨_, .v rfl rfl rfl (fun _ => rfl) (.v rfl rfl rfl (fun _ => rfl) .nil)⟩
    · have h4 : ¬ ((p.natAbs / 18446744073709551616 : Nat) : Int) ≠ 0 := h4
      repeat' first | refine T.seq ?_ | refine T.block ?_ | refine T.r ?_ | refine J.e rfl rfl rfl rfl ?_ | refine J.nil ?_ | refine J.skip rfl rfl rfl ?_ | refine T.skip ?_ | refine T.exit ?_ | refine T.ret ?_ | refine T.rd rfl (by kernel_rfl) ?_ | refine J.bx rfl rfl rfl rfl rfl rfl ?_
      refine T.cd rfl (fun h5 => ?_) (fun h5 => ?_)
      · have h5 : ((p.natAbs % 18446744073709551616 : Nat) : Int) > 4611686018427387904 := h5
        have e : smallI p = false := by simp [smallI]; omega
        rw [e]
        repeat' first | refine T.seq ?_ | refine T.block ?_ | refine T.r ?_ | refine J.e rfl rfl rfl rfl ?_ | refine J.nil ?_ | refine J.skip rfl rfl rfl ?_ | refine T.skip ?_ | refine T.exit ?_ | refine T.ret ?_ | refine T.rd rfl (by kernel_rfl) ?_ | refine J.bx rfl rfl rfl rfl rfl rfl ?_
        exact ⟨_, .v rfl rfl rfl (fun _ => rfl) (.v rfl rfl rfl (fun _ => rfl) .nil)⟩
      · have h5 : ¬ ((p.natAbs % 18446744073709551616 : Nat) : Int) > 4611686018427387904 := h5
        have e : smallI p = true := by simp [smallI]; omega
        rw [e]
        repeat' first | refine T.seq ?_ | refine T.block ?_ | refine T.r ?_ | refine J.e rfl rfl rfl rfl ?_ | refine J.nil ?_ | refine J.skip rfl rfl rfl ?_ | refine T.skip ?_ | refine T.exit ?_ | refine T.ret ?_ | refine T.rd rfl (by kernel_rfl) ?_ | refine J.bx rfl rfl rfl rfl rfl rfl ?_
        refine T.cond rfl (fun h6 => ?_) (fun h6 => ?_)
        · have h7 := hp1 (by intro e; simp [e] at h6)
          repeat' first | refine T.seq ?_ | refine T.block ?_ | refine T.r ?_ | refine J.e rfl rfl rfl rfl ?_ | refine J.nil ?_ | refine J.skip rfl rfl rfl ?_ | refine T.skip ?_ | refine T.exit ?_ | refine T.ret ?_ | refine T.rd rfl (by kernel_rfl) ?_ | refine J.bx rfl rfl rfl rfl rfl rfl ?_
          exact ⟨_, .v rfl rfl (by simp only [if_true]; rw [wrap_id (n := ((p.natAbs % 18446744073709551616 : Nat) : Int)) (by omega) (by omega), wrap_id (by omega) (by omega)]; congr 1; omega) (fun _ => rfl) (.v rfl rfl rfl (fun _ => rfl) .nil)⟩
        · have h7 := hp2 (by
            by_cases h1 : a < 0 <;> by_cases h2 : b < 0 <;> simp [h1, h2] at h6 ⊢)
          repeat' first | refine T.seq ?_ | refine T.block ?_ | refine T.r ?_ | refine J.e rfl rfl rfl rfl ?_ | refine J.nil ?_ | refine J.skip rfl rfl rfl ?_ | refine T.skip ?_ | refine T.exit ?_ | refine T.ret ?_ | refine T.rd rfl (by kernel_rfl) ?_ | refine J.bx rfl rfl rfl rfl rfl rfl ?_
          exact ⟨_, .v rfl rfl (by simp only [if_true]; rw [wrap_id (by omega) (by omega)]; congr 1; omega) (fun _ => rfl) (.v rfl rfl rfl (fun _ => rfl) .nil)⟩
end Go.Proofs.Ytchajofdjeijfaa
/-! Contracts: a term's ends, a sum's, by the program, by the document; small words of sums. -/
namespace Go.Proofs.Ytchajofdjeijfaa
open Go Go.RowKit
set_option linter.unusedVariables false
set_option linter.unusedSimpArgs false
set_option maxRecDepth 8000

theorem ends_int {d : List (Int × Int)} (h : InB d) : -1048576 ≤ leastR d ∧ leastR d ≤ 1048576 ∧ -1048576 ≤ lastR d ∧ lastR d ≤ 1048576 := by
  constructor
  · cases d with
    | nil => simp [leastR]
    | cons r d => exact (h r (.head _)).1
  · constructor
    · cases d with
      | nil => simp [leastR]
      | cons r d => exact (h r (.head _)).2.1
    · unfold lastR
      cases hl : d.getLast? with
      | none => simp
      | some r =>
        have := h r (List.mem_of_getLast? hl)
        exact ⟨this.2.2.1, this.2.2.2⟩
theorem coef_int {k : Int} (h : CoefOk k) : -4398046511104 ≤ k ∧ k ≤ 4398046511104 := by
  have := h.2
  unfold absK at this
  omega

theorem lend_spec (d : List (Int × Int)) (k : Int) (high : Bool) (hd : DomB d) (hk : CoefOk k) : Spec Try.prog 54 false [dm d, .int .i64 k, .bool high] [.val (.int .i64 (endW d k high).1), .val (.bool (endW d k high).2)] := by
  refine Spec.body Try.func54 rfl rfl rfl fun w0 Z0 => ?_
  obtain ⟨h1, h2, h3, h4⟩ := ends_int hd.1
  have hk2 := coef_int hk
  refine T.seq ?_
  refine T.r ?_
  repeat' first | refine J.e rfl rfl rfl rfl ?_ | refine J.skip rfl rfl rfl ?_ | refine J.bx rfl rfl rfl rfl rfl rfl ?_
  refine J.nil ?_
  refine T.seq ?_
  refine T.r ?_
  repeat' first | refine J.e rfl rfl rfl rfl ?_ | refine J.skip rfl rfl rfl ?_ | refine J.bx rfl rfl rfl rfl rfl rfl ?_
  refine J.cc rfl rfl rfl rfl rfl (least_spec d) rfl rfl ?_
  repeat' first | refine J.e rfl rfl rfl rfl ?_ | refine J.skip rfl rfl rfl ?_ | refine J.bx rfl rfl rfl rfl rfl rfl ?_
  refine J.nil ?_
  refine T.mid ⟨[(1, .val false (.int .i64 k)), (8, .val true (.int .i64 (if decide (0 < k) == high then lastR d else leastR d))), (9, .val true (.bool (!d.isEmpty)))], [], 0⟩ ?_ ?_
  · repeat' first | refine T.seq ?_ | refine T.block ?_ | refine T.r ?_ | refine J.e rfl rfl rfl rfl ?_ | refine J.nil ?_ | refine J.skip rfl rfl rfl ?_ | refine T.skip ?_ | refine T.exit ?_ | refine T.ret ?_ | refine T.rd rfl (by kernel_rfl) ?_ | refine J.bx rfl rfl rfl rfl rfl rfl ?_
    refine T.cond rfl (fun h => ?_) (fun h => ?_)
    · have h : (decide (0 < k) == high) = true := h
      rw [if_pos h]
      repeat' first | refine T.seq ?_ | refine T.block ?_ | refine T.r ?_ | refine J.e rfl rfl rfl rfl ?_ | refine J.nil ?_ | refine J.skip rfl rfl rfl ?_ | refine T.skip ?_ | refine T.exit ?_ | refine T.ret ?_ | refine T.rd rfl (by kernel_rfl) ?_ | refine J.bx rfl rfl rfl rfl rfl rfl ?_
      refine J.cc rfl rfl rfl rfl rfl (most_spec d (by have := hd.2.2; omega)) rfl rfl ?_
      repeat' first | refine T.seq ?_ | refine T.block ?_ | refine T.r ?_ | refine J.e rfl rfl rfl rfl ?_ | refine J.nil ?_ | refine J.skip rfl rfl rfl ?_ | refine T.skip ?_ | refine T.exit ?_ | refine T.ret ?_ | refine T.rd rfl (by kernel_rfl) ?_ | refine J.bx rfl rfl rfl rfl rfl rfl ?_
      exact ⟨rfl, [1, 8, 9], [], rfl, rfl⟩
    · have h : (decide (0 < k) == high) = false := h
      rw [h]
      repeat' first | refine T.seq ?_ | refine T.block ?_ | refine T.r ?_ | refine J.e rfl rfl rfl rfl ?_ | refine J.nil ?_ | refine J.skip rfl rfl rfl ?_ | refine T.skip ?_ | refine T.exit ?_ | refine T.ret ?_ | refine T.rd rfl (by kernel_rfl) ?_ | refine J.bx rfl rfl rfl rfl rfl rfl ?_
      exact ⟨rfl, [1, 8, 9], [], rfl, rfl⟩
  · have hm := imul_spec k (if decide (0 < k) == high then lastR d else leastR d) (by omega) (by omega) (by split <;> omega) (by split <;> omega)
    unfold endW
    generalize (if decide (0 < k) == high then lastR d else leastR d) = x at *
    generalize mulI k x = m at *
    repeat' first | refine T.seq ?_ | refine T.block ?_ | refine T.r ?_ | refine J.e rfl rfl rfl rfl ?_ | refine J.nil ?_ | refine J.skip rfl rfl rfl ?_ | refine T.skip ?_ | refine T.exit ?_ | refine T.ret ?_ | refine T.rd rfl (by kernel_rfl) ?_ | refine J.bx rfl rfl rfl rfl rfl rfl ?_
    refine J.cc rfl rfl rfl rfl rfl hm rfl rfl ?_
    repeat' first | refine T.seq ?_ | refine T.block ?_ | refine T.r ?_ | refine J.e rfl rfl rfl rfl ?_ | refine J.nil ?_ | refine J.skip rfl rfl rfl ?_ | refine T.skip ?_ | refine T.exit ?_ | refine T.ret ?_ | refine T.rd rfl (by kernel_rfl) ?_ | refine J.bx rfl rfl rfl rfl rfl rfl ?_
    refine J.gb rfl rfl rfl (fun h => ?_) (fun h => ?_)
    · rw [h]
      repeat' first | refine T.seq ?_ | refine T.block ?_ | refine T.r ?_ | refine J.e rfl rfl rfl rfl ?_ | refine J.nil ?_ | refine J.skip rfl rfl rfl ?_ | refine T.skip ?_ | refine T.exit ?_ | refine T.ret ?_ | refine T.rd rfl (by kernel_rfl) ?_ | refine J.bx rfl rfl rfl rfl rfl rfl ?_
      exact ⟨_, .v rfl rfl rfl (fun _ => rfl) (.v rfl rfl (by simp) (fun _ => rfl) .nil)⟩
    · rw [h]
      repeat' first | refine T.seq ?_ | refine T.block ?_ | refine T.r ?_ | refine J.e rfl rfl rfl rfl ?_ | refine J.nil ?_ | refine J.skip rfl rfl rfl ?_ | refine T.skip ?_ | refine T.exit ?_ | refine T.ret ?_ | refine T.rd rfl (by kernel_rfl) ?_ | refine J.bx rfl rfl rfl rfl rfl rfl ?_
      exact ⟨_, .v rfl rfl rfl (fun _ => rfl) (.v rfl rfl rfl (fun _ => rfl) .nil)⟩

/-- Domains and a sum over them that may be reckoned. -/
structure SumIn (d : Doms) (vars coefs : List Int) : Prop where
  len : vars.length = coefs.length
  vl : vars.length * 8 ≤ 140737488355328
  vin : ∀ v ∈ vars, 0 ≤ v ∧ v.toNat < d.length
  ck : ∀ k ∈ coefs, CoefOk k
  dom : ∀ x ∈ d, DomB x
  dl : d.length * 24 ≤ 140737488355328
theorem terms_cons {d : Doms} {vars coefs : List Int} {i : Nat} (h1 : i < vars.length) (h2 : i < coefs.length) : (termsOf d vars coefs).drop i = (domAt d vars[i], coefs[i]) :: (termsOf d vars coefs).drop (i + 1) := by
  have hl : i < (termsOf d vars coefs).length := by simp [termsOf]; omega
  rw [List.drop_eq_getElem_cons hl]
  simp [termsOf]
theorem terms_end {d : Doms} {vars coefs : List Int} (h : vars.length = coefs.length) : (termsOf d vars coefs).drop vars.length = [] := by
  refine List.drop_of_length_le ?_
  simp [termsOf]; omega
theorem lends_spec (d : Doms) (vars coefs : List Int) (h : SumIn d vars coefs) : Spec Try.prog 18 false [doms d, ints vars, ints coefs] [.val (.int .i64 (endsW d vars coefs).1), .val (.int .i64 (endsW d vars coefs).2.1), .val (.bool (endsW d vars coefs).2.2)] := by
  refine Spec.body Try.func18 rfl rfl rfl fun w0 Z0 => ?_
  obtain ⟨hlen, hvl, hvin, hck, hdom, hdl⟩ := h
  repeat' first | refine T.seq ?_ | refine T.block ?_ | refine T.r ?_ | refine J.e rfl rfl rfl rfl ?_ | refine J.nil ?_ | refine J.skip rfl rfl rfl ?_ | refine T.skip ?_ | refine T.exit ?_ | refine T.ret ?_ | refine T.rd rfl (by kernel_rfl) ?_ | refine J.bx rfl rfl rfl rfl rfl rfl ?_
  refine T.canon (keep := [0, 2, 9, 10, 17, 18, 19]) (os := []) rfl (T.ind (fun s : Nat × Int × Int => ⟨[(0, .val false (doms d)), (2, .val false (ints coefs)), (9, .val true (.int .i64 s.2.1)), (10, .val true (.int .i64 s.2.2)), (17, .val false (ints vars)), (18, .val true (.int .i64 (vars.map cI).length)), (19, .val true (.int .i64 s.1))], [], 0⟩)
    (fun s => s.1 ≤ vars.length ∧ endsGo ((termsOf d vars coefs).drop s.1) s.2.1 s.2.2 = endsW d vars coefs) (fun s => vars.length - s.1) (0, 0, 0) ⟨by simp, rfl⟩ (fun _ _ h => h) ?_)
  rintro ⟨i, lo, hi⟩ ⟨hil, he⟩ ih
  simp only at hil he
  dsimp only
  repeat' first | refine T.seq ?_ | refine T.block ?_ | refine T.r ?_ | refine J.e rfl rfl rfl rfl ?_ | refine J.nil ?_ | refine J.skip rfl rfl rfl ?_ | refine T.skip ?_ | refine T.exit ?_ | refine T.ret ?_ | refine T.rd rfl (by kernel_rfl) ?_ | refine J.bx rfl rfl rfl rfl rfl rfl ?_
  refine T.cd rfl (fun h1 => ?_) (fun h1 => ?_)
  · have h1 : i < vars.length := by simpa using h1
    have h2 : i < coefs.length := by omega
    have hv := hvin _ (List.getElem_mem h1)
    have hk := hck _ (List.getElem_mem h2)
    have hx := hdom _ (domAt_mem hv.2)
    have hrow : (d.map cD)[vars[i].toNat]? = some (cD (domAt d vars[i])) := by simp [domAt_some hv.2]
    rw [terms_cons h1 h2, endsGo] at he
    repeat' first | refine T.seq ?_ | refine T.block ?_ | refine T.r ?_ | refine J.e rfl rfl rfl rfl ?_ | refine J.nil ?_ | refine J.skip rfl rfl rfl ?_ | refine T.skip ?_ | refine T.exit ?_ | refine T.ret ?_ | refine T.rd rfl (by kernel_rfl) ?_ | refine J.bx rfl rfl rfl rfl rfl rfl ?_
    refine J.i rfl rfl rfl rfl rfl rfl rfl rfl rfl (r := cI vars[i]) (by omega) (row_i h1) rfl ?_
    repeat' first | refine T.seq ?_ | refine T.block ?_ | refine T.r ?_ | refine J.e rfl rfl rfl rfl ?_ | refine J.nil ?_ | refine J.skip rfl rfl rfl ?_ | refine T.skip ?_ | refine T.exit ?_ | refine T.ret ?_ | refine T.rd rfl (by kernel_rfl) ?_ | refine J.bx rfl rfl rfl rfl rfl rfl ?_
    refine J.i rfl rfl rfl rfl rfl rfl rfl rfl rfl (r := cD (domAt d vars[i])) hv.1 hrow rfl ?_
    repeat' first | refine T.seq ?_ | refine T.block ?_ | refine T.r ?_ | refine J.e rfl rfl rfl rfl ?_ | refine J.nil ?_ | refine J.skip rfl rfl rfl ?_ | refine T.skip ?_ | refine T.exit ?_ | refine T.ret ?_ | refine T.rd rfl (by kernel_rfl) ?_ | refine J.bx rfl rfl rfl rfl rfl rfl ?_
    refine J.i rfl rfl rfl rfl rfl rfl rfl rfl rfl (r := cI coefs[i]) (by omega) (row_i h2) rfl ?_
    repeat' first | refine T.seq ?_ | refine T.block ?_ | refine T.r ?_ | refine J.e rfl rfl rfl rfl ?_ | refine J.nil ?_ | refine J.skip rfl rfl rfl ?_ | refine T.skip ?_ | refine T.exit ?_ | refine T.ret ?_ | refine T.rd rfl (by kernel_rfl) ?_ | refine J.bx rfl rfl rfl rfl rfl rfl ?_
    refine J.cc rfl rfl rfl rfl rfl (lend_spec _ _ false hx hk) rfl rfl ?_
    repeat' first | refine T.seq ?_ | refine T.block ?_ | refine T.r ?_ | refine J.e rfl rfl rfl rfl ?_ | refine J.nil ?_ | refine J.skip rfl rfl rfl ?_ | refine T.skip ?_ | refine T.exit ?_ | refine T.ret ?_ | refine T.rd rfl (by kernel_rfl) ?_ | refine J.bx rfl rfl rfl rfl rfl rfl ?_
    refine J.i rfl rfl rfl rfl rfl rfl rfl rfl rfl (r := cD (domAt d vars[i])) hv.1 hrow rfl ?_
    repeat' first | refine T.seq ?_ | refine T.block ?_ | refine T.r ?_ | refine J.e rfl rfl rfl rfl ?_ | refine J.nil ?_ | refine J.skip rfl rfl rfl ?_ | refine T.skip ?_ | refine T.exit ?_ | refine T.ret ?_ | refine T.rd rfl (by kernel_rfl) ?_ | refine J.bx rfl rfl rfl rfl rfl rfl ?_
    refine J.i rfl rfl rfl rfl rfl rfl rfl rfl rfl (r := cI coefs[i]) (by omega) (row_i h2) rfl ?_
    repeat' first | refine T.seq ?_ | refine T.block ?_ | refine T.r ?_ | refine J.e rfl rfl rfl rfl ?_ | refine J.nil ?_ | refine J.skip rfl rfl rfl ?_ | refine T.skip ?_ | refine T.exit ?_ | refine T.ret ?_ | refine T.rd rfl (by kernel_rfl) ?_ | refine J.bx rfl rfl rfl rfl rfl rfl ?_
    refine J.cc rfl rfl rfl rfl rfl (lend_spec _ _ true hx hk) rfl rfl ?_
    generalize endW (domAt d vars[i]) coefs[i] false = e1 at *
    generalize endW (domAt d vars[i]) coefs[i] true = e2 at *
    obtain ⟨n1, b1⟩ := e1
    repeat' first | refine T.seq ?_ | refine T.block ?_ | refine T.r ?_ | refine J.e rfl rfl rfl rfl ?_ | refine J.nil ?_ | refine J.skip rfl rfl rfl ?_ | refine T.skip ?_ | refine T.exit ?_ | refine T.ret ?_ | refine T.rd rfl (by kernel_rfl) ?_ | refine J.bx rfl rfl rfl rfl rfl rfl ?_
    cases b1
    · simp only [Bool.false_eq_true, if_false] at he
      repeat' first | refine T.seq ?_ | refine T.block ?_ | refine T.r ?_ | refine J.e rfl rfl rfl rfl ?_ | refine J.nil ?_ | refine J.skip rfl rfl rfl ?_ | refine T.skip ?_ | refine T.exit ?_ | refine T.ret ?_ | refine T.rd rfl (by kernel_rfl) ?_ | refine J.bx rfl rfl rfl rfl rfl rfl ?_
      refine T.ct rfl ?_
      repeat' first | refine T.seq ?_ | refine T.block ?_ | refine T.r ?_ | refine J.e rfl rfl rfl rfl ?_ | refine J.nil ?_ | refine J.skip rfl rfl rfl ?_ | refine T.skip ?_ | refine T.exit ?_ | refine T.ret ?_ | refine T.rd rfl (by kernel_rfl) ?_ | refine J.bx rfl rfl rfl rfl rfl rfl ?_
      exact ⟨_, .v rfl rfl (by rw [← he]) (fun _ => rfl) (.v rfl rfl (by rw [← he]) (fun _ => rfl) (.v rfl rfl (by rw [← he]) (fun _ => rfl) .nil))⟩
    · simp only [if_true] at he
      repeat' first | refine T.seq ?_ | refine T.block ?_ | refine T.r ?_ | refine J.e rfl rfl rfl rfl ?_ | refine J.nil ?_ | refine J.skip rfl rfl rfl ?_ | refine T.skip ?_ | refine T.exit ?_ | refine T.ret ?_ | refine T.rd rfl (by kernel_rfl) ?_ | refine J.bx rfl rfl rfl rfl rfl rfl ?_
      refine T.cf rfl ?_
      repeat' first | refine T.seq ?_ | refine T.block ?_ | refine T.r ?_ | refine J.e rfl rfl rfl rfl ?_ | refine J.nil ?_ | refine J.skip rfl rfl rfl ?_ | refine T.skip ?_ | refine T.exit ?_ | refine T.ret ?_ | refine T.rd rfl (by kernel_rfl) ?_ | refine J.bx rfl rfl rfl rfl rfl rfl ?_
      rw [wrap1 (l := vars.length) (by omega) (by omega)]
      exact T.canon (keep := [0, 2, 9, 10, 17, 18, 19]) (os := []) rfl (ih (i + 1, wr (lo + n1), wr (hi + e2.1)) ⟨by simp only; omega, he⟩ (by simp only; omega))
  · have h1 : i = vars.length := by simp at h1; omega
    subst h1
    rw [terms_end hlen] at he
    repeat' first | refine T.seq ?_ | refine T.block ?_ | refine T.r ?_ | refine J.e rfl rfl rfl rfl ?_ | refine J.nil ?_ | refine J.skip rfl rfl rfl ?_ | refine T.skip ?_ | refine T.exit ?_ | refine T.ret ?_ | refine T.rd rfl (by kernel_rfl) ?_ | refine J.bx rfl rfl rfl rfl rfl rfl ?_
    exact ⟨_, .v rfl rfl (by rw [← he]; rfl) (fun _ => rfl) (.v rfl rfl (by rw [← he]; rfl) (fun _ => rfl) (.v rfl rfl (by rw [← he]; rfl) (fun _ => rfl) .nil))⟩

theorem rend_spec (d : List (Int × Int)) (k : Int) (hd : DomB d) : Spec Try.prog 55 false [dm d, .int .i64 k] [.val (.int .i64 (endR d k).1), .val (.int .i64 (endR d k).2.1), .val (.bool (endR d k).2.2)] := by
  refine Spec.body Try.func55 rfl rfl rfl fun w0 Z0 => ?_
  repeat' first | refine T.seq ?_ | refine T.block ?_ | refine T.r ?_ | refine J.e rfl rfl rfl rfl ?_ | refine J.nil ?_ | refine J.skip rfl rfl rfl ?_ | refine T.skip ?_ | refine T.exit ?_ | refine T.ret ?_ | refine T.rd rfl (by kernel_rfl) ?_ | refine J.bx rfl rfl rfl rfl rfl rfl ?_
  refine J.cc rfl rfl rfl rfl rfl (ends_spec d hd) rfl rfl ?_
  repeat' first | refine T.seq ?_ | refine T.block ?_ | refine T.r ?_ | refine J.e rfl rfl rfl rfl ?_ | refine J.nil ?_ | refine J.skip rfl rfl rfl ?_ | refine T.skip ?_ | refine T.exit ?_ | refine T.ret ?_ | refine T.rd rfl (by kernel_rfl) ?_ | refine J.bx rfl rfl rfl rfl rfl rfl ?_
  exact ⟨_, .v rfl rfl rfl (fun _ => rfl) (.v rfl rfl rfl (fun _ => rfl) (.v rfl rfl rfl (fun _ => rfl) .nil))⟩
theorem rends_spec (d : Doms) (vars coefs : List Int) (h : SumIn d vars coefs) : Spec Try.prog 19 false [doms d, ints vars, ints coefs] [.val (.int .i64 (endsRW d vars coefs).1), .val (.int .i64 (endsRW d vars coefs).2.1), .val (.bool (endsRW d vars coefs).2.2)] := by
  refine Spec.body Try.func19 rfl rfl rfl fun w0 Z0 => ?_
  obtain ⟨hlen, hvl, hvin, hck, hdom, hdl⟩ := h
  repeat' first | refine T.seq ?_ | refine T.block ?_ | refine T.r ?_ | refine J.e rfl rfl rfl rfl ?_ | refine J.nil ?_ | refine J.skip rfl rfl rfl ?_ | refine T.skip ?_ | refine T.exit ?_ | refine T.ret ?_ | refine T.rd rfl (by kernel_rfl) ?_ | refine J.bx rfl rfl rfl rfl rfl rfl ?_
  refine T.canon (keep := [0, 1, 2, 9, 10, 11]) (os := []) rfl (T.ind (fun s : Nat × Int × Int => ⟨[(0, .val false (doms d)), (1, .val false (ints vars)), (2, .val false (ints coefs)), (9, .val true (.int .i64 s.2.1)), (10, .val true (.int .i64 s.2.2)), (11, .val true (.int .i64 s.1))], [], 0⟩)
    (fun s => s.1 ≤ vars.length ∧ endsRGo ((termsOf d vars coefs).drop s.1) s.2.1 s.2.2 = endsRW d vars coefs) (fun s => vars.length - s.1) (0, 0, 0) ⟨by simp, rfl⟩ (fun _ _ h => h) ?_)
  rintro ⟨i, lo, hi⟩ ⟨hil, he⟩ ih
  simp only at hil he
  dsimp only
  repeat' first | refine T.seq ?_ | refine T.block ?_ | refine T.r ?_ | refine J.e rfl rfl rfl rfl ?_ | refine J.nil ?_ | refine J.skip rfl rfl rfl ?_ | refine T.skip ?_ | refine T.exit ?_ | refine T.ret ?_ | refine T.rd rfl (by kernel_rfl) ?_ | refine J.bx rfl rfl rfl rfl rfl rfl ?_
  refine T.cd rfl (fun h1 => ?_) (fun h1 => ?_)
  · have h1 : i < vars.length := by simpa using h1
    have h2 : i < coefs.length := by omega
    have hv := hvin _ (List.getElem_mem h1)
    have hx := hdom _ (domAt_mem hv.2)
    have hrow : (d.map cD)[vars[i].toNat]? = some (cD (domAt d vars[i])) := by simp [domAt_some hv.2]
    rw [terms_cons h1 h2, endsRGo] at he
    repeat' first | refine T.seq ?_ | refine T.block ?_ | refine T.r ?_ | refine J.e rfl rfl rfl rfl ?_ | refine J.nil ?_ | refine J.skip rfl rfl rfl ?_ | refine T.skip ?_ | refine T.exit ?_ | refine T.ret ?_ | refine T.rd rfl (by kernel_rfl) ?_ | refine J.bx rfl rfl rfl rfl rfl rfl ?_
    refine J.i rfl rfl rfl rfl rfl rfl rfl rfl rfl (r := cI vars[i]) (by omega) (row_i h1) rfl ?_
    repeat' first | refine T.seq ?_ | refine T.block ?_ | refine T.r ?_ | refine J.e rfl rfl rfl rfl ?_ | refine J.nil ?_ | refine J.skip rfl rfl rfl ?_ | refine T.skip ?_ | refine T.exit ?_ | refine T.ret ?_ | refine T.rd rfl (by kernel_rfl) ?_ | refine J.bx rfl rfl rfl rfl rfl rfl ?_
    refine J.i rfl rfl rfl rfl rfl rfl rfl rfl rfl (r := cD (domAt d vars[i])) hv.1 hrow rfl ?_
    repeat' first | refine T.seq ?_ | refine T.block ?_ | refine T.r ?_ | refine J.e rfl rfl rfl rfl ?_ | refine J.nil ?_ | refine J.skip rfl rfl rfl ?_ | refine T.skip ?_ | refine T.exit ?_ | refine T.ret ?_ | refine T.rd rfl (by kernel_rfl) ?_ | refine J.bx rfl rfl rfl rfl rfl rfl ?_
    refine J.i rfl rfl rfl rfl rfl rfl rfl rfl rfl (r := cI coefs[i]) (by omega) (row_i h2) rfl ?_
    repeat' first | refine T.seq ?_ | refine T.block ?_ | refine T.r ?_ | refine J.e rfl rfl rfl rfl ?_ | refine J.nil ?_ | refine J.skip rfl rfl rfl ?_ | refine T.skip ?_ | refine T.exit ?_ | refine T.ret ?_ | refine T.rd rfl (by kernel_rfl) ?_ | refine J.bx rfl rfl rfl rfl rfl rfl ?_
    refine J.cc rfl rfl rfl rfl rfl (rend_spec _ coefs[i] hx) rfl rfl ?_
    generalize endR (domAt d vars[i]) coefs[i] = e1 at *
    obtain ⟨n1, n2, b1⟩ := e1
    cases b1
    · simp only [Bool.false_eq_true, if_false] at he
      repeat' first | refine T.seq ?_ | refine T.block ?_ | refine T.r ?_ | refine J.e rfl rfl rfl rfl ?_ | refine J.nil ?_ | refine J.skip rfl rfl rfl ?_ | refine T.skip ?_ | refine T.exit ?_ | refine T.ret ?_ | refine T.rd rfl (by kernel_rfl) ?_ | refine J.bx rfl rfl rfl rfl rfl rfl ?_
      refine T.ct rfl ?_
      repeat' first | refine T.seq ?_ | refine T.block ?_ | refine T.r ?_ | refine J.e rfl rfl rfl rfl ?_ | refine J.nil ?_ | refine J.skip rfl rfl rfl ?_ | refine T.skip ?_ | refine T.exit ?_ | refine T.ret ?_ | refine T.rd rfl (by kernel_rfl) ?_ | refine J.bx rfl rfl rfl rfl rfl rfl ?_
      exact ⟨_, .v rfl rfl (by rw [← he]) (fun _ => rfl) (.v rfl rfl (by rw [← he]) (fun _ => rfl) (.v rfl rfl (by rw [← he]) (fun _ => rfl) .nil))⟩
    · simp only [if_true] at he
      repeat' first | refine T.seq ?_ | refine T.block ?_ | refine T.r ?_ | refine J.e rfl rfl rfl rfl ?_ | refine J.nil ?_ | refine J.skip rfl rfl rfl ?_ | refine T.skip ?_ | refine T.exit ?_ | refine T.ret ?_ | refine T.rd rfl (by kernel_rfl) ?_ | refine J.bx rfl rfl rfl rfl rfl rfl ?_
      refine T.cf rfl ?_
      repeat' first | refine T.seq ?_ | refine T.block ?_ | refine T.r ?_ | refine J.e rfl rfl rfl rfl ?_ | refine J.nil ?_ | refine J.skip rfl rfl rfl ?_ | refine T.skip ?_ | refine T.exit ?_ | refine T.ret ?_ | refine T.rd rfl (by kernel_rfl) ?_ | refine J.bx rfl rfl rfl rfl rfl rfl ?_
      rw [wrap1 (l := vars.length) (by omega) (by omega)]
      exact T.canon (keep := [0, 1, 2, 9, 10, 11]) (os := []) rfl (ih (i + 1, wr (lo + n1), wr (hi + n2)) ⟨by simp only; omega, he⟩ (by simp only; omega))
  · have h1 : i = vars.length := by simp at h1; omega
    subst h1
    rw [terms_end hlen] at he
    repeat' first | refine T.seq ?_ | refine T.block ?_ | refine T.r ?_ | refine J.e rfl rfl rfl rfl ?_ | refine J.nil ?_ | refine J.skip rfl rfl rfl ?_ | refine T.skip ?_ | refine T.exit ?_ | refine T.ret ?_ | refine T.rd rfl (by kernel_rfl) ?_ | refine J.bx rfl rfl rfl rfl rfl rfl ?_
    exact ⟨_, .v rfl rfl (by rw [← he]; rfl) (fun _ => rfl) (.v rfl rfl (by rw [← he]; rfl) (fun _ => rfl) (.v rfl rfl (by rw [← he]; rfl) (fun _ => rfl) .nil))⟩

theorem lown_spec (d : Doms) (hl : d.length * 24 ≤ 140737488355328) (hx : ∀ x ∈ d, x.length * 16 ≤ 140737488355328) : Spec Try.prog 45 false [doms d] [.own 38 1 ((if [] ∈ d then [] else d).map cD), .val (.bool (!decide ([] ∈ d)))] := by
  refine Spec.body Try.func45 rfl rfl rfl fun w0 Z0 => ?_
  repeat' first | refine T.seq ?_ | refine T.block ?_ | refine T.r ?_ | refine J.e rfl rfl rfl rfl ?_ | refine J.nil ?_ | refine J.skip rfl rfl rfl ?_ | refine T.skip ?_ | refine T.exit ?_ | refine T.ret ?_ | refine T.rd rfl (by kernel_rfl) ?_ | refine J.bx rfl rfl rfl rfl rfl rfl ?_
  refine T.sub (Rel.own0 (s := 4) 38 1 rfl) ?_
  refine T.canon (keep := [4, 7, 8, 9]) (os := [4]) rfl (T.listI d (fun pre => [] ∉ pre) (fun n pre post => ⟨[(4, .ref 0), (7, .val false (doms d)), (8, .val true (.int .i64 (d.map cD).length)), (9, .val true (.int .i64 n))], [(0, some (.sl 38 1 true (pre.map cD)))], 1⟩) (fun _ _ h => h) (by simp) ?_ ?_)
  · rintro n pre x post h hn hi ih
    have hlt := at_lt h hn
    have hxl := hx x (by rw [h]; simp)
    repeat' first | refine T.seq ?_ | refine T.block ?_ | refine T.r ?_ | refine J.e rfl rfl rfl rfl ?_ | refine J.nil ?_ | refine J.skip rfl rfl rfl ?_ | refine T.skip ?_ | refine T.exit ?_ | refine T.ret ?_ | refine T.rd rfl (by kernel_rfl) ?_ | refine J.bx rfl rfl rfl rfl rfl rfl ?_
    refine T.ct2 rfl (lt_at h hn) ?_
    repeat' first | refine T.seq ?_ | refine T.block ?_ | refine T.r ?_ | refine J.e rfl rfl rfl rfl ?_ | refine J.nil ?_ | refine J.skip rfl rfl rfl ?_ | refine T.skip ?_ | refine T.exit ?_ | refine T.ret ?_ | refine T.rd rfl (by kernel_rfl) ?_ | refine J.bx rfl rfl rfl rfl rfl rfl ?_
    refine J.i rfl rfl rfl rfl rfl rfl rfl rfl rfl (r := cD x) (by omega) (row_at h hn) rfl ?_
    repeat' first | refine T.seq ?_ | refine T.block ?_ | refine T.r ?_ | refine J.e rfl rfl rfl rfl ?_ | refine J.nil ?_ | refine J.skip rfl rfl rfl ?_ | refine T.skip ?_ | refine T.exit ?_ | refine T.ret ?_ | refine T.rd rfl (by kernel_rfl) ?_ | refine J.bx rfl rfl rfl rfl rfl rfl ?_
    refine T.cd rfl (fun h1 => ?_) (fun h1 => ?_)
    · have hx : x = [] := by simp at h1; exact h1
      have hm : [] ∈ d := by rw [h, hx]; simp
      rw [if_pos hm, decide_eq_true hm]
      repeat' first | refine T.seq ?_ | refine T.block ?_ | refine T.r ?_ | refine J.e rfl rfl rfl rfl ?_ | refine J.nil ?_ | refine J.skip rfl rfl rfl ?_ | refine T.skip ?_ | refine T.exit ?_ | refine T.ret ?_ | refine T.rd rfl (by kernel_rfl) ?_ | refine J.bx rfl rfl rfl rfl rfl rfl ?_
      exact ⟨_, .ownN rfl (.v rfl rfl rfl (fun _ => rfl) .nil)⟩
    · have hx : x ≠ [] := fun e => h1 (by rw [e]; rfl)
      repeat' first | refine T.seq ?_ | refine T.block ?_ | refine T.r ?_ | refine J.e rfl rfl rfl rfl ?_ | refine J.nil ?_ | refine J.skip rfl rfl rfl ?_ | refine T.skip ?_ | refine T.exit ?_ | refine T.ret ?_ | refine T.rd rfl (by kernel_rfl) ?_ | refine J.bx rfl rfl rfl rfl rfl rfl ?_
      refine J.cc rfl rfl rfl rfl rfl (clone_spec x (by omega)).frz rfl rfl ?_
      repeat' first | refine T.seq ?_ | refine T.block ?_ | refine T.r ?_ | refine J.e rfl rfl rfl rfl ?_ | refine J.nil ?_ | refine J.skip rfl rfl rfl ?_ | refine T.skip ?_ | refine T.exit ?_ | refine T.ret ?_ | refine T.rd rfl (by kernel_rfl) ?_ | refine J.bx rfl rfl rfl rfl rfl rfl ?_
      refine J.bv rfl rfl rfl rfl rfl rfl rfl rfl rfl rfl rfl rfl ?_
      repeat' first | refine T.seq ?_ | refine T.block ?_ | refine T.r ?_ | refine J.e rfl rfl rfl rfl ?_ | refine J.nil ?_ | refine J.skip rfl rfl rfl ?_ | refine T.skip ?_ | refine T.exit ?_ | refine T.ret ?_ | refine T.rd rfl (by kernel_rfl) ?_ | refine J.bx rfl rfl rfl rfl rfl rfl ?_
      refine J.aD rfl rfl rfl rfl rfl rfl rfl rfl rfl rfl rfl rfl rfl rfl rfl rfl rfl rfl rfl (by omega) ?_
      repeat' first | refine T.seq ?_ | refine T.block ?_ | refine T.r ?_ | refine J.e rfl rfl rfl rfl ?_ | refine J.nil ?_ | refine J.skip rfl rfl rfl ?_ | refine T.skip ?_ | refine T.exit ?_ | refine T.ret ?_ | refine T.rd rfl (by kernel_rfl) ?_ | refine J.bx rfl rfl rfl rfl rfl rfl ?_
      rw [wrap1 hlt (by omega)]
      exact T.canon (keep := [4, 7, 8, 9]) (os := [4]) rfl (ih (by simp [hi, Ne.symm hx]))
  · intro hi
    repeat' first | refine T.seq ?_ | refine T.block ?_ | refine T.r ?_ | refine J.e rfl rfl rfl rfl ?_ | refine J.nil ?_ | refine J.skip rfl rfl rfl ?_ | refine T.skip ?_ | refine T.exit ?_ | refine T.ret ?_ | refine T.rd rfl (by kernel_rfl) ?_ | refine J.bx rfl rfl rfl rfl rfl rfl ?_
    refine T.cf2 rfl lt_end ?_
    repeat' first | refine T.seq ?_ | refine T.block ?_ | refine T.r ?_ | refine J.e rfl rfl rfl rfl ?_ | refine J.nil ?_ | refine J.skip rfl rfl rfl ?_ | refine T.skip ?_ | refine T.exit ?_ | refine T.ret ?_ | refine T.rd rfl (by kernel_rfl) ?_ | refine J.bx rfl rfl rfl rfl rfl rfl ?_
    exact ⟨_, .o rfl rfl (by rw [if_neg hi]) (fun _ => .inl rfl) (by simp) (.v rfl rfl (by simp [hi]) (fun _ => rfl) .nil)⟩

/-- A quotient, cut down. -/
def floorW (a b : Int) : Int := if a.tmod b < 0 then wr (wr (a.tdiv b) - 1) else wr (a.tdiv b)
theorem floor_spec (a b : Int) (hb : b ≠ 0) : Spec Try.prog 83 false [.int .i64 a, .int .i64 b] [.val (.int .i64 (floorW a b))] := by
  refine Spec.body Try.func83 rfl rfl rfl fun w0 Z0 => ?_
  unfold floorW
  repeat' first | refine T.seq ?_ | refine T.block ?_ | refine T.r ?_ | refine J.e rfl rfl rfl rfl ?_ | refine J.nil ?_ | refine J.skip rfl rfl rfl ?_ | refine T.skip ?_ | refine T.exit ?_ | refine T.ret ?_ | refine T.rd rfl (by kernel_rfl) ?_ | refine J.bx rfl rfl rfl rfl rfl rfl ?_
  refine J.qu rfl rfl rfl rfl rfl rfl hb ?_
  repeat' first | refine T.seq ?_ | refine T.block ?_ | refine T.r ?_ | refine J.e rfl rfl rfl rfl ?_ | refine J.nil ?_ | refine J.skip rfl rfl rfl ?_ | refine T.skip ?_ | refine T.exit ?_ | refine T.ret ?_ | refine T.rd rfl (by kernel_rfl) ?_ | refine J.bx rfl rfl rfl rfl rfl rfl ?_
  refine J.rm rfl rfl rfl rfl rfl rfl hb ?_
  repeat' first | refine T.seq ?_ | refine T.block ?_ | refine T.r ?_ | refine J.e rfl rfl rfl rfl ?_ | refine J.nil ?_ | refine J.skip rfl rfl rfl ?_ | refine T.skip ?_ | refine T.exit ?_ | refine T.ret ?_ | refine T.rd rfl (by kernel_rfl) ?_ | refine J.bx rfl rfl rfl rfl rfl rfl ?_
  refine T.cd rfl (fun h => ?_) (fun h => ?_)
  · have h : a.tmod b < 0 := h
    repeat' first | refine T.seq ?_ | refine T.block ?_ | refine T.r ?_ | refine J.e rfl rfl rfl rfl ?_ | refine J.nil ?_ | refine J.skip rfl rfl rfl ?_ | refine T.skip ?_ | refine T.exit ?_ | refine T.ret ?_ | refine T.rd rfl (by kernel_rfl) ?_ | refine J.bx rfl rfl rfl rfl rfl rfl ?_
    exact ⟨_, .v rfl rfl (by rw [if_pos h]) (fun _ => rfl) .nil⟩
  · have h : ¬ a.tmod b < 0 := h
    repeat' first | refine T.seq ?_ | refine T.block ?_ | refine T.r ?_ | refine J.e rfl rfl rfl rfl ?_ | refine J.nil ?_ | refine J.skip rfl rfl rfl ?_ | refine T.skip ?_ | refine T.exit ?_ | refine T.ret ?_ | refine T.rd rfl (by kernel_rfl) ?_ | refine J.bx rfl rfl rfl rfl rfl rfl ?_
    exact ⟨_, .v rfl rfl (by rw [if_neg h]) (fun _ => rfl) .nil⟩

def turnedW (l : List Int) : List Int := l.map fun k => wr (0 - k)
theorem lturned_spec (l : List Int) (hl : l.length * 8 ≤ 140737488355328) : Spec Try.prog 47 false [ints l] [.own 3 1 ((turnedW l).map cI)] := by
  refine Spec.body Try.func47 rfl rfl rfl fun w0 Z0 => ?_
  repeat' first | refine T.seq ?_ | refine T.block ?_ | refine T.r ?_ | refine J.e rfl rfl rfl rfl ?_ | refine J.nil ?_ | refine J.skip rfl rfl rfl ?_ | refine T.skip ?_ | refine T.exit ?_ | refine T.ret ?_ | refine T.rd rfl (by kernel_rfl) ?_ | refine J.bx rfl rfl rfl rfl rfl rfl ?_
  refine T.sub (Rel.own0 (s := 3) 3 1 rfl) ?_
  refine T.canon (keep := [3, 6, 7, 8]) (os := [3]) rfl (T.list l (fun n pre post => ⟨[(3, .ref 0), (6, .val false (ints l)), (7, .val true (.int .i64 (l.map cI).length)), (8, .val true (.int .i64 n))], [(0, some (.sl 3 1 true ((turnedW pre).map cI)))], 1⟩) (fun _ _ h => h) ?_ ?_)
  · rintro n pre x post h hn ih
    have hlt := at_lt h hn
    repeat' first | refine T.seq ?_ | refine T.block ?_ | refine T.r ?_ | refine J.e rfl rfl rfl rfl ?_ | refine J.nil ?_ | refine J.skip rfl rfl rfl ?_ | refine T.skip ?_ | refine T.exit ?_ | refine T.ret ?_ | refine T.rd rfl (by kernel_rfl) ?_ | refine J.bx rfl rfl rfl rfl rfl rfl ?_
    refine T.ct2 rfl (lt_at h hn) ?_
    repeat' first | refine T.seq ?_ | refine T.block ?_ | refine T.r ?_ | refine J.e rfl rfl rfl rfl ?_ | refine J.nil ?_ | refine J.skip rfl rfl rfl ?_ | refine T.skip ?_ | refine T.exit ?_ | refine T.ret ?_ | refine T.rd rfl (by kernel_rfl) ?_ | refine J.bx rfl rfl rfl rfl rfl rfl ?_
    refine J.i rfl rfl rfl rfl rfl rfl rfl rfl rfl (r := cI x) (by omega) (row_at h hn) rfl ?_
    repeat' first | refine T.seq ?_ | refine T.block ?_ | refine T.r ?_ | refine J.e rfl rfl rfl rfl ?_ | refine J.nil ?_ | refine J.skip rfl rfl rfl ?_ | refine T.skip ?_ | refine T.exit ?_ | refine T.ret ?_ | refine T.rd rfl (by kernel_rfl) ?_ | refine J.bx rfl rfl rfl rfl rfl rfl ?_
    refine J.bv rfl rfl rfl rfl rfl rfl rfl rfl rfl rfl rfl rfl ?_
    refine J.aI rfl rfl rfl rfl rfl rfl rfl rfl rfl rfl rfl rfl rfl rfl rfl rfl rfl rfl rfl (by simp [turnedW]; omega) ?_
    repeat' first | refine T.seq ?_ | refine T.block ?_ | refine T.r ?_ | refine J.e rfl rfl rfl rfl ?_ | refine J.nil ?_ | refine J.skip rfl rfl rfl ?_ | refine T.skip ?_ | refine T.exit ?_ | refine T.ret ?_ | refine T.rd rfl (by kernel_rfl) ?_ | refine J.bx rfl rfl rfl rfl rfl rfl ?_
    rw [wrap1 hlt (by omega), show turnedW pre ++ [IntKind.i64.wrap (0 - x)] = turnedW (pre ++ [x]) by simp [turnedW]]
    exact T.canon (keep := [3, 6, 7, 8]) (os := [3]) rfl ih
  · repeat' first | refine T.seq ?_ | refine T.block ?_ | refine T.r ?_ | refine J.e rfl rfl rfl rfl ?_ | refine J.nil ?_ | refine J.skip rfl rfl rfl ?_ | refine T.skip ?_ | refine T.exit ?_ | refine T.ret ?_ | refine T.rd rfl (by kernel_rfl) ?_ | refine J.bx rfl rfl rfl rfl rfl rfl ?_
    refine T.cf2 rfl lt_end ?_
    repeat' first | refine T.seq ?_ | refine T.block ?_ | refine T.r ?_ | refine J.e rfl rfl rfl rfl ?_ | refine J.nil ?_ | refine J.skip rfl rfl rfl ?_ | refine T.skip ?_ | refine T.exit ?_ | refine T.ret ?_ | refine T.rd rfl (by kernel_rfl) ?_ | refine J.bx rfl rfl rfl rfl rfl rfl ?_
    exact ⟨_, .o rfl rfl rfl (fun _ => .inl rfl) (by simp) .nil⟩
theorem rturned_spec (l : List Int) (hl : l.length * 8 ≤ 140737488355328) : Spec Try.prog 53 false [ints l] [.own 3 1 ((turnedW l).map cI)] := by
  refine Spec.body Try.func53 rfl rfl rfl fun w0 Z0 => ?_
  repeat' first | refine T.seq ?_ | refine T.block ?_ | refine T.r ?_ | refine J.e rfl rfl rfl rfl ?_ | refine J.nil ?_ | refine J.skip rfl rfl rfl ?_ | refine T.skip ?_ | refine T.exit ?_ | refine T.ret ?_ | refine T.rd rfl (by kernel_rfl) ?_ | refine J.bx rfl rfl rfl rfl rfl rfl ?_
  refine J.bo rfl rfl rfl rfl rfl rfl rfl rfl rfl rfl rfl rfl ?_
  repeat' first | refine T.seq ?_ | refine T.block ?_ | refine T.r ?_ | refine J.e rfl rfl rfl rfl ?_ | refine J.nil ?_ | refine J.skip rfl rfl rfl ?_ | refine T.skip ?_ | refine T.exit ?_ | refine T.ret ?_ | refine T.rd rfl (by kernel_rfl) ?_ | refine J.bx rfl rfl rfl rfl rfl rfl ?_
  refine T.canon (keep := [0, 3, 4]) (os := [3]) rfl (T.list l (fun n pre post => ⟨[(0, .val false (ints l)), (3, .ref 0), (4, .val true (.int .i64 n))], [(0, some (.sl 3 1 true ((turnedW pre).map cI)))], 1⟩) (fun _ _ h => h) ?_ ?_)
  · rintro n pre x post h hn ih
    have hlt := at_lt h hn
    repeat' first | refine T.seq ?_ | refine T.block ?_ | refine T.r ?_ | refine J.e rfl rfl rfl rfl ?_ | refine J.nil ?_ | refine J.skip rfl rfl rfl ?_ | refine T.skip ?_ | refine T.exit ?_ | refine T.ret ?_ | refine T.rd rfl (by kernel_rfl) ?_ | refine J.bx rfl rfl rfl rfl rfl rfl ?_
    refine T.ct2 rfl (lt_at h hn) ?_
    repeat' first | refine T.seq ?_ | refine T.block ?_ | refine T.r ?_ | refine J.e rfl rfl rfl rfl ?_ | refine J.nil ?_ | refine J.skip rfl rfl rfl ?_ | refine T.skip ?_ | refine T.exit ?_ | refine T.ret ?_ | refine T.rd rfl (by kernel_rfl) ?_ | refine J.bx rfl rfl rfl rfl rfl rfl ?_
    refine J.i rfl rfl rfl rfl rfl rfl rfl rfl rfl (r := cI x) (by omega) (row_at h hn) rfl ?_
    repeat' first | refine T.seq ?_ | refine T.block ?_ | refine T.r ?_ | refine J.e rfl rfl rfl rfl ?_ | refine J.nil ?_ | refine J.skip rfl rfl rfl ?_ | refine T.skip ?_ | refine T.exit ?_ | refine T.ret ?_ | refine T.rd rfl (by kernel_rfl) ?_ | refine J.bx rfl rfl rfl rfl rfl rfl ?_
    refine J.bv rfl rfl rfl rfl rfl rfl rfl rfl rfl rfl rfl rfl ?_
    refine J.aI rfl rfl rfl rfl rfl rfl rfl rfl rfl rfl rfl rfl rfl rfl rfl rfl rfl rfl rfl (by simp [turnedW]; omega) ?_
    repeat' first | refine T.seq ?_ | refine T.block ?_ | refine T.r ?_ | refine J.e rfl rfl rfl rfl ?_ | refine J.nil ?_ | refine J.skip rfl rfl rfl ?_ | refine T.skip ?_ | refine T.exit ?_ | refine T.ret ?_ | refine T.rd rfl (by kernel_rfl) ?_ | refine J.bx rfl rfl rfl rfl rfl rfl ?_
    rw [wrap1 hlt (by omega), show turnedW pre ++ [IntKind.i64.wrap (0 - x)] = turnedW (pre ++ [x]) by simp [turnedW]]
    exact T.canon (keep := [0, 3, 4]) (os := [3]) rfl ih
  · repeat' first | refine T.seq ?_ | refine T.block ?_ | refine T.r ?_ | refine J.e rfl rfl rfl rfl ?_ | refine J.nil ?_ | refine J.skip rfl rfl rfl ?_ | refine T.skip ?_ | refine T.exit ?_ | refine T.ret ?_ | refine T.rd rfl (by kernel_rfl) ?_ | refine J.bx rfl rfl rfl rfl rfl rfl ?_
    refine T.cf2 rfl lt_end ?_
    repeat' first | refine T.seq ?_ | refine T.block ?_ | refine T.r ?_ | refine J.e rfl rfl rfl rfl ?_ | refine J.nil ?_ | refine J.skip rfl rfl rfl ?_ | refine T.skip ?_ | refine T.exit ?_ | refine T.ret ?_ | refine T.rd rfl (by kernel_rfl) ?_ | refine J.bx rfl rfl rfl rfl rfl rfl ?_
    exact ⟨_, .o rfl rfl rfl (fun _ => .inl rfl) (by simp) .nil⟩
theorem clonei_spec (l : List Int) (hl : l.length * 8 ≤ 140737488355328) : Spec Try.prog 60 false [ints l] [.own 3 1 (l.map cI)] := by
  refine Spec.body Try.func60 rfl rfl rfl fun w0 Z0 => ?_
  repeat' first | refine T.seq ?_ | refine T.block ?_ | refine T.r ?_ | refine J.e rfl rfl rfl rfl ?_ | refine J.nil ?_ | refine J.skip rfl rfl rfl ?_ | refine T.skip ?_ | refine T.exit ?_ | refine T.ret ?_ | refine T.rd rfl (by kernel_rfl) ?_ | refine J.bx rfl rfl rfl rfl rfl rfl ?_
  refine J.nc rfl rfl rfl rfl rfl rfl rfl fun b hb => ?_
  repeat' first | refine T.seq ?_ | refine T.block ?_ | refine T.r ?_ | refine J.e rfl rfl rfl rfl ?_ | refine J.nil ?_ | refine J.skip rfl rfl rfl ?_ | refine T.skip ?_ | refine T.exit ?_ | refine T.ret ?_ | refine T.rd rfl (by kernel_rfl) ?_ | refine J.bx rfl rfl rfl rfl rfl rfl ?_
  cases b
  · refine T.cf rfl ?_
    repeat' first | refine T.seq ?_ | refine T.block ?_ | refine T.r ?_ | refine J.e rfl rfl rfl rfl ?_ | refine J.nil ?_ | refine J.skip rfl rfl rfl ?_ | refine T.skip ?_ | refine T.exit ?_ | refine T.ret ?_ | refine T.rd rfl (by kernel_rfl) ?_ | refine J.bx rfl rfl rfl rfl rfl rfl ?_
    refine J.bo rfl rfl rfl rfl rfl rfl rfl rfl rfl rfl rfl rfl ?_
    repeat' first | refine T.seq ?_ | refine T.block ?_ | refine T.r ?_ | refine J.e rfl rfl rfl rfl ?_ | refine J.nil ?_ | refine J.skip rfl rfl rfl ?_ | refine T.skip ?_ | refine T.exit ?_ | refine T.ret ?_ | refine T.rd rfl (by kernel_rfl) ?_ | refine J.bx rfl rfl rfl rfl rfl rfl ?_
    refine J.a rfl rfl rfl rfl rfl rfl rfl rfl rfl rfl rfl rfl rfl rfl rfl rfl rfl len_I (by show (0 + List.length _) * 8 ≤ _; simp; omega) ?_
    repeat' first | refine T.seq ?_ | refine T.block ?_ | refine T.r ?_ | refine J.e rfl rfl rfl rfl ?_ | refine J.nil ?_ | refine J.skip rfl rfl rfl ?_ | refine T.skip ?_ | refine T.exit ?_ | refine T.ret ?_ | refine T.rd rfl (by kernel_rfl) ?_ | refine J.bx rfl rfl rfl rfl rfl rfl ?_
    exact ⟨_, .o rfl rfl rfl (fun _ => .inr flat_I) (by simp) .nil⟩
  · have : l = [] := by simpa using hb rfl
    subst this
    refine T.ct rfl ?_
    repeat' first | refine T.seq ?_ | refine T.block ?_ | refine T.r ?_ | refine J.e rfl rfl rfl rfl ?_ | refine J.nil ?_ | refine J.skip rfl rfl rfl ?_ | refine T.skip ?_ | refine T.exit ?_ | refine T.ret ?_ | refine T.rd rfl (by kernel_rfl) ?_ | refine J.bx rfl rfl rfl rfl rfl rfl ?_
    exact ⟨_, .ownN rfl .nil⟩
/-- Domains, if none is empty. -/
theorem told_spec (d : Doms) (hl : d.length * 8 ≤ 140737488355328) : Spec Try.prog 50 true [doms d] ([doms (if [] ∈ d then [] else d), .bool (!decide ([] ∈ d))].map .val) := by
  refine Spec.body Try.func50 rfl rfl rfl fun w0 Z0 => ?_
  repeat' first | refine T.seq ?_ | refine T.block ?_ | refine T.r ?_ | refine J.e rfl rfl rfl rfl ?_ | refine J.nil ?_ | refine J.skip rfl rfl rfl ?_ | refine T.skip ?_ | refine T.exit ?_ | refine T.ret ?_ | refine T.rd rfl (by kernel_rfl) ?_ | refine J.bx rfl rfl rfl rfl rfl rfl ?_
  refine J.cc rfl rfl rfl rfl rfl (empty_spec d hl) rfl rfl ?_
  repeat' first | refine T.seq ?_ | refine T.block ?_ | refine T.r ?_ | refine J.e rfl rfl rfl rfl ?_ | refine J.nil ?_ | refine J.skip rfl rfl rfl ?_ | refine T.skip ?_ | refine T.exit ?_ | refine T.ret ?_ | refine T.rd rfl (by kernel_rfl) ?_ | refine J.bx rfl rfl rfl rfl rfl rfl ?_
  by_cases hm : [] ∈ d
  · rw [if_pos hm, decide_eq_true hm]
    refine T.ct rfl ?_
    repeat' first | refine T.seq ?_ | refine T.block ?_ | refine T.r ?_ | refine J.e rfl rfl rfl rfl ?_ | refine J.nil ?_ | refine J.skip rfl rfl rfl ?_ | refine T.skip ?_ | refine T.exit ?_ | refine T.ret ?_ | refine T.rd rfl (by kernel_rfl) ?_ | refine J.bx rfl rfl rfl rfl rfl rfl ?_
    exact ⟨_, .v rfl rfl rfl (fun h => by cases h) (.v rfl rfl rfl (fun h => by cases h) .nil)⟩
  · rw [if_neg hm, decide_eq_false hm]
    refine T.cf rfl ?_
    repeat' first | refine T.seq ?_ | refine T.block ?_ | refine T.r ?_ | refine J.e rfl rfl rfl rfl ?_ | refine J.nil ?_ | refine J.skip rfl rfl rfl ?_ | refine T.skip ?_ | refine T.exit ?_ | refine T.ret ?_ | refine T.rd rfl (by kernel_rfl) ?_ | refine J.bx rfl rfl rfl rfl rfl rfl ?_
    exact ⟨_, .v rfl rfl rfl (fun h => by cases h) (.v rfl rfl rfl (fun h => by cases h) .nil)⟩
def sizeW (d : List (Int × Int)) : Int := d.foldl (fun n r => wr (n + wr (wr (r.2 - r.1) + 1))) 0
theorem size_spec (d : List (Int × Int)) (hl : d.length * 8 ≤ 140737488355328) : Spec Try.prog 80 false [dm d] [.val (.int .i64 (sizeW d))] := by
  refine Spec.body Try.func80 rfl rfl rfl fun w0 Z0 => ?_
  repeat' first | refine T.seq ?_ | refine T.block ?_ | refine T.r ?_ | refine J.e rfl rfl rfl rfl ?_ | refine J.nil ?_ | refine J.skip rfl rfl rfl ?_ | refine T.skip ?_ | refine T.exit ?_ | refine T.ret ?_ | refine T.rd rfl (by kernel_rfl) ?_ | refine J.bx rfl rfl rfl rfl rfl rfl ?_
  refine T.canon (keep := [3, 6, 7, 8]) (os := []) rfl (T.list d (fun n pre post => ⟨[(3, .val true (.int .i64 (sizeW pre))), (6, .val false (dm d)), (7, .val true (.int .i64 (d.map cR).length)), (8, .val true (.int .i64 n))], [], 0⟩) (fun _ _ h => h) ?_ ?_)
  · rintro n pre x post h hn ih
    have hlt := at_lt h hn
    repeat' first | refine T.seq ?_ | refine T.block ?_ | refine T.r ?_ | refine J.e rfl rfl rfl rfl ?_ | refine J.nil ?_ | refine J.skip rfl rfl rfl ?_ | refine T.skip ?_ | refine T.exit ?_ | refine T.ret ?_ | refine T.rd rfl (by kernel_rfl) ?_ | refine J.bx rfl rfl rfl rfl rfl rfl ?_
    refine T.ct2 rfl (lt_at h hn) ?_
    repeat' first | refine T.seq ?_ | refine T.block ?_ | refine T.r ?_ | refine J.e rfl rfl rfl rfl ?_ | refine J.nil ?_ | refine J.skip rfl rfl rfl ?_ | refine T.skip ?_ | refine T.exit ?_ | refine T.ret ?_ | refine T.rd rfl (by kernel_rfl) ?_ | refine J.bx rfl rfl rfl rfl rfl rfl ?_
    refine J.i rfl rfl rfl rfl rfl rfl rfl rfl rfl (r := cR x) (by omega) (row_at h hn) rfl ?_
    repeat' first | refine T.seq ?_ | refine T.block ?_ | refine T.r ?_ | refine J.e rfl rfl rfl rfl ?_ | refine J.nil ?_ | refine J.skip rfl rfl rfl ?_ | refine T.skip ?_ | refine T.exit ?_ | refine T.ret ?_ | refine T.rd rfl (by kernel_rfl) ?_ | refine J.bx rfl rfl rfl rfl rfl rfl ?_
    refine J.al rfl rfl rfl rfl rfl rfl rfl ?_
    repeat' first | refine T.seq ?_ | refine T.block ?_ | refine T.r ?_ | refine J.e rfl rfl rfl rfl ?_ | refine J.nil ?_ | refine J.skip rfl rfl rfl ?_ | refine T.skip ?_ | refine T.exit ?_ | refine T.ret ?_ | refine T.rd rfl (by kernel_rfl) ?_ | refine J.bx rfl rfl rfl rfl rfl rfl ?_
    refine J.w rfl rfl rfl rfl rfl rfl rfl rfl rfl rfl ?_
    repeat' first | refine T.seq ?_ | refine T.block ?_ | refine T.r ?_ | refine J.e rfl rfl rfl rfl ?_ | refine J.nil ?_ | refine J.skip rfl rfl rfl ?_ | refine T.skip ?_ | refine T.exit ?_ | refine T.ret ?_ | refine T.rd rfl (by kernel_rfl) ?_ | refine J.bx rfl rfl rfl rfl rfl rfl ?_
    rw [wrap1 hlt (by omega), show IntKind.i64.wrap (sizeW pre + IntKind.i64.wrap (IntKind.i64.wrap (x.2 - x.1) + 1)) = sizeW (pre ++ [x]) by simp [sizeW]]
    exact T.canon (keep := [3, 6, 7, 8]) (os := []) rfl ih
  · repeat' first | refine T.seq ?_ | refine T.block ?_ | refine T.r ?_ | refine J.e rfl rfl rfl rfl ?_ | refine J.nil ?_ | refine J.skip rfl rfl rfl ?_ | refine T.skip ?_ | refine T.exit ?_ | refine T.ret ?_ | refine T.rd rfl (by kernel_rfl) ?_ | refine J.bx rfl rfl rfl rfl rfl rfl ?_
    refine T.cf2 rfl lt_end ?_
    repeat' first | refine T.seq ?_ | refine T.block ?_ | refine T.r ?_ | refine J.e rfl rfl rfl rfl ?_ | refine J.nil ?_ | refine J.skip rfl rfl rfl ?_ | refine T.skip ?_ | refine T.exit ?_ | refine T.ret ?_ | refine T.rd rfl (by kernel_rfl) ?_ | refine J.bx rfl rfl rfl rfl rfl rfl ?_
    exact ⟨_, .v rfl rfl rfl (fun _ => rfl) .nil⟩
end Go.Proofs.Ytchajofdjeijfaa
