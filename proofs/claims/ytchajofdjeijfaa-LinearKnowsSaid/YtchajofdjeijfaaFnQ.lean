/- Contracts: whether two lists stand in order; values picked out of domains. -/
import Derived.Test.YtchajofdjeijfaaFnP
namespace Go.Proofs.Ytchajofdjeijfaa
open Go Go.RowKit
set_option linter.unusedVariables false
set_option maxRecDepth 8000

def holds6 (vars a : List Int) : Bool := decide (orderR ((pickedR vars a).take (vars.length / 2)) ((pickedR vars a).drop (vars.length / 2)) ≤ 0)
theorem holds6_spec (c : Con) (a : List Int) (hk : c.kind = 6) (hc : ConB c) (hl : a.length * 8 ≤ 140737488355328) : Spec Try.prog 27 false [.agg (cC c), ints a] [.val (.bool (holds6 c.vars a))] := by
  obtain ⟨kind, vars, coefs, op, rhs, rows, b⟩ := c
  obtain rfl : kind = 6 := hk
  obtain ⟨h1, h2, h3, h4⟩ := hc
  simp only at h1 h2 h3 h4
  refine Spec.body Try.func27 rfl rfl rfl fun w0 Z0 => ?_
  repeat' first | refine T.seq ?_ | refine T.block ?_ | refine T.r ?_ | refine J.e rfl rfl rfl rfl ?_ | refine J.nil ?_ | refine J.skip rfl rfl rfl ?_ | refine T.skip ?_ | refine T.exit ?_ | refine T.ret ?_ | refine T.rd rfl (by kernel_rfl) ?_ | refine J.bx rfl rfl rfl rfl rfl rfl ?_
  refine J.cc rfl rfl rfl rfl rfl (picked_spec vars a (by omega) hl) rfl rfl ?_
  repeat' first | refine T.seq ?_ | refine T.block ?_ | refine T.r ?_ | refine J.e rfl rfl rfl rfl ?_ | refine J.nil ?_ | refine J.skip rfl rfl rfl ?_ | refine T.skip ?_ | refine T.exit ?_ | refine T.ret ?_ | refine T.rd rfl (by kernel_rfl) ?_ | refine J.bx rfl rfl rfl rfl rfl rfl ?_
  refine J.cc rfl rfl rfl rfl rfl (rsum_spec vars coefs a (by omega) h2 hl) rfl rfl ?_
  repeat' first | refine T.seq ?_ | refine T.block ?_ | refine T.r ?_ | refine J.e rfl rfl rfl rfl ?_ | refine J.nil ?_ | refine J.skip rfl rfl rfl ?_ | refine T.skip ?_ | refine T.exit ?_ | refine T.ret ?_ | refine T.rd rfl (by kernel_rfl) ?_ | refine J.bx rfl rfl rfl rfl rfl rfl ?_
  refine J.cc rfl rfl rfl rfl rfl (held_spec op _ rhs) rfl rfl ?_
  repeat' first | refine T.seq ?_ | refine T.block ?_ | refine T.r ?_ | refine J.e rfl rfl rfl rfl ?_ | refine J.nil ?_ | refine J.skip rfl rfl rfl ?_ | refine T.skip ?_ | refine T.exit ?_ | refine T.ret ?_ | refine T.rd rfl (by kernel_rfl) ?_ | refine J.bx rfl rfl rfl rfl rfl rfl ?_
  refine T.cf rfl ?_
  repeat' first | refine T.seq ?_ | refine T.block ?_ | refine T.r ?_ | refine J.e rfl rfl rfl rfl ?_ | refine J.nil ?_ | refine J.skip rfl rfl rfl ?_ | refine T.skip ?_ | refine T.exit ?_ | refine T.ret ?_ | refine T.rd rfl (by kernel_rfl) ?_ | refine J.bx rfl rfl rfl rfl rfl rfl ?_
  refine T.cf rfl ?_
  repeat' first | refine T.seq ?_ | refine T.block ?_ | refine T.r ?_ | refine J.e rfl rfl rfl rfl ?_ | refine J.nil ?_ | refine J.skip rfl rfl rfl ?_ | refine T.skip ?_ | refine T.exit ?_ | refine T.ret ?_ | refine T.rd rfl (by kernel_rfl) ?_ | refine J.bx rfl rfl rfl rfl rfl rfl ?_
  refine T.cf rfl ?_
  repeat' first | refine T.seq ?_ | refine T.block ?_ | refine T.r ?_ | refine J.e rfl rfl rfl rfl ?_ | refine J.nil ?_ | refine J.skip rfl rfl rfl ?_ | refine T.skip ?_ | refine T.exit ?_ | refine T.ret ?_ | refine T.rd rfl (by kernel_rfl) ?_ | refine J.bx rfl rfl rfl rfl rfl rfl ?_
  refine T.cf rfl ?_
  repeat' first | refine T.seq ?_ | refine T.block ?_ | refine T.r ?_ | refine J.e rfl rfl rfl rfl ?_ | refine J.nil ?_ | refine J.skip rfl rfl rfl ?_ | refine T.skip ?_ | refine T.exit ?_ | refine T.ret ?_ | refine T.rd rfl (by kernel_rfl) ?_ | refine J.bx rfl rfl rfl rfl rfl rfl ?_
  refine T.cf rfl ?_
  repeat' first | refine T.seq ?_ | refine T.block ?_ | refine T.r ?_ | refine J.e rfl rfl rfl rfl ?_ | refine J.nil ?_ | refine J.skip rfl rfl rfl ?_ | refine T.skip ?_ | refine T.exit ?_ | refine T.ret ?_ | refine T.rd rfl (by kernel_rfl) ?_ | refine J.bx rfl rfl rfl rfl rfl rfl ?_
  refine T.cf rfl ?_
  repeat' first | refine T.seq ?_ | refine T.block ?_ | refine T.r ?_ | refine J.e rfl rfl rfl rfl ?_ | refine J.nil ?_ | refine J.skip rfl rfl rfl ?_ | refine T.skip ?_ | refine T.exit ?_ | refine T.ret ?_ | refine J.bx rfl rfl rfl rfl rfl rfl ?_
  have hpl : (pickedR vars a).length = vars.length := by simp [pickedR]
  have e1 : IntKind.i64.wrap ((((pickedR vars a).map cI).length : Int).tdiv 2) = ((vars.length / 2 : Nat) : Int) := by
    rw [List.length_map, hpl, Int.tdiv_eq_ediv_of_nonneg (by omega), wrap_id (by omega) (by omega)]
    simp
  rw [e1]
  refine T.sub (Rel.frz (s := 5) (fun _ h => h) rfl rfl) ?_
  repeat' first | refine T.seq ?_ | refine T.block ?_ | refine T.r ?_ | refine J.e rfl rfl rfl rfl ?_ | refine J.nil ?_ | refine J.skip rfl rfl rfl ?_ | refine T.skip ?_ | refine T.exit ?_ | refine T.ret ?_ | refine T.rd rfl (by kernel_rfl) ?_ | refine J.bx rfl rfl rfl rfl rfl rfl ?_
  refine J.s1 (enc := cI) (vars.length / 2) rfl rfl rfl rfl rfl rfl rfl rfl rfl (fun _ => rfl) rfl (by omega) ?_
  repeat' first | refine T.seq ?_ | refine T.block ?_ | refine T.r ?_ | refine J.e rfl rfl rfl rfl ?_ | refine J.nil ?_ | refine J.skip rfl rfl rfl ?_ | refine T.skip ?_ | refine T.exit ?_ | refine T.ret ?_ | refine T.rd rfl (by kernel_rfl) ?_ | refine J.bx rfl rfl rfl rfl rfl rfl ?_
  refine J.s3 (enc := cI) (vars.length / 2) rfl rfl rfl rfl rfl rfl rfl rfl rfl (fun _ => rfl) rfl (by omega) ?_
  repeat' first | refine T.seq ?_ | refine T.block ?_ | refine T.r ?_ | refine J.e rfl rfl rfl rfl ?_ | refine J.nil ?_ | refine J.skip rfl rfl rfl ?_ | refine T.skip ?_ | refine T.exit ?_ | refine T.ret ?_ | refine T.rd rfl (by kernel_rfl) ?_ | refine J.bx rfl rfl rfl rfl rfl rfl ?_
  refine J.cc rfl rfl rfl rfl rfl (order_spec _ _ (by simp; omega) (by simp; omega)) rfl rfl ?_
  repeat' first | refine T.seq ?_ | refine T.block ?_ | refine T.r ?_ | refine J.e rfl rfl rfl rfl ?_ | refine J.nil ?_ | refine J.skip rfl rfl rfl ?_ | refine T.skip ?_ | refine T.exit ?_ | refine T.ret ?_ | refine T.rd rfl (by kernel_rfl) ?_ | refine J.bx rfl rfl rfl rfl rfl rfl ?_
  exact ⟨_, .v rfl rfl rfl (fun _ => rfl) .nil⟩

/-- The low bits of a number. -/
def andN (v : Int) : Int := IntKind.i64.wrap (BitVec.ofInt IntKind.i64.bits v &&& BitVec.ofInt IntKind.i64.bits 65535).toNat
theorem andN_in (v : Int) : 0 ≤ andN v ∧ andN v ≤ 65535 := by
  have h : (BitVec.ofInt IntKind.i64.bits v &&& BitVec.ofInt IntKind.i64.bits 65535).toNat ≤ 65535 := by
    rw [BitVec.toNat_and]
    exact Nat.le_trans Nat.and_le_right (by decide)
  unfold andN
  rw [wrap_id (by omega) (by omega)]
  omega
def pickN (a : List Int) (i : Nat) : Int := if i < a.length then andN (a.getD i 0) else i
theorem pickN_pos (a : List Int) (i : Nat) : 0 ≤ pickN a i := by
  unfold pickN
  split
  · exact (andN_in _).1
  · omega
def pickAt (d : Doms) (a : List Int) (i : Nat) : Int := (vals (d.getD i [])).getD ((pickN a i).tmod (vals (d.getD i [])).length).toNat 0
def emptyV (d : Doms) : Bool := d.any fun x => (vals x).isEmpty
def pickL (d : Doms) (a : List Int) : List Int := (List.range d.length).map (pickAt d a)
theorem tmod_in {n : Int} {l : Nat} (hn : 0 ≤ n) (hl : 0 < l) : 0 ≤ n.tmod l ∧ (n.tmod l).toNat < l := by
  have h1 := Int.tmod_lt_of_pos n (b := (l : Int)) (by omega)
  have h2 := Int.tmod_nonneg (l : Int) hn
  omega
theorem lpick_spec (d : Doms) (a : List Int) (hd : ∀ x ∈ d, DomB x) (hl : d.length * 24 ≤ 140737488355328) (ha : a.length * 8 ≤ 140737488355328) :
    Spec Try.prog 39 false [doms d, ints a] [.own 3 1 ((if emptyV d then [] else pickL d a).map cI), .val (.bool (!emptyV d))] := by
  refine Spec.body Try.func39 rfl rfl rfl fun w0 Z0 => ?_
  repeat' first | refine T.seq ?_ | refine T.block ?_ | refine T.r ?_ | refine J.e rfl rfl rfl rfl ?_ | refine J.nil ?_ | refine J.skip rfl rfl rfl ?_ | refine T.skip ?_ | refine T.exit ?_ | refine T.ret ?_ | refine T.rd rfl (by kernel_rfl) ?_ | refine J.bx rfl rfl rfl rfl rfl rfl ?_
  refine J.bo rfl rfl rfl rfl rfl rfl rfl rfl rfl rfl rfl rfl ?_
  repeat' first | refine T.seq ?_ | refine T.block ?_ | refine T.r ?_ | refine J.e rfl rfl rfl rfl ?_ | refine J.nil ?_ | refine J.skip rfl rfl rfl ?_ | refine T.skip ?_ | refine T.exit ?_ | refine T.ret ?_ | refine T.rd rfl (by kernel_rfl) ?_ | refine J.bx rfl rfl rfl rfl rfl rfl ?_
  refine T.canon (keep := [0, 1, 4, 5, 6, 7]) (os := [6]) rfl (T.ind (fun i : Nat => ⟨[(0, .val false (doms d)), (1, .val false (ints a)), (4, .nilsl), (5, .val true (.bool false)), (6, .ref 0), (7, .val true (.int .i64 i))], [(0, some (.sl 3 1 true (((List.range i).map (pickAt d a)).map cI)))], 1⟩) (fun i => i ≤ d.length ∧ emptyV (d.take i) = false) (fun i => d.length - i) 0 (by simp [emptyV]) (fun _ _ h => h) ?_)
  rintro i ⟨hi, he⟩ ih
  repeat' first | refine T.seq ?_ | refine T.block ?_ | refine T.r ?_ | refine J.e rfl rfl rfl rfl ?_ | refine J.nil ?_ | refine J.skip rfl rfl rfl ?_ | refine T.skip ?_ | refine T.exit ?_ | refine T.ret ?_ | refine T.rd rfl (by kernel_rfl) ?_ | refine J.bx rfl rfl rfl rfl rfl rfl ?_
  refine T.cd rfl (fun h1 => ?_) (fun h1 => ?_)
  · have h1 : i < d.length := by simpa using h1
    have hx := hd d[i] (List.getElem_mem h1)
    repeat' first | refine T.seq ?_ | refine T.block ?_ | refine T.r ?_ | refine J.e rfl rfl rfl rfl ?_ | refine J.nil ?_ | refine J.skip rfl rfl rfl ?_ | refine T.skip ?_ | refine T.exit ?_ | refine T.ret ?_ | refine T.rd rfl (by kernel_rfl) ?_ | refine J.bx rfl rfl rfl rfl rfl rfl ?_
    refine J.i rfl rfl rfl rfl rfl rfl rfl rfl rfl (r := cD d[i]) (by omega) (row_i h1) rfl ?_
    repeat' first | refine T.seq ?_ | refine T.block ?_ | refine T.r ?_ | refine J.e rfl rfl rfl rfl ?_ | refine J.nil ?_ | refine J.skip rfl rfl rfl ?_ | refine T.skip ?_ | refine T.exit ?_ | refine T.ret ?_ | refine T.rd rfl (by kernel_rfl) ?_ | refine J.bx rfl rfl rfl rfl rfl rfl ?_
    refine J.cc rfl rfl rfl rfl rfl (values_spec d[i] hx.1 (by have := hx.2.1; omega) hx.2.2) rfl rfl ?_
    repeat' first | refine T.seq ?_ | refine T.block ?_ | refine T.r ?_ | refine J.e rfl rfl rfl rfl ?_ | refine J.nil ?_ | refine J.skip rfl rfl rfl ?_ | refine T.skip ?_ | refine T.exit ?_ | refine T.ret ?_ | refine T.rd rfl (by kernel_rfl) ?_ | refine J.bx rfl rfl rfl rfl rfl rfl ?_
    refine T.cd rfl (fun h2 => ?_) (fun h2 => ?_)
    · have hev : emptyV d = true := by
        refine List.any_eq_true.2 ⟨d[i], List.getElem_mem h1, ?_⟩
        simp at h2
        simp [h2]
      repeat' first | refine T.seq ?_ | refine T.block ?_ | refine T.r ?_ | refine J.e rfl rfl rfl rfl ?_ | refine J.nil ?_ | refine J.skip rfl rfl rfl ?_ | refine T.skip ?_ | refine T.exit ?_ | refine T.ret ?_ | refine T.rd rfl (by kernel_rfl) ?_ | refine J.bx rfl rfl rfl rfl rfl rfl ?_
      refine J.bo rfl rfl rfl rfl rfl rfl rfl rfl rfl rfl rfl rfl ?_
      repeat' first | refine T.seq ?_ | refine T.block ?_ | refine T.r ?_ | refine J.e rfl rfl rfl rfl ?_ | refine J.nil ?_ | refine J.skip rfl rfl rfl ?_ | refine T.skip ?_ | refine T.exit ?_ | refine T.ret ?_ | refine T.rd rfl (by kernel_rfl) ?_ | refine J.bx rfl rfl rfl rfl rfl rfl ?_
      exact ⟨_, .o rfl rfl (by rw [hev]; rfl) (fun _ => .inl rfl) (by simp) (.v rfl rfl (by rw [hev]; rfl) (fun _ => rfl) .nil)⟩
    · have hne : 0 < (vals d[i]).length := by
        have h2 : ¬ (((vals d[i]).map cI).length : Int) = 0 := h2
        simp only [List.length_map] at h2; omega
      have hgd : d.getD i [] = d[i] := by simp [List.getD_eq_getElem?_getD, List.getElem?_eq_getElem h1]
      have he' : emptyV (d.take (i + 1)) = false := by
        simp only [emptyV] at he ⊢
        rw [List.take_succ_eq_append_getElem h1, List.any_append, he]
        cases hv : vals d[i] with
        | nil => rw [hv] at hne; simp at hne
        | cons x l => simp [hv]
      have hn := pickN_pos a i
      obtain ⟨hm1, hm2⟩ := tmod_in hn hne
      have key : ∀ n : Int, n = pickN a i → (vals d[i])[(n.tmod (vals d[i]).length).toNat]? = some (pickAt d a i) := by
        rintro n rfl
        unfold pickAt
        rw [hgd, List.getD_eq_getElem?_getD, List.getElem?_eq_getElem hm2]; rfl
      have e : (List.range i).map (pickAt d a) ++ [pickAt d a i] = (List.range (i + 1)).map (pickAt d a) := by simp [List.range_succ]
      refine T.skip ?_
      refine T.seq ?_
      refine T.r ?_
      repeat' first | refine J.e rfl rfl rfl rfl ?_ | refine J.skip rfl rfl rfl ?_ | refine J.bx rfl rfl rfl rfl rfl rfl ?_
      refine J.nil ?_
      refine T.mid ⟨[(0, .val false (doms d)), (1, .val false (ints a)), (4, .nilsl), (5, .val true (.bool false)), (6, .ref 0), (7, .val true (.int .i64 i)), (8, .ref 1), (9, .val true (.int .i64 (pickN a i)))], [(0, some (.sl 3 1 true (((List.range i).map (pickAt d a)).map cI))), (1, some (.sl 3 1 true ((vals d[i]).map cI)))], 2⟩ ?_ ?_
      · repeat' first | refine T.seq ?_ | refine T.block ?_ | refine T.r ?_ | refine J.e rfl rfl rfl rfl ?_ | refine J.nil ?_ | refine J.skip rfl rfl rfl ?_ | refine T.skip ?_ | refine T.exit ?_ | refine T.ret ?_ | refine T.rd rfl (by kernel_rfl) ?_ | refine J.bx rfl rfl rfl rfl rfl rfl ?_
        refine T.cd rfl (fun h3 => ?_) (fun h3 => ?_)
        · have h3 : i < a.length := by simpa using h3
          have hpn : pickN a i = andN a[i] := by
            unfold pickN
            rw [if_pos h3, List.getD_eq_getElem?_getD, List.getElem?_eq_getElem h3]; rfl
          rw [hpn]
          repeat' first | refine T.seq ?_ | refine T.block ?_ | refine T.r ?_ | refine J.e rfl rfl rfl rfl ?_ | refine J.nil ?_ | refine J.skip rfl rfl rfl ?_ | refine T.skip ?_ | refine T.exit ?_ | refine T.ret ?_ | refine T.rd rfl (by kernel_rfl) ?_ | refine J.bx rfl rfl rfl rfl rfl rfl ?_
          refine J.i rfl rfl rfl rfl rfl rfl rfl rfl rfl (r := cI a[i]) (by omega) (row_i h3) rfl ?_
          repeat' first | refine T.seq ?_ | refine T.block ?_ | refine T.r ?_ | refine J.e rfl rfl rfl rfl ?_ | refine J.nil ?_ | refine J.skip rfl rfl rfl ?_ | refine T.skip ?_ | refine T.exit ?_ | refine T.ret ?_ | refine T.rd rfl (by kernel_rfl) ?_ | refine J.bx rfl rfl rfl rfl rfl rfl ?_
          exact ⟨rfl, [0, 1, 4, 5, 6, 7, 8, 9], [6, 8], rfl, rfl⟩
        · have hpn : pickN a i = i := by
            unfold pickN
            rw [if_neg (by simpa using h3)]
          rw [hpn]
          repeat' first | refine T.seq ?_ | refine T.block ?_ | refine T.r ?_ | refine J.e rfl rfl rfl rfl ?_ | refine J.nil ?_ | refine J.skip rfl rfl rfl ?_ | refine T.skip ?_ | refine T.exit ?_ | refine T.ret ?_ | refine T.rd rfl (by kernel_rfl) ?_ | refine J.bx rfl rfl rfl rfl rfl rfl ?_
          exact ⟨rfl, [0, 1, 4, 5, 6, 7, 8, 9], [6, 8], rfl, rfl⟩
      · repeat' first | refine T.seq ?_ | refine T.block ?_ | refine T.r ?_ | refine J.e rfl rfl rfl rfl ?_ | refine J.nil ?_ | refine J.skip rfl rfl rfl ?_ | refine T.skip ?_ | refine T.exit ?_ | refine T.ret ?_ | refine T.rd rfl (by kernel_rfl) ?_ | refine J.bx rfl rfl rfl rfl rfl rfl ?_
        refine J.rm rfl rfl rfl rfl rfl rfl (fun h => by simp only [List.length_map] at h; omega) ?_
        rw [List.length_map]
        refine J.io rfl rfl rfl rfl rfl rfl rfl rfl rfl hm1 (by simpa using hm2) rfl ?_
        refine J.lo rfl rfl rfl rfl rfl rfl (r := cI (pickAt d a i)) (by rw [List.getElem?_map, key _ rfl]; rfl) rfl ?_
        repeat' first | refine T.seq ?_ | refine T.block ?_ | refine T.r ?_ | refine J.e rfl rfl rfl rfl ?_ | refine J.nil ?_ | refine J.skip rfl rfl rfl ?_ | refine T.skip ?_ | refine T.exit ?_ | refine T.ret ?_ | refine T.rd rfl (by kernel_rfl) ?_ | refine J.bx rfl rfl rfl rfl rfl rfl ?_
        refine J.bv rfl rfl rfl rfl rfl rfl rfl rfl rfl rfl rfl rfl ?_
        refine J.aI rfl rfl rfl rfl rfl rfl rfl rfl rfl rfl rfl rfl rfl rfl rfl rfl rfl rfl rfl (by simp; omega) ?_
        repeat' first | refine T.seq ?_ | refine T.block ?_ | refine T.r ?_ | refine J.e rfl rfl rfl rfl ?_ | refine J.nil ?_ | refine J.skip rfl rfl rfl ?_ | refine T.skip ?_ | refine T.exit ?_ | refine T.ret ?_ | refine T.rd rfl (by kernel_rfl) ?_ | refine J.bx rfl rfl rfl rfl rfl rfl ?_
        rw [wrap1 (l := d.length) (by omega) (by omega), e]
        exact T.canon (keep := [0, 1, 4, 5, 6, 7]) (os := [6]) rfl (ih (i + 1) ⟨by omega, he'⟩ (by omega))
  · have h1 : i = d.length := by simp at h1; omega
    subst h1
    rw [List.take_length] at he
    repeat' first | refine T.seq ?_ | refine T.block ?_ | refine T.r ?_ | refine J.e rfl rfl rfl rfl ?_ | refine J.nil ?_ | refine J.skip rfl rfl rfl ?_ | refine T.skip ?_ | refine T.exit ?_ | refine T.ret ?_ | refine T.rd rfl (by kernel_rfl) ?_ | refine J.bx rfl rfl rfl rfl rfl rfl ?_
    exact ⟨_, .o rfl rfl (by rw [he]; rfl) (fun _ => .inl rfl) (by simp) (.v rfl rfl (by rw [he]; rfl) (fun _ => rfl) .nil)⟩
end Go.Proofs.Ytchajofdjeijfaa
