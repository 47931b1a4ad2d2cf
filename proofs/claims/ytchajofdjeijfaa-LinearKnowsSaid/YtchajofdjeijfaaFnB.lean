/- Contracts: a domain's values; sorted; packed. -/
import Derived.Test.YtchajofdjeijfaaFnA
namespace Go.Proofs.Ytchajofdjeijfaa
open Go Go.RowKit
set_option linter.unusedVariables false
set_option maxRecDepth 4000

def rng (lo hi : Int) : List Int := (List.range (hi + 1 - lo).toNat).map (fun k : Nat => lo + k)
def vals (d : List (Int × Int)) : List Int := d.flatMap fun r => rng r.1 r.2
/-- Within the values. -/
def InB (d : List (Int × Int)) : Prop := ∀ r ∈ d, -1048576 ≤ r.1 ∧ r.1 ≤ 1048576 ∧ -1048576 ≤ r.2 ∧ r.2 ≤ 1048576

theorem snocI {l : List Int} {v : Int} : l.map cI ++ [(PV.int .i64 v).cells] = (l ++ [v]).map cI := by simp [cI, PV.cells]
theorem snocR {l : List (Int × Int)} {a b : Int} : l.map cR ++ [(PV.agg [.int .i64 a, .int .i64 b]).cells] = (l ++ [(a, b)]).map cR := by simp [cR, PV.cells]

theorem rng_take (lo : Int) (k : Nat) : (List.range (k + 1)).map (fun k : Nat => lo + k) = (List.range k).map (fun k : Nat => lo + k) ++ [lo + k] := by simp [List.range_succ]

theorem values_spec (d : List (Int × Int)) (hb : InB d) (hl : (vals d).length * 8 ≤ 140737488355328) (hd : d.length * 16 ≤ 140737488355328) : Spec Try.prog 29 false [dm d] [.own 3 1 ((vals d).map cI)] := by
  refine Spec.body Try.func29 rfl rfl rfl fun w0 Z0 => ?_
  repeat' first | refine T.seq ?_ | refine T.block ?_ | refine T.r ?_ | refine J.e rfl rfl rfl rfl ?_ | refine J.nil ?_ | refine J.skip rfl rfl rfl ?_ | refine T.skip ?_ | refine T.exit ?_ | refine T.ret ?_ | refine T.rd rfl (by kernel_rfl) ?_ | refine J.bx rfl rfl rfl rfl rfl rfl ?_
  refine J.bo rfl rfl rfl rfl rfl rfl rfl rfl rfl rfl rfl rfl ?_
  repeat' first | refine T.seq ?_ | refine T.block ?_ | refine T.r ?_ | refine J.e rfl rfl rfl rfl ?_ | refine J.nil ?_ | refine J.skip rfl rfl rfl ?_ | refine T.skip ?_ | refine T.exit ?_ | refine T.ret ?_ | refine T.rd rfl (by kernel_rfl) ?_ | refine J.bx rfl rfl rfl rfl rfl rfl ?_
  refine T.canon (keep := [0, 3, 4]) (os := [3]) rfl (T.list d (fun n pre post => ⟨[(0, .val false (dm d)), (3, .ref 0), (4, .val true (.int .i64 n))], [(0, some (.sl 3 1 true ((vals pre).map cI)))], 1⟩) (fun _ _ h => h) ?_ ?_)
  · rintro n pre x post h hn ih
    have hx := hb x (by rw [h]; simp)
    have hd1 : pre.length < d.length := by rw [h]; simp
    have hlen : (vals pre).length + (rng x.1 x.2).length ≤ (vals d).length := by rw [h]; simp [vals]
    repeat' first | refine T.seq ?_ | refine T.block ?_ | refine T.r ?_ | refine J.e rfl rfl rfl rfl ?_ | refine J.nil ?_ | refine J.skip rfl rfl rfl ?_ | refine T.skip ?_ | refine T.exit ?_ | refine T.ret ?_ | refine T.rd rfl (by kernel_rfl) ?_ | refine J.bx rfl rfl rfl rfl rfl rfl ?_
    refine T.ct2 rfl (lt_at h hn) ?_
    repeat' first | refine T.seq ?_ | refine T.block ?_ | refine T.r ?_ | refine J.e rfl rfl rfl rfl ?_ | refine J.nil ?_ | refine J.skip rfl rfl rfl ?_ | refine T.skip ?_ | refine T.exit ?_ | refine T.ret ?_ | refine T.rd rfl (by kernel_rfl) ?_ | refine J.bx rfl rfl rfl rfl rfl rfl ?_
    refine J.i rfl rfl rfl rfl rfl rfl rfl rfl rfl (r := cR x) (by omega) (row_at h hn) rfl ?_
    repeat' first | refine T.seq ?_ | refine T.block ?_ | refine T.r ?_ | refine J.e rfl rfl rfl rfl ?_ | refine J.nil ?_ | refine J.skip rfl rfl rfl ?_ | refine T.skip ?_ | refine T.exit ?_ | refine T.ret ?_ | refine T.rd rfl (by kernel_rfl) ?_ | refine J.bx rfl rfl rfl rfl rfl rfl ?_
    refine T.canon (keep := [0, 4, 5, 3]) (os := [3]) rfl (T.ind (fun (s : Int × List Int) => ⟨[(0, .val false (dm d)), (4, .val true (.int .i64 n)), (5, .val true (.int .i64 s.1)), (3, .ref 0)], [(0, some (.sl 3 1 true (s.2.map cI)))], 1⟩)
      (fun s => ∃ k, k ≤ (x.2 + 1 - x.1).toNat ∧ s.1 = x.1 + k ∧ s.2 = vals pre ++ (List.range k).map (fun k : Nat => x.1 + k)) (fun s => (x.2 + 1 - s.1).toNat) (x.1, vals pre) ⟨0, by simp⟩ (fun _ _ h => h) ?_)
    rintro ⟨v, acc⟩ ⟨k, hk, hv, hacc⟩ ih2
    simp only at hv hacc ih2
    repeat' first | refine T.seq ?_ | refine T.block ?_ | refine T.r ?_ | refine J.e rfl rfl rfl rfl ?_ | refine J.nil ?_ | refine J.skip rfl rfl rfl ?_ | refine T.skip ?_ | refine T.exit ?_ | refine T.ret ?_ | refine T.rd rfl (by kernel_rfl) ?_ | refine J.bx rfl rfl rfl rfl rfl rfl ?_
    refine J.i rfl rfl rfl rfl rfl rfl rfl rfl rfl (r := cR x) (by omega) (row_at h hn) rfl ?_
    repeat' first | refine T.seq ?_ | refine T.block ?_ | refine T.r ?_ | refine J.e rfl rfl rfl rfl ?_ | refine J.nil ?_ | refine J.skip rfl rfl rfl ?_ | refine T.skip ?_ | refine T.exit ?_ | refine T.ret ?_ | refine T.rd rfl (by kernel_rfl) ?_ | refine J.bx rfl rfl rfl rfl rfl rfl ?_
    refine T.cd rfl (fun h1 => ?_) (fun h1 => ?_)
    · simp only at h1
      repeat' first | refine T.seq ?_ | refine T.block ?_ | refine T.r ?_ | refine J.e rfl rfl rfl rfl ?_ | refine J.nil ?_ | refine J.skip rfl rfl rfl ?_ | refine T.skip ?_ | refine T.exit ?_ | refine T.ret ?_ | refine T.rd rfl (by kernel_rfl) ?_ | refine J.bx rfl rfl rfl rfl rfl rfl ?_
      have hk2 : k + 1 ≤ (x.2 + 1 - x.1).toNat := by omega
      have hlr : (rng x.1 x.2).length = (x.2 + 1 - x.1).toNat := by simp [rng]
      refine J.bv rfl rfl rfl rfl rfl rfl rfl rfl rfl rfl rfl rfl ?_
      repeat' first | refine T.seq ?_ | refine T.block ?_ | refine T.r ?_ | refine J.e rfl rfl rfl rfl ?_ | refine J.nil ?_ | refine J.skip rfl rfl rfl ?_ | refine T.skip ?_ | refine T.exit ?_ | refine T.ret ?_ | refine T.rd rfl (by kernel_rfl) ?_ | refine J.bx rfl rfl rfl rfl rfl rfl ?_
      refine J.a rfl rfl rfl rfl rfl rfl rfl rfl rfl rfl rfl rfl rfl rfl rfl rfl rfl (one_len rfl) (by show (List.length _ + 1) * 8 ≤ _; simp [hacc]; omega) ?_
      repeat' first | refine T.seq ?_ | refine T.block ?_ | refine T.r ?_ | refine J.e rfl rfl rfl rfl ?_ | refine J.nil ?_ | refine J.skip rfl rfl rfl ?_ | refine T.skip ?_ | refine T.exit ?_ | refine T.ret ?_ | refine T.rd rfl (by kernel_rfl) ?_ | refine J.bx rfl rfl rfl rfl rfl rfl ?_
      rw [wrap_id (by omega) (by omega), snocI]
      exact T.canon (keep := [0, 4, 5, 3]) (os := [3]) rfl (ih2 (v + 1, acc ++ [v]) ⟨k + 1, hk2, by simp only; omega, by simp only; rw [rng_take, ← List.append_assoc, ← hacc, ← hv]⟩ (by simp only; omega))
    · simp only at h1
      repeat' first | refine T.seq ?_ | refine T.block ?_ | refine T.r ?_ | refine J.e rfl rfl rfl rfl ?_ | refine J.nil ?_ | refine J.skip rfl rfl rfl ?_ | refine T.skip ?_ | refine T.exit ?_ | refine T.ret ?_ | refine T.rd rfl (by kernel_rfl) ?_ | refine J.bx rfl rfl rfl rfl rfl rfl ?_
      rw [wrap1 (at_lt h hn) (by omega)]
      have hk2 : k = (x.2 + 1 - x.1).toNat := by omega
      have e : vals (pre ++ [x]) = acc := by rw [hacc, hk2]; simp [vals, rng]
      rw [e] at ih
      exact T.canon (keep := [0, 3, 4]) (os := [3]) rfl ih
  · repeat' first | refine T.seq ?_ | refine T.block ?_ | refine T.r ?_ | refine J.e rfl rfl rfl rfl ?_ | refine J.nil ?_ | refine J.skip rfl rfl rfl ?_ | refine T.skip ?_ | refine T.exit ?_ | refine T.ret ?_ | refine T.rd rfl (by kernel_rfl) ?_ | refine J.bx rfl rfl rfl rfl rfl rfl ?_
    refine T.cf2 rfl lt_end ?_
    repeat' first | refine T.seq ?_ | refine T.block ?_ | refine T.r ?_ | refine J.e rfl rfl rfl rfl ?_ | refine J.nil ?_ | refine J.skip rfl rfl rfl ?_ | refine T.skip ?_ | refine T.exit ?_ | refine T.ret ?_ | refine T.rd rfl (by kernel_rfl) ?_ | refine J.bx rfl rfl rfl rfl rfl rfl ?_
    exact ⟨_, .o rfl rfl rfl (fun _ => .inl rfl) (by simp) .nil⟩
end Go.Proofs.Ytchajofdjeijfaa
