/- Contracts: numbers that are watched; a term's ends, a sum's. -/
import Derived.Test.YtchajofdjeijfaaLiA
import Derived.Test.YtchajofdjeijfaaCoreS
import Derived.Lib.Mul64
namespace Go.Proofs.Ytchajofdjeijfaa
open Go Go.RowKit
set_option linter.unusedVariables false
set_option linter.unusedSimpArgs false
set_option maxRecDepth 8000

theorem ismall_spec (l : List Int) (hl : l.length * 8 ≤ 140737488355328) : Spec Try.prog 101 false [ints l] [.val (.bool (l.all smallI))] := by
  refine Spec.body Try.func101 rfl rfl rfl fun w0 Z0 => ?_
  repeat' first | refine T.seq ?_ | refine T.block ?_ | refine T.r ?_ | refine J.e rfl rfl rfl rfl ?_ | refine J.nil ?_ | refine J.skip rfl rfl rfl ?_ | refine T.skip ?_ | refine T.exit ?_ | refine T.ret ?_ | refine T.rd rfl (by kernel_rfl) ?_ | refine J.bx rfl rfl rfl rfl rfl rfl ?_
  refine T.canon (keep := [5, 6, 7]) (os := []) rfl (T.ind (fun i : Nat => ⟨[(5, .val false (ints l)), (6, .val true (.int .i64 (l.map cI).length)), (7, .val true (.int .i64 i))], [], 0⟩) (fun i => i ≤ l.length ∧ (l.take i).all smallI = true) (fun i => l.length - i) 0 (by simp) (fun _ _ h => h) ?_)
  rintro i ⟨hi, hd⟩ ih
  repeat' first | refine T.seq ?_ | refine T.block ?_ | refine T.r ?_ | refine J.e rfl rfl rfl rfl ?_ | refine J.nil ?_ | refine J.skip rfl rfl rfl ?_ | refine T.skip ?_ | refine T.exit ?_ | refine T.ret ?_ | refine T.rd rfl (by kernel_rfl) ?_ | refine J.bx rfl rfl rfl rfl rfl rfl ?_
  refine T.cd rfl (fun h1 => ?_) (fun h1 => ?_)
  · have h1 : i < l.length := by simpa using h1
    have hno : smallI l[i] = false → l.all smallI = false := fun h => by
      cases h2 : l.all smallI with
      | false => rfl
      | true => rw [List.all_eq_true.1 h2 _ (List.getElem_mem h1)] at h; cases h
    repeat' first | refine T.seq ?_ | refine T.block ?_ | refine T.r ?_ | refine J.e rfl rfl rfl rfl ?_ | refine J.nil ?_ | refine J.skip rfl rfl rfl ?_ | refine T.skip ?_ | refine T.exit ?_ | refine T.ret ?_ | refine T.rd rfl (by kernel_rfl) ?_ | refine J.bx rfl rfl rfl rfl rfl rfl ?_
    refine J.i rfl rfl rfl rfl rfl rfl rfl rfl rfl (r := cI l[i]) (by omega) (row_i h1) rfl ?_
    repeat' first | refine T.seq ?_ | refine T.block ?_ | refine T.r ?_ | refine J.e rfl rfl rfl rfl ?_ | refine J.nil ?_ | refine J.skip rfl rfl rfl ?_ | refine T.skip ?_ | refine T.exit ?_ | refine T.ret ?_ | refine T.rd rfl (by kernel_rfl) ?_ | refine J.bx rfl rfl rfl rfl rfl rfl ?_
    refine J.g rfl rfl rfl (fun h2 => ?_) (fun h2 => ?_)
    · repeat' first | refine T.seq ?_ | refine T.block ?_ | refine T.r ?_ | refine J.e rfl rfl rfl rfl ?_ | refine J.nil ?_ | refine J.skip rfl rfl rfl ?_ | refine T.skip ?_ | refine T.exit ?_ | refine T.ret ?_ | refine T.rd rfl (by kernel_rfl) ?_ | refine J.bx rfl rfl rfl rfl rfl rfl ?_
      refine T.ct rfl ?_
      repeat' first | refine T.seq ?_ | refine T.block ?_ | refine T.r ?_ | refine J.e rfl rfl rfl rfl ?_ | refine J.nil ?_ | refine J.skip rfl rfl rfl ?_ | refine T.skip ?_ | refine T.exit ?_ | refine T.ret ?_ | refine T.rd rfl (by kernel_rfl) ?_ | refine J.bx rfl rfl rfl rfl rfl rfl ?_
      exact ⟨_, .v rfl rfl (by rw [hno]; simp [smallI]; omega) (fun _ => rfl) .nil⟩
    · repeat' first | refine T.seq ?_ | refine T.block ?_ | refine T.r ?_ | refine J.e rfl rfl rfl rfl ?_ | refine J.nil ?_ | refine J.skip rfl rfl rfl ?_ | refine T.skip ?_ | refine T.exit ?_ | refine T.ret ?_ | refine T.rd rfl (by kernel_rfl) ?_ | refine J.bx rfl rfl rfl rfl rfl rfl ?_
      refine T.cd rfl (fun h3 => ?_) (fun h3 => ?_)
      · repeat' first | refine T.seq ?_ | refine T.block ?_ | refine T.r ?_ | refine J.e rfl rfl rfl rfl ?_ | refine J.nil ?_ | refine J.skip rfl rfl rfl ?_ | refine T.skip ?_ | refine T.exit ?_ | refine T.ret ?_ | refine T.rd rfl (by kernel_rfl) ?_ | refine J.bx rfl rfl rfl rfl rfl rfl ?_
        exact ⟨_, .v rfl rfl (by rw [hno]; simp [smallI]; omega) (fun _ => rfl) .nil⟩
      · repeat' first | refine T.seq ?_ | refine T.block ?_ | refine T.r ?_ | refine J.e rfl rfl rfl rfl ?_ | refine J.nil ?_ | refine J.skip rfl rfl rfl ?_ | refine T.skip ?_ | refine T.exit ?_ | refine T.ret ?_ | refine T.rd rfl (by kernel_rfl) ?_ | refine J.bx rfl rfl rfl rfl rfl rfl ?_
        rw [wrap1 (l := l.length) (by omega) (by omega)]
        refine T.canon (keep := [5, 6, 7]) (os := []) rfl (ih (i + 1) ⟨by omega, ?_⟩ (by omega))
        rw [List.take_succ_eq_append_getElem h1, List.all_append, hd]
        simp [smallI]; omega
  · have h1 : i = l.length := by simp at h1; omega
    subst h1
    rw [List.take_length] at hd
    repeat' first | refine T.seq ?_ | refine T.block ?_ | refine T.r ?_ | refine J.e rfl rfl rfl rfl ?_ | refine J.nil ?_ | refine J.skip rfl rfl rfl ?_ | refine T.skip ?_ | refine T.exit ?_ | refine T.ret ?_ | refine T.rd rfl (by kernel_rfl) ?_ | refine J.bx rfl rfl rfl rfl rfl rfl ?_
    exact ⟨_, .v rfl rfl (by rw [hd]) (fun _ => rfl) .nil⟩

theorem wrapU (n : Int) : IntKind.u64.wrap n = n % 18446744073709551616 := by simp [IntKind.wrap, IntKind.bits, IntKind.signed]
theorem isize_spec (n : Int) (h : -9223372036854775808 ≤ n) (h2 : n ≤ 9223372036854775807) : Spec Try.prog 103 false [.int .i64 n] [.val (.int .u64 ((n.natAbs : Nat) : Int))] := by
  refine Spec.body Try.func103 rfl rfl rfl fun w0 Z0 => ?_
  repeat' first | refine T.seq ?_ | refine T.block ?_ | refine T.r ?_ | refine J.e rfl rfl rfl rfl ?_ | refine J.nil ?_ | refine J.skip rfl rfl rfl ?_ | refine T.skip ?_ | refine T.exit ?_ | refine T.ret ?_ | refine T.rd rfl (by kernel_rfl) ?_ | refine J.bx rfl rfl rfl rfl rfl rfl ?_
  refine T.cd rfl (fun h3 => ?_) (fun h3 => ?_)
  · have h3 : n < 0 := h3
    repeat' first | refine T.seq ?_ | refine T.block ?_ | refine T.r ?_ | refine J.e rfl rfl rfl rfl ?_ | refine J.nil ?_ | refine J.skip rfl rfl rfl ?_ | refine T.skip ?_ | refine T.exit ?_ | refine T.ret ?_ | refine T.rd rfl (by kernel_rfl) ?_ | refine J.bx rfl rfl rfl rfl rfl rfl ?_
    exact ⟨_, .v rfl rfl (by rw [wrapU, wrapU]; congr 1; omega) (fun _ => rfl) .nil⟩
  · have h3 : ¬ n < 0 := h3
    repeat' first | refine T.seq ?_ | refine T.block ?_ | refine T.r ?_ | refine J.e rfl rfl rfl rfl ?_ | refine J.nil ?_ | refine J.skip rfl rfl rfl ?_ | refine T.skip ?_ | refine T.exit ?_ | refine T.ret ?_ | refine T.rd rfl (by kernel_rfl) ?_ | refine J.bx rfl rfl rfl rfl rfl rfl ?_
    exact ⟨_, .v rfl rfl (by rw [wrapU]; congr 1; omega) (fun _ => rfl) .nil⟩

theorem maskU (a : Nat) (ha : a < 18446744073709551616) : IntKind.u64.wrap (BitVec.ofInt IntKind.u64.bits (a : Int) &&& BitVec.ofInt IntKind.u64.bits 4294967295).toNat = ((a % 4294967296 : Nat) : Int) := by
  have e : (BitVec.ofInt IntKind.u64.bits (a : Int) &&& BitVec.ofInt IntKind.u64.bits 4294967295).toNat = a % 4294967296 := by
    rw [BitVec.toNat_and]
    have e1 : (BitVec.ofInt IntKind.u64.bits (a : Int)).toNat = a := by
      rw [BitVec.toNat_ofInt]
      have : ((2 ^ IntKind.u64.bits : Nat) : Int) = 18446744073709551616 := rfl
      rw [this]
      omega
    have e2 : (BitVec.ofInt IntKind.u64.bits 4294967295).toNat = 2 ^ 32 - 1 := rfl
    rw [e1, e2, Nat.and_two_pow_sub_one_eq_mod]
  rw [e, wrapU]
  omega
theorem shrU (a : Nat) : ((a : Int)).fdiv (2 ^ (min (32 : Int).toNat IntKind.u64.bits)) = ((a / 4294967296 : Nat) : Int) := by
  have : (2 : Int) ^ (min (32 : Int).toNat IntKind.u64.bits) = 4294967296 := rfl
  rw [this, Int.fdiv_eq_ediv_of_nonneg _ (by decide)]
  omega
theorem mulU (a b : Nat) : (a : Int) * (b : Int) = ((a * b : Nat) : Int) := (Int.natCast_mul a b).symm
theorem addU_ (a b : Nat) : (a : Int) + (b : Int) = ((a + b : Nat) : Int) := (Int.natCast_add a b).symm
theorem wrapN (a : Nat) (ha : a < 18446744073709551616) : IntKind.u64.wrap (a : Int) = (a : Int) := by rw [wrapU]; omega
theorem wrapM (a : Nat) : IntKind.u64.wrap (a : Int) = ((a % 18446744073709551616 : Nat) : Int) := by rw [wrapU]; omega
theorem mul64_spec (x y : Nat) (hx : x < 18446744073709551616) (hy : y < 18446744073709551616) : Spec Try.prog 102 false [.int .u64 (x : Int), .int .u64 (y : Int)] [.val (.int .u64 ((x * y / 18446744073709551616 : Nat) : Int)), .val (.int .u64 ((x * y % 18446744073709551616 : Nat) : Int))] := by
  obtain ⟨bd, bt, bw, hhi⟩ := Lib.mul64_hi x y hx hy
  have ba := Lib.half_mul_le (a := x / 4294967296) (b := y / 4294967296) (by omega) (by omega)
  have bb := Lib.half_mul_le (a := x / 4294967296) (b := y % 4294967296) (by omega) (by omega)
  have bc := Lib.half_mul_le (a := x % 4294967296) (b := y / 4294967296) (by omega) (by omega)
  have ba' : x / 4294967296 * (y / 4294967296) < 18446744073709551616 := by omega
  have bb' : x / 4294967296 * (y % 4294967296) < 18446744073709551616 := by omega
  have bc' : x % 4294967296 * (y / 4294967296) < 18446744073709551616 := by omega
  have bh1 : x / 4294967296 * (y / 4294967296) + (x / 4294967296 * (y % 4294967296) + x % 4294967296 * (y % 4294967296) / 4294967296) / 4294967296 < 18446744073709551616 := by omega
  have bh : x / 4294967296 * (y / 4294967296) + (x / 4294967296 * (y % 4294967296) + x % 4294967296 * (y % 4294967296) / 4294967296) / 4294967296 + ((x / 4294967296 * (y % 4294967296) + x % 4294967296 * (y % 4294967296) / 4294967296) % 4294967296 + x % 4294967296 * (y / 4294967296)) / 4294967296 < 18446744073709551616 := by
    generalize (x / 4294967296) * (y / 4294967296) = a at *
    generalize (x / 4294967296) * (y % 4294967296) = b at *
    generalize (x % 4294967296) * (y / 4294967296) = c at *
    generalize (x % 4294967296) * (y % 4294967296) = d at *
    omega
  refine Spec.body Try.func102 rfl rfl rfl fun w0 Z0 => ?_
  repeat' first | refine T.seq ?_ | refine T.block ?_ | refine T.r ?_ | refine J.e rfl rfl rfl rfl ?_ | refine J.nil ?_ | refine J.skip rfl rfl rfl ?_ | refine T.skip ?_ | refine T.exit ?_ | refine T.ret ?_ | refine T.rd rfl (by kernel_rfl) ?_ | refine J.bx rfl rfl rfl rfl rfl rfl ?_
  refine ⟨_, .v rfl rfl ?_ (fun _ => rfl) (.v rfl rfl ?_ (fun _ => rfl) .nil)⟩
  · simp only [maskU x hx, maskU y hy, shrU, mulU, addU_, wrapN _ bd, wrapN _ bb', wrapN _ bt, maskU _ bt, wrapN _ bc', wrapN _ bw, wrapN _ ba', wrapN _ bh1, wrapN _ bh]
    rw [hhi]
  · rw [mulU, wrapM]

theorem imul_spec (a b : Int) (ha1 : -9223372036854775808 ≤ a) (ha2 : a ≤ 9223372036854775807) (hb1 : -9223372036854775808 ≤ b) (hb2 : b ≤ 9223372036854775807) :
    Spec Try.prog 88 false [.int .i64 a, .int .i64 b] [.val (.int .i64 (mulI a b).1), .val (.bool (mulI a b).2)] := by
  refine Spec.body Try.func88 rfl rfl rfl fun w0 Z0 => ?_
  have hs := ismall_spec [a, b] (by simp)
  repeat' first | refine T.seq ?_ | refine T.block ?_ | refine T.r ?_ | refine J.e rfl rfl rfl rfl ?_ | refine J.nil ?_ | refine J.skip rfl rfl rfl ?_ | refine T.skip ?_ | refine T.exit ?_ | refine T.ret ?_ | refine T.rd rfl (by kernel_rfl) ?_ | refine J.bx rfl rfl rfl rfl rfl rfl ?_
  refine J.bv rfl rfl rfl rfl rfl rfl rfl rfl rfl rfl rfl rfl ?_
  refine J.cc rfl rfl rfl rfl rfl hs rfl rfl ?_
  repeat' first | refine T.seq ?_ | refine T.block ?_ | refine T.r ?_ | refine J.e rfl rfl rfl rfl ?_ | refine J.nil ?_ | refine J.skip rfl rfl rfl ?_ | refine T.skip ?_ | refine T.exit ?_ | refine T.ret ?_ | refine T.rd rfl (by kernel_rfl) ?_ | refine J.bx rfl rfl rfl rfl rfl rfl ?_
  refine T.cond rfl (fun h => ?_) (fun h => ?_)
  · have e : mulI a b = (0, false) := by
      unfold mulI
      rw [if_neg]
      intro h2
      simp at h h2
      rcases h with h | h
      · rw [h2.1.1] at h; cases h
      · rw [h2.1.2] at h; cases h
    rw [e]
    repeat' first | refine T.seq ?_ | refine T.block ?_ | refine T.r ?_ | refine J.e rfl rfl rfl rfl ?_ | refine J.nil ?_ | refine J.skip rfl rfl rfl ?_ | refine T.skip ?_ | refine T.exit ?_ | refine T.ret ?_ | refine T.rd rfl (by kernel_rfl) ?_ | refine J.bx rfl rfl rfl rfl rfl rfl ?_
    exact ⟨_, .v rfl rfl rfl (fun _ => rfl) (.v rfl rfl rfl (fun _ => rfl) .nil)⟩
  · have hsa : smallI a = true ∧ smallI b = true := by simpa using h
    obtain ⟨hsa, hsb⟩ := hsa
    have ha : -4611686018427387904 ≤ a ∧ a ≤ 4611686018427387904 := by simpa [smallI] using hsa
    have hb : -4611686018427387904 ≤ b ∧ b ≤ 4611686018427387904 := by simpa [smallI] using hsb
    have hm := mul64_spec a.natAbs b.natAbs (by omega) (by omega)
    have hab : (a * b).natAbs = a.natAbs * b.natAbs := Int.natAbs_mul a b
    have hp1 : (a < 0) ≠ (b < 0) → a * b ≤ 0 := by
      intro hne
      by_cases h1 : a < 0
      · have h2 : ¬ b < 0 := fun h2 => hne (by simp [h1, h2])
        exact Int.mul_nonpos_of_nonpos_of_nonneg (by omega) (by omega)
      · have h2 : b < 0 := by
          by_cases h2 : b < 0
          · exact h2
          · exact absurd (by simp [h1, h2]) hne
        exact Int.mul_nonpos_of_nonneg_of_nonpos (by omega) (by omega)
    have hp2 : (a < 0) = (b < 0) → 0 ≤ a * b := by
      intro heq
      by_cases h1 : a < 0
      · have h2 : b < 0 := by rw [← heq]; exact h1
        exact Int.mul_nonneg_of_nonpos_of_nonpos (by omega) (by omega)
      · have h2 : ¬ b < 0 := by rw [← heq]; exact h1
        exact Int.mul_nonneg (by omega) (by omega)
    have hmi : mulI a b = if smallI (a * b) then (a * b, true) else (0, false) := by simp [mulI, hsa, hsb]
    rw [hmi]
    rw [← hab] at hm
    clear hab hmi
    generalize a * b = p at *
    repeat' first | refine T.seq ?_ | refine T.block ?_ | refine T.r ?_ | refine J.e rfl rfl rfl rfl ?_ | refine J.nil ?_ | refine J.skip rfl rfl rfl ?_ | refine T.skip ?_ | refine T.exit ?_ | refine T.ret ?_ | refine T.rd rfl (by kernel_rfl) ?_ | refine J.bx rfl rfl rfl rfl rfl rfl ?_
    refine J.cc rfl rfl rfl rfl rfl (isize_spec a ha1 ha2) rfl rfl ?_
    repeat' first | refine T.seq ?_ | refine T.block ?_ | refine T.r ?_ | refine J.e rfl rfl rfl rfl ?_ | refine J.nil ?_ | refine J.skip rfl rfl rfl ?_ | refine T.skip ?_ | refine T.exit ?_ | refine T.ret ?_ | refine T.rd rfl (by kernel_rfl) ?_ | refine J.bx rfl rfl rfl rfl rfl rfl ?_
    refine J.cc rfl rfl rfl rfl rfl (isize_spec b hb1 hb2) rfl rfl ?_
    refine J.cc rfl rfl rfl rfl rfl hm rfl rfl ?_
    repeat' first | refine T.seq ?_ | refine T.block ?_ | refine T.r ?_ | refine J.e rfl rfl rfl rfl ?_ | refine J.nil ?_ | refine J.skip rfl rfl rfl ?_ | refine T.skip ?_ | refine T.exit ?_ | refine T.ret ?_ | refine T.rd rfl (by kernel_rfl) ?_ | refine J.bx rfl rfl rfl rfl rfl rfl ?_
    refine J.g rfl rfl rfl (fun h4 => ?_) (fun h4 => ?_)
    · have h4 : ((p.natAbs / 18446744073709551616 : Nat) : Int) ≠ 0 := h4
      repeat' first | refine T.seq ?_ | refine T.block ?_ | refine T.r ?_ | refine J.e rfl rfl rfl rfl ?_ | refine J.nil ?_ | refine J.skip rfl rfl rfl ?_ | refine T.skip ?_ | refine T.exit ?_ | refine T.ret ?_ | refine T.rd rfl (by kernel_rfl) ?_ | refine J.bx rfl rfl rfl rfl rfl rfl ?_
      refine T.ct rfl ?_
      have e : smallI p = false := by simp [smallI]; omega
      rw [e]
      repeat' first | refine T.seq ?_ | refine T.block ?_ | refine T.r ?_ | refine J.e rfl rfl rfl rfl ?_ | refine J.nil ?_ | refine J.skip rfl rfl rfl ?_ | refine T.skip ?_ | refine T.exit ?_ | refine T.ret ?_ | refine T.rd rfl (by kernel_rfl) ?_ | refine J.bx rfl rfl rfl rfl rfl rfl ?_
      exact ⟨_, .v rfl rfl rfl (fun _ => rfl) (.v rfl rfl rfl (fun _ => rfl) .nil)⟩
    · have h4 : ¬ ((p.natAbs / 18446744073709551616 : Nat) : Int) ≠ 0 := h4
      repeat' first | refine T.seq ?_ | refine T.block ?_ | refine T.r ?_ | refine J.e rfl rfl rfl rfl ?_ | refine J.nil ?_ | refine J.skip rfl rfl rfl ?_ | refine T.skip ?_ | refine T.exit ?_ | refine T.ret ?_ | refine T.rd rfl (by kernel_rfl) ?_ | refine J.bx rfl rfl rfl rfl rfl rfl ?_
      refine T.cd rfl (fun h5 => ?_) (fun h5 => ?_)
      · have h5 : ((p.natAbs % 18446744073709551616 : Nat) : Int) > 4611686018427387904 := h5
        have e : smallI p = false := by simp [smallI]; omega
        rw [e]
        repeat' first | refine T.seq ?_ | refine T.block ?_ | refine T.r ?_ | refine J.e rfl rfl rfl rfl ?_ | refine J.nil ?_ | refine J.skip rfl rfl rfl ?_ | refine T.skip ?_ | refine T.exit ?_ | refine T.ret ?_ | refine T.rd rfl (by kernel_rfl) ?_ | refine J.bx rfl rfl rfl rfl rfl rfl ?_
        exact ⟨_, .v rfl rfl rfl (fun _ => rfl) (.v rfl rfl rfl (fun _ => rfl) .nil)⟩
      · have h5 : ¬ ((p.natAbs % 18446744073709551616 : Nat) : Int) > 4611686018427387904 := h5
        have e : smallI p = true := by simp [smallI]; omega
        rw [e]
        repeat' first | refine T.seq ?_ | refine T.block ?_ | refine T.r ?_ | refine J.e rfl rfl rfl rfl ?_ | refine J.nil ?_ | refine J.skip rfl rfl rfl ?_ | refine T.skip ?_ | refine T.exit ?_ | refine T.ret ?_ | refine T.rd rfl (by kernel_rfl) ?_ | refine J.bx rfl rfl rfl rfl rfl rfl ?_
        refine T.cond rfl (fun h6 => ?_) (fun h6 => ?_)
        · have h7 := hp1 (by intro e; simp [e] at h6)
          repeat' first | refine T.seq ?_ | refine T.block ?_ | refine T.r ?_ | refine J.e rfl rfl rfl rfl ?_ | refine J.nil ?_ | refine J.skip rfl rfl rfl ?_ | refine T.skip ?_ | refine T.exit ?_ | refine T.ret ?_ | refine T.rd rfl (by kernel_rfl) ?_ | refine J.bx rfl rfl rfl rfl rfl rfl ?_
          exact ⟨_, .v rfl rfl (by simp only [if_true]; rw [wrap_id (n := ((p.natAbs % 18446744073709551616 : Nat) : Int)) (by omega) (by omega), wrap_id (by omega) (by omega)]; congr 1; omega) (fun _ => rfl) (.v rfl rfl rfl (fun _ => rfl) .nil)⟩
        · have h7 := hp2 (by
            by_cases h1 : a < 0 <;> by_cases h2 : b < 0 <;> simp [h1, h2] at h6 ⊢)
          repeat' first | refine T.seq ?_ | refine T.block ?_ | refine T.r ?_ | refine J.e rfl rfl rfl rfl ?_ | refine J.nil ?_ | refine J.skip rfl rfl rfl ?_ | refine T.skip ?_ | refine T.exit ?_ | refine T.ret ?_ | refine T.rd rfl (by kernel_rfl) ?_ | refine J.bx rfl rfl rfl rfl rfl rfl ?_
          exact ⟨_, .v rfl rfl (by simp only [if_true]; rw [wrap_id (by omega) (by omega)]; congr 1; omega) (fun _ => rfl) (.v rfl rfl rfl (fun _ => rfl) .nil)⟩
end Go.Proofs.Ytchajofdjeijfaa
