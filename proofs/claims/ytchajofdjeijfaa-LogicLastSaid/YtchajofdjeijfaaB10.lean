/- The texts FgH, PuH of the workplace, joined. -/
import Derived.Test.YtchajofdjeijfaaB9
/-! Contract: does a constraint hold? -/
namespace Go.Proofs.Ytchajofdjeijfaa
open Go Go.RowKit
set_option linter.unusedVariables false
set_option linter.unusedSimpArgs false
set_option maxRecDepth 8000

def litH (p : Int × Int) : Bool := (decide (p.2 = 1) && decide (p.1 = 1)) || (decide (p.2 = -1) && decide (p.1 = 0))
def elemH (l : List Int) : Bool := decide (2 ≤ l.length) && decide (0 ≤ l.getD 0 0) && decide (l.getD 0 0 + 2 < l.length) && decide (l.getD (l.getD 0 0 + 2).toNat 0 = l.getD 1 0)
def soR (c : Con) (a : List Int) : Bool := heldR c.op (sumW c.vars c.coefs a) c.rhs
def holdsR (c : Con) (a : List Int) : Bool :=
  if c.kind = 0 then soR c a else
  if c.kind = 1 then decide ((sortU (pickedR c.vars a)).length = (pickedR c.vars a).length) else
  if c.kind = 2 then c.rows.any fun r => decide (r = pickedR c.vars a) else
  if c.kind = 3 then elemH (pickedR c.vars a) else
  if c.kind = 4 then (soR c a && decide (atR a c.b = 1)) || (!soR c a && decide (atR a c.b = 0)) else
  if c.kind = 5 then ((pickedR c.vars a).zip c.coefs).any litH else
  holds6 c.vars a
theorem holds_spec (c : Con) (a : List Int) (hc : ConB c) (hl : a.length * 8 ≤ 140737488355328) (hk5 : c.kind = 5 → c.vars.length ≤ c.coefs.length) (hk3 : c.kind = 3 → ∀ x ∈ a, x ≤ 4611686018427387904) :
    Spec Try.prog 27 false [.agg (cC c), ints a] [.val (.bool (holdsR c a))] := by
  obtain ⟨h1, h2, h3, h4⟩ := hc
  refine Spec.body Try.func27 rfl rfl rfl fun w0 Z0 => ?_
  have hpl : (pickedR c.vars a).length = c.vars.length := by simp [pickedR]
  have hheld := held_spec c.op (sumW c.vars c.coefs a) c.rhs
  have hso : heldR c.op (sumW c.vars c.coefs a) c.rhs = soR c a := rfl
  rw [hso] at hheld
  have hsort := sorted_spec (pickedR c.vars a) (by omega)
  have hat := at_spec a c.b hl
  have ho6 : holds6 c.vars a = decide (orderR ((pickedR c.vars a).take (c.vars.length / 2)) ((pickedR c.vars a).drop (c.vars.length / 2)) ≤ 0) := rfl
  have hord := order_spec ((pickedR c.vars a).take (c.vars.length / 2)) ((pickedR c.vars a).drop (c.vars.length / 2)) (by simp; omega) (by simp; omega)
  have hpk := picked_spec c.vars a (by omega) hl
  have hsm := rsum_spec c.vars c.coefs a (by omega) h2 hl
  have hpin : c.kind = 3 → ∀ x ∈ pickedR c.vars a, x ≤ 4611686018427387904 := by
    intro hk x hx
    obtain ⟨v, _, rfl⟩ := List.mem_map.1 hx
    unfold atR
    split
    · omega
    · rw [List.getD_eq_getElem?_getD]
      cases hg : a[v.toNat]? with
      | none => simp
      | some y => simpa using hk3 hk y (List.mem_of_getElem? hg)
  clear hso
  unfold holdsR
  generalize holds6 c.vars a = h6 at *
  generalize sumW c.vars c.coefs a = sm at *
  generalize soR c a = so at *
  generalize pickedR c.vars a = l at *
  repeat' first | refine T.seq ?_ | refine T.block ?_ | refine T.r ?_ | refine J.e rfl rfl rfl rfl ?_ | refine J.nil ?_ | refine J.skip rfl rfl rfl ?_ | refine T.skip ?_ | refine T.exit ?_ | refine T.ret ?_ | refine T.rd rfl (by kernel_rfl) ?_ | refine J.bx rfl rfl rfl rfl rfl rfl ?_
  refine J.cc rfl rfl rfl rfl rfl hpk rfl rfl ?_
  repeat' first | refine T.seq ?_ | refine T.block ?_ | refine T.r ?_ | refine J.e rfl rfl rfl rfl ?_ | refine J.nil ?_ | refine J.skip rfl rfl rfl ?_ | refine T.skip ?_ | refine T.exit ?_ | refine T.ret ?_ | refine T.rd rfl (by kernel_rfl) ?_ | refine J.bx rfl rfl rfl rfl rfl rfl ?_
  refine J.cc rfl rfl rfl rfl rfl hsm rfl rfl ?_
  repeat' first | refine T.seq ?_ | refine T.block ?_ | refine T.r ?_ | refine J.e rfl rfl rfl rfl ?_ | refine J.nil ?_ | refine J.skip rfl rfl rfl ?_ | refine T.skip ?_ | refine T.exit ?_ | refine T.ret ?_ | refine T.rd rfl (by kernel_rfl) ?_ | refine J.bx rfl rfl rfl rfl rfl rfl ?_
  refine J.cc rfl rfl rfl rfl rfl hheld rfl rfl ?_
  repeat' first | refine T.seq ?_ | refine T.block ?_ | refine T.r ?_ | refine J.e rfl rfl rfl rfl ?_ | refine J.nil ?_ | refine J.skip rfl rfl rfl ?_ | refine T.skip ?_ | refine T.exit ?_ | refine T.ret ?_ | refine T.rd rfl (by kernel_rfl) ?_ | refine J.bx rfl rfl rfl rfl rfl rfl ?_
  refine T.cd rfl (fun k0 => ?_) (fun k0 => ?_)
  · have k0 : c.kind = 0 := k0
    rw [if_pos k0]
    repeat' first | refine T.seq ?_ | refine T.block ?_ | refine T.r ?_ | refine J.e rfl rfl rfl rfl ?_ | refine J.nil ?_ | refine J.skip rfl rfl rfl ?_ | refine T.skip ?_ | refine T.exit ?_ | refine T.ret ?_ | refine T.rd rfl (by kernel_rfl) ?_ | refine J.bx rfl rfl rfl rfl rfl rfl ?_
    exact ⟨_, .v rfl rfl rfl (fun _ => rfl) .nil⟩
  have k0 : ¬ c.kind = 0 := k0
  rw [if_neg k0]
  repeat' first | refine T.seq ?_ | refine T.block ?_ | refine T.r ?_ | refine J.e rfl rfl rfl rfl ?_ | refine J.nil ?_ | refine J.skip rfl rfl rfl ?_ | refine T.skip ?_ | refine T.exit ?_ | refine T.ret ?_ | refine T.rd rfl (by kernel_rfl) ?_ | refine J.bx rfl rfl rfl rfl rfl rfl ?_
  refine T.cd rfl (fun k1 => ?_) (fun k1 => ?_)
  · have k1 : c.kind = 1 := k1
    rw [if_pos k1]
    repeat' first | refine T.seq ?_ | refine T.block ?_ | refine T.r ?_ | refine J.e rfl rfl rfl rfl ?_ | refine J.nil ?_ | refine J.skip rfl rfl rfl ?_ | refine T.skip ?_ | refine T.exit ?_ | refine T.ret ?_ | refine T.rd rfl (by kernel_rfl) ?_ | refine J.bx rfl rfl rfl rfl rfl rfl ?_
    refine J.cc rfl rfl rfl rfl rfl hsort rfl rfl ?_
    repeat' first | refine T.seq ?_ | refine T.block ?_ | refine T.r ?_ | refine J.e rfl rfl rfl rfl ?_ | refine J.nil ?_ | refine J.skip rfl rfl rfl ?_ | refine T.skip ?_ | refine T.exit ?_ | refine T.ret ?_ | refine T.rd rfl (by kernel_rfl) ?_ | refine J.bx rfl rfl rfl rfl rfl rfl ?_
    exact ⟨_, .v rfl rfl (by simp; omega) (fun _ => rfl) .nil⟩
  have k1 : ¬ c.kind = 1 := k1
  rw [if_neg k1]
  repeat' first | refine T.seq ?_ | refine T.block ?_ | refine T.r ?_ | refine J.e rfl rfl rfl rfl ?_ | refine J.nil ?_ | refine J.skip rfl rfl rfl ?_ | refine T.skip ?_ | refine T.exit ?_ | refine T.ret ?_ | refine T.rd rfl (by kernel_rfl) ?_ | refine J.bx rfl rfl rfl rfl rfl rfl ?_
  refine T.cd rfl (fun k2 => ?_) (fun k2 => ?_)
  · have k2 : c.kind = 2 := k2
    rw [if_pos k2]
    repeat' first | refine T.seq ?_ | refine T.block ?_ | refine T.r ?_ | refine J.e rfl rfl rfl rfl ?_ | refine J.nil ?_ | refine J.skip rfl rfl rfl ?_ | refine T.skip ?_ | refine T.exit ?_ | refine T.ret ?_ | refine T.rd rfl (by kernel_rfl) ?_ | refine J.bx rfl rfl rfl rfl rfl rfl ?_
    refine T.sub (Rel.frz (s := 5) (fun _ h => h) rfl rfl) ?_
    refine T.canon (keep := [2, 5, 7]) (os := [2]) rfl (T.ind (fun i : Nat => ⟨[(2, .optr 0 0 0 0), (5, .val true (ints l)), (7, .val true (.int .i64 i))], [(0, some (.box false (cC c)))], 1⟩) (fun i => i ≤ c.rows.length ∧ ((c.rows.take i).any fun r => decide (r = l)) = false) (fun i => c.rows.length - i) 0 (by simp) (fun _ _ h => h) ?_)
    rintro i ⟨hi, he⟩ ih
    repeat' first | refine T.seq ?_ | refine T.block ?_ | refine T.r ?_ | refine J.e rfl rfl rfl rfl ?_ | refine J.nil ?_ | refine J.skip rfl rfl rfl ?_ | refine T.skip ?_ | refine T.exit ?_ | refine T.ret ?_ | refine T.rd rfl (by kernel_rfl) ?_ | refine J.bx rfl rfl rfl rfl rfl rfl ?_
    refine T.cd rfl (fun h5 => ?_) (fun h5 => ?_)
    · have h5 : i < c.rows.length := by simpa using h5
      have hrl := h4 _ (List.getElem_mem h5)
      have hn := nums_spec c.rows[i] l hrl
      repeat' first | refine T.seq ?_ | refine T.block ?_ | refine T.r ?_ | refine J.e rfl rfl rfl rfl ?_ | refine J.nil ?_ | refine J.skip rfl rfl rfl ?_ | refine T.skip ?_ | refine T.exit ?_ | refine T.ret ?_ | refine T.rd rfl (by kernel_rfl) ?_ | refine J.bx rfl rfl rfl rfl rfl rfl ?_
      refine J.i rfl rfl rfl rfl rfl rfl rfl rfl rfl (r := cL c.rows[i]) (by omega) (row_i h5) rfl ?_
      repeat' first | refine T.seq ?_ | refine T.block ?_ | refine T.r ?_ | refine J.e rfl rfl rfl rfl ?_ | refine J.nil ?_ | refine J.skip rfl rfl rfl ?_ | refine T.skip ?_ | refine T.exit ?_ | refine T.ret ?_ | refine T.rd rfl (by kernel_rfl) ?_ | refine J.bx rfl rfl rfl rfl rfl rfl ?_
      refine J.cc rfl rfl rfl rfl rfl hn rfl rfl ?_
      by_cases e : c.rows[i] = l
      · have hany : (c.rows.any fun r => decide (r = l)) = true := List.any_eq_true.2 ⟨_, List.getElem_mem h5, by simp [e]⟩
        rw [decide_eq_true e, hany]
        repeat' first | refine T.seq ?_ | refine T.block ?_ | refine T.r ?_ | refine J.e rfl rfl rfl rfl ?_ | refine J.nil ?_ | refine J.skip rfl rfl rfl ?_ | refine T.skip ?_ | refine T.exit ?_ | refine T.ret ?_ | refine T.rd rfl (by kernel_rfl) ?_ | refine J.bx rfl rfl rfl rfl rfl rfl ?_
        refine T.ct rfl ?_
        repeat' first | refine T.seq ?_ | refine T.block ?_ | refine T.r ?_ | refine J.e rfl rfl rfl rfl ?_ | refine J.nil ?_ | refine J.skip rfl rfl rfl ?_ | refine T.skip ?_ | refine T.exit ?_ | refine T.ret ?_ | refine T.rd rfl (by kernel_rfl) ?_ | refine J.bx rfl rfl rfl rfl rfl rfl ?_
        exact ⟨_, .v rfl rfl rfl (fun _ => rfl) .nil⟩
      · rw [decide_eq_false e]
        repeat' first | refine T.seq ?_ | refine T.block ?_ | refine T.r ?_ | refine J.e rfl rfl rfl rfl ?_ | refine J.nil ?_ | refine J.skip rfl rfl rfl ?_ | refine T.skip ?_ | refine T.exit ?_ | refine T.ret ?_ | refine T.rd rfl (by kernel_rfl) ?_ | refine J.bx rfl rfl rfl rfl rfl rfl ?_
        refine T.cf rfl ?_
        repeat' first | refine T.seq ?_ | refine T.block ?_ | refine T.r ?_ | refine J.e rfl rfl rfl rfl ?_ | refine J.nil ?_ | refine J.skip rfl rfl rfl ?_ | refine T.skip ?_ | refine T.exit ?_ | refine T.ret ?_ | refine T.rd rfl (by kernel_rfl) ?_ | refine J.bx rfl rfl rfl rfl rfl rfl ?_
        rw [wrap1 (l := c.rows.length) (by omega) (by omega)]
        exact T.canon (keep := [2, 5, 7]) (os := [2]) rfl (ih (i + 1) ⟨by omega, by rw [List.take_succ_eq_append_getElem h5, List.any_append, he]; simp [e]⟩ (by omega))
    · have h5 : i = c.rows.length := by simp at h5; omega
      subst h5
      rw [List.take_length] at he
      rw [he]
      repeat' first | refine T.seq ?_ | refine T.block ?_ | refine T.r ?_ | refine J.e rfl rfl rfl rfl ?_ | refine J.nil ?_ | refine J.skip rfl rfl rfl ?_ | refine T.skip ?_ | refine T.exit ?_ | refine T.ret ?_ | refine T.rd rfl (by kernel_rfl) ?_ | refine J.bx rfl rfl rfl rfl rfl rfl ?_
      exact ⟨_, .v rfl rfl rfl (fun _ => rfl) .nil⟩
  have k2 : ¬ c.kind = 2 := k2
  rw [if_neg k2]
  repeat' first | refine T.seq ?_ | refine T.block ?_ | refine T.r ?_ | refine J.e rfl rfl rfl rfl ?_ | refine J.nil ?_ | refine J.skip rfl rfl rfl ?_ | refine T.skip ?_ | refine T.exit ?_ | refine T.ret ?_ | refine T.rd rfl (by kernel_rfl) ?_ | refine J.bx rfl rfl rfl rfl rfl rfl ?_
  refine T.cd rfl (fun k3 => ?_) (fun k3 => ?_)
  · have k3 : c.kind = 3 := k3
    rw [if_pos k3]
    have hpin := hpin k3
    unfold elemH
    repeat' first | refine T.seq ?_ | refine T.block ?_ | refine T.r ?_ | refine J.e rfl rfl rfl rfl ?_ | refine J.nil ?_ | refine J.skip rfl rfl rfl ?_ | refine T.skip ?_ | refine T.exit ?_ | refine T.ret ?_ | refine J.bx rfl rfl rfl rfl rfl rfl ?_
    refine T.sub (Rel.frz (s := 5) (fun _ h => h) rfl rfl) ?_
    repeat' first | refine T.seq ?_ | refine T.block ?_ | refine T.r ?_ | refine J.e rfl rfl rfl rfl ?_ | refine J.nil ?_ | refine J.skip rfl rfl rfl ?_ | refine T.skip ?_ | refine T.exit ?_ | refine T.ret ?_ | refine T.rd rfl (by kernel_rfl) ?_ | refine J.bx rfl rfl rfl rfl rfl rfl ?_
    refine J.g rfl rfl rfl (fun g1 => ?_) (fun g1 => ?_)
    · have g1 : 2 ≤ l.length := by
        have g1 : ((l.map cI).length : Int) ≥ 2 := g1
        simp only [List.length_map] at g1; omega
      obtain ⟨x0, hx0⟩ : ∃ x, l[0]? = some x := ⟨_, List.getElem?_eq_getElem (by omega)⟩
      obtain ⟨x1, hx1⟩ : ∃ x, l[1]? = some x := ⟨_, List.getElem?_eq_getElem (by omega)⟩
      have e0 : l.getD 0 0 = x0 := by rw [List.getD_eq_getElem?_getD, hx0]; rfl
      have e1 : l.getD 1 0 = x1 := by rw [List.getD_eq_getElem?_getD, hx1]; rfl
      have hr0 : (l.map cI)[(0 : Int).toNat]? = some (cI x0) := by simp [hx0]
      have hr1 : (l.map cI)[(1 : Int).toNat]? = some (cI x1) := by simp [hx1]
      have hp0 := hpin x0 (List.mem_of_getElem? hx0)
      rw [decide_eq_true g1, e0, e1]
      repeat' first | refine T.seq ?_ | refine T.block ?_ | refine T.r ?_ | refine J.e rfl rfl rfl rfl ?_ | refine J.nil ?_ | refine J.skip rfl rfl rfl ?_ | refine T.skip ?_ | refine T.exit ?_ | refine T.ret ?_ | refine T.rd rfl (by kernel_rfl) ?_ | refine J.bx rfl rfl rfl rfl rfl rfl ?_
      refine J.i rfl rfl rfl rfl rfl rfl rfl rfl rfl (r := cI x0) (by decide) hr0 rfl ?_
      repeat' first | refine T.seq ?_ | refine T.block ?_ | refine T.r ?_ | refine J.e rfl rfl rfl rfl ?_ | refine J.nil ?_ | refine J.skip rfl rfl rfl ?_ | refine T.skip ?_ | refine T.exit ?_ | refine T.ret ?_ | refine T.rd rfl (by kernel_rfl) ?_ | refine J.bx rfl rfl rfl rfl rfl rfl ?_
      refine J.g rfl rfl rfl (fun g2 => ?_) (fun g2 => ?_)
      · have g2 : 0 ≤ x0 := g2
        have ew : IntKind.i64.wrap (x0 + 2) = x0 + 2 := wrap_id (by omega) (by omega)
        rw [decide_eq_true g2]
        repeat' first | refine T.seq ?_ | refine T.block ?_ | refine T.r ?_ | refine J.e rfl rfl rfl rfl ?_ | refine J.nil ?_ | refine J.skip rfl rfl rfl ?_ | refine T.skip ?_ | refine T.exit ?_ | refine T.ret ?_ | refine T.rd rfl (by kernel_rfl) ?_ | refine J.bx rfl rfl rfl rfl rfl rfl ?_
        refine J.i rfl rfl rfl rfl rfl rfl rfl rfl rfl (r := cI x0) (by decide) hr0 rfl ?_
        repeat' first | refine J.e rfl rfl rfl rfl ?_ | refine J.skip rfl rfl rfl ?_ | refine J.bx rfl rfl rfl rfl rfl rfl ?_
        rw [ew]
        repeat' first | refine J.e rfl rfl rfl rfl ?_ | refine J.skip rfl rfl rfl ?_ | refine J.bx rfl rfl rfl rfl rfl rfl ?_
        refine J.g rfl rfl rfl (fun g3 => ?_) (fun g3 => ?_)
        · have g3 : x0 + 2 < l.length := by simpa using g3
          have g4 : (x0 + 2).toNat < l.length := by omega
          obtain ⟨x2, hx2⟩ : ∃ x, l[(x0 + 2).toNat]? = some x := ⟨_, List.getElem?_eq_getElem g4⟩
          have e2 : l.getD (x0 + 2).toNat 0 = x2 := by rw [List.getD_eq_getElem?_getD, hx2]; rfl
          have hr2 : (l.map cI)[(x0 + 2).toNat]? = some (cI x2) := by simp [hx2]
          rw [decide_eq_true g3, e2]
          repeat' first | refine T.seq ?_ | refine T.block ?_ | refine T.r ?_ | refine J.e rfl rfl rfl rfl ?_ | refine J.nil ?_ | refine J.skip rfl rfl rfl ?_ | refine T.skip ?_ | refine T.exit ?_ | refine T.ret ?_ | refine T.rd rfl (by kernel_rfl) ?_ | refine J.bx rfl rfl rfl rfl rfl rfl ?_
          refine J.i rfl rfl rfl rfl rfl rfl rfl rfl rfl (r := cI x0) (by decide) hr0 rfl ?_
          repeat' first | refine J.e rfl rfl rfl rfl ?_ | refine J.skip rfl rfl rfl ?_ | refine J.bx rfl rfl rfl rfl rfl rfl ?_
          rw [ew]
          refine J.i rfl rfl rfl rfl rfl rfl rfl rfl rfl (r := cI x2) (by omega) hr2 rfl ?_
          repeat' first | refine T.seq ?_ | refine T.block ?_ | refine T.r ?_ | refine J.e rfl rfl rfl rfl ?_ | refine J.nil ?_ | refine J.skip rfl rfl rfl ?_ | refine T.skip ?_ | refine T.exit ?_ | refine T.ret ?_ | refine T.rd rfl (by kernel_rfl) ?_ | refine J.bx rfl rfl rfl rfl rfl rfl ?_
          refine J.i rfl rfl rfl rfl rfl rfl rfl rfl rfl (r := cI x1) (by decide) hr1 rfl ?_
          repeat' first | refine T.seq ?_ | refine T.block ?_ | refine T.r ?_ | refine J.e rfl rfl rfl rfl ?_ | refine J.nil ?_ | refine J.skip rfl rfl rfl ?_ | refine T.skip ?_ | refine T.exit ?_ | refine T.ret ?_ | refine T.rd rfl (by kernel_rfl) ?_ | refine J.bx rfl rfl rfl rfl rfl rfl ?_
          exact ⟨_, .v rfl rfl (by simp) (fun _ => rfl) .nil⟩
        · have g3 : ¬ x0 + 2 < l.length := by simpa using g3
          rw [decide_eq_false g3]
          repeat' first | refine T.seq ?_ | refine T.block ?_ | refine T.r ?_ | refine J.e rfl rfl rfl rfl ?_ | refine J.nil ?_ | refine J.skip rfl rfl rfl ?_ | refine T.skip ?_ | refine T.exit ?_ | refine T.ret ?_ | refine T.rd rfl (by kernel_rfl) ?_ | refine J.bx rfl rfl rfl rfl rfl rfl ?_
          exact ⟨_, .v rfl rfl (by simp) (fun _ => rfl) .nil⟩
      · have g2 : ¬ 0 ≤ x0 := g2
        rw [decide_eq_false g2]
        repeat' first | refine T.seq ?_ | refine T.block ?_ | refine T.r ?_ | refine J.e rfl rfl rfl rfl ?_ | refine J.nil ?_ | refine J.skip rfl rfl rfl ?_ | refine T.skip ?_ | refine T.exit ?_ | refine T.ret ?_ | refine T.rd rfl (by kernel_rfl) ?_ | refine J.bx rfl rfl rfl rfl rfl rfl ?_
        exact ⟨_, .v rfl rfl (by simp) (fun _ => rfl) .nil⟩
    · have g1 : ¬ 2 ≤ l.length := by
        have g1 : ¬ ((l.map cI).length : Int) ≥ 2 := g1
        simp only [List.length_map] at g1; omega
      rw [decide_eq_false g1]
      repeat' first | refine T.seq ?_ | refine T.block ?_ | refine T.r ?_ | refine J.e rfl rfl rfl rfl ?_ | refine J.nil ?_ | refine J.skip rfl rfl rfl ?_ | refine T.skip ?_ | refine T.exit ?_ | refine T.ret ?_ | refine T.rd rfl (by kernel_rfl) ?_ | refine J.bx rfl rfl rfl rfl rfl rfl ?_
      exact ⟨_, .v rfl rfl (by simp) (fun _ => rfl) .nil⟩
  have k3 : ¬ c.kind = 3 := k3
  rw [if_neg k3]
  repeat' first | refine T.seq ?_ | refine T.block ?_ | refine T.r ?_ | refine J.e rfl rfl rfl rfl ?_ | refine J.nil ?_ | refine J.skip rfl rfl rfl ?_ | refine T.skip ?_ | refine T.exit ?_ | refine T.ret ?_ | refine T.rd rfl (by kernel_rfl) ?_ | refine J.bx rfl rfl rfl rfl rfl rfl ?_
  refine T.cd rfl (fun k4 => ?_) (fun k4 => ?_)
  · have k4 : c.kind = 4 := k4
    rw [if_pos k4]
    cases so
    · repeat' first | refine T.seq ?_ | refine T.block ?_ | refine T.r ?_ | refine J.e rfl rfl rfl rfl ?_ | refine J.nil ?_ | refine J.skip rfl rfl rfl ?_ | refine T.skip ?_ | refine T.exit ?_ | refine T.ret ?_ | refine T.rd rfl (by kernel_rfl) ?_ | refine J.bx rfl rfl rfl rfl rfl rfl ?_
      refine J.cc rfl rfl rfl rfl rfl hat rfl rfl ?_
      repeat' first | refine T.seq ?_ | refine T.block ?_ | refine T.r ?_ | refine J.e rfl rfl rfl rfl ?_ | refine J.nil ?_ | refine J.skip rfl rfl rfl ?_ | refine T.skip ?_ | refine T.exit ?_ | refine T.ret ?_ | refine T.rd rfl (by kernel_rfl) ?_ | refine J.bx rfl rfl rfl rfl rfl rfl ?_
      exact ⟨_, .v rfl rfl (by simp) (fun _ => rfl) .nil⟩
    · repeat' first | refine T.seq ?_ | refine T.block ?_ | refine T.r ?_ | refine J.e rfl rfl rfl rfl ?_ | refine J.nil ?_ | refine J.skip rfl rfl rfl ?_ | refine T.skip ?_ | refine T.exit ?_ | refine T.ret ?_ | refine T.rd rfl (by kernel_rfl) ?_ | refine J.bx rfl rfl rfl rfl rfl rfl ?_
      refine J.cc rfl rfl rfl rfl rfl hat rfl rfl ?_
      generalize atR a c.b = ab at *
      repeat' first | refine T.seq ?_ | refine T.block ?_ | refine T.r ?_ | refine J.e rfl rfl rfl rfl ?_ | refine J.nil ?_ | refine J.skip rfl rfl rfl ?_ | refine T.skip ?_ | refine T.exit ?_ | refine T.ret ?_ | refine T.rd rfl (by kernel_rfl) ?_ | refine J.bx rfl rfl rfl rfl rfl rfl ?_
      refine J.g rfl rfl rfl (fun h => ?_) (fun h => ?_)
      · have h : ab = 1 := h
        rw [decide_eq_true h]
        repeat' first | refine T.seq ?_ | refine T.block ?_ | refine T.r ?_ | refine J.e rfl rfl rfl rfl ?_ | refine J.nil ?_ | refine J.skip rfl rfl rfl ?_ | refine T.skip ?_ | refine T.exit ?_ | refine T.ret ?_ | refine T.rd rfl (by kernel_rfl) ?_ | refine J.bx rfl rfl rfl rfl rfl rfl ?_
        exact ⟨_, .v rfl rfl (by simp) (fun _ => rfl) .nil⟩
      · have h : ¬ ab = 1 := h
        rw [decide_eq_false h]
        repeat' first | refine T.seq ?_ | refine T.block ?_ | refine T.r ?_ | refine J.e rfl rfl rfl rfl ?_ | refine J.nil ?_ | refine J.skip rfl rfl rfl ?_ | refine T.skip ?_ | refine T.exit ?_ | refine T.ret ?_ | refine T.rd rfl (by kernel_rfl) ?_ | refine J.bx rfl rfl rfl rfl rfl rfl ?_
        exact ⟨_, .v rfl rfl (by simp) (fun _ => rfl) .nil⟩
  have k4 : ¬ c.kind = 4 := k4
  rw [if_neg k4]
  repeat' first | refine T.seq ?_ | refine T.block ?_ | refine T.r ?_ | refine J.e rfl rfl rfl rfl ?_ | refine J.nil ?_ | refine J.skip rfl rfl rfl ?_ | refine T.skip ?_ | refine T.exit ?_ | refine T.ret ?_ | refine T.rd rfl (by kernel_rfl) ?_ | refine J.bx rfl rfl rfl rfl rfl rfl ?_
  refine T.cd rfl (fun k5 => ?_) (fun k5 => ?_)
  · have k5 : c.kind = 5 := k5
    rw [if_pos k5]
    have hk5 := hk5 k5
    repeat' first | refine T.seq ?_ | refine T.block ?_ | refine T.r ?_ | refine J.e rfl rfl rfl rfl ?_ | refine J.nil ?_ | refine J.skip rfl rfl rfl ?_ | refine T.skip ?_ | refine T.exit ?_ | refine T.ret ?_ | refine J.bx rfl rfl rfl rfl rfl rfl ?_
    refine T.sub (Rel.frz (s := 5) (fun _ h => h) rfl rfl) ?_
    refine T.canon (keep := [2, 5, 8]) (os := [2]) rfl (T.ind (fun i : Nat => ⟨[(2, .optr 0 0 0 0), (5, .val true (ints l)), (8, .val true (.int .i64 i))], [(0, some (.box false (cC c)))], 1⟩) (fun i => i ≤ l.length ∧ ((l.zip c.coefs).take i).any litH = false) (fun i => l.length - i) 0 (by simp) (fun _ _ h => h) ?_)
    rintro i ⟨hi, he⟩ ih
    repeat' first | refine T.seq ?_ | refine T.block ?_ | refine T.r ?_ | refine J.e rfl rfl rfl rfl ?_ | refine J.nil ?_ | refine J.skip rfl rfl rfl ?_ | refine T.skip ?_ | refine T.exit ?_ | refine T.ret ?_ | refine T.rd rfl (by kernel_rfl) ?_ | refine J.bx rfl rfl rfl rfl rfl rfl ?_
    refine T.cd rfl (fun h5 => ?_) (fun h5 => ?_)
    · have h5 : i < l.length := by simpa using h5
      have h6 : i < c.coefs.length := by omega
      have hz : i < (l.zip c.coefs).length := by simp; omega
      have eyes : litH (l[i], c.coefs[i]) = true → (l.zip c.coefs).any litH = true := fun h => List.any_eq_true.2 ⟨(l[i], c.coefs[i]), by rw [← List.getElem_zip (h := hz)]; exact List.getElem_mem hz, h⟩
      have eno : litH (l[i], c.coefs[i]) = false → ((l.zip c.coefs).take (i + 1)).any litH = false := fun h => by
        rw [List.take_succ_eq_append_getElem hz, List.any_append, he, List.getElem_zip]
        simp [h]
      have edef : litH (l[i], c.coefs[i]) = ((decide (c.coefs[i] = 1) && decide (l[i] = 1)) || (decide (c.coefs[i] = -1) && decide (l[i] = 0))) := rfl
      have hrl := row_i (enc := cI) h5
      have hrk := row_i (enc := cI) h6
      generalize litH (l[i], c.coefs[i]) = lb at *
      generalize l[i] = x at *
      generalize c.coefs[i] = k at *
      repeat' first | refine T.seq ?_ | refine T.block ?_ | refine T.r ?_ | refine J.e rfl rfl rfl rfl ?_ | refine J.nil ?_ | refine J.skip rfl rfl rfl ?_ | refine T.skip ?_ | refine T.exit ?_ | refine T.ret ?_ | refine T.rd rfl (by kernel_rfl) ?_ | refine J.bx rfl rfl rfl rfl rfl rfl ?_
      refine J.i rfl rfl rfl rfl rfl rfl rfl rfl rfl (r := cI k) (by omega) hrk rfl ?_
      repeat' first | refine T.seq ?_ | refine T.block ?_ | refine T.r ?_ | refine J.e rfl rfl rfl rfl ?_ | refine J.nil ?_ | refine J.skip rfl rfl rfl ?_ | refine T.skip ?_ | refine T.exit ?_ | refine T.ret ?_ | refine T.rd rfl (by kernel_rfl) ?_ | refine J.bx rfl rfl rfl rfl rfl rfl ?_
      refine J.g rfl rfl rfl (fun g1 => ?_) (fun g1 => ?_)
      · have g1 : k = 1 := g1
        have g9 : ¬ k = -1 := by omega
        rw [decide_eq_true g1, decide_eq_false g9] at edef
        repeat' first | refine T.seq ?_ | refine T.block ?_ | refine T.r ?_ | refine J.e rfl rfl rfl rfl ?_ | refine J.nil ?_ | refine J.skip rfl rfl rfl ?_ | refine T.skip ?_ | refine T.exit ?_ | refine T.ret ?_ | refine T.rd rfl (by kernel_rfl) ?_ | refine J.bx rfl rfl rfl rfl rfl rfl ?_
        refine J.i rfl rfl rfl rfl rfl rfl rfl rfl rfl (r := cI x) (by omega) hrl rfl ?_
        repeat' first | refine T.seq ?_ | refine T.block ?_ | refine T.r ?_ | refine J.e rfl rfl rfl rfl ?_ | refine J.nil ?_ | refine J.skip rfl rfl rfl ?_ | refine T.skip ?_ | refine T.exit ?_ | refine T.ret ?_ | refine T.rd rfl (by kernel_rfl) ?_ | refine J.bx rfl rfl rfl rfl rfl rfl ?_
        refine J.g rfl rfl rfl (fun g2 => ?_) (fun g2 => ?_)
        · have g2 : x = 1 := g2
          rw [decide_eq_true g2] at edef
          repeat' first | refine T.seq ?_ | refine T.block ?_ | refine T.r ?_ | refine J.e rfl rfl rfl rfl ?_ | refine J.nil ?_ | refine J.skip rfl rfl rfl ?_ | refine T.skip ?_ | refine T.exit ?_ | refine T.ret ?_ | refine T.rd rfl (by kernel_rfl) ?_ | refine J.bx rfl rfl rfl rfl rfl rfl ?_
          have hb : lb = true := by rw [edef]; rfl
          rw [eyes hb]
          refine T.ct rfl ?_
          repeat' first | refine T.seq ?_ | refine T.block ?_ | refine T.r ?_ | refine J.e rfl rfl rfl rfl ?_ | refine J.nil ?_ | refine J.skip rfl rfl rfl ?_ | refine T.skip ?_ | refine T.exit ?_ | refine T.ret ?_ | refine T.rd rfl (by kernel_rfl) ?_ | refine J.bx rfl rfl rfl rfl rfl rfl ?_
          exact ⟨_, .v rfl rfl rfl (fun _ => rfl) .nil⟩
        · have g2 : ¬ x = 1 := g2
          rw [decide_eq_false g2] at edef
          repeat' first | refine T.seq ?_ | refine T.block ?_ | refine T.r ?_ | refine J.e rfl rfl rfl rfl ?_ | refine J.nil ?_ | refine J.skip rfl rfl rfl ?_ | refine T.skip ?_ | refine T.exit ?_ | refine T.ret ?_ | refine T.rd rfl (by kernel_rfl) ?_ | refine J.bx rfl rfl rfl rfl rfl rfl ?_
          refine J.i rfl rfl rfl rfl rfl rfl rfl rfl rfl (r := cI k) (by omega) hrk rfl ?_
          repeat' first | refine T.seq ?_ | refine T.block ?_ | refine T.r ?_ | refine J.e rfl rfl rfl rfl ?_ | refine J.nil ?_ | refine J.skip rfl rfl rfl ?_ | refine T.skip ?_ | refine T.exit ?_ | refine T.ret ?_ | refine T.rd rfl (by kernel_rfl) ?_ | refine J.bx rfl rfl rfl rfl rfl rfl ?_
          refine J.g rfl rfl rfl (fun g3 => absurd g3 g9) (fun _ => ?_)
          repeat' first | refine T.seq ?_ | refine T.block ?_ | refine T.r ?_ | refine J.e rfl rfl rfl rfl ?_ | refine J.nil ?_ | refine J.skip rfl rfl rfl ?_ | refine T.skip ?_ | refine T.exit ?_ | refine T.ret ?_ | refine T.rd rfl (by kernel_rfl) ?_ | refine J.bx rfl rfl rfl rfl rfl rfl ?_
          have hb : lb = false := by rw [edef]; rfl
          refine T.cf rfl ?_
          repeat' first | refine T.seq ?_ | refine T.block ?_ | refine T.r ?_ | refine J.e rfl rfl rfl rfl ?_ | refine J.nil ?_ | refine J.skip rfl rfl rfl ?_ | refine T.skip ?_ | refine T.exit ?_ | refine T.ret ?_ | refine T.rd rfl (by kernel_rfl) ?_ | refine J.bx rfl rfl rfl rfl rfl rfl ?_
          rw [wrap1 (l := l.length) (by omega) (by omega)]
          exact T.canon (keep := [2, 5, 8]) (os := [2]) rfl (ih (i + 1) ⟨by omega, eno hb⟩ (by omega))
      · have g1 : ¬ k = 1 := g1
        rw [decide_eq_false g1] at edef
        repeat' first | refine T.seq ?_ | refine T.block ?_ | refine T.r ?_ | refine J.e rfl rfl rfl rfl ?_ | refine J.nil ?_ | refine J.skip rfl rfl rfl ?_ | refine T.skip ?_ | refine T.exit ?_ | refine T.ret ?_ | refine T.rd rfl (by kernel_rfl) ?_ | refine J.bx rfl rfl rfl rfl rfl rfl ?_
        refine J.i rfl rfl rfl rfl rfl rfl rfl rfl rfl (r := cI k) (by omega) hrk rfl ?_
        repeat' first | refine T.seq ?_ | refine T.block ?_ | refine T.r ?_ | refine J.e rfl rfl rfl rfl ?_ | refine J.nil ?_ | refine J.skip rfl rfl rfl ?_ | refine T.skip ?_ | refine T.exit ?_ | refine T.ret ?_ | refine T.rd rfl (by kernel_rfl) ?_ | refine J.bx rfl rfl rfl rfl rfl rfl ?_
        refine J.g rfl rfl rfl (fun g3 => ?_) (fun g3 => ?_)
        · have g3 : k = -1 := g3
          rw [decide_eq_true g3] at edef
          repeat' first | refine T.seq ?_ | refine T.block ?_ | refine T.r ?_ | refine J.e rfl rfl rfl rfl ?_ | refine J.nil ?_ | refine J.skip rfl rfl rfl ?_ | refine T.skip ?_ | refine T.exit ?_ | refine T.ret ?_ | refine T.rd rfl (by kernel_rfl) ?_ | refine J.bx rfl rfl rfl rfl rfl rfl ?_
          refine J.i rfl rfl rfl rfl rfl rfl rfl rfl rfl (r := cI x) (by omega) hrl rfl ?_
          repeat' first | refine T.seq ?_ | refine T.block ?_ | refine T.r ?_ | refine J.e rfl rfl rfl rfl ?_ | refine J.nil ?_ | refine J.skip rfl rfl rfl ?_ | refine T.skip ?_ | refine T.exit ?_ | refine T.ret ?_ | refine T.rd rfl (by kernel_rfl) ?_ | refine J.bx rfl rfl rfl rfl rfl rfl ?_
          by_cases g4 : x = 0
          · rw [decide_eq_true g4] at edef ⊢
            have hb : lb = true := by rw [edef]; rfl
            rw [eyes hb]
            refine T.ct rfl ?_
            repeat' first | refine T.seq ?_ | refine T.block ?_ | refine T.r ?_ | refine J.e rfl rfl rfl rfl ?_ | refine J.nil ?_ | refine J.skip rfl rfl rfl ?_ | refine T.skip ?_ | refine T.exit ?_ | refine T.ret ?_ | refine T.rd rfl (by kernel_rfl) ?_ | refine J.bx rfl rfl rfl rfl rfl rfl ?_
            exact ⟨_, .v rfl rfl rfl (fun _ => rfl) .nil⟩
          · rw [decide_eq_false g4] at edef ⊢
            have hb : lb = false := by rw [edef]; rfl
            refine T.cf rfl ?_
            repeat' first | refine T.seq ?_ | refine T.block ?_ | refine T.r ?_ | refine J.e rfl rfl rfl rfl ?_ | refine J.nil ?_ | refine J.skip rfl rfl rfl ?_ | refine T.skip ?_ | refine T.exit ?_ | refine T.ret ?_ | refine T.rd rfl (by kernel_rfl) ?_ | refine J.bx rfl rfl rfl rfl rfl rfl ?_
            rw [wrap1 (l := l.length) (by omega) (by omega)]
            exact T.canon (keep := [2, 5, 8]) (os := [2]) rfl (ih (i + 1) ⟨by omega, eno hb⟩ (by omega))
        · have g3 : ¬ k = -1 := g3
          rw [decide_eq_false g3] at edef
          repeat' first | refine T.seq ?_ | refine T.block ?_ | refine T.r ?_ | refine J.e rfl rfl rfl rfl ?_ | refine J.nil ?_ | refine J.skip rfl rfl rfl ?_ | refine T.skip ?_ | refine T.exit ?_ | refine T.ret ?_ | refine T.rd rfl (by kernel_rfl) ?_ | refine J.bx rfl rfl rfl rfl rfl rfl ?_
          have hb : lb = false := by rw [edef]; rfl
          refine T.cf rfl ?_
          repeat' first | refine T.seq ?_ | refine T.block ?_ | refine T.r ?_ | refine J.e rfl rfl rfl rfl ?_ | refine J.nil ?_ | refine J.skip rfl rfl rfl ?_ | refine T.skip ?_ | refine T.exit ?_ | refine T.ret ?_ | refine T.rd rfl (by kernel_rfl) ?_ | refine J.bx rfl rfl rfl rfl rfl rfl ?_
          rw [wrap1 (l := l.length) (by omega) (by omega)]
          exact T.canon (keep := [2, 5, 8]) (os := [2]) rfl (ih (i + 1) ⟨by omega, eno hb⟩ (by omega))
    · have h5 : i = l.length := by simp at h5; omega
      subst h5
      rw [List.take_of_length_le (by simp; omega)] at he
      rw [he]
      repeat' first | refine T.seq ?_ | refine T.block ?_ | refine T.r ?_ | refine J.e rfl rfl rfl rfl ?_ | refine J.nil ?_ | refine J.skip rfl rfl rfl ?_ | refine T.skip ?_ | refine T.exit ?_ | refine T.ret ?_ | refine T.rd rfl (by kernel_rfl) ?_ | refine J.bx rfl rfl rfl rfl rfl rfl ?_
      exact ⟨_, .v rfl rfl rfl (fun _ => rfl) .nil⟩
  have k5 : ¬ c.kind = 5 := k5
  rw [if_neg k5]
  repeat' first | refine T.seq ?_ | refine T.block ?_ | refine T.r ?_ | refine J.e rfl rfl rfl rfl ?_ | refine J.nil ?_ | refine J.skip rfl rfl rfl ?_ | refine T.skip ?_ | refine T.exit ?_ | refine T.ret ?_ | refine J.bx rfl rfl rfl rfl rfl rfl ?_
  have e1 : IntKind.i64.wrap (((l.map cI).length : Int).tdiv 2) = ((c.vars.length / 2 : Nat) : Int) := by
    rw [List.length_map, hpl, Int.tdiv_eq_ediv_of_nonneg (by omega), wrap_id (by omega) (by omega)]
    simp
  rw [e1]
  refine T.sub (Rel.frz (s := 5) (fun _ h => h) rfl rfl) ?_
  repeat' first | refine T.seq ?_ | refine T.block ?_ | refine T.r ?_ | refine J.e rfl rfl rfl rfl ?_ | refine J.nil ?_ | refine J.skip rfl rfl rfl ?_ | refine T.skip ?_ | refine T.exit ?_ | refine T.ret ?_ | refine T.rd rfl (by kernel_rfl) ?_ | refine J.bx rfl rfl rfl rfl rfl rfl ?_
  refine J.s1 (enc := cI) (c.vars.length / 2) rfl rfl rfl rfl rfl rfl rfl rfl rfl (fun _ => rfl) rfl (by omega) ?_
  repeat' first | refine T.seq ?_ | refine T.block ?_ | refine T.r ?_ | refine J.e rfl rfl rfl rfl ?_ | refine J.nil ?_ | refine J.skip rfl rfl rfl ?_ | refine T.skip ?_ | refine T.exit ?_ | refine T.ret ?_ | refine T.rd rfl (by kernel_rfl) ?_ | refine J.bx rfl rfl rfl rfl rfl rfl ?_
  refine J.s3 (enc := cI) (c.vars.length / 2) rfl rfl rfl rfl rfl rfl rfl rfl rfl (fun _ => rfl) rfl (by omega) ?_
  repeat' first | refine T.seq ?_ | refine T.block ?_ | refine T.r ?_ | refine J.e rfl rfl rfl rfl ?_ | refine J.nil ?_ | refine J.skip rfl rfl rfl ?_ | refine T.skip ?_ | refine T.exit ?_ | refine T.ret ?_ | refine T.rd rfl (by kernel_rfl) ?_ | refine J.bx rfl rfl rfl rfl rfl rfl ?_
  refine J.cc rfl rfl rfl rfl rfl hord rfl rfl ?_
  repeat' first | refine T.seq ?_ | refine T.block ?_ | refine T.r ?_ | refine J.e rfl rfl rfl rfl ?_ | refine J.nil ?_ | refine J.skip rfl rfl rfl ?_ | refine T.skip ?_ | refine T.exit ?_ | refine T.ret ?_ | refine T.rd rfl (by kernel_rfl) ?_ | refine J.bx rfl rfl rfl rfl rfl rfl ?_
  exact ⟨_, .v rfl rfl (by rw [ho6]) (fun _ => rfl) .nil⟩
end Go.Proofs.Ytchajofdjeijfaa
/-! Plain laws: clauses; what tells of a sum, and clauses, where all is known. -/
namespace Go.Proofs.Ytchajofdjeijfaa
open Go Go.RowKit
set_option linter.unusedVariables false
set_option linter.unusedSimpArgs false

/-! Clauses. -/
/-- What is left of domains by literals, those that may be so in a list. -/
def clF (d : Doms) (l : List (Int × Int)) : Option Doms :=
  match l with
  | [] => none
  | [p] => keepO d p.1 (litW p.2)
  | _ :: _ :: _ => some d
theorem clGo_eq (d : Doms) (c : Con) (hl : c.vars.length = c.coefs.length) : ∀ (l : List (Int × Int)) (i : Nat) (op : Int), l = (c.vars.zip c.coefs).drop i → (0 ≤ op → op.toNat < c.vars.length) →
    clauseO d c (clGo d i l op) = if op < 0 then clF d (l.filter (litB d)) else (match l.filter (litB d) with | [] => keepO d (varAt c op.toNat) (litW (coefAt c op.toNat)) | _ :: _ => some d)
  | [], i, op, h, ho => by
    rw [clGo, clauseO]
    by_cases h1 : op < 0
    · rw [if_pos h1, if_pos h1]; rfl
    · rw [if_neg h1, if_neg h1]; rfl
  | p :: l, i, op, h, ho => by
    have hi : i < (c.vars.zip c.coefs).length := by
      have := congrArg List.length h
      simp at this
      simp; omega
    have hd := List.drop_eq_getElem_cons hi
    rw [← h] at hd
    injection hd with hp hl'
    have hiv : i < c.vars.length := by simp at hi; omega
    have hic : i < c.coefs.length := by omega
    have hpe : p = (varAt c i, coefAt c i) := by
      rw [hp, List.getElem_zip]
      simp [varAt, coefAt, hiv, hic]
    rw [clGo]
    by_cases hb : litB d p = true
    · rw [if_neg (by simp [hb]), List.filter_cons_of_pos hb]
      by_cases h1 : op < 0
      · rw [if_neg (by omega), if_pos h1, clGo_eq d c hl l (i + 1) i hl' (fun _ => by simpa using hiv), if_neg (by omega)]
        cases hf : l.filter (litB d) with
        | nil => simp [clF, hpe]
        | cons q m => simp [clF]
      · rw [if_pos (by omega), if_neg h1]
        rfl
    · have hb : litB d p = false := by simpa using hb
      rw [if_pos hb, List.filter_cons_of_neg (by simp [hb]), clGo_eq d c hl l (i + 1) op hl' ho]
theorem clauseW_eq {d : Doms} {c : Con} (hl : c.vars.length = c.coefs.length) : clauseW d c = if [] ∈ d then none else clF d ((c.vars.zip c.coefs).filter (litB d)) := by
  unfold clauseW
  rw [clGo_eq d c hl (c.vars.zip c.coefs) 0 (-1) rfl (by omega), if_pos (by decide : (-1 : Int) < 0)]
/-- A right clause. -/
structure ClOk (d : Doms) (c : Con) : Prop where
  len : c.vars.length = c.coefs.length
  nod : c.vars.Nodup
  pos : 0 < c.vars.length
  vl : c.vars.length * 8 ≤ 140737488355328
  vin : ∀ v ∈ c.vars, 0 ≤ v ∧ v.toNat < d.length
  unit : ∀ k ∈ c.coefs, k = 1 ∨ k = -1
  truth : ∀ v ∈ c.vars, truthR (domAt d v) = true
theorem lit_1 : litW 1 = 1 := by decide +kernel
theorem lit_m : litW (-1) = 0 := by decide +kernel
theorem clause_in {d : Doms} {c : Con} (hc : ConB c) (h : conR d c = 0) (hk : c.kind = 5) : ClOk d c := by
  obtain ⟨hv, hr⟩ := con_in hc h
  unfold rightR at hr
  rw [if_neg (by omega), if_neg (by omega), if_neg (by omega), if_neg (by omega), if_neg (by omega), if_pos hk] at hr
  simp only [sumR, Bool.and_eq_true, decide_eq_true_eq, Bool.not_eq_true', decide_eq_false_iff_not] at hr
  obtain ⟨⟨_, ⟨⟨h4, h5⟩, h6⟩, h7⟩, h8⟩ := hr
  have hu : ∀ i, i < c.vars.length → truthR (domAt d (varAt c i)) = true ∧ (coefAt c i = 1 ∨ coefAt c i = -1) := by
    intro i hi
    have := List.all_eq_true.1 h8 i (List.mem_range.2 hi)
    simpa [unitAt] using this
  refine ⟨h6, h4, h5, hv.1, hv.2, fun k hk => ?_, fun v hv => ?_⟩
  · obtain ⟨i, hi, rfl⟩ := List.getElem_of_mem hk
    have := (hu i (by omega)).2
    simpa [coefAt, hi] using this
  · obtain ⟨i, hi, rfl⟩ := List.getElem_of_mem hv
    have := (hu i hi).1
    simpa [varAt, hi] using this
theorem clin_in {d : Doms} {c : Con} (h : ClOk d c) (hdl : d.length * 24 ≤ 140737488355328) (hx : ∀ x ∈ d, (x.length + 1) * 16 ≤ 140737488355328) : ClIn d c := ⟨h.len, h.vl, h.vin, hdl, hx⟩
theorem keepO_some {d : Doms} {b v : Int} {out : Doms} (h : keepO d b v = some out) (hm : [] ∉ d) (hb : b.toNat < d.length) (hf : ∀ x ∈ d, Fine x) : out.length = d.length ∧ [] ∉ out ∧ ∀ x ∈ out, Fine x := by
  unfold keepO at h
  split at h
  · cases h
  · rename_i hne
    cases h
    have hx := hf _ (domAt_mem hb)
    obtain ⟨h1, h2⟩ := domCut_ok hx.ok v v
    exact ⟨by simp, fun hc => hne ((set_empty hb hm).1 hc), mem_set hf (hx.cut h1 fun w hw => ((h2 w).1 hw).1)⟩
theorem clF_some {d : Doms} {l : List (Int × Int)} {out : Doms} (h : clF d l = some out) (hm : [] ∉ d) (hb : ∀ p ∈ l, p.1.toNat < d.length) (hf : ∀ x ∈ d, Fine x) : out.length = d.length ∧ [] ∉ out ∧ ∀ x ∈ out, Fine x := by
  unfold clF at h
  split at h
  · cases h
  · exact keepO_some h hm (hb _ (.head _)) hf
  · cases h; exact ⟨rfl, hm, hf⟩
theorem clauseW_some {d : Doms} {c : Con} {out : Doms} (hc : ClOk d c) (h : clauseW d c = some out) (hf : ∀ x ∈ d, Fine x) : out.length = d.length ∧ [] ∉ out ∧ ∀ x ∈ out, Fine x := by
  rw [clauseW_eq hc.len] at h
  split at h
  · cases h
  · rename_i hm
    exact clF_some h hm (fun p hp => (hc.vin _ (List.of_mem_zip (List.mem_filter.1 hp).1).1).2) hf

/-! Where all is known. -/
theorem has_sing (x v : Int) : hasV (sing x) v = decide (x = v) := by
  simp only [hasV, sing, List.any_cons, List.any_nil, Bool.or_false]
  by_cases h : x = v
  · subst h; simp
  · simp [h]; omega
theorem keep_sing {u : List Int} {b v : Int} (h0 : 0 ≤ b) (hb : b.toNat < u.length) : keepO (sings u) b v = if atR u b = v then some (sings u) else none := by
  unfold keepO
  have hl : b.toNat < (sings u).length := by simpa [sings] using hb
  rw [domAt_sings h0 hb, domCut_sing _ _ _ (Int.le_refl v)]
  by_cases h : atR u b = v
  · have h2 : v ≤ atR u b ∧ atR u b ≤ v := by omega
    rw [if_pos h, if_pos h2, if_neg (by simp [sing]), ← domAt_sings h0 hb, set_self hl]
  · have h2 : ¬ (v ≤ atR u b ∧ atR u b ≤ v) := by omega
    rw [if_neg h, if_neg h2, if_pos rfl]
theorem truth_sing {x : Int} (h : truthR (sing x) = true) : x = 0 ∨ x = 1 := by
  simp [truthR, sing] at h
  omega
theorem nil_sings (u : List Int) : [] ∉ sings u := by
  intro h
  obtain ⟨v, _, hv⟩ := List.mem_map.1 h
  simp [sing] at hv
theorem lit_sings {u : List Int} {c : Con} (h : ClOk (sings u) c) {p : Int × Int} (hp : p ∈ c.vars.zip c.coefs) : litB (sings u) p = litH (atR u p.1, p.2) ∧ (litB (sings u) p = true → keepO (sings u) p.1 (litW p.2) = some (sings u)) := by
  obtain ⟨v, k⟩ := p
  obtain ⟨hv, hk⟩ := List.of_mem_zip hp
  obtain ⟨h0, h1⟩ := h.vin v hv
  have h1' : v.toNat < u.length := by simpa [sings] using h1
  have ht := h.truth v hv
  rw [domAt_sings h0 h1'] at ht
  have hx := truth_sing ht
  simp only [litB, litH, domAt_sings h0 h1', has_sing]
  rcases h.unit k hk with rfl | rfl
  · rw [lit_1, keep_sing h0 h1']
    refine ⟨by simp, fun h => ?_⟩
    rw [if_pos (by simpa using h)]
  · rw [lit_m, keep_sing h0 h1']
    refine ⟨by simp, fun h => ?_⟩
    rw [if_pos (by simpa using h)]
theorem clause_sings {u : List Int} {c : Con} (h : ClOk (sings u) c) : clauseW (sings u) c = if ((pickedR c.vars u).zip c.coefs).any litH then some (sings u) else none := by
  rw [clauseW_eq h.len, if_neg (nil_sings u)]
  have e : (pickedR c.vars u).zip c.coefs = (c.vars.zip c.coefs).map fun p => (atR u p.1, p.2) := by
    unfold pickedR
    rw [List.zip_map_left]
    rfl
  have e2 : ((pickedR c.vars u).zip c.coefs).any litH = (c.vars.zip c.coefs).any (litB (sings u)) := by
    rw [e, List.any_map, Bool.eq_iff_iff, List.any_eq_true, List.any_eq_true]
    exact ⟨fun ⟨p, hp, hl⟩ => ⟨p, hp, by rw [(lit_sings h hp).1]; exact hl⟩, fun ⟨p, hp, hl⟩ => ⟨p, hp, by rw [(lit_sings h hp).1] at hl; exact hl⟩⟩
  rw [e2]
  cases hf : (c.vars.zip c.coefs).filter (litB (sings u)) with
  | nil =>
    have : (c.vars.zip c.coefs).any (litB (sings u)) = false := by
      rw [List.any_eq_false]
      intro p hp hl
      have := List.mem_filter.2 ⟨hp, hl⟩
      rw [hf] at this
      cases this
    rw [this]; rfl
  | cons p l =>
    have hp := List.mem_filter.1 (hf ▸ List.Mem.head l : p ∈ (c.vars.zip c.coefs).filter (litB (sings u)))
    have : (c.vars.zip c.coefs).any (litB (sings u)) = true := List.any_eq_true.2 ⟨p, hp.1, hp.2⟩
    rw [this]
    cases l with
    | nil => exact (lit_sings h hp.1).2 hp.2
    | cons q l => rfl
theorem ends_sings {u vars coefs : List Int} (h : SumFine (sings u) vars coefs) (hw : weightK coefs ≤ 4611686018427388928) : endsW (sings u) vars coefs = (plainS vars coefs u, plainS vars coefs u, true) := by
  have hne : ∀ t ∈ termsOf (sings u) vars coefs, t.1 ≠ [] := by
    intro t ht
    obtain ⟨p, hp, rfl⟩ := List.mem_map.1 ht
    have hv := h.vin _ (List.of_mem_zip hp).1
    intro e
    exact nil_sings u (e ▸ domAt_mem hv.2)
  have hwt := terms_weight (d := sings u) h.len
  have := endsGo_ok 0 0 (terms_ok h) hne (by omega) (by omega) (by omega) (by omega)
  have e : ∀ p ∈ vars.zip coefs, lowE (domAt (sings u) p.1) p.2 = p.2 * atR u p.1 ∧ highE (domAt (sings u) p.1) p.2 = p.2 * atR u p.1 := by
    intro p hp
    have hv := h.vin _ (List.of_mem_zip hp).1
    rw [domAt_sings hv.1 (by simpa [sings] using hv.2)]
    simp [lowE, highE, sing, leastR, lastR]
  unfold endsW
  rw [this, lowS_zip, highS_zip]
  unfold plainS
  rw [List.map_congr_left fun p hp => (e p hp).1, List.map_congr_left fun p hp => (e p hp).2]
  simp
theorem so_sings {u : List Int} {c : Con} (h : SumOk (sings u) c) : soW (endsW (sings u) c.vars c.coefs) c = holds0 c u := by
  have ha := absK_pos c.rhs
  have hb := h.big
  have hop := h.op
  rw [ends_sings h.fine (by omega)]
  unfold soW holds0 heldR
  generalize plainS c.vars c.coefs u = s
  simp only [Bool.true_eq_false, if_false]
  by_cases h0 : c.op = 0
  · rw [if_pos h0, if_pos h0]
  · rw [if_neg h0, if_neg h0]
    by_cases h1 : c.op = 1
    · rw [if_pos h1, decide_eq_true h1]
      simp
    · rw [if_neg h1, decide_eq_false h1]
      by_cases hs : s = c.rhs
      · simp [hs]
      · simp [hs]; omega
theorem holds_not {u : List Int} {c : Con} (h : SumOk (sings u) c) (hw : weightK c.coefs + absK c.rhs ≤ 4611686018427387904) : holds0 (notW c) u = !holds0 c u := by
  have hck := h.fine.ck
  obtain ⟨_, _, _, hop, _⟩ := h
  obtain ⟨kind, vars, coefs, op, rhs, rows, b⟩ := c
  simp only at hop hw hck
  have ha : -absK rhs ≤ rhs ∧ rhs ≤ absK rhs := by unfold absK; omega
  have hwp := weightK_pos coefs
  have e1 : wr (0 - rhs) = -rhs := by rw [wr, wrap_id (by omega) (by omega)]; omega
  have e2 : wr (wr (0 - rhs) - 1) = -rhs - 1 := by rw [e1, wr, wrap_id (by omega) (by omega)]
  unfold notW holds0 heldR
  have : op = 0 ∨ op = 1 ∨ op = 2 := by omega
  rcases this with rfl | rfl | rfl
  · simp only [if_true]
    rw [plain_turned hck, e2]
    by_cases hs : plainS vars coefs u ≤ rhs
    · simp [hs]; omega
    · simp [hs]; omega
  · simp
  · simp
theorem sumW_sings {u : List Int} {c : Con} (h : SumOk (sings u) c) : soR c u = holds0 c u := by
  have ha := absK_pos c.rhs
  have hb := h.big
  unfold soR holds0
  rw [sumW_eq h.fine (by omega) ⟨by simp [sings], fun i x v hx hv => by
    simp only [sings, List.getElem?_map, Option.map_eq_some_iff] at hx
    obtain ⟨w, hw, rfl⟩ := hx
    rw [hv] at hw
    cases hw
    simp [sing, vals, rng_self]⟩]
theorem reif_sings {u : List Int} {c : Con} (h : ReifOk (sings u) c) (hw : weightK c.coefs + absK c.rhs ≤ 4611686018427387904) (RS RN : Option Doms) : reifW (sings u) c RS RN = if (soR c u && decide (atR u c.b = 1)) || (!soR c u && decide (atR u c.b = 0)) then some (sings u) else none := by
  have e1 : yesW (sings u) c = soR c u := by
    have := so_sings h.sum
    rw [← sumW_sings h.sum] at this
    exact this
  have e2 : noW (sings u) c = !soR c u := by
    have := so_sings h.sumN
    rw [holds_not h.sum hw, ← sumW_sings h.sum] at this
    exact this
  have hb : c.b.toNat < u.length := by simpa [sings] using h.b.2
  unfold reifW
  rw [if_neg (nil_sings u), e1, e2, keep_sing h.b.1 hb, keep_sing h.b.1 hb]
  generalize soR c u = y
  cases y
  · by_cases h1 : atR u c.b = 0
    · simp [h1]
    · simp [h1]
  · by_cases h1 : atR u c.b = 1
    · simp [h1]
    · simp [h1]
/-! Cases of truths. -/
def truthCase (o : Case) : Case := { o with d := truthsL o.d }
theorem truthCase_B {o : Case} (h : CaseB o) : CaseB (truthCase o) := by
  refine ⟨h.1, by have := h.2.1; simp [truthCase, truthsL]; omega, fun x hx => ?_⟩
  obtain ⟨y, hy, rfl⟩ := List.mem_map.1 hx
  have := h.2.2 y (List.mem_of_mem_take hy)
  simpa using this
theorem laid_small (o : Case) : ∀ x ∈ laidD o, x.length * 64 + 1048576 ≤ 140737488355328 := by
  intro x hx
  obtain ⟨y, _, rfl⟩ := List.mem_map.1 hx
  have := smallR_length (y.take 6)
  omega
end Go.Proofs.Ytchajofdjeijfaa
