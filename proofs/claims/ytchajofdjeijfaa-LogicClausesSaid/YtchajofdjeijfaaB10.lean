/- The texts FgH, PuH, LiI, FgO of the workplace, joined. -/
import Derived.Test.YtchajofdjeijfaaB9
/-! Contract: does a constraint hold? -/
namespace Go.Proofs.Ytchajofdjeijfaa
open Go Go.RowKit
set_option linter.unusedVariables false
set_option linter.unusedSimpArgs false
set_option maxRecDepth 8000

def litH (p : Int × Int) : Bool := (decide (p.2 = 1) && decide (p.1 = 1)) || (decide (p.2 = -1) && decide (p.1 = 0))
def elemH (l : List Int) : Bool := decide (2 ≤ l.length) && decide (0 ≤ l.getD 0 0) && decide (l.getD 0 0 + 2 < l.length) && decide (l.getD (l.getD 0 0 + 2).toNat 0 = l.getD 1 0)
def soR (c : Con) (a : List Int) : Bool := heldR c.op (sumW c.vars c.coefs a) c.rhs
def holdsR (c : Con) (a : List Int) : Bool :=
  if c.kind = 0 then soR c a else
  if c.kind = 1 then decide ((sortU (pickedR c.vars a)).length = (pickedR c.vars a).length) else
  if c.kind = 2 then c.rows.any fun r => decide (r = pickedR c.vars a) else
  if c.kind = 3 then elemH (pickedR c.vars a) else
  if c.kind = 4 then (soR c a && decide (atR a c.b = 1)) || (!soR c a && decide (atR a c.b = 0)) else
  if c.kind = 5 then ((pickedR c.vars a).zip c.coefs).any litH else
  holds6 c.vars a
theorem holds_spec (c : Con) (a : List Int) (hc : ConB c) (hl : a.length * 8 ≤ 140737488355328) (hk5 : c.kind = 5 → c.vars.length ≤ c.coefs.length) (hk3 : c.kind = 3 → ∀ x ∈ a, x ≤ 4611686018427387904) :
    Spec Try.prog 27 false [.agg (cC c), ints a] [.val (.bool (holdsR c a))] := by
  obtain ⟨h1, h2, h3, h4⟩ := hc
  refine Spec.body Try.func27 rfl rfl rfl fun w0 Z0 => ?_
  have hpl : (pickedR c.vars a).length = c.vars.length := by simp [pickedR]
  have hheld := held_spec c.op (sumW c.vars c.coefs a) c.rhs
  have hso : heldR c.op (sumW c.vars c.coefs a) c.rhs = soR c a := rfl
  rw [hso] at hheld
  have hsort := sorted_spec (pickedR c.vars a) (by omega)
  have hat := at_spec a c.b hl
  have ho6 : holds6 c.vars a = decide (orderR ((pickedR c.vars a).take (c.vars.length / 2)) ((pickedR c.vars a).drop (c.vars.length / 2)) ≤ 0) := rfl
  have hord := order_spec ((pickedR c.vars a).take (c.vars.length / 2)) ((pickedR c.vars a).drop (c.vars.length / 2)) (by simp; omega) (by simp; omega)
  have hpk := picked_spec c.vars a (by omega) hl
  have hsm := rsum_spec c.vars c.coefs a (by omega) h2 hl
  have hpin : c.kind = 3 → ∀ x ∈ pickedR c.vars a, x ≤ 4611686018427387904 := by
    intro hk x hx
    obtain ⟨v, _, rfl⟩ := List.mem_map.1 hx
    unfold atR
    split
    · omega
    · rw [List.getD_eq_getElem?_getD]
      cases hg : a[v.toNat]? with
      | none => simp
      | some y => simpa using hk3 hk y (List.mem_of_getElem? hg)
  clear hso
  unfold holdsR
  generalize holds6 c.vars a = h6 at *
  generalize sumW c.vars c.coefs a = sm at *
  generalize soR c a = so at *
  generalize pickedR c.vars a = l at *
  repeat' first | refine T.seq ?_ | refine T.block ?_ | refine T.r ?_ | refine J.e rfl rfl rfl rfl ?_ | refine J.nil ?_ | refine J.skip rfl rfl rfl ?_ | refine T.skip ?_ | refine T.exit ?_ | refine T.ret ?_ | refine T.rd rfl (by kernel_rfl) ?_ | refine J.bx rfl rfl rfl rfl rfl rfl ?_
  refine J.cc rfl rfl rfl rfl rfl hpk rfl rfl ?_
  repeat' first | refine T.seq ?_ | refine T.block ?_ | refine T.r ?_ | refine J.e rfl rfl rfl rfl ?_ | refine J.nil ?_ | refine J.skip rfl rfl rfl ?_ | refine T.skip ?_ | refine T.exit ?_ | refine T.ret ?_ | refine T.rd rfl (by kernel_rfl) ?_ | refine J.bx rfl rfl rfl rfl rfl rfl ?_
  refine J.cc rfl rfl rfl rfl rfl hsm rfl rfl ?_
  repeat' first | refine T.seq ?_ | refine T.block ?_ | refine T.r ?_ | refine J.e rfl rfl rfl rfl ?_ | refine J.nil ?_ | refine J.skip rfl rfl rfl ?_ | refine T.skip ?_ | refine T.exit ?_ | refine T.ret ?_ | refine T.rd rfl (by kernel_rfl) ?_ | refine J.bx rfl rfl rfl rfl rfl rfl ?_
  refine J.cc rfl rfl rfl rfl rfl hheld rfl rfl ?_
  repeat' first | refine T.seq ?_ | refine T.block ?_ | refine T.r ?_ | refine J.e rfl rfl rfl rfl ?_ | refine J.nil ?_ | refine J.skip rfl rfl rfl ?_ | refine T.skip ?_ | refine T.exit ?_ | refine T.ret ?_ | refine T.rd rfl (by kernel_rfl) ?_ | refine J.bx rfl rfl rfl rfl rfl rfl ?_
  refine T.cd rfl (fun k0 => ?_) (fun k0 => ?_)
  · have k0 : c.kind = 0 := k0
    rw [if_pos k0]
    repeat' first | refine T.seq ?_ | refine T.block ?_ | refine T.r ?_ | refine J.e rfl rfl rfl rfl ?_ | refine J.nil ?_ | refine J.skip rfl rfl rfl ?_ | refine T.skip ?_ | refine T.exit ?_ | refine T.ret ?_ | refine T.rd rfl (by kernel_rfl) ?_ | refine J.bx rfl rfl rfl rfl rfl rfl ?_
    exact ⟨_, .v rfl rfl rfl (fun _ => rfl) .nil⟩
  have k0 : ¬ c.kind = 0 := k0
  rw [if_neg k0]
  repeat' first | refine T.seq ?_ | refine T.block ?_ | refine T.r ?_ | refine J.e rfl rfl rfl rfl ?_ | refine J.nil ?_ | refine J.skip rfl rfl rfl ?_ | refine T.skip ?_ | refine T.exit ?_ | refine T.ret ?_ | refine T.rd rfl (by kernel_rfl) ?_ | refine J.bx rfl rfl rfl rfl rfl rfl ?_
  refine T.cd rfl (fun k1 => ?_) (fun k1 => ?_)
  · have k1 : c.kind = 1 := k1
    rw [if_pos k1]
    repeat' first | refine T.seq ?_ | refine T.block ?_ | refine T.r ?_ | refine J.e rfl rfl rfl rfl ?_ | refine J.nil ?_ | refine J.skip rfl rfl rfl ?_ | refine T.skip ?_ | refine T.exit ?_ | refine T.ret ?_ | refine T.rd rfl (by kernel_rfl) ?_ | refine J.bx rfl rfl rfl rfl rfl rfl ?_
    refine J.cc rfl rfl rfl rfl rfl hsort rfl rfl ?_
    repeat' first | refine T.seq ?_ | refine T.block ?_ | refine T.r ?_ | refine J.e rfl rfl rfl rfl ?_ | refine J.nil ?_ | refine J.skip rfl rfl rfl ?_ | refine T.skip ?_ | refine T.exit ?_ | refine T.ret ?_ | refine T.rd rfl (by kernel_rfl) ?_ | refine J.bx rfl rfl rfl rfl rfl rfl ?_
    exact ⟨_, .v rfl rfl (by simp; omega) (fun _ => rfl) .nil⟩
  have k1 : ¬ c.kind = 1 := k1
  rw [if_neg k1]
  repeat' first | refine T.seq ?_ | refine T.block ?_ | refine T.r ?_ | refine J.e rfl rfl rfl rfl ?_ | refine J.nil ?_ | refine J.skip rfl rfl rfl ?_ | refine T.skip ?_ | refine T.exit ?_ | refine T.ret ?_ | refine T.rd rfl (by kernel_rfl) ?_ | refine J.bx rfl rfl rfl rfl rfl rfl ?_
  refine T.cd rfl (fun k2 => ?_) (fun k2 => ?_)
  · have k2 : c.kind = 2 := k2
    rw [if_pos k2]
    repeat' first | refine T.seq ?_ | refine T.block ?_ | refine T.r ?_ | refine J.e rfl rfl rfl rfl ?_ | refine J.nil ?_ | refine J.skip rfl rfl rfl ?_ | refine T.skip ?_ | refine T.exit ?_ | refine T.ret ?_ | refine T.rd rfl (by kernel_rfl) ?_ | refine J.bx rfl rfl rfl rfl rfl rfl ?_
    refine T.sub (Rel.frz (s := 5) (fun _ h => h) rfl rfl) ?_
    refine T.canon (keep := [2, 5, 7]) (os := [2]) rfl (T.ind (fun i : Nat => ⟨[(2, .optr 0 0 0 0), (5, .val true (ints l)), (7, .val true (.int .i64 i))], [(0, some (.box false (cC c)))], 1⟩) (fun i => i ≤ c.rows.length ∧ ((c.rows.take i).any fun r => decide (r = l)) = false) (fun i => c.rows.length - i) 0 (by simp) (fun _ _ h => h) ?_)
    rintro i ⟨hi, he⟩ ih
    repeat' first | refine T.seq ?_ | refine T.block ?_ | refine T.r ?_ | refine J.e rfl rfl rfl rfl ?_ | refine J.nil ?_ | refine J.skip rfl rfl rfl ?_ | refine T.skip ?_ | refine T.exit ?_ | refine T.ret ?_ | refine T.rd rfl (by kernel_rfl) ?_ | refine J.bx rfl rfl rfl rfl rfl rfl ?_
    refine T.cd rfl (fun h5 => ?_) (fun h5 => ?_)
    · have h5 : i < c.rows.length := by simpa using h5
      have hrl := h4 _ (List.getElem_mem h5)
      have hn := nums_spec c.rows[i] l hrl
      repeat' first | refine T.seq ?_ | refine T.block ?_ | refine T.r ?_ | refine J.e rfl rfl rfl rfl ?_ | refine J.nil ?_ | refine J.skip rfl rfl rfl ?_ | refine T.skip ?_ | refine T.exit ?_ | refine T.ret ?_ | refine T.rd rfl (by kernel_rfl) ?_ | refine J.bx rfl rfl rfl rfl rfl rfl ?_
      refine J.i rfl rfl rfl rfl rfl rfl rfl rfl rfl (r := cL c.rows[i]) (by omega) (row_i h5) rfl ?_
      repeat' first | refine T.seq ?_ | refine T.block ?_ | refine T.r ?_ | refine J.e rfl rfl rfl rfl ?_ | refine J.nil ?_ | refine J.skip rfl rfl rfl ?_ | refine T.skip ?_ | refine T.exit ?_ | refine T.ret ?_ | refine T.rd rfl (by kernel_rfl) ?_ | refine J.bx rfl rfl rfl rfl rfl rfl ?_
      refine J.cc rfl rfl rfl rfl rfl hn rfl rfl ?_
      by_cases e : c.rows[i] = l
      · have hany : (c.rows.any fun r => decide (r = l)) = true := List.any_eq_true.2 ⟨_, List.getElem_mem h5, by simp [e]⟩
        rw [decide_eq_true e, hany]
        repeat' first | refine T.seq ?_ | refine T.block ?_ | refine T.r ?_ | refine J.e rfl rfl rfl rfl ?_ | refine J.nil ?_ | refine J.skip rfl rfl rfl ?_ | refine T.skip ?_ | refine T.exit ?_ | refine T.ret ?_ | refine T.rd rfl (by kernel_rfl) ?_ | refine J.bx rfl rfl rfl rfl rfl rfl ?_
        refine T.ct rfl ?_
        repeat' first | refine T.seq ?_ | refine T.block ?_ | refine T.r ?_ | refine J.e rfl rfl rfl rfl ?_ | refine J.nil ?_ | refine J.skip rfl rfl rfl ?_ | refine T.skip ?_ | refine T.exit ?_ | refine T.ret ?_ | refine T.rd rfl (by kernel_rfl) ?_ | refine J.bx rfl rfl rfl rfl rfl rfl ?_
        exact ⟨_, .v rfl rfl rfl (fun _ => rfl) .nil⟩
      · rw [decide_eq_false e]
        repeat' first | refine T.seq ?_ | refine T.block ?_ | refine T.r ?_ | refine J.e rfl rfl rfl rfl ?_ | refine J.nil ?_ | refine J.skip rfl rfl rfl ?_ | refine T.skip ?_ | refine T.exit ?_ | refine T.ret ?_ | refine T.rd rfl (by kernel_rfl) ?_ | refine J.bx rfl rfl rfl rfl rfl rfl ?_
        refine T.cf rfl ?_
        repeat' first | refine T.seq ?_ | refine T.block ?_ | refine T.r ?_ | refine J.e rfl rfl rfl rfl ?_ | refine J.nil ?_ | refine J.skip rfl rfl rfl ?_ | refine T.skip ?_ | refine T.exit ?_ | refine T.ret ?_ | refine T.rd rfl (by kernel_rfl) ?_ | refine J.bx rfl rfl rfl rfl rfl rfl ?_
        rw [wrap1 (l := c.rows.length) (by omega) (by omega)]
        exact T.canon (keep := [2, 5, 7]) (os := [2]) rfl (ih (i + 1) ⟨by omega, by rw [List.take_succ_eq_append_getElem h5, List.any_append, he]; simp [e]⟩ (by omega))
    · have h5 : i = c.rows.length := by simp at h5; omega
      subst h5
      rw [List.take_length] at he
      rw [he]
      repeat' first | refine T.seq ?_ | refine T.block ?_ | refine T.r ?_ | refine J.e rfl rfl rfl rfl ?_ | refine J.nil ?_ | refine J.skip rfl rfl rfl ?_ | refine T.skip ?_ | refine T.exit ?_ | refine T.ret ?_ | refine T.rd rfl (by kernel_rfl) ?_ | refine J.bx rfl rfl rfl rfl rfl rfl ?_
      exact ⟨_, .v rfl rfl rfl (fun _ => rfl) .nil⟩
  have k2 : ¬ c.kind = 2 := k2
  rw [if_neg k2]
  repeat' first | refine T.seq ?_ | refine T.block ?_ | refine T.r ?_ | refine J.e rfl rfl rfl rfl ?_ | refine J.nil ?_ | refine J.skip rfl rfl rfl ?_ | refine T.skip ?_ | refine T.exit ?_ | refine T.ret ?_ | refine T.rd rfl (by kernel_rfl) ?_ | refine J.bx rfl rfl rfl rfl rfl rfl ?_
  refine T.cd rfl (fun k3 => ?_) (fun k3 => ?_)
  · have k3 : c.kind = 3 := k3
    rw [if_pos k3]
    have hpin := hpin k3
    unfold elemH
    repeat' first | refine T.seq ?_ | refine T.block ?_ | refine T.r ?_ | refine J.e rfl rfl rfl rfl ?_ | refine J.nil ?_ | refine J.skip rfl rfl rfl ?_ | refine T.skip ?_ | refine T.exit ?_ | refine T.ret ?_ | refine J.bx rfl rfl rfl rfl rfl rfl ?_
    refine T.sub (Rel.frz (s := 5) (fun _ h => h) rfl rfl) ?_
    repeat' first | refine T.seq ?_ | refine T.block ?_ | refine T.r ?_ | refine J.e rfl rfl rfl rfl ?_ | refine J.nil ?_ | refine J.skip rfl rfl rfl ?_ | refine T.skip ?_ | refine T.exit ?_ | refine T.ret ?_ | refine T.rd rfl (by kernel_rfl) ?_ | refine J.bx rfl rfl rfl rfl rfl rfl ?_
    refine J.g rfl rfl rfl (fun g1 => ?_) (fun g1 => ?_)
    · have g1 : 2 ≤ l.length := by
        have g1 : ((l.map cI).length : Int) ≥ 2 := g1
        simp only [List.length_map] at g1; omega
      obtain ⟨x0, hx0⟩ : ∃ x, l[0]? = some x := ⟨_, List.getElem?_eq_getElem (by omega)⟩
      obtain ⟨x1, hx1⟩ : ∃ x, l[1]? = some x := ⟨_, List.getElem?_eq_getElem (by omega)⟩
      have e0 : l.getD 0 0 = x0 := by rw [List.getD_eq_getElem?_getD, hx0]; rfl
      have e1 : l.getD 1 0 = x1 := by rw [List.getD_eq_getElem?_getD, hx1]; rfl
      have hr0 : (l.map cI)[(0 : Int).toNat]? = some (cI x0) := by simp [hx0]
      have hr1 : (l.map cI)[(1 : Int).toNat]? = some (cI x1) := by simp [hx1]
      have hp0 := hpin x0 (List.mem_of_getElem? hx0)
      rw [decide_eq_true g1, e0, e1]
      repeat' first | refine T.seq ?_ | refine T.block ?_ | refine T.r ?_ | refine J.e rfl rfl rfl rfl ?_ | refine J.nil ?_ | refine J.skip rfl rfl rfl ?_ | refine T.skip ?_ | refine T.exit ?_ | refine T.ret ?_ | refine T.rd rfl (by kernel_rfl) ?_ | refine J.bx rfl rfl rfl rfl rfl rfl ?_
      refine J.i rfl rfl rfl rfl rfl rfl rfl rfl rfl (r := cI x0) (by decide) hr0 rfl ?_
      repeat' first | refine T.seq ?_ | refine T.block ?_ | refine T.r ?_ | refine J.e rfl rfl rfl rfl ?_ | refine J.nil ?_ | refine J.skip rfl rfl rfl ?_ | refine T.skip ?_ | refine T.exit ?_ | refine T.ret ?_ | refine T.rd rfl (by kernel_rfl) ?_ | refine J.bx rfl rfl rfl rfl rfl rfl ?_
      refine J.g rfl rfl rfl (fun g2 => ?_) (fun g2 => ?_)
      · have g2 : 0 ≤ x0 := g2
        have ew : IntKind.i64.wrap (x0 + 2) = x0 + 2 := wrap_id (by omega) (by omega)
        rw [decide_eq_true g2]
        repeat' first | refine T.seq ?_ | refine T.block ?_ | refine T.r ?_ | refine J.e rfl rfl rfl rfl ?_ | refine J.nil ?_ | refine J.skip rfl rfl rfl ?_ | refine T.skip ?_ | refine T.exit ?_ | refine T.ret ?_ | refine T.rd rfl (by kernel_rfl) ?_ | refine J.bx rfl rfl rfl rfl rfl rfl ?_
        refine J.i rfl rfl rfl rfl rfl rfl rfl rfl rfl (r := cI x0) (by decide) hr0 rfl ?_
        repeat' first | refine J.e rfl rfl rfl rfl ?_ | refine J.skip rfl rfl rfl ?_ | refine J.bx rfl rfl rfl rfl rfl rfl ?_
        rw [ew]
        repeat' first | refine J.e rfl rfl rfl rfl ?_ | refine J.skip rfl rfl rfl ?_ | refine J.bx rfl rfl rfl rfl rfl rfl ?_
        refine J.g rfl rfl rfl (fun g3 => ?_) (fun g3 => ?_)
        · have g3 : x0 + 2 < l.length := by simpa using g3
          have g4 : (x0 + 2).toNat < l.length := by omega
          obtain ⟨x2, hx2⟩ : ∃ x, l[(x0 + 2).toNat]? = some x := ⟨_, List.getElem?_eq_getElem g4⟩
          have e2 : l.getD (x0 + 2).toNat 0 = x2 := by rw [List.getD_eq_getElem?_getD, hx2]; rfl
          have hr2 : (l.map cI)[(x0 + 2).toNat]? = some (cI x2) := by simp [hx2]
          rw [decide_eq_true g3, e2]
          repeat' first | refine T.seq ?_ | refine T.block ?_ | refine T.r ?_ | refine J.e rfl rfl rfl rfl ?_ | refine J.nil ?_ | refine J.skip rfl rfl rfl ?_ | refine T.skip ?_ | refine T.exit ?_ | refine T.ret ?_ | refine T.rd rfl (by kernel_rfl) ?_ | refine J.bx rfl rfl rfl rfl rfl rfl ?_
          refine J.i rfl rfl rfl rfl rfl rfl rfl rfl rfl (r := cI x0) (by decide) hr0 rfl ?_
          repeat' first | refine J.e rfl rfl rfl rfl ?_ | refine J.skip rfl rfl rfl ?_ | refine J.bx rfl rfl rfl rfl rfl rfl ?_
          rw [ew]
          refine J.i rfl rfl rfl rfl rfl rfl rfl rfl rfl (r := cI x2) (by omega) hr2 rfl ?_
          repeat' first | refine T.seq ?_ | refine T.block ?_ | refine T.r ?_ | refine J.e rfl rfl rfl rfl ?_ | refine J.nil ?_ | refine J.skip rfl rfl rfl ?_ | refine T.skip ?_ | refine T.exit ?_ | refine T.ret ?_ | refine T.rd rfl (by kernel_rfl) ?_ | refine J.bx rfl rfl rfl rfl rfl rfl ?_
          refine J.i rfl rfl rfl rfl rfl rfl rfl rfl rfl (r := cI x1) (by decide) hr1 rfl ?_
          repeat' first | refine T.seq ?_ | refine T.block ?_ | refine T.r ?_ | refine J.e rfl rfl rfl rfl ?_ | refine J.nil ?_ | refine J.skip rfl rfl rfl ?_ | refine T.skip ?_ | refine T.exit ?_ | refine T.ret ?_ | refine T.rd rfl (by kernel_rfl) ?_ | refine J.bx rfl rfl rfl rfl rfl rfl ?_
          exact ⟨_, .v rfl rfl (by simp) (fun _ => rfl) .nil⟩
        · have g3 : ¬ x0 + 2 < l.length := by simpa using g3
          rw [decide_eq_false g3]
          repeat' first | refine T.seq ?_ | refine T.block ?_ | refine T.r ?_ | refine J.e rfl rfl rfl rfl ?_ | refine J.nil ?_ | refine J.skip rfl rfl rfl ?_ | refine T.skip ?_ | refine T.exit ?_ | refine T.ret ?_ | refine T.rd rfl (by kernel_rfl) ?_ | refine J.bx rfl rfl rfl rfl rfl rfl ?_
          exact ⟨_, .v rfl rfl (by simp) (fun _ => rfl) .nil⟩
      · have g2 : ¬ 0 ≤ x0 := g2
        rw [decide_eq_false g2]
        repeat' first | refine T.seq ?_ | refine T.block ?_ | refine T.r ?_ | refine J.e rfl rfl rfl rfl ?_ | refine J.nil ?_ | refine J.skip rfl rfl rfl ?_ | refine T.skip ?_ | refine T.exit ?_ | refine T.ret ?_ | refine T.rd rfl (by kernel_rfl) ?_ | refine J.bx rfl rfl rfl rfl rfl rfl ?_
        exact ⟨_, .v rfl rfl (by simp) (fun _ => rfl) .nil⟩
    · have g1 : ¬ 2 ≤ l.length := by
        have g1 : ¬ ((l.map cI).length : Int) ≥ 2 := g1
        simp only [List.length_map] at g1; omega
      rw [decide_eq_false g1]
      repeat' first | refine T.seq ?_ | refine T.block ?_ | refine T.r ?_ | refine J.e rfl rfl rfl rfl ?_ | refine J.nil ?_ | refine J.skip rfl rfl rfl ?_ | refine T.skip ?_ | refine T.exit ?_ | refine T.ret ?_ | refine T.rd rfl (by kernel_rfl) ?_ | refine J.bx rfl rfl rfl rfl rfl rfl ?_
      exact ⟨_, .v rfl rfl (by simp) (fun _ => rfl) .nil⟩
  have k3 : ¬ c.kind = 3 := k3
  rw [if_neg k3]
  repeat' first | refine T.seq ?_ | refine T.block ?_ | refine T.r ?_ | refine J.e rfl rfl rfl rfl ?_ | refine J.nil ?_ | refine J.skip rfl rfl rfl ?_ | refine T.skip ?_ | refine T.exit ?_ | refine T.ret ?_ | refine T.rd rfl (by kernel_rfl) ?_ | refine J.bx rfl rfl rfl rfl rfl rfl ?_
  refine T.cd rfl (fun k4 => ?_) (fun k4 => ?_)
  · have k4 : c.kind = 4 := k4
    rw [if_pos k4]
    cases so
    · repeat' first | refine T.seq ?_ | refine T.block ?_ | refine T.r ?_ | refine J.e rfl rfl rfl rfl ?_ | refine J.nil ?_ | refine J.skip rfl rfl rfl ?_ | refine T.skip ?_ | refine T.exit ?_ | refine T.ret ?_ | refine T.rd rfl (by kernel_rfl) ?_ | refine J.bx rfl rfl rfl rfl rfl rfl ?_
      refine J.cc rfl rfl rfl rfl rfl hat rfl rfl ?_
      repeat' first | refine T.seq ?_ | refine T.block ?_ | refine T.r ?_ | refine J.e rfl rfl rfl rfl ?_ | refine J.nil ?_ | refine J.skip rfl rfl rfl ?_ | refine T.skip ?_ | refine T.exit ?_ | refine T.ret ?_ | refine T.rd rfl (by kernel_rfl) ?_ | refine J.bx rfl rfl rfl rfl rfl rfl ?_
      exact ⟨_, .v rfl rfl (by simp) (fun _ => rfl) .nil⟩
    · repeat' first | refine T.seq ?_ | refine T.block ?_ | refine T.r ?_ | refine J.e rfl rfl rfl rfl ?_ | refine J.nil ?_ | refine J.skip rfl rfl rfl ?_ | refine T.skip ?_ | refine T.exit ?_ | refine T.ret ?_ | refine T.rd rfl (by kernel_rfl) ?_ | refine J.bx rfl rfl rfl rfl rfl rfl ?_
      refine J.cc rfl rfl rfl rfl rfl hat rfl rfl ?_
      generalize atR a c.b = ab at *
      repeat' first | refine T.seq ?_ | refine T.block ?_ | refine T.r ?_ | refine J.e rfl rfl rfl rfl ?_ | refine J.nil ?_ | refine J.skip rfl rfl rfl ?_ | refine T.skip ?_ | refine T.exit ?_ | refine T.ret ?_ | refine T.rd rfl (by kernel_rfl) ?_ | refine J.bx rfl rfl rfl rfl rfl rfl ?_
      refine J.g rfl rfl rfl (fun h => ?_) (fun h => ?_)
      · have h : ab = 1 := h
        rw [decide_eq_true h]
        repeat' first | refine T.seq ?_ | refine T.block ?_ | refine T.r ?_ | refine J.e rfl rfl rfl rfl ?_ | refine J.nil ?_ | refine J.skip rfl rfl rfl ?_ | refine T.skip ?_ | refine T.exit ?_ | refine T.ret ?_ | refine T.rd rfl (by kernel_rfl) ?_ | refine J.bx rfl rfl rfl rfl rfl rfl ?_
        exact ⟨_, .v rfl rfl (by simp) (fun _ => rfl) .nil⟩
      · have h : ¬ ab = 1 := h
        rw [decide_eq_false h]
        repeat' first | refine T.seq ?_ | refine T.block ?_ | refine T.r ?_ | refine J.e rfl rfl rfl rfl ?_ | refine J.nil ?_ | refine J.skip rfl rfl rfl ?_ | refine T.skip ?_ | refine T.exit ?_ | refine T.ret ?_ | refine T.rd rfl (by kernel_rfl) ?_ | refine J.bx rfl rfl rfl rfl rfl rfl ?_
        exact ⟨_, .v rfl rfl (by simp) (fun _ => rfl) .nil⟩
  have k4 : ¬ c.kind = 4 := k4
  rw [if_neg k4]
  repeat' first | refine T.seq ?_ | refine T.block ?_ | refine T.r ?_ | refine J.e rfl rfl rfl rfl ?_ | refine J.nil ?_ | refine J.skip rfl rfl rfl ?_ | refine T.skip ?_ | refine T.exit ?_ | refine T.ret ?_ | refine T.rd rfl (by kernel_rfl) ?_ | refine J.bx rfl rfl rfl rfl rfl rfl ?_
  refine T.cd rfl (fun k5 => ?_) (fun k5 => ?_)
  · have k5 : c.kind = 5 := k5
    rw [if_pos k5]
    have hk5 := hk5 k5
    repeat' first | refine T.seq ?_ | refine T.block ?_ | refine T.r ?_ | refine J.e rfl rfl rfl rfl ?_ | refine J.nil ?_ | refine J.skip rfl rfl rfl ?_ | refine T.skip ?_ | refine T.exit ?_ | refine T.ret ?_ | refine J.bx rfl rfl rfl rfl rfl rfl ?_
    refine T.sub (Rel.frz (s := 5) (fun _ h => h) rfl rfl) ?_
    refine T.canon (keep := [2, 5, 8]) (os := [2]) rfl (T.ind (fun i : Nat => ⟨[(2, .optr 0 0 0 0), (5, .val true (ints l)), (8, .val true (.int .i64 i))], [(0, some (.box false (cC c)))], 1⟩) (fun i => i ≤ l.length ∧ ((l.zip c.coefs).take i).any litH = false) (fun i => l.length - i) 0 (by simp) (fun _ _ h => h) ?_)
    rintro i ⟨hi, he⟩ ih
    repeat' first | refine T.seq ?_ | refine T.block ?_ | refine T.r ?_ | refine J.e rfl rfl rfl rfl ?_ | refine J.nil ?_ | refine J.skip rfl rfl rfl ?_ | refine T.skip ?_ | refine T.exit ?_ | refine T.ret ?_ | refine T.rd rfl (by kernel_rfl) ?_ | refine J.bx rfl rfl rfl rfl rfl rfl ?_
    refine T.cd rfl (fun h5 => ?_) (fun h5 => ?_)
    · have h5 : i < l.length := by simpa using h5
      have h6 : i < c.coefs.length := by omega
      have hz : i < (l.zip c.coefs).length := by simp; omega
      have eyes : litH (l[i], c.coefs[i]) = true → (l.zip c.coefs).any litH = true := fun h => List.any_eq_true.2 ⟨(l[i], c.coefs[i]), by rw [← List.getElem_zip (h := hz)]; exact List.getElem_mem hz, h⟩
      have eno : litH (l[i], c.coefs[i]) = false → ((l.zip c.coefs).take (i + 1)).any litH = false := fun h => by
        rw [List.take_succ_eq_append_getElem hz, List.any_append, he, List.getElem_zip]
        simp [h]
      have edef : litH (l[i], c.coefs[i]) = ((decide (c.coefs[i] = 1) && decide (l[i] = 1)) || (decide (c.coefs[i] = -1) && decide (l[i] = 0))) := rfl
      have hrl := row_i (enc := cI) h5
      have hrk := row_i (enc := cI) h6
      generalize litH (l[i], c.coefs[i]) = lb at *
      generalize l[i] = x at *
      generalize c.coefs[i] = k at *
      repeat' first | refine T.seq ?_ | refine T.block ?_ | refine T.r ?_ | refine J.e rfl rfl rfl rfl ?_ | refine J.nil ?_ | refine J.skip rfl rfl rfl ?_ | refine T.skip ?_ | refine T.exit ?_ | refine T.ret ?_ | refine T.rd rfl (by kernel_rfl) ?_ | refine J.bx rfl rfl rfl rfl rfl rfl ?_
      refine J.i rfl rfl rfl rfl rfl rfl rfl rfl rfl (r := cI k) (by omega) hrk rfl ?_
      repeat' first | refine T.seq ?_ | refine T.block ?_ | refine T.r ?_ | refine J.e rfl rfl rfl rfl ?_ | refine J.nil ?_ | refine J.skip rfl rfl rfl ?_ | refine T.skip ?_ | refine T.exit ?_ | refine T.ret ?_ | refine T.rd rfl (by kernel_rfl) ?_ | refine J.bx rfl rfl rfl rfl rfl rfl ?_
      refine J.g rfl rfl rfl (fun g1 => ?_) (fun g1 => ?_)
      · have g1 : k = 1 := g1
        have g9 : ¬ k = -1 := by omega
        rw [decide_eq_true g1, decide_eq_false g9] at edef
        repeat' first | refine T.seq ?_ | refine T.block ?_ | refine T.r ?_ | refine J.e rfl rfl rfl rfl ?_ | refine J.nil ?_ | refine J.skip rfl rfl rfl ?_ | refine T.skip ?_ | refine T.exit ?_ | refine T.ret ?_ | refine T.rd rfl (by kernel_rfl) ?_ | refine J.bx rfl rfl rfl rfl rfl rfl ?_
        refine J.i rfl rfl rfl rfl rfl rfl rfl rfl rfl (r := cI x) (by omega) hrl rfl ?_
        repeat' first | refine T.seq ?_ | refine T.block ?_ | refine T.r ?_ | refine J.e rfl rfl rfl rfl ?_ | refine J.nil ?_ | refine J.skip rfl rfl rfl ?_ | refine T.skip ?_ | refine T.exit ?_ | refine T.ret ?_ | refine T.rd rfl (by kernel_rfl) ?_ | refine J.bx rfl rfl rfl rfl rfl rfl ?_
        refine J.g rfl rfl rfl (fun g2 => ?_) (fun g2 => ?_)
        · have g2 : x = 1 := g2
          rw [decide_eq_true g2] at edef
          repeat' first | refine T.seq ?_ | refine T.block ?_ | refine T.r ?_ | refine J.e rfl rfl rfl rfl ?_ | refine J.nil ?_ | refine J.skip rfl rfl rfl ?_ | refine T.skip ?_ | refine T.exit ?_ | refine T.ret ?_ | refine T.rd rfl (by kernel_rfl) ?_ | refine J.bx rfl rfl rfl rfl rfl rfl ?_
          have hb : lb = true := by rw [edef]; rfl
          rw [eyes hb]
          refine T.ct rfl ?_
          repeat' first | refine T.seq ?_ | refine T.block ?_ | refine T.r ?_ | refine J.e rfl rfl rfl rfl ?_ | refine J.nil ?_ | refine J.skip rfl rfl rfl ?_ | refine T.skip ?_ | refine T.exit ?_ | refine T.ret ?_ | refine T.rd rfl (by kernel_rfl) ?_ | refine J.bx rfl rfl rfl rfl rfl rfl ?_
          exact ⟨_, .v rfl rfl rfl (fun _ => rfl) .nil⟩
        · have g2 : ¬ x = 1 := g2
          rw [decide_eq_false g2] at edef
          repeat' first | refine T.seq ?_ | refine T.block ?_ | refine T.r ?_ | refine J.e rfl rfl rfl rfl ?_ | refine J.nil ?_ | refine J.skip rfl rfl rfl ?_ | refine T.skip ?_ | refine T.exit ?_ | refine T.ret ?_ | refine T.rd rfl (by kernel_rfl) ?_ | refine J.bx rfl rfl rfl rfl rfl rfl ?_
          refine J.i rfl rfl rfl rfl rfl rfl rfl rfl rfl (r := cI k) (by omega) hrk rfl ?_
          repeat' first | refine T.seq ?_ | refine T.block ?_ | refine T.r ?_ | refine J.e rfl rfl rfl rfl ?_ | refine J.nil ?_ | refine J.skip rfl rfl rfl ?_ | refine T.skip ?_ | refine T.exit ?_ | refine T.ret ?_ | refine T.rd rfl (by kernel_rfl) ?_ | refine J.bx rfl rfl rfl rfl rfl rfl ?_
          refine J.g rfl rfl rfl (fun g3 => absurd g3 g9) (fun _ => ?_)
          repeat' first | refine T.seq ?_ | refine T.block ?_ | refine T.r ?_ | refine J.e rfl rfl rfl rfl ?_ | refine J.nil ?_ | refine J.skip rfl rfl rfl ?_ | refine T.skip ?_ | refine T.exit ?_ | refine T.ret ?_ | refine T.rd rfl (by kernel_rfl) ?_ | refine J.bx rfl rfl rfl rfl rfl rfl ?_
          have hb : lb = false := by rw [edef]; rfl
          refine T.cf rfl ?_
          repeat' first | refine T.seq ?_ | refine T.block ?_ | refine T.r ?_ | refine J.e rfl rfl rfl rfl ?_ | refine J.nil ?_ | refine J.skip rfl rfl rfl ?_ | refine T.skip ?_ | refine T.exit ?_ | refine T.ret ?_ | refine T.rd rfl (by kernel_rfl) ?_ | refine J.bx rfl rfl rfl rfl rfl rfl ?_
          rw [wrap1 (l := l.length) (by omega) (by omega)]
          exact T.canon (keep := [2, 5, 8]) (os := [2]) rfl (ih (i + 1) ⟨by omega, eno hb⟩ (by omega))
      · have g1 : ¬ k = 1 := g1
        rw [decide_eq_false g1] at edef
        repeat' first | refine T.seq ?_ | refine T.block ?_ | refine T.r ?_ | refine J.e rfl rfl rfl rfl ?_ | refine J.nil ?_ | refine J.skip rfl rfl rfl ?_ | refine T.skip ?_ | refine T.exit ?_ | refine T.ret ?_ | refine T.rd rfl (by kernel_rfl) ?_ | refine J.bx rfl rfl rfl rfl rfl rfl ?_
        refine J.i rfl rfl rfl rfl rfl rfl rfl rfl rfl (r := cI k) (by omega) hrk rfl ?_
        repeat' first | refine T.seq ?_ | refine T.block ?_ | refine T.r ?_ | refine J.e rfl rfl rfl rfl ?_ | refine J.nil ?_ | refine J.skip rfl rfl rfl ?_ | refine T.skip ?_ | refine T.exit ?_ | refine T.ret ?_ | refine T.rd rfl (by kernel_rfl) ?_ | refine J.bx rfl rfl rfl rfl rfl rfl ?_
        refine J.g rfl rfl rfl (fun g3 => ?_) (fun g3 => ?_)
        · have g3 : k = -1 := g3
          rw [decide_eq_true g3] at edef
          repeat' first | refine T.seq ?_ | refine T.block ?_ | refine T.r ?_ | refine J.e rfl rfl rfl rfl ?_ | refine J.nil ?_ | refine J.skip rfl rfl rfl ?_ | refine T.skip ?_ | refine T.exit ?_ | refine T.ret ?_ | refine T.rd rfl (by kernel_rfl) ?_ | refine J.bx rfl rfl rfl rfl rfl rfl ?_
          refine J.i rfl rfl rfl rfl rfl rfl rfl rfl rfl (r := cI x) (by omega) hrl rfl ?_
          repeat' first | refine T.seq ?_ | refine T.block ?_ | refine T.r ?_ | refine J.e rfl rfl rfl rfl ?_ | refine J.nil ?_ | refine J.skip rfl rfl rfl ?_ | refine T.skip ?_ | refine T.exit ?_ | refine T.ret ?_ | refine T.rd rfl (by kernel_rfl) ?_ | refine J.bx rfl rfl rfl rfl rfl rfl ?_
          by_cases g4 : x = 0
          · rw [decide_eq_true g4] at edef ⊢
            have hb : lb = true := by rw [edef]; rfl
            rw [eyes hb]
            refine T.ct rfl ?_
            repeat' first | refine T.seq ?_ | refine T.block ?_ | refine T.r ?_ | refine J.e rfl rfl rfl rfl ?_ | refine J.nil ?_ | refine J.skip rfl rfl rfl ?_ | refine T.skip ?_ | refine T.exit ?_ | refine T.ret ?_ | refine T.rd rfl (by kernel_rfl) ?_ | refine J.bx rfl rfl rfl rfl rfl rfl ?_
            exact ⟨_, .v rfl rfl rfl (fun _ => rfl) .nil⟩
          · rw [decide_eq_false g4] at edef ⊢
            have hb : lb = false := by rw [edef]; rfl
            refine T.cf rfl ?_
            repeat' first | refine T.seq ?_ | refine T.block ?_ | refine T.r ?_ | refine J.e rfl rfl rfl rfl ?_ | refine J.nil ?_ | refine J.skip rfl rfl rfl ?_ | refine T.skip ?_ | refine T.exit ?_ | refine T.ret ?_ | refine T.rd rfl (by kernel_rfl) ?_ | refine J.bx rfl rfl rfl rfl rfl rfl ?_
            rw [wrap1 (l := l.length) (by omega) (by omega)]
            exact T.canon (keep := [2, 5, 8]) (os := [2]) rfl (ih (i + 1) ⟨by omega, eno hb⟩ (by omega))
        · have g3 : ¬ k = -1 := g3
          rw [decide_eq_false g3] at edef
          repeat' first | refine T.seq ?_ | refine T.block ?_ | refine T.r ?_ | refine J.e rfl rfl rfl rfl ?_ | refine J.nil ?_ | refine J.skip rfl rfl rfl ?_ | refine T.skip ?_ | refine T.exit ?_ | refine T.ret ?_ | refine T.rd rfl (by kernel_rfl) ?_ | refine J.bx rfl rfl rfl rfl rfl rfl ?_
          have hb : lb = false := by rw [edef]; rfl
          refine T.cf rfl ?_
          repeat' first | refine T.seq ?_ | refine T.block ?_ | refine T.r ?_ | refine J.e rfl rfl rfl rfl ?_ | refine J.nil ?_ | refine J.skip rfl rfl rfl ?_ | refine T.skip ?_ | refine T.exit ?_ | refine T.ret ?_ | refine T.rd rfl (by kernel_rfl) ?_ | refine J.bx rfl rfl rfl rfl rfl rfl ?_
          rw [wrap1 (l := l.length) (by omega) (by omega)]
          exact T.canon (keep := [2, 5, 8]) (os := [2]) rfl (ih (i + 1) ⟨by omega, eno hb⟩ (by omega))
    · have h5 : i = l.length := by simp at h5; omega
      subst h5
      rw [List.take_of_length_le (by simp; omega)] at he
      rw [he]
      repeat' first | refine T.seq ?_ | refine T.block ?_ | refine T.r ?_ | refine J.e rfl rfl rfl rfl ?_ | refine J.nil ?_ | refine J.skip rfl rfl rfl ?_ | refine T.skip ?_ | refine T.exit ?_ | refine T.ret ?_ | refine T.rd rfl (by kernel_rfl) ?_ | refine J.bx rfl rfl rfl rfl rfl rfl ?_
      exact ⟨_, .v rfl rfl rfl (fun _ => rfl) .nil⟩
  have k5 : ¬ c.kind = 5 := k5
  rw [if_neg k5]
  repeat' first | refine T.seq ?_ | refine T.block ?_ | refine T.r ?_ | refine J.e rfl rfl rfl rfl ?_ | refine J.nil ?_ | refine J.skip rfl rfl rfl ?_ | refine T.skip ?_ | refine T.exit ?_ | refine T.ret ?_ | refine J.bx rfl rfl rfl rfl rfl rfl ?_
  have e1 : IntKind.i64.wrap (((l.map cI).length : Int).tdiv 2) = ((c.vars.length / 2 : Nat) : Int) := by
    rw [List.length_map, hpl, Int.tdiv_eq_ediv_of_nonneg (by omega), wrap_id (by omega) (by omega)]
    simp
  rw [e1]
  refine T.sub (Rel.frz (s := 5) (fun _ h => h) rfl rfl) ?_
  repeat' first | refine T.seq ?_ | refine T.block ?_ | refine T.r ?_ | refine J.e rfl rfl rfl rfl ?_ | refine J.nil ?_ | refine J.skip rfl rfl rfl ?_ | refine T.skip ?_ | refine T.exit ?_ | refine T.ret ?_ | refine T.rd rfl (by kernel_rfl) ?_ | refine J.bx rfl rfl rfl rfl rfl rfl ?_
  refine J.s1 (enc := cI) (c.vars.length / 2) rfl rfl rfl rfl rfl rfl rfl rfl rfl (fun _ => rfl) rfl (by omega) ?_
  repeat' first | refine T.seq ?_ | refine T.block ?_ | refine T.r ?_ | refine J.e rfl rfl rfl rfl ?_ | refine J.nil ?_ | refine J.skip rfl rfl rfl ?_ | refine T.skip ?_ | refine T.exit ?_ | refine T.ret ?_ | refine T.rd rfl (by kernel_rfl) ?_ | refine J.bx rfl rfl rfl rfl rfl rfl ?_
  refine J.s3 (enc := cI) (c.vars.length / 2) rfl rfl rfl rfl rfl rfl rfl rfl rfl (fun _ => rfl) rfl (by omega) ?_
  repeat' first | refine T.seq ?_ | refine T.block ?_ | refine T.r ?_ | refine J.e rfl rfl rfl rfl ?_ | refine J.nil ?_ | refine J.skip rfl rfl rfl ?_ | refine T.skip ?_ | refine T.exit ?_ | refine T.ret ?_ | refine T.rd rfl (by kernel_rfl) ?_ | refine J.bx rfl rfl rfl rfl rfl rfl ?_
  refine J.cc rfl rfl rfl rfl rfl hord rfl rfl ?_
  repeat' first | refine T.seq ?_ | refine T.block ?_ | refine T.r ?_ | refine J.e rfl rfl rfl rfl ?_ | refine J.nil ?_ | refine J.skip rfl rfl rfl ?_ | refine T.skip ?_ | refine T.exit ?_ | refine T.ret ?_ | refine T.rd rfl (by kernel_rfl) ?_ | refine J.bx rfl rfl rfl rfl rfl rfl ?_
  exact ⟨_, .v rfl rfl (by rw [ho6]) (fun _ => rfl) .nil⟩
end Go.Proofs.Ytchajofdjeijfaa
/-! Plain laws: clauses; what tells of a sum, and clauses, where all is known. -/
namespace Go.Proofs.Ytchajofdjeijfaa
open Go Go.RowKit
set_option linter.unusedVariables false
set_option linter.unusedSimpArgs false

/-! Clauses. -/
/-- What is left of domains by literals, those that may be so in a list. -/
def clF (d : Doms) (l : List (Int × Int)) : Option Doms :=
  match l with
  | [] => none
  | [p] => keepO d p.1 (litW p.2)
  | _ :: _ :: _ => some d
theorem clGo_eq (d : Doms) (c : Con) (hl : c.vars.length = c.coefs.length) : ∀ (l : List (Int × Int)) (i : Nat) (op : Int), l = (c.vars.zip c.coefs).drop i → (0 ≤ op → op.toNat < c.vars.length) →
    clauseO d c (clGo d i l op) = if op < 0 then clF d (l.filter (litB d)) else (match l.filter (litB d) with | [] => keepO d (varAt c op.toNat) (litW (coefAt c op.toNat)) | _ :: _ => some d)
  | [], i, op, h, ho => by
    rw [clGo, clauseO]
    by_cases h1 : op < 0
    · rw [if_pos h1, if_pos h1]; rfl
    · rw [if_neg h1, if_neg h1]; rfl
  | p :: l, i, op, h, ho => by
    have hi : i < (c.vars.zip c.coefs).length := by
      have := congrArg List.length h
      simp at this
      simp; omega
    have hd := List.drop_eq_getElem_cons hi
    rw [← h] at hd
    injection hd with hp hl'
    have hiv : i < c.vars.length := by simp at hi; omega
    have hic : i < c.coefs.length := by omega
    have hpe : p = (varAt c i, coefAt c i) := by
      rw [hp, List.getElem_zip]
      simp [varAt, coefAt, hiv, hic]
    rw [clGo]
    by_cases hb : litB d p = true
    · rw [if_neg (by simp [hb]), List.filter_cons_of_pos hb]
      by_cases h1 : op < 0
      · rw [if_neg (by omega), if_pos h1, clGo_eq d c hl l (i + 1) i hl' (fun _ => by simpa using hiv), if_neg (by omega)]
        cases hf : l.filter (litB d) with
        | nil => simp [clF, hpe]
        | cons q m => simp [clF]
      · rw [if_pos (by omega), if_neg h1]
        rfl
    · have hb : litB d p = false := by simpa using hb
      rw [if_pos hb, List.filter_cons_of_neg (by simp [hb]), clGo_eq d c hl l (i + 1) op hl' ho]
theorem clauseW_eq {d : Doms} {c : Con} (hl : c.vars.length = c.coefs.length) : clauseW d c = if [] ∈ d then none else clF d ((c.vars.zip c.coefs).filter (litB d)) := by
  unfold clauseW
  rw [clGo_eq d c hl (c.vars.zip c.coefs) 0 (-1) rfl (by omega), if_pos (by decide : (-1 : Int) < 0)]
/-- A right clause. -/
structure ClOk (d : Doms) (c : Con) : Prop where
  len : c.vars.length = c.coefs.length
  nod : c.vars.Nodup
  pos : 0 < c.vars.length
  vl : c.vars.length * 8 ≤ 140737488355328
  vin : ∀ v ∈ c.vars, 0 ≤ v ∧ v.toNat < d.length
  unit : ∀ k ∈ c.coefs, k = 1 ∨ k = -1
  truth : ∀ v ∈ c.vars, truthR (domAt d v) = true
theorem lit_1 : litW 1 = 1 := by decide +kernel
theorem lit_m : litW (-1) = 0 := by decide +kernel
theorem clause_in {d : Doms} {c : Con} (hc : ConB c) (h : conR d c = 0) (hk : c.kind = 5) : ClOk d c := by
  obtain ⟨hv, hr⟩ := con_in hc h
  unfold rightR at hr
  rw [if_neg (by omega), if_neg (by omega), if_neg (by omega), if_neg (by omega), if_neg (by omega), if_pos hk] at hr
  simp only [sumR, Bool.and_eq_true, decide_eq_true_eq, Bool.not_eq_true', decide_eq_false_iff_not] at hr
  obtain ⟨⟨_, ⟨⟨h4, h5⟩, h6⟩, h7⟩, h8⟩ := hr
  have hu : ∀ i, i < c.vars.length → truthR (domAt d (varAt c i)) = true ∧ (coefAt c i = 1 ∨ coefAt c i = -1) := by
    intro i hi
    have := List.all_eq_true.1 h8 i (List.mem_range.2 hi)
    simpa [unitAt] using this
  refine ⟨h6, h4, h5, hv.1, hv.2, fun k hk => ?_, fun v hv => ?_⟩
  · obtain ⟨i, hi, rfl⟩ := List.getElem_of_mem hk
    have := (hu i (by omega)).2
    simpa [coefAt, hi] using this
  · obtain ⟨i, hi, rfl⟩ := List.getElem_of_mem hv
    have := (hu i hi).1
    simpa [varAt, hi] using this
theorem clin_in {d : Doms} {c : Con} (h : ClOk d c) (hdl : d.length * 24 ≤ 140737488355328) (hx : ∀ x ∈ d, (x.length + 1) * 16 ≤ 140737488355328) : ClIn d c := ⟨h.len, h.vl, h.vin, hdl, hx⟩
theorem keepO_some {d : Doms} {b v : Int} {out : Doms} (h : keepO d b v = some out) (hm : [] ∉ d) (hb : b.toNat < d.length) (hf : ∀ x ∈ d, Fine x) : out.length = d.length ∧ [] ∉ out ∧ ∀ x ∈ out, Fine x := by
  unfold keepO at h
  split at h
  · cases h
  · rename_i hne
    cases h
    have hx := hf _ (domAt_mem hb)
    obtain ⟨h1, h2⟩ := domCut_ok hx.ok v v
    exact ⟨by simp, fun hc => hne ((set_empty hb hm).1 hc), mem_set hf (hx.cut h1 fun w hw => ((h2 w).1 hw).1)⟩
theorem clF_some {d : Doms} {l : List (Int × Int)} {out : Doms} (h : clF d l = some out) (hm : [] ∉ d) (hb : ∀ p ∈ l, p.1.toNat < d.length) (hf : ∀ x ∈ d, Fine x) : out.length = d.length ∧ [] ∉ out ∧ ∀ x ∈ out, Fine x := by
  unfold clF at h
  split at h
  · cases h
  · exact keepO_some h hm (hb _ (.head _)) hf
  · cases h; exact ⟨rfl, hm, hf⟩
theorem clauseW_some {d : Doms} {c : Con} {out : Doms} (hc : ClOk d c) (h : clauseW d c = some out) (hf : ∀ x ∈ d, Fine x) : out.length = d.length ∧ [] ∉ out ∧ ∀ x ∈ out, Fine x := by
  rw [clauseW_eq hc.len] at h
  split at h
  · cases h
  · rename_i hm
    exact clF_some h hm (fun p hp => (hc.vin _ (List.of_mem_zip (List.mem_filter.1 hp).1).1).2) hf

/-! Where all is known. -/
theorem has_sing (x v : Int) : hasV (sing x) v = decide (x = v) := by
  simp only [hasV, sing, List.any_cons, List.any_nil, Bool.or_false]
  by_cases h : x = v
  · subst h; simp
  · simp [h]; omega
theorem keep_sing {u : List Int} {b v : Int} (h0 : 0 ≤ b) (hb : b.toNat < u.length) : keepO (sings u) b v = if atR u b = v then some (sings u) else none := by
  unfold keepO
  have hl : b.toNat < (sings u).length := by simpa [sings] using hb
  rw [domAt_sings h0 hb, domCut_sing _ _ _ (Int.le_refl v)]
  by_cases h : atR u b = v
  · have h2 : v ≤ atR u b ∧ atR u b ≤ v := by omega
    rw [if_pos h, if_pos h2, if_neg (by simp [sing]), ← domAt_sings h0 hb, set_self hl]
  · have h2 : ¬ (v ≤ atR u b ∧ atR u b ≤ v) := by omega
    rw [if_neg h, if_neg h2, if_pos rfl]
theorem truth_sing {x : Int} (h : truthR (sing x) = true) : x = 0 ∨ x = 1 := by
  simp [truthR, sing] at h
  omega
theorem nil_sings (u : List Int) : [] ∉ sings u := by
  intro h
  obtain ⟨v, _, hv⟩ := List.mem_map.1 h
  simp [sing] at hv
theorem lit_sings {u : List Int} {c : Con} (h : ClOk (sings u) c) {p : Int × Int} (hp : p ∈ c.vars.zip c.coefs) : litB (sings u) p = litH (atR u p.1, p.2) ∧ (litB (sings u) p = true → keepO (sings u) p.1 (litW p.2) = some (sings u)) := by
  obtain ⟨v, k⟩ := p
  obtain ⟨hv, hk⟩ := List.of_mem_zip hp
  obtain ⟨h0, h1⟩ := h.vin v hv
  have h1' : v.toNat < u.length := by simpa [sings] using h1
  have ht := h.truth v hv
  rw [domAt_sings h0 h1'] at ht
  have hx := truth_sing ht
  simp only [litB, litH, domAt_sings h0 h1', has_sing]
  rcases h.unit k hk with rfl | rfl
  · rw [lit_1, keep_sing h0 h1']
    refine ⟨by simp, fun h => ?_⟩
    rw [if_pos (by simpa using h)]
  · rw [lit_m, keep_sing h0 h1']
    refine ⟨by simp, fun h => ?_⟩
    rw [if_pos (by simpa using h)]
theorem clause_sings {u : List Int} {c : Con} (h : ClOk (sings u) c) : clauseW (sings u) c = if ((pickedR c.vars u).zip c.coefs).any litH then some (sings u) else none := by
  rw [clauseW_eq h.len, if_neg (nil_sings u)]
  have e : (pickedR c.vars u).zip c.coefs = (c.vars.zip c.coefs).map fun p => (atR u p.1, p.2) := by
    unfold pickedR
    rw [List.zip_map_left]
    rfl
  have e2 : ((pickedR c.vars u).zip c.coefs).any litH = (c.vars.zip c.coefs).any (litB (sings u)) := by
    rw [e, List.any_map, Bool.eq_iff_iff, List.any_eq_true, List.any_eq_true]
    exact ⟨fun ⟨p, hp, hl⟩ => ⟨p, hp, by rw [(lit_sings h hp).1]; exact hl⟩, fun ⟨p, hp, hl⟩ => ⟨p, hp, by rw [(lit_sings h hp).1] at hl; exact hl⟩⟩
  rw [e2]
  cases hf : (c.vars.zip c.coefs).filter (litB (sings u)) with
  | nil =>
    have : (c.vars.zip c.coefs).any (litB (sings u)) = false := by
      rw [List.any_eq_false]
      intro p hp hl
      have := List.mem_filter.2 ⟨hp, hl⟩
      rw [hf] at this
      cases this
    rw [this]; rfl
  | cons p l =>
    have hp := List.mem_filter.1 (hf ▸ List.Mem.head l : p ∈ (c.vars.zip c.coefs).filter (litB (sings u)))
    have : (c.vars.zip c.coefs).any (litB (sings u)) = true := List.any_eq_true.2 ⟨p, hp.1, hp.2⟩
    rw [this]
    cases l with
    | nil => exact (lit_sings h hp.1).2 hp.2
    | cons q l => rfl
theorem ends_sings {u vars coefs : List Int} (h : SumFine (sings u) vars coefs) (hw : weightK coefs ≤ 4611686018427388928) : endsW (sings u) vars coefs = (plainS vars coefs u, plainS vars coefs u, true) := by
  have hne : ∀ t ∈ termsOf (sings u) vars coefs, t.1 ≠ [] := by
    intro t ht
    obtain ⟨p, hp, rfl⟩ := List.mem_map.1 ht
    have hv := h.vin _ (List.of_mem_zip hp).1
    intro e
    exact nil_sings u (e ▸ domAt_mem hv.2)
  have hwt := terms_weight (d := sings u) h.len
  have := endsGo_ok 0 0 (terms_ok h) hne (by omega) (by omega) (by omega) (by omega)
  have e : ∀ p ∈ vars.zip coefs, lowE (domAt (sings u) p.1) p.2 = p.2 * atR u p.1 ∧ highE (domAt (sings u) p.1) p.2 = p.2 * atR u p.1 := by
    intro p hp
    have hv := h.vin _ (List.of_mem_zip hp).1
    rw [domAt_sings hv.1 (by simpa [sings] using hv.2)]
    simp [lowE, highE, sing, leastR, lastR]
  unfold endsW
  rw [this, lowS_zip, highS_zip]
  unfold plainS
  rw [List.map_congr_left fun p hp => (e p hp).1, List.map_congr_left fun p hp => (e p hp).2]
  simp
theorem so_sings {u : List Int} {c : Con} (h : SumOk (sings u) c) : soW (endsW (sings u) c.vars c.coefs) c = holds0 c u := by
  have ha := absK_pos c.rhs
  have hb := h.big
  have hop := h.op
  rw [ends_sings h.fine (by omega)]
  unfold soW holds0 heldR
  generalize plainS c.vars c.coefs u = s
  simp only [Bool.true_eq_false, if_false]
  by_cases h0 : c.op = 0
  · rw [if_pos h0, if_pos h0]
  · rw [if_neg h0, if_neg h0]
    by_cases h1 : c.op = 1
    · rw [if_pos h1, decide_eq_true h1]
      simp
    · rw [if_neg h1, decide_eq_false h1]
      by_cases hs : s = c.rhs
      · simp [hs]
      · simp [hs]; omega
theorem holds_not {u : List Int} {c : Con} (h : SumOk (sings u) c) (hw : weightK c.coefs + absK c.rhs ≤ 4611686018427387904) : holds0 (notW c) u = !holds0 c u := by
  have hck := h.fine.ck
  obtain ⟨_, _, _, hop, _⟩ := h
  obtain ⟨kind, vars, coefs, op, rhs, rows, b⟩ := c
  simp only at hop hw hck
  have ha : -absK rhs ≤ rhs ∧ rhs ≤ absK rhs := by unfold absK; omega
  have hwp := weightK_pos coefs
  have e1 : wr (0 - rhs) = -rhs := by rw [wr, wrap_id (by omega) (by omega)]; omega
  have e2 : wr (wr (0 - rhs) - 1) = -rhs - 1 := by rw [e1, wr, wrap_id (by omega) (by omega)]
  unfold notW holds0 heldR
  have : op = 0 ∨ op = 1 ∨ op = 2 := by omega
  rcases this with rfl | rfl | rfl
  · simp only [if_true]
    rw [plain_turned hck, e2]
    by_cases hs : plainS vars coefs u ≤ rhs
    · simp [hs]; omega
    · simp [hs]; omega
  · simp
  · simp
theorem sumW_sings {u : List Int} {c : Con} (h : SumOk (sings u) c) : soR c u = holds0 c u := by
  have ha := absK_pos c.rhs
  have hb := h.big
  unfold soR holds0
  rw [sumW_eq h.fine (by omega) ⟨by simp [sings], fun i x v hx hv => by
    simp only [sings, List.getElem?_map, Option.map_eq_some_iff] at hx
    obtain ⟨w, hw, rfl⟩ := hx
    rw [hv] at hw
    cases hw
    simp [sing, vals, rng_self]⟩]
theorem reif_sings {u : List Int} {c : Con} (h : ReifOk (sings u) c) (hw : weightK c.coefs + absK c.rhs ≤ 4611686018427387904) (RS RN : Option Doms) : reifW (sings u) c RS RN = if (soR c u && decide (atR u c.b = 1)) || (!soR c u && decide (atR u c.b = 0)) then some (sings u) else none := by
  have e1 : yesW (sings u) c = soR c u := by
    have := so_sings h.sum
    rw [← sumW_sings h.sum] at this
    exact this
  have e2 : noW (sings u) c = !soR c u := by
    have := so_sings h.sumN
    rw [holds_not h.sum hw, ← sumW_sings h.sum] at this
    exact this
  have hb : c.b.toNat < u.length := by simpa [sings] using h.b.2
  unfold reifW
  rw [if_neg (nil_sings u), e1, e2, keep_sing h.b.1 hb, keep_sing h.b.1 hb]
  generalize soR c u = y
  cases y
  · by_cases h1 : atR u c.b = 0
    · simp [h1]
    · simp [h1]
  · by_cases h1 : atR u c.b = 1
    · simp [h1]
    · simp [h1]
/-! Cases of truths. -/
def truthCase (o : Case) : Case := { o with d := truthsL o.d }
theorem truthCase_B {o : Case} (h : CaseB o) : CaseB (truthCase o) := by
  refine ⟨h.1, by have := h.2.1; simp [truthCase, truthsL]; omega, fun x hx => ?_⟩
  obtain ⟨y, hy, rfl⟩ := List.mem_map.1 hx
  have := h.2.2 y (List.mem_of_mem_take hy)
  simpa using this
theorem laid_small (o : Case) : ∀ x ∈ laidD o, x.length * 64 + 1048576 ≤ 140737488355328 := by
  intro x hx
  obtain ⟨y, _, rfl⟩ := List.mem_map.1 hx
  have := smallR_length (y.take 6)
  omega
theorem domAt_set {d : Doms} {v w : Int} {x : List (Int × Int)} (hv : v.toNat < d.length) : domAt (d.set v.toNat x) w = if v.toNat = w.toNat then x else domAt d w := by
  unfold domAt
  rw [List.getD_eq_getElem?_getD, List.getD_eq_getElem?_getD, List.getElem?_set]
  by_cases h : v.toNat = w.toNat
  · rw [if_pos h, if_pos h, if_pos hv]; rfl
  · rw [if_neg h, if_neg h]
end Go.Proofs.Ytchajofdjeijfaa
/-! Sums, pruned: where it is known that the sum is so all stays, where it is known that it is not none does. -/
namespace Go.Proofs.Ytchajofdjeijfaa
open Go Go.RowKit
set_option linter.unusedVariables false
set_option linter.unusedSimpArgs false

theorem iter_det {α β : Type} {f : α → β ⊕ α} : ∀ {n m : Nat} {x : α} {r s : β}, iter f n x = some r → iter f m x = some s → r = s
  | 0, _, _, _, _, h, _ => by cases h
  | _ + 1, 0, _, _, _, _, h => by cases h
  | n + 1, m + 1, x, r, s, h1, h2 => by
    simp only [iter] at h1 h2
    cases h : f x with
    | inl b => rw [h] at h1 h2; simp only [Option.some.injEq] at h1 h2; rw [← h1, h2]
    | inr y => rw [h] at h1 h2; exact iter_det h1 h2
theorem lin_det {d : Doms} {c : Con} {R S : Option Doms} {N M : Nat} (h1 : LinAns d c R N) (h2 : LinAns d c S M) : R = S := by
  unfold LinAns at h1 h2
  split at h1
  · rename_i h; rw [if_pos h] at h2; rw [h1, h2]
  · rename_i h
    rw [if_neg h] at h2
    split at h1
    · rename_i h3; rw [if_pos h3] at h2; rw [h1, h2]
    · rename_i h3; rw [if_neg h3] at h2; exact iter_det h1 h2
theorem iter_keep {α β : Type} {f : α → β ⊕ α} {I : α → Prop} {P : β → Prop} (h1 : ∀ x y, I x → f x = .inr y → I y) (h2 : ∀ x r, I x → f x = .inl r → P r) : ∀ {n : Nat} {x : α} {r : β}, I x → iter f n x = some r → P r
  | 0, _, _, _, h => by cases h
  | n + 1, x, r, hi, h => by
    simp only [iter] at h
    cases hf : f x with
    | inl b => rw [hf] at h; simp only [Option.some.injEq] at h; exact h ▸ h2 x b hi hf
    | inr y => rw [hf] at h; exact iter_keep h1 h2 (h1 x y hi hf) h
theorem sub_set {d : Doms} {i : Nat} {x : List (Int × Int)} (h : ∀ y, d[i]? = some y → ∀ v ∈ vals x, v ∈ vals y) : Sub (d.set i x) d := by
  refine ⟨by simp, fun j y z hy hz v hv => ?_⟩
  rw [List.getElem?_set] at hy
  split at hy
  · rename_i e
    subst e
    split at hy
    · cases hy; exact h z hz v hv
    · cases hy
  · rw [hz] at hy; cases hy; exact hv
theorem lin_sub {d : Doms} {c : Con} {out : Doms} {N : Nat} (h : SumOk d c) (hR : LinAns d c (some out) N) : Sub out d := by
  unfold LinAns at hR
  split at hR
  · cases hR
  · rename_i hne
    have hw := h.whole hne
    split at hR
    · rename_i h2
      rw [other_same hw h.pos] at hR
      split at hR
      · cases hR
      · cases hR
        have hin := rotherGo_in (termsOf d c.vars c.coefs) 0 0 0 0 c.vars.length h.pos (by have := h.fine.len; simp [termsOf]; omega) (Nat.le_refl _)
        unfold rotherW
        simp only
        split
        · exact Sub.refl d
        · split
          · split
            · exact sub_set fun y _ v hv => by simp [vals] at hv
            · exact Sub.refl d
          · refine sub_set fun y hy v hv => ?_
            have hvv := h.fine.vin _ (varAt_mem hin.1)
            rw [domAt_some hvv.2] at hy
            obtain rfl := Option.some.inj hy
            have hf := h.fine.dom _ (domAt_mem hvv.2)
            rw [vals_pack (filter_up (vals_up hf.ok))] at hv
            exact (List.mem_filter.1 hv).1
    · refine iter_keep (f := stepL c) (I := fun x => WholeC c x ∧ Sub x d) (P := fun r => ∀ o, r = some o → Sub o d) ?_ ?_ ⟨hw, Sub.refl d⟩ hR out rfl
      · rintro x y ⟨hx, hs⟩ hy
        rw [stepL_eq hx] at hy
        obtain ⟨f1, s1⟩ := MO_ok hx
        split at hy
        · cases hy
        · rename_i h1
          have hw1 : WholeC c (M1 c x) := Whole.most hx h1
          obtain ⟨f2, s2⟩ := MO_ok hw1.back
          split at hy
          · cases hy
          · split at hy
            · cases hy
            · rename_i h3
              split at hy
              · cases hy
              · obtain rfl := Sum.inr.inj hy
                exact ⟨hw1.unback (Whole.most hw1.back h3), Sub.trans s2 (Sub.trans s1 hs)⟩
      · rintro x r ⟨hx, hs⟩ hy o rfl
        rw [stepL_eq hx] at hy
        obtain ⟨f1, s1⟩ := MO_ok hx
        split at hy
        · cases hy
        · rename_i h1
          have hw1 : WholeC c (M1 c x) := Whole.most hx h1
          obtain ⟨f2, s2⟩ := MO_ok hw1.back
          split at hy
          · obtain rfl := Option.some.inj (Sum.inl.inj hy)
            exact Sub.trans s1 hs
          · split at hy
            · cases hy
            · split at hy
              · obtain rfl := Option.some.inj (Sum.inl.inj hy)
                exact Sub.trans s2 (Sub.trans s1 hs)
              · cases hy
/-- Through each value of domains none of which is empty there is a support. -/
theorem supp_through {d : Doms} (hf : ∀ x ∈ d, Fine x) (hne : [] ∉ d) {i : Nat} {x : List (Int × Int)} {v : Int} (hx : d[i]? = some x) (hv : v ∈ vals x) : ∃ a, Supp a d ∧ a[i]? = some v := by
  have hi := (List.getElem?_eq_some_iff.1 hx).1
  refine ⟨(d.map fun y => (vals y).headD 0).set i v, ⟨by simp, fun j y w hy hw => ?_⟩, by simp [hi]⟩
  rw [List.getElem?_set] at hw
  split at hw
  · rename_i e
    subst e
    rw [hx] at hy
    cases hy
    split at hw
    · cases hw; exact hv
    · cases hw
  · rw [List.getElem?_map, hy] at hw
    simp only [Option.map_some, Option.some.injEq] at hw
    subst hw
    have hm := List.mem_of_getElem? hy
    cases h2 : vals y with
    | nil => exact absurd ((vals_ne (hf y hm).ok).1 h2 ▸ hm) hne
    | cons z l => simp
theorem lin_stay {d : Doms} {c : Con} {R : Option Doms} {N : Nat} (h : SumOk d c) (hne : [] ∉ d) (hR : LinAns d c R N) (hfin : ∀ out, R = some out → out.length = d.length ∧ [] ∉ out ∧ ∀ x ∈ out, Fine x) (hso : soW (endsW d c.vars c.coefs) c = true) : R = some d := by
  have hb := h.big
  have ha := absK_pos c.rhs
  have key : ∀ a, Supp a d → ∃ out, R = some out ∧ Supp a out := fun a hs => lin_sound h hs (so_holds h.fine (by omega) h.op hs hso) hR
  cases R with
  | none =>
    exfalso
    cases hd : d with
    | nil =>
      have := h.fine.vin
      have hp := h.pos
      obtain ⟨v, hv⟩ := List.exists_mem_of_length_pos hp
      have := (this v hv).2
      rw [hd] at this
      simp at this
    | cons x l =>
      have hxm : x ∈ d := by rw [hd]; exact .head _
      cases h2 : vals x with
      | nil => exact hne ((vals_ne (h.fine.dom x hxm).ok).1 h2 ▸ hxm)
      | cons z m =>
        obtain ⟨a, hs, _⟩ := supp_through h.fine.dom hne (i := 0) (x := x) (v := z) (by rw [hd]; rfl) (by rw [h2]; exact .head _)
        obtain ⟨out, ho, _⟩ := key a hs
        cases ho
  | some out =>
    obtain ⟨h1, h2, h3⟩ := hfin out rfl
    have hsub := lin_sub h hR
    congr 1
    refine Sub.antisymm hsub ⟨h1.symm, fun i x y hx hy v hv => ?_⟩ h3 h.fine.dom
    obtain ⟨a, hs, hai⟩ := supp_through h.fine.dom hne hx hv
    obtain ⟨out', ho, hs2⟩ := key a hs
    cases ho
    exact hs2.2 i y v hy hai
theorem ends_whole {d : Doms} {vars coefs : List Int} {rhs : Int} (h : Whole d vars coefs rhs) : endsW d vars coefs = (lowS (termsOf d vars coefs), highS (termsOf d vars coefs), true) := by
  have hb := h.big
  have ha := absK_pos rhs
  have hwt := terms_weight (d := d) h.fine.len
  have := endsGo_ok 0 0 (terms_ok h.fine) (terms_ne h) (by omega) (by omega) (by omega) (by omega)
  unfold endsW
  rw [this]
  simp
theorem MO_none {d : Doms} {vars coefs : List Int} {rhs : Int} (h : Whole d vars coefs rhs) (hpos : 0 < vars.length) (hl : rhs < lowS (termsOf d vars coefs)) : [] ∈ MO d vars coefs rhs := by
  obtain ⟨ha, hlt⟩ := cuts_apart h
  have hz : 0 < (vars.zip coefs).length := by have := h.fine.len; simp; omega
  obtain ⟨p, hp⟩ := List.exists_mem_of_length_pos hz
  have hm : (p.1, cutAt d (lowS (termsOf d vars coefs)) rhs p) ∈ cuts d vars coefs rhs := List.mem_map.2 ⟨p, hp, rfl⟩
  have := setAll_has ha hlt hm
  have hv := h.fine.vin _ (List.of_mem_zip hp).1
  have hok := (h.fine.dom _ (domAt_mem hv.2)).ok
  obtain ⟨h1, h2⟩ := cutP_ok hok p.2 (rhs - (lowS (termsOf d vars coefs) - lowE (domAt d p.1) p.2))
  have e : cutAt d (lowS (termsOf d vars coefs)) rhs p = [] := by
    refine (vals_ne h1).1 ?_
    cases hc : vals (cutP (domAt d p.1) p.2 (rhs - (lowS (termsOf d vars coefs) - lowE (domAt d p.1) p.2))) with
    | nil => rfl
    | cons v l =>
      have h3 := (h2 v).1 (by rw [hc]; exact .head _)
      have h4 := (lowE_le hok h3.1 (k := p.2)).1
      omega
  simp only [e] at this
  exact this
theorem low_turned {d : Doms} {vars coefs : List Int} (h : ∀ k ∈ coefs, CoefOk k) : lowS (termsOf d vars (turnedW coefs)) = -highS (termsOf d vars coefs) := by
  rw [lowS_zip, highS_zip]
  unfold turnedW
  induction vars generalizing coefs with
  | nil => simp
  | cons v vars ih =>
    cases coefs with
    | nil => simp
    | cons k coefs =>
      have hk := h k (.head _)
      have e := (turned_ok hk).1
      have ih := ih fun k hk => h k (.tail _ hk)
      simp only [List.map_cons, List.zip_cons_cons, List.sum_cons, e]
      have e2 : lowE (domAt d v) (-k) = -highE (domAt d v) k := by
        have hk0 := hk.1
        unfold lowE highE
        by_cases h0 : 0 < k
        · rw [if_neg (by omega), if_pos h0, Int.neg_mul]
        · rw [if_pos (by omega), if_neg h0, Int.neg_mul]
      rw [e2, ih]
      omega
theorem high_turned {d : Doms} {vars coefs : List Int} (h : ∀ k ∈ coefs, CoefOk k) : highS (termsOf d vars (turnedW coefs)) = -lowS (termsOf d vars coefs) := by
  rw [lowS_zip, highS_zip]
  unfold turnedW
  induction vars generalizing coefs with
  | nil => simp
  | cons v vars ih =>
    cases coefs with
    | nil => simp
    | cons k coefs =>
      have hk := h k (.head _)
      have e := (turned_ok hk).1
      have ih := ih fun k hk => h k (.tail _ hk)
      simp only [List.map_cons, List.zip_cons_cons, List.sum_cons, e]
      have e2 : highE (domAt d v) (-k) = -lowE (domAt d v) k := by
        have hk0 := hk.1
        unfold lowE highE
        by_cases h0 : 0 < k
        · rw [if_neg (by omega), if_pos h0, Int.neg_mul]
        · rw [if_pos (by omega), if_neg h0, Int.neg_mul]
      rw [e2, ih]
      omega
theorem all_stay {d out : Doms} (hf : ∀ x ∈ d, Fine x) (hne : [] ∉ d) (hs : Sub out d) (ho : ∀ x ∈ out, Fine x) (h : ∀ a, Supp a d → Supp a out) : out = d := by
  refine Sub.antisymm hs ⟨hs.1.symm, fun i x y hx hy v hv => ?_⟩ ho hf
  obtain ⟨a, ha, hai⟩ := supp_through hf hne hx hv
  exact (h a ha).2 i y v hy hai
theorem rotherGo_none : ∀ (ts : List (List (Int × Int) × Int)) (i m a : Nat) (s : Int), (∀ t ∈ ts, ¬ 1 < (vals t.1).length) → (rotherGo i ts m s a).1 = m
  | [], i, m, a, s, _ => by simp [rotherGo]
  | t :: ts, i, m, a, s, h => by
    rw [rotherGo, if_neg (h t (.head _))]
    exact rotherGo_none ts _ _ _ _ fun t ht => h t (.tail _ ht)
theorem supp_some {d : Doms} (hf : ∀ x ∈ d, Fine x) (hne : [] ∉ d) (hl : 0 < d.length) : ∃ a, Supp a d := by
  cases h2 : vals d[0] with
  | nil => exact absurd ((vals_ne (hf d[0] (List.getElem_mem hl)).ok).1 h2 ▸ List.getElem_mem hl) hne
  | cons z m =>
    obtain ⟨a, ha, _⟩ := supp_through hf hne (i := 0) (x := d[0]) (v := z) (List.getElem?_eq_getElem hl) (by rw [h2]; exact .head _)
    exact ⟨a, ha⟩
theorem lin_gone {d : Doms} {c : Con} (h : SumOk d c) (hne : [] ∉ d) (hso : soW (endsW d (notW c).vars (notW c).coefs) (notW c) = true) : LinAns d c none 1 := by
  have hw := h.whole hne
  have hw0 : Whole d c.vars c.coefs c.rhs := hw
  have hb := h.big
  have har : absK c.rhs = max c.rhs (-c.rhs) := rfl
  have hwp := weightK_pos c.coefs
  have hck := h.fine.ck
  have hop := h.op
  have e1 : wr (0 - c.rhs) = -c.rhs := by rw [wr, wrap_id (by omega) (by omega)]; omega
  have hlow : c.rhs < lowS (termsOf d c.vars c.coefs) → c.op ≠ 2 → LinAns d c none 1 := by
    intro hl h2
    unfold LinAns
    rw [if_neg hne, if_neg h2]
    simp only [iter]
    have hn : [] ∈ M1 c d := MO_none hw0 h.pos hl
    rw [stepL_eq hw, if_pos hn]
  have hopc : c.op = 0 ∨ c.op = 1 ∨ c.op = 2 := by omega
  rcases hopc with h0 | h0 | h0
  · have en : notW c = { c with coefs := turnedW c.coefs, rhs := wr (wr (0 - c.rhs) - 1) } := by unfold notW; rw [if_pos h0]
    rw [en] at hso
    simp only at hso
    rw [ends_whole hw0.back, high_turned hck, low_turned hck] at hso
    simp only [soW, Bool.true_eq_false, if_false, if_pos h0, decide_eq_true_eq] at hso
    have e2 : wr (wr (0 - c.rhs) - 1) = -c.rhs - 1 := by rw [e1, wr, wrap_id (by omega) (by omega)]
    rw [e2] at hso
    exact hlow (by omega) (by omega)
  · have en : notW c = { c with op := 2 } := by unfold notW; rw [if_neg (by omega), if_pos h0]
    rw [en] at hso
    simp only at hso
    rw [ends_whole hw0] at hso
    simp [soW] at hso
    by_cases hl : c.rhs < lowS (termsOf d c.vars c.coefs)
    · exact hlow hl (by omega)
    · have hh : highS (termsOf d c.vars c.coefs) < c.rhs := by omega
      unfold LinAns
      rw [if_neg hne, if_neg (by omega)]
      simp only [iter]
      rw [stepL_eq hw]
      by_cases h1 : [] ∈ M1 c d
      · rw [if_pos h1]
      · obtain ⟨f1, s1⟩ := MO_ok hw0
        have e : M1 c d = d := all_stay h.fine.dom hne s1 f1 fun a ha => MO_supp hw0 ha (by have := (plain_in h.fine ha).2.1; omega)
        have h2 : [] ∈ M2 c d := MO_none hw0.back h.pos (by rw [low_turned hck, e1]; omega)
        rw [if_neg h1, if_neg (by omega), e, if_pos h2]
  · have en : notW c = { c with op := 1 } := by unfold notW; rw [if_neg (by omega), if_neg (by omega), if_pos h0]
    rw [en] at hso
    simp only at hso
    rw [ends_whole hw0] at hso
    simp [soW] at hso
    obtain ⟨hl, hh⟩ := hso
    have hdl : 0 < d.length := by
      obtain ⟨v, hv⟩ := List.exists_mem_of_length_pos h.pos
      have := h.fine.vin v hv
      omega
    obtain ⟨a, hs⟩ := supp_some h.fine.dom hne hdl
    have hmem : ∀ p ∈ c.vars.zip c.coefs, lowE (domAt d p.1) p.2 ≤ highE (domAt d p.1) p.2 := fun p hp => by
      have hv := h.fine.vin _ (List.of_mem_zip hp).1
      have := lowE_le (h.fine.dom _ (domAt_mem hv.2)).ok (hs.at hv.1 hv.2) (k := p.2)
      omega
    obtain ⟨_, hle⟩ := sum_le_sum (f := fun p : Int × Int => lowE (domAt d p.1) p.2) (g := fun p => highE (domAt d p.1) p.2) hmem
    rw [← lowS_zip, ← highS_zip] at hle
    have hone : ∀ t ∈ termsOf d c.vars c.coefs, ¬ 1 < (vals t.1).length := by
      intro t ht
      obtain ⟨p, hp, rfl⟩ := List.mem_map.1 ht
      have h1 := hle p hp
      have hk := (h.fine.ck _ (List.of_mem_zip hp).2).1
      have hv := h.fine.vin _ (List.of_mem_zip hp).1
      have hok := (h.fine.dom _ (domAt_mem hv.2)).ok
      simp only at h1 ⊢
      have hee : leastR (domAt d p.1) = lastR (domAt d p.1) := by
        have h2 := least_le hok (hs.at hv.1 hv.2)
        have h3 := le_last hok (hs.at hv.1 hv.2)
        unfold lowE highE at h1
        by_cases h0 : 0 < p.2
        · rw [if_pos h0, if_pos h0] at h1
          have h4 : p.2 * (lastR (domAt d p.1) - leastR (domAt d p.1)) ≤ 0 := by rw [Int.mul_sub]; omega
          have h5 := Int.nonpos_of_mul_nonpos_right h4 (by omega)
          omega
        · rw [if_neg h0, if_neg h0] at h1
          have h4 : (-p.2) * (lastR (domAt d p.1) - leastR (domAt d p.1)) ≤ 0 := by rw [Int.neg_mul, Int.mul_sub]; omega
          have h5 := Int.nonpos_of_mul_nonpos_right h4 (by omega)
          omega
      have hup := vals_up hok
      have hall : ∀ v ∈ vals (domAt d p.1), v = leastR (domAt d p.1) := fun v hv => by
        have h2 := least_le hok hv
        have h3 := le_last hok hv
        omega
      generalize vals (domAt d p.1) = l at *
      cases l with
      | nil => simp
      | cons x l => cases l with
        | nil => simp
        | cons y l =>
          have h2 := (List.pairwise_cons.1 hup).1 y (.head _)
          have h3 := hall x (.head _)
          have h4 := hall y (.tail _ (.head _))
          omega
    have hw2 := terms_weight (d := d) h.fine.len
    let ts : List ((List (Int × Int) × Int) × Int) := (c.vars.zip c.coefs).map fun p => ((domAt d p.1, p.2), atR a p.1)
    have et : ts.map (·.1) = termsOf d c.vars c.coefs := by simp only [ts, List.map_map]; rfl
    have eS : (ts.map fun t => t.1.2 * t.2).sum = plainS c.vars c.coefs a := by simp only [ts, List.map_map]; rfl
    have hv : ValsIn ts := by
      intro t ht
      obtain ⟨p, hp, rfl⟩ := List.mem_map.1 ht
      have := h.fine.vin _ (List.of_mem_zip hp).1
      exact hs.at this.1 this.2
    have key := rotherGo_sum (B := weightK c.coefs) (by omega) ts 0 0 0 0 (by rw [et]; exact terms_ok h.fine) hv (by rw [et]; omega) (by rw [et]; omega)
    rw [et, eS] at key
    have hm0 := rotherGo_none (termsOf d c.vars c.coefs) 0 0 0 0 hone
    have hsum := (key.1 hm0).1
    have hpl := plain_in h.fine hs
    have hrr : [] ∈ rotherW d c := by
      unfold rotherW
      simp only
      rw [if_neg (by omega), if_pos hm0, if_pos (by rw [hsum]; omega)]
      have hvv := h.fine.vin _ (varAt_mem (c := c) (k := 0) h.pos)
      exact (set_empty hvv.2 hne).2 rfl
    unfold LinAns
    rw [if_neg hne, if_pos h0, other_same hw h.pos, if_pos hrr]
theorem not_not {c : Con} (hck : ∀ k ∈ c.coefs, CoefOk k) (hop : 0 ≤ c.op ∧ c.op ≤ 2) (hr : absK c.rhs ≤ 4611686018427388928) : notW (notW c) = c := by
  obtain ⟨kind, vars, coefs, op, rhs, rows, b⟩ := c
  simp only at hck hop hr
  have har : absK rhs = max rhs (-rhs) := rfl
  have : op = 0 ∨ op = 1 ∨ op = 2 := by omega
  rcases this with rfl | rfl | rfl
  · have e1 : wr (0 - rhs) = -rhs := by rw [wr, wrap_id (by omega) (by omega)]; omega
    have e2 : wr (wr (0 - rhs) - 1) = -rhs - 1 := by rw [e1, wr, wrap_id (by omega) (by omega)]
    have e3 : wr (wr (0 - (-rhs - 1)) - 1) = rhs := by
      rw [show wr (0 - (-rhs - 1)) = rhs + 1 by rw [wr, wrap_id (by omega) (by omega)]; omega, wr, wrap_id (by omega) (by omega)]
      omega
    have e4 : turnedW (turnedW coefs) = coefs := by
      unfold turnedW
      rw [List.map_map]
      refine (List.map_congr_left fun k hk => ?_).trans (List.map_id _)
      obtain ⟨h1, h2⟩ := turned_ok (hck k hk)
      have h3 := (turned_ok h2).1
      simp only [Function.comp]
      rw [h3, h1]
      simp
    simp only [notW, if_true, e2, e3, e4]
  · simp [notW]
  · simp [notW]
end Go.Proofs.Ytchajofdjeijfaa
/-! Contract: a constraint of one's own, its variables and numbers each in a list that only its owner has. -/
namespace Go.Proofs.Ytchajofdjeijfaa
open Go Go.RowKit
set_option linter.unusedVariables false
set_option linter.unusedSimpArgs false
set_option maxRecDepth 8000

/-- A constraint whose variables and numbers are told by their lists' values. -/
def cCr (c : Con) (u v : Value) : List PV := [.int .i64 c.kind, .raw u, .raw v, .int .i64 c.op, .int .i64 c.rhs, lists c.rows, .int .i64 c.b]
theorem oown_spec (c : Con) (hc : ConB c) : SpecO Try.prog 40 true [] [] [.agg (cC c)] [] [.sl 3 1 true (c.vars.map cI), .sl 3 1 true (c.coefs.map cI)] (fun ns => [.agg (cCr c (ns.getD 0 undef) (ns.getD 1 undef))]) := by
  refine SpecO.body [] [3, 8] Try.func40 rfl rfl rfl rfl fun w0 Z1 => ?_
  obtain ⟨h1, h2, h3, h4⟩ := hc
  repeat' first | refine T.seq ?_ | refine T.block ?_ | refine T.r ?_ | refine J.e rfl rfl rfl rfl ?_ | refine J.nil ?_ | refine J.skip rfl rfl rfl ?_ | refine T.skip ?_ | refine T.exit ?_ | refine T.ret ?_ | refine T.rd rfl (by kernel_rfl) ?_ | refine J.bx rfl rfl rfl rfl rfl rfl ?_
  refine J.al rfl rfl rfl rfl rfl rfl rfl ?_
  repeat' first | refine T.seq ?_ | refine T.block ?_ | refine T.r ?_ | refine J.e rfl rfl rfl rfl ?_ | refine J.nil ?_ | refine J.skip rfl rfl rfl ?_ | refine T.skip ?_ | refine T.exit ?_ | refine T.ret ?_ | refine T.rd rfl (by kernel_rfl) ?_ | refine J.bx rfl rfl rfl rfl rfl rfl ?_
  refine J.bo rfl rfl rfl rfl rfl rfl rfl rfl rfl rfl rfl rfl ?_
  repeat' first | refine T.seq ?_ | refine T.block ?_ | refine T.r ?_ | refine J.e rfl rfl rfl rfl ?_ | refine J.nil ?_ | refine J.skip rfl rfl rfl ?_ | refine T.skip ?_ | refine T.exit ?_ | refine T.ret ?_ | refine T.rd rfl (by kernel_rfl) ?_ | refine J.bx rfl rfl rfl rfl rfl rfl ?_
  refine J.a rfl rfl rfl rfl rfl rfl rfl rfl rfl rfl rfl rfl rfl rfl rfl rfl rfl len_I (by show (0 + List.length _) * 8 ≤ _; simp; omega) ?_
  refine J.name 3 (s := 6) rfl rfl rfl fun u1 => ?_
  refine J.sub (Rel.raw (s := 6) (g := 3) rfl (.inl rfl) rfl rfl rfl) ?_
  repeat' first | refine T.seq ?_ | refine T.block ?_ | refine T.r ?_ | refine J.e rfl rfl rfl rfl ?_ | refine J.nil ?_ | refine J.skip rfl rfl rfl ?_ | refine T.skip ?_ | refine T.exit ?_ | refine T.ret ?_ | refine T.rd rfl (by kernel_rfl) ?_ | refine J.bx rfl rfl rfl rfl rfl rfl ?_
  refine J.w rfl rfl rfl rfl rfl rfl rfl rfl rfl rfl ?_
  repeat' first | refine T.seq ?_ | refine T.block ?_ | refine T.r ?_ | refine J.e rfl rfl rfl rfl ?_ | refine J.nil ?_ | refine J.skip rfl rfl rfl ?_ | refine T.skip ?_ | refine T.exit ?_ | refine T.ret ?_ | refine T.rd rfl (by kernel_rfl) ?_ | refine J.bx rfl rfl rfl rfl rfl rfl ?_
  refine J.bo rfl rfl rfl rfl rfl rfl rfl rfl rfl rfl rfl rfl ?_
  repeat' first | refine T.seq ?_ | refine T.block ?_ | refine T.r ?_ | refine J.e rfl rfl rfl rfl ?_ | refine J.nil ?_ | refine J.skip rfl rfl rfl ?_ | refine T.skip ?_ | refine T.exit ?_ | refine T.ret ?_ | refine T.rd rfl (by kernel_rfl) ?_ | refine J.bx rfl rfl rfl rfl rfl rfl ?_
  refine J.a rfl rfl rfl rfl rfl rfl rfl rfl rfl rfl rfl rfl rfl rfl rfl rfl rfl len_I (by show (0 + List.length _) * 8 ≤ _; simp; omega) ?_
  refine J.name 8 (s := 11) rfl rfl rfl fun u2 => ?_
  refine J.sub (Rel.raw (s := 11) (g := 8) rfl (.inl rfl) rfl rfl rfl) ?_
  repeat' first | refine T.seq ?_ | refine T.block ?_ | refine T.r ?_ | refine J.e rfl rfl rfl rfl ?_ | refine J.nil ?_ | refine J.skip rfl rfl rfl ?_ | refine T.skip ?_ | refine T.exit ?_ | refine T.ret ?_ | refine T.rd rfl (by kernel_rfl) ?_ | refine J.bx rfl rfl rfl rfl rfl rfl ?_
  refine J.w rfl rfl rfl rfl rfl rfl rfl rfl rfl rfl ?_
  repeat' first | refine T.seq ?_ | refine T.block ?_ | refine T.r ?_ | refine J.e rfl rfl rfl rfl ?_ | refine J.nil ?_ | refine J.skip rfl rfl rfl ?_ | refine T.skip ?_ | refine T.exit ?_ | refine T.ret ?_ | refine T.rd rfl (by kernel_rfl) ?_ | refine J.bx rfl rfl rfl rfl rfl rfl ?_
  refine J.cc rfl rfl rfl rfl rfl (numss_spec c.rows h3 h4).frz rfl rfl ?_
  repeat' first | refine T.seq ?_ | refine T.block ?_ | refine T.r ?_ | refine J.e rfl rfl rfl rfl ?_ | refine J.nil ?_ | refine J.skip rfl rfl rfl ?_ | refine T.skip ?_ | refine T.exit ?_ | refine T.ret ?_ | refine T.rd rfl (by kernel_rfl) ?_ | refine J.bx rfl rfl rfl rfl rfl rfl ?_
  refine J.w rfl rfl rfl rfl rfl rfl rfl rfl rfl rfl ?_
  repeat' first | refine T.seq ?_ | refine T.block ?_ | refine T.r ?_ | refine J.e rfl rfl rfl rfl ?_ | refine J.nil ?_ | refine J.skip rfl rfl rfl ?_ | refine T.skip ?_ | refine T.exit ?_ | refine T.ret ?_ | refine T.rd rfl (by kernel_rfl) ?_ | refine J.bx rfl rfl rfl rfl rfl rfl ?_
  refine J.w rfl rfl rfl rfl rfl rfl rfl rfl rfl rfl ?_
  repeat' first | refine T.seq ?_ | refine T.block ?_ | refine T.r ?_ | refine J.e rfl rfl rfl rfl ?_ | refine J.nil ?_ | refine J.skip rfl rfl rfl ?_ | refine T.skip ?_ | refine T.exit ?_ | refine T.ret ?_ | refine T.rd rfl (by kernel_rfl) ?_ | refine J.bx rfl rfl rfl rfl rfl rfl ?_
  exact ⟨[], [3, 5], [u1, u2], trivial, ⟨rfl, rfl, rfl, rfl, rfl, rfl, trivial⟩, rfl, .c rfl rfl rfl rfl (fun _ => rfl) .nil⟩
end Go.Proofs.Ytchajofdjeijfaa
