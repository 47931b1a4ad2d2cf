/- The function on states tells what the machine does: its proof. -/
import Derived.Test.YtchajofdjeijfaaCoreB
namespace Go.Proofs.Ytchajofdjeijfaa
open Go Go.RowKit
set_option linter.unusedVariables false
set_option linter.unusedSimpArgs false

section
variable {K : Ctx} {E : EnvF} {U : Nat → Prop} {φ : Nat → Value} {a : Act} {w : World}

theorem run_equal_bool {P : Program} {t : TypeId} (hud : P.underlying t = some .bool) (m n : Bool) (w : World) : (Op.equal t (.bool m) (.bool n)).run P w = .ok (m == n) w := by
  have key : ∀ d, (Op.equalIn (d + 1) t (.bool m) (.bool n)).run P w = .ok (m == n) w := by
    intro d
    rw [Op.equalIn]
    simp only [Sem.run_bind, run_underlying hud, Result.andThen_ok]
    rfl
  exact key 9999

theorem bin_sound {P : Program} {Z Z1 Z2 : Nat → Prop} {op : BinOp} {u v : Value} {p q r : PV} {t : TypeId} (hu : Rep w Z1 u p) (hv : Rep w Z2 v q) (hb : binPV (P.underlying t) op p q = some r) (x y : Operand) :
    ∃ z, (do eqGuard op t x y u v; binOp op t u v : Sem Value).run P w = .ok z w ∧ Rep w Z z r := by
  unfold binPV at hb
  split at hb
  · rename_i k m k' n
    cases hu
    cases hv
    have hg : (eqGuard op t x y (.int k m) (.int k' n)).run P w = .ok () w := by
      unfold eqGuard; split <;> rfl
    simp only [Sem.run_bind, hg, Result.andThen_ok]
    split at hb
    · split at hb
      · cases hb
      · rename_i hn
        obtain rfl := Option.some.inj hb
        exact ⟨_, by simp [binOp, Op.shift, hn], .int _ _⟩
    · split at hb
      · cases hb
      · rename_i hn
        obtain rfl := Option.some.inj hb
        exact ⟨_, by simp [binOp, Op.shift, hn], .int _ _⟩
    · rename_i h1 h2
      split at hb
      · rename_i hk
        subst hk
        split at hb <;> try
          first
          | (obtain rfl := Option.some.inj hb
             first
             | exact ⟨_, by simp only [binOp, ne_eq, not_true_eq_false, if_false, Op.intArith]; rfl, .int _ _⟩
             | exact ⟨_, by simp only [binOp, ne_eq, not_true_eq_false, if_false, Op.intBits]; rfl, .int _ _⟩
             | exact ⟨_, by simp only [binOp, ne_eq, not_true_eq_false, if_false, Op.intCmp]; rfl, .bool _⟩)
        · split at hb
          · cases hb
          · rename_i hn
            obtain rfl := Option.some.inj hb
            exact ⟨_, by simp only [binOp, ne_eq, not_true_eq_false, if_false, Op.intDiv, hn]; rfl, .int _ _⟩
        · split at hb
          · cases hb
          · rename_i hn
            obtain rfl := Option.some.inj hb
            exact ⟨_, by simp only [binOp, ne_eq, not_true_eq_false, if_false, Op.intDiv, hn]; rfl, .int _ _⟩
        · obtain rfl := Option.some.inj hb
          refine ⟨.bool (m != n), by simp only [binOp, ne_eq, not_true_eq_false, if_false, Op.intCmp]; rfl, ?_⟩
          have : (m != n) = decide (m ≠ n) := by by_cases e : m = n <;> simp [e]
          rw [this]; exact .bool _
        · cases hb
      · cases hb
  · cases hu
    cases hv
    rename_i m n
    have hg : (eqGuard op t x y (.bool m) (.bool n)).run P w = .ok () w := by
      unfold eqGuard; split <;> rfl
    simp only [Sem.run_bind, hg, Result.andThen_ok]
    split at hb
    · rename_i hud
      obtain rfl := Option.some.inj hb
      exact ⟨_, by simp only [binOp, Sem.run_bind, run_equal_bool hud]; rfl, .bool _⟩
    · rename_i hud
      obtain rfl := Option.some.inj hb
      exact ⟨_, by simp only [binOp, Sem.run_bind, run_equal_bool hud]; rfl, .bool _⟩
    · cases hb
  · cases hu
    cases hv
    rename_i m n
    have hg : (eqGuard op t x y (.string m) (.string n)).run P w = .ok () w := by
      unfold eqGuard; split <;> rfl
    simp only [Sem.run_bind, hg, Result.andThen_ok]
    split at hb
    · obtain rfl := Option.some.inj hb
      exact ⟨_, by simp [binOp, Op.stringOp], .bool _⟩
    · obtain rfl := Option.some.inj hb
      exact ⟨_, by simp [binOp, Op.stringOp], .bool _⟩
    · cases hb
  · cases hb
end
end Go.Proofs.Ytchajofdjeijfaa
