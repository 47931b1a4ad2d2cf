/- The entry of the statements of order: a case, as it is handed in. -/
import Derived.Test.YtchajofdjeijfaaPuB
import Derived.Test.YtchajofdjeijfaaCoreQ
namespace Go.Proofs.Ytchajofdjeijfaa
open Go Go.RowKit
set_option linter.unusedVariables false
set_option maxRecDepth 100000

section
variable {H : Type} {henc : TypeId × Value → H} {w : World}
theorem opens_I : Opens henc Try.prog w 3 cI (fun n => -9223372036854775808 ≤ n ∧ n ≤ 9223372036854775807) := opens_int (by kernel_rfl)
theorem opens_IL : Opens henc Try.prog w 23 (fun l => [ints l]) (fun l => l.length * 8 ≤ reachBytes) :=
  (opens_slice (t := 23) (e := 3) (by kernel_rfl) opens_I (fun _ => by kernel_rfl) (by decide +kernel) (fun a p hp => by simp [cI] at hp; subst hp; rfl)).map id (fun _ => rfl) fun l h => h.1
theorem opens_LL : Opens henc Try.prog w 22 (fun l => [lists l]) (fun l => l.length * 24 ≤ reachBytes ∧ ∀ x ∈ l, x.length * 8 ≤ reachBytes) :=
  (opens_slice (t := 22) (e := 23) (by kernel_rfl) opens_IL (fun _ => by kernel_rfl) (by decide +kernel) (fun a p hp => by simp at hp; subst hp; rfl)).map id (fun _ => rfl) fun l h => h
theorem opens_con : Opens henc Try.prog w 25 cC ConB := by
  have h := opens_struct (henc := henc) (w := w) Try.underlying25 (opensL_cons opens_I rfl (opensL_cons opens_IL (by kernel_rfl) (opensL_cons opens_IL (by kernel_rfl) (opensL_cons opens_I (by kernel_rfl) (opensL_cons opens_I (by kernel_rfl) (opensL_cons opens_LL (by kernel_rfl) (opensL_cons opens_I (by kernel_rfl) (opensL_nil _)))))))) (by kernel_rfl)
  refine h.map (fun x => (⟨x.1, x.2.1, x.2.2.1, x.2.2.2.1, x.2.2.2.2.1, x.2.2.2.2.2.1, x.2.2.2.2.2.2.1⟩ : Con)) (fun _ => rfl) fun x h => ?_
  obtain ⟨_, h1, h2, _, _, h3, _⟩ := h
  have e : reachBytes = 140737488351232 := rfl
  rw [e] at h1 h2 h3
  exact ⟨by simp only; omega, by simp only; omega, by simp only; omega, fun y hy => by have := h3.2 y hy; omega⟩
theorem opens_case2 : Opens henc Try.prog w 53 cCase (fun o => CaseB o ∧ o.a.length * 8 ≤ 140737488355328 ∧ o.take.length * 8 ≤ 140737488355328) := by
  have h := opens_struct (henc := henc) (w := w) Try.underlying53 (opensL_cons opens_LL rfl (opensL_cons opens_con (by kernel_rfl) (opensL_cons opens_IL (by kernel_rfl) (opensL_cons opens_IL (by kernel_rfl) (opensL_nil _))))) (by kernel_rfl)
  refine h.map (fun x => (⟨x.1, x.2.1, x.2.2.1, x.2.2.2.1⟩ : Case)) (fun _ => by simp [cCase]) fun x h => ?_
  obtain ⟨h1, h2, h3, h4, _⟩ := h
  have e : reachBytes = 140737488351232 := rfl
  rw [e] at h1 h3 h4
  exact ⟨⟨h2, by simp only; omega, fun y hy => by have := h1.2 y hy; omega⟩, by simp only; omega, by simp only; omega⟩
theorem opens_sum : Opens henc Try.prog w 27 cCase (fun o => CaseB o ∧ o.a.length * 8 ≤ 140737488355328 ∧ o.take.length * 8 ≤ 140737488355328) := by
  have h := opens_struct (henc := henc) (w := w) Try.underlying27 (opensL_cons opens_LL rfl (opensL_cons opens_con (by kernel_rfl) (opensL_cons opens_IL (by kernel_rfl) (opensL_cons opens_IL (by kernel_rfl) (opensL_nil _))))) (by kernel_rfl)
  refine h.map (fun x => (⟨x.1, x.2.1, x.2.2.1, x.2.2.2.1⟩ : Case)) (fun _ => by simp [cCase]) fun x h => ?_
  obtain ⟨h1, h2, h3, h4, _⟩ := h
  have e : reachBytes = 140737488351232 := rfl
  rw [e] at h1 h3 h4
  exact ⟨⟨h2, by simp only; omega, fun y hy => by have := h1.2 y hy; omega⟩, by simp only; omega, by simp only; omega⟩
theorem opens_case : Opens henc Try.prog w 53 cCase CaseB := opens_case2.map id (fun _ => rfl) fun _ h => h.1
theorem case_one (o : Case) : ∀ p ∈ cCase o, p.one = true := by
  intro p hp
  simp [cCase, cC] at hp
  rcases hp with rfl | rfl | rfl | rfl | rfl | rfl | rfl | rfl | rfl | rfl <;> rfl
end
end Go.Proofs.Ytchajofdjeijfaa
