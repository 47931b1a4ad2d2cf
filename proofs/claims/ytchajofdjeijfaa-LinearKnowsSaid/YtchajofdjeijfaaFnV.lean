/- Contracts: sums, pruned: the rest. -/
import Derived.Test.YtchajofdjeijfaaFnU
namespace Go.Proofs.Ytchajofdjeijfaa
open Go Go.RowKit
set_option linter.unusedVariables false
set_option linter.unusedSimpArgs false
set_option maxRecDepth 8000

theorem mostGo_fine (low rhs : Int) : ∀ (l : List (Int × Int)) (d : Doms) (ch : Bool), (∀ p ∈ l, 0 ≤ p.1 ∧ p.1.toNat < d.length) → (∀ x ∈ d, Fine x) → (mostGo low rhs l d ch).1.length = d.length ∧ ∀ x ∈ (mostGo low rhs l d ch).1, Fine x
  | [], d, ch, _, hf => ⟨rfl, hf⟩
  | (v, k) :: l, d, ch, hv, hf => by
    rw [mostGo]
    split
    · exact ⟨rfl, hf⟩
    · have hx := hf _ (domAt_mem (hv _ (.head _)).2)
      obtain ⟨h1, h2⟩ := mostGo_fine low rhs l (d.set v.toNat (cutW (domAt d v) k (restW low rhs (domAt d v) k))) (ch || !decide (cutW (domAt d v) k (restW low rhs (domAt d v) k) = domAt d v)) (fun p hp => by rw [List.length_set]; exact hv p (.tail _ hp)) (mem_set hf (cutW_fine hx k _))
      exact ⟨by rw [h1, List.length_set], h2⟩
theorem SumFine.most {d : Doms} {vars coefs : List Int} (h : SumFine d vars coefs) (rhs : Int) : SumFine (mostW d vars coefs rhs).1 vars coefs := by
  obtain ⟨h1, h2⟩ := mostGo_fine (endsW d vars coefs).1 rhs (vars.zip coefs) d false (fun p hp => h.vin _ (List.of_mem_zip hp).1) h.dom
  have h1 : (mostW d vars coefs rhs).1.length = d.length := h1
  exact ⟨h.len, h.vl, fun v hv => by rw [h1]; exact h.vin v hv, h.ck, h2, by rw [h1]; exact h.dl⟩
theorem turned_ok {k : Int} (h : CoefOk k) : wr (0 - k) = -k ∧ CoefOk (wr (0 - k)) := by
  have := coef_int h
  have e : wr (0 - k) = -k := by rw [wr, wrap_id (by omega) (by omega)]; omega
  refine ⟨e, ?_⟩
  rw [e]
  unfold CoefOk absK at *
  omega
theorem SumFine.back {d : Doms} {vars coefs : List Int} (h : SumFine d vars coefs) : SumFine d vars (turnedW coefs) :=
  ⟨by simp [turnedW, h.len], h.vl, h.vin, fun k hk => by
    obtain ⟨k0, hk0, rfl⟩ := List.mem_map.1 hk
    exact (turned_ok (h.ck _ hk0)).2, h.dom, h.dl⟩

def stepL (c : Con) (out : Doms) : Option Doms ⊕ Doms :=
  if (mostW out c.vars c.coefs c.rhs).2.2 = false then .inl none else
  if c.op = 0 then .inl (some (mostW out c.vars c.coefs c.rhs).1) else
  if (mostW (mostW out c.vars c.coefs c.rhs).1 c.vars (turnedW c.coefs) (wr (0 - c.rhs))).2.2 = false then .inl none else
  if (mostW out c.vars c.coefs c.rhs).2.1 = false ∧ (mostW (mostW out c.vars c.coefs c.rhs).1 c.vars (turnedW c.coefs) (wr (0 - c.rhs))).2.1 = false then .inl (some (mostW (mostW out c.vars c.coefs c.rhs).1 c.vars (turnedW c.coefs) (wr (0 - c.rhs))).1)
  else .inr (mostW (mostW out c.vars c.coefs c.rhs).1 c.vars (turnedW c.coefs) (wr (0 - c.rhs))).1
/-- What the program's pruner answers. -/
def LinAns (d : Doms) (c : Con) (R : Option Doms) (N : Nat) : Prop :=
  if [] ∈ d then R = none else if c.op = 2 then R = (if (otherW d c).2 then some (otherW d c).1 else none) else iter (stepL c) N d = some R
theorem lprune_spec (d : Doms) (c : Con) (h : SumFine d c.vars c.coefs) (hsm : ∀ x ∈ d, x.length * 64 + 1048576 ≤ 140737488355328) (R : Option Doms) (N : Nat) (hR : LinAns d c R N) :
    Spec Try.prog 16 false [doms d, .agg (cC c)] (pruneRes R) := by
  refine Spec.body Try.func16 rfl rfl rfl fun w0 Z0 => ?_
  have hown := lown_spec d h.dl (fun x hx => by have := (h.dom x hx).len; omega)
  unfold LinAns at hR
  repeat' first | refine T.seq ?_ | refine T.block ?_ | refine T.r ?_ | refine J.e rfl rfl rfl rfl ?_ | refine J.nil ?_ | refine J.skip rfl rfl rfl ?_ | refine T.skip ?_ | refine T.exit ?_ | refine T.ret ?_ | refine T.rd rfl (by kernel_rfl) ?_ | refine J.bx rfl rfl rfl rfl rfl rfl ?_
  refine T.scope (fun _ _ h => h) ?_
  repeat' first | refine T.seq ?_ | refine T.block ?_ | refine T.r ?_ | refine J.e rfl rfl rfl rfl ?_ | refine J.nil ?_ | refine J.skip rfl rfl rfl ?_ | refine T.skip ?_ | refine T.exit ?_ | refine T.ret ?_ | refine T.rd rfl (by kernel_rfl) ?_ | refine J.bx rfl rfl rfl rfl rfl rfl ?_
  refine J.cc rfl rfl rfl rfl rfl hown rfl rfl ?_
  repeat' first | refine T.seq ?_ | refine T.block ?_ | refine T.r ?_ | refine J.e rfl rfl rfl rfl ?_ | refine J.nil ?_ | refine J.skip rfl rfl rfl ?_ | refine T.skip ?_ | refine T.exit ?_ | refine T.ret ?_ | refine T.rd rfl (by kernel_rfl) ?_ | refine J.bx rfl rfl rfl rfl rfl rfl ?_
  by_cases hm : [] ∈ d
  · rw [if_pos hm] at hR
    subst hR
    rw [if_pos hm, decide_eq_true hm]
    refine T.ct rfl ?_
    repeat' first | refine T.seq ?_ | refine T.block ?_ | refine T.r ?_ | refine J.e rfl rfl rfl rfl ?_ | refine J.nil ?_ | refine J.skip rfl rfl rfl ?_ | refine T.skip ?_ | refine T.exit ?_ | refine T.ret ?_ | refine T.rd rfl (by kernel_rfl) ?_ | refine J.bx rfl rfl rfl rfl rfl rfl ?_
    exact ⟨_, .ownN rfl (.v rfl rfl rfl (fun _ => rfl) .nil)⟩
  · rw [if_neg hm] at hR
    rw [if_neg hm, decide_eq_false hm]
    refine T.cf rfl ?_
    repeat' first | refine T.seq ?_ | refine T.block ?_ | refine T.r ?_ | refine J.e rfl rfl rfl rfl ?_ | refine J.nil ?_ | refine J.skip rfl rfl rfl ?_ | refine T.skip ?_ | refine T.exit ?_ | refine T.ret ?_ | refine T.rd rfl (by kernel_rfl) ?_ | refine J.bx rfl rfl rfl rfl rfl rfl ?_
    refine T.cd rfl (fun h1 => ?_) (fun h1 => ?_)
    · have h1 : c.op = 2 := h1
      rw [if_pos h1] at hR
      repeat' first | refine T.seq ?_ | refine T.block ?_ | refine T.r ?_ | refine J.e rfl rfl rfl rfl ?_ | refine J.nil ?_ | refine J.skip rfl rfl rfl ?_ | refine T.skip ?_ | refine T.exit ?_ | refine T.ret ?_ | refine T.rd rfl (by kernel_rfl) ?_ | refine J.bx rfl rfl rfl rfl rfl rfl ?_
      have ho := lother_spec d c h hsm
      generalize otherW d c = ow at *
      obtain ⟨d2, b⟩ := ow
      refine J.cm rfl rfl rfl rfl rfl rfl rfl rfl rfl ho rfl rfl rfl ?_
      repeat' first | refine T.seq ?_ | refine T.block ?_ | refine T.r ?_ | refine J.e rfl rfl rfl rfl ?_ | refine J.nil ?_ | refine J.skip rfl rfl rfl ?_ | refine T.skip ?_ | refine T.exit ?_ | refine T.ret ?_ | refine T.rd rfl (by kernel_rfl) ?_ | refine J.bx rfl rfl rfl rfl rfl rfl ?_
      cases b
      · subst hR
        refine T.ct rfl ?_
        repeat' first | refine T.seq ?_ | refine T.block ?_ | refine T.r ?_ | refine J.e rfl rfl rfl rfl ?_ | refine J.nil ?_ | refine J.skip rfl rfl rfl ?_ | refine T.skip ?_ | refine T.exit ?_ | refine T.ret ?_ | refine T.rd rfl (by kernel_rfl) ?_ | refine J.bx rfl rfl rfl rfl rfl rfl ?_
        exact ⟨_, .ownN rfl (.v rfl rfl rfl (fun _ => rfl) .nil)⟩
      · subst hR
        refine T.cf rfl ?_
        repeat' first | refine T.seq ?_ | refine T.block ?_ | refine T.r ?_ | refine J.e rfl rfl rfl rfl ?_ | refine J.nil ?_ | refine J.skip rfl rfl rfl ?_ | refine T.skip ?_ | refine T.exit ?_ | refine T.ret ?_ | refine T.rd rfl (by kernel_rfl) ?_ | refine J.bx rfl rfl rfl rfl rfl rfl ?_
        exact ⟨_, .o rfl rfl rfl (fun _ => .inl rfl) (by simp) (.v rfl rfl rfl (fun _ => rfl) .nil)⟩
    · have h1 : ¬ c.op = 2 := h1
      rw [if_neg h1] at hR
      repeat' first | refine T.seq ?_ | refine T.block ?_ | refine T.r ?_ | refine J.e rfl rfl rfl rfl ?_ | refine J.nil ?_ | refine J.skip rfl rfl rfl ?_ | refine T.skip ?_ | refine T.exit ?_ | refine T.ret ?_ | refine T.rd rfl (by kernel_rfl) ?_ | refine J.bx rfl rfl rfl rfl rfl rfl ?_
      refine J.cc rfl rfl rfl rfl rfl (lturned_spec c.coefs (by have := h.vl; have := h.len; omega)) rfl rfl ?_
      repeat' first | refine T.seq ?_ | refine T.block ?_ | refine T.r ?_ | refine J.e rfl rfl rfl rfl ?_ | refine J.nil ?_ | refine J.skip rfl rfl rfl ?_ | refine T.skip ?_ | refine T.exit ?_ | refine T.ret ?_ | refine T.rd rfl (by kernel_rfl) ?_ | refine J.bx rfl rfl rfl rfl rfl rfl ?_
      refine T.label ?_
      repeat' first | refine T.seq ?_ | refine T.block ?_ | refine T.r ?_ | refine J.e rfl rfl rfl rfl ?_ | refine J.nil ?_ | refine J.skip rfl rfl rfl ?_ | refine T.skip ?_ | refine T.exit ?_ | refine T.ret ?_ | refine T.rd rfl (by kernel_rfl) ?_ | refine J.bx rfl rfl rfl rfl rfl rfl ?_
      refine T.canon (keep := [3, 6, 8]) (os := [3, 6, 8]) rfl (T.ind (fun s : Nat × Doms => ⟨[(3, .optr 0 0 0 0), (6, .ref 1), (8, .ref 2)], [(0, some (.box false (cC c))), (1, some (.sl 38 1 true (s.2.map cD))), (2, some (.sl 3 1 true ((turnedW c.coefs).map cI)))], 3⟩)
        (fun s => iter (stepL c) s.1 s.2 = some R ∧ SumFine s.2 c.vars c.coefs) (fun s => s.1) (N, d) ⟨hR, h⟩ (fun _ _ h => h) ?_)
      rintro ⟨m, out⟩ ⟨hR, hs⟩ ih
      simp only at hR hs
      dsimp only
      have hm1 := lmost_spec out c.vars c.coefs c.rhs hs
      have hs1 := hs.most c.rhs
      have hm2 := lmost_spec (mostW out c.vars c.coefs c.rhs).1 c.vars (turnedW c.coefs) (wr (0 - c.rhs)) hs1.back
      have hs2 := hs1.back.most (wr (0 - c.rhs))
      have hs3 : SumFine (mostW (mostW out c.vars c.coefs c.rhs).1 c.vars (turnedW c.coefs) (wr (0 - c.rhs))).1 c.vars c.coefs := ⟨hs.len, hs2.vl, hs2.vin, hs.ck, hs2.dom, hs2.dl⟩
      have hst : stepL c out = stepL c out := rfl
      conv at hst => rhs; unfold stepL
      generalize mostW (mostW out c.vars c.coefs c.rhs).1 c.vars (turnedW c.coefs) (wr (0 - c.rhs)) = m2 at *
      generalize mostW out c.vars c.coefs c.rhs = m1 at *
      obtain ⟨d1, ch1, ok1⟩ := m1
      obtain ⟨d2, ch2, ok2⟩ := m2
      simp only at hm1 hm2 hst hs1 hs3
      repeat' first | refine T.seq ?_ | refine T.block ?_ | refine T.r ?_ | refine J.e rfl rfl rfl rfl ?_ | refine J.nil ?_ | refine J.skip rfl rfl rfl ?_ | refine T.skip ?_ | refine T.exit ?_ | refine T.ret ?_ | refine T.rd rfl (by kernel_rfl) ?_ | refine J.bx rfl rfl rfl rfl rfl rfl ?_
      refine J.cm rfl rfl rfl rfl rfl rfl rfl rfl rfl hm1 rfl rfl rfl ?_
      repeat' first | refine T.seq ?_ | refine T.block ?_ | refine T.r ?_ | refine J.e rfl rfl rfl rfl ?_ | refine J.nil ?_ | refine J.skip rfl rfl rfl ?_ | refine T.skip ?_ | refine T.exit ?_ | refine T.ret ?_ | refine T.rd rfl (by kernel_rfl) ?_ | refine J.bx rfl rfl rfl rfl rfl rfl ?_
      cases ok1
      · rw [if_pos rfl] at hst
        obtain rfl := iter_inl hR hst
        refine T.ct rfl ?_
        repeat' first | refine T.seq ?_ | refine T.block ?_ | refine T.r ?_ | refine J.e rfl rfl rfl rfl ?_ | refine J.nil ?_ | refine J.skip rfl rfl rfl ?_ | refine T.skip ?_ | refine T.exit ?_ | refine T.ret ?_ | refine T.rd rfl (by kernel_rfl) ?_ | refine J.bx rfl rfl rfl rfl rfl rfl ?_
        exact ⟨_, .ownN rfl (.v rfl rfl rfl (fun _ => rfl) .nil)⟩
      · rw [if_neg (by decide)] at hst
        refine T.cf rfl ?_
        repeat' first | refine T.seq ?_ | refine T.block ?_ | refine T.r ?_ | refine J.e rfl rfl rfl rfl ?_ | refine J.nil ?_ | refine J.skip rfl rfl rfl ?_ | refine T.skip ?_ | refine T.exit ?_ | refine T.ret ?_ | refine T.rd rfl (by kernel_rfl) ?_ | refine J.bx rfl rfl rfl rfl rfl rfl ?_
        refine T.cd rfl (fun h2 => ?_) (fun h2 => ?_)
        · have h2 : c.op = 0 := h2
          rw [if_pos h2] at hst
          obtain rfl := iter_inl hR hst
          repeat' first | refine T.seq ?_ | refine T.block ?_ | refine T.r ?_ | refine J.e rfl rfl rfl rfl ?_ | refine J.nil ?_ | refine J.skip rfl rfl rfl ?_ | refine T.skip ?_ | refine T.exit ?_ | refine T.ret ?_ | refine T.rd rfl (by kernel_rfl) ?_ | refine J.bx rfl rfl rfl rfl rfl rfl ?_
          exact ⟨_, .o rfl rfl rfl (fun _ => .inl rfl) (by simp) (.v rfl rfl rfl (fun _ => rfl) .nil)⟩
        · have h2 : ¬ c.op = 0 := h2
          rw [if_neg h2] at hst
          repeat' first | refine T.seq ?_ | refine T.block ?_ | refine T.r ?_ | refine J.e rfl rfl rfl rfl ?_ | refine J.nil ?_ | refine J.skip rfl rfl rfl ?_ | refine T.skip ?_ | refine T.exit ?_ | refine T.ret ?_ | refine T.rd rfl (by kernel_rfl) ?_ | refine J.bx rfl rfl rfl rfl rfl rfl ?_
          refine J.cm rfl rfl rfl rfl rfl rfl rfl rfl rfl hm2 rfl rfl rfl ?_
          repeat' first | refine T.seq ?_ | refine T.block ?_ | refine T.r ?_ | refine J.e rfl rfl rfl rfl ?_ | refine J.nil ?_ | refine J.skip rfl rfl rfl ?_ | refine T.skip ?_ | refine T.exit ?_ | refine T.ret ?_ | refine T.rd rfl (by kernel_rfl) ?_ | refine J.bx rfl rfl rfl rfl rfl rfl ?_
          cases ok2
          · rw [if_pos rfl] at hst
            obtain rfl := iter_inl hR hst
            refine T.ct rfl ?_
            repeat' first | refine T.seq ?_ | refine T.block ?_ | refine T.r ?_ | refine J.e rfl rfl rfl rfl ?_ | refine J.nil ?_ | refine J.skip rfl rfl rfl ?_ | refine T.skip ?_ | refine T.exit ?_ | refine T.ret ?_ | refine T.rd rfl (by kernel_rfl) ?_ | refine J.bx rfl rfl rfl rfl rfl rfl ?_
            exact ⟨_, .ownN rfl (.v rfl rfl rfl (fun _ => rfl) .nil)⟩
          · rw [if_neg (by decide)] at hst
            refine T.cf rfl ?_
            repeat' first | refine T.seq ?_ | refine T.block ?_ | refine T.r ?_ | refine J.e rfl rfl rfl rfl ?_ | refine J.nil ?_ | refine J.skip rfl rfl rfl ?_ | refine T.skip ?_ | refine T.exit ?_ | refine T.ret ?_ | refine T.rd rfl (by kernel_rfl) ?_ | refine J.bx rfl rfl rfl rfl rfl rfl ?_
            cases ch1
            · cases ch2
              · rw [if_pos ⟨rfl, rfl⟩] at hst
                obtain rfl := iter_inl hR hst
                repeat' first | refine T.seq ?_ | refine T.block ?_ | refine T.r ?_ | refine J.e rfl rfl rfl rfl ?_ | refine J.nil ?_ | refine J.skip rfl rfl rfl ?_ | refine T.skip ?_ | refine T.exit ?_ | refine T.ret ?_ | refine T.rd rfl (by kernel_rfl) ?_ | refine J.bx rfl rfl rfl rfl rfl rfl ?_
                refine T.ct rfl ?_
                repeat' first | refine T.seq ?_ | refine T.block ?_ | refine T.r ?_ | refine J.e rfl rfl rfl rfl ?_ | refine J.nil ?_ | refine J.skip rfl rfl rfl ?_ | refine T.skip ?_ | refine T.exit ?_ | refine T.ret ?_ | refine T.rd rfl (by kernel_rfl) ?_ | refine J.bx rfl rfl rfl rfl rfl rfl ?_
                exact ⟨_, .o rfl rfl rfl (fun _ => .inl rfl) (by simp) (.v rfl rfl rfl (fun _ => rfl) .nil)⟩
              · rw [if_neg (by simp)] at hst
                obtain ⟨m', hlt, hR'⟩ := iter_inr hR hst
                repeat' first | refine T.seq ?_ | refine T.block ?_ | refine T.r ?_ | refine J.e rfl rfl rfl rfl ?_ | refine J.nil ?_ | refine J.skip rfl rfl rfl ?_ | refine T.skip ?_ | refine T.exit ?_ | refine T.ret ?_ | refine T.rd rfl (by kernel_rfl) ?_ | refine J.bx rfl rfl rfl rfl rfl rfl ?_
                refine T.cf rfl ?_
                repeat' first | refine T.seq ?_ | refine T.block ?_ | refine T.r ?_ | refine J.e rfl rfl rfl rfl ?_ | refine J.nil ?_ | refine J.skip rfl rfl rfl ?_ | refine T.skip ?_ | refine T.exit ?_ | refine T.ret ?_ | refine T.rd rfl (by kernel_rfl) ?_ | refine J.bx rfl rfl rfl rfl rfl rfl ?_
                exact T.canon (keep := [3, 6, 8]) (os := [3, 6, 8]) rfl (ih (m', d2) ⟨hR', hs3⟩ hlt)
            · rw [if_neg (by simp)] at hst
              obtain ⟨m', hlt, hR'⟩ := iter_inr hR hst
              repeat' first | refine T.seq ?_ | refine T.block ?_ | refine T.r ?_ | refine J.e rfl rfl rfl rfl ?_ | refine J.nil ?_ | refine J.skip rfl rfl rfl ?_ | refine T.skip ?_ | refine T.exit ?_ | refine T.ret ?_ | refine T.rd rfl (by kernel_rfl) ?_ | refine J.bx rfl rfl rfl rfl rfl rfl ?_
              refine T.cf rfl ?_
              repeat' first | refine T.seq ?_ | refine T.block ?_ | refine T.r ?_ | refine J.e rfl rfl rfl rfl ?_ | refine J.nil ?_ | refine J.skip rfl rfl rfl ?_ | refine T.skip ?_ | refine T.exit ?_ | refine T.ret ?_ | refine T.rd rfl (by kernel_rfl) ?_ | refine J.bx rfl rfl rfl rfl rfl rfl ?_
              exact T.canon (keep := [3, 6, 8]) (os := [3, 6, 8]) rfl (ih (m', d2) ⟨hR', hs3⟩ hlt)
end Go.Proofs.Ytchajofdjeijfaa
