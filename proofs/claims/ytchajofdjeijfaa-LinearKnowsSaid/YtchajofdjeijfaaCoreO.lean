/- More rules: a slice held against nil; contracts that freeze. -/
import Derived.Test.YtchajofdjeijfaaCoreN
namespace Go.Proofs.Ytchajofdjeijfaa
open Go Go.RowKit
set_option linter.unusedVariables false
set_option linter.unusedSimpArgs false

theorem run_equal_slice {P : Program} {t e : TypeId} (hu : P.underlying t = some (.slice e)) (b : Option Addr) (n c : Nat) (w : World) : (Op.equal t (.slice b n c) (.slice none 0 0)).run P w = .ok b.isNone w := by
  have key : ∀ d, (Op.equalIn (d + 1) t (.slice b n c) (.slice none 0 0)).run P w = .ok b.isNone w := by
    intro d
    rw [Op.equalIn]
    simp only [Sem.run_bind, run_underlying hu, Result.andThen_ok]
    cases b <;> rfl
  exact key 9999

section
variable {K : Ctx} {ops : Array Oper} {dr : Bool} {o : Oper} {rest : List Oper} {sl : List (Nat × SV)} {ow : List (Nat × Option Own)} {nx : Nat} {R : St → Prop} {E E' : St} {d : Nat} {sv : SV}

/-- A slice held against nil: if it is, it has nothing. -/
theorem J.nc {t yt e : TypeId} {x : Operand} {sx : SV} {fr : Bool} {rows : List (List PV)} (ho : o.op = .binOp .eql t x (.const (.slice none 0 0)) yt) (hg : wants ops (St.mk sl ow nx).f o = some true) (hd : o.dst = some d) (hlt : K.can d = true)
    (hx : (St.mk sl ow nx).f.get x = some sx) (hr : sx.ff = some (fr, .sl rows)) (hu : K.P.underlying t = some (.slice e)) (q : ∀ b : Bool, (b = true → rows = []) → J K ops false rest ⟨(d, .val true (.bool b)) :: sl, ow, nx⟩ R) : J K ops false (o :: rest) ⟨sl, ow, nx⟩ R := by
  refine ⟨⟨fun a w Q hrel hk => ?_⟩⟩
  obtain ⟨φ, hφ⟩ := hrel
  have hrep := ff_sound hφ hx hr
  generalize hv : a.eval x = v at hrep
  obtain ⟨b, n, c, hvs, hb⟩ : ∃ b n c, v = .slice b n c ∧ (b.isNone = true → rows = []) := by
    cases hrep with
    | nilsl => exact ⟨none, 0, 0, rfl, fun _ => rfl⟩
    | slE => exact ⟨_, _, _, rfl, fun h => by cases h⟩
    | sl b off cap sz rows xs _ _ _ _ _ _ _ _ => exact ⟨_, _, _, rfl, fun h => by cases h⟩
  have hrun : (execOp a.eval o).run K.P w = .ok (.value (.bool b.isNone)) w := by
    have hg : (eqGuard .eql t x (.const (.slice none 0 0)) (.slice b n c) (.slice none 0 0)).run K.P w = .ok () w := by
      unfold eqGuard; split <;> rfl
    have he : a.eval (.const (.slice none 0 0)) = .slice none 0 0 := rfl
    simp only [execOp, ho, hv, he, hvs, Sem.run_bind, hg, Result.andThen_ok]
    simp only [binOp, Sem.run_bind, run_equal_slice hu, Result.andThen_ok, Sem.run_pure]
  unfold wpList
  rw [if_pos (wants_sound hφ hg)]
  refine .inl ?_
  unfold Oper.wp
  rw [hrun]
  refine (q b.isNone hb).out.out _ w Q ⟨φ, ?_⟩ hk
  rw [hd]
  exact hφ.put hlt (sv := .val true (.bool b.isNone)) (Rep.bool _) trivial rfl slot_put
end

theorem OwnRel.frz {w : World} {Z : Nat → Prop} {v : Value} {e : TypeId} {sz : Nat} {rows : List (List PV)} (h : OwnRel w (fun _ => Z) v (.sl e sz true rows)) (hz : ∀ g, vblock v = some g → Z g) : Rep w Z v (.sl rows) := by
  obtain ⟨xs, hwn, hl, h1, h2⟩ := h
  have hcell := fun g hg => hwn.cells (g := g) hg
  have hlt := hwn.lt
  rcases hwn.2 with ⟨rfl, hn⟩ | ⟨g, cap, cur, rfl, _, hgc, hnc, hcm, _⟩
  · have : rows = [] := List.eq_nil_of_length_eq_zero hn
    subst this
    exact .nilsl
  · refine .sl g 0 cap sz rows xs (hz g rfl) (hlt g rfl).2 h1 h2 (fun j v hj => ?_) hnc hcm hl
    have := hcell g rfl j v hj
    rw [add_addr] at this
    exact soft_row hgc this

/-- What is owned may be handed out frozen. -/
def RV.frz : RV → RV
  | .own _ _ rows => .val (.sl rows)
  | r => r

theorem vals_frz : ∀ (res : List RV) (vs : List Value), RV.vals (res.map RV.frz) vs = []
  | [], vs => by cases vs <;> rfl
  | r :: res, [] => by cases r <;> rfl
  | r :: res, v :: vs => by cases r <;> exact vals_frz res vs

theorem each_frz {w : World} {Z1 Z2 : Nat → Prop} (hsub : ∀ b, Z1 b → Z2 b) {rs : List Value} {res : List RV} (h : L2 (RV1 w Z1) rs res) (hf : ∀ v g, v ∈ RV.vals res rs → vblock v = some g → Z2 g) : L2 (RV1 w Z2) rs (res.map RV.frz) := by
  induction h with
  | nil => exact .nil
  | @cons v r vs rs h1 _ ih =>
    cases r with
    | val p => exact .cons (Rep.mono (fun b hb _ => ⟨hsub b hb, rfl⟩) h1) (ih fun v g hv => hf v g hv)
    | own e sz rows =>
      refine .cons ?_ (ih fun v g hv => hf v g (.tail _ hv))
      have h2 : OwnRel w (fun _ => Z1) v (.sl e sz true rows) := h1
      have h3 : OwnRel w (fun _ => Z2) v (.sl e sz true rows) := h2.mono (fun _ _ => rfl) fun _ b hb _ => ⟨hsub b hb, rfl⟩
      exact h3.frz fun g hg => hf v g (.head _) hg

theorem Spec.frz {P : Program} {f : FuncId} {al : Bool} {args : List PV} {res : List RV} (h : Spec P f al args res) : Spec P f al args (res.map RV.frz) := by
  refine ⟨h.isFn, fun w Z vs hvs => (h.out w Z vs hvs).mono fun e w' ⟨rs, he, hb, hret⟩ => ⟨rs, he, hb, ?_⟩⟩
  have hno := vals_frz res
  refine ⟨?_, (fun v g hv => by rw [hno] at hv; cases hv), (fun i j v v' g hi => by rw [hno] at hi; simp at hi)⟩
  refine each_frz (fun b hb => ⟨hb.1, fun v hv => ?_⟩) hret.each fun v g hv hg => ⟨.inr (hret.fresh v g hv hg), fun v hv => ?_⟩
  · rw [hno] at hv; cases hv
  · rw [hno] at hv; cases hv
end Go.Proofs.Ytchajofdjeijfaa
