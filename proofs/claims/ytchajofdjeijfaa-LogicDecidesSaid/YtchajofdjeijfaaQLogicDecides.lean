/- The statement LogicDecides: the law, and its row. -/
import Derived.Test.YtchajofdjeijfaaB10
import Derived.Test.YtchajofdjeijfaaRows
import Derived.WalkKit
import Derived.ProofKit
import Derived.OpenShut
import Derived.ShutString
import Derived.ChangeOld
import Derived.Below
import Derived.SizedLaws
/-! The statement LogicDecides: what its function answers. -/
namespace Go.Proofs.Ytchajofdjeijfaa
open Go Go.RowKit
set_option linter.unusedVariables false
set_option maxRecDepth 8000

def truthCase (o : Case) : Case := { o with d := truthsL o.d }
theorem truthCase_B {o : Case} (h : CaseB o) : CaseB (truthCase o) := by
  refine ⟨h.1, by have := h.2.1; simp [truthCase, truthsL]; omega, fun x hx => ?_⟩
  obtain ⟨y, hy, rfl⟩ := List.mem_map.1 hx
  have := h.2.2 y (List.mem_of_mem_take hy)
  simpa using this
theorem laid_small (o : Case) : ∀ x ∈ laidD o, x.length * 64 + 1048576 ≤ 140737488355328 := by
  intro x hx
  obtain ⟨y, _, rfl⟩ := List.mem_map.1 hx
  have := smallR_length (y.take 6)
  omega
theorem law_logdec (o p : Case) (ho : CaseB o) (hp : CaseB p) (hoa : o.a.length * 8 ≤ 140737488355328) (hpa : p.a.length * 8 ≤ 140737488355328) : Spec Try.prog 9 true [.agg (cCase o), .agg (cCase p)] [.val (.bool true)] := by
  refine Spec.body Try.func9 rfl rfl rfl fun w0 Z0 => ?_
  have ho1 := oneCase_B ho
  have hp1 := truthCase_B hp
  have hp2 := oneCase_B hp1
  repeat' first | refine T.seq ?_ | refine T.block ?_ | refine T.r ?_ | refine J.e rfl rfl rfl rfl ?_ | refine J.nil ?_ | refine J.skip rfl rfl rfl ?_ | refine T.skip ?_ | refine T.exit ?_ | refine T.ret ?_ | refine T.rd rfl (by kernel_rfl) ?_ | refine J.bx rfl rfl rfl rfl rfl rfl ?_
  refine J.cc rfl rfl rfl rfl rfl (one_spec o ho) rfl rfl ?_
  refine J.cc rfl rfl rfl rfl rfl (laid_spec (oneCase o) 4 ho1) rfl rfl ?_
  repeat' first | refine J.e rfl rfl rfl rfl ?_ | refine J.skip rfl rfl rfl ?_ | refine J.bx rfl rfl rfl rfl rfl rfl ?_
  refine J.al rfl rfl rfl rfl rfl rfl rfl ?_
  repeat' first | refine J.e rfl rfl rfl rfl ?_ | refine J.skip rfl rfl rfl ?_ | refine J.bx rfl rfl rfl rfl rfl rfl ?_
  refine J.w rfl rfl rfl rfl rfl rfl rfl rfl rfl rfl ?_
  repeat' first | refine J.e rfl rfl rfl rfl ?_ | refine J.skip rfl rfl rfl ?_ | refine J.bx rfl rfl rfl rfl rfl rfl ?_
  refine J.nil ?_
  refine T.mid ⟨[(3, .optr 0 0 0 0)], [(0, some (.box false (cCase p)))], 1⟩ ?_ ?_
  · have hcb := laid_conB ho1 4
    have hf := laid_fine (oneCase o)
    have hlen := laid_len (oneCase o)
    have hin := fun h => reif_in (d := laidD (oneCase o)) (c := laidC (oneCase o) 4) hcb h rfl hf (by omega)
    have hbig := fun h => (big_no (con_big (d := laidD (oneCase o)) (c := laidC (oneCase o) 4) h)).2
    have hok : laidOK (oneCase o) 4 = decide (conR (laidD (oneCase o)) (laidC (oneCase o) 4) = 0) := rfl
    have hsmall := laid_small (oneCase o)
    have hfew := oneCase_few (o := o)
    have hkd : (laidC (oneCase o) 4).kind = 4 := rfl
    generalize laidD (oneCase o) = d at *
    generalize laidC (oneCase o) 4 = c at *
    generalize laidOK (oneCase o) 4 = ok at *
    repeat' first | refine T.seq ?_ | refine T.block ?_ | refine T.r ?_ | refine J.e rfl rfl rfl rfl ?_ | refine J.nil ?_ | refine J.skip rfl rfl rfl ?_ | refine T.skip ?_ | refine T.exit ?_ | refine T.ret ?_ | refine J.bx rfl rfl rfl rfl rfl rfl ?_
    cases ok
    · refine T.cf rfl ?_
      repeat' first | refine T.seq ?_ | refine T.block ?_ | refine T.r ?_ | refine J.e rfl rfl rfl rfl ?_ | refine J.nil ?_ | refine J.skip rfl rfl rfl ?_ | refine T.skip ?_ | refine T.exit ?_ | refine T.ret ?_ | refine T.rd rfl (by kernel_rfl) ?_ | refine J.bx rfl rfl rfl rfl rfl rfl ?_
      exact ⟨rfl, [3], [3], rfl, rfl⟩
    · refine T.ct rfl ?_
      have h0 : conR d c = 0 := by simpa using hok.symm
      have hro := hin h0
      have hbg := hbig h0
      have hpk := lpick_spec d o.a (fun x hx => (hf x hx).domB) (by omega) hoa
      cases hev : emptyV d
      · have hne : [] ∉ d := fun h => by rw [(emptyV_iff hf).2 h] at hev; cases hev
        have hs := pick_sings o.a hf hfew hev
        have hho := holds_spec c (pickL d o.a) hcb (by simp [pickL]; omega) (fun h => by omega) (fun h => by omega)
        have hst := fun RS RN => reif_sings (u := pickL d o.a) (c := c) (by rw [← hs]; exact hro) hbg RS RN
        have hy := so_sings (u := pickL d o.a) (c := sumOf c) (by rw [← hs]; exact hro.sum)
        have hn := so_sings (u := pickL d o.a) (c := notW (sumOf c)) (by rw [← hs]; exact hro.sumN)
        have hnot := holds_not (u := pickL d o.a) (c := sumOf c) (by rw [← hs]; exact hro.sum) hbg
        rw [← hs] at hst hy hn
        have hkn : yesW d c = false → noW d c = false → False := by
          intro h1 h2
          have h1 : holds0 (sumOf c) (pickL d o.a) = false := hy ▸ h1
          have h2 : holds0 (notW (sumOf c)) (pickL d o.a) = false := hn ▸ h2
          rw [hnot, h1] at h2
          cases h2
        have hsr := sames_spec d d (by omega) (fun x hx => by have := (hf x hx).len; omega)
        rw [decide_eq_true rfl] at hsr
        have hre := (lreif_spec d c hro.sum.fine.in_ hro.con hro.b (fun x hx => by have := hsmall x hx; omega) none none (fun _ h1 h2 => (hkn h1 h2).elim) (fun _ h1 h2 => (hkn h1 h2).elim)).frz
        rw [hst none none] at hre
        have hhe : holdsR c (pickL d o.a) = ((soR c (pickL d o.a) && decide (atR (pickL d o.a) c.b = 1)) || (!soR c (pickL d o.a) && decide (atR (pickL d o.a) c.b = 0))) := by
          unfold holdsR
          rw [if_neg (by omega), if_neg (by omega), if_neg (by omega), if_neg (by omega), if_pos hkd]
        rw [← hhe] at hre
        rw [hev] at hpk
        generalize holdsR c (pickL d o.a) = hb at *
        cases hb
        · have hre : Spec Try.prog 36 false [doms d, .agg (cC c)] [.val (doms []), .val (.bool false)] := hre
          repeat' first | refine T.seq ?_ | refine T.block ?_ | refine T.r ?_ | refine J.e rfl rfl rfl rfl ?_ | refine J.nil ?_ | refine J.skip rfl rfl rfl ?_ | refine T.skip ?_ | refine T.exit ?_ | refine T.ret ?_ | refine T.rd rfl (by kernel_rfl) ?_ | refine J.bx rfl rfl rfl rfl rfl rfl ?_
          refine J.cc rfl rfl rfl rfl rfl hpk rfl rfl ?_
          repeat' first | refine T.seq ?_ | refine T.block ?_ | refine T.r ?_ | refine J.e rfl rfl rfl rfl ?_ | refine J.nil ?_ | refine J.skip rfl rfl rfl ?_ | refine T.skip ?_ | refine T.exit ?_ | refine T.ret ?_ | refine T.rd rfl (by kernel_rfl) ?_ | refine J.bx rfl rfl rfl rfl rfl rfl ?_
          refine J.cc rfl rfl rfl rfl rfl hre rfl rfl ?_
          repeat' first | refine T.seq ?_ | refine T.block ?_ | refine T.r ?_ | refine J.e rfl rfl rfl rfl ?_ | refine J.nil ?_ | refine J.skip rfl rfl rfl ?_ | refine T.skip ?_ | refine T.exit ?_ | refine T.ret ?_ | refine T.rd rfl (by kernel_rfl) ?_ | refine J.bx rfl rfl rfl rfl rfl rfl ?_
          refine J.cc rfl rfl rfl rfl rfl hho rfl rfl ?_
          repeat' first | refine T.seq ?_ | refine T.block ?_ | refine T.r ?_ | refine J.e rfl rfl rfl rfl ?_ | refine J.nil ?_ | refine J.skip rfl rfl rfl ?_ | refine T.skip ?_ | refine T.exit ?_ | refine T.ret ?_ | refine T.rd rfl (by kernel_rfl) ?_ | refine J.bx rfl rfl rfl rfl rfl rfl ?_
          refine T.cf rfl ?_
          repeat' first | refine T.seq ?_ | refine T.block ?_ | refine T.r ?_ | refine J.e rfl rfl rfl rfl ?_ | refine J.nil ?_ | refine J.skip rfl rfl rfl ?_ | refine T.skip ?_ | refine T.exit ?_ | refine T.ret ?_ | refine T.rd rfl (by kernel_rfl) ?_ | refine J.bx rfl rfl rfl rfl rfl rfl ?_
          exact ⟨rfl, [3], [3], rfl, rfl⟩
        · have hre : Spec Try.prog 36 false [doms d, .agg (cC c)] [.val (doms d), .val (.bool true)] := hre
          repeat' first | refine T.seq ?_ | refine T.block ?_ | refine T.r ?_ | refine J.e rfl rfl rfl rfl ?_ | refine J.nil ?_ | refine J.skip rfl rfl rfl ?_ | refine T.skip ?_ | refine T.exit ?_ | refine T.ret ?_ | refine T.rd rfl (by kernel_rfl) ?_ | refine J.bx rfl rfl rfl rfl rfl rfl ?_
          refine J.cc rfl rfl rfl rfl rfl hpk rfl rfl ?_
          repeat' first | refine T.seq ?_ | refine T.block ?_ | refine T.r ?_ | refine J.e rfl rfl rfl rfl ?_ | refine J.nil ?_ | refine J.skip rfl rfl rfl ?_ | refine T.skip ?_ | refine T.exit ?_ | refine T.ret ?_ | refine T.rd rfl (by kernel_rfl) ?_ | refine J.bx rfl rfl rfl rfl rfl rfl ?_
          refine J.cc rfl rfl rfl rfl rfl hre rfl rfl ?_
          repeat' first | refine T.seq ?_ | refine T.block ?_ | refine T.r ?_ | refine J.e rfl rfl rfl rfl ?_ | refine J.nil ?_ | refine J.skip rfl rfl rfl ?_ | refine T.skip ?_ | refine T.exit ?_ | refine T.ret ?_ | refine T.rd rfl (by kernel_rfl) ?_ | refine J.bx rfl rfl rfl rfl rfl rfl ?_
          refine J.cc rfl rfl rfl rfl rfl hho rfl rfl ?_
          repeat' first | refine T.seq ?_ | refine T.block ?_ | refine T.r ?_ | refine J.e rfl rfl rfl rfl ?_ | refine J.nil ?_ | refine J.skip rfl rfl rfl ?_ | refine T.skip ?_ | refine T.exit ?_ | refine T.ret ?_ | refine T.rd rfl (by kernel_rfl) ?_ | refine J.bx rfl rfl rfl rfl rfl rfl ?_
          refine J.cc rfl rfl rfl rfl rfl hsr rfl rfl ?_
          repeat' first | refine T.seq ?_ | refine T.block ?_ | refine T.r ?_ | refine J.e rfl rfl rfl rfl ?_ | refine J.nil ?_ | refine J.skip rfl rfl rfl ?_ | refine T.skip ?_ | refine T.exit ?_ | refine T.ret ?_ | refine T.rd rfl (by kernel_rfl) ?_ | refine J.bx rfl rfl rfl rfl rfl rfl ?_
          refine T.cf rfl ?_
          repeat' first | refine T.seq ?_ | refine T.block ?_ | refine T.r ?_ | refine J.e rfl rfl rfl rfl ?_ | refine J.nil ?_ | refine J.skip rfl rfl rfl ?_ | refine T.skip ?_ | refine T.exit ?_ | refine T.ret ?_ | refine T.rd rfl (by kernel_rfl) ?_ | refine J.bx rfl rfl rfl rfl rfl rfl ?_
          exact ⟨rfl, [3], [3], rfl, rfl⟩
      · have hne : [] ∈ d := (emptyV_iff hf).1 hev
        have hre := (lreif_spec d c hro.sum.fine.in_ hro.con hro.b (fun x hx => by have := hsmall x hx; omega) none none (fun h => (h hne).elim) (fun h => (h hne).elim)).frz
        have e : reifW d c none none = none := by unfold reifW; rw [if_pos hne]
        rw [e] at hre
        have hre : Spec Try.prog 36 false [doms d, .agg (cC c)] [.val (doms []), .val (.bool false)] := hre
        rw [hev] at hpk
        repeat' first | refine T.seq ?_ | refine T.block ?_ | refine T.r ?_ | refine J.e rfl rfl rfl rfl ?_ | refine J.nil ?_ | refine J.skip rfl rfl rfl ?_ | refine T.skip ?_ | refine T.exit ?_ | refine T.ret ?_ | refine T.rd rfl (by kernel_rfl) ?_ | refine J.bx rfl rfl rfl rfl rfl rfl ?_
        refine J.cc rfl rfl rfl rfl rfl hpk rfl rfl ?_
        repeat' first | refine T.seq ?_ | refine T.block ?_ | refine T.r ?_ | refine J.e rfl rfl rfl rfl ?_ | refine J.nil ?_ | refine J.skip rfl rfl rfl ?_ | refine T.skip ?_ | refine T.exit ?_ | refine T.ret ?_ | refine T.rd rfl (by kernel_rfl) ?_ | refine J.bx rfl rfl rfl rfl rfl rfl ?_
        refine J.cc rfl rfl rfl rfl rfl hre rfl rfl ?_
        repeat' first | refine T.seq ?_ | refine T.block ?_ | refine T.r ?_ | refine J.e rfl rfl rfl rfl ?_ | refine J.nil ?_ | refine J.skip rfl rfl rfl ?_ | refine T.skip ?_ | refine T.exit ?_ | refine T.ret ?_ | refine T.rd rfl (by kernel_rfl) ?_ | refine J.bx rfl rfl rfl rfl rfl rfl ?_
        refine T.cf rfl ?_
        repeat' first | refine T.seq ?_ | refine T.block ?_ | refine T.r ?_ | refine J.e rfl rfl rfl rfl ?_ | refine J.nil ?_ | refine J.skip rfl rfl rfl ?_ | refine T.skip ?_ | refine T.exit ?_ | refine T.ret ?_ | refine T.rd rfl (by kernel_rfl) ?_ | refine J.bx rfl rfl rfl rfl rfl rfl ?_
        exact ⟨rfl, [3], [3], rfl, rfl⟩
  · have hlaid := laid_spec (oneCase (truthCase p)) 5 hp2
    have hone := one_spec (truthCase p) hp1
    have htr := (truths_spec p.d hp.2.1 hp.2.2).frz
    have hcb := laid_conB hp2 5
    have hf := laid_fine (oneCase (truthCase p))
    have hlen := laid_len (oneCase (truthCase p))
    have hin := fun h => clause_in (d := laidD (oneCase (truthCase p))) (c := laidC (oneCase (truthCase p)) 5) hcb h rfl
    have hok : laidOK (oneCase (truthCase p)) 5 = decide (conR (laidD (oneCase (truthCase p))) (laidC (oneCase (truthCase p)) 5) = 0) := rfl
    have hsmall := laid_small (oneCase (truthCase p))
    have hfew := oneCase_few (o := truthCase p)
    have hkd : (laidC (oneCase (truthCase p)) 5).kind = 5 := rfl
    generalize laidD (oneCase (truthCase p)) = d at *
    generalize laidC (oneCase (truthCase p)) 5 = c at *
    generalize laidOK (oneCase (truthCase p)) 5 = ok at *
    repeat' first | refine T.seq ?_ | refine T.block ?_ | refine T.r ?_ | refine J.e rfl rfl rfl rfl ?_ | refine J.nil ?_ | refine J.skip rfl rfl rfl ?_ | refine T.skip ?_ | refine T.exit ?_ | refine T.ret ?_ | refine T.rd rfl (by kernel_rfl) ?_ | refine J.bx rfl rfl rfl rfl rfl rfl ?_
    refine J.cc rfl rfl rfl rfl rfl htr rfl rfl ?_
    repeat' first | refine T.seq ?_ | refine T.block ?_ | refine T.r ?_ | refine J.e rfl rfl rfl rfl ?_ | refine J.nil ?_ | refine J.skip rfl rfl rfl ?_ | refine T.skip ?_ | refine T.exit ?_ | refine T.ret ?_ | refine T.rd rfl (by kernel_rfl) ?_ | refine J.bx rfl rfl rfl rfl rfl rfl ?_
    refine J.w rfl rfl rfl rfl rfl rfl rfl rfl rfl rfl ?_
    repeat' first | refine T.seq ?_ | refine T.block ?_ | refine T.r ?_ | refine J.e rfl rfl rfl rfl ?_ | refine J.nil ?_ | refine J.skip rfl rfl rfl ?_ | refine T.skip ?_ | refine T.exit ?_ | refine T.ret ?_ | refine T.rd rfl (by kernel_rfl) ?_ | refine J.bx rfl rfl rfl rfl rfl rfl ?_
    refine J.cc rfl rfl rfl rfl rfl hone rfl rfl ?_
    refine J.cc rfl rfl rfl rfl rfl hlaid rfl rfl ?_
    repeat' first | refine T.seq ?_ | refine T.block ?_ | refine T.r ?_ | refine J.e rfl rfl rfl rfl ?_ | refine J.nil ?_ | refine J.skip rfl rfl rfl ?_ | refine T.skip ?_ | refine T.exit ?_ | refine T.ret ?_ | refine T.rd rfl (by kernel_rfl) ?_ | refine J.bx rfl rfl rfl rfl rfl rfl ?_
    refine J.al rfl rfl rfl rfl rfl rfl rfl ?_
    repeat' first | refine T.seq ?_ | refine T.block ?_ | refine T.r ?_ | refine J.e rfl rfl rfl rfl ?_ | refine J.nil ?_ | refine J.skip rfl rfl rfl ?_ | refine T.skip ?_ | refine T.exit ?_ | refine T.ret ?_ | refine T.rd rfl (by kernel_rfl) ?_ | refine J.bx rfl rfl rfl rfl rfl rfl ?_
    refine J.w rfl rfl rfl rfl rfl rfl rfl rfl rfl rfl ?_
    repeat' first | refine T.seq ?_ | refine T.block ?_ | refine T.r ?_ | refine J.e rfl rfl rfl rfl ?_ | refine J.nil ?_ | refine J.skip rfl rfl rfl ?_ | refine T.skip ?_ | refine T.exit ?_ | refine T.ret ?_ | refine T.rd rfl (by kernel_rfl) ?_ | refine J.bx rfl rfl rfl rfl rfl rfl ?_
    cases ok
    · refine T.cf rfl ?_
      repeat' first | refine T.seq ?_ | refine T.block ?_ | refine T.r ?_ | refine J.e rfl rfl rfl rfl ?_ | refine J.nil ?_ | refine J.skip rfl rfl rfl ?_ | refine T.skip ?_ | refine T.exit ?_ | refine T.ret ?_ | refine T.rd rfl (by kernel_rfl) ?_ | refine J.bx rfl rfl rfl rfl rfl rfl ?_
      refine J.cc rfl rfl rfl rfl rfl gfixed_spec rfl rfl ?_
      repeat' first | refine T.seq ?_ | refine T.block ?_ | refine T.r ?_ | refine J.e rfl rfl rfl rfl ?_ | refine J.nil ?_ | refine J.skip rfl rfl rfl ?_ | refine T.skip ?_ | refine T.exit ?_ | refine T.ret ?_ | refine T.rd rfl (by kernel_rfl) ?_ | refine J.bx rfl rfl rfl rfl rfl rfl ?_
      exact ⟨_, .v rfl rfl rfl (fun h => by cases h) .nil⟩
    · refine T.ct rfl ?_
      have hcl := hin (by simpa using hok.symm)
      have hpk := lpick_spec d p.a (fun x hx => (hf x hx).domB) (by omega) hpa
      have hce := (lclause_spec d c (clin_in hcl (by omega) (fun x hx => by have := hsmall x hx; omega))).frz
      cases hev : emptyV d
      · have hne : [] ∉ d := fun h => by rw [(emptyV_iff hf).2 h] at hev; cases hev
        have hs := pick_sings p.a hf hfew hev
        have hho := holds_spec c (pickL d p.a) hcb (by simp [pickL]; omega) (fun h => by rw [hcl.len]; exact Nat.le_refl _) (fun h => by omega)
        have hst := clause_sings (u := pickL d p.a) (c := c) (by rw [← hs]; exact hcl)
        rw [← hs] at hst
        have hsr := sames_spec d d (by omega) (fun x hx => by have := (hf x hx).len; omega)
        rw [decide_eq_true rfl] at hsr
        rw [hst] at hce
        have hhe : holdsR c (pickL d p.a) = ((pickedR c.vars (pickL d p.a)).zip c.coefs).any litH := by
          unfold holdsR
          rw [if_neg (by omega), if_neg (by omega), if_neg (by omega), if_neg (by omega), if_neg (by omega), if_pos hkd]
        rw [← hhe] at hce
        rw [hev] at hpk
        generalize holdsR c (pickL d p.a) = hb at *
        cases hb
        · have hce : Spec Try.prog 34 false [doms d, .agg (cC c)] [.val (doms []), .val (.bool false)] := hce
          repeat' first | refine T.seq ?_ | refine T.block ?_ | refine T.r ?_ | refine J.e rfl rfl rfl rfl ?_ | refine J.nil ?_ | refine J.skip rfl rfl rfl ?_ | refine T.skip ?_ | refine T.exit ?_ | refine T.ret ?_ | refine T.rd rfl (by kernel_rfl) ?_ | refine J.bx rfl rfl rfl rfl rfl rfl ?_
          refine J.cc rfl rfl rfl rfl rfl hpk rfl rfl ?_
          repeat' first | refine T.seq ?_ | refine T.block ?_ | refine T.r ?_ | refine J.e rfl rfl rfl rfl ?_ | refine J.nil ?_ | refine J.skip rfl rfl rfl ?_ | refine T.skip ?_ | refine T.exit ?_ | refine T.ret ?_ | refine T.rd rfl (by kernel_rfl) ?_ | refine J.bx rfl rfl rfl rfl rfl rfl ?_
          refine J.cc rfl rfl rfl rfl rfl hce rfl rfl ?_
          repeat' first | refine T.seq ?_ | refine T.block ?_ | refine T.r ?_ | refine J.e rfl rfl rfl rfl ?_ | refine J.nil ?_ | refine J.skip rfl rfl rfl ?_ | refine T.skip ?_ | refine T.exit ?_ | refine T.ret ?_ | refine T.rd rfl (by kernel_rfl) ?_ | refine J.bx rfl rfl rfl rfl rfl rfl ?_
          refine J.cc rfl rfl rfl rfl rfl hho rfl rfl ?_
          repeat' first | refine T.seq ?_ | refine T.block ?_ | refine T.r ?_ | refine J.e rfl rfl rfl rfl ?_ | refine J.nil ?_ | refine J.skip rfl rfl rfl ?_ | refine T.skip ?_ | refine T.exit ?_ | refine T.ret ?_ | refine T.rd rfl (by kernel_rfl) ?_ | refine J.bx rfl rfl rfl rfl rfl rfl ?_
          refine T.cf rfl ?_
          repeat' first | refine T.seq ?_ | refine T.block ?_ | refine T.r ?_ | refine J.e rfl rfl rfl rfl ?_ | refine J.nil ?_ | refine J.skip rfl rfl rfl ?_ | refine T.skip ?_ | refine T.exit ?_ | refine T.ret ?_ | refine T.rd rfl (by kernel_rfl) ?_ | refine J.bx rfl rfl rfl rfl rfl rfl ?_
          refine J.cc rfl rfl rfl rfl rfl gfixed_spec rfl rfl ?_
          repeat' first | refine T.seq ?_ | refine T.block ?_ | refine T.r ?_ | refine J.e rfl rfl rfl rfl ?_ | refine J.nil ?_ | refine J.skip rfl rfl rfl ?_ | refine T.skip ?_ | refine T.exit ?_ | refine T.ret ?_ | refine T.rd rfl (by kernel_rfl) ?_ | refine J.bx rfl rfl rfl rfl rfl rfl ?_
          exact ⟨_, .v rfl rfl rfl (fun h => by cases h) .nil⟩
        · have hce : Spec Try.prog 34 false [doms d, .agg (cC c)] [.val (doms d), .val (.bool true)] := hce
          repeat' first | refine T.seq ?_ | refine T.block ?_ | refine T.r ?_ | refine J.e rfl rfl rfl rfl ?_ | refine J.nil ?_ | refine J.skip rfl rfl rfl ?_ | refine T.skip ?_ | refine T.exit ?_ | refine T.ret ?_ | refine T.rd rfl (by kernel_rfl) ?_ | refine J.bx rfl rfl rfl rfl rfl rfl ?_
          refine J.cc rfl rfl rfl rfl rfl hpk rfl rfl ?_
          repeat' first | refine T.seq ?_ | refine T.block ?_ | refine T.r ?_ | refine J.e rfl rfl rfl rfl ?_ | refine J.nil ?_ | refine J.skip rfl rfl rfl ?_ | refine T.skip ?_ | refine T.exit ?_ | refine T.ret ?_ | refine T.rd rfl (by kernel_rfl) ?_ | refine J.bx rfl rfl rfl rfl rfl rfl ?_
          refine J.cc rfl rfl rfl rfl rfl hce rfl rfl ?_
          repeat' first | refine T.seq ?_ | refine T.block ?_ | refine T.r ?_ | refine J.e rfl rfl rfl rfl ?_ | refine J.nil ?_ | refine J.skip rfl rfl rfl ?_ | refine T.skip ?_ | refine T.exit ?_ | refine T.ret ?_ | refine T.rd rfl (by kernel_rfl) ?_ | refine J.bx rfl rfl rfl rfl rfl rfl ?_
          refine J.cc rfl rfl rfl rfl rfl hho rfl rfl ?_
          repeat' first | refine T.seq ?_ | refine T.block ?_ | refine T.r ?_ | refine J.e rfl rfl rfl rfl ?_ | refine J.nil ?_ | refine J.skip rfl rfl rfl ?_ | refine T.skip ?_ | refine T.exit ?_ | refine T.ret ?_ | refine T.rd rfl (by kernel_rfl) ?_ | refine J.bx rfl rfl rfl rfl rfl rfl ?_
          refine J.cc rfl rfl rfl rfl rfl hsr rfl rfl ?_
          repeat' first | refine T.seq ?_ | refine T.block ?_ | refine T.r ?_ | refine J.e rfl rfl rfl rfl ?_ | refine J.nil ?_ | refine J.skip rfl rfl rfl ?_ | refine T.skip ?_ | refine T.exit ?_ | refine T.ret ?_ | refine T.rd rfl (by kernel_rfl) ?_ | refine J.bx rfl rfl rfl rfl rfl rfl ?_
          refine T.cf rfl ?_
          repeat' first | refine T.seq ?_ | refine T.block ?_ | refine T.r ?_ | refine J.e rfl rfl rfl rfl ?_ | refine J.nil ?_ | refine J.skip rfl rfl rfl ?_ | refine T.skip ?_ | refine T.exit ?_ | refine T.ret ?_ | refine T.rd rfl (by kernel_rfl) ?_ | refine J.bx rfl rfl rfl rfl rfl rfl ?_
          refine J.cc rfl rfl rfl rfl rfl gfixed_spec rfl rfl ?_
          repeat' first | refine T.seq ?_ | refine T.block ?_ | refine T.r ?_ | refine J.e rfl rfl rfl rfl ?_ | refine J.nil ?_ | refine J.skip rfl rfl rfl ?_ | refine T.skip ?_ | refine T.exit ?_ | refine T.ret ?_ | refine T.rd rfl (by kernel_rfl) ?_ | refine J.bx rfl rfl rfl rfl rfl rfl ?_
          exact ⟨_, .v rfl rfl rfl (fun h => by cases h) .nil⟩
      · have hne : [] ∈ d := (emptyV_iff hf).1 hev
        have e : clauseW d c = none := by unfold clauseW; rw [if_pos hne]
        rw [e] at hce
        have hce : Spec Try.prog 34 false [doms d, .agg (cC c)] [.val (doms []), .val (.bool false)] := hce
        rw [hev] at hpk
        repeat' first | refine T.seq ?_ | refine T.block ?_ | refine T.r ?_ | refine J.e rfl rfl rfl rfl ?_ | refine J.nil ?_ | refine J.skip rfl rfl rfl ?_ | refine T.skip ?_ | refine T.exit ?_ | refine T.ret ?_ | refine T.rd rfl (by kernel_rfl) ?_ | refine J.bx rfl rfl rfl rfl rfl rfl ?_
        refine J.cc rfl rfl rfl rfl rfl hpk rfl rfl ?_
        repeat' first | refine T.seq ?_ | refine T.block ?_ | refine T.r ?_ | refine J.e rfl rfl rfl rfl ?_ | refine J.nil ?_ | refine J.skip rfl rfl rfl ?_ | refine T.skip ?_ | refine T.exit ?_ | refine T.ret ?_ | refine T.rd rfl (by kernel_rfl) ?_ | refine J.bx rfl rfl rfl rfl rfl rfl ?_
        refine J.cc rfl rfl rfl rfl rfl hce rfl rfl ?_
        repeat' first | refine T.seq ?_ | refine T.block ?_ | refine T.r ?_ | refine J.e rfl rfl rfl rfl ?_ | refine J.nil ?_ | refine J.skip rfl rfl rfl ?_ | refine T.skip ?_ | refine T.exit ?_ | refine T.ret ?_ | refine T.rd rfl (by kernel_rfl) ?_ | refine J.bx rfl rfl rfl rfl rfl rfl ?_
        refine T.cf rfl ?_
        repeat' first | refine T.seq ?_ | refine T.block ?_ | refine T.r ?_ | refine J.e rfl rfl rfl rfl ?_ | refine J.nil ?_ | refine J.skip rfl rfl rfl ?_ | refine T.skip ?_ | refine T.exit ?_ | refine T.ret ?_ | refine T.rd rfl (by kernel_rfl) ?_ | refine J.bx rfl rfl rfl rfl rfl rfl ?_
        refine J.cc rfl rfl rfl rfl rfl gfixed_spec rfl rfl ?_
        repeat' first | refine T.seq ?_ | refine T.block ?_ | refine T.r ?_ | refine J.e rfl rfl rfl rfl ?_ | refine J.nil ?_ | refine J.skip rfl rfl rfl ?_ | refine T.skip ?_ | refine T.exit ?_ | refine T.ret ?_ | refine T.rd rfl (by kernel_rfl) ?_ | refine J.bx rfl rfl rfl rfl rfl rfl ?_
        exact ⟨_, .v rfl rfl rfl (fun h => by cases h) .nil⟩
end Go.Proofs.Ytchajofdjeijfaa
/-! The row of LogicDecides. -/
namespace Go.Proofs.Ytchajofdjeijfaa.logicDecides
open Go.ChangeShapes Go.WideShapes Go.ChangeAt Go.RowKit
set_option linter.unusedVariables false
theorem own : ownKnob Try.prog.godebug = none := by kernel_rfl
theorem laidOut : laidOutB Try.prog = true := by kernel_rfl
set_option maxRecDepth 100000 in
theorem lifted (os : Os) (started : os.Started) (H : Type) (enc : TypeId × Value → H) :
    ReturnsInHanded {} Try.checked os 9 .any (Rows.logicDecidesSpec.pre6 enc Try.prog Try.f9 Rows.logicDecidesRow.domain false) (Rows.logicDecidesSpec.post enc Try.prog Try.f9 false true false false) := by
  refine returnsInHanded_of_change_sized (C := Try.checked) own started (by kernel_rfl) Try.func9
    (ChangeSpec.witness6 (enc := enc) (C := Try.checked) false ⟨#[], #[.agg #[.slice none 0 0, .int .i64 0, .slice none 0 0, .slice none 0 0, .int .i64 0, .int .i64 0, .slice none 0 0, .int .i64 0, .slice none 0 0, .slice none 0 0], .agg #[.slice none 0 0, .int .i64 0, .slice none 0 0, .slice none 0 0, .int .i64 0, .int .i64 0, .slice none 0 0, .int .i64 0, .slice none 0 0, .slice none 0 0]], []⟩ 8 (by kernel_rfl) (by kernel_rfl) (by kernel_rfl) (by kernel_rfl)) ?_
  intro W base args ds gs before hval0 hW hcnd hsz0 _
  have hsz : (DataW.weightsEach Try.prog (Try.f9.params.toList ++ Rows.logicDecidesSpec.plain.varTypes Try.prog) (ds ++ gs)).all (· ≤ reachBytes) = true := hsz0
  have hval : ∀ (j : Nat) t v, Try.f9.params[j]? = some t → args[j]? = some v → Value.okWide Try.prog W .any base t v := hval0
  have hW' := hW
  obtain ⟨p, q, hA0, hV, rfl, hfz, hnd⟩ := hW
  have hA : DataW.TrodAll enc Try.prog W 0 (fun _ => true) true Try.f9.params.toList args.toList ds p := hA0
  rw [Try.params9] at hA hval hsz
  obtain ⟨v0, vs0, d0, ds0, p0, q0, hargs, rfl, rfl, h0, r0⟩ := trodAll_cons hA
  obtain ⟨v1, vs1, d1, ds1, p1, q1, rfl, rfl, rfl, h1, r1⟩ := trodAll_cons r0
  obtain ⟨rfl, rfl, rfl⟩ := trodAll_nil r1
  obtain rfl : args = #[v0, v1] := by cases args; simp_all
  obtain ⟨rfl, rfl⟩ := trodVars_none hV
  have hv0 := hval 0 53 v0 rfl rfl
  obtain ⟨cs0, rfl, _, _⟩ : ∃ cs, v0 = .agg cs ∧ cs.size = Try.prog.cellsOf 53 ∧ Row.okWide Try.prog W .any base 53 cs := by
    unfold Value.okWide at hv0
    rw [Try.underlying53] at hv0
    exact hv0
  have k0 := h0
  have lt0 : ∀ x ∈ p0, x.block < W.heap.size := by obtain ⟨m, hm⟩ := k0; exact DataW.trod_lt m _ _ _ hm
  obtain ⟨fuel0, hf0⟩ := h0
  have hv1 := hval 1 53 v1 rfl rfl
  obtain ⟨cs1, rfl, _, _⟩ : ∃ cs, v1 = .agg cs ∧ cs.size = Try.prog.cellsOf 53 ∧ Row.okWide Try.prog W .any base 53 cs := by
    unfold Value.okWide at hv1
    rw [Try.underlying53] at hv1
    exact hv1
  have k1 := h1
  have lt1 : ∀ x ∈ p1, x.block < W.heap.size := by obtain ⟨m, hm⟩ := k1; exact DataW.trod_lt m _ _ _ hm
  obtain ⟨fuel1, hf1⟩ := h1
  have hw : (DataW.weightsEach Try.prog (53 :: 53 :: Rows.logicDecidesSpec.plain.varTypes Try.prog) (d0 :: d1 :: [])).all (· ≤ reachBytes) = true := hsz
  rw [DataW.weightsEach, List.all_append, Bool.and_eq_true] at hw
  obtain ⟨hw0, hw⟩ := hw
  rw [DataW.weightsEach, List.all_append, Bool.and_eq_true] at hw
  obtain ⟨hw1, hw⟩ := hw
  obtain ⟨o, hrep0, ho⟩ := opens_case2 fuel0 _ (d0, p0) hf0 hw0 (nf hfz fun p hp => by simp [hp])
  obtain ⟨p, hrep1, hp⟩ := opens_case2 fuel1 _ (d1, p1) hf1 hw1 (nf hfz fun p hp => by simp [hp])
  clear hA0 hval0 hsz0 hsz hw
  have hcs0 : (Value.agg cs0).cells.toList = cs0.toList := rfl
  rw [hcs0] at hrep0
  have harg0 : Rep W (fun _ => True) (.agg cs0) (.agg (cCase o)) := by
    have := Rep.agg (w := W) (Z := fun _ => True) cs0.toList (cCase o) hrep0 (case_one o)
    simpa using this
  have hcs1 : (Value.agg cs1).cells.toList = cs1.toList := rfl
  rw [hcs1] at hrep1
  have harg1 : Rep W (fun _ => True) (.agg cs1) (.agg (cCase p)) := by
    have := Rep.agg (w := W) (Z := fun _ => True) cs1.toList (cCase p) hrep1 (case_one p)
    simpa using this
  refine ((law_logdec o p ho.1 hp.1 ho.2.1 hp.2.1).out W (fun _ => True) [.agg cs0, .agg cs1] (.cons harg0 (.cons harg1 .nil))).mono fun e W' ⟨rs, he, bel, hret⟩ => ?_
  have hrs : rs = [.bool true] := by
    have h := hret.each
    cases h with
    | cons h1 h2 => cases h2; cases h1; rfl
  subst hrs
  subst he
  exact ⟨_, rfl, _, _, _, [], _, [], hW', trodAll_mk1 (shut_bool Try.underlying4 _), trodAll_cons_mk (Below.trod laidOut (by kernel_rfl) (of_decide_eq_true (by kernel_rfl)) k0 bel lt0) (trodAll_cons_mk (Below.trod laidOut (by kernel_rfl) (of_decide_eq_true (by kernel_rfl)) k1 bel lt1) trodAll_mk0), rfl, bel.frame _, fun h => by cases h⟩
theorem over : Rows.logicDecidesRow.holds Try.pinned (OpenSpec.ofChange Rows.logicDecidesSpec) :=
  OpenClaim.holds_of_wide 9 Try.f9 rfl rfl rfl rfl rfl rfl rfl ⟨rfl, rfl, rfl, rfl, rfl⟩ rfl rfl rfl rfl rfl (by kernel_rfl) Try.func9 (by kernel_rfl)
    (of_decide_eq_true (by kernel_rfl)) (by unfold Func.isWrapper; first | (rw [if_pos (by decide +kernel)]; kernel_rfl) | (rw [if_neg (by decide +kernel)]; exact ⟨rfl, rfl⟩))
    (fun os started H enc _ => lifted os started H enc)
theorem proved : Rows.LogicDecidesSaid := over
#print axioms proved
end Go.Proofs.Ytchajofdjeijfaa.logicDecides
namespace Go.Proofs.Ytchajofdjeijfaa
/-- The row, under a short name, for the claim. -/
theorem logicDecides_holds : Rows.LogicDecidesSaid := logicDecides.proved
end Go.Proofs.Ytchajofdjeijfaa
