/- The statement FixLess: the law, and its row; ahead of it what it needs (FvT, FvU, PvI, FvV, FvW, PvJ, LwFOnes, LwFLess, RowA, RowM, RowFLess). -/
import Derived.Test.YtlcobmehnaeebaaGreatB8
import Derived.Test.YtlcobmehnaeebaaGreatRows
import Derived.WalkKit
import Derived.ProofKit
import Derived.OpenShut
import Derived.ShutString
import Derived.ChangeOld
import Derived.Below
import Derived.SizedLaws
namespace Go.Proofs.YtlcobmehnaeebaaGreat
open Go Go.RowKit
set_option linter.unusedVariables false
set_option linter.unusedSimpArgs false
set_option maxRecDepth 8000
def gCon (g:Goal):Con:=⟨0,g.vars,g.coefs,0,0,[],0⟩
def goalR (d:Doms)(g:Goal):Int:=if g.kind=1∨g.kind=2 then conR d (gCon g)else if g.kind≠0∨0<g.vars.length∨0<g.coefs.length then 44 else 0
theorem goal_spec (d:Doms)(g:Goal)(hg:g.vars.length≤1024∧g.coefs.length≤1024)(hl:d.length*8≤140737488355328)(hd: ∀x∈d,x.length*8≤140737488355328):Spec Tryz.prog 61 false [doms d,.agg (cG g)] [.val (.int .i64 (goalR d g))]:=by
 refine Spec.body Tryz.func61 rfl rfl rfl fun w0 Z0=> ?_
 have hcb:ConB (gCon g):=⟨by simp[gCon];omega,by simp[gCon];omega,by simp[gCon],by simp[gCon]⟩
 have hcon:=con_spec d (gCon g) hcb hl hd
 generalize hR:goalR d g=R
 unfold goalR at hR
 generalize conR d (gCon g)=cr at*
 have yes:g.kind=1∨g.kind=2→cr=R:=fun h=>by rw[if_pos h]at hR;exact hR
 have no: ¬g.kind=1→¬g.kind=2→(if g.kind≠0∨0<g.vars.length∨0<g.coefs.length then(44:Int)else 0)=R:=fun a b=>by rw[if_neg (fun h=>h.elim a b)]at hR;exact hR
 repeat(refine .A ?_;conv=>whnf)
 refine J.g rfl rfl rfl (fun h1=> ?_) (fun h1=> ?_)
 ·rw[yes (.inl h1)]at hcon
  repeat(refine .A ?_;conv=>whnf)
  refine T.ct rfl ?_
  repeat(refine .A ?_;conv=>whnf)
  refine .C hcon ?_
  repeat(refine .A ?_;conv=>whnf)
  exact⟨_,.v rfl rfl rfl (fun _=>rfl) .nil⟩
 ·have h1: ¬g.kind=1:=h1
  repeat(refine .A ?_;conv=>whnf)
  refine T.cd rfl (fun h2=> ?_) (fun h2=> ?_)
  ·rw[yes (.inr h2)]at hcon
   repeat(refine .A ?_;conv=>whnf)
   refine .C hcon ?_
   repeat(refine .A ?_;conv=>whnf)
   exact⟨_,.v rfl rfl rfl (fun _=>rfl) .nil⟩
  ·have h2: ¬g.kind=2:=h2
   have no:=no h1 h2
   repeat(refine .A ?_;conv=>whnf)
   refine J.g rfl rfl rfl (fun h3=> ?_) (fun h3=> ?_)
   ·rw[if_pos (.inl h3)]at no
    subst no
    repeat(refine .A ?_;conv=>whnf)
    refine T.ct rfl ?_
    repeat(refine .A ?_;conv=>whnf)
    exact⟨_,.v rfl rfl rfl (fun _=>rfl) .nil⟩
   ·have h3: ¬g.kind≠0:=h3
    repeat(refine .A ?_;conv=>whnf)
    refine J.g rfl rfl rfl (fun h4=> ?_) (fun h4=> ?_)
    ·rw[if_pos (.inr (.inl (by simpa using h4)))]at no
     subst no
     repeat(refine .A ?_;conv=>whnf)
     refine T.ct rfl ?_
     repeat(refine .A ?_;conv=>whnf)
     exact⟨_,.v rfl rfl rfl (fun _=>rfl) .nil⟩
    ·repeat(refine .A ?_;conv=>whnf)
     refine T.cd rfl (fun h6=> ?_) (fun h6=> ?_)
     ·rw[if_pos (.inr (.inr (by simpa using h6)))]at no
      subst no
      repeat(refine .A ?_;conv=>whnf)
      exact⟨_,.v rfl rfl rfl (fun _=>rfl) .nil⟩
     ·rw[if_neg (by
       rintro(h|h|h)
       ·exact h3 h
       ·exact h4 (by simpa using h)
       ·exact h6 (by simpa using h))]at no
      subst no
      repeat(refine .A ?_;conv=>whnf)
      exact⟨_,.v rfl rfl rfl (fun _=>rfl) .nil⟩
def nmM (m:Mod)(i:Nat):ByteArray:=(m.vars.getD i (⟨#[]⟩,[])).1
def dmM (m:Mod)(i:Nat):List (Int×Int):=(m.vars.getD i (⟨#[]⟩,[])).2
def twiceR (m:Mod)(i:Nat):Bool:=(List.range i).any fun k=>(nmM m k).toList==(nmM m i).toList
def varR (m:Mod)(i:Nat):Int:=if nameR (nmM m i)=false then 40 else if twiceR m i=true then 41 else if dmM m i=[]∨chkR (dmM m i)≠0 then 42 else 0
def firstE (l:List Int):Int:=(l.find? (· ≠0)).getD 0
def checkR (m:Mod):Int:=if 64<m.vars.length∨256<m.cons.length then 2 else
 if firstE ((List.range m.vars.length).map (varR m))≠0 then firstE ((List.range m.vars.length).map (varR m))else
 if firstE (m.cons.map (conR (domsM m)))≠0 then firstE (m.cons.map (conR (domsM m)))else goalR (domsM m) m.goal
theorem firstE_at {l:List Int}{i:Nat}{e:Int}(h: ∀j,j<i→∀x,l[j]? =some x→x=0)(hi:l[i]? =some e)(he:e≠0):firstE l=e:=by
 have hlt:=(List.getElem?_eq_some_iff.1 hi).1
 have:l.find? (· ≠0)=some e:=by
  rw[List.find?_eq_some_iff_getElem]
  refine⟨by simpa using he,i,hlt,(List.getElem?_eq_some_iff.1 hi).2,fun j hj=> ?_⟩
  have:=h j hj _ (List.getElem?_eq_getElem (by omega))
  simp[this]
 unfold firstE
 rw[this];rfl
theorem firstE_no {l:List Int}(h: ∀x∈l,x=0):firstE l=0:=by
 have:l.find? (· ≠0)=none:=by
  rw[List.find?_eq_none]
  intro x hx
  simp[h x hx]
 unfold firstE
 rw[this];rfl
theorem firstE_zero {l:List Int}(h:firstE l=0): ∀x∈l,x=0:=by
 intro x hx
 unfold firstE at h
 cases hf:l.find? (· ≠0)with
 |none=>
  have:=List.find?_eq_none.1 hf x hx
  simpa using this
 |some e=>
  rw[hf]at h
  have:=List.find?_some hf
  simp at this
  exact absurd h this
theorem mcheck_spec (m:Mod)(hm:ModB m):Spec Tryz.prog 26 false [.agg (cM m)] [.val (.int .i64 (checkR m))]:=by
 refine Spec.body Tryz.func26 rfl rfl rfl fun w0 Z0=> ?_
 have hds:=rdoms_spec m hm
 generalize hR:checkR m=R
 obtain⟨b1,b2,b3,b4,b5⟩:=hm
 have yes:64<m.vars.length∨256<m.cons.length→(2:Int)=R:=fun h=>by rw[←hR];exact(if_pos h).symm
 repeat(refine .A ?_;conv=>whnf)
 refine J.g rfl rfl rfl (fun h1=> ?_) (fun h1=> ?_)
 ·have e:=yes (.inl (by simp at h1;omega))
  subst e
  repeat(refine .A ?_;conv=>whnf)
  refine T.ct rfl ?_
  repeat(refine .A ?_;conv=>whnf)
  exact⟨_,.v rfl rfl rfl (fun _=>rfl) .nil⟩
 ·repeat(refine .A ?_;conv=>whnf)
  refine T.cd rfl (fun h2=> ?_) (fun h2=> ?_)
  ·have e:=yes (.inr (by simp at h2;omega))
   subst e
   repeat(refine .A ?_;conv=>whnf)
   exact⟨_,.v rfl rfl rfl (fun _=>rfl) .nil⟩
  ·have hR:(if firstE ((List.range m.vars.length).map (varR m))≠0 then firstE ((List.range m.vars.length).map (varR m))else
     if firstE (m.cons.map (conR (domsM m)))≠0 then firstE (m.cons.map (conR (domsM m)))else goalR (domsM m) m.goal)=R:=by
    unfold checkR at hR
    rw[if_neg (by simp at h1 h2;omega)]at hR
    exact hR
   have hvar: ∀i,i<m.vars.length→(∀j,j<i→varR m j=0)→varR m i≠0→R=varR m i:=fun i hi hb he=>by
    have:firstE ((List.range m.vars.length).map (varR m))=varR m i:=firstE_at (i:=i) (fun j hj x hx=>by
     rw[List.getElem?_map,List.getElem?_range (by omega)]at hx
     rw[←Option.some.inj hx]
     exact hb j hj) (by rw[List.getElem?_map,List.getElem?_range hi];rfl) he
    rw[this,if_pos he]at hR
    exact hR.symm
   repeat(refine .A ?_;conv=>whnf)
   refine T.K (T.ind (fun i:Nat=>⟨[(1,.optr 0 0 0 0),(3,.val true (.int .i64 i))],[(0,some (.box false (cM m)))],1⟩) (fun i=>i≤m.vars.length∧∀j,j<i→varR m j=0) (fun i=>m.vars.length-i) 0 ⟨Nat.zero_le _,fun j hj=>absurd hj (Nat.not_lt_zero j)⟩ (fun _ _ h=>h) ?_)
   rintro i ⟨hi,hb⟩ ih
   repeat(refine .A ?_;conv=>whnf)
   refine T.cd rfl (fun h3=> ?_) (fun h3=> ?_)
   ·have h3:i<m.vars.length:=by simpa using h3
    have hv:=hvar i h3 hb
    have hvi:varR m i=if nameR (nmM m i)=false then 40 else if twiceR m i=true then 41 else if dmM m i=[]∨chkR (dmM m i)≠0 then 42 else 0:=rfl
    have hrowk: ∀k,k<m.vars.length→(m.vars.map cV)[((k:Nat):Int).toNat]? =some (cV (nmM m k,dmM m k)):=fun k hk=>by
     rw[Int.toNat_natCast,List.getElem?_map,List.getElem?_eq_getElem hk]
     unfold nmM dmM
     rw[List.getD_eq_getElem?_getD,List.getElem?_eq_getElem hk];rfl
    have hrow:=hrowk i h3
    have hbk: ∀k,k<m.vars.length→(nmM m k).size≤1024∧(dmM m k).length≤1024:=fun k hk=>by
     unfold nmM dmM
     rw[List.getD_eq_getElem?_getD,List.getElem?_eq_getElem hk]
     exact b2 _ (List.getElem_mem hk)
    have hns:=name_spec (nmM m i) (by have:=hbk i h3;omega)
    repeat(refine .A ?_;conv=>whnf)
    refine .I (r:=cV (nmM m i,dmM m i)) hrow ?_
    repeat(refine .A ?_;conv=>whnf)
    refine .C hns ?_
    repeat(refine .A ?_;conv=>whnf)
    cases hn:nameR (nmM m i)
    ·have:R=40:=by rw[hv (by rw[hvi,if_pos hn];decide),hvi,if_pos hn]
     subst this
     refine T.ct rfl ?_
     repeat(refine .A ?_;conv=>whnf)
     exact⟨_,.v rfl rfl rfl (fun _=>rfl) .nil⟩
    ·rw[if_neg (by rw[hn];simp)]at hvi
     refine T.cf rfl ?_
     repeat(refine .A ?_;conv=>whnf)
     refine T.K (T.ind (fun k:Nat=>⟨[(1,.optr 0 0 0 0),(3,.val true (.int .i64 i)),(4,.val true (.int .i64 k))],[(0,some (.box false (cM m)))],1⟩) (fun k=>k≤i∧∀j,j<k→((nmM m j).toList==(nmM m i).toList)=false) (fun k=>i-k) 0 ⟨Nat.zero_le _,fun j hj=>absurd hj (Nat.not_lt_zero j)⟩ (fun _ _ h=>h) ?_)
     rintro k ⟨hk,hbn⟩ ih2
     repeat(refine .A ?_;conv=>whnf)
     refine T.cd rfl (fun h4=> ?_) (fun h4=> ?_)
     ·have h4:k<i:=by omega
      have hrk:=hrowk k (by omega)
      have htw:((nmM m k).toList==(nmM m i).toList)=true→twiceR m i=true:=fun h=>List.any_eq_true.2 ⟨k,List.mem_range.2 h4,h⟩
      have ih3:=fun h:((nmM m k).toList==(nmM m i).toList)=false=>ih2 (k+1) ⟨by omega,fun j hj=>by
       by_cases e:j=k
       ·rw[e];exact h
       ·exact hbn j (by omega)⟩ (by omega)
      repeat(refine .A ?_;conv=>whnf)
      refine .I (r:=cV (nmM m k,dmM m k)) hrk ?_
      repeat(refine .A ?_;conv=>whnf)
      refine .I (r:=cV (nmM m i,dmM m i)) hrow ?_
      repeat(refine .A ?_;conv=>whnf)
      cases he:((nmM m k).toList==(nmM m i).toList)
      ·refine T.cf rfl ?_
       repeat(refine .A ?_;conv=>whnf)
       rw[wrap1 (l:=m.vars.length) (n:=k) (by omega) (by omega)]
       exact T.K (ih3 he)
      ·have ht:=htw he
       have:R=41:=by rw[hv (by rw[hvi,if_pos ht];decide),hvi,if_pos ht]
       subst this
       refine T.ct rfl ?_
       repeat(refine .A ?_;conv=>whnf)
       exact⟨_,.v rfl rfl rfl (fun _=>rfl) .nil⟩
     ·have h4:k=i:=by omega
      subst h4
      have htf:twiceR m k=false:=by
       unfold twiceR
       rw[List.any_eq_false]
       intro j hj
       rw[hbn j (List.mem_range.1 hj)];simp
      rw[if_neg (by rw[htf];simp)]at hvi
      have hck:=rcheck_spec (dmM m k) (by have:=hbk k h3;omega)
      have stop:dmM m k=[]∨chkR (dmM m k)≠0→R=42:=fun h=>by rw[hv (by rw[hvi,if_pos h];decide),hvi,if_pos h]
      have goon: ¬dmM m k=[]→¬chkR (dmM m k)≠0→varR m k=0:=fun a b=>by rw[hvi,if_neg (fun h=>h.elim a b)]
      have hw1:IntKind.i64.wrap ((k:Int)+1)=((k+1:Nat):Int):=wrap1 (l:=m.vars.length) h3 (by omega)
      have ih4:=fun h:varR m k=0=>ih (k+1) ⟨by omega,fun j hj=>by
       by_cases e:j=k
       ·rw[e];exact h
       ·exact hb j (by omega)⟩ (by omega)
      generalize varR m k=vr at*
      generalize nmM m k=nm at*
      generalize dmM m k=dd at*
      generalize chkR dd=ck at*
      repeat(refine .A ?_;conv=>whnf)
      refine .I (r:=cV (nm,dd)) hrow ?_
      repeat(refine .A ?_;conv=>whnf)
      refine J.g rfl rfl rfl (fun h5=> ?_) (fun h5=> ?_)
      ·have e:=stop (.inl (by simpa using h5))
       subst e
       repeat(refine .A ?_;conv=>whnf)
       refine T.ct rfl ?_
       repeat(refine .A ?_;conv=>whnf)
       exact⟨_,.v rfl rfl rfl (fun _=>rfl) .nil⟩
      ·repeat(refine .A ?_;conv=>whnf)
       refine .I (r:=cV (nm,dd)) hrow ?_
       repeat(refine .A ?_;conv=>whnf)
       refine .C hck ?_
       repeat(refine .A ?_;conv=>whnf)
       refine T.cd rfl (fun h6=> ?_) (fun h6=> ?_)
       ·have e:=stop (.inr h6)
        subst e
        repeat(refine .A ?_;conv=>whnf)
        exact⟨_,.v rfl rfl rfl (fun _=>rfl) .nil⟩
       ·repeat(refine .A ?_;conv=>whnf)
        rw[hw1]
        exact T.K (ih4 (goon (by simpa using h5) h6))
   ·have h3:i=m.vars.length:=by simp at h3;omega
    have hfz:firstE ((List.range m.vars.length).map (varR m))=0:=firstE_no fun x hx=>by
     obtain⟨j,hj,rfl⟩:=List.mem_map.1 hx
     exact hb j (by rw[h3];exact List.mem_range.1 hj)
    rw[hfz,if_neg (by simp)]at hR
    repeat(refine .A ?_;conv=>whnf)
    refine .C hds.frz ?_
    repeat(refine .A ?_;conv=>whnf)
    refine T.K (T.ind (fun i:Nat=>⟨[(1,.optr 0 0 0 0),(5,.val true (doms (domsM m))),(6,.val true (.int .i64 i))],[(0,some (.box false (cM m)))],1⟩) (fun i=>i≤m.cons.length∧∀j,j<i→∀c,m.cons[j]? =some c→conR (domsM m) c=0) (fun i=>m.cons.length-i) 0 ⟨Nat.zero_le _,fun j hj=>absurd hj (Nat.not_lt_zero j)⟩ (fun _ _ h=>h) ?_)
    rintro k ⟨hk,hbc⟩ ih
    have hdl:(domsM m).length*8≤140737488355328:=by simp[domsM];omega
    have hdx: ∀x∈domsM m,x.length*8≤140737488355328:=fun x hx=>by
     obtain⟨v,hv,rfl⟩:=List.mem_map.1 hx
     have:=b2 v hv;omega
    repeat(refine .A ?_;conv=>whnf)
    refine T.cd rfl (fun h4=> ?_) (fun h4=> ?_)
    ·have h4:k<m.cons.length:=by simpa[consPV]using h4
     have hrow:(m.cons.map cC)[((k:Nat):Int).toNat]? =some (cC m.cons[k]):=by simp[h4]
     have hcb:=b4 _ (List.getElem_mem h4)
     have hcs:=con_spec (domsM m) m.cons[k] ⟨by omega,by omega,by omega,fun r hr=>by have:=hcb.2.2.2 r hr;omega⟩ hdl hdx
     have hgk:m.cons[k]? =some m.cons[k]:=List.getElem?_eq_getElem h4
     have stop:conR (domsM m) m.cons[k]≠0→R=conR (domsM m) m.cons[k]:=fun he=>by
      have:firstE (m.cons.map (conR (domsM m)))=conR (domsM m) m.cons[k]:=firstE_at (i:=k) (fun j hj x hx=>by
       rw[List.getElem?_map]at hx
       obtain⟨c,hc,rfl⟩:=Option.map_eq_some_iff.1 hx
       exact hbc j hj c hc) (by rw[List.getElem?_map,hgk];rfl) he
      rw[this,if_pos he]at hR
      exact hR.symm
     have ih4:=fun h:conR (domsM m) m.cons[k]=0=>ih (k+1) ⟨by omega,fun j hj c hc=>by
      by_cases e:j=k
      ·rw[e,hgk]at hc;cases hc;exact h
      ·exact hbc j (by omega) c hc⟩ (by omega)
     generalize m.cons[k]=c at*
     generalize conR (domsM m) c=cr at*
     repeat(refine .A ?_;conv=>whnf)
     refine .I (r:=cC c) hrow ?_
     repeat(refine .A ?_;conv=>whnf)
     refine .C hcs ?_
     repeat(refine .A ?_;conv=>whnf)
     refine T.cd rfl (fun h5=> ?_) (fun h5=> ?_)
     ·have e:=stop h5
      subst e
      repeat(refine .A ?_;conv=>whnf)
      exact⟨_,.v rfl rfl rfl (fun _=>rfl) .nil⟩
     ·have h5:cr=0:=Classical.byContradiction h5
      repeat(refine .A ?_;conv=>whnf)
      rw[wrap1 (l:=m.cons.length) h4 (by omega)]
      exact T.K (ih4 h5)
    ·have h4:k=m.cons.length:=by simp[consPV]at h4;omega
     have hfc:firstE (m.cons.map (conR (domsM m)))=0:=firstE_no fun x hx=>by
      obtain⟨c,hc,rfl⟩:=List.mem_map.1 hx
      obtain⟨j,hj⟩:=List.getElem?_of_mem hc
      exact hbc j (by rw[h4];exact(List.getElem?_eq_some_iff.1 hj).1) c hj
     rw[hfc,if_neg (by simp)]at hR
     have hgs:=goal_spec (domsM m) m.goal b5 hdl hdx
     rw[hR]at hgs
     repeat(refine .A ?_;conv=>whnf)
     refine .C hgs ?_
     repeat(refine .A ?_;conv=>whnf)
     exact⟨_,.v rfl rfl rfl (fun _=>rfl) .nil⟩
def smallD (d:Doms)(most:Nat):Bool:=(List.range d.length).all fun k=>decide (prodD (d.take (k+1))≤most)
theorem smallD_ok {d:Doms}{most:Nat}(h:smallD d most=true)(h1:1≤most):prodD d≤most:=by
 by_cases h0:d=[]
 ·subst h0;exact h1
 ·have hl:=List.length_pos_iff.2 h0
  have:=List.all_eq_true.1 h (d.length-1) (List.mem_range.2 (by omega))
  rw[show d.length-1+1=d.length by omega,List.take_length]at this
  simpa using this
theorem rsmall_spec (d:Doms)(most:Nat)(hm:1≤most∧most≤1048576)(fd:FewD d):Spec Tryz.prog 27 false [doms d,.int .i64 most] [.val (.bool (smallD d most))]:=by
 refine Spec.body Tryz.func27 rfl rfl rfl fun w0 Z0=> ?_
 generalize hR:smallD d most=R
 have hds:=fd.small
 repeat(refine .A ?_;conv=>whnf)
 refine T.K (T.ind (fun i:Nat=>⟨[(0,.val false (doms d)),(1,.val false (.int .i64 most)),(5,.val true (.int .i64 (prodD (d.take i)))),(6,.val true (.int .i64 i))],[],0⟩) (fun i=>i≤d.length∧prodD (d.take i)≤most∧∀j,j<i→prodD (d.take (j+1))≤most) (fun i=>d.length-i) 0 ⟨Nat.zero_le _,hm.1,fun j hj=>absurd hj (Nat.not_lt_zero j)⟩ (fun _ _ h=>h) ?_)
 rintro i ⟨hi,hp,hb⟩ ih
 repeat(refine .A ?_;conv=>whnf)
 refine T.cd rfl (fun h1=> ?_) (fun h1=> ?_)
 ·have h1:i<d.length:=by simpa using h1
  have hrow:(d.map cD)[((i:Nat):Int).toNat]? =some (cD d[i]):=by simp[h1]
  have hf:=fd.fine _ (List.getElem_mem h1)
  have hw:=fd.few _ (List.getElem_mem h1)
  have hvs:=values_spec d[i] hf.domB.1 (by omega) hf.domB.2.2
  have htk:prodD (d.take (i+1))=prodD (d.take i)*(vals d[i]).length:=by rw[List.take_succ_eq_append_getElem h1,prodD_snoc]
  have hno: ¬prodD (d.take (i+1))≤most→R=false:=fun h=>by
   rw[←hR];unfold smallD
   rw[List.all_eq_false]
   exact⟨i,List.mem_range.2 h1,by simpa using h⟩
  have ih1:=fun h:prodD (d.take (i+1))≤most=>ih (i+1) ⟨by omega,h,fun j hj=>by
   by_cases e:j=i
   ·rw[e];exact h
   ·exact hb j (by omega)⟩ (by omega)
  have hle:prodD (d.take i)*(vals d[i]).length≤1048576*4096:=Nat.mul_le_mul (by omega) hw
  rw[htk]at hno ih1
  generalize vals d[i]=l at*
  generalize d[i]=x at*
  generalize prodD (d.take i)=p at*
  have hmul:IntKind.i64.wrap ((p:Int)*((l.map cI).length:Nat))=((p*l.length:Nat):Int):=by
   rw[List.length_map,←Int.natCast_mul,wrap_id (by omega) (by omega)]
  repeat(refine .A ?_;conv=>whnf)
  refine .I (r:=cD x) hrow ?_
  repeat(refine .A ?_;conv=>whnf)
  refine .C hvs ?_
  repeat(refine .A ?_;conv=>whnf)
  rw[hmul]
  refine T.cd rfl (fun h2=> ?_) (fun h2=> ?_)
  ·have e:=hno (by omega)
   subst e
   repeat(refine .A ?_;conv=>whnf)
   exact⟨_,.v rfl rfl rfl (fun _=>rfl) .nil⟩
  ·repeat(refine .A ?_;conv=>whnf)
   rw[wrap1 (l:=d.length) h1 (by omega)]
   exact T.K (ih1 (by omega))
 ·have h1:i=d.length:=by simp at h1;omega
  have:R=true:=by
   rw[←hR];unfold smallD
   rw[List.all_eq_true]
   intro j hj
   have:=hb j (by rw[h1];exact List.mem_range.1 hj)
   simpa using this
  subst this
  repeat(refine .A ?_;conv=>whnf)
  exact⟨_,.v rfl rfl rfl (fun _=>rfl) .nil⟩
def keepsR (d:Doms)(a:List Int):Bool:=((List.range (min d.length a.length)).all fun i=>decide (a.getD i 0∈vals (d.getD i [])))&&decide (d.length=a.length)
def solvesR (m:Mod)(a:List Int):Bool:=decide (a.length=m.vars.length)&&(((List.range a.length).all fun i=>decide (a.getD i 0∈vals (dmM m i)))&&m.cons.all fun c=>holdsR c a)
def lessR (d:Doms)(take:List Int):Doms:=d.map fun x=>pickR x (smallR take) false
theorem less_spec (d:Doms)(take:List Int)(fd:FewD d)(ht:take.length*8≤140737488355328):Spec Tryz.prog 23 false [doms d,ints take] [.own 45 1 ((lessR d take).map cD)]:=by
 refine Spec.body Tryz.func23 rfl rfl rfl fun w0 Z0=> ?_
 have hds:=fd.small
 have hsm:=small_fine take
 have hss:=small_spec take ht
 repeat(refine .A ?_;conv=>whnf)
 refine .O ?_
 repeat(refine .A ?_;conv=>whnf)
 refine T.K (T.ind (fun i:Nat=>⟨[(0,.val false (doms d)),(1,.val false (ints take)),(5,.ref 0),(6,.val true (.int .i64 i))],[(0,some (.sl 45 1 true ((lessR (d.take i) take).map cD)))],1⟩) (fun i=>i≤d.length) (fun i=>d.length-i) 0 (Nat.zero_le _) (fun _ _ h=>h) ?_)
 rintro i hi ih
 repeat(refine .A ?_;conv=>whnf)
 refine T.cd rfl (fun h1=> ?_) (fun h1=> ?_)
 ·have h1:i<d.length:=by simpa using h1
  have hrow:(d.map cD)[((i:Nat):Int).toNat]? =some (cD d[i]):=by simp[h1]
  have hf:=fd.fine _ (List.getElem_mem h1)
  have hps:=(pick_spec d[i] (smallR take) false hf.domB hsm.domB).frz
  have htk:lessR (d.take (i+1)) take=lessR (d.take i) take++[pickR d[i] (smallR take) false]:=by
   unfold lessR;rw[List.take_succ_eq_append_getElem h1,List.map_append];rfl
  have hln:(lessR (d.take i) take).length≤i:=by simp[lessR];omega
  have ih1:=ih (i+1) (by omega) (by omega)
  rw[htk]at ih1
  generalize lessR (d.take i) take=out at*
  generalize d[i]=x at*
  generalize smallR take=st at*
  generalize pickR x st false=y at*
  repeat(refine .N ?_;conv=>whnf)
  refine T.rdm 9 rfl (by kernel_rfl) rfl ?_
  repeat(refine .N ?_;conv=>whnf)
  refine .I (r:=cD x) hrow ?_
  repeat(refine .N ?_;conv=>whnf)
  refine .C hss ?_
  repeat(refine .N ?_;conv=>whnf)
  refine .C hps ?_
  repeat(refine .N ?_;conv=>whnf)
  refine .V ?_
  repeat(refine .N ?_;conv=>whnf)
  refine J.aD rfl rfl rfl rfl rfl rfl rfl rfl rfl rfl rfl rfl rfl rfl rfl rfl rfl rfl rfl (by omega) ?_
  repeat(refine .N ?_;conv=>whnf)
  rw[wrap1 (l:=d.length) h1 (by omega)]
  exact T.K ih1
 ·have h1:i=d.length:=by simp at h1;omega
  subst h1
  rw[List.take_length]
  repeat(refine .A ?_;conv=>whnf)
  exact⟨_,.o rfl rfl rfl (fun _=> .inl rfl) (by simp) .nil⟩
theorem ends_have {cons:List Con}{d:Doms}(gd:GoodD d.length d)(ht: ∀c∈cons,Takes leD (GoodD d.length) (oneO c)):AllEnds cons d (allO cons d):=by
 have key: ∀(k:Nat) (a:Doms),Come leD (GoodD d.length) oneO cons d a→weight a<k→∃R,AllEnds cons d R:=by
  intro k
  induction k with
  |zero=>intro a _ h;omega
  |succ k ih=>
   intro a hc hk
   by_cases hs:Stays oneO cons a
   ·exact⟨some a,hc,hs⟩
   ·have: ∃c,c∈cons∧oneO c a≠some a:=Classical.byContradiction fun h=>hs fun c hm=>Classical.byContradiction fun e=>h ⟨c,hm,e⟩
    obtain⟨c,hm,hne⟩:=this
    cases he:oneO c a with
    |none=>exact⟨none,hc.none hm (ht c hm) he⟩
    |some b=>
     obtain⟨g1,g2⟩:=(ht c hm).less a b hc.fine he
     have:=(weight_le g1 hc.fine g2).2 (fun e=>hne (by rw[he,e]))
     exact ih b (hc.step (orderD _) hm (ht c hm) he) (by omega)
 obtain⟨R,hR⟩:=key _ d (Come.refl (orderD _) gd) (Nat.lt_succ_self _)
 rw[←allO_eq hR];exact hR
theorem uses_sum: ∀{cons:List Con},(∀c∈cons,c.vars.length≤1024)→(cons.map fun c=>(usesR c).length).sum≤cons.length*1025
 | [],_=>by simp
 |c::cons,h=>by
  have h1:=uses_sum fun c hc=>h c (.tail _ hc)
  have h2:(usesR c).length≤1025:=by
   have h1:=sortU_length (if c.kind=4 then c.vars++[c.b]else c.vars)
   have h2:(if c.kind=4 then c.vars++[c.b]else c.vars).length≤c.vars.length+1:=by split<;>simp
   have:=h c (.head _)
   unfold usesR;omega
  simp only[List.map_cons,List.sum_cons,List.length_cons];omega
structure RunOk (d:Doms)(cons:List Con):Prop where
 gd:GoodD d.length d
 con: ∀c∈cons,c.vars.length≤1024∧ConB c
 right: ∀c∈cons,conR d c=0
 prod:prodD d≤1048576
 few:cons.length≤4096
theorem RunOk.step {d:Doms}{cons:List Con}(h:RunOk d cons){c:Con}(hc:c∈cons):StepOK d.length (usesR c) (fun g=>(c.kind=4→0≤g c.b∧g c.b≤1)→holdsR c (tabG d.length g)=true) (oneO c):=one_step h.gd (h.con c hc).2 (h.right c hc)
theorem RunOk.ends {d:Doms}{cons:List Con}(h:RunOk d cons):AllEnds cons d (allO cons d):=ends_have h.gd fun c hc=>(h.step hc).takes
theorem RunOk.less {d e:Doms}{cons:List Con}(h:RunOk d cons)(ge:GoodD d.length e)(hle:leD e d):RunOk e cons:=
 ⟨by rw[ge.len];exact ge,h.con,fun c hc=>right_mono (h.con c hc).2 h.gd ge hle (h.right c hc),Nat.le_trans (prodD_leD ge h.gd hle) h.prod,h.few⟩
theorem RunOk.sub {d:Doms}{cons l:List Con}(h:RunOk d cons)(hs: ∀c∈l,c∈cons)(hf:l.length≤4096):RunOk d l:=⟨h.gd,fun c hc=>h.con c (hs c hc),fun c hc=>h.right c (hs c hc),h.prod,hf⟩
theorem fine_dok {e:Doms}(hx: ∀x∈e,Fine x)(v:Int):DomOk (domAt e v):=by
 unfold domAt
 by_cases hv:v.toNat<e.length
 ·rw[List.getD_eq_getElem?_getD,List.getElem?_eq_getElem hv]
  exact(hx _ (List.getElem_mem hv)).ok
 ·rw[List.getD_eq_getElem?_getD,List.getElem?_eq_none (by omega)]
  exact⟨by simp,.nil⟩
theorem alls_spec {d e:Doms}{cons:List Con}(h:RunOk d cons)(hx: ∀x∈e,Fine x∧(vals x).length≤4096)(hle:leD e d):
  Spec Tryz.prog 16 false [doms e,consPV cons] (pruneRes (allO cons e))∧Spec Tryz.prog 17 false [doms e,consPV cons] (refRes (allO cons e)):=by
 have hel:=hle.1
 have hd:=h.gd.few.small
 have hfw:=h.few
 have hu:=uses_sum fun c hc=>(h.con c hc).1
 have hok:ConsOk e cons:=⟨fun c hc=>(h.con c hc).2,fun c hc=>right_sub (h.con c hc).2 h.gd (fun v _=>fine_dok (fun x hm=>(hx x hm).1) v) hle (h.right c hc),by omega,by omega⟩
 have hg: ∀c∈cons,∀out,GoodD e.length out→leD out e→_:=fun c hc out go hl=>by
  have ho:=h.less (by rw[←hel];exact go) ((orderD 0).trans _ _ _ hl hle)
  exact ones_spec ho.gd (ho.con c hc).2 (ho.right c hc) ho.prod
 exact⟨fall_spec e cons (by omega) hx hok fun c hc out go hl=>(hg c hc out go hl).1,rall_spec e cons (by omega) hx hok fun c hc out go hl=>(hg c hc out go hl).2⟩
theorem GoodD.fx {n:Nat}{d:Doms}(h:GoodD n d): ∀x∈d,Fine x∧(vals x).length≤4096:=fun x hx=>⟨h.few.fine x hx,h.few.few x hx⟩
theorem leD.rfl' {d:Doms}:leD d d:=(orderD 0).refl d
theorem sub_in {l m:Doms}(h:Sub l m):withinR l m=true:=by
 rw[withinR_iff]
 refine⟨h.1,fun i x y hx hy=> ?_⟩
 have hs:=h.2 i x y hx hy
 have:(vals x).filter (fun v=>decide (v∈vals y)==false)=[]:=by
  rw[List.filter_eq_nil_iff]
  intro v hv
  simp[hs v hv]
 rw[pickR,this];rfl
theorem leD.within {n:Nat}{a b:Doms}(ga:GoodD n a)(gb:GoodD n b)(h:leD a b):withinR a b=true:=sub_in (h.sub ga gb)
theorem stays_holds {d e:Doms}{cons:List Con}{a:List Int}(h:RunOk d cons)(ge:GoodD d.length e)(hle:leD e d)(hl:a.length=d.length)(hv: ∀u:Int,0≤u→u.toNat<d.length→vals (domAt e u)=[atR a u]):Stays oneO cons e↔∀c∈cons,holdsR c a=true:=by
 have he:=h.less ge hle
 have key: ∀c∈cons,(oneO c e=some e↔holdsR c a=true):=fun c hc=>by
  have hs:=h.step hc
  have hp:=hs.point e ge (atR a) fun u hu=>hv u (hs.in' u hu).1 (hs.in' u hu).2
  rw[hp,tab_self hl]
  refine⟨fun hh=>hh fun h4=> ?_,fun hh _=>hh⟩
  obtain⟨_,_,hr,hin⟩:=right_split (he.con c hc).2 (he.right c hc)
  have hb:=hin c.b (uses_mem.2 (.inr ⟨h4,rfl⟩))
  rw[ge.len]at hb
  unfold rightR at hr
  rw[if_neg (by omega),if_neg (by omega),if_neg (by omega),if_neg (by omega),if_pos h4]at hr
  simp only[Bool.and_eq_true]at hr
  exact(truth_vals (ge.dok c.b)).1 hr.1.2 _ (by rw[hv c.b hb.1 hb.2];simp)
 exact⟨fun hs c hc=>(key c hc).1 (hs c hc),fun hh c hc=>(key c hc).2 (hh c hc)⟩
def pdom (a:List Int):Doms:=a.map fun x=>[(x,x)]
theorem pdom_ok {n:Nat}{d:Doms}(gd:GoodD n d){a:List Int}(hl:a.length=n)(ha: ∀i,i<n→a.getD i 0∈vals (d.getD i [])):GoodD n (pdom a)∧leD (pdom a) d∧∀u:Int,0≤u→u.toNat<n→vals (domAt (pdom a) u)=[atR a u]:=by
 have hv: ∀u:Int,0≤u→u.toNat<n→vals (domAt (pdom a) u)=[atR a u]:=fun u h0 hu=>by
  unfold domAt pdom atR
  rw[if_neg (by omega),List.getD_eq_getElem?_getD,List.getElem?_map,List.getD_eq_getElem?_getD,List.getElem?_eq_getElem (by omega)]
  simp[vals,rng_self]
 have hr: ∀x∈a,-1048576≤x∧x≤1048576:=fun x hx=>by
  obtain⟨i,hi⟩:=List.getElem?_of_mem hx
  have hil:=(List.getElem?_eq_some_iff.1 hi).1
  have h1:=ha i (by omega)
  rw[getD_at hil,(List.getElem?_eq_some_iff.1 hi).2]at h1
  exact(gd.few.at (i:Int)).2.2 x (by unfold domAt;rw[Int.toNat_natCast];exact h1)
 refine⟨⟨⟨by have:=gd.few.small;have:=gd.len;simp[pdom];omega,fun x hx=> ?_,fun x hx=> ?_⟩,by simp[pdom,hl],by simp[pdom]⟩,⟨by simp[pdom,hl,gd.len],fun v x h0 hx=> ?_⟩,hv⟩
 ·obtain⟨y,hy,rfl⟩:=List.mem_map.1 hx
  exact fine1 (Int.le_refl _) (hr y hy).1 (hr y hy).2
 ·obtain⟨y,hy,rfl⟩:=List.mem_map.1 hx
  simp[vals,rng_self]
 ·by_cases hlt:v.toNat<n
  ·rw[hv v h0 hlt]at hx
   have h1:=ha v.toNat hlt
   have e:atR a v=a.getD v.toNat 0:=by unfold atR;rw[if_neg (by omega)]
   rw[e]at hx
   rw[List.mem_singleton.1 hx];exact h1
  ·rw[dom_none (by simp[pdom];omega)]at hx;cases hx
theorem keeps_pdom {n:Nat}{out:Doms}{a:List Int}(hn:out.length=n)(hl:a.length=n)(h:leD (pdom a) out)(hv: ∀u:Int,0≤u→u.toNat<n→vals (domAt (pdom a) u)=[atR a u]):keepsR out a=true:=by
 unfold keepsR
 rw[Bool.and_eq_true,decide_eq_true_eq,List.all_eq_true]
 refine⟨fun i hi=> ?_,by omega⟩
 have hi:=List.mem_range.1 hi
 rw[decide_eq_true_eq]
 have:=h.2 (i:Int) (atR a i) (by omega) (by rw[hv i (by omega) (by omega)];simp)
 unfold domAt atR at this
 rw[if_neg (by omega),Int.toNat_natCast]at this
 exact this
theorem pick_less {x:List (Int×Int)}(hf:Fine x)(hl:(vals x).length≤4096)(y:List (Int×Int)):Fine (pickR x y false)∧(vals (pickR x y false)).length≤4096∧∀v∈vals (pickR x y false),v∈vals x:=by
 have hu:Up ((vals x).filter fun v=>decide (v∈vals y)==false):=(vals_up hf.ok).filter _
 have hln:((vals x).filter fun v=>decide (v∈vals y)==false).length≤4096:=Nat.le_trans (List.length_filter_le _ _) hl
 unfold pickR
 rw[vals_pack hu]
 exact⟨packU_fine hu (fun v hv=>hf.val v (List.mem_filter.1 hv).1) hln,hln,fun v hv=>(List.mem_filter.1 hv).1⟩
theorem less_ok {n:Nat}{d:Doms}(gd:GoodD n d)(take:List Int):(∀x∈lessR d take,Fine x∧(vals x).length≤4096)∧leD (lessR d take) d∧([]∉lessR d take→GoodD n (lessR d take)):=by
 have h1: ∀x∈lessR d take,Fine x∧(vals x).length≤4096:=fun x hx=>by
  obtain⟨y,hy,rfl⟩:=List.mem_map.1 hx
  obtain⟨a,b,_⟩:=pick_less (gd.few.fine y hy) (gd.few.few y hy) (smallR take)
  exact⟨a,b⟩
 have hlen:(lessR d take).length=d.length:=by simp[lessR]
 refine⟨h1,⟨hlen,fun v x h0 hx=> ?_⟩,fun hne=>⟨⟨by rw[hlen];exact gd.few.small,fun x hx=>(h1 x hx).1,fun x hx=>(h1 x hx).2⟩,by rw[hlen,gd.len],hne⟩⟩
 unfold domAt at hx⊢
 by_cases hv:v.toNat<d.length
 ·rw[List.getD_eq_getElem?_getD,List.getElem?_eq_getElem hv]
  rw[List.getD_eq_getElem?_getD,lessR,List.getElem?_map,List.getElem?_eq_getElem hv]at hx
  have hm:=List.getElem_mem hv
  exact(pick_less (gd.few.fine _ hm) (gd.few.few _ hm) (smallR take)).2.2 x hx
 ·rw[List.getD_eq_getElem?_getD,List.getElem?_eq_none (by omega)]at hx;cases hx
def boundV (v:ByteArray×List (Int×Int)):ByteArray×List (Int×Int):=(v.1.extract 0 (min v.1.size 20),v.2.take (min v.2.length 12))
def boundC (c:Con):Con:=⟨c.kind,c.vars.take (min c.vars.length 14),c.coefs.take (min c.coefs.length 14),c.op,c.rhs,(c.rows.take 20).map fun r=>r.take (min r.length 14),c.b⟩
def boundM (m:Mod):Mod:=⟨(m.vars.take 10).map boundV,(m.cons.take 16).map boundC,⟨m.goal.kind,m.goal.vars.take (min m.goal.vars.length 14),m.goal.coefs.take (min m.goal.coefs.length 14)⟩⟩
structure ModI (m:Mod):Prop where
 vn: ∀v∈m.vars,v.2.length*8≤140737488355328
 vl:m.vars.length*8≤140737488355328
 cl:m.cons.length*8≤140737488355328
 cb: ∀c∈m.cons,c.vars.length*8≤140737488355328∧c.coefs.length*8≤140737488355328∧c.rows.length*8≤140737488355328∧∀r∈c.rows,r.length*8≤140737488355328
 gl:m.goal.vars.length*8≤140737488355328∧m.goal.coefs.length*8≤140737488355328
theorem bound_ok (m:Mod):ModB (boundM m):=by
 refine⟨by simp[boundM];omega,fun v hv=> ?_,by simp[boundM];omega,fun c hc=> ?_,by simp[boundM];omega⟩
 ·obtain⟨u,_,rfl⟩:=List.mem_map.1 hv
  simp[boundV,ByteArray.size_extract];omega
 ·obtain⟨u,_,rfl⟩:=List.mem_map.1 hc
  refine⟨by simp[boundC];omega,by simp[boundC];omega,by simp[boundC];omega,fun r hr=> ?_⟩
  obtain⟨q,_,rfl⟩:=List.mem_map.1 hr
  simp;omega
def bxM (u1 u2:Value)(g:Goal):List PV:=[.raw u1,.raw u2,.int .i64 g.kind,ints g.vars,ints g.coefs]
set_option maxHeartbeats 1000000 in
theorem bound_spec (m:Mod)(hm:ModI m):Spec Tryz.prog 25 true [.agg (cM m)] [.val (.agg (cM (boundM m)))]:=by
 refine Spec.body Tryz.func25 rfl rfl rfl fun w0 Z0=> ?_
 obtain⟨b1,b2,b3,b4,b5⟩:=hm
 repeat(refine .A ?_;conv=>whnf)
 refine J.al rfl rfl rfl rfl rfl rfl rfl ?_
 refine J.nil ?_
 refine T.seq ?_
 refine T.r ?_
 refine J.sub (Rel.unbx (s:=1) (fun _ h=>h) rfl rfl) ?_
 refine J.H rfl ?_
 conv=>whnf
 refine J.H rfl ?_
 conv=>whnf
 refine J.bz [.raw (.slice none 0 0),.raw (.slice none 0 0),.int .i64 0,.sl [],.sl []] rfl rfl rfl rfl rfl rfl rfl rfl (fun w Z=> .cons (.raw _ rfl) (.cons (.raw _ rfl) (.cons (.int _ _) (.cons .nilsl (.cons .nilsl .nil))))) (by simp[PV.one]) rfl rfl rfl ?_
 conv=>whnf
 refine J.al rfl rfl rfl rfl rfl rfl rfl ?_
 refine J.w rfl rfl rfl rfl rfl rfl rfl rfl rfl rfl ?_
 refine J.nil ?_
 refine T.nilO 1001 58 2 rfl ?_
 refine T.nilO 1002 38 7 rfl ?_
 refine T.sub (Rel.wk (o:=3) rfl) ?_
 refine T.sub (Rel.wk (o:=4) rfl) ?_
 refine T.mids (fun u:Value=>⟨[(1,.fptr false (cM m)),(2,.optr 0 0 0 0),(3,.optr 1 0 0 0),(1001,.eq u 2),(1002,.eq (.slice none 0 0) 3)],[(0,some (.box true [.sl [],.sl [],.int .i64 0,.sl [],.sl []])),(1,some (.box false (bxM u (.slice none 0 0) m.goal))),(2,some (.sl 58 2 false ((boundM m).vars.map cV))),(3,some (.sl 38 7 false []))],4⟩) ?_ fun u1=> ?_
 ·repeat(refine .N ?_;conv=>whnf)
  refine T.K (T.ind (fun s:Nat×Value=>⟨[(1,.fptr false (cM m)),(2,.optr 0 0 0 0),(3,.optr 1 0 0 0),(4,.val true (.int .i64 s.1)),(1001,.eq s.2 2),(1002,.eq (.slice none 0 0) 3)],[(0,some (.box true [.sl [],.sl [],.int .i64 0,.sl [],.sl []])),(1,some (.box false (bxM s.2 (.slice none 0 0) m.goal))),(2,some (.sl 58 2 false (((m.vars.take s.1).map boundV).map cV))),(3,some (.sl 38 7 false []))],4⟩) (fun s=>s.1≤min m.vars.length 10) (fun s=>10-s.1) (0,.slice none 0 0) (Nat.zero_le _) (fun _ _ h=>by cases h.1) ?_)
  rintro⟨i,u⟩ hi ih
  simp only at hi
  repeat(refine .A ?_;conv=>whnf)
  refine J.g rfl rfl rfl (fun h1=> ?_) (fun h1=> ?_)
  ·have h1:i<m.vars.length:=by simpa using h1
   repeat(refine .A ?_;conv=>whnf)
   refine T.cd rfl (fun h2=> ?_) (fun h2=> ?_)
   ·have h2:i<10:=by omega
    have hrow:(m.vars.map cV)[((i:Nat):Int).toNat]? =some (cV m.vars[i]):=by simp[h1]
    have hv:=b1 _ (List.getElem_mem h1)
    have htk:(m.vars.take (i+1)).map boundV=(m.vars.take i).map boundV++[boundV m.vars[i]]:=by rw[List.take_succ_eq_append_getElem h1,List.map_append];rfl
    have hln:((m.vars.take i).map boundV).length≤10:=by simp;omega
    have ih1:=fun u'=>ih (i+1,u') (by show _≤min _ _;omega) (by show _-_<_-_;omega)
    simp only[htk,List.map_append]at ih1
    generalize (m.vars.take i).map boundV=out at*
    generalize m.vars[i]=v at*
    obtain⟨nm,dd⟩:=v
    simp only at hv
    repeat(refine .A ?_;conv=>whnf)
    refine .I (r:=cV (nm,dd)) hrow ?_
    repeat(refine .A ?_;conv=>whnf)
    refine J.al rfl rfl rfl rfl rfl rfl rfl ?_
    refine J.w rfl rfl rfl rfl rfl rfl rfl rfl rfl rfl ?_
    repeat(refine .N ?_;conv=>whnf)
    refine T.rdw 22 rfl (by kernel_rfl) rfl ?_
    refine J.H rfl ?_
    refine J.lr 1001 (q:=2) (u:=u) rfl rfl rfl rfl rfl rfl rfl rfl rfl ?_
    repeat(refine .N ?_;conv=>whnf)
    refine J.ss (min nm.size 20) rfl rfl rfl rfl rfl rfl rfl (by simp;omega) (Nat.min_le_left _ _) ?_
    repeat(refine .N ?_;conv=>whnf)
    refine .O ?_
    repeat(refine .N ?_;conv=>whnf)
    refine J.s1 (enc:=cR) (l:=dd) (min dd.length 12) rfl rfl rfl rfl rfl rfl rfl rfl rfl (fun _=>rfl) (by simp;omega) (by omega) ?_
    refine J.adf (fun _ h=>h) rfl rfl rfl rfl rfl rfl rfl rfl rfl rfl rfl rfl rfl rfl rfl rfl rfl len_R (by show(0+List.length _)*16≤_;simp;omega) ?_
    repeat(refine .N ?_;conv=>whnf)
    refine .V ?_
    refine J.ad rfl rfl rfl rfl rfl rfl rfl rfl rfl rfl rfl rfl rfl rfl rfl rfl rfl rfl (one_len rfl) (by show(List.length _+1)*40≤_;simp;omega) ?_
    repeat(refine .N ?_;conv=>whnf)
    refine⟨by kernel_rfl,?_⟩
    refine J.name 1001 (s:=49) rfl rfl rfl fun u'=> ?_
    refine J.sub (Rel.raw (s:=49) (g:=1001) rfl (.inl rfl) rfl rfl rfl) ?_
    refine J.w rfl rfl rfl rfl rfl rfl rfl rfl rfl rfl ?_
    repeat(refine .A ?_;conv=>whnf)
    rw[wrap1 (l:=m.vars.length) (n:=i) h1 b2]
    exact T.K (ih1 u')
   ·have e:i=10:=by omega
    subst e
    repeat(refine .A ?_;conv=>whnf)
    exact⟨rfl,u,[1,2,3,1001,1002],[2,3,1001,1002],rfl,rfl⟩
  ·have e:i=m.vars.length:=by simp at h1;omega
   subst e
   have e2:m.vars.take 10=m.vars:=List.take_of_length_le (by omega)
   rw[show(boundM m).vars=(m.vars.take 10).map boundV from rfl,e2,List.take_length]
   repeat(refine .A ?_;conv=>whnf)
   refine T.cf rfl ?_
   repeat(refine .A ?_;conv=>whnf)
   exact⟨rfl,u,[1,2,3,1001,1002],[2,3,1001,1002],rfl,rfl⟩
 ·refine T.mids (fun u2:Value=>⟨[(1,.fptr false (cM m)),(2,.optr 0 0 0 0),(3,.optr 1 0 0 0),(1001,.eq u1 2),(1002,.eq u2 3)],[(0,some (.box true [.sl [],.sl [],.int .i64 0,.sl [],.sl []])),(1,some (.box false (bxM u1 u2 m.goal))),(2,some (.sl 58 2 false ((boundM m).vars.map cV))),(3,some (.sl 38 7 false ((boundM m).cons.map cC)))],4⟩) ?_ fun u2=> ?_
  ·repeat(refine .N ?_;conv=>whnf)
   refine T.K (T.ind (fun s:Nat×Value=>⟨[(1,.fptr false (cM m)),(2,.optr 0 0 0 0),(3,.optr 1 0 0 0),(6,.val true (.int .i64 s.1)),(1001,.eq u1 2),(1002,.eq s.2 3)],[(0,some (.box true [.sl [],.sl [],.int .i64 0,.sl [],.sl []])),(1,some (.box false (bxM u1 s.2 m.goal))),(2,some (.sl 58 2 false ((boundM m).vars.map cV))),(3,some (.sl 38 7 false (((m.cons.take s.1).map boundC).map cC)))],4⟩) (fun s=>s.1≤min m.cons.length 16) (fun s=>16-s.1) (0,.slice none 0 0) (Nat.zero_le _) (fun _ _ h=>by cases h.1) ?_)
   rintro⟨i,u⟩ hi ih
   simp only at hi
   repeat(refine .A ?_;conv=>whnf)
   refine J.g rfl rfl rfl (fun h1=> ?_) (fun h1=> ?_)
   ·have h1:i<m.cons.length:=by simpa[consPV]using h1
    repeat(refine .A ?_;conv=>whnf)
    refine T.cd rfl (fun h2=> ?_) (fun h2=> ?_)
    ·have h2:i<16:=by omega
     have hrow:(m.cons.map cC)[((i:Nat):Int).toNat]? =some (cC m.cons[i]):=by simp[h1]
     have hv:=b4 _ (List.getElem_mem h1)
     have htk:(m.cons.take (i+1)).map boundC=(m.cons.take i).map boundC++[boundC m.cons[i]]:=by rw[List.take_succ_eq_append_getElem h1,List.map_append];rfl
     have hln:((m.cons.take i).map boundC).length≤16:=by simp;omega
     have ih1:=fun u'=>ih (i+1,u') (by show _≤min _ _;omega) (by show _-_<_-_;omega)
     simp only[htk]at ih1
     generalize (m.cons.take i).map boundC=out at*
     generalize m.cons[i]=c at*
     obtain⟨kind,vars,coefs,op,rhs,rows,b⟩:=c
     simp only at hv
     repeat(refine .A ?_;conv=>whnf)
     refine .I (r:=cC ⟨kind,vars,coefs,op,rhs,rows,b⟩) hrow ?_
     repeat(refine .A ?_;conv=>whnf)
     refine J.al rfl rfl rfl rfl rfl rfl rfl ?_
     refine J.w rfl rfl rfl rfl rfl rfl rfl rfl rfl rfl ?_
     repeat(refine .N ?_;conv=>whnf)
     refine J.s1 (enc:=cI) (l:=vars) (min vars.length 14) rfl rfl rfl rfl rfl rfl rfl rfl rfl (fun _=>rfl) (by simp;omega) (by omega) ?_
     repeat(refine .N ?_;conv=>whnf)
     refine J.w rfl rfl rfl rfl rfl rfl rfl rfl rfl rfl ?_
     repeat(refine .N ?_;conv=>whnf)
     refine J.s1 (enc:=cI) (l:=coefs) (min coefs.length 14) rfl rfl rfl rfl rfl rfl rfl rfl rfl (fun _=>rfl) (by simp;omega) (by omega) ?_
     repeat(refine .N ?_;conv=>whnf)
     refine J.w rfl rfl rfl rfl rfl rfl rfl rfl rfl rfl ?_
     repeat(refine .N ?_;conv=>whnf)
     refine .O ?_
     refine J.H rfl ?_
     conv=>whnf
     refine J.nil ?_
     refine T.sub (Rel.wk (o:=5) rfl) ?_
     refine T.mid ⟨[(1,.fptr false (cM m)),(2,.optr 0 0 0 0),(3,.optr 1 0 0 0),(6,.val true (.int .i64 i)),(7,.optr 4 0 0 0),(8,.ref 5),(1001,.eq u1 2),(1002,.eq u 3)],[(0,some (.box true [.sl [],.sl [],.int .i64 0,.sl [],.sl []])),(1,some (.box false (bxM u1 u m.goal))),(2,some (.sl 58 2 false ((boundM m).vars.map cV))),(3,some (.sl 38 7 false (out.map cC))),(4,some (.box false (cC ⟨kind,vars.take (min vars.length 14),coefs.take (min coefs.length 14),op,rhs,rows,b⟩))),(5,some (.sl 24 1 false (((rows.take 20).map fun r=>r.take (min r.length 14)).map cL)))],6⟩ ?_ ?_
     ·repeat(refine .N ?_;conv=>whnf)
      refine T.K (T.ind (fun k:Nat=>⟨[(1,.fptr false (cM m)),(2,.optr 0 0 0 0),(3,.optr 1 0 0 0),(6,.val true (.int .i64 i)),(7,.optr 4 0 0 0),(8,.ref 5),(9,.val true (.int .i64 k)),(1001,.eq u1 2),(1002,.eq u 3)],[(0,some (.box true [.sl [],.sl [],.int .i64 0,.sl [],.sl []])),(1,some (.box false (bxM u1 u m.goal))),(2,some (.sl 58 2 false ((boundM m).vars.map cV))),(3,some (.sl 38 7 false (out.map cC))),(4,some (.box false (cC ⟨kind,vars.take (min vars.length 14),coefs.take (min coefs.length 14),op,rhs,rows,b⟩))),(5,some (.sl 24 1 false (((rows.take k).map fun r=>r.take (min r.length 14)).map cL)))],6⟩) (fun k=>k≤min rows.length 20) (fun k=>20-k) 0 (Nat.zero_le _) (fun _ _ h=>by cases h.1) ?_)
      rintro k hk ihk
      repeat(refine .A ?_;conv=>whnf)
      refine J.g rfl rfl rfl (fun h3=> ?_) (fun h3=> ?_)
      ·have h3:k<rows.length:=by simpa using h3
       repeat(refine .A ?_;conv=>whnf)
       refine T.cd rfl (fun h4=> ?_) (fun h4=> ?_)
       ·have h4:k<20:=by omega
        have hrk:(rows.map cL)[((k:Nat):Int).toNat]? =some (cL rows[k]):=by simp[h3]
        have hr8:=hv.2.2.2 _ (List.getElem_mem h3)
        have htkr:(rows.take (k+1)).map (fun r=>r.take (min r.length 14))=(rows.take k).map (fun r=>r.take (min r.length 14))++[rows[k].take (min rows[k].length 14)]:=by rw[List.take_succ_eq_append_getElem h3,List.map_append];rfl
        have hlr:((rows.take k).map fun r=>r.take (min r.length 14)).length≤20:=by simp;omega
        have ihk1:=ihk (k+1) (by omega) (by omega)
        rw[htkr]at ihk1
        generalize (rows.take k).map (fun r=>r.take (min r.length 14))=outr at*
        generalize rows[k]=r at*
        repeat(refine .N ?_;conv=>whnf)
        refine T.rdm 15 rfl (by kernel_rfl) rfl ?_
        repeat(refine .N ?_;conv=>whnf)
        refine .I (r:=cL r) hrk ?_
        repeat(refine .N ?_;conv=>whnf)
        refine .I (r:=cL r) hrk ?_
        repeat(refine .N ?_;conv=>whnf)
        refine J.s1 (enc:=cI) (l:=r) (min r.length 14) rfl rfl rfl rfl rfl rfl rfl rfl rfl (fun _=>rfl) (by simp;omega) (by omega) ?_
        repeat(refine .N ?_;conv=>whnf)
        refine .V ?_
        repeat(refine .N ?_;conv=>whnf)
        refine J.a1 (enc:=cL) (x:=r.take (min r.length 14)) (B:=24) rfl rfl rfl rfl rfl rfl rfl rfl rfl rfl rfl rfl rfl rfl rfl rfl rfl rfl rfl rfl (by omega) ?_
        repeat(refine .N ?_;conv=>whnf)
        rw[wrap1 (l:=rows.length) (n:=k) h3 (by omega)]
        exact T.K ihk1
       ·have e:k=20:=by omega
        subst e
        repeat(refine .A ?_;conv=>whnf)
        exact⟨rfl,[1,2,3,6,7,8,1001,1002],[2,3,1001,1002,7,8],rfl,rfl⟩
      ·have e:k=rows.length:=by simp at h3;omega
       have e2:rows.take 20=rows.take k:=by rw[e,List.take_of_length_le (Nat.le_refl _),List.take_of_length_le (by omega)]
       rw[e2]
       repeat(refine .A ?_;conv=>whnf)
       refine T.cf rfl ?_
       repeat(refine .A ?_;conv=>whnf)
       exact⟨rfl,[1,2,3,6,7,8,1001,1002],[2,3,1001,1002,7,8],rfl,rfl⟩
     ·refine T.sub (Rel.frz (s:=8) (fun _ h=>h) rfl rfl) ?_
      have hown:=own_spec ⟨kind,vars.take (min vars.length 14),coefs.take (min coefs.length 14),op,rhs,(rows.take 20).map fun r=>r.take (min r.length 14),b⟩ ⟨by simp;omega,by simp;omega,by simp;omega,fun x hx=>by
       obtain⟨y,_,rfl⟩:=List.mem_map.1 hx
       simp;omega⟩
      rw[show boundC ⟨kind,vars,coefs,op,rhs,rows,b⟩=⟨kind,vars.take (min vars.length 14),coefs.take (min coefs.length 14),op,rhs,(rows.take 20).map fun r=>r.take (min r.length 14),b⟩from rfl]at ih1
      generalize vars.take (min vars.length 14)=vars2 at*
      generalize coefs.take (min coefs.length 14)=coefs2 at*
      generalize (rows.take 20).map (fun r=>r.take (min r.length 14))=rows2 at*
      repeat(refine .N ?_;conv=>whnf)
      refine J.w rfl rfl rfl rfl rfl rfl rfl rfl rfl rfl ?_
      repeat(refine .N ?_;conv=>whnf)
      refine T.rdm 5 rfl (by kernel_rfl) rfl ?_
      refine J.H rfl ?_
      refine J.lr 1002 (q:=3) (u:=u) rfl rfl rfl rfl rfl rfl rfl rfl rfl ?_
      repeat(refine .N ?_;conv=>whnf)
      refine .C hown ?_
      repeat(refine .N ?_;conv=>whnf)
      refine .V ?_
      repeat(refine .N ?_;conv=>whnf)
      refine J.a1 (enc:=cC) (x:=⟨kind,vars2,coefs2,op,rhs,rows2,b⟩) (B:=104) rfl rfl rfl rfl rfl rfl rfl rfl rfl rfl rfl rfl rfl rfl rfl rfl rfl rfl rfl rfl (by omega) ?_
      repeat(refine .N ?_;conv=>whnf)
      refine J.name 1002 (s:=118) rfl rfl rfl fun u'=> ?_
      refine J.sub (Rel.raw (s:=118) (g:=1002) rfl (.inl rfl) rfl rfl rfl) ?_
      refine J.w rfl rfl rfl rfl rfl rfl rfl rfl rfl rfl ?_
      repeat(refine .N ?_;conv=>whnf)
      rw[wrap1 (l:=m.cons.length) (n:=i) h1 b3]
      exact T.K (ih1 u')
    ·have e:i=16:=by omega
     subst e
     repeat(refine .A ?_;conv=>whnf)
     exact⟨rfl,u,[1,2,3,1001,1002],[2,3,1001,1002],rfl,rfl⟩
   ·have e:i=m.cons.length:=by simp[consPV]at h1;omega
    subst e
    have e2:m.cons.take 16=m.cons:=List.take_of_length_le (by omega)
    rw[show(boundM m).cons=(m.cons.take 16).map boundC from rfl,e2,List.take_length]
    repeat(refine .A ?_;conv=>whnf)
    refine T.cf rfl ?_
    repeat(refine .A ?_;conv=>whnf)
    exact⟨rfl,u,[1,2,3,1001,1002],[2,3,1001,1002],rfl,rfl⟩
  ·repeat(refine .N ?_;conv=>whnf)
   refine .O ?_
   repeat(refine .N ?_;conv=>whnf)
   refine J.s1 (enc:=cI) (l:=m.goal.vars) (min m.goal.vars.length 14) rfl rfl rfl rfl rfl rfl rfl rfl rfl (fun _=>rfl) (by simp;omega) (by omega) ?_
   repeat(refine .N ?_;conv=>whnf)
   refine J.am (enc:=cI) (l:=([]:List Int)) (l2:=m.goal.vars.take (min m.goal.vars.length 14)) (B:=8) rfl rfl rfl rfl rfl rfl rfl rfl rfl rfl rfl rfl rfl rfl rfl rfl rfl (fun _=>rfl) rfl (by simp;omega) ?_
   refine J.sub (Rel.frz (s:=130) (fun _ h=>h) rfl rfl) ?_
   repeat(refine .N ?_;conv=>whnf)
   refine J.w rfl rfl rfl rfl rfl rfl rfl rfl rfl rfl ?_
   repeat(refine .N ?_;conv=>whnf)
   refine .O ?_
   repeat(refine .N ?_;conv=>whnf)
   refine J.s1 (enc:=cI) (l:=m.goal.coefs) (min m.goal.coefs.length 14) rfl rfl rfl rfl rfl rfl rfl rfl rfl (fun _=>rfl) (by simp;omega) (by omega) ?_
   repeat(refine .N ?_;conv=>whnf)
   refine J.am (enc:=cI) (l:=([]:List Int)) (l2:=m.goal.coefs.take (min m.goal.coefs.length 14)) (B:=8) rfl rfl rfl rfl rfl rfl rfl rfl rfl rfl rfl rfl rfl rfl rfl rfl rfl (fun _=>rfl) rfl (by simp;omega) ?_
   refine J.sub (Rel.frz (s:=143) (fun _ h=>h) rfl rfl) ?_
   repeat(refine .N ?_;conv=>whnf)
   refine J.w rfl rfl rfl rfl rfl rfl rfl rfl rfl rfl ?_
   refine J.sub (fun a w h=>Rel.meltB (i:=0) (qc:=1) (q:=2) (g:=1001) (fun _ h=>h) rfl rfl rfl rfl rfl h) ?_
   refine J.sub (fun a w h=>Rel.meltB (i:=1) (qc:=1) (q:=3) (g:=1002) (fun _ h=>h) rfl rfl rfl rfl rfl h) ?_
   repeat(refine .N ?_;conv=>whnf)
   refine J.w rfl rfl rfl rfl rfl rfl rfl rfl rfl rfl ?_
   repeat(refine .N ?_;conv=>whnf)
   exact⟨_,.c rfl rfl rfl rfl (fun h=>by cases h) .nil⟩
def okM (m:Mod)(most:Nat):Bool:=decide (checkR m=0)&&smallD (domsM m) most
structure RightM (m:Mod):Prop where
 b:ModB m
 good:GoodD (domsM m).length (domsM m)
 con: ∀c∈m.cons,ConB c
 right: ∀c∈m.cons,conR (domsM m) c=0
theorem check_dom {m:Mod}(h:checkR m=0):(∀i,i<m.vars.length→dmM m i≠[]∧chkR (dmM m i)=0)∧∀c∈m.cons,conR (domsM m) c=0:=by
 unfold checkR at h
 split at h
 ·cases h
 ·split at h
  ·rename_i h1;exact absurd h h1
  ·rename_i h1
   have h1:firstE ((List.range m.vars.length).map (varR m))=0:=Classical.byContradiction h1
   split at h
   ·rename_i h2;exact absurd h h2
   ·rename_i h2
    have h2:firstE (m.cons.map (conR (domsM m)))=0:=Classical.byContradiction h2
    refine⟨fun i hi=> ?_,fun c hc=>firstE_zero h2 _ (List.mem_map.2 ⟨c,hc,rfl⟩)⟩
    have h3:=firstE_zero h1 _ (List.mem_map.2 ⟨i,List.mem_range.2 hi,rfl⟩)
    unfold varR at h3
    split at h3
    ·cases h3
    ·split at h3
     ·cases h3
     ·split at h3
      ·cases h3
      ·rename_i h4
       exact⟨fun e=>h4 (.inl e),Classical.byContradiction fun e=>h4 (.inr e)⟩
theorem check_fine {m:Mod}(hb:ModB m)(h:checkR m=0):RightM m:=by
 obtain⟨h1,h2⟩:=check_dom h
 have hx: ∀x∈domsM m,x≠[]∧chkR x=0:=fun x hx=>by
  obtain⟨v,hv,rfl⟩:=List.mem_map.1 hx
  obtain⟨i,hi⟩:=List.getElem?_of_mem hv
  have hl:=(List.getElem?_eq_some_iff.1 hi).1
  have:=h1 i hl
  unfold dmM at this
  rw[List.getD_eq_getElem?_getD,hi]at this
  exact this
 refine⟨hb,⟨⟨by have:=hb.vl;simp[domsM];omega,fun x h=>(chkR_ok (hx x h).2).1,fun x h=>(chkR_ok (hx x h).2).2⟩,rfl,fun h=>(hx _ h).1 rfl⟩,fun c hc=> ?_,h2⟩
 obtain⟨c1,c2,c3,c4⟩:=hb.cb c hc
 exact⟨by omega,by omega,by omega,fun r hr=>by have:=c4 r hr;omega⟩
theorem lright_spec (m:Mod)(most:Nat)(hm:ModI m)(h1:1≤most∧most≤1048576):Spec Tryz.prog 10 true [.agg (cM m),.int .i64 most] [.val (.agg (cM (boundM m))),.val (.bool (okM (boundM m) most))]:=by
 refine Spec.body Tryz.func10 rfl rfl rfl fun w0 Z0=> ?_
 have hbs:=bound_spec m hm
 have hb:=bound_ok m
 have hck:=mcheck_spec _ hb
 have hds:=rdoms_spec _ hb
 have hri:=fun h=>check_fine hb h
 have hok:okM (boundM m) most=(decide (checkR (boundM m)=0)&&smallD (domsM (boundM m)) most):=rfl
 generalize okM (boundM m) most=ok at*
 generalize boundM m=b at*
 have hsm:=fun h=>rsmall_spec (domsM b) most h1 (hri h).good.few
 generalize domsM b=d at*
 generalize smallD d most=sm at*
 generalize checkR b=ck at*
 repeat(refine .A ?_;conv=>whnf)
 refine J.al rfl rfl rfl rfl rfl rfl rfl ?_
 repeat(refine .N ?_;conv=>whnf)
 refine .C hbs ?_
 repeat(refine .N ?_;conv=>whnf)
 refine J.w rfl rfl rfl rfl rfl rfl rfl rfl rfl rfl ?_
 repeat(refine .N ?_;conv=>whnf)
 refine T.K (?_:T _ _ ⟨[(1,.val false (.int .i64 most)),(2,.optr 0 0 0 0),(4,.optr 1 0 0 0),(5,.val true (.bool false))],[(0,some (.box false (cM b))),(1,some (.box true [.sl [],.sl [],.int .i64 0,.sl [],.sl []]))],2⟩ _)
 refine T.rdw 11 rfl (by kernel_rfl) rfl ?_
 repeat(refine .N ?_;conv=>whnf)
 refine .C hck ?_
 repeat(refine .N ?_;conv=>whnf)
 refine J.g rfl rfl rfl (fun h2=> ?_) (fun h2=> ?_)
 ·repeat(refine .N ?_;conv=>whnf)
  refine .C hds ?_
  repeat(refine .N ?_;conv=>whnf)
  refine .C (hsm h2) ?_
  repeat(refine .N ?_;conv=>whnf)
  refine J.wd rfl rfl rfl rfl rfl rfl rfl rfl rfl rfl ?_
  repeat(refine .N ?_;conv=>whnf)
  refine⟨by kernel_rfl,?_⟩
  repeat(refine .N ?_;conv=>whnf)
  rw[decide_eq_true h2,Bool.true_and]at hok
  subst hok
  exact⟨_,.c rfl rfl rfl rfl (fun h=>by cases h) (.v rfl rfl rfl (fun h=>by cases h) .nil)⟩
 ·repeat(refine .N ?_;conv=>whnf)
  refine J.wd rfl rfl rfl rfl rfl rfl rfl rfl rfl rfl ?_
  repeat(refine .N ?_;conv=>whnf)
  refine⟨by kernel_rfl,?_⟩
  repeat(refine .N ?_;conv=>whnf)
  have h2: ¬ck=0:=h2
  rw[decide_eq_false h2,Bool.false_and]at hok
  subst hok
  exact⟨_,.c rfl rfl rfl rfl (fun h=>by cases h) (.v rfl rfl rfl (fun h=>by cases h) .nil)⟩
theorem RightM.run {b:Mod}(h:RightM b)(hp:prodD (domsM b)≤1048576):RunOk (domsM b) b.cons:=⟨h.good,fun c hc=>⟨(h.b.cb c hc).1,h.con c hc⟩,h.right,hp,by have:=h.b.cl;omega⟩
theorem dm_at (b:Mod)(i:Nat)(hi:i<b.vars.length):dmM b i=(domsM b).getD i []:=by
 unfold dmM domsM
 rw[List.getD_eq_getElem?_getD,List.getD_eq_getElem?_getD,List.getElem?_map,List.getElem?_eq_getElem hi];rfl
theorem solves_iff {b:Mod}{a:List Int}:solvesR b a=true↔a.length=(domsM b).length∧(∀i,i<(domsM b).length→a.getD i 0∈vals ((domsM b).getD i []))∧∀c∈b.cons,holdsR c a=true:=by
 have hn:(domsM b).length=b.vars.length:=by simp[domsM]
 unfold solvesR
 rw[Bool.and_eq_true,Bool.and_eq_true,decide_eq_true_eq,List.all_eq_true,List.all_eq_true,hn]
 refine⟨fun⟨h1,h2,h3⟩=>⟨h1,fun i hi=> ?_,h3⟩,fun⟨h1,h2,h3⟩=>⟨h1,fun i hi=> ?_,h3⟩⟩
 ·have:=h2 i (List.mem_range.2 (by omega))
  rw[decide_eq_true_eq,dm_at b i hi]at this
  exact this
 ·have hi:=List.mem_range.1 hi
  rw[decide_eq_true_eq,dm_at b i (by omega)]
  exact h2 i (by omega)
theorem run_keeps {b:Mod}(h:RunOk (domsM b) b.cons){a:List Int}(hs:solvesR b a=true): ∃out,allO b.cons (domsM b)=some out∧keepsR out a=true:=by
 obtain⟨h1,h2,h3⟩:=solves_iff.1 hs
 obtain⟨g1,g2,g3⟩:=pdom_ok h.gd h1 h2
 obtain⟨out,ho,hle⟩:=h.ends.keeps g1 g2 ((stays_holds h g1 g2 h1 g3).2 h3)
 have he:=h.ends
 rw[ho]at he
 exact⟨out,ho,keeps_pdom (he.1.less.1) h1 hle g3⟩
theorem run_out {d:Doms}{cons:List Con}(h:RunOk d cons){out:Doms}(ho:allO cons d=some out):GoodD d.length out∧leD out d∧Stays oneO cons out∧RunOk out cons∧allO cons out=some out:=by
 have he:=h.ends
 rw[ho]at he
 obtain⟨hc,hs⟩:=he
 have hr:=h.less hc.fine hc.less
 refine⟨hc.fine,hc.less,hs,hr,?_⟩
 refine(allO_eq (R:=some out) ?_).symm
 exact⟨Come.refl (orderD _) hr.gd,hs⟩
theorem run_less {d e:Doms}{cons l:List Con}(h:RunOk d cons)(hl: ∀c∈l,c∈cons)(hf:l.length≤4096)(ge:GoodD d.length e)(hle:leD e d){n:Doms}(hn:allO cons e=some n): ∃o,allO l d=some o∧withinR n o=true:=by
 have he:=(h.less ge hle).ends
 rw[hn]at he
 have hb:=(h.sub hl hf).ends
 unfold AllEnds at he hb
 rw[ge.len]at he
 obtain⟨o,ho,hno⟩:=Ends.less (orderD _) hl hle hb he
 rw[ho]at hb
 exact⟨o,ho,hno.within he.1.fine hb.1.fine⟩
theorem doms_same {d:Doms}(fd:FewD d):Spec Tryz.prog 15 false [doms d,doms d] [.val (.bool true)]:=by
 have:=sames_spec d d (by have:=fd.small;omega) fun x h=>by have:=(fd.fine x h).len;omega
 rwa[decide_eq_true rfl]at this
theorem ok_right {m:Mod}{most:Nat}(hb:ModB m)(h:okM m most=true)(h1:1≤most):RightM m∧prodD (domsM m)≤most:=by
 unfold okM at h
 rw[Bool.and_eq_true,decide_eq_true_eq]at h
 exact⟨check_fine hb h.1,smallD_ok h.2 h1⟩
theorem law_fless (m:Mod)(take:List Int)(k:Int)(hm:ModI m)(ha:take.length*8≤140737488355328):Spec Tryz.prog 6 true [.agg (cM m),ints take,.int .i64 k] [.val (.bool true)]:=by
 refine Spec.body Tryz.func6 rfl rfl rfl fun w0 Z0=> ?_
 have hrs:=lright_spec m 500 hm (by omega)
 have hb:=bound_ok m
 have hright:=fun h=>ok_right (most:=500) hb h (by omega)
 have hds:=rdoms_spec _ hb
 generalize okM (boundM m) 500=ok at*
 generalize boundM m=b at*
 repeat(refine .A ?_;conv=>whnf)
 refine .C hrs ?_
 repeat(refine .A ?_;conv=>whnf)
 refine J.w rfl rfl rfl rfl rfl rfl rfl rfl rfl rfl ?_
 repeat(refine .A ?_;conv=>whnf)
 cases ok with
 |false=>
  refine T.ct rfl ?_
  repeat(refine .A ?_;conv=>whnf)
  refine .C vfixed_spec ?_
  repeat(refine .A ?_;conv=>whnf)
  exact⟨_,.v rfl rfl rfl (fun h=>by cases h) .nil⟩
 |true=>
  obtain⟨hR,hp⟩:=hright rfl
  have hrun:=hR.run (by omega)
  have hcl:=hR.b.cl
  have hsame:=doms_same hrun.gd.few
  have hfa:=(alls_spec hrun hrun.gd.fx leD.rfl').1
  have hkeep:=fun a=>run_keeps (a:=a) hrun
  have hout:=fun out=>run_out (out:=out) hrun
  refine T.cf rfl ?_
  obtain⟨hlf,hlle,hlg⟩:=less_ok hrun.gd take
  have hls:=less_spec (domsM b) take hrun.gd.few ha
  have hfl:=(alls_spec hrun hlf hlle).1
  have hln: ∀n,allO b.cons (lessR (domsM b) take)=some n→GoodD (domsM b).length n∧∃o,allO b.cons (domsM b)=some o∧withinR n o=true:=fun n hn=>by
   by_cases he: []∈lessR (domsM b) take
   ·rw[allO_empty he]at hn;cases hn
   ·have g:=hlg he
    have h1:=(run_out (hrun.less g hlle) hn).1
    rw[g.len]at h1
    exact⟨h1,run_less hrun (fun _ h=>h) hrun.few g hlle hn⟩
  obtain⟨j,hj,hjl⟩: ∃j:Nat,(andN k).tmod ((b.cons.length:Int)+1)=(j:Nat)∧j≤b.cons.length:=by
   have h1:=andN_in k
   have h2:=Int.tmod_nonneg ((b.cons.length:Int)+1) h1.1
   have h3:=Int.tmod_lt_of_pos (andN k) (b:=(b.cons.length:Int)+1) (by omega)
   exact⟨((andN k).tmod ((b.cons.length:Int)+1)).toNat,by omega,by omega⟩
  have hsub: ∀c∈b.cons.take j,c∈b.cons:=fun c hc=>List.mem_of_mem_take hc
  have hsl:(b.cons.take j).length≤4096:=by simp;omega
  have hfs:=(alls_spec (hrun.sub hsub hsl) hrun.gd.fx leD.rfl').1
  have hsome: ∀out,allO b.cons (domsM b)=some out→∃o,allO (b.cons.take j) (domsM b)=some o∧GoodD (domsM b).length o∧withinR out o=true:=fun out ho=>by
   obtain⟨o,h1,h2⟩:=run_less hrun hsub hsl hrun.gd leD.rfl' ho
   exact⟨o,h1,(run_out (hrun.sub hsub hsl) h1).1,h2⟩
  have hwi:=fun(x y:Doms) (gx:GoodD (domsM b).length x) (gy:GoodD (domsM b).length y)=>within_spec x y (by have:=gx.few.small;omega) (fun x hx=>(gx.few.fine x hx).domB) (fun x hx=>(gy.few.fine x hx).domB)
  have hw0:IntKind.i64.wrap (((b.cons.map cC).length:Int)+1)=(b.cons.length:Int)+1:=by rw[List.length_map,wrap_id (by omega) (by omega)]
  have hz:IntKind.i64.wrap (((b.cons.map cC).length:Int)+1)≠0:=by rw[hw0];omega
  generalize lessR (domsM b) take=e at*
  generalize domsM b=d at*
  repeat(refine .A ?_;conv=>whnf)
  refine .C hds.frz ?_
  repeat(refine .A ?_;conv=>whnf)
  refine .C hfa.frz ?_
  repeat(refine .N ?_;conv=>whnf)
  refine T.rdm 10 rfl (by kernel_rfl) rfl ?_
  repeat(refine .N ?_;conv=>whnf)
  refine .C hls.frz ?_
  repeat(refine .N ?_;conv=>whnf)
  refine .C hfl.frz ?_
  repeat(refine .N ?_;conv=>whnf)
  cases hR2:allO b.cons d with
  |none=>
   have hN:allO b.cons e=none:=by
    cases hN:allO b.cons e with
    |none=>rfl
    |some n=>obtain⟨_,o,h1,_⟩:=hln n hN;rw[hR2]at h1;cases h1
   rw[hN]
   repeat(refine .A ?_;conv=>whnf)
   refine T.cf rfl ?_
   repeat(refine .N ?_;conv=>whnf)
   refine T.rdm 16 rfl (by kernel_rfl) rfl ?_
   repeat(refine .N ?_;conv=>whnf)
   refine J.rm rfl rfl rfl rfl rfl rfl hz ?_
   rw[hw0,show IntKind.i64.wrap (BitVec.ofInt IntKind.i64.bits k &&& BitVec.ofInt IntKind.i64.bits 65535).toNat=andN k from rfl]
   refine J.s1 (enc:=cC) (l:=b.cons) j rfl rfl rfl rfl rfl rfl rfl rfl rfl (fun _=>rfl) hj hjl ?_
   repeat(refine .N ?_;conv=>whnf)
   refine .C hfs.frz ?_
   repeat(refine .N ?_;conv=>whnf)
   repeat(refine .A ?_;conv=>whnf)
   refine .C vfixed_spec ?_
   repeat(refine .A ?_;conv=>whnf)
   exact⟨_,.v rfl rfl rfl (fun h=>by cases h) .nil⟩
  |some out=>
   obtain⟨o,ho,go,hwo⟩:=hsome out hR2
   have gout:=(hout out hR2).1
   have hw2:=hwi out o gout go
   rw[hwo]at hw2
   rw[ho]at hfs
   cases hN:allO b.cons e
   case' some n=>
    obtain⟨gn,o2,h1,h2⟩:=hln n hN
    rw[hR2]at h1
    cases h1
    have hw1:=hwi n out gn gout
    rw[h2]at hw1
    repeat(refine .A ?_;conv=>whnf)
    refine .C hw1 ?_
   all_goals
    repeat(refine .A ?_;conv=>whnf)
    refine T.cf rfl ?_
    repeat(refine .N ?_;conv=>whnf)
    refine T.rdm 16 rfl (by kernel_rfl) rfl ?_
    repeat(refine .N ?_;conv=>whnf)
    refine J.rm rfl rfl rfl rfl rfl rfl hz ?_
    rw[hw0,show IntKind.i64.wrap (BitVec.ofInt IntKind.i64.bits k &&& BitVec.ofInt IntKind.i64.bits 65535).toNat=andN k from rfl]
    refine J.s1 (enc:=cC) (l:=b.cons) j rfl rfl rfl rfl rfl rfl rfl rfl rfl (fun _=>rfl) hj hjl ?_
    repeat(refine .N ?_;conv=>whnf)
    refine .C hfs.frz ?_
    repeat(refine .N ?_;conv=>whnf)
    repeat(refine .A ?_;conv=>whnf)
    refine .C hw2 ?_
    repeat(refine .A ?_;conv=>whnf)
    refine .C vfixed_spec ?_
    repeat(refine .A ?_;conv=>whnf)
    exact⟨_,.v rfl rfl rfl (fun h=>by cases h) .nil⟩
end Go.Proofs.YtlcobmehnaeebaaGreat
namespace Go.Proofs.YtlcobmehnaeebaaGreat
open Go Go.RowKit
set_option linter.unusedVariables false
set_option maxRecDepth 100000
section
variable {H:Type}{henc:TypeId×Value→H}{w:World}
theorem opens_I:Opens henc Tryz.prog w 3 cI (fun n=> -9223372036854775808≤n∧n≤9223372036854775807):=opens_int (by kernel_rfl)
theorem opens_IL:Opens henc Tryz.prog w 24 (fun l=>[ints l]) (fun l=>l.length*8≤reachBytes):=
 (opens_slice (t:=24) (e:=3) (by kernel_rfl) opens_I (fun _=>by kernel_rfl) (by decide +kernel) (fun a p hp=>by simp[cI]at hp;subst hp;rfl)).map id (fun _=>rfl) fun l h=>h.1
theorem opens_LL:Opens henc Tryz.prog w 36 (fun l=>[lists l]) (fun l=>l.length*24≤reachBytes∧∀x∈l,x.length*8≤reachBytes):=
 (opens_slice (t:=36) (e:=24) (by kernel_rfl) opens_IL (fun _=>by kernel_rfl) (by decide +kernel) (fun a p hp=>by simp at hp;subst hp;rfl)).map id (fun _=>rfl) fun l h=>h
theorem opens_con:Opens henc Tryz.prog w 38 cC ConB:=by
 have h:=opens_struct (henc:=henc) (w:=w) Tryz.underlying38 (opensL_cons opens_I rfl (opensL_cons opens_IL (by kernel_rfl) (opensL_cons opens_IL (by kernel_rfl) (opensL_cons opens_I (by kernel_rfl) (opensL_cons opens_I (by kernel_rfl) (opensL_cons opens_LL (by kernel_rfl) (opensL_cons opens_I (by kernel_rfl) (opensL_nil _)))))))) (by kernel_rfl)
 refine h.map (fun x=>(⟨x.1,x.2.1,x.2.2.1,x.2.2.2.1,x.2.2.2.2.1,x.2.2.2.2.2.1,x.2.2.2.2.2.2.1⟩:Con)) (fun _=>rfl) fun x h=> ?_
 obtain⟨_,h1,h2,_,_,h3,_⟩:=h
 have e:reachBytes=140737488351232:=rfl
 rw[e]at h1 h2 h3
 exact⟨by simp only;omega,by simp only;omega,by simp only;omega,fun y hy=>by have:=h3.2 y hy;omega⟩
end
end Go.Proofs.YtlcobmehnaeebaaGreat
namespace Go.Proofs.YtlcobmehnaeebaaGreat
open Go Go.RowKit
set_option linter.unusedVariables false
set_option maxRecDepth 100000
section
variable {H:Type}{henc:TypeId×Value→H}{w:World}
theorem opens_S:Opens henc Tryz.prog w 9 (fun s:ByteArray=>[.str s]) (fun _=>True):=by
 intro fuel cs x h _ _
 obtain⟨s,rfl,_,_⟩:=DataW.trod_string (show Tryz.prog.underlying 9=some .string by kernel_rfl) h
 exact⟨s,.cons (.str _) .nil,trivial⟩
theorem opens_range:Opens henc Tryz.prog w 47 cR (fun _=>True):=by
 have h:=opens_struct (henc:=henc) (w:=w) Tryz.underlying47 (opensL_cons opens_I rfl (opensL_cons opens_I (by kernel_rfl) (opensL_nil _))) (by kernel_rfl)
 exact h.map (fun x=>(x.1,x.2.1)) (fun _=>rfl) fun _ _=>trivial
theorem opens_D:Opens henc Tryz.prog w 45 (fun l=>[dm l]) (fun l=>l.length*16≤reachBytes):=
 (opens_slice (t:=45) (e:=47) (by kernel_rfl) opens_range (fun _=>by kernel_rfl) (by decide +kernel) (fun a p hp=>by simp[cR]at hp;rcases hp with rfl|rfl<;>rfl)).map id (fun _=>rfl) fun l h=>h.1
theorem opens_var:Opens henc Tryz.prog w 58 cV (fun v=>v.2.length*16≤reachBytes):=by
 have h:=opens_struct (henc:=henc) (w:=w) Tryz.underlying58 (opensL_cons opens_S rfl (opensL_cons opens_D (by kernel_rfl) (opensL_nil _))) (by kernel_rfl)
 exact h.map (fun x=>(x.1,x.2.1)) (fun _=>rfl) fun x h=>h.2.1
theorem opens_vars:Opens henc Tryz.prog w 22 (fun l:List (ByteArray×List (Int×Int))=>[.sl (l.map cV)]) (fun l=>l.length*40≤reachBytes∧∀v∈l,v.2.length*16≤reachBytes):=
 (opens_slice (t:=22) (e:=58) (by kernel_rfl) opens_var (fun _=>by kernel_rfl) (by decide +kernel) (fun a p hp=>by simp[cV]at hp;rcases hp with rfl|rfl<;>rfl)).map id (fun _=>rfl) fun l h=>h
theorem opens_conI:Opens henc Tryz.prog w 38 cC (fun c=>c.vars.length*8≤140737488355328∧c.coefs.length*8≤140737488355328∧c.rows.length*8≤140737488355328∧∀r∈c.rows,r.length*8≤140737488355328):=
 opens_con.map id (fun _=>rfl) fun c h=>by obtain⟨h1,h2,h3,h4⟩:=h;exact⟨by simp only[id];omega,h2,by simp only[id];omega,h4⟩
theorem opens_cons:Opens henc Tryz.prog w 23 (fun l=>[consPV l]) (fun l=>l.length*104≤reachBytes∧∀c∈l,c.vars.length*8≤140737488355328∧c.coefs.length*8≤140737488355328∧c.rows.length*8≤140737488355328∧∀r∈c.rows,r.length*8≤140737488355328):=
 (opens_slice (t:=23) (e:=38) (by kernel_rfl) opens_conI (fun _=>by kernel_rfl) (by decide +kernel) (fun a p hp=>by simp[cC]at hp;rcases hp with rfl|rfl|rfl|rfl|rfl|rfl|rfl<;>rfl)).map id (fun _=>rfl) fun l h=>h
theorem opens_goal:Opens henc Tryz.prog w 26 cG (fun g=>g.vars.length*8≤reachBytes∧g.coefs.length*8≤reachBytes):=by
 have h:=opens_struct (henc:=henc) (w:=w) Tryz.underlying26 (opensL_cons opens_I rfl (opensL_cons opens_IL (by kernel_rfl) (opensL_cons opens_IL (by kernel_rfl) (opensL_nil _)))) (by kernel_rfl)
 exact h.map (fun x=>(⟨x.1,x.2.1,x.2.2.1⟩:Goal)) (fun _=>rfl) fun x h=>⟨h.2.1,h.2.2.1⟩
theorem opens_mod:Opens henc Tryz.prog w 28 cM ModI:=by
 have h:=opens_struct (henc:=henc) (w:=w) Tryz.underlying28 (opensL_cons opens_vars rfl (opensL_cons opens_cons (by kernel_rfl) (opensL_cons opens_goal (by kernel_rfl) (opensL_nil _)))) (by kernel_rfl)
 refine h.map (fun x=>(⟨x.1,x.2.1,x.2.2.1⟩:Mod)) (fun _=>by simp[cM,cG]) fun x h=> ?_
 obtain⟨⟨h1,h2⟩,⟨h3,h4⟩,⟨h5,h6⟩,_⟩:=h
 have e:reachBytes=140737488351232:=rfl
 rw[e]at h1 h3 h5 h6
 exact⟨fun v hv=>by have:=h2 v hv;rw[e]at this;omega,by simp only;omega,by simp only;omega,h4,by simp only;omega⟩
theorem mod_one (m:Mod): ∀p∈cM m,p.one=true:=by
 intro p hp
 simp[cM,consPV]at hp
 rcases hp with rfl|rfl|rfl|rfl|rfl<;>rfl
end
end Go.Proofs.YtlcobmehnaeebaaGreat
namespace Go.Proofs.YtlcobmehnaeebaaGreat.fixLess
open Go.ChangeShapes Go.WideShapes Go.ChangeAt Go.RowKit
theorem own:ownKnob Tryz.prog.godebug=none:=by kernel_rfl
theorem laidOut:laidOutB Tryz.prog=true:=by kernel_rfl
set_option maxRecDepth 100000 in
theorem lifted (os:Os)(started:os.Started)(H:Type)(enc:TypeId×Value→H):
  ReturnsInHanded {} Tryz.checked os 6 .any (Rows.fixLessSpec.pre6 enc Tryz.prog Tryz.f6 Rows.fixLessRow.domain false) (Rows.fixLessSpec.post enc Tryz.prog Tryz.f6 false true false false):=by
 refine returnsInHanded_of_change_sized (C:=Tryz.checked) own started (by kernel_rfl) Tryz.func6
  (ChangeSpec.witness6 (enc:=enc) (C:=Tryz.checked) false ⟨#[],#[.agg #[.slice none 0 0,.slice none 0 0,.int .i64 0,.slice none 0 0,.slice none 0 0],.slice none 0 0,.int .i64 0],[]⟩ 8 (by kernel_rfl) (by kernel_rfl) (by kernel_rfl) (by kernel_rfl)) ?_
 intro W base args ds gs before hval0 hW hcnd hsz0 _
 have hsz:(DataW.weightsEach Tryz.prog (Tryz.f6.params.toList++Rows.fixLessSpec.plain.varTypes Tryz.prog) (ds++gs)).all (· ≤reachBytes)=true:=hsz0
 have hval: ∀(j:Nat) t v,Tryz.f6.params[j]? =some t→args[j]? =some v→Value.okWide Tryz.prog W .any base t v:=hval0
 have hW':=hW
 obtain⟨p,q,hA0,hV,rfl,hfz,hnd⟩:=hW
 have hA:DataW.TrodAll enc Tryz.prog W 0 (fun _=>true) true Tryz.f6.params.toList args.toList ds p:=hA0
 rw[Tryz.params6]at hA hval hsz
 obtain⟨v0,vs0,d0,ds0,p0,q0,hargs,rfl,rfl,h0,r0⟩:=trodAll_cons hA
 obtain⟨v1,vs1,d1,ds1,p1,q1,rfl,rfl,rfl,h1,r1⟩:=trodAll_cons r0
 obtain⟨v2,vs2,d2,ds2,p2,q2,rfl,rfl,rfl,h2,r2⟩:=trodAll_cons r1
 obtain⟨rfl,rfl,rfl⟩:=trodAll_nil r2
 obtain rfl:args= #[v0,v1,v2]:=by cases args;simp_all
 obtain⟨rfl,rfl⟩:=trodVars_none hV
 have hv0:=hval 0 28 v0 rfl rfl
 obtain⟨cs0,rfl,_,_⟩: ∃cs,v0= .agg cs∧cs.size=Tryz.prog.cellsOf 28∧Row.okWide Tryz.prog W .any base 28 cs:=by
  unfold Value.okWide at hv0
  rw[Tryz.underlying28]at hv0
  exact hv0
 have k0:=h0
 have lt0: ∀x∈p0,x.block<W.heap.size:=by obtain⟨m,hm⟩:=k0;exact DataW.trod_lt m _ _ _ hm
 obtain⟨fuel0,hf0⟩:=h0
 obtain⟨sa1,sn1,sc1,rfl,_⟩:=okWide_slice Tryz.underlying24 (hval 1 24 v1 rfl rfl)
 have k1:=h1
 have lt1: ∀x∈p1,x.block<W.heap.size:=by obtain⟨m,hm⟩:=k1;exact DataW.trod_lt m _ _ _ hm
 obtain⟨fuel1,hf1⟩:=h1
 obtain⟨k,rfl,rfl,rfl,w2⟩:=open_int Tryz.underlying3 (hval 2 3 v2 rfl rfl) h2
 have hw:(DataW.weightsEach Tryz.prog (28::24::3::Rows.fixLessSpec.plain.varTypes Tryz.prog) (d0::d1:: .lit (.int .i64 k)::[])).all (· ≤reachBytes)=true:=hsz
 rw[DataW.weightsEach,List.all_append,Bool.and_eq_true]at hw
 obtain⟨hw0,hw⟩:=hw
 rw[DataW.weightsEach,List.all_append,Bool.and_eq_true]at hw
 obtain⟨hw1,hw⟩:=hw
 rw[DataW.weightsEach,List.all_append,Bool.and_eq_true]at hw
 obtain⟨hw2,hw⟩:=hw
 obtain⟨m,hrep0,hm⟩:=opens_mod fuel0 _ (d0,p0) hf0 hw0 (nf hfz fun p hp=>by simp[hp])
 obtain⟨take,hrep1,htake⟩:=opens_IL fuel1 _ (d1,p1) hf1 hw1 (nf hfz fun p hp=>by simp[hp])
 have htake:take.length*8≤140737488355328:=by have e:reachBytes=140737488351232:=rfl;have:take.length*8≤reachBytes:=htake;omega
 clear hA0 hval0 hsz0 hsz hw
 have hcs0:(Value.agg cs0).cells.toList=cs0.toList:=rfl
 rw[hcs0]at hrep0
 have harg0:Rep W (fun _=>True) (.agg cs0) (.agg (cM m)):=by
  have:=Rep.agg (w:=W) (Z:=fun _=>True) cs0.toList (cM m) hrep0 (mod_one m)
  simpa using this
 have harg1:Rep W (fun _=>True) (.slice sa1 sn1 sc1) (ints take):=by
  have h:L2 (Rep W fun _=>True) [.slice sa1 sn1 sc1] [ints take]:=hrep1
  cases h with
  |cons h1 _=>exact h1
 refine((law_fless m take k hm (by omega)).out W (fun _=>True) [.agg cs0,.slice sa1 sn1 sc1,.int .i64 k] (.cons harg0 (.cons harg1 (.cons (.int _ _) .nil)))).mono fun e W' ⟨rs,he,bel,hret⟩=> ?_
 have hrs:rs=[.bool true]:=by
  have h:=hret.each
  cases h with
  |cons h1 h2=>cases h2;cases h1;rfl
 subst hrs
 subst he
 exact⟨_,rfl,_,_,_,[],_,[],hW',trodAll_mk1 (shut_bool Tryz.underlying4 _),trodAll_cons_mk (Below.trod laidOut (by kernel_rfl) (of_decide_eq_true (by kernel_rfl)) k0 bel lt0) (trodAll_cons_mk (Below.trod laidOut (by kernel_rfl) (of_decide_eq_true (by kernel_rfl)) k1 bel lt1) (trodAll_cons_mk (shut_int Tryz.underlying3 w2) trodAll_mk0)),rfl,bel.frame _,fun h=>by cases h⟩
theorem over:Rows.fixLessRow.holds Tryz.pinned (OpenSpec.ofChange Rows.fixLessSpec):=
 OpenClaim.holds_of_wide 6 Tryz.f6 rfl rfl rfl rfl rfl rfl rfl ⟨rfl,rfl,rfl,rfl,rfl⟩ rfl rfl rfl rfl rfl (by kernel_rfl) Tryz.func6 (by kernel_rfl)
  (of_decide_eq_true (by kernel_rfl)) (by unfold Func.isWrapper;first|(rw[if_pos (by decide +kernel)];kernel_rfl)|(rw[if_neg (by decide +kernel)];exact⟨rfl,rfl⟩))
  (fun os started H enc _=>lifted os started H enc)
theorem proved:Rows.FixLessSaid:=over
#print axioms proved
end Go.Proofs.YtlcobmehnaeebaaGreat.fixLess
namespace Go.Proofs.YtlcobmehnaeebaaGreat
theorem fixLess_holds:Rows.FixLessSaid:=fixLess.proved
end Go.Proofs.YtlcobmehnaeebaaGreat
