/- The texts FvT, FvU, FvV, FvW, FvH, FvX, FwA, FwC, FwD, FwE, FwF, FwG, PvI, PvJ, PwA, PwB, PwC, PwD, FwH, FwI, FwJ, FwK, FwL, FwB, FwM, FwN of the workplace, joined. -/
import Derived.Test.YtopcjbahjjhdmaaGreatB8
namespace Go.Proofs.YtopcjbahjjhdmaaGreat
open Go Go.RowKit
set_option linter.unusedVariables false
set_option linter.unusedSimpArgs false
set_option maxRecDepth 8000
def ei (g:Goal):Con:=⟨0,g.vars,g.coefs,0,0,[],0⟩
def ez (d:aa)(g:Goal):Int:=if g.kind=1∨g.kind=2 then conR d (ei g)else if g.kind≠0∨0<g.vars.length∨0<g.coefs.length then 44 else 0
theorem yJ (d:aa)(g:Goal)(hg:g.vars.length≤1024∧g.coefs.length≤1024)(hl:d.length*8≤140737488355328)(hd: ∀x∈d,x.length*8≤140737488355328):Spec Tryz.prog 33 false [aJ d,.agg (cG g)] [.val (.int .i64 (ez d g))]:=by
 refine Spec.body Tryz.func33 rfl rfl rfl fun w0 Z0=> ?_
 have hcb:ConB (ei g):=⟨by simp[ei];omega,by simp[ei];omega,by simp[ei],by simp[ei]⟩
 have hcon:=uG d (ei g) hcb hl hd
 generalize hR:ez d g=R
 unfold ez at hR
 generalize conR d (ei g)=cr at*
 have yes:g.kind=1∨g.kind=2→cr=R:=fun h=>by rw[if_pos h]at hR;exact hR
 have no: ¬g.kind=1→¬g.kind=2→(if g.kind≠0∨0<g.vars.length∨0<g.coefs.length then(44:Int)else 0)=R:=fun a b=>by rw[if_neg (fun h=>h.elim a b)]at hR;exact hR
 refine .B ?_
 refine J.g rfl rfl rfl (fun h1=> ?_) (fun h1=> ?_)
 ·rw[yes (.inl h1)]at hcon
  refine .B ?_
  refine T.ct rfl ?_
  refine .B ?_
  refine .C hcon ?_
  refine .B ?_
  exact r1
 ·have h1: ¬g.kind=1:=h1
  refine .B ?_
  refine T.cd rfl (fun h2=> ?_) (fun h2=> ?_)
  ·rw[yes (.inr h2)]at hcon
   refine .B ?_
   refine .C hcon ?_
   refine .B ?_
   exact r1
  ·have h2: ¬g.kind=2:=h2
   have no:=no h1 h2
   refine .B ?_
   refine J.g rfl rfl rfl (fun h3=> ?_) (fun h3=> ?_)
   ·rw[if_pos (.inl h3)]at no
    subst no
    refine .B ?_
    refine T.ct rfl ?_
    refine .B ?_
    exact r1
   ·have h3: ¬g.kind≠0:=h3
    refine .B ?_
    refine J.g rfl rfl rfl (fun h4=> ?_) (fun h4=> ?_)
    ·rw[if_pos (.inr (.inl (by simpa using h4)))]at no
     subst no
     refine .B ?_
     refine T.ct rfl ?_
     refine .B ?_
     exact r1
    ·refine .B ?_
     refine T.cd rfl (fun h6=> ?_) (fun h6=> ?_)
     ·rw[if_pos (.inr (.inr (by simpa using h6)))]at no
      subst no
      refine .B ?_
      exact r1
     ·rw[if_neg (by
       rintro(h|h|h)
       ·exact h3 h
       ·exact h4 (by simpa using h)
       ·exact h6 (by simpa using h))]at no
      subst no
      refine .B ?_
      exact r1
def nmM (m:Mod)(i:Nat):ByteArray:=(m.vars.getD i (⟨#[]⟩,[])).1
def dmM (m:Mod)(i:Nat):List (Int×Int):=(m.vars.getD i (⟨#[]⟩,[])).2
def gh (m:Mod)(i:Nat):Bool:=(List.range i).any fun k=>(nmM m k).toList==(nmM m i).toList
def varR (m:Mod)(i:Nat):Int:=if fG (nmM m i)=false then 40 else if gh m i=true then 41 else if dmM m i=[]∨chkR (dmM m i)≠0 then 42 else 0
def firstE (l:List Int):Int:=(l.find? (· ≠0)).getD 0
def checkR (m:Mod):Int:=if 64<m.vars.length∨256<m.cons.length then 2 else
 if firstE ((List.range m.vars.length).map (varR m))≠0 then firstE ((List.range m.vars.length).map (varR m))else
 if firstE (m.cons.map (conR (domsM m)))≠0 then firstE (m.cons.map (conR (domsM m)))else ez (domsM m) m.goal
theorem ju {l:List Int}{i:Nat}{e:Int}(h: ∀j,j<i→∀x,l[j]? =some x→x=0)(hi:l[i]? =some e)(he:e≠0):firstE l=e:=by
 have hlt:=(List.getElem?_eq_some_iff.1 hi).1
 have:l.find? (· ≠0)=some e:=by
  rw[List.find?_eq_some_iff_getElem]
  refine⟨by simpa using he,i,hlt,(List.getElem?_eq_some_iff.1 hi).2,fun j hj=> ?_⟩
  have:=h j hj _ (C1 (by omega))
  simp[this]
 unfold firstE
 rw[this];rfl
theorem gL {l:List Int}(h: ∀x∈l,x=0):firstE l=0:=by
 have:l.find? (· ≠0)=none:=by
  rw[Fq]
  intro x hx
  simp[h x hx]
 unfold firstE
 rw[this];rfl
theorem mW {l:List Int}(h:firstE l=0): ∀x∈l,x=0:=by
 intro x hx
 unfold firstE at h
 cases hf:l.find? (· ≠0)with
 |none=>
  have:=List.find?_eq_none.1 hf x hx
  simpa using this
 |some e=>
  rw[hf]at h
  have:=List.find?_some hf
  simp at this
  exact absurd h this
theorem tI (m:Mod)(hm:ModB m):Spec Tryz.prog 11 false [.agg (cM m)] [.val (.int .i64 (checkR m))]:=by
 refine Spec.body Tryz.func11 rfl rfl rfl fun w0 Z0=> ?_
 have hds:=od m hm
 generalize hR:checkR m=R
 obtain⟨b1,b2,b3,b4,b5⟩:=hm
 have yes:64<m.vars.length∨256<m.cons.length→(2:Int)=R:=fun h=>by rw[←hR];exact(if_pos h).symm
 refine .B ?_
 refine J.g rfl rfl rfl (fun h1=> ?_) (fun h1=> ?_)
 ·have e:=yes (.inl (by simp at h1;omega))
  subst e
  refine .B ?_
  refine T.ct rfl ?_
  refine .B ?_
  exact r1
 ·refine .B ?_
  refine T.cd rfl (fun h2=> ?_) (fun h2=> ?_)
  ·have e:=yes (.inr (by simp at h2;omega))
   subst e
   refine .B ?_
   exact r1
  ·have hR:(if firstE ((List.range m.vars.length).map (varR m))≠0 then firstE ((List.range m.vars.length).map (varR m))else
     if firstE (m.cons.map (conR (domsM m)))≠0 then firstE (m.cons.map (conR (domsM m)))else ez (domsM m) m.goal)=R:=by
    unfold checkR at hR
    rw[if_neg (by simp at h1 h2;omega)]at hR
    exact hR
   have hvar: ∀i,i<m.vars.length→(∀j,j<i→varR m j=0)→varR m i≠0→R=varR m i:=fun i hi hb he=>by
    have:firstE ((List.range m.vars.length).map (varR m))=varR m i:=ju (i:=i) (fun j hj x hx=>by
     rw[C8,Du (by omega)]at hx
     rw[←C2 hx]
     exact hb j hj) (by rw[C8,Du hi];rfl) he
    rw[this,if_pos he]at hR
    exact hR.symm
   refine .B ?_
   refine T.K (T.ind (fun i:Nat=>⟨[(1,.optr 0 0 0 0),(3,.val true (.int .i64 i))],[(0,some (.box false (cM m)))],1⟩) (fun i=>i≤m.vars.length∧∀j,j<i→varR m j=0) (fun i=>m.vars.length-i) 0 ⟨DC _,fun j hj=>absurd hj (DY j)⟩ (fun _ _ h=>h) ?_)
   rintro i ⟨hi,hb⟩ ih
   refine .B ?_
   refine T.cd rfl (fun h3=> ?_) (fun h3=> ?_)
   ·have h3:i<m.vars.length:=by simpa using h3
    have hv:=hvar i h3 hb
    have hvi:varR m i=if fG (nmM m i)=false then 40 else if gh m i=true then 41 else if dmM m i=[]∨chkR (dmM m i)≠0 then 42 else 0:=rfl
    have hrowk: ∀k,k<m.vars.length→(m.vars.map cV)[((k:Nat):Int).toNat]? =some (cV (nmM m k,dmM m k)):=fun k hk=>by
     rw[D1,C8,C1 hk]
     unfold nmM dmM
     rw[C0,C1 hk];rfl
    have hrow:=hrowk i h3
    have hbk: ∀k,k<m.vars.length→(nmM m k).size≤1024∧(dmM m k).length≤1024:=fun k hk=>by
     unfold nmM dmM
     rw[C0,C1 hk]
     exact b2 _ (C5 hk)
    have hns:=yp (nmM m i) (by have:=hbk i h3;omega)
    refine .B ?_
    refine .I (r:=cV (nmM m i,dmM m i)) hrow ?_
    refine .B ?_
    refine .C hns ?_
    refine .B ?_
    cases hn:fG (nmM m i)
    ·have:R=40:=by rw[hv (by rw[hvi,if_pos hn];decide),hvi,if_pos hn]
     subst this
     refine T.ct rfl ?_
     refine .B ?_
     exact r1
    ·rw[if_neg (by rw[hn];simp)]at hvi
     refine T.cf rfl ?_
     refine .B ?_
     refine T.K (T.ind (fun k:Nat=>⟨[(1,.optr 0 0 0 0),(3,.val true (.int .i64 i)),(4,.val true (.int .i64 k))],[(0,some (.box false (cM m)))],1⟩) (fun k=>k≤i∧∀j,j<k→((nmM m j).toList==(nmM m i).toList)=false) (fun k=>i-k) 0 ⟨DC _,fun j hj=>absurd hj (DY j)⟩ (fun _ _ h=>h) ?_)
     rintro k ⟨hk,hbn⟩ ih2
     refine .B ?_
     refine T.cd rfl (fun h4=> ?_) (fun h4=> ?_)
     ·have h4:k<i:=by omega
      have hrk:=hrowk k (by omega)
      have htw:((nmM m k).toList==(nmM m i).toList)=true→gh m i=true:=fun h=>List.any_eq_true.2 ⟨k,List.mem_range.2 h4,h⟩
      have ih3:=fun h:((nmM m k).toList==(nmM m i).toList)=false=>ih2 (k+1) ⟨by omega,fun j hj=>by
       by_cases e:j=k
       ·rw[e];exact h
       ·exact hbn j (by omega)⟩ (by omega)
      refine .B ?_
      refine .I (r:=cV (nmM m k,dmM m k)) hrk ?_
      refine .B ?_
      refine .I (r:=cV (nmM m i,dmM m i)) hrow ?_
      refine .B ?_
      cases he:((nmM m k).toList==(nmM m i).toList)
      ·refine T.cf rfl ?_
       refine .B ?_
       rw[ak (l:=m.vars.length) (n:=k) (by omega) (by omega)]
       exact T.K (ih3 he)
      ·have ht:=htw he
       have:R=41:=by rw[hv (by rw[hvi,if_pos ht];decide),hvi,if_pos ht]
       subst this
       refine T.ct rfl ?_
       refine .B ?_
       exact r1
     ·have h4:k=i:=by omega
      subst h4
      have htf:gh m k=false:=by
       unfold gh
       rw[F6]
       intro j hj
       rw[hbn j (List.mem_range.1 hj)];simp
      rw[if_neg (by rw[htf];simp)]at hvi
      have hck:=s9 (dmM m k) (by have:=hbk k h3;omega)
      have stop:dmM m k=[]∨chkR (dmM m k)≠0→R=42:=fun h=>by rw[hv (by rw[hvi,if_pos h];decide),hvi,if_pos h]
      have goon: ¬dmM m k=[]→¬chkR (dmM m k)≠0→varR m k=0:=fun a b=>by rw[hvi,if_neg (fun h=>h.elim a b)]
      have hw1:IntKind.i64.wrap ((k:Int)+1)=((k+1:Nat):Int):=ak (l:=m.vars.length) h3 (by omega)
      have ih4:=fun h:varR m k=0=>ih (k+1) ⟨by omega,fun j hj=>by
       by_cases e:j=k
       ·rw[e];exact h
       ·exact hb j (by omega)⟩ (by omega)
      generalize varR m k=vr at*
      generalize nmM m k=nm at*
      generalize dmM m k=dd at*
      generalize chkR dd=ck at*
      refine .B ?_
      refine .I (r:=cV (nm,dd)) hrow ?_
      refine .B ?_
      refine J.g rfl rfl rfl (fun h5=> ?_) (fun h5=> ?_)
      ·have e:=stop (.inl (by simpa using h5))
       subst e
       refine .B ?_
       refine T.ct rfl ?_
       refine .B ?_
       exact r1
      ·refine .B ?_
       refine .I (r:=cV (nm,dd)) hrow ?_
       refine .B ?_
       refine .C hck ?_
       refine .B ?_
       refine T.cd rfl (fun h6=> ?_) (fun h6=> ?_)
       ·have e:=stop (.inr h6)
        subst e
        refine .B ?_
        exact r1
       ·refine .B ?_
        rw[hw1]
        exact T.K (ih4 (goon (by simpa using h5) h6))
   ·have h3:i=m.vars.length:=by simp at h3;omega
    have hfz:firstE ((List.range m.vars.length).map (varR m))=0:=gL fun x hx=>by
     obtain⟨j,hj,rfl⟩:=List.mem_map.1 hx
     exact hb j (by rw[h3];exact List.mem_range.1 hj)
    rw[hfz,if_neg (by simp)]at hR
    refine .B ?_
    refine .C hds.frz ?_
    refine .B ?_
    refine T.K (T.ind (fun i:Nat=>⟨[(1,.optr 0 0 0 0),(5,.val true (aJ (domsM m))),(6,.val true (.int .i64 i))],[(0,some (.box false (cM m)))],1⟩) (fun i=>i≤m.cons.length∧∀j,j<i→∀c,m.cons[j]? =some c→conR (domsM m) c=0) (fun i=>m.cons.length-i) 0 ⟨DC _,fun j hj=>absurd hj (DY j)⟩ (fun _ _ h=>h) ?_)
    rintro k ⟨hk,hbc⟩ ih
    have hdl:(domsM m).length*8≤140737488355328:=by simp[domsM];omega
    have hdx: ∀x∈domsM m,x.length*8≤140737488355328:=fun x hx=>by
     obtain⟨v,hv,rfl⟩:=List.mem_map.1 hx
     have:=b2 v hv;omega
    refine .B ?_
    refine T.cd rfl (fun h4=> ?_) (fun h4=> ?_)
    ·have h4:k<m.cons.length:=by simpa[cN]using h4
     have hrow:(m.cons.map cC)[((k:Nat):Int).toNat]? =some (cC m.cons[k]):=by simp[h4]
     have hcb:=b4 _ (C5 h4)
     have hcs:=uG (domsM m) m.cons[k] ⟨by omega,by omega,by omega,fun r hr=>by have:=hcb.2.2.2 r hr;omega⟩ hdl hdx
     have hgk:m.cons[k]? =some m.cons[k]:=C1 h4
     have stop:conR (domsM m) m.cons[k]≠0→R=conR (domsM m) m.cons[k]:=fun he=>by
      have:firstE (m.cons.map (conR (domsM m)))=conR (domsM m) m.cons[k]:=ju (i:=k) (fun j hj x hx=>by
       rw[C8]at hx
       obtain⟨c,hc,rfl⟩:=Option.map_eq_some_iff.1 hx
       exact hbc j hj c hc) (by rw[C8,hgk];rfl) he
      rw[this,if_pos he]at hR
      exact hR.symm
     have ih4:=fun h:conR (domsM m) m.cons[k]=0=>ih (k+1) ⟨by omega,fun j hj c hc=>by
      by_cases e:j=k
      ·rw[e,hgk]at hc;cases hc;exact h
      ·exact hbc j (by omega) c hc⟩ (by omega)
     generalize m.cons[k]=c at*
     generalize conR (domsM m) c=cr at*
     refine .B ?_
     refine .I (r:=cC c) hrow ?_
     refine .B ?_
     refine .C hcs ?_
     refine .B ?_
     refine T.cd rfl (fun h5=> ?_) (fun h5=> ?_)
     ·have e:=stop h5
      subst e
      refine .B ?_
      exact r1
     ·have h5:cr=0:=Classical.byContradiction h5
      refine .B ?_
      rw[ak (l:=m.cons.length) h4 (by omega)]
      exact T.K (ih4 h5)
    ·have h4:k=m.cons.length:=by simp[cN]at h4;omega
     have hfc:firstE (m.cons.map (conR (domsM m)))=0:=gL fun x hx=>by
      obtain⟨c,hc,rfl⟩:=List.mem_map.1 hx
      obtain⟨j,hj⟩:=C9 hc
      exact hbc j (by rw[h4];exact(List.getElem?_eq_some_iff.1 hj).1) c hj
     rw[hfc,if_neg (by simp)]at hR
     have hgs:=yJ (domsM m) m.goal b5 hdl hdx
     rw[hR]at hgs
     refine .B ?_
     refine .C hgs ?_
     refine .B ?_
     exact r1
def smallD (d:aa)(most:Nat):Bool:=(List.range d.length).all fun k=>decide (prodD (d.take (k+1))≤most)
theorem xW {d:aa}{most:Nat}(h:smallD d most=true)(h1:1≤most):prodD d≤most:=by
 by_cases h0:d=[]
 ·subst h0;exact h1
 ·have hl:=List.length_pos_iff.2 h0
  have:=List.all_eq_true.1 h (d.length-1) (List.mem_range.2 (by omega))
  rw[show d.length-1+1=d.length by omega,DE]at this
  simpa using this
theorem sX (d:aa)(most:Nat)(hm:1≤most∧most≤1048576)(fd:FewD d):Spec Tryz.prog 28 false [aJ d,.int .i64 most] [.val (.bool (smallD d most))]:=by
 refine Spec.body Tryz.func28 rfl rfl rfl fun w0 Z0=> ?_
 generalize hR:smallD d most=R
 have hds:=fd.small
 refine .B ?_
 refine T.K (T.ind (fun i:Nat=>⟨[(0,.val false (aJ d)),(1,.val false (.int .i64 most)),(5,.val true (.int .i64 (prodD (d.take i)))),(6,.val true (.int .i64 i))],[],0⟩) (fun i=>i≤d.length∧prodD (d.take i)≤most∧∀j,j<i→prodD (d.take (j+1))≤most) (fun i=>d.length-i) 0 ⟨DC _,hm.1,fun j hj=>absurd hj (DY j)⟩ (fun _ _ h=>h) ?_)
 rintro i ⟨hi,hp,hb⟩ ih
 refine .B ?_
 refine T.cd rfl (fun h1=> ?_) (fun h1=> ?_)
 ·have h1:i<d.length:=by simpa using h1
  have hrow:(d.map cD)[((i:Nat):Int).toNat]? =some (cD d[i]):=by simp[h1]
  have hf:=fd.fine _ (C5 h1)
  have hw:=fd.few _ (C5 h1)
  have hvs:=mz d[i] hf.domB.1 (by omega) hf.domB.2.2
  have htk:prodD (d.take (i+1))=prodD (d.take i)*(vals d[i]).length:=by rw[C7 h1,om]
  have hno: ¬prodD (d.take (i+1))≤most→R=false:=fun h=>by
   rw[←hR];unfold smallD
   rw[FV]
   exact⟨i,List.mem_range.2 h1,by simpa using h⟩
  have ih1:=fun h:prodD (d.take (i+1))≤most=>ih (i+1) ⟨by omega,h,fun j hj=>by
   by_cases e:j=i
   ·rw[e];exact h
   ·exact hb j (by omega)⟩ (by omega)
  have hle:prodD (d.take i)*(vals d[i]).length≤1048576*4096:=FE (by omega) hw
  rw[htk]at hno ih1
  generalize vals d[i]=l at*
  generalize d[i]=x at*
  generalize prodD (d.take i)=p at*
  have hmul:IntKind.i64.wrap ((p:Int)*((l.map cI).length:Nat))=((p*l.length:Nat):Int):=by
   rw[C6,←GC,ae (by omega) (by omega)]
  refine .B ?_
  refine .I (r:=cD x) hrow ?_
  refine .B ?_
  refine .C hvs ?_
  refine .B ?_
  rw[hmul]
  refine T.cd rfl (fun h2=> ?_) (fun h2=> ?_)
  ·have e:=hno (by omega)
   subst e
   refine .B ?_
   exact r1
  ·refine .B ?_
   rw[ak (l:=d.length) h1 (by omega)]
   exact T.K (ih1 (by omega))
 ·have h1:i=d.length:=by simp at h1;omega
  have:R=true:=by
   rw[←hR];unfold smallD
   rw[DA]
   intro j hj
   have:=hb j (by rw[h1];exact List.mem_range.1 hj)
   simpa using this
  subst this
  refine .B ?_
  exact r1
def iy (v:ByteArray×List (Int×Int)):ByteArray×List (Int×Int):=(v.1.extract 0 (min v.1.size 20),v.2.take (min v.2.length 12))
def eZ (c:Con):Con:=⟨c.kind,c.vars.take (min c.vars.length 14),c.coefs.take (min c.coefs.length 14),c.op,c.rhs,(c.rows.take 20).map fun r=>r.take (min r.length 14),c.b⟩
def boundM (m:Mod):Mod:=⟨(m.vars.take 10).map iy,(m.cons.take 16).map eZ,⟨m.goal.kind,m.goal.vars.take (min m.goal.vars.length 14),m.goal.coefs.take (min m.goal.coefs.length 14)⟩⟩
structure ModI (m:Mod):Prop where
 vn: ∀v∈m.vars,v.2.length*8≤140737488355328
 vl:m.vars.length*8≤140737488355328
 cl:m.cons.length*8≤140737488355328
 cb: ∀c∈m.cons,c.vars.length*8≤140737488355328∧c.coefs.length*8≤140737488355328∧c.rows.length*8≤140737488355328∧∀r∈c.rows,r.length*8≤140737488355328
 gl:m.goal.vars.length*8≤140737488355328∧m.goal.coefs.length*8≤140737488355328
theorem uO (m:Mod):ModB (boundM m):=by
 refine⟨by simp[boundM];omega,fun v hv=> ?_,by simp[boundM];omega,fun c hc=> ?_,by simp[boundM];omega⟩
 ·obtain⟨u,_,rfl⟩:=List.mem_map.1 hv
  simp[iy,ByteArray.size_extract];omega
 ·obtain⟨u,_,rfl⟩:=List.mem_map.1 hc
  refine⟨by simp[eZ];omega,by simp[eZ];omega,by simp[eZ];omega,fun r hr=> ?_⟩
  obtain⟨q,_,rfl⟩:=List.mem_map.1 hr
  simp;omega
def bxM (u1 u2:Value)(g:Goal):List PV:=[.raw u1,.raw u2,.int .i64 g.kind,av g.vars,av g.coefs]
set_option maxHeartbeats 1000000 in
theorem wG (m:Mod)(hm:ModI m):Spec Tryz.prog 27 true [.agg (cM m)] [.val (.agg (cM (boundM m)))]:=by
 refine Spec.body Tryz.func27 rfl rfl rfl fun w0 Z0=> ?_
 obtain⟨b1,b2,b3,b4,b5⟩:=hm
 refine .B ?_
 refine .L ?_
 refine J.nil ?_
 refine T.seq ?_
 refine T.r ?_
 refine J.sub (Rel.unbx (s:=1) (fun _ h=>h) rfl rfl) ?_
 refine J.H rfl ?_
 conv=>whnf
 refine J.H rfl ?_
 conv=>whnf
 refine J.bz [.raw (.slice none 0 0),.raw (.slice none 0 0),.int .i64 0,.sl [],.sl []] rfl rfl rfl rfl rfl rfl rfl rfl (fun w Z=> .cons (.raw _ rfl) (.cons (.raw _ rfl) (.cons (.int _ _) (.cons .nilsl (.cons .nilsl .nil))))) (by simp[PV.one]) rfl rfl rfl ?_
 conv=>whnf
 refine .L ?_
 refine .W ?_
 refine J.nil ?_
 refine T.nilO 1001 56 2 rfl ?_
 refine T.nilO 1002 51 7 rfl ?_
 refine T.sub (Rel.wk (o:=3) rfl) ?_
 refine T.sub (Rel.wk (o:=4) rfl) ?_
 refine T.mids (fun u:Value=>⟨[(1,.fptr false (cM m)),(2,.optr 0 0 0 0),(3,.optr 1 0 0 0),(1001,.eq u 2),(1002,.eq (.slice none 0 0) 3)],[(0,some (.box true [.sl [],.sl [],.int .i64 0,.sl [],.sl []])),(1,some (.box false (bxM u (.slice none 0 0) m.goal))),(2,some (.sl 56 2 false ((boundM m).vars.map cV))),(3,some (.sl 51 7 false []))],4⟩) ?_ fun u1=> ?_
 ·refine .M ?_
  refine T.K (T.ind (fun s:Nat×Value=>⟨[(1,.fptr false (cM m)),(2,.optr 0 0 0 0),(3,.optr 1 0 0 0),(4,.val true (.int .i64 s.1)),(1001,.eq s.2 2),(1002,.eq (.slice none 0 0) 3)],[(0,some (.box true [.sl [],.sl [],.int .i64 0,.sl [],.sl []])),(1,some (.box false (bxM s.2 (.slice none 0 0) m.goal))),(2,some (.sl 56 2 false (((m.vars.take s.1).map iy).map cV))),(3,some (.sl 51 7 false []))],4⟩) (fun s=>s.1≤min m.vars.length 10) (fun s=>10-s.1) (0,.slice none 0 0) (DC _) (fun _ _ h=>by cases h.1) ?_)
  rintro⟨i,u⟩ hi ih
  simp only at hi
  refine .B ?_
  refine J.g rfl rfl rfl (fun h1=> ?_) (fun h1=> ?_)
  ·have h1:i<m.vars.length:=by simpa using h1
   refine .B ?_
   refine T.cd rfl (fun h2=> ?_) (fun h2=> ?_)
   ·have h2:i<10:=by omega
    have hrow:(m.vars.map cV)[((i:Nat):Int).toNat]? =some (cV m.vars[i]):=by simp[h1]
    have hv:=b1 _ (C5 h1)
    have htk:(m.vars.take (i+1)).map iy=(m.vars.take i).map iy++[iy m.vars[i]]:=by rw[C7 h1,DF];rfl
    have hln:((m.vars.take i).map iy).length≤10:=by simp;omega
    have ih1:=fun u'=>ih (i+1,u') (by show _≤min _ _;omega) (by show _-_<_-_;omega)
    simp only[htk,DF]at ih1
    generalize (m.vars.take i).map iy=out at*
    generalize m.vars[i]=v at*
    obtain⟨nm,dd⟩:=v
    simp only at hv
    refine .B ?_
    refine .I (r:=cV (nm,dd)) hrow ?_
    refine .B ?_
    refine .L ?_
    refine .W ?_
    refine .M ?_
    refine T.rdw 22 rfl (by kernel_rfl) rfl ?_
    refine J.H rfl ?_
    refine J.lr 1001 (q:=2) (u:=u) rfl rfl rfl rfl rfl rfl rfl rfl rfl ?_
    refine .M ?_
    refine J.ss (min nm.size 20) rfl rfl rfl rfl rfl rfl rfl (by simp;omega) (Nat.min_le_left _ _) ?_
    refine .M ?_
    refine .O ?_
    refine .M ?_
    refine J.s1 (enc:=cR) (l:=dd) (min dd.length 12) rfl rfl rfl rfl rfl rfl rfl rfl rfl (fun _=>rfl) (by simp;omega) (by omega) ?_
    refine J.adf (fun _ h=>h) rfl rfl rfl rfl rfl rfl rfl rfl rfl rfl rfl rfl rfl rfl rfl rfl rfl xo (by show(0+List.length _)*16≤_;simp;omega) ?_
    refine .M ?_
    refine .V ?_
    refine J.ad rfl rfl rfl rfl rfl rfl rfl rfl rfl rfl rfl rfl rfl rfl rfl rfl rfl rfl (cB rfl) (by show(List.length _+1)*40≤_;simp;omega) ?_
    refine .M ?_
    refine⟨by kernel_rfl,?_⟩
    refine J.name 1001 (s:=49) rfl rfl rfl fun u'=> ?_
    refine J.sub (Rel.raw (s:=49) (g:=1001) rfl (.inl rfl) rfl rfl rfl) ?_
    refine .W ?_
    refine .B ?_
    rw[ak (l:=m.vars.length) (n:=i) h1 b2]
    exact T.K (ih1 u')
   ·have e:i=10:=by omega
    subst e
    refine .B ?_
    exact⟨rfl,u,[1,2,3,1001,1002],[2,3,1001,1002],rfl,rfl⟩
  ·have e:i=m.vars.length:=by simp at h1;omega
   subst e
   have e2:m.vars.take 10=m.vars:=CV (by omega)
   rw[show(boundM m).vars=(m.vars.take 10).map iy from rfl,e2,DE]
   refine .B ?_
   refine T.cf rfl ?_
   refine .B ?_
   exact⟨rfl,u,[1,2,3,1001,1002],[2,3,1001,1002],rfl,rfl⟩
 ·refine T.mids (fun u2:Value=>⟨[(1,.fptr false (cM m)),(2,.optr 0 0 0 0),(3,.optr 1 0 0 0),(1001,.eq u1 2),(1002,.eq u2 3)],[(0,some (.box true [.sl [],.sl [],.int .i64 0,.sl [],.sl []])),(1,some (.box false (bxM u1 u2 m.goal))),(2,some (.sl 56 2 false ((boundM m).vars.map cV))),(3,some (.sl 51 7 false ((boundM m).cons.map cC)))],4⟩) ?_ fun u2=> ?_
  ·refine .M ?_
   refine T.K (T.ind (fun s:Nat×Value=>⟨[(1,.fptr false (cM m)),(2,.optr 0 0 0 0),(3,.optr 1 0 0 0),(6,.val true (.int .i64 s.1)),(1001,.eq u1 2),(1002,.eq s.2 3)],[(0,some (.box true [.sl [],.sl [],.int .i64 0,.sl [],.sl []])),(1,some (.box false (bxM u1 s.2 m.goal))),(2,some (.sl 56 2 false ((boundM m).vars.map cV))),(3,some (.sl 51 7 false (((m.cons.take s.1).map eZ).map cC)))],4⟩) (fun s=>s.1≤min m.cons.length 16) (fun s=>16-s.1) (0,.slice none 0 0) (DC _) (fun _ _ h=>by cases h.1) ?_)
   rintro⟨i,u⟩ hi ih
   simp only at hi
   refine .B ?_
   refine J.g rfl rfl rfl (fun h1=> ?_) (fun h1=> ?_)
   ·have h1:i<m.cons.length:=by simpa[cN]using h1
    refine .B ?_
    refine T.cd rfl (fun h2=> ?_) (fun h2=> ?_)
    ·have h2:i<16:=by omega
     have hrow:(m.cons.map cC)[((i:Nat):Int).toNat]? =some (cC m.cons[i]):=by simp[h1]
     have hv:=b4 _ (C5 h1)
     have htk:(m.cons.take (i+1)).map eZ=(m.cons.take i).map eZ++[eZ m.cons[i]]:=by rw[C7 h1,DF];rfl
     have hln:((m.cons.take i).map eZ).length≤16:=by simp;omega
     have ih1:=fun u'=>ih (i+1,u') (by show _≤min _ _;omega) (by show _-_<_-_;omega)
     simp only[htk]at ih1
     generalize (m.cons.take i).map eZ=out at*
     generalize m.cons[i]=c at*
     obtain⟨kind,vars,coefs,op,rhs,rows,b⟩:=c
     simp only at hv
     refine .B ?_
     refine .I (r:=cC ⟨kind,vars,coefs,op,rhs,rows,b⟩) hrow ?_
     refine .B ?_
     refine .L ?_
     refine .W ?_
     refine .M ?_
     refine J.s1 (enc:=cI) (l:=vars) (min vars.length 14) rfl rfl rfl rfl rfl rfl rfl rfl rfl (fun _=>rfl) (by simp;omega) (by omega) ?_
     refine .M ?_
     refine .W ?_
     refine .M ?_
     refine J.s1 (enc:=cI) (l:=coefs) (min coefs.length 14) rfl rfl rfl rfl rfl rfl rfl rfl rfl (fun _=>rfl) (by simp;omega) (by omega) ?_
     refine .M ?_
     refine .W ?_
     refine .M ?_
     refine .O ?_
     refine J.H rfl ?_
     conv=>whnf
     refine J.nil ?_
     refine T.sub (Rel.wk (o:=5) rfl) ?_
     refine T.mid ⟨[(1,.fptr false (cM m)),(2,.optr 0 0 0 0),(3,.optr 1 0 0 0),(6,.val true (.int .i64 i)),(7,.optr 4 0 0 0),(8,.ref 5),(1001,.eq u1 2),(1002,.eq u 3)],[(0,some (.box true [.sl [],.sl [],.int .i64 0,.sl [],.sl []])),(1,some (.box false (bxM u1 u m.goal))),(2,some (.sl 56 2 false ((boundM m).vars.map cV))),(3,some (.sl 51 7 false (out.map cC))),(4,some (.box false (cC ⟨kind,vars.take (min vars.length 14),coefs.take (min coefs.length 14),op,rhs,rows,b⟩))),(5,some (.sl 24 1 false (((rows.take 20).map fun r=>r.take (min r.length 14)).map cL)))],6⟩ ?_ ?_
     ·refine .M ?_
      refine T.K (T.ind (fun k:Nat=>⟨[(1,.fptr false (cM m)),(2,.optr 0 0 0 0),(3,.optr 1 0 0 0),(6,.val true (.int .i64 i)),(7,.optr 4 0 0 0),(8,.ref 5),(9,.val true (.int .i64 k)),(1001,.eq u1 2),(1002,.eq u 3)],[(0,some (.box true [.sl [],.sl [],.int .i64 0,.sl [],.sl []])),(1,some (.box false (bxM u1 u m.goal))),(2,some (.sl 56 2 false ((boundM m).vars.map cV))),(3,some (.sl 51 7 false (out.map cC))),(4,some (.box false (cC ⟨kind,vars.take (min vars.length 14),coefs.take (min coefs.length 14),op,rhs,rows,b⟩))),(5,some (.sl 24 1 false (((rows.take k).map fun r=>r.take (min r.length 14)).map cL)))],6⟩) (fun k=>k≤min rows.length 20) (fun k=>20-k) 0 (DC _) (fun _ _ h=>by cases h.1) ?_)
      rintro k hk ihk
      refine .B ?_
      refine J.g rfl rfl rfl (fun h3=> ?_) (fun h3=> ?_)
      ·have h3:k<rows.length:=by simpa using h3
       refine .B ?_
       refine T.cd rfl (fun h4=> ?_) (fun h4=> ?_)
       ·have h4:k<20:=by omega
        have hrk:(rows.map cL)[((k:Nat):Int).toNat]? =some (cL rows[k]):=by simp[h3]
        have hr8:=hv.2.2.2 _ (C5 h3)
        have htkr:(rows.take (k+1)).map (fun r=>r.take (min r.length 14))=(rows.take k).map (fun r=>r.take (min r.length 14))++[rows[k].take (min rows[k].length 14)]:=by rw[C7 h3,DF];rfl
        have hlr:((rows.take k).map fun r=>r.take (min r.length 14)).length≤20:=by simp;omega
        have ihk1:=ihk (k+1) (by omega) (by omega)
        rw[htkr]at ihk1
        generalize (rows.take k).map (fun r=>r.take (min r.length 14))=outr at*
        generalize rows[k]=r at*
        refine .M ?_
        refine T.rdm 15 rfl (by kernel_rfl) rfl ?_
        refine .M ?_
        refine .I (r:=cL r) hrk ?_
        refine .M ?_
        refine .I (r:=cL r) hrk ?_
        refine .M ?_
        refine J.s1 (enc:=cI) (l:=r) (min r.length 14) rfl rfl rfl rfl rfl rfl rfl rfl rfl (fun _=>rfl) (by simp;omega) (by omega) ?_
        refine .M ?_
        refine .V ?_
        refine .M ?_
        refine J.a1 (enc:=cL) (x:=r.take (min r.length 14)) (B:=24) rfl rfl rfl rfl rfl rfl rfl rfl rfl rfl rfl rfl rfl rfl rfl rfl rfl rfl rfl rfl (by omega) ?_
        refine .M ?_
        rw[ak (l:=rows.length) (n:=k) h3 (by omega)]
        exact T.K ihk1
       ·have e:k=20:=by omega
        subst e
        refine .B ?_
        exact⟨rfl,[1,2,3,6,7,8,1001,1002],[2,3,1001,1002,7,8],rfl,rfl⟩
      ·have e:k=rows.length:=by simp at h3;omega
       have e2:rows.take 20=rows.take k:=by rw[e,CV (CS _),CV (by omega)]
       rw[e2]
       refine .B ?_
       refine T.cf rfl ?_
       refine .B ?_
       exact⟨rfl,[1,2,3,6,7,8,1001,1002],[2,3,1001,1002,7,8],rfl,rfl⟩
     ·refine T.sub (Rel.frz (s:=8) (fun _ h=>h) rfl rfl) ?_
      have hown:=tn ⟨kind,vars.take (min vars.length 14),coefs.take (min coefs.length 14),op,rhs,(rows.take 20).map fun r=>r.take (min r.length 14),b⟩ ⟨by simp;omega,by simp;omega,by simp;omega,fun x hx=>by
       obtain⟨y,_,rfl⟩:=List.mem_map.1 hx
       simp;omega⟩
      rw[show eZ ⟨kind,vars,coefs,op,rhs,rows,b⟩=⟨kind,vars.take (min vars.length 14),coefs.take (min coefs.length 14),op,rhs,(rows.take 20).map fun r=>r.take (min r.length 14),b⟩from rfl]at ih1
      generalize vars.take (min vars.length 14)=vars2 at*
      generalize coefs.take (min coefs.length 14)=coefs2 at*
      generalize (rows.take 20).map (fun r=>r.take (min r.length 14))=rows2 at*
      refine .M ?_
      refine .W ?_
      refine .M ?_
      refine T.rdm 5 rfl (by kernel_rfl) rfl ?_
      refine J.H rfl ?_
      refine J.lr 1002 (q:=3) (u:=u) rfl rfl rfl rfl rfl rfl rfl rfl rfl ?_
      refine .M ?_
      refine .C hown ?_
      refine .M ?_
      refine .V ?_
      refine .M ?_
      refine J.a1 (enc:=cC) (x:=⟨kind,vars2,coefs2,op,rhs,rows2,b⟩) (B:=104) rfl rfl rfl rfl rfl rfl rfl rfl rfl rfl rfl rfl rfl rfl rfl rfl rfl rfl rfl rfl (by omega) ?_
      refine .M ?_
      refine J.name 1002 (s:=118) rfl rfl rfl fun u'=> ?_
      refine J.sub (Rel.raw (s:=118) (g:=1002) rfl (.inl rfl) rfl rfl rfl) ?_
      refine .W ?_
      refine .M ?_
      rw[ak (l:=m.cons.length) (n:=i) h1 b3]
      exact T.K (ih1 u')
    ·have e:i=16:=by omega
     subst e
     refine .B ?_
     exact⟨rfl,u,[1,2,3,1001,1002],[2,3,1001,1002],rfl,rfl⟩
   ·have e:i=m.cons.length:=by simp[cN]at h1;omega
    subst e
    have e2:m.cons.take 16=m.cons:=CV (by omega)
    rw[show(boundM m).cons=(m.cons.take 16).map eZ from rfl,e2,DE]
    refine .B ?_
    refine T.cf rfl ?_
    refine .B ?_
    exact⟨rfl,u,[1,2,3,1001,1002],[2,3,1001,1002],rfl,rfl⟩
  ·refine .M ?_
   refine .O ?_
   refine .M ?_
   refine J.s1 (enc:=cI) (l:=m.goal.vars) (min m.goal.vars.length 14) rfl rfl rfl rfl rfl rfl rfl rfl rfl (fun _=>rfl) (by simp;omega) (by omega) ?_
   refine .M ?_
   refine J.am (enc:=cI) (l:=([]:List Int)) (l2:=m.goal.vars.take (min m.goal.vars.length 14)) (B:=8) rfl rfl rfl rfl rfl rfl rfl rfl rfl rfl rfl rfl rfl rfl rfl rfl rfl (fun _=>rfl) rfl (by simp;omega) ?_
   refine J.sub (Rel.frz (s:=130) (fun _ h=>h) rfl rfl) ?_
   refine .M ?_
   refine .W ?_
   refine .M ?_
   refine .O ?_
   refine .M ?_
   refine J.s1 (enc:=cI) (l:=m.goal.coefs) (min m.goal.coefs.length 14) rfl rfl rfl rfl rfl rfl rfl rfl rfl (fun _=>rfl) (by simp;omega) (by omega) ?_
   refine .M ?_
   refine J.am (enc:=cI) (l:=([]:List Int)) (l2:=m.goal.coefs.take (min m.goal.coefs.length 14)) (B:=8) rfl rfl rfl rfl rfl rfl rfl rfl rfl rfl rfl rfl rfl rfl rfl rfl rfl (fun _=>rfl) rfl (by simp;omega) ?_
   refine J.sub (Rel.frz (s:=143) (fun _ h=>h) rfl rfl) ?_
   refine .M ?_
   refine .W ?_
   refine J.sub (fun a w h=>Rel.meltB (i:=0) (qc:=1) (q:=2) (g:=1001) (fun _ h=>h) rfl rfl rfl rfl rfl h) ?_
   refine J.sub (fun a w h=>Rel.meltB (i:=1) (qc:=1) (q:=3) (g:=1002) (fun _ h=>h) rfl rfl rfl rfl rfl h) ?_
   refine .M ?_
   refine .W ?_
   refine .M ?_
   exact⟨_,.c rfl rfl rfl rfl (fun h=>by cases h) .nil⟩
def okM (m:Mod)(most:Nat):Bool:=decide (checkR m=0)&&smallD (domsM m) most
structure RightM (m:Mod):Prop where
 b:ModB m
 good:GoodD (domsM m).length (domsM m)
 con: ∀c∈m.cons,ConB c
 right: ∀c∈m.cons,conR (domsM m) c=0
theorem y3 {m:Mod}(h:checkR m=0):(∀i,i<m.vars.length→dmM m i≠[]∧chkR (dmM m i)=0)∧∀c∈m.cons,conR (domsM m) c=0:=by
 unfold checkR at h
 split at h
 ·cases h
 ·split at h
  ·rename_i h1;exact absurd h h1
  ·rename_i h1
   have h1:firstE ((List.range m.vars.length).map (varR m))=0:=Classical.byContradiction h1
   split at h
   ·rename_i h2;exact absurd h h2
   ·rename_i h2
    have h2:firstE (m.cons.map (conR (domsM m)))=0:=Classical.byContradiction h2
    refine⟨fun i hi=> ?_,fun c hc=>mW h2 _ (List.mem_map.2 ⟨c,hc,rfl⟩)⟩
    have h3:=mW h1 _ (List.mem_map.2 ⟨i,List.mem_range.2 hi,rfl⟩)
    unfold varR at h3
    split at h3
    ·cases h3
    ·split at h3
     ·cases h3
     ·split at h3
      ·cases h3
      ·rename_i h4
       exact⟨fun e=>h4 (.inl e),Classical.byContradiction fun e=>h4 (.inr e)⟩
theorem ko {m:Mod}(hb:ModB m)(h:checkR m=0):RightM m:=by
 obtain⟨h1,h2⟩:=y3 h
 have hx: ∀x∈domsM m,x≠[]∧chkR x=0:=fun x hx=>by
  obtain⟨v,hv,rfl⟩:=List.mem_map.1 hx
  obtain⟨i,hi⟩:=C9 hv
  have hl:=(List.getElem?_eq_some_iff.1 hi).1
  have:=h1 i hl
  unfold dmM at this
  rw[C0,hi]at this
  exact this
 refine⟨hb,⟨⟨by have:=hb.vl;simp[domsM];omega,fun x h=>(r7 (hx x h).2).1,fun x h=>(r7 (hx x h).2).2⟩,rfl,fun h=>(hx _ h).1 rfl⟩,fun c hc=> ?_,h2⟩
 obtain⟨c1,c2,c3,c4⟩:=hb.cb c hc
 exact⟨by omega,by omega,by omega,fun r hr=>by have:=c4 r hr;omega⟩
theorem tL (m:Mod)(most:Nat)(hm:ModI m)(h1:1≤most∧most≤1048576):Spec Tryz.prog 10 true [.agg (cM m),.int .i64 most] [.val (.agg (cM (boundM m))),.val (.bool (okM (boundM m) most))]:=by
 refine Spec.body Tryz.func10 rfl rfl rfl fun w0 Z0=> ?_
 have hbs:=wG m hm
 have hb:=uO m
 have hck:=tI _ hb
 have hds:=od _ hb
 have hri:=fun h=>ko hb h
 have hok:okM (boundM m) most=(decide (checkR (boundM m)=0)&&smallD (domsM (boundM m)) most):=rfl
 generalize okM (boundM m) most=ok at*
 generalize boundM m=b at*
 have hsm:=fun h=>sX (domsM b) most h1 (hri h).good.few
 generalize domsM b=d at*
 generalize smallD d most=sm at*
 generalize checkR b=ck at*
 refine .B ?_
 refine .L ?_
 refine .M ?_
 refine .C hbs ?_
 refine .M ?_
 refine .W ?_
 refine .M ?_
 refine T.K (?_:T _ _ ⟨[(1,.val false (.int .i64 most)),(2,.optr 0 0 0 0),(4,.optr 1 0 0 0),(5,.val true (.bool false))],[(0,some (.box false (cM b))),(1,some (.box true [.sl [],.sl [],.int .i64 0,.sl [],.sl []]))],2⟩ _)
 refine T.rdw 11 rfl (by kernel_rfl) rfl ?_
 refine .M ?_
 refine .C hck ?_
 refine .M ?_
 refine J.g rfl rfl rfl (fun h2=> ?_) (fun h2=> ?_)
 ·refine .M ?_
  refine .C hds ?_
  refine .M ?_
  refine .C (hsm h2) ?_
  refine .M ?_
  refine J.wd rfl rfl rfl rfl rfl rfl rfl rfl rfl rfl ?_
  refine .M ?_
  refine⟨by kernel_rfl,?_⟩
  refine .M ?_
  rw[decide_eq_true h2,Da]at hok
  subst hok
  exact⟨_,.c rfl rfl rfl rfl (fun h=>by cases h) (.v rfl rfl rfl (fun h=>by cases h) .nil)⟩
 ·refine .M ?_
  refine J.wd rfl rfl rfl rfl rfl rfl rfl rfl rfl rfl ?_
  refine .M ?_
  refine⟨by kernel_rfl,?_⟩
  refine .M ?_
  have h2: ¬ck=0:=h2
  rw[decide_eq_false h2,EM]at hok
  subst hok
  exact⟨_,.c rfl rfl rfl rfl (fun h=>by cases h) (.v rfl rfl rfl (fun h=>by cases h) .nil)⟩
theorem x4 {n:Nat}{d out:aa}{c:Con}(hc:ConB c)(gd:GoodD n d)(go: ∀v:Int,v.toNat<n→az (domAt out v))(hle:leD out d)(h:conR d c=0):conR out c=0:=by
 obtain⟨hk,hv,hr,hin⟩:=cS hc h
 have hb:=jz h
 have tm: ∀v:Int,0≤v→v.toNat<d.length→truthR (domAt d v)=true→truthR (domAt out v)=true:=fun v h0 hl ht=>by
  rw[gd.len]at hl
  exact(gR (go v hl)).2 fun x hx=>(gR (gd.at_ hl).1).1 ht x (hle.2 v x h0 hx)
 have hl:out.length=d.length:=hle.1
 unfold conR
 rw[if_neg (by omega),if_neg,if_neg,if_neg (by rw[hb];simp)]
 ·have hr2:rightR out c=true:=by
   unfold rightR at hr⊢
   split
   ·rename_i h0;rw[if_pos h0]at hr;exact hr
   ·rename_i h0
    rw[if_neg h0]at hr
    split
    ·rename_i h1;rw[if_pos h1]at hr;exact hr
    ·rename_i h1
     rw[if_neg h1]at hr
     split
     ·rename_i h2;rw[if_pos h2]at hr;exact hr
     ·rename_i h2
      rw[if_neg h2]at hr
      split
      ·rename_i h3;rw[if_pos h3]at hr;exact hr
      ·rename_i h3
       rw[if_neg h3]at hr
       split
       ·rename_i h4
        rw[if_pos h4]at hr
        simp only[CR]at hr⊢
        have hb4:=hin c.b (uses_mem.2 (.inr ⟨h4,rfl⟩))
        exact⟨⟨hr.1.1,tm c.b hb4.1 hb4.2 hr.1.2⟩,hr.2⟩
       ·rename_i h4
        rw[if_neg h4]at hr
        split
        ·rename_i h5
         rw[if_pos h5]at hr
         simp only[CR]at hr⊢
         refine⟨hr.1,List.all_eq_true.2 fun i hi=> ?_⟩
         have hu:=List.all_eq_true.1 hr.2 i hi
         simp only[gg,CR]at hu⊢
         have hvi:=hv.2 _ (aK (c:=c) (List.mem_range.1 hi))
         exact⟨tm _ hvi.1 hvi.2 hu.1,hu.2⟩
        ·rename_i h5;rw[if_neg h5]at hr;exact hr
  rw[hr2];simp
 ·have:(usesR c).all (inD out)=true:=List.all_eq_true.2 fun u hu=>ln.2 (by have:=hin u hu;omega)
  rw[this];simp
def dmQ (a b c d:Int):aa:=[[(a,b)],[(c,d)]]
theorem jb {a b c d:Int}(h1:a≤b)(h2:c≤d)(h3:0≤a)(h4:0≤c)(h5:b≤3)(h6:d≤3):GoodD 2 (dmQ a b c d):=by
 have f1:Fine [(a,b)]:=Ar h1 (by omega) (by omega)
 have f2:Fine [(c,d)]:=Ar h2 (by omega) (by omega)
 have key: ∀a b:Int,0≤a→b≤3→(vals [(a,b)]).length≤4096:=fun a b h1 h2=>by
  show(rng a b++[]).length≤4096
  simp[rng];omega
 refine⟨⟨by simp[dmQ],fun x hx=> ?_,fun x hx=> ?_⟩,rfl,by simp[dmQ]⟩
 ·simp[dmQ]at hx;rcases hx with rfl|rfl<;>assumption
 ·simp[dmQ]at hx;rcases hx with rfl|rfl
  ·exact key _ _ h3 h5
  ·exact key _ _ h4 h6
theorem jk {d:aa}{c:Con}{R:Option aa}{N:Nat}(gd:GoodD 2 d)(hc:ConB c)(hk:c.kind=0)(hr:conR d c=0)(h:LinAns d c R N):bK c d=R:=by
 obtain⟨M,hM⟩:=gF (rt hc hr hk gd.few.fine gd.few.small)
 unfold bK
 rw[if_pos hk]
 exact xm hM h
theorem zU {m:Mod}{most:Nat}(hb:ModB m)(h:okM m most=true)(h1:1≤most):RightM m∧prodD (domsM m)≤most:=by
 unfold okM at h
 rw[CR,decide_eq_true_eq]at h
 exact⟨ko hb h.1,xW h.2 h1⟩
def cCh (p:Int×List (Int×Int)):List PV:=[.int .i64 p.1,dm p.2]
theorem Ai {ns:List Value}{n:Nat}(h:ns.length=n)(hn:n=1): ∃u,ns=[u]:=List.length_eq_one_iff.1 (h.trans hn)
theorem xO (d:aa)(fd:FewD d):Spec Tryz.prog 68 false [.ptr [aJ d]] [.own 54 1 (d.map cD)]:=by
 refine Spec.body Tryz.func68 rfl rfl rfl fun w0 Z0=> ?_
 have hd:=fd.small
 refine T.sub (Rel.pf (s:=0) rfl) ?_
 refine .B ?_
 refine T.sub (Rel.own0 (s:=3) 54 1 rfl) ?_
 refine T.K (T.listI d (fun _=>True) (fun n pre post=>⟨[(3,.ref 0),(9,.val false (aJ d)),(10,.val true (.int .i64 (d.map cD).length)),(11,.val true (.int .i64 n))],[(0,some (.sl 54 1 true (pre.map cD)))],1⟩) (fun _ _ h=>h) trivial ?_ ?_)
 ·rintro n pre x post h hn hi ih
  have hlt:=bY h hn
  have hxl:=(fd.fine x (by rw[h];simp)).len
  refine .B ?_
  refine T.ct2 rfl (bX h hn) ?_
  refine .B ?_
  refine .I (r:=cD x) (aS h hn) ?_
  refine .B ?_
  refine .C (bQ x (by omega)).frz ?_
  refine .B ?_
  refine .V ?_
  refine .B ?_
  refine J.aD rfl rfl rfl rfl rfl rfl rfl rfl rfl rfl rfl rfl rfl rfl rfl rfl rfl rfl rfl (by omega) ?_
  refine .B ?_
  rw[ak hlt (by omega)]
  exact T.K (ih trivial)
 ·intro _
  refine .B ?_
  refine T.cf2 rfl bl ?_
  refine .B ?_
  exact⟨_,.o rfl rfl rfl (fun _=> .inl rfl) (by simp) .nil⟩
theorem zh (sb:Nat)(lv cv mv:Value)(d:aa)(i:Int):SpecX Tryz.prog 141 [.pointer (some ⟨sb,0,none⟩),lv] [] [.box true [.raw lv,.raw cv,.raw mv],.sl 54 1 true (d.map cD)] [] [(true,.raw (.pointer (some ⟨sb,0,none⟩))),(true,.int .i64 i)]
  (fun _=>[.box true [.raw lv,.raw cv,.raw mv],.sl 54 1 true (d.map cD)]) (fun _=>[]) true (fun _=>[.bool (decide (0≤i∧i<d.length))]):=by
 refine SpecX.body (fn:=Tryz.f141) [1000,1001] [] rfl rfl rfl rfl fun w0 Z=> ?_
 refine T.sub (Rel.derawp (s:=0) (g:=1000) rfl rfl rfl) ?_
 refine .B ?_
 refine J.g rfl rfl rfl (fun h1=> ?_) (fun h1=> ?_)
 ·have h1:0≤i:=h1
  have e:decide (0≤i∧i<d.length)=decide (i<((d.map cD).length:Int)):=by simp[h1]
  rw[e]
  refine .B ?_
  refine J.sub (Rel.deraw (s:=12) (g:=1001) rfl rfl) ?_
  refine .B ?_
  exact⟨[0,1],[],[],⟨rfl,⟨_,rfl,rfl,rfl⟩,rfl,⟨_,rfl,rfl,rfl⟩,trivial⟩,trivial,rfl,.val rfl rfl (fun _=>rfl) .nil⟩
 ·have h1: ¬0≤i:=h1
  have e:decide (0≤i∧i<d.length)=false:=by simp[h1]
  rw[e]
  refine .B ?_
  exact⟨[0,1],[],[],⟨rfl,⟨_,rfl,rfl,rfl⟩,rfl,⟨_,rfl,rfl,rfl⟩,trivial⟩,trivial,rfl,.val rfl rfl (fun _=>rfl) .nil⟩
theorem u6 (sb:Nat)(lv cv mv:Value)(ch:List (Int×List (Int×Int)))(mk:List Int)(hl:(mk.length+1)*8≤140737488355328):SpecX Tryz.prog 115 [.pointer (some ⟨sb,0,none⟩),cv] [mv] [.box true [.raw lv,.raw cv,.raw mv],.sl 156 2 true (ch.map cCh)] [.sl 3 1 true (mk.map cI)] [(true,.raw (.pointer (some ⟨sb,0,none⟩)))]
  (fun ns=>[.box true [.raw lv,.raw cv,.raw (ns.getD 0 undef)],.sl 156 2 true (ch.map cCh)]) (fun _=>[.sl 3 1 true ((mk++[(ch.length:Int)]).map cI)]) true (fun _=>[]):=by
 refine SpecX.body (fn:=Tryz.f115) [1000,1001,1002] [1003] rfl rfl rfl rfl fun w0 Z=> ?_
 refine T.sub (Rel.derawp (s:=0) (g:=1000) rfl rfl rfl) ?_
 refine T.rdw 14 rfl (by kernel_rfl) rfl ?_
 iterate 4 refine J.H rfl ?_
 refine J.lr 1002 (q:=2) (u:=mv) rfl rfl rfl rfl rfl rfl rfl rfl rfl ?_
 iterate 3 refine J.H rfl ?_
 refine J.lr 1001 (q:=1) (u:=cv) rfl rfl rfl rfl rfl rfl rfl rfl rfl ?_
 refine .M ?_
 refine .V ?_
 refine J.ad rfl rfl rfl rfl rfl rfl rfl rfl rfl rfl rfl rfl rfl rfl rfl rfl rfl rfl (cB rfl) (by show(List.length _+1)*8≤_;simp;omega) ?_
 refine .M ?_
 refine⟨by kernel_rfl,?_⟩
 refine J.name 1003 (s:=13) rfl rfl rfl fun u=> ?_
 refine J.sub (Rel.raw (s:=13) (g:=1003) rfl (.inl rfl) rfl rfl rfl) ?_
 refine .W ?_
 refine .B ?_
 have e:mk.map cI++[[PV.int .i64 ((ch.map cCh).length:Nat)]]=(mk++[(ch.length:Int)]).map cI:=by simp[cI]
 refine⟨[0,1],[3],[u],⟨rfl,⟨_,rfl,rfl,rfl⟩,rfl,⟨_,rfl,rfl,rfl⟩,trivial⟩,⟨rfl,⟨_,rfl,?_,rfl⟩,trivial⟩,rfl,.nil⟩
 rw[←e];rfl
theorem uE (d:List (Int×Int))(hl:d.length≤1048576):Spec Tryz.prog 127 false [dm d] [.val (.bool (!(List.range d.length).any (badR d)))]:=by
 refine Spec.body Tryz.func127 rfl rfl rfl fun w0 Z0=> ?_
 generalize hR:(!(List.range d.length).any (badR d))=R
 refine .B ?_
 refine T.K (T.ind (fun i:Nat=>⟨[(0,.val false (dm d)),(5,.val false (dm d)),(6,.val true (.int .i64 (d.map cR).length)),(7,.val true (.int .i64 i))],[],0⟩) (fun i=>i≤d.length∧∀j,j<i→badR d j=false) (fun i=>d.length-i) 0 ⟨DC _,fun j hj=>absurd hj (DY j)⟩ (fun _ _ h=>h) ?_)
 rintro i ⟨hi,hb⟩ ih
 refine .B ?_
 refine T.cd rfl (fun h1=> ?_) (fun h1=> ?_)
 ·have h6:i<d.length:=by simpa using h1
  have hrow:(d.map cR)[((i:Nat):Int).toNat]? =some (cR (d.getD i (0,0))):=by simp[h6,C0]
  have hprev:0<i→(d.map cR)[(((i-1:Nat)):Int).toNat]? =some (cR (d.getD (i-1) (0,0)))∧aH (d.getD (i-1) (0,0)).2=true:=fun h=>by
   refine⟨by rw[D1,C8,C1 (show i-1<d.length by omega),C0,C1 (show i-1<d.length by omega)];rfl,?_⟩
   have:=hb (i-1) (by omega)
   unfold badR at this
   simp only[FD,EU]at this
   exact this.2.1
  have hno:badR d i=true→R=false:=fun h=>by
   rw[←hR,EU]
   exact List.any_eq_true.2 ⟨i,List.mem_range.2 h6,h⟩
  have hbd:badR d i=(!aH (d.getD i (0,0)).1||(!aH (d.getD i (0,0)).2||(decide ((d.getD i (0,0)).1 > (d.getD i (0,0)).2)||(decide ((i:Int) > 0)&&decide ((d.getD i (0,0)).1-(d.getD (i-1) (0,0)).2<2))))):=rfl
  have ih1:=fun hbi:badR d i=false=>ih (i+1) ⟨by omega,fun j hj=>by
   by_cases e:j=i
   ·rw[e];exact hbi
   ·exact hb j (by omega)⟩ (by omega)
  have hw1:IntKind.i64.wrap ((i:Int)+1)=((i+1:Nat):Int):=by rw[ae (by omega) (by omega)];omega
  have hw2:0<i→IntKind.i64.wrap ((i:Int)-1)=((i-1:Nat):Int):=fun h=>by rw[ae (by omega) (by omega)];omega
  generalize badR d i=bad at*
  generalize d.getD i (0,0)=r at*
  generalize d.getD (i-1) (0,0)=p at*
  obtain⟨lo,hi2⟩:=r
  simp only at*
  have v1:=i9 lo
  have v2:=i9 hi2
  have wn:IntKind.i64.wrap (p.2+2)=p.2+2∨i=0:=by
   by_cases h0:i=0
   ·exact .inr h0
   ·have hpv:=(hprev (by omega)).2
    simp only[aH,decide_eq_true_eq]at hpv
    exact .inl (ae (by omega) (by omega))
  refine .B ?_
  refine .I (r:=cR (lo,hi2)) hrow ?_
  refine .B ?_
  refine .L ?_
  refine .B ?_
  refine .W ?_
  refine .B ?_
  refine .C v1 ?_
  refine .B ?_
  cases a1:aH lo with
  |false=>
   obtain rfl:=hno (by rw[hbd,a1];rfl)
   refine .B ?_
   refine T.ct rfl ?_
   refine .B ?_
   exact r1
  |true=>
   refine .B ?_
   refine .C v2 ?_
   refine .B ?_
   cases a2:aH hi2 with
   |false=>
    obtain rfl:=hno (by rw[hbd,a1,a2];rfl)
    refine .B ?_
    refine T.ct rfl ?_
    refine .B ?_
    exact r1
   |true=>
    refine .B ?_
    refine J.g rfl rfl rfl (fun h3=> ?_) (fun h3=> ?_)
    ·have h3:lo > hi2:=h3
     obtain rfl:=hno (by rw[hbd,a1,a2,decide_eq_true h3];rfl)
     refine .B ?_
     refine T.ct rfl ?_
     refine .B ?_
     exact r1
    ·have h3: ¬lo > hi2:=h3
     refine .B ?_
     refine J.g rfl rfl rfl (fun h4=> ?_) (fun h4=> ?_)
     ·have h4:(i:Int) > 0:=h4
      refine .B ?_
      rw[hw2 (by omega)]
      refine .I (r:=cR p) (hprev (by omega)).1 ?_
      refine .B ?_
      rw[wn.resolve_right (by omega)]
      refine T.cd rfl (fun h5=> ?_) (fun h5=> ?_)
      ·have h5:lo<p.2+2:=h5
       obtain rfl:=hno (by rw[hbd,a1,a2,decide_eq_false h3,decide_eq_true h4,decide_eq_true (show lo-p.2<2 by omega)];rfl)
       refine .B ?_
       exact r1
      ·have h5: ¬lo<p.2+2:=h5
       refine .B ?_
       rw[hw1]
       exact T.K (ih1 (by rw[hbd,a1,a2,decide_eq_false h3,decide_eq_true h4,decide_eq_false (show¬lo-p.2<2 by omega)];rfl))
     ·have h4: ¬(i:Int) > 0:=h4
      refine .B ?_
      refine T.cf rfl ?_
      refine .B ?_
      rw[hw1]
      exact T.K (ih1 (by rw[hbd,a1,a2,decide_eq_false h3,decide_eq_false h4];rfl))
 ·have h7:i=d.length:=by simp at h1;omega
  have:R=true:=by
   rw[←hR,Dd,F6]
   intro j hj
   have:=hb j (by have:=List.mem_range.1 hj;omega)
   rw[this];simp
  subst this
  refine .B ?_
  exact r1
theorem pU: ∀(l:List (Int×Int)) (n:Int),(∀r∈l,-1048576≤r.1∧r.2≤1048576∧r.1≤r.2)→0≤n→n+l.length*4194304≤4611686018427387904→l.foldl (fun n r=>wr (n+wr (wr (r.2-r.1)+1))) n=n+sizeI l
 | [],n,_,_,_=>by simp[sizeI]
 |r::l,n,h,h0,hb=>by
  have hr:=h r (.head _)
  rw[D0]at hb
  have e:wr (n+wr (wr (r.2-r.1)+1))=n+(r.2-r.1+1):=by
   simp only[wr]
   rw[ae (n:=r.2-r.1) (by omega) (by omega),ae (n:=r.2-r.1+1) (by omega) (by omega),ae (by omega) (by omega)]
  rw[CZ,e,pU l _ (fun r hr=>h r (.tail _ hr)) (by omega) (by omega)]
  simp only[sizeI,CY,Dg]
  omega
theorem jc (d:List (Int×Int))(hl:d.length≤1048576):Spec Tryz.prog 99 false [dm d] [.val (.int .i64 (chkR d))]:=by
 refine Spec.body Tryz.func99 rfl rfl rfl fun w0 Z0=> ?_
 have hr:=uE d hl
 have hz:=gy d (by omega)
 unfold chkR
 cases hb:(List.range d.length).any (badR d)with
 |true=>
  rw[hb]at hr
  refine .B ?_
  refine .C hr ?_
  refine .B ?_
  refine T.ct rfl ?_
  refine .B ?_
  exact r1
 |false=>
  rw[hb]at hr
  have e:fD d=sizeI d:=by
   have:=pU d 0 (fun r hr=>by
    obtain⟨i,hi⟩:=C9 hr
    have hil:=(List.getElem?_eq_some_iff.1 hi).1
    have h2:=List.any_eq_false.1 hb i (List.mem_range.2 hil)
    unfold badR at h2
    rw[C0,hi]at h2
    simp only[Dw,E0,not_or,Dd,aH,decide_eq_true_eq,decide_eq_false_iff_not,Classical.not_not]at h2
    omega) (by omega) (by omega)
   rw[FJ]at this
   exact this
  rw[e]at hz
  refine .B ?_
  refine .C hr ?_
  refine .B ?_
  refine T.cf rfl ?_
  refine .B ?_
  refine .C hz ?_
  refine .B ?_
  refine T.cd rfl (fun h1=> ?_) (fun h1=> ?_)
  ·have h1:sizeI d > 4096:=h1
   refine .B ?_
   exact⟨_,.v rfl rfl (by rw[if_pos h1];rfl) (fun _=>rfl) .nil⟩
  ·have h1: ¬sizeI d > 4096:=h1
   refine .B ?_
   exact⟨_,.v rfl rfl (by rw[if_neg h1];rfl) (fun _=>rfl) .nil⟩
theorem jJ {s:Int×Int}: ∀(b:List (Int×Int)) (lo hi:Int) (out:List (Int×Int)),az b→s∈b→s.1≤lo→lo≤hi→hi≤s.2→-1048576≤s.2∧s.2≤1048576→bL b lo hi out=(s.2+1,out)
 | [],lo,hi,out,_,h,_,_,_,_=>by cases h
 |y::b,lo,hi,out,hb,h,h1,h2,h3,h4=>by
  have hp:=List.pairwise_cons.1 hb.2
  rw[bL]
  rcases List.mem_cons.1 h with rfl|h
  ·rw[if_neg (by omega),if_neg (by omega)]
   have hw:wr (s.2+1)=s.2+1:=ae (by omega) (by omega)
   rw[hw]
   have: ∀(b:List (Int×Int)) (o:List (Int×Int)),(∀t∈b,s.2+1<t.1)→bL b (s.2+1) hi o=(s.2+1,o):=by
    intro b
    induction b with
    |nil=>intro o _;rfl
    |cons t b ih=>
     intro o ht
     rw[bL,if_pos (.inr (by have:=ht t (.head _);omega))]
     exact ih o fun t h=>ht t (.tail _ h)
   exact this b out fun t ht=>by have:=hp.1 t ht;omega
  ·have:=hp.1 s h
   rw[if_pos (.inl (by omega))]
   exact jJ b lo hi out hb.tail h h1 h2 h3 h4
theorem yr {a b:List (Int×Int)}(ha:az a)(hb:Fine b)(hs: ∀v∈vals a,v∈vals b):dY a b=[]:=by
 have key: ∀(l:List (Int×Int)),(∀r∈l,r∈a)→l.foldl (cE b) []=[]:=by
  intro l
  induction l with
  |nil=>intro _;rfl
  |cons r l ih=>
   intro hl
   have hr:=hl r (.head _)
   have hr1:=ha.1 r hr
   obtain⟨s,hsb,h1,h2⟩:=aT.1 (hs r.1 (aT.2 ⟨r,hr,DO _,hr1⟩))
   have h3:r.2≤s.2:=by
    apply Classical.byContradiction
    intro hn
    obtain⟨t,htb,h4,h5⟩:=aT.1 (hs (s.2+1) (aT.2 ⟨r,hr,by omega,by omega⟩))
    have hsp:=hb.ok.1 s hsb
    have htp:=hb.ok.1 t htb
    have hne:s≠t:=fun e=>by subst e;omega
    have: ∀{l:List (Int×Int)},l.Pairwise (fun r s=>r.2+2≤s.1)→s∈l→t∈l→s.2+2≤t.1∨t.2+2≤s.1:=by
     intro l hp
     induction l with
     |nil=>intro h;cases h
     |cons x l ih=>
      intro hs ht
      have hx:=List.pairwise_cons.1 hp
      rcases List.mem_cons.1 hs with e1|hs
      ·rcases List.mem_cons.1 ht with e2|ht
       ·exact absurd (e1.trans e2.symm) hne
       ·rw[e1];exact .inl (hx.1 t ht)
      ·rcases List.mem_cons.1 ht with e2|ht
       ·rw[e2];exact .inr (hx.1 s hs)
       ·exact ih hx.2 hs ht
    rcases this hb.ok.2 hsb htb with h|h<;>omega
   have hsv:=hb.val s.2 (aT.2 ⟨s,hsb,hb.ok.1 s hsb,DO _⟩)
   rw[CZ]
   have e:cE b [] r=[]:=by
    unfold cE
    rw[jJ b r.1 r.2 [] hb.ok hsb h1 hr1 h3 hsv,if_neg (by simp only;omega)]
   rw[e]
   exact ih fun r h=>hl r (.tail _ h)
 exact key a fun r h=>h
theorem ux {x:List (Int×Int)}(hf:Fine x)(hl:(vals x).length≤4096):chkR x=0:=by
 unfold chkR
 rw[if_neg,if_neg]
 ·rw[sS hf.ok];omega
 ·intro h
  obtain⟨i,hi,hb⟩:=List.any_eq_true.1 h
  have hil:=List.mem_range.1 hi
  have hm:=C5 hil
  have h0:=hf.ok.1 _ hm
  have hv1:=hf.val x[i].1 (aT.2 ⟨_,hm,DO _,h0⟩)
  have hv2:=hf.val x[i].2 (aT.2 ⟨_,hm,h0,DO _⟩)
  have hp:0<i→x[i-1].2+2≤x[i].1:=fun h=>List.pairwise_iff_getElem.1 hf.ok.2 (i-1) i (by omega) hil (by omega)
  unfold badR at hb
  rw[C0,C1 hil]at hb
  simp only[Dw,E0,Dd,CR,decide_eq_true_eq,aH,decide_eq_false_iff_not]at hb
  rcases hb with hb|hb|hb|⟨h1,h2⟩
  ·omega
  ·omega
  ·omega
  ·have hpi:=hp (by omega)
   rw[C0,C1 (show i-1<x.length by omega)]at h2
   simp only[Dw]at h2
   omega
def chS (ch:List (Int×List (Int×Int)))(i:Nat)(y x:List (Int×Int)):List (Int×List (Int×Int)):=if x=y then ch else ch++[((i:Int),y)]
theorem pN (sb:Nat)(lv cv mv:Value)(d:aa)(ch:List (Int×List (Int×Int)))(i:Nat)(x y:List (Int×Int))(fd:FewD d)(hy:d[i]? =some y)(hx:Fine x)(hxl:(vals x).length≤4096)(hs: ∀v∈vals x,v∈vals y)(hl:(ch.length+1)*32≤140737488355328):
  SpecX Tryz.prog 110 [.pointer (some ⟨sb,0,none⟩),lv] [cv] [.box true [.raw lv,.raw cv,.raw mv],.sl 54 1 true (d.map cD)] [.sl 156 2 true (ch.map cCh)] [(true,.raw (.pointer (some ⟨sb,0,none⟩))),(true,.int .i64 i),(false,dm x)]
  (fun ns=>[.box true [.raw lv,.raw (ns.getD 0 undef),.raw mv],.sl 54 1 true ((d.set i x).map cD)]) (fun _=>[.sl 156 2 true ((chS ch i y x).map cCh)]) true (fun _=>[.int .i64 0]):=by
 refine SpecX.body (fn:=Tryz.f110) [1000,1001,1002] [1003] rfl rfl rfl rfl fun w0 Z=> ?_
 have hil:=(List.getElem?_eq_some_iff.1 hy).1
 have hds:=fd.small
 have hym:y∈d:=C4 hy
 have hyl:=bG (fd.fine y hym).ok
 have hyf:=fd.few y hym
 have hxd:=bG hx.ok
 have his:=zh sb lv cv mv d (i:Int)
 rw[show decide (0≤(i:Int)∧(i:Int)<d.length)=true from decide_eq_true ⟨by omega,by omega⟩]at his
 have hck:=jc x (by omega)
 rw[ux hx hxl]at hck
 have hmi:=j9 x y (by omega) (by
  have:(x.length+1)*(y.length+1)≤4097*4097:=FE (by omega) (by omega)
  omega)
 rw[yr hx.ok (fd.fine y hym) hs]at hmi
 have hsa:=d8 x y (by omega)
 have hrow:(d.map cD)[((i:Nat):Int).toNat]? =some (cD y):=by rw[D1,C8,hy];rfl
 have hcl:=bQ x (by omega)
 refine T.sub (Rel.derawp (s:=0) (g:=1000) rfl rfl rfl) ?_
 refine .B ?_
 refine J.cx [0,1] [1000,1001] [] his ⟨rfl,⟨_,rfl,rfl,rfl⟩,rfl,⟨_,rfl,rfl,rfl⟩,trivial⟩ (fun ns hns=> ?_)
 refine .B ?_
 refine T.cf rfl ?_
 refine .B ?_
 refine .C hck ?_
 refine .B ?_
 refine T.cf rfl ?_
 refine .B ?_
 refine J.sub (Rel.deraw (s:=24) (g:=1001) rfl rfl) ?_
 refine .B ?_
 refine J.io rfl rfl rfl rfl rfl rfl rfl rfl rfl (by omega) (by simpa using hil) rfl ?_
 refine .B ?_
 refine J.lo rfl rfl rfl rfl rfl rfl (r:=cD y) hrow rfl ?_
 refine .B ?_
 refine .C hmi ?_
 refine .B ?_
 refine T.cf rfl ?_
 refine .B ?_
 refine J.sub (Rel.deraw (s:=36) (g:=1001) rfl rfl) ?_
 refine .B ?_
 refine J.io rfl rfl rfl rfl rfl rfl rfl rfl rfl (by omega) (by simpa using hil) rfl ?_
 refine .B ?_
 refine J.lo rfl rfl rfl rfl rfl rfl (r:=cD y) hrow rfl ?_
 refine .B ?_
 refine .C hsa ?_
 refine .B ?_
 by_cases hxy:x=y
 ·rw[decide_eq_true hxy]
  refine .B ?_
  refine T.sub (Rel.ecp 1003 1002 rfl) ?_
  refine T.cf rfl ?_
  refine .B ?_
  have e1:chS ch i y x=ch:=if_pos hxy
  have e2:(d.set i x).map cD=d.map cD:=by
   rw[hxy]
   have:d.set i y=d:=by
    refine Ds fun j=> ?_
    by_cases hj:j=i
    ·rw[hj,DH hil,hy]
    ·rw[D2 (Ne.symm hj)]
   rw[this]
  rw[e1,e2]
  exact⟨[0,1],[2],[cv],⟨rfl,⟨_,rfl,rfl,rfl⟩,rfl,⟨_,rfl,rfl,rfl⟩,trivial⟩,⟨rfl,⟨_,rfl,rfl,rfl⟩,trivial⟩,rfl,.val rfl rfl (fun _=>rfl) .nil⟩
 ·rw[decide_eq_false hxy]
  refine .B ?_
  refine T.ct rfl ?_
  refine .M ?_
  refine T.K (?_:T _ _ ⟨[(0,.optr 0 0 0 0),(1,.val true (.int .i64 i)),(2,.val false (dm x)),(6,.val true (.int .i64 0)),(1000,.eq (.pointer (some ⟨sb,0,none⟩)) 0),(1001,.eq lv 1),(1002,.eq cv 2)],[(0,some (.box true [.raw lv,.raw cv,.raw mv])),(1,some (.sl 54 1 true (d.map cD))),(2,some (.sl 156 2 true (ch.map cCh)))],3⟩ _)
  refine T.rdw 19 rfl (by kernel_rfl) rfl ?_
  iterate 4 refine J.H rfl ?_
  refine J.lr 1002 (q:=2) (u:=cv) rfl rfl rfl rfl rfl rfl rfl rfl rfl ?_
  iterate 5 refine J.H rfl ?_
  refine J.lr 1001 (q:=1) (u:=lv) rfl rfl rfl rfl rfl rfl rfl rfl rfl ?_
  refine .M ?_
  refine J.io rfl rfl rfl rfl rfl rfl rfl rfl rfl (by omega) (by simpa using hil) rfl ?_
  refine .M ?_
  refine J.lo rfl rfl rfl rfl rfl rfl (r:=cD y) hrow rfl ?_
  refine .M ?_
  refine .V ?_
  refine J.ad rfl rfl rfl rfl rfl rfl rfl rfl rfl rfl rfl rfl rfl rfl rfl rfl rfl rfl (cB rfl) (by show(List.length _+1)*32≤_;simp;omega) ?_
  refine .M ?_
  refine⟨by kernel_rfl,?_⟩
  refine J.name 1003 (s:=58) rfl rfl rfl fun u=> ?_
  refine J.sub (Rel.raw (s:=58) (g:=1003) rfl (.inl rfl) rfl rfl rfl) ?_
  refine .W ?_
  refine .M ?_
  have e:ch.map cCh++[cCh ((i:Int),y)]=(chS ch i y x).map cCh:=by unfold chS;rw[if_neg hxy];simp
  have e1:ch.map cCh++[[PV.int .i64 (i:Int),dm y]]=(chS ch i y x).map cCh:=e
  refine T.K (?_:T _ _ ⟨[(0,.optr 0 0 0 0),(1,.val true (.int .i64 i)),(2,.val false (dm x)),(6,.val true (.int .i64 0)),(1000,.eq (.pointer (some ⟨sb,0,none⟩)) 0),(1001,.eq lv 1),(1003,.eq u 2)],[(0,some (.box true [.raw lv,.raw u,.raw mv])),(1,some (.sl 54 1 true (d.map cD))),(2,some (.sl 156 2 true (ch.map cCh++[[PV.int .i64 (i:Int),dm y]])))],3⟩ _)
  rw[e1]
  refine T.rdm 8 rfl (by kernel_rfl) rfl ?_
  iterate 4 refine J.H rfl ?_
  refine J.lr 1001 (q:=1) (u:=lv) rfl rfl rfl rfl rfl rfl rfl rfl rfl ?_
  refine .M ?_
  refine .C hcl.frz ?_
  refine .M ?_
  refine J.io rfl rfl rfl rfl rfl rfl rfl rfl rfl (by omega) (by simpa using hil) rfl ?_
  refine .M ?_
  refine J.w1 rfl rfl rfl rfl rfl rfl rfl rfl rfl rfl rfl (enc:=cD) (z:=x) (fun _=>rfl) (by simpa using hil) ?_
  refine .B ?_
  exact⟨[0,1],[2],[u],⟨rfl,⟨_,rfl,rfl,rfl⟩,rfl,⟨_,rfl,rfl,rfl⟩,trivial⟩,⟨rfl,⟨_,rfl,rfl,rfl⟩,trivial⟩,rfl,.val rfl rfl (fun _=>rfl) .nil⟩
def fV (l:List (Int×List (Int×Int)))(d:aa):aa:=l.foldr (fun c d=>d.set c.1.toNat c.2) d
theorem xL (l:List (Int×List (Int×Int)))(c:Int×List (Int×Int))(d:aa):fV (l++[c]) d=fV l (d.set c.1.toNat c.2):=by simp[fV]
theorem u7 (sb:Nat)(lv cv mv:Value)(d:aa)(ch tail:List (Int×List (Int×Int)))(mk:List Int)(ht: ∀c∈tail,0≤c.1∧c.1<(d.length:Int))(hd:d.length<4611686018427387904)(hl:(ch++tail).length<4611686018427387904)(hm:mk.length<4611686018427387904):
  SpecXD Tryz.prog 116 [.pointer (some ⟨sb,0,none⟩),lv] [cv,mv] [.box true [.raw lv,.raw cv,.raw mv],.sl 54 1 true (d.map cD)] [.sl 156 2 true ((ch++tail).map cCh),.sl 3 1 true ((mk++[(ch.length:Int)]).map cI)] [(true,.raw (.pointer (some ⟨sb,0,none⟩)))]
  (fun ns=>[.box true [.raw lv,.raw (ns.getD 0 undef),.raw (ns.getD 1 undef)],.sl 54 1 true ((fV tail d).map cD)]) (fun _=>[.sl 156 2 true (ch.map cCh),.sl 3 1 true (mk.map cI)]) true (fun _=>[.int .i64 0]):=by
 refine SpecXD.body (fn:=Tryz.f116) [1000,1001,1002,1003] [1004,1005] rfl rfl rfl rfl fun w0 Z=> ?_
 refine T.sub (Rel.derawp (s:=0) (g:=1000) rfl rfl rfl) ?_
 refine T.known 1003 3 rfl rfl (by simp) fun mb mc emv hmc hm0=> ?_
 obtain rfl:mv= .slice (some ⟨mb,0,none⟩) (mk.length+1) mc:=by rw[emv];simp
 rw[C6,CW,Db]at hmc
 clear emv
 have emn:(((mk++[(ch.length:Int)]).map cI).length:Int)=(mk.length:Int)+1:=by simp
 have ew:IntKind.wrap .i64 ((mk.length:Int)+1-1)=(mk.length:Int):=(ae (by omega) (by omega)).trans (by omega)
 refine .B ?_
 refine J.sub (Rel.deraw (s:=8) (g:=1003) rfl rfl) ?_
 refine .B ?_
 refine T.cf2 rfl (decide_eq_false (by rw[emn];omega)) ?_
 refine .M ?_
 rw[emn]
 refine T.K (T.ind (fun s:Value×List (Int×List (Int×Int))×aa=>⟨[(0,.optr 0 0 0 0),(3,.val true (.int .i64 (mk.length+1))),(1000,.eq (.pointer (some ⟨sb,0,none⟩)) 0),(1001,.eq lv 1),(1002,.eq s.1 2),(1003,.eq (.slice (some ⟨mb,0,none⟩) (mk.length+1) mc) 3)],[(0,some (.box true [.raw lv,.raw s.1,.raw (.slice (some ⟨mb,0,none⟩) (mk.length+1) mc)])),(1,some (.sl 54 1 true (s.2.2.map cD))),(2,some (.sl 156 2 true ((ch++s.2.1).map cCh))),(3,some (.sl 3 1 true ((mk++[(ch.length:Int)]).map cI)))],4⟩)
  (fun s=>(∀c∈s.2.1,0≤c.1∧c.1<(d.length:Int))∧s.2.2.length=d.length∧fV s.2.1 s.2.2=fV tail d∧s.2.1.length≤tail.length) (fun s=>s.2.1.length) (cv,tail,d) ⟨ht,rfl,rfl,CS _⟩ (fun _ _ h=>h) ?_)
 rintro⟨cu,tl,dd⟩ ⟨h1,h2,h3,h4⟩ ih
 dsimp only at h1 h2 h3 h4 ih⊢
 refine .M ?_
 refine T.rdm 13 rfl (by kernel_rfl) rfl ?_
 iterate 3 refine J.H rfl ?_
 refine J.lr 1002 (q:=2) (u:=cu) rfl rfl rfl rfl rfl rfl rfl rfl rfl ?_
 iterate 4 refine J.H rfl ?_
 refine J.lr 1003 (q:=3) (u:= .slice (some ⟨mb,0,none⟩) (mk.length+1) mc) rfl rfl rfl rfl rfl rfl rfl rfl rfl ?_
 iterate 2 refine J.H rfl ?_
 rw[ew]
 refine J.io rfl rfl rfl rfl rfl rfl rfl rfl rfl (by omega) (by simp) rfl ?_
 refine J.lo rfl rfl rfl rfl rfl rfl (r:=cI ch.length) (by rw[D1,C8,D9 (CS _),FI];rfl) rfl ?_
 refine .M ?_
 have ecn: ∀l:List (Int×List (Int×Int)),(((ch++l).map cCh).length:Int)=(ch.length:Int)+l.length:=fun l=>by simp
 rcases EE tl with rfl|⟨tl,c,rfl⟩
 ·refine T.cf2 rfl (decide_eq_false (by rw[ecn];simp)) ?_
  refine .M ?_
  rw[ew]
  refine J.rs mk.length rfl (by omega) hm0 rfl rfl rfl rfl rfl rfl rfl rfl ?_
  refine .M ?_
  refine .W ?_
  refine J.sub (Rel.recut 1003 3 mk.length rfl rfl (by simp)) ?_
  have etk:((mk++[(ch.length:Int)]).map cI).take mk.length=mk.map cI:=by rw[←F0,FS]
  rw[etk,←show dd=fV tail d from h3,Dv]
  refine J.sub (Rel.ecp 1004 1002 rfl) ?_
  refine J.sub (Rel.ecp 1005 1003 rfl) ?_
  refine .M ?_
  exact⟨[0,1],[2,4],[cu,.slice (some ⟨mb,0,none⟩) mk.length mc],⟨rfl,⟨_,rfl,rfl,rfl⟩,rfl,⟨_,rfl,rfl,rfl⟩,trivial⟩,⟨rfl,⟨_,rfl,rfl,rfl⟩,rfl,⟨_,rfl,rfl,rfl⟩,trivial⟩,rfl,.val rfl rfl (fun _=>rfl) .nil⟩
 ·rw[E8]at*
  refine T.ct2 rfl (decide_eq_true (by rw[ecn];simp;omega)) ?_
  refine .M ?_
  refine T.canon (keep:=[0,3,1000,1001,1002,1003]) (os:=[1000,1001,1002,1003]) rfl ?_
  refine T.rdm 13 rfl (by kernel_rfl) rfl ?_
  iterate 3 refine J.H rfl ?_
  refine J.lr 1002 (q:=2) (u:=cu) rfl rfl rfl rfl rfl rfl rfl rfl rfl ?_
  iterate 3 refine J.H rfl ?_
  refine J.lr 1002 (q:=2) (u:=cu) rfl rfl rfl rfl rfl rfl rfl rfl rfl ?_
  iterate 2 refine J.H rfl ?_
  have ewl:IntKind.wrap .i64 ((((ch++(tl++[c])).map cCh).length:Int)-1)=((ch++tl).length:Int):=by
   rw[ecn,ae (by simp;omega) (by simp at *;omega)];simp;omega
  rw[ewl]
  have hrow:((ch++(tl++[c])).map cCh)[(((ch++tl).length:Nat):Int).toNat]? =some (cCh c):=by
   rw[D1,C8,←DD,D9 (CS _),FI];rfl
  refine J.io rfl rfl rfl rfl rfl rfl rfl rfl rfl (by omega) (by simp;omega) rfl ?_
  refine J.lo rfl rfl rfl rfl rfl rfl (r:=cCh c) hrow rfl ?_
  refine .M ?_
  refine .L ?_
  refine .M ?_
  refine .W ?_
  refine .M ?_
  refine T.K (?_:T _ _ ⟨[(0,.optr 0 0 0 0),(3,.val true (.int .i64 (mk.length+1))),(4,.optr 4 0 0 0),(1000,.eq (.pointer (some ⟨sb,0,none⟩)) 0),(1001,.eq lv 1),(1002,.eq cu 2),(1003,.eq (.slice (some ⟨mb,0,none⟩) (mk.length+1) mc) 3)],[(0,some (.box true [.raw lv,.raw cu,.raw (.slice (some ⟨mb,0,none⟩) (mk.length+1) mc)])),(1,some (.sl 54 1 true (dd.map cD))),(2,some (.sl 156 2 true ((ch++(tl++[c])).map cCh))),(3,some (.sl 3 1 true ((mk++[(ch.length:Int)]).map cI))),(4,some (.box true (cCh c)))],5⟩ _)
  refine T.known 1002 2 rfl rfl (by simp) fun cb cc ecu hcc hc0=> ?_
  have ecl:((ch++(tl++[c])).map cCh).length=(ch++tl).length+1:=by simp;omega
  rw[ecl]at ecu hcc
  subst ecu
  refine T.rdm 12 rfl (by kernel_rfl) rfl ?_
  iterate 8 refine J.H rfl ?_
  refine J.lr 1002 (q:=2) (u:= .slice (some ⟨cb,0,none⟩) ((ch++tl).length+1) cc) rfl rfl rfl rfl rfl rfl rfl rfl rfl ?_
  iterate 2 refine J.H rfl ?_
  rw[ewl]
  refine J.rs (ch++tl).length rfl (by omega) hc0 rfl rfl rfl rfl rfl rfl rfl rfl ?_
  refine .M ?_
  refine .W ?_
  refine .M ?_
  refine T.sub (Rel.recut 1002 2 (ch++tl).length rfl rfl (by rw[ecl];omega)) ?_
  have etk:((ch++(tl++[c])).map cCh).take (ch++tl).length=(ch++tl).map cCh:=by rw[←F0,←DD,FS]
  rw[etk]
  have hcd:0≤c.1∧c.1<(d.length:Int):=h1 c (by simp)
  refine T.K (?_:T _ _ ⟨[(0,.optr 0 0 0 0),(3,.val true (.int .i64 (mk.length+1))),(4,.optr 4 0 0 0),(1000,.eq (.pointer (some ⟨sb,0,none⟩)) 0),(1001,.eq lv 1),(1002,.eq (.slice (some ⟨cb,0,none⟩) (ch++tl).length cc) 2),(1003,.eq (.slice (some ⟨mb,0,none⟩) (mk.length+1) mc) 3)],[(0,some (.box true [.raw lv,.raw (.slice (some ⟨cb,0,none⟩) (ch++tl).length cc),.raw (.slice (some ⟨mb,0,none⟩) (mk.length+1) mc)])),(1,some (.sl 54 1 true (dd.map cD))),(2,some (.sl 156 2 true ((ch++tl).map cCh))),(3,some (.sl 3 1 true ((mk++[(ch.length:Int)]).map cI))),(4,some (.box true (cCh c)))],5⟩ _)
  refine T.rdm 9 rfl (by kernel_rfl) rfl ?_
  iterate 4 refine J.H rfl ?_
  refine J.lr 1001 (q:=1) (u:=lv) rfl rfl rfl rfl rfl rfl rfl rfl rfl ?_
  refine .M ?_
  refine J.io rfl rfl rfl rfl rfl rfl rfl rfl rfl hcd.1 (by rw[C6];omega) rfl ?_
  refine .M ?_
  refine J.w1 rfl rfl rfl rfl rfl rfl rfl rfl rfl rfl rfl (enc:=cD) (z:=c.2) (fun _=>rfl) (by rw[h2];omega) ?_
  refine .M ?_
  refine T.K (ih (.slice (some ⟨cb,0,none⟩) (ch++tl).length cc,tl,dd.set c.1.toNat c.2) ⟨fun x hx=>h1 x (D4 _ hx),by rw[DI];exact h2,by rw[←xL];exact h3,by rw[CW]at h4;exact D3 (G7 _ _) h4⟩ (by simp))
theorem xN (d:aa)(fd:FewD d)(hs: ∀x∈d,(vals x).length≤4096):
  SpecX Tryz.prog 65 [] [] [] [] [(false,aJ d)] (fun _=>[]) (fun ns=>[.box true [.raw (ns.getD 1 undef),.raw (ns.getD 2 undef),.raw (ns.getD 3 undef)],.sl 54 1 true (d.map cD),.sl 156 2 true [],.sl 3 1 true []]) true (fun ns=>[.raw (ns.getD 0 undef),.int .i64 0]):=by
 refine SpecX.body (fn:=Tryz.f65) [] [1000,1001,1002,1003] rfl rfl rfl rfl fun w0 Z=> ?_
 have hd:=fd.small
 iterate 1 (refine .A ?_;conv=>whnf)
 refine T.seq ?_
 refine T.r ?_
 refine J.bzr rfl rfl rfl rfl rfl rfl rfl rfl rfl ?_
 refine .M ?_
 refine T.nameO 1000 0 rfl rfl fun u=> ?_
 refine T.sub (Rel.ownN 1001 54 1) ?_
 refine T.sub (Rel.ownN 1002 156 2) ?_
 refine T.sub (Rel.ownN 1003 3 1) ?_
 refine T.K (T.ind (fun s:Value×Nat=>⟨[(4,.optr 0 0 0 0),(10,.val false (aJ d)),(11,.val true (.int .i64 (d.map cD).length)),(12,.val true (.int .i64 s.2)),(1000,.eq u 0),(1001,.eq s.1 1),(1002,.eq (.slice none 0 0) 2),(1003,.eq (.slice none 0 0) 3)],[(0,some (.box true [.raw s.1,.raw (.slice none 0 0),.raw (.slice none 0 0)])),(1,some (.sl 54 1 true ((d.take s.2).map cD))),(2,some (.sl 156 2 true [])),(3,some (.sl 3 1 true []))],4⟩)
  (fun s=>s.2≤d.length) (fun s=>d.length-s.2) (.slice none 0 0,0) (DC _) (fun _ _ h=>h) ?_)
 rintro⟨lv,i⟩ hi ih
 dsimp only at hi ih⊢
 by_cases h:i<d.length
 ·have hm:d[i]∈d:=C5 h
  have hf:=fd.fine _ hm
  have hxl:=bG hf.ok
  have hxs:=hs _ hm
  have hck:=jc d[i] (by have:=fd.few _ hm;omega)
  rw[ux hf (hs _ hm)]at hck
  have hrow:(d.map cD)[((i:Nat):Int).toNat]? =some (cD d[i]):=by rw[D1,C8,C1 h];rfl
  refine .M ?_
  refine T.ct2 rfl (decide_eq_true (by rw[C6];omega)) ?_
  refine .M ?_
  refine .I (r:=cD d[i]) hrow ?_
  refine .M ?_
  refine .C hck ?_
  refine .M ?_
  refine T.cf rfl ?_
  refine .M ?_
  refine T.K (?_:T _ _ ⟨[(4,.optr 0 0 0 0),(6,.val false (dm d[i])),(10,.val false (aJ d)),(11,.val true (.int .i64 (d.map cD).length)),(12,.val true (.int .i64 i)),(1000,.eq u 0),(1001,.eq lv 1),(1002,.eq (.slice none 0 0) 2),(1003,.eq (.slice none 0 0) 3)],[(0,some (.box true [.raw lv,.raw (.slice none 0 0),.raw (.slice none 0 0)])),(1,some (.sl 54 1 true ((d.take i).map cD))),(2,some (.sl 156 2 true [])),(3,some (.sl 3 1 true []))],4⟩ _)
  refine T.rdw 13 rfl (by kernel_rfl) rfl ?_
  iterate 5 refine J.H rfl ?_
  refine J.lr 1001 (q:=1) (u:=lv) rfl rfl rfl rfl rfl rfl rfl rfl rfl ?_
  refine .M ?_
  refine .C (bQ d[i] (by omega)).frz ?_
  refine .M ?_
  refine .V ?_
  refine J.ad rfl rfl rfl rfl rfl rfl rfl rfl rfl rfl rfl rfl rfl rfl rfl rfl rfl rfl (cB rfl) (by show(List.length _+1)*24≤_;simp;omega) ?_
  refine .M ?_
  refine⟨by kernel_rfl,?_⟩
  refine J.name 1004 (s:=30) rfl rfl rfl fun u2=> ?_
  refine J.sub (Rel.raw (s:=30) (g:=1004) rfl (.inl rfl) rfl rfl rfl) ?_
  refine .W ?_
  refine .M ?_
  rw[ak h (by omega)]
  have e:(d.take i).map cD++[cD d[i]]=(d.take (i+1)).map cD:=by rw[C7 h,DF];rfl
  refine T.K (?_:T _ _ ⟨[(4,.optr 0 0 0 0),(10,.val false (aJ d)),(11,.val true (.int .i64 (d.map cD).length)),(12,.val true (.int .i64 ((i+1:Nat):Int))),(1000,.eq u 0),(1002,.eq (.slice none 0 0) 2),(1003,.eq (.slice none 0 0) 3),(1004,.eq u2 1)],[(0,some (.box true [.raw u2,.raw (.slice none 0 0),.raw (.slice none 0 0)])),(1,some (.sl 54 1 true ((d.take i).map cD++[cD d[i]]))),(2,some (.sl 156 2 true [])),(3,some (.sl 3 1 true []))],4⟩ _)
  rw[e]
  refine T.sub (Rel.ecp 1001 1004 rfl) ?_
  exact T.K (ih (u2,i+1) h (by dsimp only;omega))
 ·obtain rfl:i=d.length:=by omega
  rw[DE]
  refine .M ?_
  refine T.cf2 rfl (decide_eq_false (by rw[C6];omega)) ?_
  refine T.sub (Rel.raw (s:=4) (g:=1000) rfl (.inr rfl) rfl rfl rfl) ?_
  refine .M ?_
  exact⟨[],[0,1,2,3],[u,lv,.slice none 0 0,.slice none 0 0],trivial,⟨rfl,⟨_,rfl,rfl,rfl⟩,rfl,⟨_,rfl,rfl,rfl⟩,rfl,⟨_,rfl,rfl,rfl⟩,rfl,⟨_,rfl,rfl,rfl⟩,trivial⟩,rfl,.val rfl rfl (fun _=>rfl) (.val rfl rfl (fun _=>rfl) .nil)⟩
def gp {α:Type}(p:α→Bool)(l:List α):Int:=match l.findIdx? p with|some i=>(i:Int)|none=> -1
theorem oU {α:Type}(p:α→Bool)(l:List α):decide (gp p l≥0)=l.any p:=by
 unfold gp
 cases h:l.findIdx? p with
 |none=>
  have:l.any p=false:=by
   rw[F6]
   exact fun x hx=>by simpa using List.findIdx?_eq_none_iff.1 h x hx
  rw[this];rfl
 |some i=>
  have:l.any p=true:=by
   rw[EJ]
   obtain⟨h1,h2,_⟩:=List.findIdx?_eq_some_iff_getElem.1 h
   exact⟨_,C5 h1,h2⟩
  rw[this]
  exact decide_eq_true (Ek _)
theorem qG {α:Type}{p:α→Bool}{l pre post:List α}{v:α}{n:Nat}(h:l=pre++v::post)(hn:n=pre.length)(hi: ∀x∈pre,p x=false)(h2:p v=true):gp p l=(n:Int):=by
 unfold gp
 rw[h,FC,List.findIdx?_eq_none_iff.2 (by simpa using hi),ET,if_pos h2]
 simp[hn]
theorem qF {α:Type}{p:α→Bool}{l:List α}(hi: ∀x∈l,p x=false):gp p l= -1:=by
 unfold gp
 rw[List.findIdx?_eq_none_iff.2 (by simpa using hi)]
theorem uT {α:Type}{p:α→Bool}{l:List α}{v:α}(hi: ∀x∈l,p x=false)(h2:p v=false): ∀x∈l++[v],p x=false:=by
 intro x hx
 rcases List.mem_append.1 hx with hx|hx
 ·exact hi x hx
 ·rw[List.mem_singleton.1 hx];exact h2
theorem uh {p:List (Int×Int)→Bool}{f:FuncId}(caps:List PV)(l:List (List (Int×Int)))(hp: ∀v∈l,Spec Tryz.prog f false (dm v::caps) [.val (.bool (p v))])(hl:l.length*8≤140737488355328):Spec Tryz.prog 111 false [aJ l,.fn (.func f) [] caps] [.val (.int .i64 (gp p l))]:=by
 refine Spec.body Tryz.func111 rfl rfl rfl fun w0 Z0=> ?_
 refine .B ?_
 refine T.K (T.listI l (fun pre=> ∀v∈pre,p v=false) (fun n pre post=>⟨[(0,.val false (aJ l)),(1,.val false (.fn (.func f) [] caps)),(7,.val true (.int .i64 (l.map cD).length)),(8,.val true (.int .i64 n))],[],0⟩) (fun _ _ h=>h) (fun v hv=>by cases hv) ?_ ?_)
 ·rintro n pre v post h hn hi ih
  have hlt:=bY h hn
  have hsp:=hp v (by rw[h];simp)
  refine .B ?_
  refine T.ct2 rfl (bX h hn) ?_
  refine .B ?_
  refine .I (r:=cD v) (aS h hn) ?_
  refine .B ?_
  refine .C hsp ?_
  refine .B ?_
  refine T.cond rfl (fun h2=> ?_) (fun h2=> ?_)
  ·have h2:p v=true:=h2
   refine .B ?_
   rw[qG h hn hi h2]
   exact r1
  ·have h2:p v=false:=h2
   refine .B ?_
   rw[ak hlt (by omega)]
   exact T.K (ih (uT hi h2))
 ·intro hi
  rw[qF hi]
  refine .B ?_
  refine T.cf2 rfl bl ?_
  refine .B ?_
  exact r1
theorem uf {p:List Int→Bool}{f:FuncId}(caps:List PV)(l:List (List Int))(hp: ∀v∈l,Spec Tryz.prog f false (av v::caps) [.val (.bool (p v))])(hl:l.length*8≤140737488355328):Spec Tryz.prog 125 false [bR l,.fn (.func f) [] caps] [.val (.int .i64 (gp p l))]:=by
 refine Spec.body Tryz.func125 rfl rfl rfl fun w0 Z0=> ?_
 refine .B ?_
 refine T.K (T.listI l (fun pre=> ∀v∈pre,p v=false) (fun n pre post=>⟨[(0,.val false (bR l)),(1,.val false (.fn (.func f) [] caps)),(7,.val true (.int .i64 (l.map cL).length)),(8,.val true (.int .i64 n))],[],0⟩) (fun _ _ h=>h) (fun v hv=>by cases hv) ?_ ?_)
 ·rintro n pre v post h hn hi ih
  have hlt:=bY h hn
  have hsp:=hp v (by rw[h];simp)
  refine .B ?_
  refine T.ct2 rfl (bX h hn) ?_
  refine .B ?_
  refine .I (r:=cL v) (aS h hn) ?_
  refine .B ?_
  refine .C hsp ?_
  refine .B ?_
  refine T.cond rfl (fun h2=> ?_) (fun h2=> ?_)
  ·have h2:p v=true:=h2
   refine .B ?_
   rw[qG h hn hi h2]
   exact r1
  ·have h2:p v=false:=h2
   refine .B ?_
   rw[ak hlt (by omega)]
   exact T.K (ih (uT hi h2))
 ·intro hi
  rw[qF hi]
  refine .B ?_
  refine T.cf2 rfl bl ?_
  refine .B ?_
  exact r1
theorem pg {p:List Int→Bool}{f:FuncId}(caps:List PV)(l:List (List Int))(hp: ∀v∈l,Spec Tryz.prog f false (av v::caps) [.val (.bool (p v))])(hl:l.length*8≤140737488355328):Spec Tryz.prog 88 false [bR l,.fn (.func f) [] caps] [.val (.bool (l.any p))]:=by
 refine Spec.body Tryz.func88 rfl rfl rfl fun w0 Z0=> ?_
 refine .B ?_
 refine .C (uf caps l hp hl) ?_
 refine .B ?_
 exact⟨_,.v rfl rfl (congrArg PV.bool (oU p l)) (fun _=>rfl) .nil⟩
theorem d9 {p:Int→Bool}{f:FuncId}(caps:List PV)(l:List (Int))(hp: ∀v∈l,Spec Tryz.prog f false (.int .i64 v::caps) [.val (.bool (p v))])(hl:l.length*8≤140737488355328):Spec Tryz.prog 129 false [av l,.fn (.func f) [] caps] [.val (.bool (l.any p))]:=by
 refine Spec.body Tryz.func129 rfl rfl rfl fun w0 Z0=> ?_
 refine .B ?_
 refine .C (mU caps l hp hl) ?_
 refine .B ?_
 exact⟨_,.v rfl rfl (congrArg PV.bool (oU p l)) (fun _=>rfl) .nil⟩
theorem yS {cons:List Con}{d:aa}(gd:GoodD d.length d)(ht: ∀c∈cons,Takes leD (GoodD d.length) (bK c)):AllEnds cons d (fS cons d):=by
 have key: ∀(k:Nat) (a:aa),Come leD (GoodD d.length) bK cons d a→weight a<k→∃R,AllEnds cons d R:=by
  intro k
  induction k with
  |zero=>intro a _ h;omega
  |succ k ih=>
   intro a hc hk
   by_cases hs:eC bK cons a
   ·exact⟨some a,hc,hs⟩
   ·have: ∃c,c∈cons∧bK c a≠some a:=Classical.byContradiction fun h=>hs fun c hm=>Classical.byContradiction fun e=>h ⟨c,hm,e⟩
    obtain⟨c,hm,hne⟩:=this
    cases he:bK c a with
    |none=>exact⟨none,hc.none hm (ht c hm) he⟩
    |some b=>
     obtain⟨g1,g2⟩:=(ht c hm).less a b hc.fine he
     have:=(gv g1 hc.fine g2).2 (fun e=>hne (by rw[he,e]))
     exact ih b (hc.step (aZ _) hm (ht c hm) he) (by omega)
 obtain⟨R,hR⟩:=key _ d (Come.refl (aZ _) gd) (Di _)
 rw[←fu hR];exact hR
theorem sF: ∀{cons:List Con},(∀c∈cons,c.vars.length≤1024)→(cons.map fun c=>(usesR c).length).sum≤cons.length*1025
 | [],_=>by simp
 |c::cons,h=>by
  have h1:=sF fun c hc=>h c (.tail _ hc)
  have h2:(usesR c).length≤1025:=by
   have h1:=e8 (if c.kind=4 then c.vars++[c.b]else c.vars)
   have h2:(if c.kind=4 then c.vars++[c.b]else c.vars).length≤c.vars.length+1:=by split<;>simp
   have:=h c (.head _)
   unfold usesR;omega
  simp only[CY,Dg,D0];omega
theorem Aq {e:aa}(hx: ∀x∈e,Fine x)(v:Int):az (domAt e v):=by
 unfold domAt
 by_cases hv:v.toNat<e.length
 ·rw[C0,C1 hv]
  exact(hx _ (C5 hv)).ok
 ·rw[C0,DM (by omega)]
  exact⟨by simp,.nil⟩
theorem n3 {n:Nat}{d out:aa}{c:Con}(hc:ConB c)(gd:GoodD n d)(hx: ∀x∈out,Fine x)(hle:leD out d)(h:RightC d c):RightC out c:=by
 rcases h with h|⟨hk,hs⟩
 ·exact .inl (x4 hc gd (fun v _=>Aq hx v) hle h)
 ·have hl:=hle.1
  refine .inr ⟨hk,⟨hs.fine.len,hs.fine.vl,fun v hv=>by rw[hl];exact hs.fine.vin v hv,hs.fine.ck,hx,by rw[hl];exact hs.fine.dl⟩,hs.nod,hs.pos,hs.op,hs.big⟩
structure RunOk (d:aa)(cons:List Con):Prop where
 gd:GoodD d.length d
 con: ∀c∈cons,c.vars.length≤1024∧ConB c
 right: ∀c∈cons,RightC d c
 prod:prodD d≤1048576
 few:cons.length≤4096
theorem RunOk.step {d:aa}{cons:List Con}(h:RunOk d cons){c:Con}(hc:c∈cons):StepOK d.length (usesR c) (fun g=>(c.kind=4→0≤g c.b∧g c.b≤1)→holdsR c (jW d.length g)=true) (bK c):=tu h.gd (h.con c hc).2 (h.right c hc)
theorem RunOk.ends {d:aa}{cons:List Con}(h:RunOk d cons):AllEnds cons d (fS cons d):=yS h.gd fun c hc=>(h.step hc).takes
theorem RunOk.less {d e:aa}{cons:List Con}(h:RunOk d cons)(ge:GoodD d.length e)(hle:leD e d):RunOk e cons:=
 ⟨by rw[ge.len];exact ge,h.con,fun c hc=>n3 (h.con c hc).2 h.gd ge.few.fine hle (h.right c hc),D3 (ya ge h.gd hle) h.prod,h.few⟩
theorem RunOk.sub {d:aa}{cons l:List Con}(h:RunOk d cons)(hs: ∀c∈l,c∈cons)(hf:l.length≤4096):RunOk d l:=⟨h.gd,fun c hc=>h.con c (hs c hc),fun c hc=>h.right c (hs c hc),h.prod,hf⟩
theorem B2 {d e:aa}{cons:List Con}(h:RunOk d cons)(hx: ∀x∈e,Fine x∧(vals x).length≤4096)(hle:leD e d):Spec Tryz.prog 67 false [aJ e,cN cons] (aW (fS cons e)):=by
 have hel:=hle.1
 have hd:=h.gd.few.small
 have hfw:=h.few
 have hu:=sF fun c hc=>(h.con c hc).1
 have hok:ConsOk e cons:=⟨fun c hc=>(h.con c hc).2,fun c hc=>n3 (h.con c hc).2 h.gd (fun x hm=>(hx x hm).1) hle (h.right c hc),by omega,by omega⟩
 exact yP e cons (by omega) hx hok fun c hc out go hl=>by
  have ho:=h.less (by rw[←hel];exact go) ((aZ 0).trans _ _ _ hl hle)
  exact BN ho.gd (ho.con c hc).2 (ho.right c hc) ho.prod
theorem GoodD.fx {n:Nat}{d:aa}(h:GoodD n d): ∀x∈d,Fine x∧(vals x).length≤4096:=fun x hx=>⟨h.few.fine x hx,h.few.few x hx⟩
theorem leD.rfl' {d:aa}:leD d d:=(aZ 0).refl d
theorem iP {d e:aa}{cons:List Con}{a:List Int}(h:RunOk d cons)(ge:GoodD d.length e)(hle:leD e d)(hl:a.length=d.length)(hv: ∀u:Int,0≤u→u.toNat<d.length→vals (domAt e u)=[atR a u]):eC bK cons e↔∀c∈cons,holdsR c a=true:=by
 have he:=h.less ge hle
 have key: ∀c∈cons,(bK c e=some e↔holdsR c a=true):=fun c hc=>by
  have hs:=h.step hc
  have hp:=hs.point e ge (atR a) fun u hu=>hv u (hs.in' u hu).1 (hs.in' u hu).2
  rw[hp,zi hl]
  refine⟨fun hh=>hh fun h4=> ?_,fun hh _=>hh⟩
  obtain⟨_,_,hr,hin⟩:=cS (he.con c hc).2 ((he.right c hc).resolve_right fun h=>by omega)
  have hb:=hin c.b (uses_mem.2 (.inr ⟨h4,rfl⟩))
  rw[ge.len]at hb
  unfold rightR at hr
  rw[if_neg (by omega),if_neg (by omega),if_neg (by omega),if_neg (by omega),if_pos h4]at hr
  simp only[CR]at hr
  exact(gR (ge.dok c.b)).1 hr.1.2 _ (by rw[hv c.b hb.1 hb.2];simp)
 exact⟨fun hs c hc=>(key c hc).1 (hs c hc),fun hh c hc=>(key c hc).2 (hh c hc)⟩
def m9 (a:List Int):aa:=a.map fun x=>[(x,x)]
theorem w9 {n:Nat}{d:aa}(gd:GoodD n d){a:List Int}(hl:a.length=n)(ha: ∀i,i<n→a.getD i 0∈vals (d.getD i [])):GoodD n (m9 a)∧leD (m9 a) d∧∀u:Int,0≤u→u.toNat<n→vals (domAt (m9 a) u)=[atR a u]:=by
 have hv: ∀u:Int,0≤u→u.toNat<n→vals (domAt (m9 a) u)=[atR a u]:=fun u h0 hu=>by
  unfold domAt m9 atR
  rw[if_neg (by omega),C0,C8,C0,C1 (by omega)]
  simp[vals,bS]
 have hr: ∀x∈a,-1048576≤x∧x≤1048576:=fun x hx=>by
  obtain⟨i,hi⟩:=C9 hx
  have hil:=(List.getElem?_eq_some_iff.1 hi).1
  have h1:=ha i (by omega)
  rw[aN hil,(List.getElem?_eq_some_iff.1 hi).2]at h1
  exact(gd.few.at (i:Int)).2.2 x (by unfold domAt;rw[D1];exact h1)
 refine⟨⟨⟨by have:=gd.few.small;have:=gd.len;simp[m9];omega,fun x hx=> ?_,fun x hx=> ?_⟩,by simp[m9,hl],by simp[m9]⟩,⟨by simp[m9,hl,gd.len],fun v x h0 hx=> ?_⟩,hv⟩
 ·obtain⟨y,hy,rfl⟩:=List.mem_map.1 hx
  exact Ar (DO _) (hr y hy).1 (hr y hy).2
 ·obtain⟨y,hy,rfl⟩:=List.mem_map.1 hx
  simp[vals,bS]
 ·by_cases hlt:v.toNat<n
  ·rw[hv v h0 hlt]at hx
   have h1:=ha v.toNat hlt
   have e:atR a v=a.getD v.toNat 0:=by unfold atR;rw[if_neg (by omega)]
   rw[e]at hx
   rw[List.mem_singleton.1 hx];exact h1
  ·rw[fO (by simp[m9];omega)]at hx;cases hx
theorem pS {n:Nat}{d:aa}(gd:GoodD n d){s:List Int}(h:cA d=some s):s.length=n∧∀u:Int,0≤u→u.toNat<n→vals (domAt d u)=[atR s u]:=by
 unfold cA at h
 split at h
 ·rename_i h1
  cases h
  refine⟨by simp[gd.len],fun u h0 hu=> ?_⟩
  have hl:u.toNat<d.length:=by rw[gd.len];exact hu
  have h2:vN d[u.toNat]=true:=List.all_eq_true.1 h1 _ (C5 hl)
  have h2:(vals d[u.toNat]).length=1:=of_decide_eq_true h2
  unfold domAt atR
  rw[if_neg (by omega),C0,C0,C8,C1 hl]
  show vals d[u.toNat]=[ay d[u.toNat]]
  obtain⟨x,hx⟩:=(kR (gd.few.fine _ (C5 hl)).ok).1 h2
  rw[hx];simp[vals,bS,ay]
 ·cases h
theorem RightM.run {b:Mod}(h:RightM b)(hp:prodD (domsM b)≤1048576):RunOk (domsM b) b.cons:=⟨h.good,fun c hc=>⟨(h.b.cb c hc).1,h.con c hc⟩,fun c hc=> .inl (h.right c hc),hp,by have:=h.b.cl;omega⟩
theorem rv {d:aa}{cons:List Con}(h:RunOk d cons){out:aa}(ho:fS cons d=some out):GoodD d.length out∧leD out d∧eC bK cons out∧RunOk out cons∧fS cons out=some out:=by
 have he:=h.ends
 rw[ho]at he
 obtain⟨hc,hs⟩:=he
 have hr:=h.less hc.fine hc.less
 refine⟨hc.fine,hc.less,hs,hr,?_⟩
 refine(fu (R:=some out) ?_).symm
 exact⟨Come.refl (aZ _) hr.gd,hs⟩
structure Srch (σ:Type) where
 nodes:Nat
 short:Bool
 over:Bool
 st:σ
def openV (l:aa):Nat:=l.findIdx fun x=>decide (1<(vals x).length)
noncomputable def lookG {σ:Type}(left:Int)(con:σ→List Con)(fnd:σ→List Int→σ×Bool):Nat→aa→Srch σ→Srch σ
 |0,_,s=>s
 |n+1,d,s=>
  if left≤(s.nodes:Int)then { s with short:=true,over:=true } else
  match fS (con s.st) d with
  |none=> { s with nodes:=s.nodes+1 }
  |some l=>match cA l with
   |some a=> { s with nodes:=s.nodes+1,st:=(fnd s.st a).1,over:=(fnd s.st a).2 }
   |none=>(vals (l.getD (openV l) [])).foldl (fun s x=>if s.over then s else lookG left con fnd n (l.set (openV l) [(x,x)]) s) { s with nodes:=s.nodes+1 }
theorem np {n:Nat}{l:aa}(gl:GoodD n l)(h:cA l=none):openV l<l.length∧1<(vals (l.getD (openV l) [])).length∧∀i,i<openV l→(vals (l.getD i [])).length=1:=by
 have h1:l.all vN=false:=by
  unfold cA at h
  split at h
  ·cases h
  ·rename_i h1;exact Bool.eq_false_iff.2 h1
 have h2: ∃x∈l,1<(vals x).length:=by
  obtain⟨x,hx,h2⟩:=List.all_eq_false.1 h1
  refine⟨x,hx,?_⟩
  have h3:=gl.one x hx
  have h4:(vals x).length≠1:=fun e=>h2 (decide_eq_true e)
  omega
 obtain⟨x,hx,h2⟩:=h2
 have h3:openV l<l.length:=List.findIdx_lt_length_of_exists ⟨x,hx,decide_eq_true h2⟩
 have hg: ∀i (hi:i<l.length),l.getD i []=l[i]:=fun i hi=>by rw[C0,C1 hi];rfl
 refine⟨h3,?_,fun i hi=> ?_⟩
 ·rw[hg _ h3]
  exact of_decide_eq_true (List.findIdx_getElem (p:=fun x=>decide (1<(vals x).length)) (w:=h3))
 ·have hil:i<l.length:=by omega
  rw[hg i hil]
  have h4:=List.not_of_lt_findIdx (p:=fun x=>decide (1<(vals x).length)) (xs:=l) hi
  have h5:=gl.one _ (C5 hil)
  simp only[decide_eq_false_iff_not,Fc]at h4
  omega
theorem lD {n:Nat}{l:aa}{v:Nat}(gl:GoodD n l)(hv:v<l.length){x:Int}(hx:x∈vals (l.getD v [])):GoodD n (l.set v [(x,x)])∧leD (l.set v [(x,x)]) l∧(1<(vals (l.getD v [])).length→weight (l.set v [(x,x)])<weight l):=by
 have hg:l.getD v []=l[v]:=by rw[C0,C1 hv];rfl
 have hm:=C5 hv
 have hr:=(gl.few.fine _ hm).val x (by rw[←hg];exact hx)
 refine⟨⟨gl.few.one v hr,by rw[DI];exact gl.len,fun hn=> ?_⟩,⟨by simp,fun u y h0 hy=> ?_⟩,fun h1=> ?_⟩
 ·rcases CX hn with h|h
  ·exact gl.some' h
  ·cases h
 ·by_cases hu:u.toNat=v
  ·unfold domAt at hy⊢
   rw[C0,hu,DH hv]at hy
   rw[hu]
   simp[vals,bS]at hy
   rw[hy];exact hx
  ·unfold domAt at hy⊢
   rw[C0,D2 (Ne.symm hu)]at hy
   rw[C0];exact hy
 ·have:=gO (d:=l) (i:=v) (y:=l[v]) [(x,x)] (C1 hv)
  have e:(vals [(x,x)]).length=1:=by simp[vals,bS]
  rw[hg]at h1
  omega
inductive Reach {σ:Type}(fnd:σ→List Int→σ×Bool)(S:σ→List Int→Prop):σ→σ→Prop
 |refl (s:σ):Reach fnd S s s
 |step {s t:σ} {a:List Int}:Reach fnd S s t→S t a→Reach fnd S s (fnd t a).1
theorem Reach.trans {σ:Type}{fnd:σ→List Int→σ×Bool}{S:σ→List Int→Prop}{r s t:σ}(h:Reach fnd S r s)(k:Reach fnd S s t):Reach fnd S r t:=by
 induction k with
 |refl=>exact h
 |step _ hs ih=>exact ih.step hs
theorem Reach.keep {σ:Type}{fnd:σ→List Int→σ×Bool}{S:σ→List Int→Prop}{s t:σ}{P:σ→Prop}(h:Reach fnd S s t)(hs:P s)(hstep: ∀u a,P u→S u a→P (fnd u a).1):P t:=by
 induction h with
 |refl=>exact hs
 |step _ hs2 ih=>exact hstep _ _ ih hs2
def uX {σ:Type}(d0:aa)(con:σ→List Con)(t:σ)(a:List Int):Prop:= ∃e,GoodD d0.length e∧leD e d0∧eC bK (con t) e∧cA e=some a
structure SrchOK {σ:Type}(d0:aa)(con:σ→List Con)(fnd:σ→List Int→σ×Bool)(I:σ→Prop):Prop where
 run: ∀st,I st→RunOk d0 (con st)
 step: ∀st a,I st→uX d0 con st a→I (fnd st a).1
theorem jt {α β:Type}{f:β→α→β}{Q:β→Prop}: ∀{l:List α},(∀s x,x∈l→Q s→Q (f s x))→∀{s:β},Q s→Q (l.foldl f s)
 | [],_,s,h=>h
 |x::l,hf,s,h=>jt (fun s y hy=>hf s y (.tail _ hy)) (hf s x (.head _) h)
def iD (k:Nat):Nat:=if k=1 then 1 else k+1
def nodeF (d:aa):Nat:=bA (d.map fun x=>iD (vals x).length)
theorem td {l:List Nat}{v:Nat}(hv:v<l.length)(y:Nat):bA (l.set v y)=bA (l.take v)*(y*bA (l.drop (v+1)))∧bA l=bA (l.take v)*(l[v]*bA (l.drop (v+1))):=by
 constructor
 ·rw[List.set_eq_take_append_cons_drop,if_pos hv,du,bA]
 ·conv=>lhs;rw[←E7 v l,CU hv]
  rw[du,bA]
theorem j5: ∀{l m:List Nat},l.length=m.length→(∀(i:Nat) x y,l[i]? =some x→m[i]? =some y→x≤y)→bA l≤bA m
 | [],[],_,_=>CS _
 |x::l,y::m,hl,h=>FE (h 0 x y rfl rfl) (j5 (by simpa using hl) fun i u v hu hv=>h (i+1) u v hu hv)
 | [],_::_,hl,_=>by simp at hl
 |_::_,[],hl,_=>by simp at hl
theorem vQ {n:Nat}{a b:aa}(ga:GoodD n a)(gb:GoodD n b)(h:leD a b):nodeF a≤nodeF b:=by
 refine j5 (by simp[h.1]) fun i x y hx hy=> ?_
 obtain⟨x',hx',rfl⟩: ∃x',a[i]? =some x'∧iD (vals x').length=x:=by simpa using hx
 obtain⟨y',hy',rfl⟩: ∃y',b[i]? =some y'∧iD (vals y').length=y:=by simpa using hy
 have hs:=(h.sub ga gb).2 i x' y' hx' hy'
 have hm:=C4 hx'
 have h1:=ga.one x' hm
 have h2:=bV (aF (ga.few.fine x' hm).ok) hs
 unfold iD
 split<;>split<;>omega
theorem qf {n:Nat}{d:aa}(gd:GoodD n d):1≤nodeF d:=lT fun x hx=>by
 obtain⟨y,hy,rfl⟩:=List.mem_map.1 hx
 unfold iD;split<;>omega
theorem tz {n:Nat}{l:aa}{v:Nat}(gl:GoodD n l)(hv:v<l.length)(h1:1<(vals (l.getD v [])).length)(x:Int):nodeF l=((vals (l.getD v [])).length+1)*nodeF (l.set v [(x,x)]):=by
 have hg:l.getD v []=l[v]:=by rw[C0,C1 hv];rfl
 rw[hg]at h1⊢
 unfold nodeF
 rw[FU]
 have e1:iD (vals [(x,x)]).length=1:=by simp[vals,bS,iD]
 rw[e1]
 have hv2:v<(l.map fun x=>iD (vals x).length).length:=by simpa using hv
 obtain⟨a,b⟩:=td hv2 1
 rw[a,b,Ee]
 have e2:iD (vals l[v]).length=(vals l[v]).length+1:=by unfold iD;rw[if_neg (by omega)]
 rw[e2,Nat.one_mul,Fz]
section
variable {σ:Type}{left:Int}{d0:aa}{con:σ→List Con}{fnd:σ→List Int→σ×Bool}{I:σ→Prop}
theorem rD (h:SrchOK d0 con fnd I){d:aa}(gd:GoodD d0.length d)(hle:leD d d0){st:σ}(hi:I st){l:aa}(hl:fS (con st) d=some l):GoodD d0.length l∧leD l d∧leD l d0∧eC bK (con st) l:=by
 have hr:=(h.run st hi).less gd hle
 obtain⟨g1,g2,g3,_,_⟩:=rv hr hl
 rw[gd.len]at g1
 exact⟨g1,g2,(aZ 0).trans _ _ _ g2 hle,g3⟩
structure Goes (left:Int)(d0:aa)(con:σ→List Con)(fnd:σ→List Int→σ×Bool)(I:σ→Prop)(F:Nat)(s r:Srch σ):Prop where
 inv:I r.st
 reach:Reach fnd (uX d0 con) s.st r.st
 nodes:s.nodes≤r.nodes
 most:r.nodes=s.nodes∨(r.nodes:Int)≤left
 keep:s.short=true→r.short=true
 now:s.short=false→r.short=true→r.over=true∧left<s.nodes+F∧left≤r.nodes
 few:r.nodes≤s.nodes+F
theorem kd (h:SrchOK d0 con fnd I): ∀(n:Nat) (d:aa) (s:Srch σ),weight d<n→GoodD d0.length d→leD d d0→I s.st→Goes left d0 con fnd I (nodeF d) s (lookG left con fnd n d s)
 |0,d,s,hw,_,_,_=>by omega
 |n+1,d,s,hw,gd,hle,hi=>by
  have hF:=qf gd
  rw[lookG]
  split
  ·rename_i hleft
   exact⟨hi,.refl _,CS _,.inl rfl,fun _=>rfl,fun _ _=>⟨rfl,by omega,hleft⟩,G7 _ _⟩
  ·rename_i hleft
   split
   ·exact⟨hi,.refl _,Nat.le_succ _,.inr (by show((s.nodes+1:Nat):Int)≤left;omega),fun h=>h,fun h1 h2=>(by rw[h1]at h2;cases h2),by show s.nodes+1≤_;omega⟩
   ·rename_i l hl
    obtain⟨gl,hld,hl0,hst⟩:=rD h gd hle hi hl
    split
    ·rename_i a ha
     have hf:uX d0 con s.st a:=⟨l,gl,hl0,hst,ha⟩
     exact⟨h.step _ _ hi hf,.step (.refl _) hf,Nat.le_succ _,.inr (by show((s.nodes+1:Nat):Int)≤left;omega),fun h=>h,fun h1 h2=>(by rw[h1]at h2;cases h2),by show s.nodes+1≤_;omega⟩
    ·rename_i hno
     obtain⟨hv,h1,_⟩:=np gl hno
     have hFm:=vQ gl gd hld
     generalize openV l=v at*
     have hFc:=tz gl hv h1
     obtain⟨x0,hx0⟩: ∃x,x∈vals (l.getD v []):=Fg (by omega)
     have hC: ∀x,nodeF (l.set v [(x,x)])=nodeF (l.set v [(x0,x0)]):=fun x=>by
      have a:=hFc x
      rw[hFc x0]at a
      exact(Nat.eq_of_mul_eq_mul_left (by omega) a).symm
     have hF0:=hFc x0
     have hpos:=qf (lD gl hv hx0).1
     have hchild:=fun x (hx:x∈vals (l.getD v []))=>lD gl hv hx
     generalize hxs:vals (l.getD v [])=xs at*
     generalize nodeF (l.set v [(x0,x0)])=C at*
     have key: ∀(ys:List Int) (t:Srch σ),(∀y∈ys,y∈xs)→I t.st→Goes left d0 con fnd I (ys.length*C) t (ys.foldl (fun s x=>if s.over=true then s else lookG left con fnd n (l.set v [(x,x)]) s) t):=by
      intro ys
      induction ys with
      |nil=>intro t _ ht;exact⟨ht,.refl _,CS _,.inl rfl,fun h=>h,fun h1 h2=>(by rw[GE,h1]at h2;cases h2),by simp⟩
      |cons y ys ih=>
       intro t hys ht
       rw[CZ]
       by_cases ho:t.over=true
       ·rw[if_pos ho]
        obtain⟨a1,a2,a3,a4,a5,a6,a7⟩:=ih t (fun z hz=>hys z (.tail _ hz)) ht
        have e:(y::ys).length*C=ys.length*C+C:=by rw[D0,Eb]
        exact⟨a1,a2,a3,a4,a5,fun b1 b2=>by have:=a6 b1 b2;exact⟨this.1,by omega,this.2.2⟩,by omega⟩
       ·rw[if_neg ho]
        have hy:=hys y (.head _)
        obtain⟨c1,c2,c3⟩:=hchild y hy
        have hlc:leD (l.set v [(y,y)]) d0:=(aZ 0).trans _ _ _ c2 hl0
        have hlw:=(gv gl gd hld).1
        have g:=kd h n (l.set v [(y,y)]) t (by have:=c3 h1;omega) c1 hlc ht
        rw[hC y]at g
        obtain⟨b1,b2,b3,b4,b5,b6,b7⟩:=g
        generalize lookG left con fnd n (l.set v [(y,y)]) t=u at*
        obtain⟨a1,a2,a3,a4,a5,a6,a7⟩:=ih u (fun z hz=>hys z (.tail _ hz)) b1
        have e:(y::ys).length*C=ys.length*C+C:=by rw[D0,Eb]
        refine⟨a1,b2.trans a2,by omega,?_,fun h=>a5 (b5 h),fun d1 d2=> ?_,by omega⟩
        ·rcases a4 with a4|a4
         ·rcases b4 with b4|b4
          ·exact .inl (by omega)
          ·exact .inr (by rw[a4];exact b4)
         ·exact .inr a4
        ·cases hu:u.short with
         |true=>
          obtain⟨e1,e2,e3⟩:=b6 d1 hu
          have eu:ys.foldl (fun s x=>if s.over=true then s else lookG left con fnd n (l.set v [(x,x)]) s) u=u:=by
           refine jt (Q:=fun s=>s=u) (fun s x _ hs=> ?_) rfl
           rw[hs,if_pos e1]
          rw[eu]
          exact⟨e1,by omega,e3⟩
         |false=>
          obtain⟨e1,e2,e3⟩:=a6 hu d2
          exact⟨e1,by omega,e3⟩
     obtain⟨a1,a2,a3,a4,a5,a6,a7⟩:=key xs { s with nodes:=s.nodes+1 } (fun _ h=>h) hi
     have e:(xs.length+1)*C=xs.length*C+C:=Eb _ _
     exact⟨a1,a2,by have a3:s.nodes+1≤_:=a3;omega,by
      rcases a4 with a4|a4
      ·exact .inr (by rw[a4];show((s.nodes+1:Nat):Int)≤left;omega)
      ·exact .inr a4,a5,fun b1 b2=>by
       obtain⟨e1,e2,e3⟩:=a6 b1 b2
       have e2:left<((s.nodes+1:Nat):Int)+((xs.length*C:Nat):Int):=by exact_mod_cast e2
       exact⟨e1,by omega,e3⟩,by have a7:_≤s.nodes+1+xs.length*C:=a7;omega⟩
end
theorem oZ {σ:Type}{f:Srch σ→Int→Srch σ}: ∀{l:List Int} {s:Srch σ},s.over=true→l.foldl (fun s x=>if s.over=true then s else f s x) s=s
 | [],_,_=>rfl
 |x::l,s,h=>by rw[CZ,if_pos h];exact oZ h
section
variable {σ:Type}{left left':Int}{d0:aa}{con:σ→List Con}{fnd:σ→List Int→σ×Bool}{I:σ→Prop}
end
def solsR (cons:List Con)(d:aa):List (List Int):=(bi d d.length).filter fun a=>cons.all fun c=>holdsR c a
theorem mn {α β:Type}(p:α→Bool)(f:α→List β): ∀l:List α,(l.filter p).flatMap f=l.flatMap fun a=>if p a=true then f a else []
 | []=>rfl
 |a::l=>by
  rw[Ev,EA]
  by_cases h:p a=true
  ·rw[if_pos h,if_pos h,EA,mn p f l]
  ·rw[if_neg h,if_neg h,Df,mn p f l]
theorem lx {α β:Type}{f g:α→List β}: ∀{l:List α},(∀a∈l,f a=g a)→l.flatMap f=l.flatMap g
 | [],_=>rfl
 |a::l,h=>by rw[EA,EA,h a (.head _),lx fun b hb=>h b (.tail _ hb)]
theorem wZ {b:List Int}{v:Int}{i:Nat}(h:i<b.length):(b++[v]).getD i 0=b.getD i 0:=by simp[C0,DK h]
theorem w4 {b:List Int}{v:Int}{n:Nat}(h:b.length=n):(b++[v]).getD n 0=v:=by subst h;simp[C0]
theorem lq {d:aa}: ∀{n:Nat} {a:List Int},a∈bi d n↔a.length=n∧∀i,i<n→a.getD i 0∈vals (d.getD i [])
 |0,a=>by simp[bi]
 |n+1,a=>by
  simp only[bi,Fb,EX]
  constructor
  ·rintro⟨b,hb,v,hv,rfl⟩
   obtain⟨h1,h2⟩:=lq.1 hb
   refine⟨by simp[h1],fun i hi=> ?_⟩
   by_cases h:i=n
   ·subst h
    rw[w4 h1];exact hv
   ·rw[wZ (by omega)]
    exact h2 i (by omega)
  ·rintro⟨h1,h2⟩
   refine⟨a.take n,lq.2 ⟨by simp[h1],fun i hi=> ?_⟩,a.getD n 0,h2 n (by omega),?_⟩
   ·have e:(a.take n).getD i 0=a.getD i 0:=by simp[C0,E5 hi]
    rw[e];exact h2 i (by omega)
   ·rw[C0,C1 (by omega)]
    simp only[Dw]
    rw[←C7 (by omega),CV (by omega)]
theorem qI {n:Nat}{l d:aa}(gl:GoodD n l)(gd:GoodD n d)(hle:leD l d): ∀k,k≤n→bi l k=(bi d k).filter fun a=>(List.range k).all fun i=>decide (a.getD i 0∈vals (l.getD i []))
 |0,_=>by simp[bi]
 |k+1,hk=>by
  have ih:=qI gl gd hle k (by omega)
  have hsub:vals (l.getD k [])=(vals (d.getD k [])).filter fun v=>decide (v∈vals (l.getD k [])):=by
   have hu1:Up (vals (l.getD k [])):=(gl.few.at (k:Int)).2.1
   have hu2:Up (vals (d.getD k [])):=(gd.few.at (k:Int)).2.1
   refine dF hu1 (hu2.filter _) fun v=> ?_
   rw[EG,decide_eq_true_eq]
   exact⟨fun h=>⟨hle.2 (k:Int) v (by omega) h,h⟩,fun h=>h.2⟩
  rw[bi,ih,bi,List.filter_flatMap]
  rw[mn]
  refine lx fun a ha=> ?_
  have hal:=qJ d k a ha
  have e1: ∀v:Int,∀i,i<k→(a++[v]).getD i 0=a.getD i 0:=fun v i hi=>wZ (by omega)
  have e2: ∀v:Int,(a++[v]).getD k 0=v:=fun v=>w4 hal
  have e3: ∀v:Int,((List.range (k+1)).all fun i=>decide ((a++[v]).getD i 0∈vals (l.getD i [])))=(((List.range k).all fun i=>decide (a.getD i 0∈vals (l.getD i [])))&&decide (v∈vals (l.getD k []))):=fun v=>by
   rw[FM,Dm]
   simp only[EW,List.all_nil,Fd,e2]
   congr 1
   rw[EQ,DA,DA]
   exact⟨fun h i hi=>by have:=h i hi;rwa[e1 v i (List.mem_range.1 hi)]at this,fun h i hi=>by rw[e1 v i (List.mem_range.1 hi)];exact h i hi⟩
  rw[List.filter_map]
  have e4:((fun b:List Int=>(List.range (k+1)).all fun i=>decide (b.getD i 0∈vals (l.getD i [])))∘fun v=>a++[v])=fun v=>(((List.range k).all fun i=>decide (a.getD i 0∈vals (l.getD i [])))&&decide (v∈vals (l.getD k []))):=funext e3
  rw[e4]
  cases (List.range k).all fun i=>decide (a.getD i 0∈vals (l.getD i []))with
  |false=>simp
  |true=>simp only[if_true,Da];rw[←hsub]
theorem wj {l:aa}{v:Nat}(hv:v<l.length)(h1: ∀i,i<v→(vals (l.getD i [])).length=1): ∀k,v<k→k≤l.length→bi l k=(vals (l.getD v [])).flatMap fun x=>bi (l.set v [(x,x)]) k:=by
 have hlow: ∀(x:Int) k,k≤v→bi (l.set v [(x,x)]) k=bi l k:=fun x k=>by
  induction k with
  |zero=>intro _;rfl
  |succ k ih=>
   intro hk
   rw[bi,bi,ih (by omega)]
   have:(l.set v [(x,x)]).getD k []=l.getD k []:=by rw[C0,D2 (by omega),←C0]
   rw[this]
 have hone: ∀k,k≤v→∃p,bi l k=[p]:=fun k=>by
  induction k with
  |zero=>intro _;exact⟨[],rfl⟩
  |succ k ih=>
   intro hk
   obtain⟨p,hp⟩:=ih (by omega)
   obtain⟨y,hy⟩:=List.length_eq_one_iff.1 (h1 k (by omega))
   exact⟨p++[y],by rw[bi,hp,hy];rfl⟩
 intro k hk hkl
 induction k with
 |zero=>omega
 |succ k ih=>
  by_cases he:k=v
  ·subst he
   obtain⟨p,hp⟩:=hone k (CS _)
   rw[bi,hp]
   simp only[EA,List.flatMap_nil,Dv]
   rw[←List.flatMap_singleton' ((vals (l.getD k [])).map fun v=>p++[v]),List.flatMap_map]
   refine lx fun x _=> ?_
   rw[bi,hlow x k (CS _),hp]
   have:vals ((l.set k [(x,x)]).getD k [])=[x]:=by rw[C0,DH hv];simp[vals,bS]
   rw[this];rfl
  ·rw[bi,ih (by omega) (by omega),List.flatMap_assoc]
   refine lx fun x _=> ?_
   rw[bi]
   have:(l.set v [(x,x)]).getD k []=l.getD k []:=by rw[C0,D2 (by omega),←C0]
   rw[this]
theorem nR {cons:List Con}{d:aa}{a:List Int}:a∈solsR cons d↔(a.length=d.length∧∀i,i<d.length→a.getD i 0∈vals (d.getD i []))∧∀c∈cons,holdsR c a=true:=by
 rw[solsR,EG,lq,DA]
theorem xU {d:aa}{cons:List Con}(h:RunOk d cons)(hn:fS cons d=none):solsR cons d=[]:=by
 rw[List.eq_nil_iff_forall_not_mem]
 intro a ha
 obtain⟨⟨h1,h2⟩,h3⟩:=nR.1 ha
 obtain⟨g1,g2,g3⟩:=w9 h.gd h1 h2
 have he:=h.ends
 rw[hn]at he
 exact he ⟨m9 a,g1,g2,(iP h g1 g2 h1 g3).2 h3⟩
theorem xT {d l:aa}{cons:List Con}(h:RunOk d cons)(hl:fS cons d=some l):solsR cons d=solsR cons l:=by
 obtain⟨g1,g2,g3,g4,_⟩:=rv h hl
 have hlen:l.length=d.length:=g1.len
 unfold solsR
 rw[hlen,qI g1 h.gd g2 d.length (CS _),List.filter_filter]
 refine FX fun a ha=> ?_
 obtain⟨h1,h2⟩:=lq.1 ha
 cases hh:cons.all fun c=>holdsR c a with
 |false=>simp
 |true=>
  rw[DA]at hh
  rw[Da,eq_comm,DA]
  intro i hi
  have hi:=List.mem_range.1 hi
  obtain⟨p1,p2,p3⟩:=w9 h.gd h1 h2
  have he:=h.ends
  rw[hl]at he
  have:=he.1.keep (m9 a) p1 p2 ((iP h p1 p2 h1 p3).2 hh)
  have h4:=this.2 (i:Int) (atR a i) (by omega) (by rw[p3 i (by omega) (by omega)];simp)
  unfold domAt atR at h4
  rw[if_neg (by omega),D1]at h4
  rw[decide_eq_true_eq];exact h4
theorem zq {l:aa}{cons:List Con}(h:RunOk l cons)(hs:eC bK cons l){a:List Int}(ha:cA l=some a):solsR cons l=[a]:=by
 obtain⟨s1,s2⟩:=pS h.gd ha
 have hh:=(iP h h.gd leD.rfl' s1 s2).1 hs
 have hv: ∀i,i<l.length→vals (l.getD i [])=[a.getD i 0]:=fun i hi=>by
  have:=s2 (i:Int) (by omega) (by omega)
  unfold domAt atR at this
  rwa[if_neg (by omega),D1]at this
 have hg: ∀k,k≤l.length→bi l k=[a.take k]:=fun k=>by
  induction k with
  |zero=>intro _;rfl
  |succ k ih=>
   intro hk
   rw[bi,ih (by omega),hv k (by omega),C7 (by omega),C0,C1 (by omega)]
   rfl
 unfold solsR
 rw[hg _ (CS _),CV (by omega),Ev,if_pos (List.all_eq_true.2 hh),List.filter_nil]
theorem vk {l:aa}{cons:List Con}{v:Nat}(hv:v<l.length)(h1: ∀i,i<v→(vals (l.getD i [])).length=1):solsR cons l=(vals (l.getD v [])).flatMap fun x=>solsR cons (l.set v [(x,x)]):=by
 unfold solsR
 rw[wj hv h1 l.length hv (CS _),List.filter_flatMap]
 simp only[DI]
def mj (st:List (List Int))(a:List Int):List (List Int)×Bool:=(st++[a],false)
theorem tR {d0:aa}{cons:List Con}(h:RunOk d0 cons):SrchOK d0 (fun _=>cons) mj fun _=>True:=⟨fun _ _=>h,fun _ _ _ _=>trivial⟩
theorem qr {left:Int}{d0:aa}{cons:List Con}(h:RunOk d0 cons): ∀(n:Nat) (d:aa) (s:Srch (List (List Int))),weight d<n→GoodD d0.length d→leD d d0→s.over=false→(lookG left (fun _=>cons) mj n d s).over=false→(lookG left (fun _=>cons) mj n d s).st=s.st++solsR cons d
 |0,d,s,hw,_,_,_,_=>by omega
 |n+1,d,s,hw,gd,hle,hso,hov=>by
  have hrun:=h.less gd hle
  rw[lookG]at hov⊢
  split
  ·rename_i hleft
   rw[if_pos hleft]at hov;cases hov
  ·rename_i hleft
   rw[if_neg hleft]at hov
   split at hov
   ·rename_i hl
    show s.st=_
    rw[xU hrun hl,Dv]
   ·rename_i l hl
    obtain⟨g1,g2,g3,g4,_⟩:=rv hrun hl
    rw[xT hrun hl]
    split at hov
    ·rename_i b hb
     rw[zq g4 g3 hb];rfl
    ·rename_i hno
     have gl:GoodD d0.length l:=by rw[gd.len]at g1;exact g1
     have hl0:=(aZ 0).trans _ _ _ g2 hle
     obtain⟨hv,h1,hlow⟩:=np gl hno
     rw[vk hv hlow]
     generalize openV l=v at*
     have hchild:=fun x (hx:x∈vals (l.getD v []))=>lD gl hv hx
     have hlw:=(gv gl gd g2).1
     generalize vals (l.getD v [])=xs at*
     have key: ∀(ys:List Int) (t:Srch (List (List Int))),(∀y∈ys,y∈xs)→t.over=false→(ys.foldl (fun s x=>if s.over=true then s else lookG left (fun _=>cons) mj n (l.set v [(x,x)]) s) t).over=false→
       (ys.foldl (fun s x=>if s.over=true then s else lookG left (fun _=>cons) mj n (l.set v [(x,x)]) s) t).st=t.st++ys.flatMap fun x=>solsR cons (l.set v [(x,x)]):=by
      intro ys
      induction ys with
      |nil=>intro t _ _ _;simp
      |cons y ys ih=>
       intro t hys hto hov
       rw[CZ]at hov⊢
       rw[if_neg (by rw[hto];simp)]at hov⊢
       obtain⟨c1,c2,c3⟩:=hchild y (hys y (.head _))
       have hu:(lookG left (fun _=>cons) mj n (l.set v [(y,y)]) t).over=false:=by
        cases hu:(lookG left (fun _=>cons) mj n (l.set v [(y,y)]) t).over with
        |false=>rfl
        |true=>rw[oZ hu,hu]at hov;cases hov
       have e:=qr h n (l.set v [(y,y)]) t (by have:=c3 h1;omega) c1 ((aZ 0).trans _ _ _ c2 hl0) hto hu
       rw[ih _ (fun z hz=>hys z (.tail _ hz)) hu hov,e,EA,DD]
     exact key xs _ (fun _ h=>h) hso hov
theorem vM (x:List (Int×Int))(hf:Fine x):Spec Tryz.prog 112 false [dm x] [.val (.bool (decide (1<(vals x).length)))]:=by
 have hsz:=gy x (by have:=hf.len;omega)
 rw[nT hf]at hsz
 refine Spec.body Tryz.func112 rfl rfl rfl fun w0 Z0=> ?_
 refine .B ?_
 refine .C hsz ?_
 refine .B ?_
 exact⟨_,.v rfl rfl (congrArg PV.bool (by by_cases h:1<(vals x).length<;>simp[h]<;>omega)) (fun _=>rfl) .nil⟩
def zT (d:aa):Int:=gp (fun x=>decide (1<(vals x).length)) d
theorem yk (d:aa)(fd:FewD d):Spec Tryz.prog 71 false [aJ d] [.val (.int .i64 (zT d))]:=by
 refine Spec.body Tryz.func71 rfl rfl rfl fun w0 Z0=> ?_
 refine .B ?_
 refine .C (uh (p:=fun x=>decide (1<(vals x).length)) (f:=112) [] d (fun v hv=>vM v (fd.fine v hv)) (by have:=fd.small;omega)) ?_
 refine .B ?_
 exact r1
theorem zS {n:Nat}{l:aa}(gl:GoodD n l)(h:cA l=none):zT l=(openV l:Nat):=by
 obtain⟨h1,h2,_⟩:=np gl h
 unfold zT gp openV
 have:l.findIdx? (fun x=>decide (1<(vals x).length))=some (openV l):=List.findIdx?_eq_some_of_exists (by
  refine⟨l[openV l],C5 h1,?_⟩
  have hg:l.getD (openV l) []=l[openV l]:=by rw[C0,C1 h1];rfl
  rw[hg]at h2
  exact decide_eq_true h2)
 rw[this];rfl
def dw:Nat→aa→aa→List (Int×List (Int×Int))
 |i,y::d,x::l=>(if x=y then []else [((i:Int),y)])++dw (i+1) d l
 |_,_,_=>[]
theorem tZ: ∀(d l pre:aa),d.length=l.length→fV (dw pre.length d l) (pre++l)=pre++d
 | [],[],pre,_=>rfl
 |y::d,x::l,pre,h=>by
  have ih:=tZ d l (pre++[x]) (by simpa using h)
  rw[DD,CW,Db,DD]at ih
  unfold dw
  by_cases e:x=y
  ·subst e
   rw[if_pos rfl]
   exact ih
  ·rw[if_neg e]
   show((fV (dw (pre.length+1) d l) (pre++x::l)).set _ _)=_
   have ih:fV (dw (pre.length+1) d l) (pre++x::l)=pre++x::d:=ih
   rw[ih]
   simp
 | [],_::_,_,h=>by simp at h
 |_::_,[],_,h=>by simp at h
theorem Al: ∀(d l:aa) (i:Nat),∀c∈dw i d l,(i:Int)≤c.1∧c.1<(i+d.length:Nat)
 |y::d,x::l,i,c,h=>by
  unfold dw at h
  rcases List.mem_append.1 h with h|h
  ·split at h
   ·cases h
   ·rw[List.mem_singleton.1 h]
    exact⟨DO _,by simp;omega⟩
  ·have:=Al d l (i+1) c h
   rw[D0]
   omega
 | [],_,_,c,h=>by simp[dw]at h
 |_::_,[],_,c,h=>by simp[dw]at h
theorem nw: ∀(d l:aa) (i:Nat),(dw i d l).length≤d.length
 |y::d,x::l,i=>by
  unfold dw
  have:=nw d l (i+1)
  rw[CW,D0]
  split<;>simp<;>omega
 | [],_,_=>by simp[dw]
 |_::_,[],_=>by simp[dw]
theorem t6 (x y:List (Int×Int)): ∀(d l:aa) (i:Nat),d.length=l.length→dw i (d++[y]) (l++[x])=dw i d l++(if x=y then []else [((i+d.length:Nat):Int)].map fun i=>(i,y))
 |y'::d,x'::l,i,h=>by
  have ih:=t6 x y d l (i+1) (by simpa using h)
  simp only[Dq,dw,ih,DD,D0]
  rw[show i+1+d.length=i+(d.length+1)by omega]
 | [],[],i,_=>by simp[dw]
 | [],_::_,_,h=>by simp at h
 |_::_,[],_,h=>by simp at h
theorem A9 (ch:List (Int×List (Int×Int)))(d l:aa)(x y:List (Int×Int))(h:d.length=l.length):chS (ch++dw 0 d l) d.length y x=ch++dw 0 (d++[y]) (l++[x]):=by
 rw[t6 x y d l 0 h,Dy]
 unfold chS
 split<;>simp
abbrev kV (m:Mod)(sp:Value)(cons:List Con)(left:Int)(nodes:Int)(short enough:Bool)(found:PV):Own:= .box false [.sl (m.vars.map cV),cN m.cons,.int .i64 m.goal.kind,av m.goal.vars,av m.goal.coefs,.raw sp,cN cons,.int .i64 left,.int .i64 nodes,.bool short,.bool enough,found]
abbrev sV (lv cv mv:Value):Own:= .box true [.raw lv,.raw cv,.raw mv]
abbrev dV (d:aa):Own:= .sl 54 1 true (d.map cD)
abbrev chV (ch:List (Int×List (Int×Int))):Own:= .sl 156 2 true (ch.map cCh)
abbrev mkV (mk:List Int):Own:= .sl 3 1 true (mk.map cI)
abbrev pV (b:Nat):Value:= .pointer (some ⟨b,0,none⟩)
theorem Ak {ch:List (Int×List (Int×Int))}{d l:aa}{i:Nat}(hl:(ch.length+d.length+1)*32≤140737488355328)(h:i<d.length):((ch++dw 0 (d.take i) (l.take i)).length+1)*32≤140737488355328:=by
 have htl:=nw (d.take i) (l.take i) 0
 have e1:(d.take i).length≤i:=by rw[D8];exact Nat.min_le_left _ _
 have e2:(ch++dw 0 (d.take i) (l.take i)).length=ch.length+(dw 0 (d.take i) (l.take i)).length:=CW
 exact D3 (DJ 32 (by omega)) hl
set_option maxHeartbeats 1000000 in
theorem Aj (kb sb:Nat)(lv cv mv:Value)(m:Mod)(cons:List Con)(left nodes:Int)(short enough:Bool)(found:PV)(d l:aa)(ch:List (Int×List (Int×Int)))(fd:FewD d)(fl:FewD l)(hdl:d.length=l.length)(hs: ∀(i:Nat) (x y:List (Int×Int)),l[i]? =some x→d[i]? =some y→∀v∈vals x,v∈vals y)(hl:(ch.length+d.length+1)*32≤140737488355328):
  SpecX Tryz.prog 70 [pV kb,pV sb,lv] [cv] [kV m (pV sb) cons left nodes short enough found,sV lv cv mv,dV d] [chV ch] [(true,.raw (pV kb)),(false,aJ l)]
  (fun ns=>[kV m (pV sb) cons left nodes short enough found,sV lv (ns.getD 0 undef) mv,dV l]) (fun _=>[chV (ch++dw 0 d l)]) true (fun _=>[]):=by
 refine SpecX.body (fn:=Tryz.f70) [1000,1001,1002,1003] [1003] rfl rfl rfl rfl fun w0 Z=> ?_
 refine T.sub (Rel.derawp (s:=0) (g:=1000) rfl rfl rfl) ?_
 refine .B ?_
 rw[show chV ch=chV (ch++dw 0 (d.take 0) (l.take 0))by simp[dw]]
 refine T.K (T.ind (fun s:Value×Nat=>⟨[(0,.optr 0 0 0 0),(6,.val false (aJ l)),(7,.val true (.int .i64 (l.map cD).length)),(8,.val true (.int .i64 s.2)),(1000,.eq (pV kb) 0),(1001,.eq (pV sb) 1),(1002,.eq lv 2),(1003,.eq s.1 3)],[(0,some (kV m (pV sb) cons left nodes short enough found)),(1,some (sV lv s.1 mv)),(2,some (dV (l.take s.2++d.drop s.2))),(3,some (chV (ch++dw 0 (d.take s.2) (l.take s.2))))],4⟩)
  (fun s=>s.2≤l.length) (fun s=>l.length-s.2) (cv,0) (DC _) (fun _ _ h=>h) ?_)
 rintro⟨cu,i⟩ hi ih
 dsimp only at hi ih⊢
 have hlen:=fl.small
 by_cases h:i<l.length
 ·have hid:i<d.length:=by omega
  have hrow:(l.map cD)[((i:Nat):Int).toNat]? =some (cD l[i]):=by rw[D1,C8,C1 h];rfl
  have hne: ∀x∈l.take i++d.drop i,x∈l∨x∈d:=fun x hx=>(List.mem_append.1 hx).imp Dh Dr
  have fd':FewD (l.take i++d.drop i):=⟨by rw[CW,D8,FH];omega,fun x hx=>(hne x hx).elim (fl.fine x) (fd.fine x),fun x hx=>(hne x hx).elim (fl.few x) (fd.few x)⟩
  have hat:(l.take i++d.drop i)[i]? =some d[i]:=by
   rw[D9 (by rw[D8];omega),D8,DX (by omega),FI,Eh,E9,C1 hid]
  have hsv:=hs i l[i] d[i] (C1 h) (C1 hid)
  have hset:=pN sb lv cu mv (l.take i++d.drop i) (ch++dw 0 (d.take i) (l.take i)) i l[i] d[i] fd' hat (fl.fine _ (C5 h)) (fl.few _ (C5 h)) hsv (Ak hl hid)
  have e1:(l.take i++d.drop i).set i l[i]=l.take (i+1)++d.drop (i+1):=by
   rw[F1 _ _ (by rw[D8];omega),D8,DX (by omega),FI,CU hid,FO,C7 h,DD]
   rfl
  have e2:chS (ch++dw 0 (d.take i) (l.take i)) i d[i] l[i]=ch++dw 0 (d.take (i+1)) (l.take (i+1)):=by
   have:=A9 ch (d.take i) (l.take i) l[i] d[i] (by rw[D8,D8];omega)
   rw[D8,DX (by omega)]at this
   rw[this,C7 h,C7 hid]
  rw[e1,e2]at hset
  refine .M ?_
  refine T.ct2 rfl (decide_eq_true (by rw[C6];omega)) ?_
  refine .M ?_
  refine .I (r:=cD l[i]) hrow ?_
  refine .M ?_
  refine J.cx [1,2,3] [1001,1002,1003] [1004] hset ⟨rfl,⟨_,rfl,rfl,rfl⟩,rfl,⟨_,rfl,rfl,rfl⟩,rfl,⟨_,rfl,rfl,rfl⟩,trivial⟩ (fun ns hns=> ?_)
  obtain⟨u,rfl⟩:=Ai hns rfl
  refine .M ?_
  rw[ak h (by omega)]
  refine T.sub (Rel.ecp 1003 1004 rfl) ?_
  exact T.K (ih (u,i+1) h (by dsimp only;omega))
 ·obtain rfl:i=l.length:=by omega
  rw[DE,←hdl,DE,De,Dv,hdl]
  refine .M ?_
  refine T.cf2 rfl (decide_eq_false (by rw[C6];omega)) ?_
  refine .M ?_
  exact⟨[0,1,2],[3],[cu],⟨rfl,⟨_,rfl,rfl,rfl⟩,rfl,⟨_,rfl,rfl,rfl⟩,rfl,⟨_,rfl,rfl,rfl⟩,trivial⟩,⟨rfl,⟨_,rfl,rfl,rfl⟩,trivial⟩,rfl,.nil⟩
theorem aq (c:Own):c.reg c.fr=c:=by cases c<;>rfl
theorem aB (c:Own):(!c.fr||c.fr)=true:=by cases c.fr<;>rfl
structure Fnd (σ:Type) where
 f:FuncId
 caps:List PV
 p1:Value
 p2:Value
 p3:Value
 c1:σ→Value→Value→Own
 c2:σ→Value→Value→Own
 c3:σ→Value→Value→Own
 d1:σ→Own
 d2:σ→Own
 con:σ→List Con
 fnd:σ→List Int→σ×Bool
 sz:σ→Nat
abbrev Fnd.pv {σ:Type}(F:Fnd σ):PV:= .fn (.func F.f) [] F.caps
abbrev uV {σ:Type}(F:Fnd σ)(kb sb:Nat)(m:Mod)(left:Int)(f:FuncId)(args:List (Bool×PV))(lv cv mv g1 g2:Value)(d e:aa)(ch ch':List (Int×List (Int×Int)))(mk:List Int)(s r:Srch σ):Prop:=
 SpecX Tryz.prog f [pV kb,pV sb,lv,F.p1,F.p2,F.p3] [cv,mv,g1,g2] [kV m (pV sb) (F.con s.st) left s.nodes s.short s.over F.pv,sV lv cv mv,dV d,F.c1 s.st g1 g2,F.c2 s.st g1 g2,F.c3 s.st g1 g2] [chV ch,mkV mk,F.d1 s.st,F.d2 s.st] args
  (fun ns=>[kV m (pV sb) (F.con r.st) left r.nodes r.short r.over F.pv,sV lv (ns.getD 0 undef) (ns.getD 1 undef),dV e,F.c1 r.st (ns.getD 2 undef) (ns.getD 3 undef),F.c2 r.st (ns.getD 2 undef) (ns.getD 3 undef),F.c3 r.st (ns.getD 2 undef) (ns.getD 3 undef)])
  (fun _=>[chV ch',mkV mk,F.d1 r.st,F.d2 r.st]) true (fun _=>[])
abbrev nE {σ:Type}(F:Fnd σ)(kb sb:Nat)(m:Mod)(left:Int)(sl:List (Nat×SV))(lv cv mv g1 g2:Value)(d:aa)(ch:List (Int×List (Int×Int)))(mk:List Int)(s:Srch σ):St:=
 ⟨sl++[(1000,.eq (pV kb) 0),(1001,.eq (pV sb) 1),(1002,.eq lv 2),(1003,.eq F.p1 3),(1004,.eq F.p2 4),(1005,.eq F.p3 5),(1006,.eq cv 6),(1007,.eq mv 7),(1008,.eq g1 8),(1009,.eq g2 9)],[(0,some (kV m (pV sb) (F.con s.st) left s.nodes s.short s.over F.pv)),(1,some (sV lv cv mv)),(2,some (dV d)),(3,some (F.c1 s.st g1 g2)),(4,some (F.c2 s.st g1 g2)),(5,some (F.c3 s.st g1 g2)),(6,some (chV ch)),(7,some (mkV mk)),(8,some (F.d1 s.st)),(9,some (F.d2 s.st))],10⟩
theorem Ah {ns:List Value}{n:Nat}(h:ns.length=n)(hn:n=4): ∃a b c d,ns=[a,b,c,d]:=by
 subst hn
 match ns,h with
 | [a,b,c,d],_=>exact⟨a,b,c,d,rfl⟩
theorem Cw {ns:List Value}{n:Nat}(h:ns.length=n)(hn:n=2): ∃a b,ns=[a,b]:=by
 subst hn
 match ns,h with
 | [a,b],_=>exact⟨a,b,rfl⟩
set_option maxHeartbeats 1000000 in
theorem wD {σ:Type}(F:Fnd σ)(kb sb:Nat)(m:Mod)(left:Int)(lv cv mv g1 g2:Value)(l e:aa)(ch tail:List (Int×List (Int×Int)))(mk:List Int)(s r:Srch σ)(v:Nat)(x:Int)(y:List (Int×Int))
  (fl:FewD l) (hy:l[v]? =some y) (hx:x∈vals y) (hne: [(x,x)]≠y) (hlm:(mk.length+1)*8≤140737488355328) (hlc:((ch++[((v:Int),y)]++tail).length+1)*32≤140737488355328) (hel:e.length=l.length) (hlt: ∀c∈tail,0≤c.1∧c.1<(l.length:Int)) (hun:fV tail e=l.set v [(x,x)])
  (hlook: ∀cv mv,uV F kb sb m left 37 [(true,.raw (pV kb))] lv cv mv g1 g2 (l.set v [(x,x)]) e (ch++[((v:Int),y)]) (ch++[((v:Int),y)]++tail) (mk++[(ch.length:Int)]) s r):
  uV F kb sb m left 73 [(true,.raw (pV kb)),(true,.int .i64 v),(true,.int .i64 x)] lv cv mv g1 g2 l l ch ch mk s r:=by
 have hvl:=(List.getElem?_eq_some_iff.1 hy).1
 have hym:y∈l:=C4 hy
 have hxr:=(fl.fine y hym).val x hx
 have hmark:=fun mv=>u6 sb lv cv mv ch mk hlm
 have hfx:Fine [(x,x)]:=by
  have:=fl.one v hxr
  exact this.fine _ (List.mem_iff_getElem?.2 ⟨v,DH hvl⟩)
 have hset:=fun mv=>pN sb lv cv mv l ch v [(x,x)] y fl hy hfx (by simp[vals,bS]) (by simpa[vals,bS]using hx) (D3 (DJ 32 (by simp)) hlc)
 have e1:chS ch v y [(x,x)]=ch++[((v:Int),y)]:=if_neg hne
 rw[e1]at hset
 have hback:=fun cv mv=>u7 sb lv cv mv e ch ([((v:Int),y)]++tail) mk (fun c hc=>by
  rcases List.mem_append.1 hc with hc|hc
  ·rw[List.mem_singleton.1 hc];exact⟨Ek _,by show(v:Int)<_;omega⟩
  ·have:=hlt c hc;omega) (by have:=fl.small;omega) (by rw[←DD];omega) (by omega)
 have e2:fV ([((v:Int),y)]++tail) e=l:=by
  show(fV tail e).set ((v:Int)).toNat y=l
  rw[D1,hun,List.set_set]
  refine Ds fun j=> ?_
  by_cases hj:j=v
  ·rw[hj,DH hvl,hy]
  ·rw[D2 (Ne.symm hj)]
 rw[e2,←DD]at hback
 refine SpecX.bodyD (fn:=Tryz.f73) (σ:=Value) (τ:=Value×Value×Value×Value) (v:=pV sb) (x:= .tmp 14) (fx:=true)
  (E1:=fun mv=>nE F kb sb m left [(0,.optr 0 0 0 0),(1,.val true (.int .i64 v)),(2,.val true (.int .i64 x))] lv cv mv g1 g2 l ch (mk++[(ch.length:Int)]) s)
  (E2:=fun mv=>nE F kb sb m left [(0,.optr 0 0 0 0),(1,.val true (.int .i64 v)),(2,.val true (.int .i64 x)),(14,.val true (.raw (pV sb)))] lv cv mv g1 g2 l ch (mk++[(ch.length:Int)]) s)
  (E3:=fun t=>nE F kb sb m left [] lv t.1 t.2.1 t.2.2.1 t.2.2.2 e (ch++[((v:Int),y)]++tail) (mk++[(ch.length:Int)]) r)
  (us2:=[pV sb,lv]) (gs2:=fun t=>[t.1,t.2.1]) (cs2:=fun t=>[sV lv t.1 t.2.1,dV e]) (ds2:=fun t=>[chV (ch++[((v:Int),y)]++tail),mkV (mk++[(ch.length:Int)])])
  (cs2':=fun t ns=>[sV lv (ns.getD 0 undef) (ns.getD 1 undef),dV l]) (news2:=fun t _=>[chV ch,mkV mk]) (res2:=fun _=>[.int .i64 0])
  4 [1000,1001,1002,1003,1004,1005,1006,1007,1008,1009] [1010,1011,1008,1009] [1001,1002,1006,1007] [1010,1011] [1,2,6,7] rfl rfl rfl rfl rfl rfl rfl rfl rfl (fun w0 Z=> ?_) (fun w0 Z mv=> ?_) (fun mv=>rfl) (fun w0 Z mv=> ?_) (fun t=>hback t.1 t.2.1) rfl (fun t=> ?_) (fun t=>rfl) rfl (fun t ns hns=> ?_)
 ·refine T.sub (Rel.derawp (s:=0) (g:=1000) rfl rfl rfl) ?_
  refine T.r ?_
  iterate 4 refine J.H rfl ?_
  refine J.cx [1,6,7] [1001,1006,1007] [1007] (hmark mv) ⟨rfl,⟨_,rfl,rfl,rfl⟩,rfl,⟨_,rfl,rfl,rfl⟩,rfl,⟨_,rfl,rfl,rfl⟩,trivial⟩ (fun ns hns=> ?_)
  obtain⟨u,rfl⟩:=Ai hns rfl
  refine J.sub (Rel.canon (keep:=[0,1,2,1000,1001,1002,1003,1004,1005,1006,1007,1008,1009]) (os:=[1000,1001,1002,1003,1004,1005,1006,1007,1008,1009]) rfl) ?_
  exact J.nil ⟨rfl,u,rfl⟩
 ·iterate 4 refine J.H rfl ?_
  refine J.sub (Rel.canon (keep:=[0,1,2,14,1000,1001,1002,1003,1004,1005,1006,1007,1008,1009]) (os:=[1000,1001,1002,1003,1004,1005,1006,1007,1008,1009]) rfl) ?_
  exact J.nil rfl
 ·refine .M ?_
  refine .V ?_
  refine J.cx [1,2,6] [1001,1002,1006] [1006] (hset mv) ⟨rfl,⟨_,rfl,rfl,rfl⟩,rfl,⟨_,rfl,rfl,rfl⟩,rfl,⟨_,rfl,rfl,rfl⟩,trivial⟩ (fun ns hns=> ?_)
  obtain⟨u,rfl⟩:=Ai hns rfl
  refine .M ?_
  refine J.cx [0,1,2,3,4,5,10,7,8,9] [1000,1001,1002,1003,1004,1005,1006,1007,1008,1009] [1006,1007,1008,1009] (hlook u mv) ⟨rfl,⟨_,rfl,rfl,rfl⟩,rfl,⟨_,rfl,rfl,rfl⟩,rfl,⟨_,rfl,rfl,rfl⟩,rfl,⟨_,rfl,aq _,aB _⟩,rfl,⟨_,rfl,aq _,aB _⟩,rfl,⟨_,rfl,aq _,aB _⟩,rfl,⟨_,rfl,rfl,rfl⟩,rfl,⟨_,rfl,rfl,rfl⟩,rfl,⟨_,rfl,aq _,aB _⟩,rfl,⟨_,rfl,aq _,aB _⟩,trivial⟩ (fun ns hns=> ?_)
  obtain⟨a,b,c,d,rfl⟩:=Ah hns rfl
  refine J.sub (Rel.canon (keep:=[1000,1001,1002,1003,1004,1005,1006,1007,1008,1009]) (os:=[1000,1001,1002,1003,1004,1005,1006,1007,1008,1009]) rfl) ?_
  exact J.nil ⟨.inl rfl,(a,b,c,d),rfl⟩
 ·exact⟨rfl,⟨_,rfl,rfl,rfl⟩,rfl,⟨_,rfl,rfl,rfl⟩,rfl,⟨_,rfl,rfl,rfl⟩,rfl,⟨_,rfl,rfl,rfl⟩,trivial⟩
 ·obtain⟨a,b,rfl⟩:=Cw hns rfl
  exact⟨[0,1,2,3,4,5],[10,11,8,9],[a,b,t.2.2.1,t.2.2.2],⟨rfl,⟨_,rfl,rfl,rfl⟩,rfl,⟨_,rfl,rfl,rfl⟩,rfl,⟨_,rfl,rfl,rfl⟩,rfl,⟨_,rfl,aq _,aB _⟩,rfl,⟨_,rfl,aq _,aB _⟩,rfl,⟨_,rfl,aq _,aB _⟩,trivial⟩,⟨rfl,⟨_,rfl,rfl,rfl⟩,rfl,⟨_,rfl,rfl,rfl⟩,rfl,⟨_,rfl,aq _,aB _⟩,rfl,⟨_,rfl,aq _,aB _⟩,trivial⟩,rfl,.nil⟩
theorem tY: ∀l:List (Bool×PV),leX l l=true
 | []=>rfl
 |p::l=>by
  simp only[leX,tY l,Fd]
  cases p.1<;>rfl
structure FndOK {σ:Type}(F:Fnd σ)(kb sb:Nat)(m:Mod)(left:Int)(d0:aa)(I:σ→Prop):Prop where
 ok: ∀(t:σ) (a:List Int) (g1 g2:Value) (nodes:Int) (short over:Bool),I t→F.sz t≤1099511627776→uX d0 F.con t a→
  SpecX Tryz.prog F.f [pV kb,F.p1,F.p2,F.p3] [g1,g2] [kV m (pV sb) (F.con t) left nodes short over F.pv,F.c1 t g1 g2,F.c2 t g1 g2,F.c3 t g1 g2] [F.d1 t,F.d2 t] ((true,av a)::y4 false F.caps)
  (fun ns=>[kV m (pV sb) (F.con (F.fnd t a).1) left nodes short over F.pv,F.c1 (F.fnd t a).1 (ns.getD 0 undef) (ns.getD 1 undef),F.c2 (F.fnd t a).1 (ns.getD 0 undef) (ns.getD 1 undef),F.c3 (F.fnd t a).1 (ns.getD 0 undef) (ns.getD 1 undef)]) (fun _=>[F.d1 (F.fnd t a).1,F.d2 (F.fnd t a).1]) true (fun _=>[.bool (F.fnd t a).2])
theorem tQ {σ:Type}{left:Int}{con:σ→List Con}{fnd:σ→List Int→σ×Bool}{sz:σ→Nat}(hz: ∀t a,sz (fnd t a).1≤sz t+1): ∀(n:Nat) (d:aa) (s:Srch σ),sz s.st≤s.nodes→sz (lookG left con fnd n d s).st≤(lookG left con fnd n d s).nodes
 |0,d,s,h=>h
 |n+1,d,s,h=>by
  rw[lookG]
  split
  ·exact h
  ·split
   ·exact G0 h
   ·split
    ·exact D3 (hz _ _) (Nat.succ_le_succ h)
    ·refine jt (Q:=fun s:Srch σ=>sz s.st≤s.nodes) (fun s x _ h=> ?_) (G0 h)
     split
     ·exact h
     ·exact tQ hz n _ _ h
noncomputable def iF {σ:Type}(left:Int)(con:σ→List Con)(d:aa)(s:Srch σ):aa×List (Int×List (Int×Int)):=
 if left≤(s.nodes:Int)then(d,[])else match fS (con s.st) d with
 |none=>(d,[])
 |some l=>match cA l with
  |some _=>(d,[])
  |none=>(l,dw 0 d l)
theorem Ab {σ:Type}{left:Int}{d0:aa}{con:σ→List Con}{fnd:σ→List Int→σ×Bool}{I:σ→Prop}(h:SrchOK d0 con fnd I){d:aa}(gd:GoodD d0.length d)(hle:leD d d0){s:Srch σ}(hi:I s.st):
  (iF left con d s).1.length=d.length∧(iF left con d s).2.length≤d.length∧(∀c∈(iF left con d s).2,0≤c.1∧c.1<(d.length:Int))∧fV (iF left con d s).2 (iF left con d s).1=d:=by
 unfold iF
 split
 ·exact⟨rfl,DC _,fun c hc=>(by cases hc),rfl⟩
 ·split
  ·exact⟨rfl,DC _,fun c hc=>(by cases hc),rfl⟩
  ·rename_i l hl
   obtain⟨gl,_⟩:=rD h gd hle hi hl
   split
   ·exact⟨rfl,DC _,fun c hc=>(by cases hc),rfl⟩
   ·have e:d.length=l.length:=gd.len.trans gl.len.symm
    refine⟨e.symm,nw d l 0,fun c hc=> ?_,?_⟩
    ·have:=Al d l 0 c hc
     rw[Dy]at this
     exact⟨by omega,this.2⟩
    ·have:=tZ d l [] e
     simpa using this
theorem qM {σ:Type}{f:Srch σ→Int→Srch σ}: ∀(l:List Int) (s:Srch σ),s.over=true→l.foldl (fun s x=>if s.over then s else f s x) s=s
 | [],s,_=>rfl
 |x::l,s,h=>by rw[CZ,if_pos h];exact qM l s h
def B1 {α:Type}(a b:List α):List α:=match b with| []=>a|c::t=>a++c::t
theorem sd {α:Type}(a b:List α):B1 a b=a++b:=by cases b<;>simp[B1]
set_option maxHeartbeats 4000000 in
theorem qq {σ:Type}(F:Fnd σ)(kb sb:Nat)(m:Mod)(left:Int)(d0:aa)(I:σ→Prop)(hS:SrchOK d0 F.con F.fnd I)(hF:FndOK F kb sb m left d0 I)(hz: ∀t a,F.sz (F.fnd t a).1≤F.sz t+1)(hleft:left≤1099511627776)(hdl:d0.length≤1024):
  ∀(n:Nat) (d:aa) (s:Srch σ) (lv cv mv g1 g2:Value) (ch:List (Int×List (Int×Int))) (mk:List Int),weight d<n→GoodD d0.length d→leD d d0→I s.st→F.sz s.st≤s.nodes→s.over=false→mk.length+n≤1048576→ch.length+n*1026≤1073741824→
  uV F kb sb m left 37 [(true,.raw (pV kb))] lv cv mv g1 g2 d (iF left F.con d s).1 ch (B1 ch (iF left F.con d s).2) mk s (lookG left F.con F.fnd n d s):=by
 intro n
 induction n with
 |zero=>intro d s lv cv mv g1 g2 ch mk hw;omega
 |succ n ihn=>
  intro d s lv cv mv g1 g2 ch mk hw gd hle hi hsn hov hmk hch
  refine SpecX.body (fn:=Tryz.f37) [1000,1001,1002,1003,1004,1005,1006,1007,1008,1009] [1006,1007,1008,1009] rfl rfl rfl rfl fun w0 Z=> ?_
  refine T.sub (Rel.derawp (s:=0) (g:=1000) rfl rfl rfl) ?_
  obtain⟨r,hr⟩: ∃r,r=lookG left F.con F.fnd (n+1) d s:=⟨_,rfl⟩
  obtain⟨e,he⟩: ∃e,e=iF left F.con d s:=⟨_,rfl⟩
  rw[←hr,←he]
  rw[lookG]at hr
  unfold iF at he
  refine T.sub (Rel.canon (keep:=[0,1000,1001,1002,1003,1004,1005,1006,1007,1008,1009]) (os:=[1000,1001,1002,1003,1004,1005,1006,1007,1008,1009]) rfl) ?_
  refine .B ?_
  refine T.cd rfl (fun h=> ?_) (fun h=> ?_)
  ·rw[if_pos h]at hr he
   subst hr he
   refine .B ?_
   refine .W ?_
   refine .B ?_
   refine .W ?_
   refine .B ?_
   exact⟨[0,1,2,3,4,5],[6,7,8,9],[cv,mv,g1,g2],⟨rfl,⟨_,rfl,rfl,rfl⟩,rfl,⟨_,rfl,rfl,rfl⟩,rfl,⟨_,rfl,rfl,rfl⟩,rfl,⟨_,rfl,aq _,aB _⟩,rfl,⟨_,rfl,aq _,aB _⟩,rfl,⟨_,rfl,aq _,aB _⟩,trivial⟩,⟨rfl,⟨_,rfl,rfl,rfl⟩,rfl,⟨_,rfl,rfl,rfl⟩,rfl,⟨_,rfl,aq _,aB _⟩,rfl,⟨_,rfl,aq _,aB _⟩,trivial⟩,rfl,.nil⟩
  rw[if_neg h]at hr he
  refine .B ?_
  rw[ae (by omega) (by omega),←Int.natCast_succ]
  refine .W ?_
  refine .M ?_
  refine T.K (?_:T _ _ (nE F kb sb m left [(0,.optr 0 0 0 0)] lv cv mv g1 g2 d ch mk { s with nodes:=s.nodes+1 }) _)
  have fd:=gd.few
  have hall:=(B2 (hS.run s.st hi) (e:=d) (fun x hx=>⟨fd.fine x hx,fd.few x hx⟩) hle).frz
  refine T.rdm 16 rfl (by kernel_rfl) rfl ?_
  iterate 3 refine J.H rfl ?_
  refine J.lp 1001 (q:=1) (b:=sb) rfl ?_
  iterate 2 refine J.H rfl ?_
  refine J.cb 1002 (xO d fd).frz ?_
  iterate 4 refine J.H rfl ?_
  refine .C hall ?_
  refine .M ?_
  clear hall
  cases hR:fS (F.con s.st) d with
  |none=>
   rw[hR]at hr he
   dsimp only at hr he
   subst hr he
   refine T.ct rfl ?_
   refine .M ?_
   exact⟨[0,1,2,3,4,5],[6,7,8,9],[cv,mv,g1,g2],⟨rfl,⟨_,rfl,rfl,rfl⟩,rfl,⟨_,rfl,rfl,rfl⟩,rfl,⟨_,rfl,rfl,rfl⟩,rfl,⟨_,rfl,aq _,aB _⟩,rfl,⟨_,rfl,aq _,aB _⟩,rfl,⟨_,rfl,aq _,aB _⟩,trivial⟩,⟨rfl,⟨_,rfl,rfl,rfl⟩,rfl,⟨_,rfl,rfl,rfl⟩,rfl,⟨_,rfl,aq _,aB _⟩,rfl,⟨_,rfl,aq _,aB _⟩,trivial⟩,rfl,.nil⟩
  |some l=>
   rw[hR]at hr he
   dsimp only at hr he
   obtain⟨gl,hld,hl0,hst⟩:=rD hS gd hle hi hR
   have fl:=gl.few
   refine T.cf rfl ?_
   refine T.K (?_:T _ _ (nE F kb sb m left [(0,.optr 0 0 0 0),(2,.val true (aJ l))] lv cv mv g1 g2 d ch mk { s with nodes:=s.nodes+1 }) _)
   refine .M ?_
   refine .C (rP l fl.small fl.fine).frz ?_
   refine .M ?_
   cases hsv:cA l with
   |some a=>
    rw[hsv]at hr he
    dsimp only at hr he
    subst hr he
    refine T.ct rfl ?_
    refine .M ?_
    refine J.cx [0,3,4,5,8,9] [1000,1003,1004,1005,1008,1009] [1008,1009] (hF.ok s.st a g1 g2 ((s.nodes+1:Nat):Int) s.short s.over hi (by omega) ⟨l,gl,hl0,hst,hsv⟩) ⟨rfl,⟨_,rfl,rfl,rfl⟩,rfl,⟨_,rfl,aq _,aB _⟩,rfl,⟨_,rfl,aq _,aB _⟩,rfl,⟨_,rfl,aq _,aB _⟩,rfl,⟨_,rfl,aq _,aB _⟩,rfl,⟨_,rfl,aq _,aB _⟩,trivial⟩ (hle:=tY _) (fun ns hns=> ?_)
    obtain⟨a1,a2,rfl⟩:=Cw hns rfl
    refine .M ?_
    refine .W ?_
    refine .M ?_
    exact⟨[0,1,2,3,4,5],[6,7,10,11],[cv,mv,a1,a2],⟨rfl,⟨_,rfl,rfl,rfl⟩,rfl,⟨_,rfl,rfl,rfl⟩,rfl,⟨_,rfl,rfl,rfl⟩,rfl,⟨_,rfl,aq _,aB _⟩,rfl,⟨_,rfl,aq _,aB _⟩,rfl,⟨_,rfl,aq _,aB _⟩,trivial⟩,⟨rfl,⟨_,rfl,rfl,rfl⟩,rfl,⟨_,rfl,rfl,rfl⟩,rfl,⟨_,rfl,aq _,aB _⟩,rfl,⟨_,rfl,aq _,aB _⟩,trivial⟩,rfl,.nil⟩
   |none=>
    rw[hsv]at hr he
    dsimp only at hr he
    subst he
    refine T.cf rfl ?_
    refine .M ?_
    obtain⟨hv,hv1,_⟩:=np gl hsv
    have hop:=yk l fl
    rw[zS gl hsv]at hop
    generalize openV l=v at*
    have hg:l.getD v []=l[v]:=by rw[C0,C1 hv];rfl
    rw[hg]at hr hv1
    have hdl2:=gd.len
    have hlay:=Aj kb sb lv cv mv m (F.con s.st) left ((s.nodes+1:Nat):Int) s.short s.over F.pv d l ch fd fl (gd.len.trans gl.len.symm) (hld.sub gl gd).2 (D3 (DJ 32 (by omega:ch.length+d.length+1≤1073741824)) (by decide))
    refine J.cx [0,1,2,6] [1000,1001,1002,1006] [1006] hlay ⟨rfl,⟨_,rfl,rfl,rfl⟩,rfl,⟨_,rfl,rfl,rfl⟩,rfl,⟨_,rfl,rfl,rfl⟩,rfl,⟨_,rfl,rfl,rfl⟩,trivial⟩ (fun ns hns=> ?_)
    obtain⟨u,rfl⟩:=Ai hns rfl
    refine .M ?_
    refine .C hop ?_
    refine .M ?_
    have hrow:(l.map cD)[((v:Nat):Int).toNat]? =some (cD l[v]):=by rw[D1,C8,C1 hv];rfl
    refine .I (r:=cD l[v]) hrow ?_
    refine .M ?_
    have hym:l[v]∈l:=C5 hv
    have hyf:=fl.few _ hym
    have hys:=(fl.fine _ hym).len
    have hdv:=(ip l[v] (fl.fine _ hym).domB.1 (by omega)).frz
    rw[CV (by omega)]at hdv
    refine .C hdv ?_
    refine .M ?_
    generalize hxs:vals l[v]=xs at*
    have hxm: ∀x∈xs,x∈vals l[v]:=fun x hx=>by rw[hxs];exact hx
    refine T.K (T.ind (fun x:Value×Value×Value×Value×Srch σ×Nat=>nE F kb sb m left [(0,.optr 0 0 0 0),(6,.val true (.int .i64 v)),(72,.val true (av xs)),(73,.val true (.int .i64 (xs.map cI).length)),(74,.val true (.int .i64 x.2.2.2.2.2))] lv x.1 x.2.1 x.2.2.1 x.2.2.2.1 l (ch++dw 0 d l) mk x.2.2.2.2.1)
     (fun x=>x.2.2.2.2.2≤xs.length∧I x.2.2.2.2.1.st∧F.sz x.2.2.2.2.1.st≤x.2.2.2.2.1.nodes∧(xs.drop x.2.2.2.2.2).foldl (fun s x=>if s.over then s else lookG left F.con F.fnd n (l.set v [(x,x)]) s) x.2.2.2.2.1=r) (fun x=>xs.length-x.2.2.2.2.2) (u,mv,g1,g2,{ s with nodes:=s.nodes+1 },0) ⟨DC _,hi,G0 hsn,hr.symm⟩ (fun _ _ h=>h) ?_)
    rintro⟨cu,mu,h1,h2,t,i⟩ ⟨hil,hti,htz,htr⟩ ih
    dsimp only at hil hti htz htr ih⊢
    by_cases hlt:i<xs.length
    ·refine .M ?_
     refine T.ct2 rfl (decide_eq_true (by rw[C6];omega)) ?_
     refine .M ?_
     have hrw:(xs.map cI)[((i:Nat):Int).toNat]? =some (cI xs[i]):=by rw[D1,C8,C1 hlt];rfl
     refine .I (r:=cI xs[i]) hrw ?_
     refine .M ?_
     refine T.cond rfl (fun hto=> ?_) (fun hto=> ?_)
     ·have hto:t.over=true:=hto
      rw[qM _ t hto]at htr
      subst htr
      refine .M ?_
      exact⟨[0,1,2,3,4,5],[6,7,8,9],[cu,mu,h1,h2],⟨rfl,⟨_,rfl,rfl,rfl⟩,rfl,⟨_,rfl,rfl,rfl⟩,rfl,⟨_,rfl,rfl,rfl⟩,rfl,⟨_,rfl,aq _,aB _⟩,rfl,⟨_,rfl,aq _,aB _⟩,rfl,⟨_,rfl,aq _,aB _⟩,trivial⟩,⟨rfl,⟨_,rfl,congrArg chV (sd _ _).symm,rfl⟩,rfl,⟨_,rfl,rfl,rfl⟩,rfl,⟨_,rfl,aq _,aB _⟩,rfl,⟨_,rfl,aq _,aB _⟩,trivial⟩,rfl,.nil⟩
     ·have hto:t.over=false:=hto
      have hxi:=hxm _ (C5 hlt)
      obtain⟨gc,hc1,hc2⟩:=lD gl hv (x:=xs[i]) (by rw[hg];exact hxi)
      have hc0:leD (l.set v [(xs[i],xs[i])]) d0:=(aZ 0).trans _ _ _ hc1 hl0
      have hwl:=(gv gl gd hld).1
      have hwc:=hc2 (by rw[hg,hxs];exact hv1)
      obtain⟨k1,k2,k3,k4⟩:=Ab (left:=left) hS gc hc0 (s:=t) hti
      rw[DI]at k1 k2 k3
      have hcl:=nw d l 0
      have hll:=gl.len
      have hlk:=fun cv mv=>ihn (l.set v [(xs[i],xs[i])]) t lv cv mv h1 h2 (ch++dw 0 d l++[((v:Int),l[v])]) (mk++[((ch++dw 0 d l).length:Int)]) (by omega) gc hc0 hti htz hto (by simp;omega) (by simp;omega)
      rw[sd]at hlk
      have hch2:=wD F kb sb m left lv cu mu h1 h2 l (iF left F.con (l.set v [(xs[i],xs[i])]) t).1 (ch++dw 0 d l) (iF left F.con (l.set v [(xs[i],xs[i])]) t).2 mk t (lookG left F.con F.fnd n (l.set v [(xs[i],xs[i])]) t) v xs[i] l[v] fl (C1 hv) hxi (fun e=>by rw[←hxs,←e]at hv1;simp[vals,bS]at hv1) (by omega) (D3 (DJ 32 (by simp;omega:_≤1073741824)) (by decide)) k1 k3 k4 hlk
      refine .M ?_
      refine J.cx [0,1,2,3,4,5,6,7,8,9] [1000,1001,1002,1003,1004,1005,1006,1007,1008,1009] [1006,1007,1008,1009] hch2 ⟨rfl,⟨_,rfl,rfl,rfl⟩,rfl,⟨_,rfl,rfl,rfl⟩,rfl,⟨_,rfl,rfl,rfl⟩,rfl,⟨_,rfl,aq _,aB _⟩,rfl,⟨_,rfl,aq _,aB _⟩,rfl,⟨_,rfl,aq _,aB _⟩,rfl,⟨_,rfl,rfl,rfl⟩,rfl,⟨_,rfl,rfl,rfl⟩,rfl,⟨_,rfl,aq _,aB _⟩,rfl,⟨_,rfl,aq _,aB _⟩,trivial⟩ (fun ns hns=> ?_)
      obtain⟨a1,a2,a3,a4,rfl⟩:=Ah hns rfl
      refine .M ?_
      rw[ak hlt (by omega)]
      have hgo:=(kd (left:=left) hS n (l.set v [(xs[i],xs[i])]) t (by omega) gc hc0 hti).inv
      refine T.K (ih (a1,a2,a3,a4,lookG left F.con F.fnd n (l.set v [(xs[i],xs[i])]) t,i+1) ⟨hlt,hgo,tQ hz n _ _ htz,?_⟩ (by dsimp only;omega))
      rw[CU hlt,CZ,if_neg (by rw[hto];decide)]at htr
      exact htr
    ·obtain rfl:i=xs.length:=by omega
     rw[De]at htr
     have htr:t=r:=htr
     subst htr
     refine .M ?_
     refine T.cf2 rfl (decide_eq_false (by rw[C6];omega)) ?_
     refine .M ?_
     exact⟨[0,1,2,3,4,5],[6,7,8,9],[cu,mu,h1,h2],⟨rfl,⟨_,rfl,rfl,rfl⟩,rfl,⟨_,rfl,rfl,rfl⟩,rfl,⟨_,rfl,rfl,rfl⟩,rfl,⟨_,rfl,aq _,aB _⟩,rfl,⟨_,rfl,aq _,aB _⟩,rfl,⟨_,rfl,aq _,aB _⟩,trivial⟩,⟨rfl,⟨_,rfl,congrArg chV (sd _ _).symm,rfl⟩,rfl,⟨_,rfl,rfl,rfl⟩,rfl,⟨_,rfl,aq _,aB _⟩,rfl,⟨_,rfl,aq _,aB _⟩,trivial⟩,rfl,.nil⟩
theorem Ag {l:List Con}: ∀r∈l.map cC,r.length=7:=fun r hr=>by obtain⟨c,_,rfl⟩:=List.mem_map.1 hr;rfl
theorem mZ (l:List Con)(hl:l.length≤4096):Spec Tryz.prog 43 true [cN l] [.own 51 7 (l.map cC)]:=by
 refine Spec.body Tryz.func43 rfl rfl rfl fun w0 Z0=> ?_
 refine .B ?_
 refine J.nc rfl rfl rfl rfl rfl rfl rfl fun b hb=> ?_
 refine .B ?_
 cases b
 ·refine T.cf rfl ?_
  refine .B ?_
  refine .O ?_
  refine .B ?_
  refine J.a rfl rfl rfl rfl rfl rfl rfl rfl rfl rfl rfl rfl rfl rfl rfl rfl rfl Ag (D3 (DJ _ (show 0+(l.map cC).length≤4096 by rw[C6];omega)) (show 4096*104≤140737488355328 by decide)) ?_
  refine .B ?_
  exact⟨_,.o rfl rfl rfl (fun h=>by cases h) (by simp) .nil⟩
 ·have:l=[]:=by simpa using hb rfl
  subst this
  refine T.ct rfl ?_
  refine .B ?_
  exact⟨_,.ownN rfl .nil⟩
theorem oE (m:Mod)(hm:ModB m):Spec Tryz.prog 66 false [.agg (cM m)] [.own 54 1 ((domsM m).map cD)]:=by
 refine Spec.body Tryz.func66 rfl rfl rfl fun w0 Z0=> ?_
 obtain⟨h1,h2,_,_,_⟩:=hm
 refine .B ?_
 refine T.sub (Rel.own0 (s:=3) 54 1 rfl) ?_
 refine T.K (T.ind (fun i:Nat=>⟨[(1,.optr 0 0 0 0),(3,.ref 1),(7,.val false (.sl (m.vars.map cV))),(8,.val true (.int .i64 (m.vars.map cV).length)),(9,.val true (.int .i64 i))],[(0,some (.box false (cM m))),(1,some (.sl 54 1 true (((domsM m).take i).map cD)))],2⟩) (fun i=>i≤m.vars.length) (fun i=>m.vars.length-i) 0 (DC _) (fun _ _ h=>h) ?_)
 rintro i hi ih
 refine .B ?_
 refine T.cd rfl (fun h5=> ?_) (fun h5=> ?_)
 ·have h5:i<m.vars.length:=by simpa using h5
  have hrow:(m.vars.map cV)[((i:Nat):Int).toNat]? =some (cV m.vars[i]):=by simp[h5]
  have hv:=h2 _ (C5 h5)
  have htk:(domsM m).take (i+1)=(domsM m).take i++[m.vars[i].2]:=by
   rw[C7 (by simpa[domsM]using h5)];simp[domsM]
  have hl:=List.length_take_le i (domsM m)
  have ih1:=ih (i+1) (by omega) (by omega)
  rw[htk]at ih1
  generalize (domsM m).take i=out at*
  generalize m.vars[i]=v at*
  refine .B ?_
  refine .I (r:=cV v) hrow ?_
  refine .B ?_
  refine .L ?_
  refine .W ?_
  refine .B ?_
  refine .C (bQ v.2 (by omega)).frz ?_
  refine .B ?_
  refine .V ?_
  refine J.aD rfl rfl rfl rfl rfl rfl rfl rfl rfl rfl rfl rfl rfl rfl rfl rfl rfl rfl rfl (by omega) ?_
  refine .B ?_
  rw[ak (l:=m.vars.length) h5 (by omega)]
  exact T.K ih1
 ·have h5:i=m.vars.length:=by simp at h5;omega
  subst h5
  rw[CV (by simp[domsM])]
  refine .B ?_
  exact⟨_,.o rfl rfl rfl (fun _=> .inl rfl) (by simp) .nil⟩
theorem xX (m:Mod)(left e:Int)(he:e≠0)(hck:Spec Tryz.prog 64 false [.agg (cM m)] [.val (.int .i64 e)]):Spec Tryz.prog 35 false [.agg (cM m),.int .i64 left] [.val .nilp,.val (.int .i64 e)]:=by
 refine Spec.body Tryz.func35 rfl rfl rfl fun w0 Z0=> ?_
 refine .B ?_
 refine .C hck ?_
 refine .B ?_
 refine T.ct2 rfl (by simpa using he) ?_
 refine .B ?_
 exact r2
theorem mI (m:Mod)(hm:ModB m)(fd:FewD (domsM m))(left:Int)(hck:Spec Tryz.prog 64 false [.agg (cM m)] [.val (.int .i64 0)]):
  SpecX Tryz.prog 35 [] [] [] [] [(false,.agg (cM m)),(true,.int .i64 left)] (fun _=>[]) (fun ns=>[kV m (ns.getD 1 undef) m.cons left 0 false false .nilf,sV (ns.getD 2 undef) (ns.getD 3 undef) (ns.getD 4 undef),dV (domsM m),chV [],mkV []]) true (fun ns=>[.raw (ns.getD 0 undef),.int .i64 0]):=by
 refine SpecX.body (fn:=Tryz.f35) [] [1000,1001,1002,1003,1004] rfl rfl rfl rfl fun w0 Z=> ?_
 have hcl:=hm.cl
 refine .B ?_
 refine .C hck ?_
 refine .B ?_
 refine T.cf rfl ?_
 refine .B ?_
 refine .C (oE m hm).frz ?_
 refine .B ?_
 refine J.cx [] [] [1001,1002,1003,1004] (xN (domsM m) fd fd.few) trivial (fun ns hns=> ?_)
 obtain⟨p,a,b,c,rfl⟩:=Ah hns rfl
 refine .M ?_
 refine T.canon (keep:=[1,2,7,8,1001,1002,1003,1004]) (os:=[2,1001,1002,1003,1004]) rfl ?_
 refine T.rdm 10 rfl (by kernel_rfl) rfl ?_
 refine .M ?_
 refine .C (mZ m.cons (by omega)).frz ?_
 iterate 5 refine J.H rfl ?_
 refine J.nil ?_
 refine J.name 1000 (s:=4) rfl rfl rfl fun u=> ?_
 refine J.sub (Rel.raw (s:=4) (g:=1000) rfl (.inr rfl) rfl rfl rfl) ?_
 refine .M ?_
 exact⟨[],[5,1,2,3,4],[u,p,a,b,c],trivial,⟨rfl,⟨_,rfl,rfl,rfl⟩,rfl,⟨_,rfl,rfl,rfl⟩,rfl,⟨_,rfl,rfl,rfl⟩,rfl,⟨_,rfl,rfl,rfl⟩,rfl,⟨_,rfl,rfl,rfl⟩,trivial⟩,rfl,.val rfl rfl (fun _=>rfl) (.val rfl rfl (fun _=>rfl) .nil)⟩
def AG (cons:List Con)(op:Value):Fnd (List (List Int)):=⟨36,[.raw op],op,.slice none 0 0,.slice none 0 0,fun _ g1 _=> .box true [.raw g1],fun _ _ _=> .sl 3 1 true [],fun _ _ _=> .sl 3 1 true [],fun t=> .sl 24 1 true (t.map cL),fun _=> .sl 3 1 true [],fun _=>cons,mj,fun t=>t.length⟩
theorem Bu (kb sb:Nat)(m:Mod)(left:Int)(d0:aa)(op:Value):FndOK (AG m.cons op) kb sb m left d0 fun _=>True:=by
 refine⟨fun t a g1 g2 nodes short over _ hsz _=> ?_⟩
 have hsz:t.length≤1099511627776:=hsz
 refine SpecX.body (fn:=Tryz.f36) [1000,1001,1002,1003,1004,1005] [1006,1005] rfl rfl rfl rfl fun w0 Z=> ?_
 refine T.sub (Rel.derawp (s:=1) (g:=1001) rfl rfl rfl) ?_
 refine .B ?_
 refine J.sub (Rel.deraw (s:=4) (g:=1004) rfl rfl) ?_
 refine .V ?_
 refine J.a rfl rfl rfl rfl rfl rfl rfl rfl rfl rfl rfl rfl rfl rfl rfl rfl rfl (cB rfl) (D3 (DJ _ (show(t.map cL).length+1≤1099511627777 by rw[C6];omega)) (show 1099511627777*24≤140737488355328 by decide)) ?_
 refine J.name 1006 (s:=7) rfl rfl rfl fun u=> ?_
 refine J.sub (Rel.raw (s:=7) (g:=1006) rfl (.inl rfl) rfl rfl rfl) ?_
 refine .W ?_
 refine .B ?_
 have e:t.map cL++[[av a]]=(t++[a]).map cL:=by simp[cL]
 refine⟨[0,1,2,3],[6,5],[u,g2],⟨rfl,⟨_,rfl,rfl,rfl⟩,rfl,⟨_,rfl,rfl,rfl⟩,rfl,⟨_,rfl,rfl,rfl⟩,rfl,⟨_,rfl,rfl,rfl⟩,trivial⟩,⟨rfl,⟨_,rfl,congrArg (fun l=>Own.sl 24 1 true l) e,rfl⟩,rfl,⟨_,rfl,rfl,rfl⟩,trivial⟩,rfl,.val rfl rfl (fun _=>rfl) .nil⟩
theorem AP (m:Mod)(left e:Int)(he:e≠0)(hck:Spec Tryz.prog 64 false [.agg (cM m)] [.val (.int .i64 e)]):Spec Tryz.prog 13 false [.agg (cM m),.int .i64 left] [.own 24 1 [],.val (.bool false),.val (.int .i64 0),.val (.int .i64 e)]:=by
 refine Spec.body Tryz.func13 rfl rfl rfl fun w0 Z0=> ?_
 refine .B ?_
 refine .C (xX m left e he hck) ?_
 refine .B ?_
 refine T.ct2 rfl (by simpa using he) ?_
 refine .B ?_
 exact⟨_,.ownN rfl (.v rfl rfl rfl (fun _=>rfl) (.v rfl rfl rfl (fun _=>rfl) (.v rfl rfl rfl (fun _=>rfl) .nil)))⟩
theorem Cv {ns:List Value}{n:Nat}(h:ns.length=n)(hn:n=5): ∃a b c d e,ns=[a,b,c,d,e]:=by
 subst hn
 match ns,h with
 | [a,b,c,d,e],_=>exact⟨a,b,c,d,e,rfl⟩
noncomputable def srchA (m:Mod)(left:Int):Srch (List (List Int)):=lookG left (fun _=>m.cons) mj (weight (domsM m)+1) (domsM m) ⟨0,false,false,[]⟩
set_option maxHeartbeats 1000000 in
theorem lO (m:Mod)(hm:ModB m)(hr:RunOk (domsM m) m.cons)(hw:weight (domsM m)≤1000000)(left:Int)(hleft:left≤1099511627776)(hck:Spec Tryz.prog 64 false [.agg (cM m)] [.val (.int .i64 0)]):
  Spec Tryz.prog 13 false [.agg (cM m),.int .i64 left] [.own 24 1 ((srchA m left).st.map cL),.val (.bool (!(srchA m left).short)),.val (.int .i64 (srchA m left).nodes),.val (.int .i64 0)]:=by
 refine Spec.body Tryz.func13 rfl rfl rfl fun w0 Z0=> ?_
 have hdl:(domsM m).length≤1024:=by have:=hm.vl;simpa[domsM]using this
 refine .B ?_
 refine J.cx [] [] [1000,1001,1002,1006,1007] (mI m hm hr.gd.few left hck) trivial (fun ns hns=> ?_)
 obtain⟨p,sp,lv,cv,mv,rfl⟩:=Cv hns rfl
 refine .M ?_
 refine T.cf rfl ?_
 refine T.canon (keep:=[8,1000,1001,1002,1006,1007]) (os:=[1000,1001,1002,1006,1007]) rfl ?_
 refine T.knownp 1000 0 rfl rfl fun kb e1=> ?_
 refine T.knownp 1001 1 rfl rfl fun sb e2=> ?_
 obtain rfl:p=pV kb:=e1
 obtain rfl:sp=pV sb:=e2
 refine .M ?_
 refine J.alr rfl rfl rfl rfl rfl rfl rfl ?_
 refine J.name 1003 (s:=10) rfl rfl rfl fun op=> ?_
 refine J.sub (Rel.raw (s:=10) (g:=1003) rfl (.inl rfl) rfl rfl rfl) ?_
 refine J.sub (Rel.derawp (s:=8) (g:=1000) rfl rfl rfl) ?_
 refine .M ?_
 refine .W ?_
 refine .M ?_
 refine J.sub (Rel.ownN 1004 3 1) ?_
 refine J.sub (Rel.ownN 1005 3 1) ?_
 refine J.sub (Rel.ownN 1008 24 1) ?_
 refine J.sub (Rel.ownN 1009 3 1) ?_
 refine J.sub (Rel.canon (keep:=[8,10,24,1000,1001,1002,1003,1004,1005,1006,1007,1008,1009]) (os:=[1000,1001,1002,1003,1004,1005,1006,1007,1008,1009]) rfl) (?_:J _ _ _ _ (nE (AG m.cons op) kb sb m left [(8,.optr 0 0 0 0),(10,.val true (.raw op)),(24,.optr 0 0 0 0)] lv cv mv (.slice none 0 0) (.slice none 0 0) (domsM m) [] [] ⟨0,false,false,[]⟩) _)
 have hlk: ∃e ch',uV (AG m.cons op) kb sb m left 37 [(true,.raw (pV kb))] lv cv mv (.slice none 0 0) (.slice none 0 0) (domsM m) e [] ch' [] ⟨0,false,false,[]⟩ (srchA m left):=⟨_,_,qq (AG m.cons op) kb sb m left (domsM m) (fun _=>True) (tR hr) (Bu kb sb m left (domsM m) op) (fun t a=>Nat.le_of_eq (CW)) hleft hdl (weight (domsM m)+1) (domsM m) ⟨0,false,false,[]⟩ lv cv mv (.slice none 0 0) (.slice none 0 0) [] [] (Di _) hr.gd leD.rfl' trivial (DC _) rfl (by simp;omega) (by simp;omega)⟩
 obtain⟨e,ch',hlk⟩:=hlk
 generalize srchA m left=r at*
 refine J.cx [0,1,2,3,4,5,6,7,8,9] [1000,1001,1002,1003,1004,1005,1006,1007,1008,1009] [1006,1007,1008,1009] hlk ⟨rfl,⟨_,rfl,rfl,rfl⟩,rfl,⟨_,rfl,rfl,rfl⟩,rfl,⟨_,rfl,rfl,rfl⟩,rfl,⟨_,rfl,rfl,rfl⟩,rfl,⟨_,rfl,rfl,rfl⟩,rfl,⟨_,rfl,rfl,rfl⟩,rfl,⟨_,rfl,rfl,rfl⟩,rfl,⟨_,rfl,rfl,rfl⟩,rfl,⟨_,rfl,rfl,rfl⟩,rfl,⟨_,rfl,rfl,rfl⟩,trivial⟩ (fun ns hns=> ?_)
 obtain⟨a1,a2,a3,a4,rfl⟩:=Ah hns rfl
 refine .M ?_
 refine T.K (?_:T _ _ (nE (AG m.cons op) kb sb m left [(8,.optr 0 0 0 0),(10,.val true (.raw op))] lv a1 a2 a3 a4 e ch' [] r) _)
 refine T.sub (Rel.derawp (s:=10) (g:=1003) rfl rfl rfl) ?_
 refine .A ?_
 conv=>whnf
 iterate 14 refine J.H rfl ?_
 refine J.nil ?_
 refine T.sub (Rel.deraw (s:=4) (g:=1008) rfl rfl) ?_
 refine .B ?_
 exact⟨_,.o rfl rfl rfl (fun _=> .inl rfl) (by simp) (.v rfl rfl rfl (fun _=>rfl) (.v rfl rfl rfl (fun _=>rfl) (.v rfl rfl rfl (fun _=>rfl) .nil)))⟩
def lE (a b:Int):Int×Bool:=if smallI a&&smallI b&&smallI (a+b)then(a+b,true)else(0,false)
theorem aQ {n:Int}:smallI n=true↔-4611686018427387904≤n∧n≤4611686018427387904:=by simp[smallI]
theorem we (n:Int):Spec Tryz.prog 155 false [.int .i64 n] [.val (.int .i64 (if smallI n then n else 0)),.val (.bool (smallI n))]:=by
 refine Spec.body Tryz.func155 rfl rfl rfl fun w0 Z0=> ?_
 refine T.sub (Rel.fine (s:=0) rfl rfl) ?_
 have hs:=f4 [n] (by simp)
 rw[show [n].all smallI=smallI n by simp]at hs
 refine .B ?_
 refine .V ?_
 refine .B ?_
 refine .C hs ?_
 refine .B ?_
 cases smallI n with
 |false=>
  refine T.ct rfl ?_
  refine .B ?_
  exact r2
 |true=>
  refine T.cf rfl ?_
  refine .B ?_
  exact r2
theorem jp (a b:Int):Spec Tryz.prog 121 false [.int .i64 a,.int .i64 b] [.val (.int .i64 (lE a b).1),.val (.bool (lE a b).2)]:=by
 refine Spec.body Tryz.func121 rfl rfl rfl fun w0 Z0=> ?_
 have hs:=f4 [a,b] (by simp)
 rw[show [a,b].all smallI=(smallI a&&smallI b)by simp]at hs
 have hno: ∀h:(smallI a&&smallI b&&smallI (a+b))=false,lE a b=(0,false):=fun h=>by unfold lE;rw[h];rfl
 generalize hR:lE a b=R
 refine .B ?_
 refine .V ?_
 refine .B ?_
 refine .C hs ?_
 refine .B ?_
 cases h0:smallI a&&smallI b with
 |false=>
  have:R=(0,false):=by rw[←hR];exact hno (by rw[h0];rfl)
  subst this
  refine .B ?_
  refine T.ct rfl ?_
  refine .B ?_
  exact r2
 |true=>
  obtain⟨ha,hb⟩:=Bool.and_eq_true_iff.1 h0
  have ha:=aQ.1 ha
  have hb:=aQ.1 hb
  have hw: ¬(0<a∧4611686018427387904-a<b)→¬(a<0∧b< -4611686018427387904-a)→IntKind.i64.wrap (a+b)=a+b:=fun h1 h2=>ae (by omega) (by omega)
  have ht:=we (a+b)
  have e1:0<a→IntKind.i64.wrap (4611686018427387904-a)=4611686018427387904-a:=fun h=>ae (by omega) (by omega)
  have e2:a<0→IntKind.i64.wrap (-4611686018427387904-a)= -4611686018427387904-a:=fun h=>ae (by omega) (by omega)
  have stop: ¬smallI (a+b)=true→R=(0,false):=fun h=>by rw[←hR];exact hno (by rw[h0,Da];simpa using h)
  have fin:R=(if smallI (a+b)then a+b else 0,smallI (a+b)):=by
   rw[←hR];unfold lE;rw[h0,Da]
   cases smallI (a+b)<;>rfl
  refine .B ?_
  refine J.g rfl rfl rfl (fun h1=> ?_) (fun h1=> ?_)
  ·have h1:0<a:=h1
   refine .B ?_
   rw[e1 h1]
   refine J.g rfl rfl rfl (fun h2=> ?_) (fun h2=> ?_)
   ·have h2:4611686018427387904-a<b:=h2
    have:=stop fun h=>by have:=aQ.1 h;omega
    subst this
    refine .B ?_
    refine T.ct rfl ?_
    refine .B ?_
    exact r2
   ·refine .B ?_
    refine J.g rfl rfl rfl (fun h3=> ?_) (fun h3=> ?_)
    ·have h3:a<0:=h3
     omega
    ·have h2: ¬4611686018427387904-a<b:=h2
     refine .B ?_
     refine T.cf rfl ?_
     refine .B ?_
     rw[hw (by omega) (by omega)]
     refine .C ht ?_
     refine .B ?_
     subst fin
     exact r2
  ·have h1: ¬0<a:=h1
   refine .B ?_
   refine J.g rfl rfl rfl (fun h3=> ?_) (fun h3=> ?_)
   ·refine .B ?_
    rw[e2 h3]
    refine T.cd rfl (fun h4=> ?_) (fun h4=> ?_)
    ·have h4:b< -4611686018427387904-a:=h4
     have:=stop fun h=>by have:=aQ.1 h;omega
     subst this
     refine .B ?_
     exact r2
    ·have h4: ¬b< -4611686018427387904-a:=h4
     refine .B ?_
     rw[hw (by omega) (by omega)]
     refine .C ht ?_
     refine .B ?_
     subst fin
     exact r2
   ·have h3: ¬a<0:=h3
    refine .B ?_
    refine T.cf rfl ?_
    refine .B ?_
    rw[hw (by omega) (by omega)]
    refine .C ht ?_
    refine .B ?_
    subst fin
    exact r2
def zm (a b:Int):Int×Bool:=if smallI a&&smallI b then lE a (-b)else(0,false)
theorem yE (a b:Int):Spec Tryz.prog 224 false [.int .i64 a,.int .i64 b] [.val (.int .i64 (zm a b).1),.val (.bool (zm a b).2)]:=by
 refine Spec.body Tryz.func224 rfl rfl rfl fun w0 Z0=> ?_
 have hs:=f4 [a,b] (by simp)
 rw[show [a,b].all smallI=(smallI a&&smallI b)by simp]at hs
 have hadd:=jp a (-b)
 unfold zm
 refine .B ?_
 refine .V ?_
 refine .B ?_
 refine .C hs ?_
 refine .B ?_
 cases h0:smallI a&&smallI b with
 |false=>
  refine T.ct rfl ?_
  refine .B ?_
  exact r2
 |true=>
  obtain⟨ha,hb⟩:=Bool.and_eq_true_iff.1 h0
  have hb:=aQ.1 hb
  rw[if_pos rfl]
  refine T.cf rfl ?_
  refine .B ?_
  rw[show(0:Int)-b= -b by omega,show IntKind.i64.wrap (-b)= -b from ae (by omega) (by omega)]
  refine .C hadd ?_
  refine .B ?_
  exact r2
theorem oB (n:Int):Spec Tryz.prog 181 false [.int .i64 n] [.val (.int .i64 (if smallI n then aG n else 0)),.val (.bool (smallI n))]:=by
 refine Spec.body Tryz.func181 rfl rfl rfl fun w0 Z0=> ?_
 have h0:smallI 0=true:=rfl
 have key: ∀x:Int,aG n=x→(smallI x=smallI n)→(if smallI n then aG n else 0,smallI n)=lE 0 x:=fun x e e2=>by
  unfold lE
  rw[h0,Da,FJ,Bool.and_self,e2,e]
  cases smallI n<;>rfl
 have hsa:=jp 0 n
 have hss:=yE 0 n
 refine .B ?_
 refine T.cd rfl (fun h1=> ?_) (fun h1=> ?_)
 ·have h1:n<0:=h1
  have e:zm 0 n=(if smallI n then aG n else 0,smallI n):=by
   have hsn:smallI (-n)=smallI n:=by rw[EQ,aQ,aQ];omega
   unfold zm
   rw[h0,Da,←key (-n) (by unfold aG;omega) hsn]
   cases smallI n<;>rfl
  rw[e]at hss
  refine .B ?_
  refine .C hss ?_
  refine .B ?_
  exact r2
 ·have h1: ¬n<0:=h1
  rw[←key n (by unfold aG;omega) rfl]at hsa
  refine .B ?_
  refine .C hsa ?_
  refine .B ?_
  exact r2
theorem yu (l:List Int)(rhs:Int)(hl:l.length*8≤140737488355328)(hw: ∀c∈l,-9223372036854775808≤c∧c≤9223372036854775807):Spec Tryz.prog 131 false [av l,.int .i64 rhs] [.val (.bool (ee l rhs))]:=by
 refine Spec.body Tryz.func131 rfl rfl rfl fun w0 Z0=> ?_
 have hs:=oB rhs
 have h0:(if smallI rhs then aG rhs else 0)=if smallI rhs then aG rhs else 0:=rfl
 have hin:smallI rhs=true→0≤aG rhs∧aG rhs≤4611686018427387904∧eB (4611686018427387904-aG rhs) l=ee l rhs:=fun h=>by
  have h:=aQ.1 h
  refine⟨bE rhs,by unfold aG;omega,?_⟩
  unfold ee
  rw[if_neg (by omega)];rfl
 have hno:smallI rhs=false→ee l rhs=true:=fun h=>by
  have h: ¬smallI rhs=true:=by rw[h];simp
  rw[aQ]at h
  unfold ee
  rw[if_pos (by omega)]
 generalize hR:ee l rhs=R at*
 have hin2:smallI rhs=true→(if smallI rhs then aG rhs else 0)=aG rhs:=fun h=>by rw[h];rfl
 generalize (if smallI rhs then aG rhs else 0)=s0 at*
 have hinv:(smallI rhs=true→0≤s0∧s0≤4611686018427387904∧eB (4611686018427387904-s0) l=R):=fun h=>by rw[hin2 h];exact hin h
 generalize smallI rhs=ok0 at*
 clear hin hin2
 refine .B ?_
 refine .C hs ?_
 refine .B ?_
 refine T.K (T.ind (fun s:Nat×Int×Bool=>⟨[(5,.val true (.int .i64 s.2.1)),(6,.val true (.bool s.2.2)),(16,.val false (av l)),(17,.val true (.int .i64 (l.map cI).length)),(18,.val true (.int .i64 s.1))],[],0⟩)
  (fun s=>s.1≤l.length∧(s.2.2=true→0≤s.2.1∧s.2.1≤4611686018427387904∧eB (4611686018427387904-s.2.1) (l.drop s.1)=R)∧(s.2.2=false→R=true)) (fun s=>l.length-s.1) (0,s0,ok0) ⟨DC _,hinv,hno⟩ (fun _ _ h=>h) ?_)
 rintro⟨i,sum,ok⟩ ⟨hi,hv,hn⟩ ih
 refine .B ?_
 refine T.cd rfl (fun h1=> ?_) (fun h1=> ?_)
 ·have h6:i<l.length:=by simpa using h1
  have hcw:=hw _ (C5 h6)
  have hms:=oB l[i]
  have hdr:eB (4611686018427387904-sum) (l.drop i)=if 4398046511104<l[i]∨l[i]< -4398046511104 then true else if 4611686018427387904-sum-max l[i] (-l[i])*1048576<0 then true else eB (4611686018427387904-sum-max l[i] (-l[i])*1048576) (l.drop (i+1)):=by
   rw[CU h6,eB]
  have hrow:=aO (enc:=cI) h6
  generalize l[i]=c at*
  refine .B ?_
  refine .I (r:=cI c) hrow ?_
  refine .B ?_
  refine .C hms ?_
  refine .B ?_
  cases hsc:smallI c with
  |false=>
   have hsc: ¬smallI c=true:=by rw[hsc];simp
   rw[aQ]at hsc
   have:R=true:=by
    cases ok with
    |false=>exact hn rfl
    |true=>
     obtain⟨_,_,e⟩:=hv rfl
     rw[←e,hdr,if_pos (by omega)]
   subst this
   refine T.cf rfl ?_
   refine .B ?_
   refine T.ct rfl ?_
   refine .B ?_
   exact r1
  |true=>
   have hsc':=aQ.1 hsc
   have hac:0≤aG c∧aG c≤4611686018427387904:=⟨bE c,by unfold aG;omega⟩
   have hmx:max c (-c)=aG c:=rfl
   have hmul:=mi (aG c) 1048576 (by omega) (by omega) (by omega) (by omega)
   refine T.ct rfl ?_
   refine .B ?_
   rw[if_pos rfl]
   refine .C hmul ?_
   refine .B ?_
   cases hm:smallI (aG c*1048576)with
   |false=>
    have e0:mulI (aG c) 1048576=(0,false):=by unfold mulI;rw[hm,FG];rfl
    have hm: ¬smallI (aG c*1048576)=true:=by rw[hm];simp
    rw[aQ]at hm
    have:R=true:=by
     cases ok with
     |false=>exact hn rfl
     |true=>
      obtain⟨_,_,e⟩:=hv rfl
      rw[←e,hdr,if_pos (by unfold aG at hm;omega)]
    subst this
    rw[e0]
    refine .B ?_
    refine T.ct rfl ?_
    refine .B ?_
    exact r1
   |true=>
    have hm:=aQ.1 hm
    have e0:mulI (aG c) 1048576=(aG c*1048576,true):=by
     unfold mulI
     rw[aQ.2 ⟨by omega,by omega⟩,show smallI (aG c*1048576)=true from aQ.2 hm];rfl
    rw[e0]
    cases ok with
    |false=>
     obtain rfl:=hn rfl
     refine .B ?_
     refine T.ct rfl ?_
     refine .B ?_
     exact r1
    |true=>
     obtain⟨v1,v2,e⟩:=hv rfl
     simp only at v1 v2 e
     have hadd:=jp sum (aG c*1048576)
     rw[hdr,if_neg (by unfold aG at hm;omega),hmx]at e
     refine .B ?_
     refine T.cf rfl ?_
     refine .B ?_
     refine .C hadd ?_
     refine .B ?_
     rw[ak (l:=l.length) h6 (by omega)]
     refine T.K (ih (i+1,lE sum (aG c*1048576)) ⟨by omega,fun h=> ?_,fun h=> ?_⟩ (by simp only;omega))
     ·unfold lE at h⊢
      split at h
      ·rename_i h5
       rw[if_pos h5]
       have h5:=aQ.1 (Bool.and_eq_true_iff.1 h5).2
       rw[if_neg (by omega)]at e
       exact⟨by simp only;omega,by simp only;omega,by rw[←e];congr 1;simp only;omega⟩
      ·cases h
     ·unfold lE at h
      split at h
      ·cases h
      ·rename_i h5
       have h5: ¬smallI (sum+aG c*1048576)=true:=fun h=>h5 (by rw[aQ.2 ⟨by omega,by omega⟩,aQ.2 hm,h];rfl)
       rw[aQ]at h5
       rw[←e,if_pos (by omega)]
 ·have h7:i=l.length:=by simp at h1;omega
  refine .B ?_
  cases ok with
  |false=>
   obtain rfl:=hn rfl
   exact r1
  |true=>
   obtain⟨_,_,e⟩:=hv rfl
   rw[h7,De]at e
   exact⟨_,.v rfl rfl (by rw[←e];rfl) (fun _=>rfl) .nil⟩
theorem z8 (a:List Int)(v:Int)(hl:a.length*8≤140737488355328):Spec Tryz.prog 91 false [av a,.int .i64 v] [.val (.int .i64 (atR a v))]:=by
 refine Spec.body Tryz.func91 rfl rfl rfl fun w0 Z0=> ?_
 unfold atR
 refine .B ?_
 refine J.g rfl rfl rfl (fun h=> ?_) (fun h=> ?_)
 ·refine .B ?_
  refine T.ct rfl ?_
  refine .B ?_
  exact⟨_,.v rfl rfl (by rw[if_pos h]) (fun _=>rfl) .nil⟩
 ·refine .B ?_
  refine T.cd rfl (fun h2=> ?_) (fun h2=> ?_)
  ·refine .B ?_
   refine⟨_,.v rfl rfl ?_ (fun _=>rfl) .nil⟩
   rw[if_neg h,C0,DM (by simp at h2;omega)];rfl
  ·have h2:v.toNat<a.length:=by simp at h2;omega
   refine .B ?_
   refine J.i rfl rfl rfl rfl rfl rfl rfl rfl rfl (r:=cI a[v.toNat]) (by omega) (aO h2) rfl ?_
   refine .B ?_
   refine⟨_,.v rfl rfl ?_ (fun _=>rfl) .nil⟩
   rw[if_neg h,C0,C1 h2];rfl
theorem rF (a vars:List Int)(hv:vars.length≤1048576)(hl:a.length*8≤140737488355328):Spec Tryz.prog 81 false [av a,av vars] [.own 3 1 ((pickedR vars a).map cI)]:=by
 refine Spec.body Tryz.func81 rfl rfl rfl fun w0 Z0=> ?_
 refine .B ?_
 refine J.mk0 vars.length (by simp) (show 8*vars.length≤_ by omega) (by omega) rfl rfl rfl rfl rfl rfl rfl rfl rfl rfl rfl ?_
 refine .B ?_
 refine T.K (T.ind (fun i:Nat=>⟨[(0,.val false (av a)),(5,.ref 0),(11,.val false (av vars)),(12,.val true (.int .i64 (vars.map cI).length)),(13,.val true (.int .i64 i))],[(0,some (.sl 3 1 true ((pickedR (vars.take i) a).map cI)))],1⟩) (fun i=>i≤vars.length) (fun i=>vars.length-i) 0 (by simp) (fun _ _ h=>h) ?_)
 rintro i hi ih
 refine .B ?_
 refine T.cd rfl (fun h1=> ?_) (fun h1=> ?_)
 ·have h1:i<vars.length:=by simpa using h1
  refine .B ?_
  refine .I (r:=cI vars[i]) (aO h1) ?_
  refine .B ?_
  refine .C (z8 a vars[i] hl) ?_
  refine .B ?_
  refine .V ?_
  refine J.aI rfl rfl rfl rfl rfl rfl rfl rfl rfl rfl rfl rfl rfl rfl rfl rfl rfl rfl rfl (by simp[pickedR];omega) ?_
  refine .B ?_
  rw[ak (l:=vars.length) (by omega) (by omega)]
  have e:pickedR (vars.take i) a++[atR a vars[i]]=pickedR (vars.take (i+1)) a:=by
   rw[C7 h1]
   unfold pickedR
   rw[DF]
   rfl
  rw[e]
  exact T.K (ih (i+1) (by omega) (by omega))
 ·have h1:i=vars.length:=by simp at h1;omega
  subst h1
  refine .B ?_
  refine⟨_,.o rfl rfl (by rw[DE]) (fun _=> .inl rfl) (by simp) .nil⟩
def dotS (a b:List Int):Int:=((a.zip b).map fun p=>p.1*p.2).sum
theorem pa: ∀(a b:List Int),(∀k∈a,CoefOk k)→(∀x∈b,-1048576≤x∧x≤1048576)→-aj a≤dotS a b∧dotS a b≤aj a
 |k::a,x::b,ha,hb=>by
  have ih:=pa a b (fun k h=>ha k (.tail _ h)) (fun x h=>hb x (.tail _ h))
  have hx:=hb x (.head _)
  have hm:=dX k x hx.1 hx.2
  have e1:aj (k::a)=aG k*1048576+aj a:=by simp[aj]
  have e2:dotS (k::a) (x::b)=k*x+dotS a b:=by simp[dotS]
  rw[e1,e2]
  generalize k*x=y at*
  omega
 | [],b,_,_=>by simp[dotS,aj]
 |k::a,[],ha,_=>by
  have:=aU (k::a)
  simp[dotS];omega
theorem Ax (a b:List Int)(k x:Int)(h:a.length=b.length):dotS (a++[k]) (b++[x])=dotS a b+k*x:=by
 unfold dotS
 rw[List.zip_append h]
 simp
theorem gP: ∀(a:List Int) (i:Nat),aj (a.take i)≤aj a
 | [],i=>by simp
 |k::a,0=>by rw[List.take_zero];exact aU _
 |k::a,i+1=>by
  have:=gP a i
  have e: ∀l,aj (k::l)=aG k*1048576+aj l:=fun l=>by simp[aj]
  rw[Fj,e,e]
  omega
theorem yG (a b:List Int)(hl:a.length=b.length)(hal:a.length*8≤140737488355328)(ha: ∀k∈a,CoefOk k)(hb: ∀x∈b,-1048576≤x∧x≤1048576)(hw:aj a≤4611686018427387904):Spec Tryz.prog 80 false [av a,av b] [.val (.int .i64 (dotS a b)),.val (.bool true)]:=by
 refine Spec.body Tryz.func80 rfl rfl rfl fun w0 Z0=> ?_
 refine .B ?_
 refine T.cf2 rfl (by simp[hl]) ?_
 refine .B ?_
 refine T.K (T.ind (fun i:Nat=>⟨[(1,.val false (av b)),(6,.val true (.int .i64 (dotS (a.take i) (b.take i)))),(7,.val true (.bool true)),(17,.val false (av a)),(18,.val true (.int .i64 (a.map cI).length)),(19,.val true (.int .i64 i))],[],0⟩) (fun i=>i≤a.length) (fun i=>a.length-i) 0 (by simp) (fun _ _ h=>h) ?_)
 rintro i hi ih
 refine .B ?_
 refine T.cd rfl (fun h1=> ?_) (fun h1=> ?_)
 ·have h1:i<a.length:=by simpa using h1
  have h2:i<b.length:=by omega
  refine .B ?_
  refine .I (r:=cI a[i]) (aO h1) ?_
  refine .B ?_
  refine .I (r:=cI b[i]) (aO h2) ?_
  refine .B ?_
  have hx:=hb b[i] (C5 h2)
  have hk:=ha a[i] (C5 h1)
  have hki:=fQ hk
  have hk2:=hk.2
  have hmul:=mi a[i] b[i] (by omega) (by omega) (by omega) (by omega)
  rw[kU hk hx.1 hx.2]at hmul
  have e1:dotS (a.take (i+1)) (b.take (i+1))=dotS (a.take i) (b.take i)+a[i]*b[i]:=by
   rw[C7 h1,C7 h2,Ax _ _ _ _ (by rw[D8,D8];omega)]
  have hlo:=pa (a.take i) (b.take i) (fun k h=>ha k (Dh h)) (fun x h=>hb x (Dh h))
  have hlo2:=pa (a.take (i+1)) (b.take (i+1)) (fun k h=>ha k (Dh h)) (fun x h=>hb x (Dh h))
  have hw1:=gP a i
  have hw2:=gP a (i+1)
  have hm:=dX a[i] b[i] hx.1 hx.2
  have hkk:=fQ hk
  have hadd:=jp (dotS (a.take i) (b.take i)) (a[i]*b[i])
  have e2:lE (dotS (a.take i) (b.take i)) (a[i]*b[i])=(dotS (a.take (i+1)) (b.take (i+1)),true):=by
   unfold lE
   rw[←e1,if_pos]
   rw[CR,CR,aQ,aQ,aQ]
   generalize a[i]*b[i]=y at*
   omega
  rw[e2]at hadd
  have ih1:=ih (i+1) (by omega) (by omega)
  generalize dotS (a.take (i+1)) (b.take (i+1))=y1 at*
  refine .C hmul ?_
  refine .B ?_
  refine T.cf rfl ?_
  refine .B ?_
  refine .C hadd ?_
  refine .B ?_
  refine T.cf rfl ?_
  refine .B ?_
  rw[ak (l:=a.length) (by omega) (by omega)]
  exact T.K ih1
 ·have h1:i=a.length:=by simp at h1;omega
  subst h1
  refine .B ?_
  refine⟨_,.v rfl rfl (by rw[DE,hl,DE]) (fun _=>rfl) (.v rfl rfl rfl (fun _=>rfl) .nil)⟩
def eE (g:Goal)(a:List Int):Int:=if g.kind=0 then 0 else cK g.vars g.coefs a
theorem jx: ∀(vars coefs a:List Int),dotS coefs (pickedR vars a)=cK vars coefs a
 |v::vars,k::coefs,a=>by
  have:=jx vars coefs a
  unfold dotS cK pickedR at*
  simp only[CY,EB,Dg,this]
 | [],coefs,a=>by simp[dotS,cK,pickedR]
 |_::_,[],a=>by simp[dotS,cK,pickedR]
structure GoalOk (g:Goal):Prop where
 len:g.vars.length=g.coefs.length
 few:g.vars.length≤1024
 ck: ∀k∈g.coefs,CoefOk k
 weight:aj g.coefs≤4611686018427387904
theorem tC (g:Goal)(a:List Int)(hg:g.kind≠0→GoalOk g)(hal:a.length*8≤140737488355328)(ha: ∀x∈a,-1048576≤x∧x≤1048576):Spec Tryz.prog 45 false [.agg (cG g),av a] [.val (.int .i64 (eE g a))]:=by
 refine Spec.body Tryz.func45 rfl rfl rfl fun w0 Z0=> ?_
 unfold eE
 refine .B ?_
 refine T.cd rfl (fun h1=> ?_) (fun h1=> ?_)
 ·rw[if_pos h1]
  refine .B ?_
  exact r1
 ·rw[if_neg h1]
  obtain⟨h2,h3,h4,h5⟩:=hg h1
  have hat: ∀v,-1048576≤atR a v∧atR a v≤1048576:=fun v=>by
   unfold atR
   split
   ·omega
   ·rw[C0]
    cases h:a[v.toNat]? with
    |none=>simp
    |some x=>exact ha x (C4 h)
  have hd:=yG g.coefs (pickedR g.vars a) (by simp[pickedR,h2]) (by omega) h4 (fun x hx=>by obtain⟨v,_,rfl⟩:=List.mem_map.1 hx;exact hat v) h5
  rw[jx]at hd
  refine .B ?_
  refine .C (rF a g.vars (by omega) hal).frz ?_
  refine .B ?_
  refine .C hd ?_
  refine .B ?_
  exact r1
def ku (g:Goal)(v:Int):Con:=⟨0,g.vars,if g.kind=2 then g.coefs.map (- ·)else g.coefs,0,if g.kind=2 then -v-1 else v-1,[],0⟩
theorem uR (g:Goal)(v:Int)(hg:GoalOk g)(hv: -4611686018427387904≤v∧v≤4611686018427387904):Spec Tryz.prog 44 false [.agg (cG g),.int .i64 v] [.val (.agg (cC (ku g v)))]:=by
 refine Spec.body Tryz.func44 rfl rfl rfl fun w0 Z0=> ?_
 obtain⟨h1,h2,h3,h4⟩:=hg
 have hc1:=(dR g.vars (by omega)).frz
 have hc2:=dR g.coefs (by omega)
 refine .B ?_
 refine .L ?_
 refine .M ?_
 refine T.rdm 10 rfl (by kernel_rfl) rfl ?_
 refine .M ?_
 refine .C hc1 ?_
 refine .M ?_
 refine .C hc2 ?_
 refine .M ?_
 refine J.br rfl rfl rfl rfl rfl ?_
 refine .M ?_
 refine .L ?_
 refine J.nil ?_
 refine J.name 1000 (s:=12) rfl rfl rfl fun u=> ?_
 refine J.sub (Rel.agraw (s:=15) [(2,1000)] rfl rfl) ?_
 refine .W ?_
 refine .B ?_
 refine T.cd rfl (fun hk=> ?_) (fun hk=> ?_)
 ·have e0:ku g v=⟨0,g.vars,g.coefs.map (- ·),0,-v-1,[],0⟩:=by unfold ku;rw[if_pos hk,if_pos hk]
  rw[e0]
  refine .B ?_
  refine J.sub (Rel.deraw (s:=20) (g:=1000) rfl rfl) ?_
  refine .B ?_
  refine T.K (T.ind (fun i:Nat=>⟨[(1,.val false (.int .i64 v)),(4,.optr 0 0 0 0),(5,.optr 1 0 0 0),(21,.val true (.int .i64 (g.coefs.map cI).length)),(22,.val true (.int .i64 i)),(1000,.eq u 2)],[(0,some (.box true [.int .i64 0,.sl [],.sl [],.int .i64 0,.int .i64 0,.sl [],.int .i64 0])),(1,some (.box true [.int .i64 0,av g.vars,.raw u,.int .i64 0,.int .i64 (IntKind.i64.wrap (v-1)),.sl [],.int .i64 0])),(2,some (.sl 3 1 true ((((g.coefs.take i).map (- ·))++g.coefs.drop i).map cI)))],3⟩) (fun i=>i≤g.coefs.length) (fun i=>g.coefs.length-i) 0 (by simp) (fun _ _ h=>h) ?_)
  rintro i hi ih
  refine .B ?_
  refine T.cd rfl (fun h5=> ?_) (fun h5=> ?_)
  ·have h5:i<g.coefs.length:=by simpa using h5
   have hml:((g.coefs.take i).map (- ·)).length=i:=by simp;omega
   have hL:(((g.coefs.take i).map (- ·))++g.coefs.drop i).length=g.coefs.length:=by rw[CW,hml,FH];omega
   have hrow:((((g.coefs.take i).map (- ·))++g.coefs.drop i).map cI)[(i:Int).toNat]? =some (cI g.coefs[i]):=by
    rw[D1,C8,D9 (by omega),hml,FI,Eh,E9,C1 h5];rfl
   have hset:(((g.coefs.take i).map (- ·))++g.coefs.drop i).set i (- g.coefs[i])=((g.coefs.take (i+1)).map (- ·))++g.coefs.drop (i+1):=by
    rw[F1 _ _ (by omega),hml,FI,CU h5,FO,C7 h5,DF,DD];rfl
   have hck:=fQ (h3 _ (C5 h5))
   refine .M ?_
   refine T.rdm 10 rfl (by kernel_rfl) rfl ?_
   iterate 1 refine J.H rfl ?_
   refine J.lr 1000 (q:=2) (u:=u) rfl rfl rfl rfl rfl rfl rfl rfl rfl ?_
   iterate 2 refine J.H rfl ?_
   refine J.lr 1000 (q:=2) (u:=u) rfl rfl rfl rfl rfl rfl rfl rfl rfl ?_
   refine .M ?_
   refine J.io rfl rfl rfl rfl rfl rfl rfl rfl rfl (by omega) (by rw[C6,hL];omega) rfl ?_
   refine J.lo rfl rfl rfl rfl rfl rfl (r:=cI g.coefs[i]) hrow rfl ?_
   refine .M ?_
   refine J.io rfl rfl rfl rfl rfl rfl rfl rfl rfl (by omega) (by rw[C6,hL];omega) rfl ?_
   refine J.nil ?_
   have ew:IntKind.i64.wrap (0-g.coefs[i])= -g.coefs[i]:=by rw[ae (by omega) (by omega)];omega
   rw[ew]
   refine J.w1 rfl rfl rfl rfl rfl rfl rfl rfl rfl rfl rfl (z:= -g.coefs[i]) (fun _=>rfl) (by rw[hL];omega) ?_
   rw[D1,hset]
   refine .M ?_
   rw[ak h5 (by omega)]
   exact T.K (ih (i+1) (by omega) (by omega))
  ·have h5:i=g.coefs.length:=by simp at h5;omega
   subst h5
   rw[DE,De,Dv]
   refine .B ?_
   refine .W ?_
   refine J.sub (Rel.cellF 1000 2 (q:=1) (n:=2) (fun b h=>h) rfl rfl rfl rfl rfl) ?_
   refine .B ?_
   refine .W ?_
   refine .B ?_
   exact⟨_,.cell rfl rfl (by rw[ae (n:=0-v) (by omega) (by omega),ae (n:=0-v-1) (by omega) (by omega),Int.zero_sub];rfl) (fun _=>rfl) .nil⟩
 ·have e0:ku g v=⟨0,g.vars,g.coefs,0,v-1,[],0⟩:=by unfold ku;rw[if_neg hk,if_neg hk]
  rw[e0]
  refine T.sub (Rel.cellF 1000 2 (q:=3) (n:=2) (fun b h=>h) rfl rfl rfl rfl rfl) ?_
  refine .B ?_
  refine .W ?_
  refine .B ?_
  exact⟨_,.cell rfl rfl (by rw[ae (by omega) (by omega)];rfl) (fun _=>rfl) .nil⟩
end Go.Proofs.YtopcjbahjjhdmaaGreat
