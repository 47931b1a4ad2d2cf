/- The texts FvT, FvU, FvV, FvW, FvH, FvX, FwA, FwC, FwD, FwE, FwF, FwG, PvI, PvJ, PwA, PwB, PwC, PwD, FwH, FwI, FwJ, FwK, FwL, FwB, FwM, FwN, FwO, PwE of the workplace, joined. -/
import Derived.Test.YtopcjbahjjhdmaaGreatB8
namespace Go.Proofs.YtopcjbahjjhdmaaGreat
open Go Go.RowKit
set_option linter.unusedVariables false
set_option linter.unusedSimpArgs false
set_option maxRecDepth 8000
def dI (g:Goal):Con:=⟨0,g.vars,g.coefs,0,0,[],0⟩
def dQ (d:aa)(g:Goal):Int:=if g.kind=1∨g.kind=2 then conR d (dI g)else if g.kind≠0∨0<g.vars.length∨0<g.coefs.length then 44 else 0
theorem y8 (d:aa)(g:Goal)(hg:g.vars.length<=1024/\g.coefs.length<=1024)(hl:d.length*8<=140737488355328)(hd: ∀x∈d,x.length*8<=140737488355328):Spec Tryz.prog 33 false [aJ d,.agg (cG g)] [.val (.int .i64 (dQ d g))]:=by
 refine Spec.body Tryz.func33 Y Y Y λw0 Z0=> ?_;have hcb:ConB (dI g):=⟨by simp[dI];omega,by simp[dI];omega,by simp[dI],by simp[dI]⟩;have hcon:=uZ d (dI g) hcb hl hd;generalize hR:dQ d g=R;unfold dQ at hR;generalize conR d (dI g)=cr at*;have yes:g.kind=1∨g.kind=2->cr=R:=λh=>(by rw[D4 h]at hR;exact hR);have no: ¬g.kind=1->¬g.kind=2->(if g.kind≠0∨0<g.vars.length∨0<g.coefs.length then(44:Int)else 0)=R:=λa b=>(by rw[D2 (λh=>h.elim a b)]at hR;exact hR);refine .B ?_;refine J.g Y Y Y (λh1=> ?_) (λh1=> ?_)
 ·rw[yes (.inl h1)]at hcon;refine .B ?_;refine T.ct Y ?_;refine .B ?_;refine .D hcon ?_;exact r1
 ·have h1: ¬g.kind=1:=h1;refine .B ?_;refine T.cd Y (λh2=> ?_) (λh2=> ?_)
  ·rw[yes (.inr h2)]at hcon;refine .B ?_;refine .D hcon ?_;exact r1
  ·have h2: ¬g.kind=2:=h2;have no:=no h1 h2;refine .B ?_;refine J.g Y Y Y (λh3=> ?_) (λh3=> ?_)
   ·rw[D4 (.inl h3)]at no;subst no;refine .B ?_;refine T.ct Y ?_;refine .B ?_;exact r1
   ·have h3: ¬g.kind≠0:=h3;refine .B ?_;refine J.g Y Y Y (λh4=> ?_) (λh4=> ?_)
    ·rw[D4 (.inr (.inl (by simpa using h4)))]at no;subst no;refine .B ?_;refine T.ct Y ?_;refine .B ?_;exact r1
    ·refine .B ?_;refine T.cd Y (λh6=> ?_) (λh6=> ?_)
     ·rw[D4 (.inr (.inr (by simpa using h6)))]at no;subst no;refine .B ?_;exact r1
     ·rw[D2 (by
       rintro(h|h|h);·exact h3 h
       ·exact h4 (by simpa using h)
       ·exact h6 (by simpa using h))]at no
      subst no;refine .B ?_;exact r1
def nmM (m:Mod)(i:Nat):ByteArray:=(m.vars.getD i (⟨#[]⟩,[])).1
def dmM (m:Mod)(i:Nat):List (Int×Int):=(m.vars.getD i (⟨#[]⟩,[])).2
def eH (m:Mod)(i:Nat):Bool:=(List.range i).any λk=>(nmM m k).toList==(nmM m i).toList
def varR (m:Mod)(i:Nat):Int:=if fQ (nmM m i)=false then 40 else if eH m i=true then 41 else if dmM m i=[]∨chkR (dmM m i)≠0 then 42 else 0
def firstE (l:List Int):Int:=(l.find? (· ≠0)).getD 0
def checkR (m:Mod):Int:=if 64<m.vars.length∨256<m.cons.length then 2 else
 if firstE ((List.range m.vars.length).map (varR m))≠0 then firstE ((List.range m.vars.length).map (varR m))else
 if firstE (m.cons.map (conR (domsM m)))≠0 then firstE (m.cons.map (conR (domsM m)))else dQ (domsM m) m.goal
theorem jF {l:List Int}{i:Nat}{e:Int}(h: ∀j,j<i->∀x,l[j]? =some x->x=0)(hi:l[i]? =some e)(he:e≠0):firstE l=e:=by
 have hlt:=(D5.1 hi).1;have:l.find? (· ≠0)=some e:=by
  rw[List.find?_eq_some_iff_getElem];refine⟨by simpa using he,i,hlt,(D5.1 hi).2,λj hj=> ?_⟩;have:=h j hj _ (D1 (by omega));simp[this]
 unfold firstE;rw[this];rfl
theorem fI {l:List Int}(h: ∀x∈l,x=0):firstE l=0:=by
 have:l.find? (· ≠0)=none:=by
  rw[FS];intro x hx;simp[h x hx]
 unfold firstE;rw[this];rfl
theorem jh {l:List Int}(h:firstE l=0): ∀x∈l,x=0:=by
 intro x hx;unfold firstE at h;cases hf:l.find? (· ≠0)with
 |none=>
  have:=FS.1 hf x hx;simpa using this
 |some e=>
  rw[hf]at h;have:=List.find?_some hf;simp at this;exact DU h this
theorem t6 (m:Mod)(hm:ModB m):Spec Tryz.prog 11 false [.agg (cM m)] [.val (.int .i64 (checkR m))]:=by
 refine Spec.body Tryz.func11 Y Y Y λw0 Z0=> ?_;have hds:=oB m hm;generalize hR:checkR m=R;obtain⟨b1,b2,b3,b4,b5⟩:=hm;have yes:64<m.vars.length∨256<m.cons.length->(2:Int)=R:=λh=>(by rw[<-hR];exact(D4 h).symm);refine .B ?_;refine J.g Y Y Y (λh1=> ?_) (λh1=> ?_)
 ·have e:=yes (.inl (by simp at h1;omega));subst e;refine .B ?_;refine T.ct Y ?_;refine .B ?_;exact r1
 ·refine .B ?_;refine T.cd Y (λh2=> ?_) (λh2=> ?_)
  ·have e:=yes (.inr (by simp at h2;omega));subst e;refine .B ?_;exact r1
  ·have hR:(if firstE ((List.range m.vars.length).map (varR m))≠0 then firstE ((List.range m.vars.length).map (varR m))else
     if firstE (m.cons.map (conR (domsM m)))≠0 then firstE (m.cons.map (conR (domsM m)))else dQ (domsM m) m.goal)=R:=by
    unfold checkR at hR;rw[D2 (by simp at h1 h2;omega)]at hR;exact hR
   have hvar: ∀i,i<m.vars.length->(∀j,j<i->varR m j=0)->varR m i≠0->R=varR m i:=λi hi hb he=>by
    have:firstE ((List.range m.vars.length).map (varR m))=varR m i:=jF (i:=i) (λj hj x hx=>by
     rw[DE,Ep (by omega)]at hx;rw[<-D3 hx];exact hb j hj) (by rw[DE,Ep hi];rfl) he
    rw[this,D4 he]at hR;exact hR.symm
   refine .B ?_;refine T.K (T.ind (λi:Nat=>⟨[(1,.optr 0 0 0 0),(3,.val true (.int .i64 i))],[(0,some (.box false (cM m)))],1⟩) (λi=>i<=m.vars.length/\∀j,j<i->varR m j=0) (λi=>m.vars.length-i) 0 ⟨Dz _,λj hj=>DU hj (EO j)⟩ (λ_ _ h=>h) ?_);rintro i ⟨hi,hb⟩ ih;refine .B ?_;refine T.cd Y (λh3=> ?_) (λh3=> ?_)
   ·have h3:i<m.vars.length:=(by simpa using h3);have hv:=hvar i h3 hb;have hvi:varR m i=if fQ (nmM m i)=false then 40 else if eH m i=true then 41 else if dmM m i=[]∨chkR (dmM m i)≠0 then 42 else 0:=rfl
    have hrowk: ∀k,k<m.vars.length->(m.vars.map cV)[((k:Nat):Int).toNat]? =some (cV (nmM m k,dmM m k)):=λk hk=>by
     rw[DW,DE,D1 hk];unfold nmM dmM;rw[D0,D1 hk];rfl
    have hrow:=hrowk i h3;have hbk: ∀k,k<m.vars.length->(nmM m k).size<=1024/\(dmM m k).length<=1024:=λk hk=>by
     unfold nmM dmM;rw[D0,D1 hk];exact b2 _ (D8 hk)
    have hns:=yM (nmM m i) (by have:=hbk i h3;omega);refine .B ?_;refine .F (r:=cV (nmM m i,dmM m i)) hrow ?_;refine .D hns ?_;cases hn:fQ (nmM m i)
    ·have:R=40:=(by rw[hv (by rw[hvi,D4 hn];decide),hvi,D4 hn]);subst this;refine T.ct Y ?_;refine .B ?_;exact r1
    ·rw[D2 (by rw[hn];simp)]at hvi;refine T.cf Y ?_;refine .B ?_;refine T.K (T.ind (λk:Nat=>⟨[(1,.optr 0 0 0 0),(3,.val true (.int .i64 i)),(4,.val true (.int .i64 k))],[(0,some (.box false (cM m)))],1⟩) (λk=>k<=i/\∀j,j<k->((nmM m j).toList==(nmM m i).toList)=false) (λk=>i-k) 0 ⟨Dz _,λj hj=>DU hj (EO j)⟩ (λ_ _ h=>h) ?_);rintro k ⟨hk,hbn⟩ ih2;refine .B ?_;refine T.cd Y (λh4=> ?_) (λh4=> ?_)
     ·have h4:k<i:=(by omega);have hrk:=hrowk k (by omega);have htw:((nmM m k).toList==(nmM m i).toList)=true->eH m i=true:=λh=>EZ.2 ⟨k,DM.2 h4,h⟩;have ih3:=λh:((nmM m k).toList==(nmM m i).toList)=false=>ih2 (k+1) ⟨by omega,λj hj=>by
       by_cases e:j=k;·rw[e];exact h
       ·exact hbn j (by omega)⟩ (by omega)
      refine .B ?_;refine .F (r:=cV (nmM m k,dmM m k)) hrk ?_;refine .F (r:=cV (nmM m i,dmM m i)) hrow ?_;cases he:((nmM m k).toList==(nmM m i).toList)
      ·refine T.cf Y ?_;refine .B ?_;rw[ak (l:=m.vars.length) (n:=k) (by omega) (by omega)];exact T.K (ih3 he)
      ·have ht:=htw he;have:R=41:=(by rw[hv (by rw[hvi,D4 ht];decide),hvi,D4 ht]);subst this;refine T.ct Y ?_;refine .B ?_;exact r1
     ·have h4:k=i:=(by omega);subst h4;have htf:eH m k=false:=by
       unfold eH;rw[Fq];intro j hj;rw[hbn j (DM.1 hj)];simp
      rw[D2 (by rw[htf];simp)]at hvi;have hck:=tE (dmM m k) (by have:=hbk k h3;omega);have stop:dmM m k=[]∨chkR (dmM m k)≠0->R=42:=λh=>(by rw[hv (by rw[hvi,D4 h];decide),hvi,D4 h]);have goon: ¬dmM m k=[]->¬chkR (dmM m k)≠0->varR m k=0:=λa b=>(by rw[hvi,D2 (λh=>h.elim a b)]);have hw1:IntKind.i64.wrap ((k:Int)+1)=((k+1:Nat):Int):=ak (l:=m.vars.length) h3 (by omega);have ih4:=λh:varR m k=0=>ih (k+1) ⟨by omega,λj hj=>by
       by_cases e:j=k;·rw[e];exact h
       ·exact hb j (by omega)⟩ (by omega)
      generalize varR m k=vr at*;generalize nmM m k=nm at*;generalize dmM m k=dd at*;generalize chkR dd=ck at*;refine .B ?_;refine .F (r:=cV (nm,dd)) hrow ?_;refine J.g Y Y Y (λh5=> ?_) (λh5=> ?_)
      ·have e:=stop (.inl (by simpa using h5));subst e;refine .B ?_;refine T.ct Y ?_;refine .B ?_;exact r1
      ·refine .B ?_;refine .F (r:=cV (nm,dd)) hrow ?_;refine .D hck ?_;refine T.cd Y (λh6=> ?_) (λh6=> ?_)
       ·have e:=stop (.inr h6);subst e;refine .B ?_;exact r1
       ·refine .B ?_;rw[hw1];exact T.K (ih4 (goon (by simpa using h5) h6))
   ·have h3:i=m.vars.length:=(by simp at h3;omega);have hfz:firstE ((List.range m.vars.length).map (varR m))=0:=fI λx hx=>by
     obtain⟨j,hj,rfl⟩:=DF.1 hx;exact hb j (by rw[h3];exact DM.1 hj)
    rw[hfz,D2 (by simp)]at hR;refine .B ?_;refine .D hds.frz ?_;refine T.K (T.ind (λi:Nat=>⟨[(1,.optr 0 0 0 0),(5,.val true (aJ (domsM m))),(6,.val true (.int .i64 i))],[(0,some (.box false (cM m)))],1⟩) (λi=>i<=m.cons.length/\∀j,j<i->∀c,m.cons[j]? =some c->conR (domsM m) c=0) (λi=>m.cons.length-i) 0 ⟨Dz _,λj hj=>DU hj (EO j)⟩ (λ_ _ h=>h) ?_);rintro k ⟨hk,hbc⟩ ih;have hdl:(domsM m).length*8<=140737488355328:=(by simp[domsM];omega);have hdx: ∀x∈domsM m,x.length*8<=140737488355328:=λx hx=>by
     obtain⟨v,hv,rfl⟩:=DF.1 hx;have:=b2 v hv;omega
    refine .B ?_;refine T.cd Y (λh4=> ?_) (λh4=> ?_)
    ·have h4:k<m.cons.length:=(by simpa[bF]using h4);have hrow:(m.cons.map cC)[((k:Nat):Int).toNat]? =some (cC m.cons[k]):=(by simp[h4]);have hcb:=b4 _ (D8 h4);have hcs:=uZ (domsM m) m.cons[k] ⟨by omega,by omega,by omega,λr hr=>by have:=hcb.2.2.2 r hr;omega⟩ hdl hdx;have hgk:m.cons[k]? =some m.cons[k]:=D1 h4;have stop:conR (domsM m) m.cons[k]≠0->R=conR (domsM m) m.cons[k]:=λhe=>by
      have:firstE (m.cons.map (conR (domsM m)))=conR (domsM m) m.cons[k]:=jF (i:=k) (λj hj x hx=>by
       rw[DE]at hx;obtain⟨c,hc,rfl⟩:=DY.1 hx;exact hbc j hj c hc) (by rw[DE,hgk];rfl) he
      rw[this,D4 he]at hR;exact hR.symm
     have ih4:=λh:conR (domsM m) m.cons[k]=0=>ih (k+1) ⟨by omega,λj hj c hc=>by
      by_cases e:j=k;·rw[e,hgk]at hc;cases hc;exact h
      ·exact hbc j (by omega) c hc⟩ (by omega)
     generalize m.cons[k]=c at*;generalize conR (domsM m) c=cr at*;refine .B ?_;refine .F (r:=cC c) hrow ?_;refine .D hcs ?_;refine T.cd Y (λh5=> ?_) (λh5=> ?_)
     ·have e:=stop h5;subst e;refine .B ?_;exact r1
     ·have h5:cr=0:=E0 h5;refine .B ?_;rw[ak (l:=m.cons.length) h4 (by omega)];exact T.K (ih4 h5)
    ·have h4:k=m.cons.length:=(by simp[bF]at h4;omega);have hfc:firstE (m.cons.map (conR (domsM m)))=0:=fI λx hx=>by
      obtain⟨c,hc,rfl⟩:=DF.1 hx;obtain⟨j,hj⟩:=DH hc;exact hbc j (by rw[h4];exact(D5.1 hj).1) c hj
     rw[hfc,D2 (by simp)]at hR;have hgs:=y8 (domsM m) m.goal b5 hdl hdx;rw[hR]at hgs;refine .B ?_;refine .D hgs ?_;exact r1
def smallD (d:aa)(most:Nat):Bool:=(List.range d.length).all λk=>decide (prodD (d.take (k+1))<=most)
theorem yl {d:aa}{most:Nat}(h:smallD d most=true)(h1:1<=most):prodD d<=most:=by
 by_cases h0:d=[];·subst h0;exact h1
 ·have hl:=GK.2 h0;have:=DI.1 h (d.length-1) (DM.2 (by omega));rw[show d.length-1+1=d.length by omega,E8]at this;simpa using this
theorem tp (d:aa)(most:Nat)(hm:1<=most/\most<=1048576)(fd:FewD d):Spec Tryz.prog 28 false [aJ d,.int .i64 most] [.val (.bool (smallD d most))]:=by
 refine Spec.body Tryz.func28 Y Y Y λw0 Z0=> ?_;generalize hR:smallD d most=R;have hds:=fd.small;refine .B ?_;refine T.K (T.ind (λi:Nat=>⟨[(0,.val false (aJ d)),(1,.val false (.int .i64 most)),(5,.val true (.int .i64 (prodD (d.take i)))),(6,.val true (.int .i64 i))],[],0⟩) (λi=>i<=d.length/\prodD (d.take i)<=most/\∀j,j<i->prodD (d.take (j+1))<=most) (λi=>d.length-i) 0 ⟨Dz _,hm.1,λj hj=>DU hj (EO j)⟩ (λ_ _ h=>h) ?_);rintro i ⟨hi,hp,hb⟩ ih;refine .B ?_;refine T.cd Y (λh1=> ?_) (λh1=> ?_)
 ·have h1:i<d.length:=(by simpa using h1);have hrow:(d.map cD)[((i:Nat):Int).toNat]? =some (cD d[i]):=(by simp[h1]);have hf:=fd.fine _ (D8 h1);have hw:=fd.few _ (D8 h1);have hvs:=mM d[i] hf.domB.1 (by omega) hf.domB.2.2;have htk:prodD (d.take (i+1))=prodD (d.take i)*(vals d[i]).length:=(by rw[DB h1,vU]);have hno: ¬prodD (d.take (i+1))<=most->R=false:=λh=>by
   rw[<-hR];unfold smallD;rw[FY];exact⟨i,DM.2 h1,by simpa using h⟩
  have ih1:=λh:prodD (d.take (i+1))<=most=>ih (i+1) ⟨by omega,h,λj hj=>by
   by_cases e:j=i;·rw[e];exact h
   ·exact hb j (by omega)⟩ (by omega)
  have hle:prodD (d.take i)*(vals d[i]).length<=1048576*4096:=Gs (by omega) hw;rw[htk]at hno ih1;generalize vals d[i]=l at*;generalize d[i]=x at*;generalize prodD (d.take i)=p at*;have hmul:IntKind.i64.wrap ((p:Int)*((l.map cI).length:Nat))=((p*l.length:Nat):Int):=by
   rw[D9,<-HE,af (by omega) (by omega)]
  refine .B ?_;refine .F (r:=cD x) hrow ?_;refine .D hvs ?_;rw[hmul];refine T.cd Y (λh2=> ?_) (λh2=> ?_)
  ·have e:=hno (by omega);subst e;refine .B ?_;exact r1
  ·refine .B ?_;rw[ak (l:=d.length) h1 (by omega)];exact T.K (ih1 (by omega))
 ·have h1:i=d.length:=(by simp at h1;omega);have:R=true:=by
   rw[<-hR];unfold smallD;rw[DI];intro j hj;have:=hb j (by rw[h1];exact DM.1 hj);simpa using this
  subst this;refine .B ?_;exact r1
def solvesR (m:Mod)(a:List Int):Bool:=decide (a.length=m.vars.length)&&(((List.range a.length).all λi=>decide (a.getD i 0∈vals (dmM m i)))&&m.cons.all λc=>holdsR c a)
theorem mU (m:Mod)(a:List Int)(hm:ModB m)(fd:FewD (domsM m))(hc: ∀c∈m.cons,conR (domsM m) c=0)(ha:a.length*8<=140737488355328):Spec Tryz.prog 23 false [.agg (cM m),ao a] [.val (.bool (solvesR m a))]:=by
 refine Spec.body Tryz.func23 Y Y Y λw0 Z0=> ?_;generalize hR:solvesR m a=R;obtain⟨b1,b2,b3,b4,b5⟩:=hm;refine .B ?_;refine T.cd Y (λh1=> ?_) (λh1=> ?_)
 ·have h1: ¬a.length=m.vars.length:=(by simp at h1;omega);have:R=false:=(by rw[<-hR];unfold solvesR;rw[DC h1];rfl);subst this;refine .B ?_;exact r1
 ·have h1:a.length=m.vars.length:=(by simp at h1;omega);refine .B ?_;refine T.K (T.ind (λi:Nat=>⟨[(1,.val false (ao a)),(2,.optr 0 0 0 0),(5,.val true (.int .i64 i))],[(0,some (.box false (cM m)))],1⟩) (λi=>i<=a.length/\∀j,j<i->a.getD j 0∈vals (dmM m j)) (λi=>a.length-i) 0 ⟨Dz _,λj hj=>DU hj (EO j)⟩ (λ_ _ h=>h) ?_);rintro i ⟨hi,hb⟩ ih;refine .B ?_;refine T.cd Y (λh2=> ?_) (λh2=> ?_)
  ·have h2:i<a.length:=(by simpa using h2);have h3:i<m.vars.length:=(by omega);have hrow:(m.vars.map cV)[((i:Nat):Int).toNat]? =some (cV (nmM m i,dmM m i)):=by
    rw[DW,DE,D1 h3];unfold nmM dmM;rw[D0,D1 h3];rfl
   have hm:dmM m i∈domsM m:=by
    unfold dmM domsM;rw[D0,D1 h3];exact DF.2 ⟨_,D8 h3,rfl⟩
   have hf:=fd.fine _ hm;have hw:=fd.few _ hm;have hra:(a.map cI)[((i:Nat):Int).toNat]? =some (cI (a.getD i 0)):=(by rw[aL h2];exact aO h2);have hvs:=mM (dmM m i) hf.domB.1 (by omega) hf.domB.2.2;have hhs:=lI (vals (dmM m i)) (a.getD i 0) (by omega);have stop:decide (a.getD i 0∈vals (dmM m i))=false->R=false:=λh=>by
    rw[<-hR];unfold solvesR;have:((List.range a.length).all λi=>decide (a.getD i 0∈vals (dmM m i)))=false:=by
     rw[FY];exact⟨i,DM.2 h2,by rw[h];simp⟩
    rw[this];simp
   have ih1:=λh:decide (a.getD i 0∈vals (dmM m i))=true=>ih (i+1) ⟨by omega,λj hj=>by
    by_cases e:j=i;·rw[e];exact EL h
    ·exact hb j (by omega)⟩ (by omega)
   have hw1:IntKind.i64.wrap ((i:Int)+1)=((i+1:Nat):Int):=ak h2 ha;generalize decide (a.getD i 0∈vals (dmM m i))=b at*;generalize vals (dmM m i)=l at*;generalize dmM m i=x at*;generalize nmM m i=nm at*;generalize a.getD i 0=v at*;refine .B ?_;refine .F (r:=cV (nm,x)) hrow ?_;refine .D hvs ?_;refine .F (r:=cI v) hra ?_;refine .D hhs ?_;cases b
   ·have e:=stop Y;subst e;refine T.ct Y ?_;refine .B ?_;exact r1
   ·refine T.cf Y ?_;refine .B ?_;rw[hw1];exact T.K (ih1 Y)
  ·have h2:i=a.length:=(by simp at h2;omega);have hall:((List.range a.length).all λi=>decide (a.getD i 0∈vals (dmM m i)))=true:=by
    rw[DI];intro j hj;exact DD (hb j (by rw[h2];exact DM.1 hj))
   have hR2:m.cons.all (λc=>holdsR c a)=R:=by
    rw[<-hR];unfold solvesR;rw[hall,DD h1];rfl
   have ha3: ∀x∈a,x<=1048576:=λx hx=>by
    obtain⟨j,hj⟩:=DH hx;have hjl:=(D5.1 hj).1;have hvj:=hb j (by rw[h2];exact hjl);rw[aL hjl,(D5.1 hj).2]at hvj;have hm:dmM m j∈domsM m:=by
     unfold dmM domsM;rw[D0,D1 (by omega)];exact DF.2 ⟨_,D8 (by omega),rfl⟩
    exact((fd.fine _ hm).val x hvj).2
   refine .B ?_;refine T.K (T.ind (λi:Nat=>⟨[(1,.val false (ao a)),(2,.optr 0 0 0 0),(6,.val true (.int .i64 i))],[(0,some (.box false (cM m)))],1⟩) (λi=>i<=m.cons.length/\∀j,j<i->∀c,m.cons[j]? =some c->holdsR c a=true) (λi=>m.cons.length-i) 0 ⟨Dz _,λj hj=>DU hj (EO j)⟩ (λ_ _ h=>h) ?_);rintro k ⟨hk,hbc⟩ ih;refine .B ?_;refine T.cd Y (λh4=> ?_) (λh4=> ?_)
   ·have h4:k<m.cons.length:=(by simpa[bF]using h4);have hrow:(m.cons.map cC)[((k:Nat):Int).toNat]? =some (cC m.cons[k]):=(by simp[h4]);have hcm:=D8 h4;have hcb:=b4 _ hcm;have hcB:ConB m.cons[k]:=⟨by omega,by omega,by omega,λr hr=>by have:=hcb.2.2.2 r hr;omega⟩;have hcr:=hc _ hcm;have hgk:m.cons[k]? =some m.cons[k]:=D1 h4;have hhs:=wK m.cons[k] a hcB ha (λe=>by have:=(rt hcB hcr e).len;omega) (λ_ x hx=>by have:=ha3 x hx;omega);have stop:holdsR m.cons[k] a=false->R=false:=λh=>by
     rw[<-hR2,FY];exact⟨_,hcm,by rw[h];simp⟩
    have ih1:=λh:holdsR m.cons[k] a=true=>ih (k+1) ⟨by omega,λj hj c hcj=>by
     by_cases e:j=k;·rw[e,hgk]at hcj;cases hcj;exact h
     ·exact hbc j (by omega) c hcj⟩ (by omega)
    generalize holdsR m.cons[k] a=b at*;generalize m.cons[k]=c at*;refine .B ?_;refine .F (r:=cC c) hrow ?_;refine .D hhs ?_;cases b
    ·have e:=stop Y;subst e;refine T.ct Y ?_;refine .B ?_;exact r1
    ·refine T.cf Y ?_;refine .B ?_;rw[ak (l:=m.cons.length) h4 (by omega)];exact T.K (ih1 Y)
   ·have h4:k=m.cons.length:=(by simp[bF]at h4;omega);have:R=true:=by
     rw[<-hR2,DI];intro c hcm;obtain⟨j,hj⟩:=DH hcm;exact hbc j (by rw[h4];exact(D5.1 hj).1) c hj
    subst this;refine .B ?_;exact r1
def iI (v:ByteArray×List (Int×Int)):ByteArray×List (Int×Int):=(v.1.extract 0 (min v.1.size 20),v.2.take (min v.2.length 12))
def e9 (c:Con):Con:=⟨c.kind,c.vars.take (min c.vars.length 14),c.coefs.take (min c.coefs.length 14),c.op,c.rhs,(c.rows.take 20).map λr=>r.take (min r.length 14),c.b⟩
def boundM (m:Mod):Mod:=⟨(m.vars.take 10).map iI,(m.cons.take 16).map e9,⟨m.goal.kind,m.goal.vars.take (min m.goal.vars.length 14),m.goal.coefs.take (min m.goal.coefs.length 14)⟩⟩
structure ModI (m:Mod):Prop where
 vn: ∀v∈m.vars,v.2.length*8<=140737488355328
 vl:m.vars.length*8<=140737488355328
 cl:m.cons.length*8<=140737488355328
 cb: ∀c∈m.cons,c.vars.length*8<=140737488355328/\c.coefs.length*8<=140737488355328/\c.rows.length*8<=140737488355328/\∀r∈c.rows,r.length*8<=140737488355328
 gl:m.goal.vars.length*8<=140737488355328/\m.goal.coefs.length*8<=140737488355328
theorem vc (m:Mod):ModB (boundM m):=by
 refine⟨by simp[boundM];omega,λv hv=> ?_,by simp[boundM];omega,λc hc=> ?_,by simp[boundM];omega⟩
 ·obtain⟨u,_,rfl⟩:=DF.1 hv;simp[iI,ByteArray.size_extract];omega
 ·obtain⟨u,_,rfl⟩:=DF.1 hc;refine⟨by simp[e9];omega,by simp[e9];omega,by simp[e9];omega,λr hr=> ?_⟩;obtain⟨q,_,rfl⟩:=DF.1 hr;simp;omega
def bxM (u1 u2:Value)(g:Goal):List PV:=[.raw u1,.raw u2,.int .i64 g.kind,ao g.vars,ao g.coefs]
def okM (m:Mod)(most:Nat):Bool:=decide (checkR m=0)&&smallD (domsM m) most
structure RightM (m:Mod):Prop where
 b:ModB m
 good:GoodD (domsM m).length (domsM m)
 con: ∀c∈m.cons,ConB c
 right: ∀c∈m.cons,conR (domsM m) c=0
theorem ru {m:Mod}(h:checkR m=0):(∀i,i<m.vars.length->dmM m i≠[]/\chkR (dmM m i)=0)/\∀c∈m.cons,conR (domsM m) c=0:=by
 unfold checkR at h;split at h;·cases h
 ·split at h;·rename_i h1;exact DU h h1
  ·rename_i h1;have h1:firstE ((List.range m.vars.length).map (varR m))=0:=E0 h1;split at h;·rename_i h2;exact DU h h2
   ·rename_i h2;have h2:firstE (m.cons.map (conR (domsM m)))=0:=E0 h2;refine⟨λi hi=> ?_,λc hc=>jh h2 _ (DF.2 ⟨c,hc,rfl⟩)⟩;have h3:=jh h1 _ (DF.2 ⟨i,DM.2 hi,rfl⟩);unfold varR at h3;split at h3;·cases h3
    ·split at h3;·cases h3
     ·split at h3;·cases h3
      ·rename_i h4;exact⟨λe=>h4 (.inl e),E0 λe=>h4 (.inr e)⟩
theorem kD {m:Mod}(hb:ModB m)(h:checkR m=0):RightM m:=by
 obtain⟨h1,h2⟩:=ru h;have hx: ∀x∈domsM m,x≠[]/\chkR x=0:=λx hx=>by
  obtain⟨v,hv,rfl⟩:=DF.1 hx;obtain⟨i,hi⟩:=DH hv;have hl:=(D5.1 hi).1;have:=h1 i hl;unfold dmM at this;rw[D0,hi]at this;exact this
 refine⟨hb,⟨⟨by have:=hb.vl;simp[domsM];omega,λx h=>(sG (hx x h).2).1,λx h=>(sG (hx x h).2).2⟩,rfl,λh=>(hx _ h).1 Y⟩,λc hc=> ?_,h2⟩;obtain⟨c1,c2,c3,c4⟩:=hb.cb c hc;exact⟨by omega,by omega,by omega,λr hr=>by have:=c4 r hr;omega⟩
theorem qh {n:Nat}{d out:aa}{c:Con}(hc:ConB c)(gd:GoodD n d)(go: ∀v:Int,v.toNat<n->aA (domAt out v))(hle:leD out d)(h:conR d c=0):conR out c=0:=by
 obtain⟨hk,hv,hr,hin⟩:=cQ hc h;have hb:=jK h;have tm: ∀v:Int,0<=v->v.toNat<d.length->truthR (domAt d v)=true->truthR (domAt out v)=true:=λv h0 hl ht=>by
  rw[gd.len]at hl;exact(hI (go v hl)).2 λx hx=>(hI (gd.at_ hl).1).1 ht x (hle.2 v x h0 hx)
 have hl:out.length=d.length:=hle.1;unfold conR;rw[D2 (by omega),D2,D2,D2 (by rw[hb];simp)]
 ·have hr2:rightR out c=true:=by
   unfold rightR at hr⊢;split;·rename_i h0;rw[D4 h0]at hr;exact hr
   ·rename_i h0;rw[D2 h0]at hr;split;·rename_i h1;rw[D4 h1]at hr;exact hr
    ·rename_i h1;rw[D2 h1]at hr;split;·rename_i h2;rw[D4 h2]at hr;exact hr
     ·rename_i h2;rw[D2 h2]at hr;split;·rename_i h3;rw[D4 h3]at hr;exact hr
      ·rename_i h3;rw[D2 h3]at hr;split
       ·rename_i h4;rw[D4 h4]at hr;simp only[DJ]at hr⊢;have hb4:=hin c.b (uses_mem.2 (.inr ⟨h4,rfl⟩));exact⟨⟨hr.1.1,tm c.b hb4.1 hb4.2 hr.1.2⟩,hr.2⟩
       ·rename_i h4;rw[D2 h4]at hr;split
        ·rename_i h5;rw[D4 h5]at hr;simp only[DJ]at hr⊢;refine⟨hr.1,DI.2 λi hi=> ?_⟩;have hu:=DI.1 hr.2 i hi;simp only[gA,DJ]at hu⊢;have hvi:=hv.2 _ (aK (c:=c) (DM.1 hi));exact⟨tm _ hvi.1 hvi.2 hu.1,hu.2⟩
        ·rename_i h5;rw[D2 h5]at hr;exact hr
  rw[hr2];simp
 ·have:(usesR c).all (inD out)=true:=DI.2 λu hu=>lH.2 (by have:=hin u hu;omega);rw[this];simp
theorem vR {n:Nat}{d out:aa}{c:Con}(hc:ConB c)(gd:GoodD n d)(go:GoodD n out)(hle:leD out d)(h:conR d c=0):conR out c=0:=qh hc gd (λv hl=>(go.at_ hl).1) hle h
def dmQ (a b c d:Int):aa:=[[(a,b)],[(c,d)]]
theorem jk {a b c d:Int}(h1:a<=b)(h2:c<=d)(h3:0<=a)(h4:0<=c)(h5:b<=3)(h6:d<=3):GoodD 2 (dmQ a b c d):=by
 have f1:Fine [(a,b)]:=AL h1 (by omega) (by omega);have f2:Fine [(c,d)]:=AL h2 (by omega) (by omega);have key: ∀a b:Int,0<=a->b<=3->(vals [(a,b)]).length<=4096:=λa b h1 h2=>by
  show(rng a b++[]).length<=4096;simp[rng];omega
 refine⟨⟨by simp[dmQ],λx hx=> ?_,λx hx=> ?_⟩,rfl,by simp[dmQ]⟩;·simp[dmQ]at hx;rcases hx with rfl|rfl<;>assumption
 ·simp[dmQ]at hx;rcases hx with rfl|rfl;·exact key _ _ h3 h5
  ·exact key _ _ h4 h6
theorem jw {d:aa}{c:Con}{R:Option aa}{N:Nat}(gd:GoodD 2 d)(hc:ConB c)(hk:c.kind=0)(hr:conR d c=0)(h:LinAns d c R N):bL c d=R:=by
 obtain⟨M,hM⟩:=gR (rM hc hr hk gd.few.fine gd.few.small);unfold bL;rw[D4 hk];exact xL hM h
theorem Ah {m:Mod}{most:Nat}(hb:ModB m)(h:okM m most=true)(h1:1<=most):RightM m/\prodD (domsM m)<=most:=by
 unfold okM at h;rw[DJ,DN]at h;exact⟨kD hb h.1,yl h.2 h1⟩
def cCh (p:Int×List (Int×Int)):List PV:=[.int .i64 p.1,dm p.2]
theorem yW {ns:List Value}{n:Nat}(h:ns.length=n)(hn:n=1): ∃u,ns=[u]:=Fa.1 (h.trans hn)
theorem ye (d:aa)(fd:FewD d):Spec Tryz.prog 68 false [.ptr [aJ d]] [.own 54 1 (d.map cD)]:=by
 refine Spec.body Tryz.func68 Y Y Y λw0 Z0=> ?_;have hd:=fd.small;refine T.sub (Rel.pf (s:=0) Y) ?_;refine .B ?_;refine T.sub (Rel.own0 (s:=3) 54 1 Y) ?_;refine T.K (T.listI d (λ_=>True) (λn pre post=>⟨[(3,.ref 0),(9,.val false (aJ d)),(10,.val true (.int .i64 (d.map cD).length)),(11,.val true (.int .i64 n))],[(0,some (.sl 54 1 true (pre.map cD)))],1⟩) (λ_ _ h=>h) trivial ?_ ?_)
 ·rintro n pre x post h hn hi ih;have hlt:=cg h hn;have hxl:=(fd.fine x (by rw[h];simp)).len;refine .B ?_;refine T.ct2 Y (ce h hn) ?_;refine .B ?_;refine .F (r:=cD x) (aS h hn) ?_;refine .D (bR x (by omega)).frz ?_;refine .Z ?_;refine J.aD Y Y Y Y Y Y Y Y Y Y Y Y Y Y Y Y Y Y Y (by omega) ?_;refine .B ?_;rw[ak hlt (by omega)];exact T.K (ih trivial)
 ·intro _;refine .B ?_;refine T.cf2 Y bA ?_;refine .B ?_;exact⟨_,.o Y Y Y (λ_=> .inl Y) (by simp) .nil⟩
theorem zD (sb:Nat)(lv cv mv:Value)(d:aa)(i:Int):SpecX Tryz.prog 141 [.pointer (some ⟨sb,0,none⟩),lv] [] [.box true [.raw lv,.raw cv,.raw mv],.sl 54 1 true (d.map cD)] [] [(true,.raw (.pointer (some ⟨sb,0,none⟩))),(true,.int .i64 i)]
  (λ_=>[.box true [.raw lv,.raw cv,.raw mv],.sl 54 1 true (d.map cD)]) (λ_=>[]) true (λ_=>[.bool (decide (0<=i/\i<d.length))]):=by
 refine SpecX.body (fn:=Tryz.f141) [1000,1001] [] Y Y Y Y λw0 Z=> ?_;refine T.sub (Rel.derawp (s:=0) (g:=1000) Y Y Y) ?_;refine .B ?_;refine J.g Y Y Y (λh1=> ?_) (λh1=> ?_)
 ·have h1:0<=i:=h1;have e:decide (0<=i/\i<d.length)=decide (i<((d.map cD).length:Int)):=(by simp[h1]);rw[e];refine .B ?_;refine J.sub (Rel.deraw (s:=12) (g:=1001) Y Y) ?_;refine .B ?_;exact⟨[0,1],[],[],⟨rfl,⟨_,rfl,rfl,rfl⟩,rfl,⟨_,rfl,rfl,rfl⟩,trivial⟩,trivial,rfl,.val Y Y (λ_=>rfl) .nil⟩
 ·have h1: ¬0<=i:=h1;have e:decide (0<=i/\i<d.length)=false:=(by simp[h1]);rw[e];refine .B ?_;exact⟨[0,1],[],[],⟨rfl,⟨_,rfl,rfl,rfl⟩,rfl,⟨_,rfl,rfl,rfl⟩,trivial⟩,trivial,rfl,.val Y Y (λ_=>rfl) .nil⟩
theorem vA (sb:Nat)(lv cv mv:Value)(ch:List (Int×List (Int×Int)))(mk:List Int)(hl:(mk.length+1)*8<=140737488355328):SpecX Tryz.prog 115 [.pointer (some ⟨sb,0,none⟩),cv] [mv] [.box true [.raw lv,.raw cv,.raw mv],.sl 156 2 true (ch.map cCh)] [.sl 3 1 true (mk.map cI)] [(true,.raw (.pointer (some ⟨sb,0,none⟩)))]
  (λns=>[.box true [.raw lv,.raw cv,.raw (ns.getD 0 undef)],.sl 156 2 true (ch.map cCh)]) (λ_=>[.sl 3 1 true ((mk++[(ch.length:Int)]).map cI)]) true (λ_=>[]):=by
 refine SpecX.body (fn:=Tryz.f115) [1000,1001,1002] [1003] Y Y Y Y λw0 Z=> ?_;refine T.sub (Rel.derawp (s:=0) (g:=1000) Y Y Y) ?_;refine T.rdw 14 Y (by kernel_rfl) Y ?_
 iterate 4 refine J.H Y ?_
 refine J.lr 1002 (q:=2) (u:=mv) Y Y Y Y Y Y Y Y Y ?_
 iterate 3 refine J.H Y ?_
 refine J.lr 1001 (q:=1) (u:=cv) Y Y Y Y Y Y Y Y Y ?_;refine .M ?_;refine .V ?_;refine J.ad Y Y Y Y Y Y Y Y Y Y Y Y Y Y Y Y Y Y (c9 Y) (by show(List.length _+1)*8<=_;simp;omega) ?_;refine .M ?_;refine⟨by kernel_rfl,?_⟩;refine J.name 1003 (s:=13) Y Y Y λu=> ?_;refine J.sub (Rel.raw (s:=13) (g:=1003) Y (.inl Y) Y Y Y) ?_;refine .X ?_;have e:mk.map cI++[[PV.int .i64 ((ch.map cCh).length:Nat)]]=(mk++[(ch.length:Int)]).map cI:=(by simp[cI]);refine⟨[0,1],[3],[u],⟨rfl,⟨_,rfl,rfl,rfl⟩,rfl,⟨_,rfl,rfl,rfl⟩,trivial⟩,⟨rfl,⟨_,rfl,?_,rfl⟩,trivial⟩,rfl,.nil⟩;rw[<-e];rfl
theorem uX (d:List (Int×Int))(hl:d.length<=1048576):Spec Tryz.prog 127 false [dm d] [.val (.bool (!(List.range d.length).any (badR d)))]:=by
 refine Spec.body Tryz.func127 Y Y Y λw0 Z0=> ?_;generalize hR:(!(List.range d.length).any (badR d))=R;refine .B ?_;refine T.K (T.ind (λi:Nat=>⟨[(0,.val false (dm d)),(5,.val false (dm d)),(6,.val true (.int .i64 (d.map cR).length)),(7,.val true (.int .i64 i))],[],0⟩) (λi=>i<=d.length/\∀j,j<i->badR d j=false) (λi=>d.length-i) 0 ⟨Dz _,λj hj=>DU hj (EO j)⟩ (λ_ _ h=>h) ?_);rintro i ⟨hi,hb⟩ ih;refine .B ?_;refine T.cd Y (λh1=> ?_) (λh1=> ?_)
 ·have h6:i<d.length:=(by simpa using h1);have hrow:(d.map cR)[((i:Nat):Int).toNat]? =some (cR (d.getD i (0,0))):=(by simp[h6,D0]);have hprev:0<i->(d.map cR)[(((i-1:Nat)):Int).toNat]? =some (cR (d.getD (i-1) (0,0)))/\aH (d.getD (i-1) (0,0)).2=true:=λh=>by
   refine⟨by rw[DW,DE,D1 (show i-1<d.length by omega),D0,D1 (show i-1<d.length by omega)];rfl,?_⟩;have:=hb (i-1) (by omega);unfold badR at this;simp only[GE,FT]at this;exact this.2.1
  have hno:badR d i=true->R=false:=λh=>by
   rw[<-hR,FT];exact EZ.2 ⟨i,DM.2 h6,h⟩
  have hbd:badR d i=(!aH (d.getD i (0,0)).1||(!aH (d.getD i (0,0)).2||(decide ((d.getD i (0,0)).1 > (d.getD i (0,0)).2)||(decide ((i:Int) > 0)&&decide ((d.getD i (0,0)).1-(d.getD (i-1) (0,0)).2<2))))):=rfl;have ih1:=λhbi:badR d i=false=>ih (i+1) ⟨by omega,λj hj=>by
   by_cases e:j=i;·rw[e];exact hbi
   ·exact hb j (by omega)⟩ (by omega)
  have hw1:IntKind.i64.wrap ((i:Int)+1)=((i+1:Nat):Int):=(by rw[af (by omega) (by omega)];omega);have hw2:0<i->IntKind.i64.wrap ((i:Int)-1)=((i-1:Nat):Int):=λh=>(by rw[af (by omega) (by omega)];omega);generalize badR d i=bad at*;generalize d.getD i (0,0)=r at*;generalize d.getD (i-1) (0,0)=p at*;obtain⟨lo,hi2⟩:=r;simp only at*;have v1:=ji lo;have v2:=ji hi2;have wn:IntKind.i64.wrap (p.2+2)=p.2+2∨i=0:=by
   by_cases h0:i=0;·exact .inr h0
   ·have hpv:=(hprev (by omega)).2;simp only[aH,DN]at hpv;exact .inl (af (by omega) (by omega))
  refine .B ?_;refine .F (r:=cR (lo,hi2)) hrow ?_;refine .L ?_;refine .B ?_;refine .X ?_;refine .D v1 ?_;cases a1:aH lo with
  |false=>
   obtain rfl:=hno (by rw[hbd,a1];rfl);refine .B ?_;refine T.ct Y ?_;refine .B ?_;exact r1
  |true=>
   refine .B ?_;refine .D v2 ?_;cases a2:aH hi2 with
   |false=>
    obtain rfl:=hno (by rw[hbd,a1,a2];rfl);refine .B ?_;refine T.ct Y ?_;refine .B ?_;exact r1
   |true=>
    refine .B ?_;refine J.g Y Y Y (λh3=> ?_) (λh3=> ?_)
    ·have h3:lo > hi2:=h3;obtain rfl:=hno (by rw[hbd,a1,a2,DD h3];rfl);refine .B ?_;refine T.ct Y ?_;refine .B ?_;exact r1
    ·have h3: ¬lo > hi2:=h3;refine .B ?_;refine J.g Y Y Y (λh4=> ?_) (λh4=> ?_)
     ·have h4:(i:Int) > 0:=h4;refine .B ?_;rw[hw2 (by omega)];refine .F (r:=cR p) (hprev (by omega)).1 ?_;rw[wn.resolve_right (by omega)];refine T.cd Y (λh5=> ?_) (λh5=> ?_)
      ·have h5:lo<p.2+2:=h5;obtain rfl:=hno (by rw[hbd,a1,a2,DC h3,DD h4,DD (show lo-p.2<2 by omega)];rfl);refine .B ?_;exact r1
      ·have h5: ¬lo<p.2+2:=h5;refine .B ?_;rw[hw1];exact T.K (ih1 (by rw[hbd,a1,a2,DC h3,DD h4,DC (show¬lo-p.2<2 by omega)];rfl))
     ·have h4: ¬(i:Int) > 0:=h4;refine .B ?_;refine T.cf Y ?_;refine .B ?_;rw[hw1];exact T.K (ih1 (by rw[hbd,a1,a2,DC h3,DC h4];rfl))
 ·have h7:i=d.length:=(by simp at h1;omega);have:R=true:=by
   rw[<-hR,ER,Fq];intro j hj;have:=hb j (by have:=DM.1 hj;omega);rw[this];simp
  subst this;refine .B ?_;exact r1
theorem qf: ∀(l:List (Int×Int)) (n:Int),(∀r∈l,-1048576<=r.1/\r.2<=1048576/\r.1<=r.2)->0<=n->n+l.length*4194304<=4611686018427387904->l.foldl (λn r=>wr (n+wr (wr (r.2-r.1)+1))) n=n+sizeI l
 | [],n,_,_,_=>by simp[sizeI]
 |r::l,n,h,h0,hb=>by
  have hr:=h r (.head _);rw[Dp]at hb;have e:wr (n+wr (wr (r.2-r.1)+1))=n+(r.2-r.1+1):=by
   simp only[wr];rw[af (n:=r.2-r.1) (by omega) (by omega),af (n:=r.2-r.1+1) (by omega) (by omega),af (by omega) (by omega)]
  rw[Dn,e,qf l _ (λr hr=>h r (.tail _ hr)) (by omega) (by omega)];simp only[sizeI,DZ,Eb];omega
theorem jl (d:List (Int×Int))(hl:d.length<=1048576):Spec Tryz.prog 99 false [dm d] [.val (.int .i64 (chkR d))]:=by
 refine Spec.body Tryz.func99 Y Y Y λw0 Z0=> ?_;have hr:=uX d hl;have hz:=gI d (by omega);unfold chkR;cases hb:(List.range d.length).any (badR d)with
 |true=>
  rw[hb]at hr;refine .B ?_;refine .D hr ?_;refine T.ct Y ?_;refine .B ?_;exact r1
 |false=>
  rw[hb]at hr;have e:fM d=sizeI d:=by
   have:=qf d 0 (λr hr=>by
    obtain⟨i,hi⟩:=DH hr;have hil:=(D5.1 hi).1;have h2:=Fq.1 hb i (DM.2 hil);unfold badR at h2;rw[D0,hi]at h2;simp only[Ed,Ey,not_or,ER,aH,DN,decide_eq_false_iff_not,Classical.not_not]at h2;omega) (by omega) (by omega)
   rw[GJ]at this;exact this
  rw[e]at hz;refine .B ?_;refine .D hr ?_;refine T.cf Y ?_;refine .B ?_;refine .D hz ?_;refine T.cd Y (λh1=> ?_) (λh1=> ?_)
  ·have h1:sizeI d > 4096:=h1;refine .B ?_;exact⟨_,.v Y Y (by rw[D4 h1];rfl) (λ_=>rfl) .nil⟩
  ·have h1: ¬sizeI d > 4096:=h1;refine .B ?_;exact⟨_,.v Y Y (by rw[D2 h1];rfl) (λ_=>rfl) .nil⟩
theorem jV {s:Int×Int}: ∀(b:List (Int×Int)) (lo hi:Int) (out:List (Int×Int)),aA b->s∈b->s.1<=lo->lo<=hi->hi<=s.2->-1048576<=s.2/\s.2<=1048576->bM b lo hi out=(s.2+1,out)
 | [],lo,hi,out,_,h,_,_,_,_=>by cases h
 |y::b,lo,hi,out,hb,h,h1,h2,h3,h4=>by
  have hp:=Dm.1 hb.2;rw[bM];rcases DO.1 h with rfl|h
  ·rw[D2 (by omega),D2 (by omega)];have hw:wr (s.2+1)=s.2+1:=af (by omega) (by omega);rw[hw];have: ∀(b:List (Int×Int)) (o:List (Int×Int)),(∀t∈b,s.2+1<t.1)->bM b (s.2+1) hi o=(s.2+1,o):=by
    intro b
    induction b with
    |nil=>intro o _;rfl
    |cons t b ih=>
     intro o ht;rw[bM,D4 (.inr (by have:=ht t (.head _);omega))];exact ih o λt h=>ht t (.tail _ h)
   exact this b out λt ht=>by have:=hp.1 t ht;omega
  ·have:=hp.1 s h;rw[D4 (.inl (by omega))];exact jV b lo hi out hb.tail h h1 h2 h3 h4
theorem yO {a b:List (Int×Int)}(ha:aA a)(hb:Fine b)(hs: ∀v∈vals a,v∈vals b):d4 a b=[]:=by
 have key: ∀(l:List (Int×Int)),(∀r∈l,r∈a)->l.foldl (cE b) []=[]:=by
  intro l
  induction l with
  |nil=>intro _;rfl
  |cons r l ih=>
   intro hl;have hr:=hl r (.head _);have hr1:=ha.1 r hr;obtain⟨s,hsb,h1,h2⟩:=aT.1 (hs r.1 (aT.2 ⟨r,hr,EN _,hr1⟩));have h3:r.2<=s.2:=by
    apply E0;intro hn;obtain⟨t,htb,h4,h5⟩:=aT.1 (hs (s.2+1) (aT.2 ⟨r,hr,by omega,by omega⟩));have hsp:=hb.ok.1 s hsb;have htp:=hb.ok.1 t htb;have hne:s≠t:=λe=>(by subst e;omega);have: ∀{l:List (Int×Int)},l.Pairwise (λr s=>r.2+2<=s.1)->s∈l->t∈l->s.2+2<=t.1∨t.2+2<=s.1:=by
     intro l hp
     induction l with
     |nil=>intro h;cases h
     |cons x l ih=>
      intro hs ht;have hx:=Dm.1 hp;rcases DO.1 hs with e1|hs
      ·rcases DO.1 ht with e2|ht;·exact DU (e1.trans e2.symm) hne
       ·rw[e1];exact .inl (hx.1 t ht)
      ·rcases DO.1 ht with e2|ht;·rw[e2];exact .inr (hx.1 s hs)
       ·exact ih hx.2 hs ht
    rcases this hb.ok.2 hsb htb with h|h<;>omega
   have hsv:=hb.val s.2 (aT.2 ⟨s,hsb,hb.ok.1 s hsb,EN _⟩);rw[Dn];have e:cE b [] r=[]:=by
    unfold cE;rw[jV b r.1 r.2 [] hb.ok hsb h1 hr1 h3 hsv,D2 (by simp only;omega)]
   rw[e];exact ih λr h=>hl r (.tail _ h)
 exact key a λr h=>h
theorem uR {x:List (Int×Int)}(hf:Fine x)(hl:(vals x).length<=4096):chkR x=0:=by
 unfold chkR;rw[D2,D2];·rw[ti hf.ok];omega
 ·intro h;obtain⟨i,hi,hb⟩:=EZ.1 h;have hil:=DM.1 hi;have hm:=D8 hil;have h0:=hf.ok.1 _ hm;have hv1:=hf.val x[i].1 (aT.2 ⟨_,hm,EN _,h0⟩);have hv2:=hf.val x[i].2 (aT.2 ⟨_,hm,h0,EN _⟩);have hp:0<i->x[i-1].2+2<=x[i].1:=λh=>Fl.1 hf.ok.2 (i-1) i (by omega) hil (by omega);unfold badR at hb;rw[D0,D1 hil]at hb;simp only[Ed,Ey,ER,DJ,DN,aH,decide_eq_false_iff_not]at hb;rcases hb with hb|hb|hb|⟨h1,h2⟩;·omega
  ·omega
  ·omega
  ·have hpi:=hp (by omega);rw[D0,D1 (show i-1<x.length by omega)]at h2;simp only[Ed]at h2;omega
def chS (ch:List (Int×List (Int×Int)))(i:Nat)(y x:List (Int×Int)):List (Int×List (Int×Int)):=if x=y then ch else ch++[((i:Int),y)]
theorem p7 (sb:Nat)(lv cv mv:Value)(d:aa)(ch:List (Int×List (Int×Int)))(i:Nat)(x y:List (Int×Int))(fd:FewD d)(hy:d[i]? =some y)(hx:Fine x)(hxl:(vals x).length<=4096)(hs: ∀v∈vals x,v∈vals y)(hl:(ch.length+1)*32<=140737488355328):
  SpecX Tryz.prog 110 [.pointer (some ⟨sb,0,none⟩),lv] [cv] [.box true [.raw lv,.raw cv,.raw mv],.sl 54 1 true (d.map cD)] [.sl 156 2 true (ch.map cCh)] [(true,.raw (.pointer (some ⟨sb,0,none⟩))),(true,.int .i64 i),(false,dm x)]
  (λns=>[.box true [.raw lv,.raw (ns.getD 0 undef),.raw mv],.sl 54 1 true ((d.set i x).map cD)]) (λ_=>[.sl 156 2 true ((chS ch i y x).map cCh)]) true (λ_=>[.int .i64 0]):=by
 refine SpecX.body (fn:=Tryz.f110) [1000,1001,1002] [1003] Y Y Y Y λw0 Z=> ?_;have hil:=(D5.1 hy).1;have hds:=fd.small;have hym:y∈d:=D7 hy;have hyl:=bH (fd.fine y hym).ok;have hyf:=fd.few y hym;have hxd:=bH hx.ok;have his:=zD sb lv cv mv d (i:Int);rw[show decide (0<=(i:Int)/\(i:Int)<d.length)=true from DD ⟨by omega,by omega⟩]at his;have hck:=jl x (by omega);rw[uR hx hxl]at hck;have hmi:=kw x y (by omega) (by
  have:(x.length+1)*(y.length+1)<=4097*4097:=Gs (by omega) (by omega);omega)
 rw[yO hx.ok (fd.fine y hym) hs]at hmi;have hsa:=ef x y (by omega);have hrow:(d.map cD)[((i:Nat):Int).toNat]? =some (cD y):=(by rw[DW,DE,hy];rfl);have hcl:=bR x (by omega);refine T.sub (Rel.derawp (s:=0) (g:=1000) Y Y Y) ?_;refine .B ?_;refine J.cx [0,1] [1000,1001] [] his ⟨rfl,⟨_,rfl,rfl,rfl⟩,rfl,⟨_,rfl,rfl,rfl⟩,trivial⟩ (λns hns=> ?_);refine .B ?_;refine T.cf Y ?_;refine .B ?_;refine .D hck ?_;refine T.cf Y ?_;refine .B ?_;refine J.sub (Rel.deraw (s:=24) (g:=1001) Y Y) ?_;refine .B ?_;refine J.io Y Y Y Y Y Y Y Y Y (by omega) (by simpa using hil) Y ?_;refine .B ?_;refine J.lo Y Y Y Y Y Y (r:=cD y) hrow Y ?_;refine .B ?_;refine .D hmi ?_;refine T.cf Y ?_;refine .B ?_;refine J.sub (Rel.deraw (s:=36) (g:=1001) Y Y) ?_;refine .B ?_;refine J.io Y Y Y Y Y Y Y Y Y (by omega) (by simpa using hil) Y ?_;refine .B ?_;refine J.lo Y Y Y Y Y Y (r:=cD y) hrow Y ?_;refine .B ?_;refine .D hsa ?_;by_cases hxy:x=y
 ·rw[DD hxy];refine .B ?_;refine T.sub (Rel.ecp 1003 1002 Y) ?_;refine T.cf Y ?_;refine .B ?_;have e1:chS ch i y x=ch:=D4 hxy;have e2:(d.set i x).map cD=d.map cD:=by
   rw[hxy];have:d.set i y=d:=by
    refine Ej λj=> ?_;by_cases hj:j=i;·rw[hj,E6 hil,hy]
    ·rw[Ds (Ne.symm hj)]
   rw[this]
  rw[e1,e2];exact⟨[0,1],[2],[cv],⟨rfl,⟨_,rfl,rfl,rfl⟩,rfl,⟨_,rfl,rfl,rfl⟩,trivial⟩,⟨rfl,⟨_,rfl,rfl,rfl⟩,trivial⟩,rfl,.val Y Y (λ_=>rfl) .nil⟩
 ·rw[DC hxy];refine .B ?_;refine T.ct Y ?_;refine .M ?_;refine T.K (?_:T _ _ ⟨[(0,.optr 0 0 0 0),(1,.val true (.int .i64 i)),(2,.val false (dm x)),(6,.val true (.int .i64 0)),(1000,.eq (.pointer (some ⟨sb,0,none⟩)) 0),(1001,.eq lv 1),(1002,.eq cv 2)],[(0,some (.box true [.raw lv,.raw cv,.raw mv])),(1,some (.sl 54 1 true (d.map cD))),(2,some (.sl 156 2 true (ch.map cCh)))],3⟩ _);refine T.rdw 19 Y (by kernel_rfl) Y ?_
  iterate 4 refine J.H Y ?_
  refine J.lr 1002 (q:=2) (u:=cv) Y Y Y Y Y Y Y Y Y ?_
  iterate 5 refine J.H Y ?_
  refine J.lr 1001 (q:=1) (u:=lv) Y Y Y Y Y Y Y Y Y ?_;refine .M ?_;refine J.io Y Y Y Y Y Y Y Y Y (by omega) (by simpa using hil) Y ?_;refine .M ?_;refine J.lo Y Y Y Y Y Y (r:=cD y) hrow Y ?_;refine .M ?_;refine .V ?_;refine J.ad Y Y Y Y Y Y Y Y Y Y Y Y Y Y Y Y Y Y (c9 Y) (by show(List.length _+1)*32<=_;simp;omega) ?_;refine .M ?_;refine⟨by kernel_rfl,?_⟩;refine J.name 1003 (s:=58) Y Y Y λu=> ?_;refine J.sub (Rel.raw (s:=58) (g:=1003) Y (.inl Y) Y Y Y) ?_;refine .W ?_;refine .M ?_;have e:ch.map cCh++[cCh ((i:Int),y)]=(chS ch i y x).map cCh:=(by unfold chS;rw[D2 hxy];simp);have e1:ch.map cCh++[[PV.int .i64 (i:Int),dm y]]=(chS ch i y x).map cCh:=e;refine T.K (?_:T _ _ ⟨[(0,.optr 0 0 0 0),(1,.val true (.int .i64 i)),(2,.val false (dm x)),(6,.val true (.int .i64 0)),(1000,.eq (.pointer (some ⟨sb,0,none⟩)) 0),(1001,.eq lv 1),(1003,.eq u 2)],[(0,some (.box true [.raw lv,.raw u,.raw mv])),(1,some (.sl 54 1 true (d.map cD))),(2,some (.sl 156 2 true (ch.map cCh++[[PV.int .i64 (i:Int),dm y]])))],3⟩ _);rw[e1];refine T.rdm 8 Y (by kernel_rfl) Y ?_
  iterate 4 refine J.H Y ?_
  refine J.lr 1001 (q:=1) (u:=lv) Y Y Y Y Y Y Y Y Y ?_;refine .M ?_;refine .C hcl.frz ?_;refine .M ?_;refine J.io Y Y Y Y Y Y Y Y Y (by omega) (by simpa using hil) Y ?_;refine .M ?_;refine J.w1 Y Y Y Y Y Y Y Y Y Y Y (enc:=cD) (z:=x) (λ_=>rfl) (by simpa using hil) ?_;refine .B ?_;exact⟨[0,1],[2],[u],⟨rfl,⟨_,rfl,rfl,rfl⟩,rfl,⟨_,rfl,rfl,rfl⟩,trivial⟩,⟨rfl,⟨_,rfl,rfl,rfl⟩,trivial⟩,rfl,.val Y Y (λ_=>rfl) .nil⟩
def gh (l:List (Int×List (Int×Int)))(d:aa):aa:=l.foldr (λc d=>d.set c.1.toNat c.2) d
theorem yb (l:List (Int×List (Int×Int)))(c:Int×List (Int×Int))(d:aa):gh (l++[c]) d=gh l (d.set c.1.toNat c.2):=by simp[gh]
theorem vB (sb:Nat)(lv cv mv:Value)(d:aa)(ch tail:List (Int×List (Int×Int)))(mk:List Int)(ht: ∀c∈tail,0<=c.1/\c.1<(d.length:Int))(hd:d.length<4611686018427387904)(hl:(ch++tail).length<4611686018427387904)(hm:mk.length<4611686018427387904):
  SpecXD Tryz.prog 116 [.pointer (some ⟨sb,0,none⟩),lv] [cv,mv] [.box true [.raw lv,.raw cv,.raw mv],.sl 54 1 true (d.map cD)] [.sl 156 2 true ((ch++tail).map cCh),.sl 3 1 true ((mk++[(ch.length:Int)]).map cI)] [(true,.raw (.pointer (some ⟨sb,0,none⟩)))]
  (λns=>[.box true [.raw lv,.raw (ns.getD 0 undef),.raw (ns.getD 1 undef)],.sl 54 1 true ((gh tail d).map cD)]) (λ_=>[.sl 156 2 true (ch.map cCh),.sl 3 1 true (mk.map cI)]) true (λ_=>[.int .i64 0]):=by
 refine SpecXD.body (fn:=Tryz.f116) [1000,1001,1002,1003] [1004,1005] Y Y Y Y λw0 Z=> ?_;refine T.sub (Rel.derawp (s:=0) (g:=1000) Y Y Y) ?_;refine T.known 1003 3 Y Y (by simp) λmb mc emv hmc hm0=> ?_;obtain rfl:mv= .slice (some ⟨mb,0,none⟩) (mk.length+1) mc:=(by rw[emv];simp);rw[D9,DX,EW]at hmc;clear emv;have emn:(((mk++[(ch.length:Int)]).map cI).length:Int)=(mk.length:Int)+1:=(by simp);have ew:IntKind.wrap .i64 ((mk.length:Int)+1-1)=(mk.length:Int):=(af (by omega) (by omega)).trans (by omega);refine .B ?_;refine J.sub (Rel.deraw (s:=8) (g:=1003) Y Y) ?_;refine .B ?_;refine T.cf2 Y (DC (by rw[emn];omega)) ?_;refine .M ?_;rw[emn];refine T.K (T.ind (λs:Value×List (Int×List (Int×Int))×aa=>⟨[(0,.optr 0 0 0 0),(3,.val true (.int .i64 (mk.length+1))),(1000,.eq (.pointer (some ⟨sb,0,none⟩)) 0),(1001,.eq lv 1),(1002,.eq s.1 2),(1003,.eq (.slice (some ⟨mb,0,none⟩) (mk.length+1) mc) 3)],[(0,some (.box true [.raw lv,.raw s.1,.raw (.slice (some ⟨mb,0,none⟩) (mk.length+1) mc)])),(1,some (.sl 54 1 true (s.2.2.map cD))),(2,some (.sl 156 2 true ((ch++s.2.1).map cCh))),(3,some (.sl 3 1 true ((mk++[(ch.length:Int)]).map cI)))],4⟩)
  (λs=>(∀c∈s.2.1,0<=c.1/\c.1<(d.length:Int))/\s.2.2.length=d.length/\gh s.2.1 s.2.2=gh tail d/\s.2.1.length<=tail.length) (λs=>s.2.1.length) (cv,tail,d) ⟨ht,rfl,rfl,DL _⟩ (λ_ _ h=>h) ?_)
 rintro⟨cu,tl,dd⟩ ⟨h1,h2,h3,h4⟩ ih;dsimp only at h1 h2 h3 h4 ih⊢;refine .M ?_;refine T.rdm 13 Y (by kernel_rfl) Y ?_
 iterate 3 refine J.H Y ?_
 refine J.lr 1002 (q:=2) (u:=cu) Y Y Y Y Y Y Y Y Y ?_
 iterate 4 refine J.H Y ?_
 refine J.lr 1003 (q:=3) (u:= .slice (some ⟨mb,0,none⟩) (mk.length+1) mc) Y Y Y Y Y Y Y Y Y ?_
 iterate 2 refine J.H Y ?_
 rw[ew];refine J.io Y Y Y Y Y Y Y Y Y (by omega) (by simp) rfl ?_;refine J.lo Y Y Y Y Y Y (r:=cI ch.length) (by rw[DW,DE,Dw (DL _),GI];rfl) Y ?_;refine .M ?_;have ecn: ∀l:List (Int×List (Int×Int)),(((ch++l).map cCh).length:Int)=(ch.length:Int)+l.length:=λl=>(by simp);rcases F9 tl with rfl|⟨tl,c,rfl⟩
 ·refine T.cf2 Y (DC (by rw[ecn];simp)) ?_;refine .M ?_;rw[ew];refine J.rs mk.length Y (by omega) hm0 Y Y Y Y Y Y Y Y ?_;refine .M ?_;refine .W ?_;refine J.sub (Rel.recut 1003 3 mk.length Y Y (by simp)) ?_;have etk:((mk++[(ch.length:Int)]).map cI).take mk.length=mk.map cI:=(by rw[<-G1,GU]);rw[etk,<-show dd=gh tail d from h3,Ex];refine J.sub (Rel.ecp 1004 1002 Y) ?_;refine J.sub (Rel.ecp 1005 1003 Y) ?_;refine .M ?_;exact⟨[0,1],[2,4],[cu,.slice (some ⟨mb,0,none⟩) mk.length mc],⟨rfl,⟨_,rfl,rfl,rfl⟩,rfl,⟨_,rfl,rfl,rfl⟩,trivial⟩,⟨rfl,⟨_,rfl,rfl,rfl⟩,rfl,⟨_,rfl,rfl,rfl⟩,trivial⟩,rfl,.val Y Y (λ_=>rfl) .nil⟩
 ·rw[F0]at*;refine T.ct2 Y (DD (by rw[ecn];simp;omega)) ?_;refine .M ?_;refine T.canon (keep:=[0,3,1000,1001,1002,1003]) (os:=[1000,1001,1002,1003]) Y ?_;refine T.rdm 13 Y (by kernel_rfl) Y ?_
  iterate 3 refine J.H Y ?_
  refine J.lr 1002 (q:=2) (u:=cu) Y Y Y Y Y Y Y Y Y ?_
  iterate 3 refine J.H Y ?_
  refine J.lr 1002 (q:=2) (u:=cu) Y Y Y Y Y Y Y Y Y ?_
  iterate 2 refine J.H Y ?_
  have ewl:IntKind.wrap .i64 ((((ch++(tl++[c])).map cCh).length:Int)-1)=((ch++tl).length:Int):=by
   rw[ecn,af (by simp;omega) (by simp at *;omega)];simp;omega
  rw[ewl];have hrow:((ch++(tl++[c])).map cCh)[(((ch++tl).length:Nat):Int).toNat]? =some (cCh c):=by
   rw[DW,DE,<-E4,Dw (DL _),GI];rfl
  refine J.io Y Y Y Y Y Y Y Y Y (by omega) (by simp;omega) Y ?_;refine J.lo Y Y Y Y Y Y (r:=cCh c) hrow Y ?_;refine .M ?_;refine .L ?_;refine .M ?_;refine .W ?_;refine .M ?_;refine T.K (?_:T _ _ ⟨[(0,.optr 0 0 0 0),(3,.val true (.int .i64 (mk.length+1))),(4,.optr 4 0 0 0),(1000,.eq (.pointer (some ⟨sb,0,none⟩)) 0),(1001,.eq lv 1),(1002,.eq cu 2),(1003,.eq (.slice (some ⟨mb,0,none⟩) (mk.length+1) mc) 3)],[(0,some (.box true [.raw lv,.raw cu,.raw (.slice (some ⟨mb,0,none⟩) (mk.length+1) mc)])),(1,some (.sl 54 1 true (dd.map cD))),(2,some (.sl 156 2 true ((ch++(tl++[c])).map cCh))),(3,some (.sl 3 1 true ((mk++[(ch.length:Int)]).map cI))),(4,some (.box true (cCh c)))],5⟩ _);refine T.known 1002 2 Y Y (by simp) λcb cc ecu hcc hc0=> ?_;have ecl:((ch++(tl++[c])).map cCh).length=(ch++tl).length+1:=(by simp;omega);rw[ecl]at ecu hcc;subst ecu;refine T.rdm 12 Y (by kernel_rfl) Y ?_
  iterate 8 refine J.H Y ?_
  refine J.lr 1002 (q:=2) (u:= .slice (some ⟨cb,0,none⟩) ((ch++tl).length+1) cc) Y Y Y Y Y Y Y Y Y ?_
  iterate 2 refine J.H Y ?_
  rw[ewl];refine J.rs (ch++tl).length Y (by omega) hc0 Y Y Y Y Y Y Y Y ?_;refine .M ?_;refine .W ?_;refine .M ?_;refine T.sub (Rel.recut 1002 2 (ch++tl).length Y Y (by rw[ecl];omega)) ?_;have etk:((ch++(tl++[c])).map cCh).take (ch++tl).length=(ch++tl).map cCh:=(by rw[<-G1,<-E4,GU]);rw[etk];have hcd:0<=c.1/\c.1<(d.length:Int):=h1 c (by simp);refine T.K (?_:T _ _ ⟨[(0,.optr 0 0 0 0),(3,.val true (.int .i64 (mk.length+1))),(4,.optr 4 0 0 0),(1000,.eq (.pointer (some ⟨sb,0,none⟩)) 0),(1001,.eq lv 1),(1002,.eq (.slice (some ⟨cb,0,none⟩) (ch++tl).length cc) 2),(1003,.eq (.slice (some ⟨mb,0,none⟩) (mk.length+1) mc) 3)],[(0,some (.box true [.raw lv,.raw (.slice (some ⟨cb,0,none⟩) (ch++tl).length cc),.raw (.slice (some ⟨mb,0,none⟩) (mk.length+1) mc)])),(1,some (.sl 54 1 true (dd.map cD))),(2,some (.sl 156 2 true ((ch++tl).map cCh))),(3,some (.sl 3 1 true ((mk++[(ch.length:Int)]).map cI))),(4,some (.box true (cCh c)))],5⟩ _);refine T.rdm 9 Y (by kernel_rfl) Y ?_
  iterate 4 refine J.H Y ?_
  refine J.lr 1001 (q:=1) (u:=lv) Y Y Y Y Y Y Y Y Y ?_;refine .M ?_;refine J.io Y Y Y Y Y Y Y Y Y hcd.1 (by rw[D9];omega) Y ?_;refine .M ?_;refine J.w1 Y Y Y Y Y Y Y Y Y Y Y (enc:=cD) (z:=c.2) (λ_=>rfl) (by rw[h2];omega) ?_;refine .M ?_;refine T.K (ih (.slice (some ⟨cb,0,none⟩) (ch++tl).length cc,tl,dd.set c.1.toNat c.2) ⟨λx hx=>h1 x (Do _ hx),by rw[E7];exact h2,by rw[<-yb];exact h3,by rw[DX]at h4;exact Du (H8 _ _) h4⟩ (by simp))
theorem yd (d:aa)(fd:FewD d)(hs: ∀x∈d,(vals x).length<=4096):
  SpecX Tryz.prog 65 [] [] [] [] [(false,aJ d)] (λ_=>[]) (λns=>[.box true [.raw (ns.getD 1 undef),.raw (ns.getD 2 undef),.raw (ns.getD 3 undef)],.sl 54 1 true (d.map cD),.sl 156 2 true [],.sl 3 1 true []]) true (λns=>[.raw (ns.getD 0 undef),.int .i64 0]):=by
 refine SpecX.body (fn:=Tryz.f65) [] [1000,1001,1002,1003] Y Y Y Y λw0 Z=> ?_;have hd:=fd.small
 iterate 1 (refine .A ?_;conv=>whnf)
 refine T.seq ?_;refine T.r ?_;refine J.bzr Y Y Y Y Y Y Y Y Y ?_;refine .M ?_;refine T.nameO 1000 0 Y Y λu=> ?_;refine T.sub (Rel.ownN 1001 54 1) ?_;refine T.sub (Rel.ownN 1002 156 2) ?_;refine T.sub (Rel.ownN 1003 3 1) ?_;refine T.K (T.ind (λs:Value×Nat=>⟨[(4,.optr 0 0 0 0),(10,.val false (aJ d)),(11,.val true (.int .i64 (d.map cD).length)),(12,.val true (.int .i64 s.2)),(1000,.eq u 0),(1001,.eq s.1 1),(1002,.eq (.slice none 0 0) 2),(1003,.eq (.slice none 0 0) 3)],[(0,some (.box true [.raw s.1,.raw (.slice none 0 0),.raw (.slice none 0 0)])),(1,some (.sl 54 1 true ((d.take s.2).map cD))),(2,some (.sl 156 2 true [])),(3,some (.sl 3 1 true []))],4⟩)
  (λs=>s.2<=d.length) (λs=>d.length-s.2) (.slice none 0 0,0) (Dz _) (λ_ _ h=>h) ?_)
 rintro⟨lv,i⟩ hi ih;dsimp only at hi ih⊢;by_cases h:i<d.length
 ·have hm:d[i]∈d:=D8 h;have hf:=fd.fine _ hm;have hxl:=bH hf.ok;have hxs:=hs _ hm;have hck:=jl d[i] (by have:=fd.few _ hm;omega);rw[uR hf (hs _ hm)]at hck;have hrow:(d.map cD)[((i:Nat):Int).toNat]? =some (cD d[i]):=(by rw[DW,DE,D1 h];rfl);refine .M ?_;refine T.ct2 Y (DD (by rw[D9];omega)) ?_;refine .M ?_;refine .I (r:=cD d[i]) hrow ?_;refine .M ?_;refine .C hck ?_;refine .M ?_;refine T.cf Y ?_;refine .M ?_;refine T.K (?_:T _ _ ⟨[(4,.optr 0 0 0 0),(6,.val false (dm d[i])),(10,.val false (aJ d)),(11,.val true (.int .i64 (d.map cD).length)),(12,.val true (.int .i64 i)),(1000,.eq u 0),(1001,.eq lv 1),(1002,.eq (.slice none 0 0) 2),(1003,.eq (.slice none 0 0) 3)],[(0,some (.box true [.raw lv,.raw (.slice none 0 0),.raw (.slice none 0 0)])),(1,some (.sl 54 1 true ((d.take i).map cD))),(2,some (.sl 156 2 true [])),(3,some (.sl 3 1 true []))],4⟩ _);refine T.rdw 13 Y (by kernel_rfl) Y ?_
  iterate 5 refine J.H Y ?_
  refine J.lr 1001 (q:=1) (u:=lv) Y Y Y Y Y Y Y Y Y ?_;refine .M ?_;refine .C (bR d[i] (by omega)).frz ?_;refine .M ?_;refine .V ?_;refine J.ad Y Y Y Y Y Y Y Y Y Y Y Y Y Y Y Y Y Y (c9 Y) (by show(List.length _+1)*24<=_;simp;omega) ?_;refine .M ?_;refine⟨by kernel_rfl,?_⟩;refine J.name 1004 (s:=30) Y Y Y λu2=> ?_;refine J.sub (Rel.raw (s:=30) (g:=1004) Y (.inl Y) Y Y Y) ?_;refine .W ?_;refine .M ?_;rw[ak h (by omega)];have e:(d.take i).map cD++[cD d[i]]=(d.take (i+1)).map cD:=(by rw[DB h,EC];rfl);refine T.K (?_:T _ _ ⟨[(4,.optr 0 0 0 0),(10,.val false (aJ d)),(11,.val true (.int .i64 (d.map cD).length)),(12,.val true (.int .i64 ((i+1:Nat):Int))),(1000,.eq u 0),(1002,.eq (.slice none 0 0) 2),(1003,.eq (.slice none 0 0) 3),(1004,.eq u2 1)],[(0,some (.box true [.raw u2,.raw (.slice none 0 0),.raw (.slice none 0 0)])),(1,some (.sl 54 1 true ((d.take i).map cD++[cD d[i]]))),(2,some (.sl 156 2 true [])),(3,some (.sl 3 1 true []))],4⟩ _);rw[e];refine T.sub (Rel.ecp 1001 1004 Y) ?_;exact T.K (ih (u2,i+1) h (by dsimp only;omega))
 ·obtain rfl:i=d.length:=(by omega);rw[E8];refine .M ?_;refine T.cf2 Y (DC (by rw[D9];omega)) ?_;refine T.sub (Rel.raw (s:=4) (g:=1000) Y (.inr Y) Y Y Y) ?_;refine .M ?_;exact⟨[],[0,1,2,3],[u,lv,.slice none 0 0,.slice none 0 0],trivial,⟨rfl,⟨_,rfl,rfl,rfl⟩,rfl,⟨_,rfl,rfl,rfl⟩,rfl,⟨_,rfl,rfl,rfl⟩,rfl,⟨_,rfl,rfl,rfl⟩,trivial⟩,rfl,.val Y Y (λ_=>rfl) (.val Y Y (λ_=>rfl) .nil)⟩
def gC {α:Type}(p:α->Bool)(l:List α):Int:=match l.findIdx? p with|some i=>(i:Int)|none=> -1
theorem pd {α:Type}(p:α->Bool)(l:List α):decide (gC p l>=0)=l.any p:=by
 unfold gC;cases h:l.findIdx? p with
 |none=>
  have:l.any p=false:=by
   rw[Fq];exact λx hx=>by simpa using EE.1 h x hx
  rw[this];rfl
 |some i=>
  have:l.any p=true:=by
   rw[EZ];obtain⟨h1,h2,_⟩:=Ec.1 h;exact⟨_,D8 h1,h2⟩
  rw[this];exact DD (Fh _)
theorem qW {α:Type}{p:α->Bool}{l pre post:List α}{v:α}{n:Nat}(h:l=pre++v::post)(hn:n=pre.length)(hi: ∀x∈pre,p x=false)(h2:p v=true):gC p l=(n:Int):=by
 unfold gC;rw[h,GD,EE.2 (by simpa using hi),FR,D4 h2];simp[hn]
theorem qV {α:Type}{p:α->Bool}{l:List α}(hi: ∀x∈l,p x=false):gC p l= -1:=by
 unfold gC;rw[EE.2 (by simpa using hi)]
theorem vk {α:Type}{p:α->Bool}{l:List α}{v:α}(hi: ∀x∈l,p x=false)(h2:p v=false): ∀x∈l++[v],p x=false:=by
 intro x hx;rcases DT.1 hx with hx|hx;·exact hi x hx
 ·rw[DG.1 hx];exact h2
theorem uF {p:List (Int×Int)->Bool}{f:FuncId}(caps:List PV)(l:List (List (Int×Int)))(hp: ∀v∈l,Spec Tryz.prog f false (dm v::caps) [.val (.bool (p v))])(hl:l.length*8<=140737488355328):Spec Tryz.prog 111 false [aJ l,.fn (.func f) [] caps] [.val (.int .i64 (gC p l))]:=by
 refine Spec.body Tryz.func111 Y Y Y λw0 Z0=> ?_;refine .B ?_;refine T.K (T.listI l (λpre=> ∀v∈pre,p v=false) (λn pre post=>⟨[(0,.val false (aJ l)),(1,.val false (.fn (.func f) [] caps)),(7,.val true (.int .i64 (l.map cD).length)),(8,.val true (.int .i64 n))],[],0⟩) (λ_ _ h=>h) (λv hv=>by cases hv) ?_ ?_)
 ·rintro n pre v post h hn hi ih;have hlt:=cg h hn;have hsp:=hp v (by rw[h];simp);refine .B ?_;refine T.ct2 Y (ce h hn) ?_;refine .B ?_;refine .F (r:=cD v) (aS h hn) ?_;refine .D hsp ?_;refine T.cond Y (λh2=> ?_) (λh2=> ?_)
  ·have h2:p v=true:=h2;refine .B ?_;rw[qW h hn hi h2];exact r1
  ·have h2:p v=false:=h2;refine .B ?_;rw[ak hlt (by omega)];exact T.K (ih (vk hi h2))
 ·intro hi;rw[qV hi];refine .B ?_;refine T.cf2 Y bA ?_;refine .B ?_;exact r1
theorem uD {p:List Int->Bool}{f:FuncId}(caps:List PV)(l:List (List Int))(hp: ∀v∈l,Spec Tryz.prog f false (ao v::caps) [.val (.bool (p v))])(hl:l.length*8<=140737488355328):Spec Tryz.prog 125 false [bT l,.fn (.func f) [] caps] [.val (.int .i64 (gC p l))]:=by
 refine Spec.body Tryz.func125 Y Y Y λw0 Z0=> ?_;refine .B ?_;refine T.K (T.listI l (λpre=> ∀v∈pre,p v=false) (λn pre post=>⟨[(0,.val false (bT l)),(1,.val false (.fn (.func f) [] caps)),(7,.val true (.int .i64 (l.map cL).length)),(8,.val true (.int .i64 n))],[],0⟩) (λ_ _ h=>h) (λv hv=>by cases hv) ?_ ?_)
 ·rintro n pre v post h hn hi ih;have hlt:=cg h hn;have hsp:=hp v (by rw[h];simp);refine .B ?_;refine T.ct2 Y (ce h hn) ?_;refine .B ?_;refine .F (r:=cL v) (aS h hn) ?_;refine .D hsp ?_;refine T.cond Y (λh2=> ?_) (λh2=> ?_)
  ·have h2:p v=true:=h2;refine .B ?_;rw[qW h hn hi h2];exact r1
  ·have h2:p v=false:=h2;refine .B ?_;rw[ak hlt (by omega)];exact T.K (ih (vk hi h2))
 ·intro hi;rw[qV hi];refine .B ?_;refine T.cf2 Y bA ?_;refine .B ?_;exact r1
theorem pD {p:List Int->Bool}{f:FuncId}(caps:List PV)(l:List (List Int))(hp: ∀v∈l,Spec Tryz.prog f false (ao v::caps) [.val (.bool (p v))])(hl:l.length*8<=140737488355328):Spec Tryz.prog 88 false [bT l,.fn (.func f) [] caps] [.val (.bool (l.any p))]:=by
 refine Spec.body Tryz.func88 Y Y Y λw0 Z0=> ?_;refine .B ?_;refine .D (uD caps l hp hl) ?_;exact⟨_,.v Y Y (congrArg PV.bool (pd p l)) (λ_=>rfl) .nil⟩
theorem eh {p:Int->Bool}{f:FuncId}(caps:List PV)(l:List (Int))(hp: ∀v∈l,Spec Tryz.prog f false (.int .i64 v::caps) [.val (.bool (p v))])(hl:l.length*8<=140737488355328):Spec Tryz.prog 129 false [ao l,.fn (.func f) [] caps] [.val (.bool (l.any p))]:=by
 refine Spec.body Tryz.func129 Y Y Y λw0 Z0=> ?_;refine .B ?_;refine .D (nb caps l hp hl) ?_;exact⟨_,.v Y Y (congrArg PV.bool (pd p l)) (λ_=>rfl) .nil⟩
theorem zg {cons:List Con}{d:aa}(gd:GoodD d.length d)(ht: ∀c∈cons,Takes leD (GoodD d.length) (bL c)):AllEnds cons d (f7 cons d):=by
 have key: ∀(k:Nat) (a:aa),Come leD (GoodD d.length) bL cons d a->weight a<k->∃R,AllEnds cons d R:=by
  intro k
  induction k with
  |zero=>intro a _ h;omega
  |succ k ih=>
   intro a hc hk;by_cases hs:eE bL cons a;·exact⟨some a,hc,hs⟩
   ·have: ∃c,c∈cons/\bL c a≠some a:=E0 λh=>hs λc hm=>E0 λe=>h ⟨c,hm,e⟩;obtain⟨c,hm,hne⟩:=this;cases he:bL c a with
    |none=>exact⟨none,hc.none hm (ht c hm) he⟩
    |some b=>
     obtain⟨g1,g2⟩:=(ht c hm).less a b hc.fine he;have:=(gG g1 hc.fine g2).2 (λe=>hne (by rw[he,e]));exact ih b (hc.step (aY _) hm (ht c hm) he) (by omega)
 obtain⟨R,hR⟩:=key _ d (Come.refl (aY _) gd) (Eh _);rw[<-fC hR];exact hR
theorem sZ: ∀{cons:List Con},(∀c∈cons,c.vars.length<=1024)->(cons.map λc=>(usesR c).length).sum<=cons.length*1025
 | [],_=>by simp
 |c::cons,h=>by
  have h1:=sZ λc hc=>h c (.tail _ hc);have h2:(usesR c).length<=1025:=by
   have h1:=fk (if c.kind=4 then c.vars++[c.b]else c.vars);have h2:(if c.kind=4 then c.vars++[c.b]else c.vars).length<=c.vars.length+1:=(by split<;>simp);have:=h c (.head _);unfold usesR;omega
  simp only[DZ,Eb,Dp];omega
theorem AK {e:aa}(hx: ∀x∈e,Fine x)(v:Int):aA (domAt e v):=by
 unfold domAt;by_cases hv:v.toNat<e.length
 ·rw[D0,D1 hv];exact(hx _ (D8 hv)).ok
 ·rw[D0,EB (by omega)];exact⟨by simp,.nil⟩
theorem oq {n:Nat}{d out:aa}{c:Con}(hc:ConB c)(gd:GoodD n d)(hx: ∀x∈out,Fine x)(hle:leD out d)(h:RightC d c):RightC out c:=by
 rcases h with h|⟨hk,hs⟩;·exact .inl (qh hc gd (λv _=>AK hx v) hle h)
 ·have hl:=hle.1;refine .inr ⟨hk,⟨hs.fine.len,hs.fine.vl,λv hv=>by rw[hl];exact hs.fine.vin v hv,hs.fine.ck,hx,by rw[hl];exact hs.fine.dl⟩,hs.nod,hs.pos,hs.op,hs.big⟩
structure RunOk (d:aa)(cons:List Con):Prop where
 gd:GoodD d.length d
 con: ∀c∈cons,c.vars.length<=1024/\ConB c
 right: ∀c∈cons,RightC d c
 prod:prodD d<=1048576
 few:cons.length<=4096
theorem RunOk.step {d:aa}{cons:List Con}(h:RunOk d cons){c:Con}(hc:c∈cons):StepOK d.length (usesR c) (λg=>(c.kind=4->0<=g c.b/\g c.b<=1)->holdsR c (kg d.length g)=true) (bL c):=tR h.gd (h.con c hc).2 (h.right c hc)
theorem RunOk.ends {d:aa}{cons:List Con}(h:RunOk d cons):AllEnds cons d (f7 cons d):=zg h.gd λc hc=>(h.step hc).takes
theorem RunOk.less {d e:aa}{cons:List Con}(h:RunOk d cons)(ge:GoodD d.length e)(hle:leD e d):RunOk e cons:=
 ⟨by rw[ge.len];exact ge,h.con,λc hc=>oq (h.con c hc).2 h.gd ge.few.fine hle (h.right c hc),Du (qp ge h.gd hle) h.prod,h.few⟩
theorem RunOk.sub {d:aa}{cons l:List Con}(h:RunOk d cons)(hs: ∀c∈l,c∈cons)(hf:l.length<=4096):RunOk d l:=⟨h.gd,λc hc=>h.con c (hs c hc),λc hc=>h.right c (hs c hc),h.prod,hf⟩
theorem Cw {d e:aa}{cons:List Con}(h:RunOk d cons)(hx: ∀x∈e,Fine x/\(vals x).length<=4096)(hle:leD e d):Spec Tryz.prog 67 false [aJ e,bF cons] (aX (f7 cons e)):=by
 have hel:=hle.1;have hd:=h.gd.few.small;have hfw:=h.few;have hu:=sZ λc hc=>(h.con c hc).1;have hok:ConsOk e cons:=⟨λc hc=>(h.con c hc).2,λc hc=>oq (h.con c hc).2 h.gd (λx hm=>(hx x hm).1) hle (h.right c hc),by omega,by omega⟩;exact ze e cons (by omega) hx hok λc hc out go hl=>by
  have ho:=h.less (by rw[<-hel];exact go) ((aY 0).trans _ _ _ hl hle);exact Cf ho.gd (ho.con c hc).2 (ho.right c hc) ho.prod
theorem GoodD.fx {n:Nat}{d:aa}(h:GoodD n d): ∀x∈d,Fine x/\(vals x).length<=4096:=λx hx=>⟨h.few.fine x hx,h.few.few x hx⟩
theorem leD.rfl' {d:aa}:leD d d:=(aY 0).refl d
theorem iZ {d e:aa}{cons:List Con}{a:List Int}(h:RunOk d cons)(ge:GoodD d.length e)(hle:leD e d)(hl:a.length=d.length)(hv: ∀u:Int,0<=u->u.toNat<d.length->vals (domAt e u)=[atR a u]):eE bL cons e↔∀c∈cons,holdsR c a=true:=by
 have he:=h.less ge hle;have key: ∀c∈cons,(bL c e=some e↔holdsR c a=true):=λc hc=>by
  have hs:=h.step hc;have hp:=hs.point e ge (atR a) λu hu=>hv u (hs.in' u hu).1 (hs.in' u hu).2;rw[hp,zE hl];refine⟨λhh=>hh λh4=> ?_,λhh _=>hh⟩;obtain⟨_,_,hr,hin⟩:=cQ (he.con c hc).2 ((he.right c hc).resolve_right λh=>by omega);have hb:=hin c.b (uses_mem.2 (.inr ⟨h4,rfl⟩));rw[ge.len]at hb;unfold rightR at hr;rw[D2 (by omega),D2 (by omega),D2 (by omega),D2 (by omega),D4 h4]at hr;simp only[DJ]at hr;exact(hI (ge.dok c.b)).1 hr.1.2 _ (by rw[hv c.b hb.1 hb.2];simp)
 exact⟨λhs c hc=>(key c hc).1 (hs c hc),λhh c hc=>(key c hc).2 (hh c hc)⟩
def nv (a:List Int):aa:=a.map λx=>[(x,x)]
theorem xz {n:Nat}{d:aa}(gd:GoodD n d){a:List Int}(hl:a.length=n)(ha: ∀i,i<n->a.getD i 0∈vals (d.getD i [])):GoodD n (nv a)/\leD (nv a) d/\∀u:Int,0<=u->u.toNat<n->vals (domAt (nv a) u)=[atR a u]:=by
 have hv: ∀u:Int,0<=u->u.toNat<n->vals (domAt (nv a) u)=[atR a u]:=λu h0 hu=>by
  unfold domAt nv atR;rw[D2 (by omega),D0,DE,D0,D1 (by omega)];simp[vals,bl]
 have hr: ∀x∈a,-1048576<=x/\x<=1048576:=λx hx=>by
  obtain⟨i,hi⟩:=DH hx;have hil:=(D5.1 hi).1;have h1:=ha i (by omega);rw[aL hil,(D5.1 hi).2]at h1;exact(gd.few.at (i:Int)).2.2 x (by unfold domAt;rw[DW];exact h1)
 refine⟨⟨⟨by have:=gd.few.small;have:=gd.len;simp[nv];omega,λx hx=> ?_,λx hx=> ?_⟩,by simp[nv,hl],by simp[nv]⟩,⟨by simp[nv,hl,gd.len],λv x h0 hx=> ?_⟩,hv⟩
 ·obtain⟨y,hy,rfl⟩:=DF.1 hx;exact AL (EN _) (hr y hy).1 (hr y hy).2
 ·obtain⟨y,hy,rfl⟩:=DF.1 hx;simp[vals,bl]
 ·by_cases hlt:v.toNat<n
  ·rw[hv v h0 hlt]at hx;have h1:=ha v.toNat hlt;have e:atR a v=a.getD v.toNat 0:=(by unfold atR;rw[D2 (by omega)]);rw[e]at hx;rw[DG.1 hx];exact h1
  ·rw[fY (by simp[nv];omega)]at hx;cases hx
theorem qd {n:Nat}{d:aa}(gd:GoodD n d){s:List Int}(h:cB d=some s):s.length=n/\∀u:Int,0<=u->u.toNat<n->vals (domAt d u)=[atR s u]:=by
 unfold cB at h;split at h
 ·rename_i h1;cases h;refine⟨by simp[gd.len],λu h0 hu=> ?_⟩;have hl:u.toNat<d.length:=(by rw[gd.len];exact hu);have h2:wm d[u.toNat]=true:=DI.1 h1 _ (D8 hl);have h2:(vals d[u.toNat]).length=1:=EL h2;unfold domAt atR;rw[D2 (by omega),D0,D0,DE,D1 hl];show vals d[u.toNat]=[az d[u.toNat]];obtain⟨x,hx⟩:=(lg (gd.few.fine _ (D8 hl)).ok).1 h2;rw[hx];simp[vals,bl,az]
 ·cases h
theorem RightM.run {b:Mod}(h:RightM b)(hp:prodD (domsM b)<=1048576):RunOk (domsM b) b.cons:=⟨h.good,λc hc=>⟨(h.b.cb c hc).1,h.con c hc⟩,λc hc=> .inl (h.right c hc),hp,by have:=h.b.cl;omega⟩
theorem B5 (b:Mod)(i:Nat)(hi:i<b.vars.length):dmM b i=(domsM b).getD i []:=by
 unfold dmM domsM;rw[D0,D0,DE,D1 hi];rfl
theorem dH {b:Mod}{a:List Int}:solvesR b a=true↔a.length=(domsM b).length/\(∀i,i<(domsM b).length->a.getD i 0∈vals ((domsM b).getD i []))/\∀c∈b.cons,holdsR c a=true:=by
 have hn:(domsM b).length=b.vars.length:=(by simp[domsM]);unfold solvesR;rw[DJ,DJ,DN,DI,DI,hn];refine⟨λ⟨h1,h2,h3⟩=>⟨h1,λi hi=> ?_,h3⟩,λ⟨h1,h2,h3⟩=>⟨h1,λi hi=> ?_,h3⟩⟩
 ·have:=h2 i (DM.2 (by omega));rw[DN,B5 b i hi]at this;exact this
 ·have hi:=DM.1 hi;rw[DN,B5 b i (by omega)];exact h2 i (by omega)
theorem nF {d:aa}{cons:List Con}(h:RunOk d cons){out:aa}(ho:f7 cons d=some out):GoodD d.length out/\leD out d/\eE bL cons out/\RunOk out cons/\f7 cons out=some out:=by
 have he:=h.ends;rw[ho]at he;obtain⟨hc,hs⟩:=he;have hr:=h.less hc.fine hc.less;refine⟨hc.fine,hc.less,hs,hr,?_⟩;refine(fC (R:=some out) ?_).symm;exact⟨Come.refl (aY _) hr.gd,hs⟩
structure Srch (σ:Type) where
 nodes:Nat
 short:Bool
 over:Bool
 st:σ
def openV (l:aa):Nat:=l.findIdx λx=>decide (1<(vals x).length)
noncomputable def lookG {σ:Type}(left:Int)(con:σ->List Con)(fnd:σ->List Int->σ×Bool):Nat->aa->Srch σ->Srch σ
 |0,_,s=>s
 |n+1,d,s=>
  if left<=(s.nodes:Int)then { s with short:=true,over:=true } else
  match f7 (con s.st) d with
  |none=> { s with nodes:=s.nodes+1 }
  |some l=>match cB l with
   |some a=> { s with nodes:=s.nodes+1,st:=(fnd s.st a).1,over:=(fnd s.st a).2 }
   |none=>(vals (l.getD (openV l) [])).foldl (λs x=>if s.over then s else lookG left con fnd n (l.set (openV l) [(x,x)]) s) { s with nodes:=s.nodes+1 }
theorem lf {n:Nat}{l:aa}(gl:GoodD n l)(h:cB l=none):openV l<l.length/\1<(vals (l.getD (openV l) [])).length/\∀i,i<openV l->(vals (l.getD i [])).length=1:=by
 have h1:l.all wm=false:=by
  unfold cB at h;split at h;·cases h
  ·rename_i h1;exact Bool.eq_false_iff.2 h1
 have h2: ∃x∈l,1<(vals x).length:=by
  obtain⟨x,hx,h2⟩:=FY.1 h1;refine⟨x,hx,?_⟩;have h3:=gl.one x hx;have h4:(vals x).length≠1:=λe=>h2 (DD e);omega
 obtain⟨x,hx,h2⟩:=h2;have h3:openV l<l.length:=List.findIdx_lt_length_of_exists ⟨x,hx,DD h2⟩;have hg: ∀i (hi:i<l.length),l.getD i []=l[i]:=λi hi=>(by rw[D0,D1 hi];rfl);refine⟨h3,?_,λi hi=> ?_⟩
 ·rw[hg _ h3];exact EL (List.findIdx_getElem (p:=λx=>decide (1<(vals x).length)) (w:=h3))
 ·have hil:i<l.length:=(by omega);rw[hg i hil];have h4:=List.not_of_lt_findIdx (p:=λx=>decide (1<(vals x).length)) (xs:=l) hi;have h5:=gl.one _ (D8 hil);simp only[decide_eq_false_iff_not,Gb]at h4;omega
theorem jm {n:Nat}{l:aa}{v:Nat}(gl:GoodD n l)(hv:v<l.length){x:Int}(hx:x∈vals (l.getD v [])):GoodD n (l.set v [(x,x)])/\leD (l.set v [(x,x)]) l/\(1<(vals (l.getD v [])).length->weight (l.set v [(x,x)])<weight l):=by
 have hg:l.getD v []=l[v]:=(by rw[D0,D1 hv];rfl);have hm:=D8 hv;have hr:=(gl.few.fine _ hm).val x (by rw[<-hg];exact hx);refine⟨⟨gl.few.one v hr,by rw[E7];exact gl.len,λhn=> ?_⟩,⟨by simp,λu y h0 hy=> ?_⟩,λh1=> ?_⟩
 ·rcases DV hn with h|h;·exact gl.some' h
  ·cases h
 ·by_cases hu:u.toNat=v
  ·unfold domAt at hy⊢;rw[D0,hu,E6 hv]at hy;rw[hu];simp[vals,bl]at hy;rw[hy];exact hx
  ·unfold domAt at hy⊢;rw[D0,Ds (Ne.symm hu)]at hy;rw[D0];exact hy
 ·have:=gY (d:=l) (i:=v) (y:=l[v]) [(x,x)] (D1 hv);have e:(vals [(x,x)]).length=1:=(by simp[vals,bl]);rw[hg]at h1;omega
inductive Reach {σ:Type}(fnd:σ->List Int->σ×Bool)(S:σ->List Int->Prop):σ->σ->Prop
 |refl (s:σ):Reach fnd S s s
 |step {s t:σ} {a:List Int}:Reach fnd S s t->S t a->Reach fnd S s (fnd t a).1
theorem Reach.trans {σ:Type}{fnd:σ->List Int->σ×Bool}{S:σ->List Int->Prop}{r s t:σ}(h:Reach fnd S r s)(k:Reach fnd S s t):Reach fnd S r t:=by
 induction k with
 |refl=>exact h
 |step _ hs ih=>exact ih.step hs
theorem Reach.keep {σ:Type}{fnd:σ->List Int->σ×Bool}{S:σ->List Int->Prop}{s t:σ}{P:σ->Prop}(h:Reach fnd S s t)(hs:P s)(hstep: ∀u a,P u->S u a->P (fnd u a).1):P t:=by
 induction h with
 |refl=>exact hs
 |step _ hs2 ih=>exact hstep _ _ ih hs2
def vq {σ:Type}(d0:aa)(con:σ->List Con)(t:σ)(a:List Int):Prop:= ∃e,GoodD d0.length e/\leD e d0/\eE bL (con t) e/\cB e=some a
structure SrchOK {σ:Type}(d0:aa)(con:σ->List Con)(fnd:σ->List Int->σ×Bool)(I:σ->Prop):Prop where
 run: ∀st,I st->RunOk d0 (con st)
 step: ∀st a,I st->vq d0 con st a->I (fnd st a).1
theorem jE {α β:Type}{f:β->α->β}{Q:β->Prop}: ∀{l:List α},(∀s x,x∈l->Q s->Q (f s x))->∀{s:β},Q s->Q (l.foldl f s)
 | [],_,s,h=>h
 |x::l,hf,s,h=>jE (λs y hy=>hf s y (.tail _ hy)) (hf s x (.head _) h)
def jU (k:Nat):Nat:=if k=1 then 1 else k+1
def nodeF (d:aa):Nat:=dC (d.map λx=>jU (vals x).length)
theorem tI {l:List Nat}{v:Nat}(hv:v<l.length)(y:Nat):dC (l.set v y)=dC (l.take v)*(y*dC (l.drop (v+1)))/\dC l=dC (l.take v)*(l[v]*dC (l.drop (v+1))):=by
 constructor;·rw[List.set_eq_take_append_cons_drop,D4 hv,fo,dC]
 ·conv=>lhs;rw[<-FP v l,DQ hv]
  rw[fo,dC]
theorem oF: ∀{l m:List Nat},l.length=m.length->(∀(i:Nat) x y,l[i]? =some x->m[i]? =some y->x<=y)->dC l<=dC m
 | [],[],_,_=>DL _
 |x::l,y::m,hl,h=>Gs (h 0 x y rfl rfl) (oF (by simpa using hl) λi u v hu hv=>h (i+1) u v hu hv)
 | [],_::_,hl,_=>by simp at hl
 |_::_,[],hl,_=>by simp at hl
theorem wu {n:Nat}{a b:aa}(ga:GoodD n a)(gb:GoodD n b)(h:leD a b):nodeF a<=nodeF b:=by
 refine oF (by simp[h.1]) λi x y hx hy=> ?_;obtain⟨x',hx',rfl⟩: ∃x',a[i]? =some x'/\jU (vals x').length=x:=(by simpa using hx);obtain⟨y',hy',rfl⟩: ∃y',b[i]? =some y'/\jU (vals y').length=y:=(by simpa using hy);have hs:=(h.sub ga gb).2 i x' y' hx' hy';have hm:=D7 hx';have h1:=ga.one x' hm;have h2:=bS (aF (ga.few.fine x' hm).ok) hs;unfold jU;split<;>split<;>omega
theorem qy {n:Nat}{d:aa}(gd:GoodD n d):1<=nodeF d:=qo λx hx=>by
 obtain⟨y,hy,rfl⟩:=DF.1 hx;unfold jU;split<;>omega
theorem tT {n:Nat}{l:aa}{v:Nat}(gl:GoodD n l)(hv:v<l.length)(h1:1<(vals (l.getD v [])).length)(x:Int):nodeF l=((vals (l.getD v [])).length+1)*nodeF (l.set v [(x,x)]):=by
 have hg:l.getD v []=l[v]:=(by rw[D0,D1 hv];rfl);rw[hg]at h1⊢;unfold nodeF;rw[Fz];have e1:jU (vals [(x,x)]).length=1:=(by simp[vals,bl,jU]);rw[e1];have hv2:v<(l.map λx=>jU (vals x).length).length:=(by simpa using hv);obtain⟨a,b⟩:=tI hv2 1;rw[a,b,FV];have e2:jU (vals l[v]).length=(vals l[v]).length+1:=(by unfold jU;rw[D2 (by omega)]);rw[e2,Nat.one_mul,Nat.mul_left_comm]
section
variable {σ:Type}{left:Int}{d0:aa}{con:σ->List Con}{fnd:σ->List Int->σ×Bool}{I:σ->Prop}
theorem rU (h:SrchOK d0 con fnd I){d:aa}(gd:GoodD d0.length d)(hle:leD d d0){st:σ}(hi:I st){l:aa}(hl:f7 (con st) d=some l):GoodD d0.length l/\leD l d/\leD l d0/\eE bL (con st) l:=by
 have hr:=(h.run st hi).less gd hle;obtain⟨g1,g2,g3,_,_⟩:=nF hr hl;rw[gd.len]at g1;exact⟨g1,g2,(aY 0).trans _ _ _ g2 hle,g3⟩
structure Goes (left:Int)(d0:aa)(con:σ->List Con)(fnd:σ->List Int->σ×Bool)(I:σ->Prop)(F:Nat)(s r:Srch σ):Prop where
 inv:I r.st
 reach:Reach fnd (vq d0 con) s.st r.st
 nodes:s.nodes<=r.nodes
 most:r.nodes=s.nodes∨(r.nodes:Int)<=left
 keep:s.short=true->r.short=true
 now:s.short=false->r.short=true->r.over=true/\left<s.nodes+F/\left<=r.nodes
 few:r.nodes<=s.nodes+F
theorem oV (h:SrchOK d0 con fnd I): ∀(n:Nat) (d:aa) (s:Srch σ),weight d<n->GoodD d0.length d->leD d d0->I s.st->Goes left d0 con fnd I (nodeF d) s (lookG left con fnd n d s)
 |0,d,s,hw,_,_,_=>by omega
 |n+1,d,s,hw,gd,hle,hi=>by
  have hF:=qy gd;rw[lookG];split
  ·rename_i hleft;exact⟨hi,.refl _,DL _,.inl Y,λ_=>rfl,λ_ _=>⟨rfl,by omega,hleft⟩,H8 _ _⟩
  ·rename_i hleft;split;·exact⟨hi,.refl _,Nat.le_succ _,.inr (by show((s.nodes+1:Nat):Int)<=left;omega),λh=>h,λh1 h2=>(by rw[h1]at h2;cases h2),by show s.nodes+1<=_;omega⟩
   ·rename_i l hl;obtain⟨gl,hld,hl0,hst⟩:=rU h gd hle hi hl;split
    ·rename_i a ha;have hf:vq d0 con s.st a:=⟨l,gl,hl0,hst,ha⟩;exact⟨h.step _ _ hi hf,.step (.refl _) hf,Nat.le_succ _,.inr (by show((s.nodes+1:Nat):Int)<=left;omega),λh=>h,λh1 h2=>(by rw[h1]at h2;cases h2),by show s.nodes+1<=_;omega⟩
    ·rename_i hno;obtain⟨hv,h1,_⟩:=lf gl hno;have hFm:=wu gl gd hld;generalize openV l=v at*;have hFc:=tT gl hv h1;obtain⟨x0,hx0⟩: ∃x,x∈vals (l.getD v []):=Gf (by omega);have hC: ∀x,nodeF (l.set v [(x,x)])=nodeF (l.set v [(x0,x0)]):=λx=>by
      have a:=hFc x;rw[hFc x0]at a;exact(Nat.eq_of_mul_eq_mul_left (by omega) a).symm
     have hF0:=hFc x0;have hpos:=qy (jm gl hv hx0).1;have hchild:=λx (hx:x∈vals (l.getD v []))=>jm gl hv hx;generalize hxs:vals (l.getD v [])=xs at*;generalize nodeF (l.set v [(x0,x0)])=C at*;have key: ∀(ys:List Int) (t:Srch σ),(∀y∈ys,y∈xs)->I t.st->Goes left d0 con fnd I (ys.length*C) t (ys.foldl (λs x=>if s.over=true then s else lookG left con fnd n (l.set v [(x,x)]) s) t):=by
      intro ys
      induction ys with
      |nil=>intro t _ ht;exact⟨ht,.refl _,DL _,.inl Y,λh=>h,λh1 h2=>(by rw[HG,h1]at h2;cases h2),by simp⟩
      |cons y ys ih=>
       intro t hys ht;rw[Dn];by_cases ho:t.over=true
       ·rw[D4 ho];obtain⟨a1,a2,a3,a4,a5,a6,a7⟩:=ih t (λz hz=>hys z (.tail _ hz)) ht;have e:(y::ys).length*C=ys.length*C+C:=(by rw[Dp,Fo]);exact⟨a1,a2,a3,a4,a5,λb1 b2=>by have:=a6 b1 b2;exact⟨this.1,by omega,this.2.2⟩,by omega⟩
       ·rw[D2 ho];have hy:=hys y (.head _);obtain⟨c1,c2,c3⟩:=hchild y hy;have hlc:leD (l.set v [(y,y)]) d0:=(aY 0).trans _ _ _ c2 hl0;have hlw:=(gG gl gd hld).1;have g:=oV h n (l.set v [(y,y)]) t (by have:=c3 h1;omega) c1 hlc ht;rw[hC y]at g;obtain⟨b1,b2,b3,b4,b5,b6,b7⟩:=g;generalize lookG left con fnd n (l.set v [(y,y)]) t=u at*;obtain⟨a1,a2,a3,a4,a5,a6,a7⟩:=ih u (λz hz=>hys z (.tail _ hz)) b1;have e:(y::ys).length*C=ys.length*C+C:=(by rw[Dp,Fo]);refine⟨a1,b2.trans a2,by omega,?_,λh=>a5 (b5 h),λd1 d2=> ?_,by omega⟩
        ·rcases a4 with a4|a4
         ·rcases b4 with b4|b4;·exact .inl (by omega)
          ·exact .inr (by rw[a4];exact b4)
         ·exact .inr a4
        ·cases hu:u.short with
         |true=>
          obtain⟨e1,e2,e3⟩:=b6 d1 hu;have eu:ys.foldl (λs x=>if s.over=true then s else lookG left con fnd n (l.set v [(x,x)]) s) u=u:=by
           refine jE (Q:=λs=>s=u) (λs x _ hs=> ?_) Y;rw[hs,D4 e1]
          rw[eu];exact⟨e1,by omega,e3⟩
         |false=>
          obtain⟨e1,e2,e3⟩:=a6 hu d2;exact⟨e1,by omega,e3⟩
     obtain⟨a1,a2,a3,a4,a5,a6,a7⟩:=key xs { s with nodes:=s.nodes+1 } (λ_ h=>h) hi;have e:(xs.length+1)*C=xs.length*C+C:=Fo _ _;exact⟨a1,a2,by have a3:s.nodes+1<=_:=a3;omega,by
      rcases a4 with a4|a4;·exact .inr (by rw[a4];show((s.nodes+1:Nat):Int)<=left;omega)
      ·exact .inr a4,a5,λb1 b2=>by
       obtain⟨e1,e2,e3⟩:=a6 b1 b2;have e2:left<((s.nodes+1:Nat):Int)+((xs.length*C:Nat):Int):=(by exact_mod_cast e2);exact⟨e1,by omega,e3⟩,by have a7:_<=s.nodes+1+xs.length*C:=a7;omega⟩
end
theorem pj {σ:Type}{f:Srch σ->Int->Srch σ}: ∀{l:List Int} {s:Srch σ},s.over=true->l.foldl (λs x=>if s.over=true then s else f s x) s=s
 | [],_,_=>rfl
 |x::l,s,h=>by rw[Dn,D4 h];exact pj h
section
variable {σ:Type}{left left':Int}{d0:aa}{con:σ->List Con}{fnd:σ->List Int->σ×Bool}{I:σ->Prop}
end
def eX (cons:List Con)(d:aa):List (List Int):=(bq d d.length).filter λa=>cons.all λc=>holdsR c a
theorem mD {α β:Type}(p:α->Bool)(f:α->List β): ∀l:List α,(l.filter p).flatMap f=l.flatMap λa=>if p a=true then f a else []
 | []=>rfl
 |a::l=>by
  rw[GH,F2];by_cases h:p a=true;·rw[D4 h,D4 h,F2,mD p f l]
  ·rw[D2 h,D2 h,Ea,mD p f l]
theorem lM {α β:Type}{f g:α->List β}: ∀{l:List α},(∀a∈l,f a=g a)->l.flatMap f=l.flatMap g
 | [],_=>rfl
 |a::l,h=>by rw[F2,F2,h a (.head _),lM λb hb=>h b (.tail _ hb)]
theorem xt {b:List Int}{v:Int}{i:Nat}(h:i<b.length):(b++[v]).getD i 0=b.getD i 0:=by simp[D0,E9 h]
theorem xu {b:List Int}{v:Int}{n:Nat}(h:b.length=n):(b++[v]).getD n 0=v:=by subst h;simp[D0]
theorem lJ {d:aa}: ∀{n:Nat} {a:List Int},a∈bq d n↔a.length=n/\∀i,i<n->a.getD i 0∈vals (d.getD i [])
 |0,a=>by simp[bq]
 |n+1,a=>by
  simp only[bq,FG,DF];constructor
  ·rintro⟨b,hb,v,hv,rfl⟩;obtain⟨h1,h2⟩:=lJ.1 hb;refine⟨by simp[h1],λi hi=> ?_⟩;by_cases h:i=n
   ·subst h;rw[xu h1];exact hv
   ·rw[xt (by omega)];exact h2 i (by omega)
  ·rintro⟨h1,h2⟩;refine⟨a.take n,lJ.2 ⟨by simp[h1],λi hi=> ?_⟩,a.getD n 0,h2 n (by omega),?_⟩
   ·have e:(a.take n).getD i 0=a.getD i 0:=(by simp[D0,Ez hi]);rw[e];exact h2 i (by omega)
   ·rw[D0,D1 (by omega)];simp only[Ed];rw[<-DB (by omega),DS (by omega)]
theorem qY {n:Nat}{l d:aa}(gl:GoodD n l)(gd:GoodD n d)(hle:leD l d): ∀k,k<=n->bq l k=(bq d k).filter λa=>(List.range k).all λi=>decide (a.getD i 0∈vals (l.getD i []))
 |0,_=>by simp[bq]
 |k+1,hk=>by
  have ih:=qY gl gd hle k (by omega);have hsub:vals (l.getD k [])=(vals (d.getD k [])).filter λv=>decide (v∈vals (l.getD k [])):=by
   have hu1:Up (vals (l.getD k [])):=(gl.few.at (k:Int)).2.1;have hu2:Up (vals (d.getD k [])):=(gd.few.at (k:Int)).2.1;refine dG hu1 (hu2.filter _) λv=> ?_;rw[EH,DN];exact⟨λh=>⟨hle.2 (k:Int) v (by omega) h,h⟩,λh=>h.2⟩
  rw[bq,ih,bq,List.filter_flatMap];rw[mD];refine lM λa ha=> ?_;have hal:=qZ d k a ha;have e1: ∀v:Int,∀i,i<k->(a++[v]).getD i 0=a.getD i 0:=λv i hi=>xt (by omega);have e2: ∀v:Int,(a++[v]).getD k 0=v:=λv=>xu hal;have e3: ∀v:Int,((List.range (k+1)).all λi=>decide ((a++[v]).getD i 0∈vals (l.getD i [])))=(((List.range k).all λi=>decide (a.getD i 0∈vals (l.getD i [])))&&decide (v∈vals (l.getD k []))):=λv=>by
   rw[G0,Er];simp only[Fb,List.all_nil,Gc,e2];congr 1;rw[FD,DI,DI];exact⟨λh i hi=>by have:=h i hi;rwa[e1 v i (DM.1 hi)]at this,λh i hi=>by rw[e1 v i (DM.1 hi)];exact h i hi⟩
  rw[List.filter_map];have e4:((λb:List Int=>(List.range (k+1)).all λi=>decide (b.getD i 0∈vals (l.getD i [])))∘λv=>a++[v])=λv=>(((List.range k).all λi=>decide (a.getD i 0∈vals (l.getD i [])))&&decide (v∈vals (l.getD k []))):=funext e3;rw[e4];cases (List.range k).all λi=>decide (a.getD i 0∈vals (l.getD i []))with
  |false=>simp
  |true=>simp only[if_true,EU];rw[<-hsub]
theorem wM {l:aa}{v:Nat}(hv:v<l.length)(h1: ∀i,i<v->(vals (l.getD i [])).length=1): ∀k,v<k->k<=l.length->bq l k=(vals (l.getD v [])).flatMap λx=>bq (l.set v [(x,x)]) k:=by
 have hlow: ∀(x:Int) k,k<=v->bq (l.set v [(x,x)]) k=bq l k:=λx k=>by
  induction k with
  |zero=>intro _;rfl
  |succ k ih=>
   intro hk;rw[bq,bq,ih (by omega)];have:(l.set v [(x,x)]).getD k []=l.getD k []:=(by rw[D0,Ds (by omega),<-D0]);rw[this]
 have hone: ∀k,k<=v->∃p,bq l k=[p]:=λk=>by
  induction k with
  |zero=>intro _;exact⟨[],rfl⟩
  |succ k ih=>
   intro hk;obtain⟨p,hp⟩:=ih (by omega);obtain⟨y,hy⟩:=Fa.1 (h1 k (by omega));exact⟨p++[y],by rw[bq,hp,hy];rfl⟩
 intro k hk hkl
 induction k with
 |zero=>omega
 |succ k ih=>
  by_cases he:k=v
  ·subst he;obtain⟨p,hp⟩:=hone k (DL _);rw[bq,hp];simp only[F2,List.flatMap_nil,Ex];rw[<-List.flatMap_singleton' ((vals (l.getD k [])).map λv=>p++[v]),List.flatMap_map];refine lM λx _=> ?_;rw[bq,hlow x k (DL _),hp];have:vals ((l.set k [(x,x)]).getD k [])=[x]:=(by rw[D0,E6 hv];simp[vals,bl]);rw[this];rfl
  ·rw[bq,ih (by omega) (by omega),List.flatMap_assoc];refine lM λx _=> ?_;rw[bq];have:(l.set v [(x,x)]).getD k []=l.getD k []:=(by rw[D0,Ds (by omega),<-D0]);rw[this]
theorem zM {cons:List Con}{d:aa}{a:List Int}:a∈eX cons d↔(a.length=d.length/\∀i,i<d.length->a.getD i 0∈vals (d.getD i []))/\∀c∈cons,holdsR c a=true:=by
 rw[eX,EH,lJ,DI]
theorem yk {d:aa}{cons:List Con}(h:RunOk d cons)(hn:f7 cons d=none):eX cons d=[]:=by
 rw[F6];intro a ha;obtain⟨⟨h1,h2⟩,h3⟩:=zM.1 ha;obtain⟨g1,g2,g3⟩:=xz h.gd h1 h2;have he:=h.ends;rw[hn]at he;exact he ⟨nv a,g1,g2,(iZ h g1 g2 h1 g3).2 h3⟩
theorem yj {d l:aa}{cons:List Con}(h:RunOk d cons)(hl:f7 cons d=some l):eX cons d=eX cons l:=by
 obtain⟨g1,g2,g3,g4,_⟩:=nF h hl;have hlen:l.length=d.length:=g1.len;unfold eX;rw[hlen,qY g1 h.gd g2 d.length (DL _),List.filter_filter];refine H1 λa ha=> ?_;obtain⟨h1,h2⟩:=lJ.1 ha;cases hh:cons.all λc=>holdsR c a with
 |false=>simp
 |true=>
  rw[DI]at hh;rw[EU,eq_comm,DI];intro i hi;have hi:=DM.1 hi;obtain⟨p1,p2,p3⟩:=xz h.gd h1 h2;have he:=h.ends;rw[hl]at he;have:=he.1.keep (nv a) p1 p2 ((iZ h p1 p2 h1 p3).2 hh);have h4:=this.2 (i:Int) (atR a i) (by omega) (by rw[p3 i (by omega) (by omega)];simp);unfold domAt atR at h4;rw[D2 (by omega),DW]at h4;rw[DN];exact h4
theorem zL {l:aa}{cons:List Con}(h:RunOk l cons)(hs:eE bL cons l){a:List Int}(ha:cB l=some a):eX cons l=[a]:=by
 obtain⟨s1,s2⟩:=qd h.gd ha;have hh:=(iZ h h.gd leD.rfl' s1 s2).1 hs;have hv: ∀i,i<l.length->vals (l.getD i [])=[a.getD i 0]:=λi hi=>by
  have:=s2 (i:Int) (by omega) (by omega);unfold domAt atR at this;rwa[D2 (by omega),DW]at this
 have hg: ∀k,k<=l.length->bq l k=[a.take k]:=λk=>by
  induction k with
  |zero=>intro _;rfl
  |succ k ih=>
   intro hk;rw[bq,ih (by omega),hv k (by omega),DB (by omega),D0,D1 (by omega)];rfl
 unfold eX;rw[hg _ (DL _),DS (by omega),GH,D4 (DI.2 hh),List.filter_nil]
theorem vJ {l:aa}{cons:List Con}{v:Nat}(hv:v<l.length)(h1: ∀i,i<v->(vals (l.getD i [])).length=1):eX cons l=(vals (l.getD v [])).flatMap λx=>eX cons (l.set v [(x,x)]):=by
 unfold eX;rw[wM hv h1 l.length hv (DL _),List.filter_flatMap];simp only[E7]
def ny (st:List (List Int))(a:List Int):List (List Int)×Bool:=(st++[a],false)
theorem Au {d0:aa}{cons:List Con}(h:RunOk d0 cons):SrchOK d0 (λ_=>cons) ny λ_=>True:=⟨λ_ _=>h,λ_ _ _ _=>trivial⟩
theorem qJ {left:Int}{d0:aa}{cons:List Con}(h:RunOk d0 cons): ∀(n:Nat) (d:aa) (s:Srch (List (List Int))),weight d<n->GoodD d0.length d->leD d d0->s.over=false->(lookG left (λ_=>cons) ny n d s).over=false->(lookG left (λ_=>cons) ny n d s).st=s.st++eX cons d
 |0,d,s,hw,_,_,_,_=>by omega
 |n+1,d,s,hw,gd,hle,hso,hov=>by
  have hrun:=h.less gd hle;rw[lookG]at hov⊢;split
  ·rename_i hleft;rw[D4 hleft]at hov;cases hov
  ·rename_i hleft;rw[D2 hleft]at hov;split at hov
   ·rename_i hl;show s.st=_;rw[yk hrun hl,Ex]
   ·rename_i l hl;obtain⟨g1,g2,g3,g4,_⟩:=nF hrun hl;rw[yj hrun hl];split at hov
    ·rename_i b hb;rw[zL g4 g3 hb];rfl
    ·rename_i hno;have gl:GoodD d0.length l:=(by rw[gd.len]at g1;exact g1);have hl0:=(aY 0).trans _ _ _ g2 hle;obtain⟨hv,h1,hlow⟩:=lf gl hno;rw[vJ hv hlow];generalize openV l=v at*;have hchild:=λx (hx:x∈vals (l.getD v []))=>jm gl hv hx;have hlw:=(gG gl gd g2).1;generalize vals (l.getD v [])=xs at*;have key: ∀(ys:List Int) (t:Srch (List (List Int))),(∀y∈ys,y∈xs)->t.over=false->(ys.foldl (λs x=>if s.over=true then s else lookG left (λ_=>cons) ny n (l.set v [(x,x)]) s) t).over=false->
       (ys.foldl (λs x=>if s.over=true then s else lookG left (λ_=>cons) ny n (l.set v [(x,x)]) s) t).st=t.st++ys.flatMap λx=>eX cons (l.set v [(x,x)]):=by
      intro ys
      induction ys with
      |nil=>intro t _ _ _;simp
      |cons y ys ih=>
       intro t hys hto hov;rw[Dn]at hov⊢;rw[D2 (by rw[hto];simp)]at hov⊢;obtain⟨c1,c2,c3⟩:=hchild y (hys y (.head _));have hu:(lookG left (λ_=>cons) ny n (l.set v [(y,y)]) t).over=false:=by
        cases hu:(lookG left (λ_=>cons) ny n (l.set v [(y,y)]) t).over with
        |false=>rfl
        |true=>rw[pj hu,hu]at hov;cases hov
       have e:=qJ h n (l.set v [(y,y)]) t (by have:=c3 h1;omega) c1 ((aY 0).trans _ _ _ c2 hl0) hto hu;rw[ih _ (λz hz=>hys z (.tail _ hz)) hu hov,e,F2,E4]
     exact key xs _ (λ_ h=>h) hso hov
theorem wi (x:List (Int×Int))(hf:Fine x):Spec Tryz.prog 112 false [dm x] [.val (.bool (decide (1<(vals x).length)))]:=by
 have hsz:=gI x (by have:=hf.len;omega);rw[od hf]at hsz;refine Spec.body Tryz.func112 Y Y Y λw0 Z0=> ?_;refine .B ?_;refine .D hsz ?_;exact⟨_,.v Y Y (congrArg PV.bool (by by_cases h:1<(vals x).length<;>simp[h]<;>omega)) (λ_=>rfl) .nil⟩
def Ad (d:aa):Int:=gC (λx=>decide (1<(vals x).length)) d
theorem yH (d:aa)(fd:FewD d):Spec Tryz.prog 71 false [aJ d] [.val (.int .i64 (Ad d))]:=by
 refine Spec.body Tryz.func71 Y Y Y λw0 Z0=> ?_;refine .B ?_;refine .D (uF (p:=λx=>decide (1<(vals x).length)) (f:=112) [] d (λv hv=>wi v (fd.fine v hv)) (by have:=fd.small;omega)) ?_;exact r1
theorem Ac {n:Nat}{l:aa}(gl:GoodD n l)(h:cB l=none):Ad l=(openV l:Nat):=by
 obtain⟨h1,h2,_⟩:=lf gl h;unfold Ad gC openV;have:l.findIdx? (λx=>decide (1<(vals x).length))=some (openV l):=List.findIdx?_eq_some_of_exists (by
  refine⟨l[openV l],D8 h1,?_⟩;have hg:l.getD (openV l) []=l[openV l]:=(by rw[D0,D1 h1];rfl);rw[hg]at h2;exact DD h2)
 rw[this];rfl
def dx:Nat->aa->aa->List (Int×List (Int×Int))
 |i,y::d,x::l=>(if x=y then []else [((i:Int),y)])++dx (i+1) d l
 |_,_,_=>[]
theorem ux: ∀(d l pre:aa),d.length=l.length->gh (dx pre.length d l) (pre++l)=pre++d
 | [],[],pre,_=>rfl
 |y::d,x::l,pre,h=>by
  have ih:=ux d l (pre++[x]) (by simpa using h);rw[E4,DX,EW,E4]at ih;unfold dx;by_cases e:x=y
  ·subst e;rw[D4 Y];exact ih
  ·rw[D2 e];show((gh (dx (pre.length+1) d l) (pre++x::l)).set _ _)=_;have ih:gh (dx (pre.length+1) d l) (pre++x::l)=pre++x::d:=ih;rw[ih];simp
 | [],_::_,_,h=>by simp at h
 |_::_,[],_,h=>by simp at h
theorem AD: ∀(d l:aa) (i:Nat),∀c∈dx i d l,(i:Int)<=c.1/\c.1<(i+d.length:Nat)
 |y::d,x::l,i,c,h=>by
  unfold dx at h;rcases DT.1 h with h|h
  ·split at h;·cases h
   ·rw[DG.1 h];exact⟨EN _,by simp;omega⟩
  ·have:=AD d l (i+1) c h;rw[Dp];omega
 | [],_,_,c,h=>by simp[dx]at h
 |_::_,[],_,c,h=>by simp[dx]at h
theorem nN: ∀(d l:aa) (i:Nat),(dx i d l).length<=d.length
 |y::d,x::l,i=>by
  unfold dx;have:=nN d l (i+1);rw[DX,Dp];split<;>simp<;>omega
 | [],_,_=>by simp[dx]
 |_::_,[],_=>by simp[dx]
theorem uy (x y:List (Int×Int)): ∀(d l:aa) (i:Nat),d.length=l.length->dx i (d++[y]) (l++[x])=dx i d l++(if x=y then []else [((i+d.length:Nat):Int)].map λi=>(i,y))
 |y'::d,x'::l,i,h=>by
  have ih:=uy x y d l (i+1) (by simpa using h);simp only[Ei,dx,ih,E4,Dp];rw[show i+1+d.length=i+(d.length+1)by omega]
 | [],[],i,_=>by simp[dx]
 | [],_::_,_,h=>by simp at h
 |_::_,[],_,h=>by simp at h
theorem Bz (ch:List (Int×List (Int×Int)))(d l:aa)(x y:List (Int×Int))(h:d.length=l.length):chS (ch++dx 0 d l) d.length y x=ch++dx 0 (d++[y]) (l++[x]):=by
 rw[uy x y d l 0 h,Ew];unfold chS;split<;>simp
abbrev kV (m:Mod)(sp:Value)(cons:List Con)(left:Int)(nodes:Int)(short enough:Bool)(found:PV):Own:= .box false [.sl (m.vars.map cV),bF m.cons,.int .i64 m.goal.kind,ao m.goal.vars,ao m.goal.coefs,.raw sp,bF cons,.int .i64 left,.int .i64 nodes,.bool short,.bool enough,found]
abbrev sV (lv cv mv:Value):Own:= .box true [.raw lv,.raw cv,.raw mv]
abbrev dV (d:aa):Own:= .sl 54 1 true (d.map cD)
abbrev chV (ch:List (Int×List (Int×Int))):Own:= .sl 156 2 true (ch.map cCh)
abbrev mkV (mk:List Int):Own:= .sl 3 1 true (mk.map cI)
abbrev pV (b:Nat):Value:= .pointer (some ⟨b,0,none⟩)
theorem AC {ch:List (Int×List (Int×Int))}{d l:aa}{i:Nat}(hl:(ch.length+d.length+1)*32<=140737488355328)(h:i<d.length):((ch++dx 0 (d.take i) (l.take i)).length+1)*32<=140737488355328:=by
 have htl:=nN (d.take i) (l.take i) 0;have e1:(d.take i).length<=i:=(by rw[Dx];exact Nat.min_le_left _ _);have e2:(ch++dx 0 (d.take i) (l.take i)).length=ch.length+(dx 0 (d.take i) (l.take i)).length:=DX;exact Du (EA 32 (by omega)) hl
set_option maxHeartbeats 1000000 in
theorem AB (kb sb:Nat)(lv cv mv:Value)(m:Mod)(cons:List Con)(left nodes:Int)(short enough:Bool)(found:PV)(d l:aa)(ch:List (Int×List (Int×Int)))(fd:FewD d)(fl:FewD l)(hdl:d.length=l.length)(hs: ∀(i:Nat) (x y:List (Int×Int)),l[i]? =some x->d[i]? =some y->∀v∈vals x,v∈vals y)(hl:(ch.length+d.length+1)*32<=140737488355328):
  SpecX Tryz.prog 70 [pV kb,pV sb,lv] [cv] [kV m (pV sb) cons left nodes short enough found,sV lv cv mv,dV d] [chV ch] [(true,.raw (pV kb)),(false,aJ l)]
  (λns=>[kV m (pV sb) cons left nodes short enough found,sV lv (ns.getD 0 undef) mv,dV l]) (λ_=>[chV (ch++dx 0 d l)]) true (λ_=>[]):=by
 refine SpecX.body (fn:=Tryz.f70) [1000,1001,1002,1003] [1003] Y Y Y Y λw0 Z=> ?_;refine T.sub (Rel.derawp (s:=0) (g:=1000) Y Y Y) ?_;refine .B ?_;rw[show chV ch=chV (ch++dx 0 (d.take 0) (l.take 0))by simp[dx]];refine T.K (T.ind (λs:Value×Nat=>⟨[(0,.optr 0 0 0 0),(6,.val false (aJ l)),(7,.val true (.int .i64 (l.map cD).length)),(8,.val true (.int .i64 s.2)),(1000,.eq (pV kb) 0),(1001,.eq (pV sb) 1),(1002,.eq lv 2),(1003,.eq s.1 3)],[(0,some (kV m (pV sb) cons left nodes short enough found)),(1,some (sV lv s.1 mv)),(2,some (dV (l.take s.2++d.drop s.2))),(3,some (chV (ch++dx 0 (d.take s.2) (l.take s.2))))],4⟩)
  (λs=>s.2<=l.length) (λs=>l.length-s.2) (cv,0) (Dz _) (λ_ _ h=>h) ?_)
 rintro⟨cu,i⟩ hi ih;dsimp only at hi ih⊢;have hlen:=fl.small;by_cases h:i<l.length
 ·have hid:i<d.length:=(by omega);have hrow:(l.map cD)[((i:Nat):Int).toNat]? =some (cD l[i]):=(by rw[DW,DE,D1 h];rfl);have hne: ∀x∈l.take i++d.drop i,x∈l∨x∈d:=λx hx=>(DT.1 hx).imp Eg Et;have fd':FewD (l.take i++d.drop i):=⟨by rw[DX,Dx,GX];omega,λx hx=>(hne x hx).elim (fl.fine x) (fd.fine x),λx hx=>(hne x hx).elim (fl.few x) (fd.few x)⟩;have hat:(l.take i++d.drop i)[i]? =some d[i]:=by
   rw[Dw (by rw[Dx];omega),Dx,ES (by omega),GI,Ff,F1,D1 hid]
  have hsv:=hs i l[i] d[i] (D1 h) (D1 hid);have hset:=p7 sb lv cu mv (l.take i++d.drop i) (ch++dx 0 (d.take i) (l.take i)) i l[i] d[i] fd' hat (fl.fine _ (D8 h)) (fl.few _ (D8 h)) hsv (AC hl hid);have e1:(l.take i++d.drop i).set i l[i]=l.take (i+1)++d.drop (i+1):=by
   rw[G2 _ _ (by rw[Dx];omega),Dx,ES (by omega),GI,DQ hid,GO,DB h,E4];rfl
  have e2:chS (ch++dx 0 (d.take i) (l.take i)) i d[i] l[i]=ch++dx 0 (d.take (i+1)) (l.take (i+1)):=by
   have:=Bz ch (d.take i) (l.take i) l[i] d[i] (by rw[Dx,Dx];omega);rw[Dx,ES (by omega)]at this;rw[this,DB h,DB hid]
  rw[e1,e2]at hset;refine .M ?_;refine T.ct2 Y (DD (by rw[D9];omega)) ?_;refine .M ?_;refine .I (r:=cD l[i]) hrow ?_;refine .M ?_;refine J.cx [1,2,3] [1001,1002,1003] [1004] hset ⟨rfl,⟨_,rfl,rfl,rfl⟩,rfl,⟨_,rfl,rfl,rfl⟩,rfl,⟨_,rfl,rfl,rfl⟩,trivial⟩ (λns hns=> ?_);obtain⟨u,rfl⟩:=yW hns Y;refine .M ?_;rw[ak h (by omega)];refine T.sub (Rel.ecp 1003 1004 Y) ?_;exact T.K (ih (u,i+1) h (by dsimp only;omega))
 ·obtain rfl:i=l.length:=(by omega);rw[E8,<-hdl,E8,EY,Ex,hdl];refine .M ?_;refine T.cf2 Y (DC (by rw[D9];omega)) ?_;refine .M ?_;exact⟨[0,1,2],[3],[cu],⟨rfl,⟨_,rfl,rfl,rfl⟩,rfl,⟨_,rfl,rfl,rfl⟩,rfl,⟨_,rfl,rfl,rfl⟩,trivial⟩,⟨rfl,⟨_,rfl,rfl,rfl⟩,trivial⟩,rfl,.nil⟩
theorem au (c:Own):c.reg c.fr=c:=by cases c<;>rfl
theorem aC (c:Own):(!c.fr||c.fr)=true:=by cases c.fr<;>rfl
structure Fnd (σ:Type) where
 f:FuncId
 caps:List PV
 p1:Value
 p2:Value
 p3:Value
 c1:σ->Value->Value->Own
 c2:σ->Value->Value->Own
 c3:σ->Value->Value->Own
 d1:σ->Own
 d2:σ->Own
 con:σ->List Con
 fnd:σ->List Int->σ×Bool
 sz:σ->Nat
abbrev Fnd.pv {σ:Type}(F:Fnd σ):PV:= .fn (.func F.f) [] F.caps
abbrev vo {σ:Type}(F:Fnd σ)(kb sb:Nat)(m:Mod)(left:Int)(f:FuncId)(args:List (Bool×PV))(lv cv mv g1 g2:Value)(d e:aa)(ch ch':List (Int×List (Int×Int)))(mk:List Int)(s r:Srch σ):Prop:=
 SpecX Tryz.prog f [pV kb,pV sb,lv,F.p1,F.p2,F.p3] [cv,mv,g1,g2] [kV m (pV sb) (F.con s.st) left s.nodes s.short s.over F.pv,sV lv cv mv,dV d,F.c1 s.st g1 g2,F.c2 s.st g1 g2,F.c3 s.st g1 g2] [chV ch,mkV mk,F.d1 s.st,F.d2 s.st] args
  (λns=>[kV m (pV sb) (F.con r.st) left r.nodes r.short r.over F.pv,sV lv (ns.getD 0 undef) (ns.getD 1 undef),dV e,F.c1 r.st (ns.getD 2 undef) (ns.getD 3 undef),F.c2 r.st (ns.getD 2 undef) (ns.getD 3 undef),F.c3 r.st (ns.getD 2 undef) (ns.getD 3 undef)])
  (λ_=>[chV ch',mkV mk,F.d1 r.st,F.d2 r.st]) true (λ_=>[])
abbrev nE {σ:Type}(F:Fnd σ)(kb sb:Nat)(m:Mod)(left:Int)(sl:List (Nat×SV))(lv cv mv g1 g2:Value)(d:aa)(ch:List (Int×List (Int×Int)))(mk:List Int)(s:Srch σ):St:=
 ⟨sl++[(1000,.eq (pV kb) 0),(1001,.eq (pV sb) 1),(1002,.eq lv 2),(1003,.eq F.p1 3),(1004,.eq F.p2 4),(1005,.eq F.p3 5),(1006,.eq cv 6),(1007,.eq mv 7),(1008,.eq g1 8),(1009,.eq g2 9)],[(0,some (kV m (pV sb) (F.con s.st) left s.nodes s.short s.over F.pv)),(1,some (sV lv cv mv)),(2,some (dV d)),(3,some (F.c1 s.st g1 g2)),(4,some (F.c2 s.st g1 g2)),(5,some (F.c3 s.st g1 g2)),(6,some (chV ch)),(7,some (mkV mk)),(8,some (F.d1 s.st)),(9,some (F.d2 s.st))],10⟩
theorem AA {ns:List Value}{n:Nat}(h:ns.length=n)(hn:n=4): ∃a b c d,ns=[a,b,c,d]:=by
 subst hn
 match ns,h with
 | [a,b,c,d],_=>exact⟨a,b,c,d,rfl⟩
theorem C1 {ns:List Value}{n:Nat}(h:ns.length=n)(hn:n=2): ∃a b,ns=[a,b]:=by
 subst hn
 match ns,h with
 | [a,b],_=>exact⟨a,b,rfl⟩
set_option maxHeartbeats 1000000 in
theorem w6 {σ:Type}(F:Fnd σ)(kb sb:Nat)(m:Mod)(left:Int)(lv cv mv g1 g2:Value)(l e:aa)(ch tail:List (Int×List (Int×Int)))(mk:List Int)(s r:Srch σ)(v:Nat)(x:Int)(y:List (Int×Int))
  (fl:FewD l) (hy:l[v]? =some y) (hx:x∈vals y) (hne: [(x,x)]≠y) (hlm:(mk.length+1)*8<=140737488355328) (hlc:((ch++[((v:Int),y)]++tail).length+1)*32<=140737488355328) (hel:e.length=l.length) (hlt: ∀c∈tail,0<=c.1/\c.1<(l.length:Int)) (hun:gh tail e=l.set v [(x,x)])
  (hlook: ∀cv mv,vo F kb sb m left 37 [(true,.raw (pV kb))] lv cv mv g1 g2 (l.set v [(x,x)]) e (ch++[((v:Int),y)]) (ch++[((v:Int),y)]++tail) (mk++[(ch.length:Int)]) s r):
  vo F kb sb m left 73 [(true,.raw (pV kb)),(true,.int .i64 v),(true,.int .i64 x)] lv cv mv g1 g2 l l ch ch mk s r:=by
 have hvl:=(D5.1 hy).1;have hym:y∈l:=D7 hy;have hxr:=(fl.fine y hym).val x hx;have hmark:=λmv=>vA sb lv cv mv ch mk hlm;have hfx:Fine [(x,x)]:=by
  have:=fl.one v hxr;exact this.fine _ (Fk.2 ⟨v,E6 hvl⟩)
 have hset:=λmv=>p7 sb lv cv mv l ch v [(x,x)] y fl hy hfx (by simp[vals,bl]) (by simpa[vals,bl]using hx) (Du (EA 32 (by simp)) hlc);have e1:chS ch v y [(x,x)]=ch++[((v:Int),y)]:=D2 hne;rw[e1]at hset;have hback:=λcv mv=>vB sb lv cv mv e ch ([((v:Int),y)]++tail) mk (λc hc=>by
  rcases DT.1 hc with hc|hc;·rw[DG.1 hc];exact⟨Fh _,by show(v:Int)<_;omega⟩
  ·have:=hlt c hc;omega) (by have:=fl.small;omega) (by rw[<-E4];omega) (by omega)
 have e2:gh ([((v:Int),y)]++tail) e=l:=by
  show(gh tail e).set ((v:Int)).toNat y=l;rw[DW,hun,List.set_set];refine Ej λj=> ?_;by_cases hj:j=v;·rw[hj,E6 hvl,hy]
  ·rw[Ds (Ne.symm hj)]
 rw[e2,<-E4]at hback;refine SpecX.bodyD (fn:=Tryz.f73) (σ:=Value) (τ:=Value×Value×Value×Value) (v:=pV sb) (x:= .tmp 14) (fx:=true)
  (E1:=λmv=>nE F kb sb m left [(0,.optr 0 0 0 0),(1,.val true (.int .i64 v)),(2,.val true (.int .i64 x))] lv cv mv g1 g2 l ch (mk++[(ch.length:Int)]) s)
  (E2:=λmv=>nE F kb sb m left [(0,.optr 0 0 0 0),(1,.val true (.int .i64 v)),(2,.val true (.int .i64 x)),(14,.val true (.raw (pV sb)))] lv cv mv g1 g2 l ch (mk++[(ch.length:Int)]) s)
  (E3:=λt=>nE F kb sb m left [] lv t.1 t.2.1 t.2.2.1 t.2.2.2 e (ch++[((v:Int),y)]++tail) (mk++[(ch.length:Int)]) r)
  (us2:=[pV sb,lv]) (gs2:=λt=>[t.1,t.2.1]) (cs2:=λt=>[sV lv t.1 t.2.1,dV e]) (ds2:=λt=>[chV (ch++[((v:Int),y)]++tail),mkV (mk++[(ch.length:Int)])])
  (cs2':=λt ns=>[sV lv (ns.getD 0 undef) (ns.getD 1 undef),dV l]) (news2:=λt _=>[chV ch,mkV mk]) (res2:=λ_=>[.int .i64 0])
  4 [1000,1001,1002,1003,1004,1005,1006,1007,1008,1009] [1010,1011,1008,1009] [1001,1002,1006,1007] [1010,1011] [1,2,6,7] Y Y Y Y Y Y Y Y Y (λw0 Z=> ?_) (λw0 Z mv=> ?_) (λmv=>rfl) (λw0 Z mv=> ?_) (λt=>hback t.1 t.2.1) Y (λt=> ?_) (λt=>rfl) Y (λt ns hns=> ?_)
 ·refine T.sub (Rel.derawp (s:=0) (g:=1000) Y Y Y) ?_;refine T.r ?_
  iterate 4 refine J.H Y ?_
  refine J.cx [1,6,7] [1001,1006,1007] [1007] (hmark mv) ⟨rfl,⟨_,rfl,rfl,rfl⟩,rfl,⟨_,rfl,rfl,rfl⟩,rfl,⟨_,rfl,rfl,rfl⟩,trivial⟩ (λns hns=> ?_);obtain⟨u,rfl⟩:=yW hns Y;refine J.sub (Rel.canon (keep:=[0,1,2,1000,1001,1002,1003,1004,1005,1006,1007,1008,1009]) (os:=[1000,1001,1002,1003,1004,1005,1006,1007,1008,1009]) Y) ?_;exact J.nil ⟨rfl,u,rfl⟩
 ·iterate 4 refine J.H Y ?_
  refine J.sub (Rel.canon (keep:=[0,1,2,14,1000,1001,1002,1003,1004,1005,1006,1007,1008,1009]) (os:=[1000,1001,1002,1003,1004,1005,1006,1007,1008,1009]) Y) ?_;exact J.nil Y
 ·refine .M ?_;refine .V ?_;refine J.cx [1,2,6] [1001,1002,1006] [1006] (hset mv) ⟨rfl,⟨_,rfl,rfl,rfl⟩,rfl,⟨_,rfl,rfl,rfl⟩,rfl,⟨_,rfl,rfl,rfl⟩,trivial⟩ (λns hns=> ?_);obtain⟨u,rfl⟩:=yW hns Y;refine .M ?_;refine J.cx [0,1,2,3,4,5,10,7,8,9] [1000,1001,1002,1003,1004,1005,1006,1007,1008,1009] [1006,1007,1008,1009] (hlook u mv) ⟨rfl,⟨_,rfl,rfl,rfl⟩,rfl,⟨_,rfl,rfl,rfl⟩,rfl,⟨_,rfl,rfl,rfl⟩,rfl,⟨_,rfl,au _,aC _⟩,rfl,⟨_,rfl,au _,aC _⟩,rfl,⟨_,rfl,au _,aC _⟩,rfl,⟨_,rfl,rfl,rfl⟩,rfl,⟨_,rfl,rfl,rfl⟩,rfl,⟨_,rfl,au _,aC _⟩,rfl,⟨_,rfl,au _,aC _⟩,trivial⟩ (λns hns=> ?_);obtain⟨a,b,c,d,rfl⟩:=AA hns Y;refine J.sub (Rel.canon (keep:=[1000,1001,1002,1003,1004,1005,1006,1007,1008,1009]) (os:=[1000,1001,1002,1003,1004,1005,1006,1007,1008,1009]) Y) ?_;exact J.nil ⟨.inl Y,(a,b,c,d),rfl⟩
 ·exact⟨rfl,⟨_,rfl,rfl,rfl⟩,rfl,⟨_,rfl,rfl,rfl⟩,rfl,⟨_,rfl,rfl,rfl⟩,rfl,⟨_,rfl,rfl,rfl⟩,trivial⟩
 ·obtain⟨a,b,rfl⟩:=C1 hns Y;exact⟨[0,1,2,3,4,5],[10,11,8,9],[a,b,t.2.2.1,t.2.2.2],⟨rfl,⟨_,rfl,rfl,rfl⟩,rfl,⟨_,rfl,rfl,rfl⟩,rfl,⟨_,rfl,rfl,rfl⟩,rfl,⟨_,rfl,au _,aC _⟩,rfl,⟨_,rfl,au _,aC _⟩,rfl,⟨_,rfl,au _,aC _⟩,trivial⟩,⟨rfl,⟨_,rfl,rfl,rfl⟩,rfl,⟨_,rfl,rfl,rfl⟩,rfl,⟨_,rfl,au _,aC _⟩,rfl,⟨_,rfl,au _,aC _⟩,trivial⟩,rfl,.nil⟩
theorem uw: ∀l:List (Bool×PV),leX l l=true
 | []=>rfl
 |p::l=>by
  simp only[leX,uw l,Gc];cases p.1<;>rfl
structure FndOK {σ:Type}(F:Fnd σ)(kb sb:Nat)(m:Mod)(left:Int)(d0:aa)(I:σ->Prop):Prop where
 ok: ∀(t:σ) (a:List Int) (g1 g2:Value) (nodes:Int) (short over:Bool),I t->F.sz t<=1099511627776->vq d0 F.con t a->
  SpecX Tryz.prog F.f [pV kb,F.p1,F.p2,F.p3] [g1,g2] [kV m (pV sb) (F.con t) left nodes short over F.pv,F.c1 t g1 g2,F.c2 t g1 g2,F.c3 t g1 g2] [F.d1 t,F.d2 t] ((true,ao a)::zp false F.caps)
  (λns=>[kV m (pV sb) (F.con (F.fnd t a).1) left nodes short over F.pv,F.c1 (F.fnd t a).1 (ns.getD 0 undef) (ns.getD 1 undef),F.c2 (F.fnd t a).1 (ns.getD 0 undef) (ns.getD 1 undef),F.c3 (F.fnd t a).1 (ns.getD 0 undef) (ns.getD 1 undef)]) (λ_=>[F.d1 (F.fnd t a).1,F.d2 (F.fnd t a).1]) true (λ_=>[.bool (F.fnd t a).2])
theorem uh {σ:Type}{left:Int}{con:σ->List Con}{fnd:σ->List Int->σ×Bool}{sz:σ->Nat}(hz: ∀t a,sz (fnd t a).1<=sz t+1): ∀(n:Nat) (d:aa) (s:Srch σ),sz s.st<=s.nodes->sz (lookG left con fnd n d s).st<=(lookG left con fnd n d s).nodes
 |0,d,s,h=>h
 |n+1,d,s,h=>by
  rw[lookG];split;·exact h
  ·split;·exact H2 h
   ·split;·exact Du (hz _ _) (Nat.succ_le_succ h)
    ·refine jE (Q:=λs:Srch σ=>sz s.st<=s.nodes) (λs x _ h=> ?_) (H2 h);split;·exact h
     ·exact uh hz n _ _ h
noncomputable def iP {σ:Type}(left:Int)(con:σ->List Con)(d:aa)(s:Srch σ):aa×List (Int×List (Int×Int)):=
 if left<=(s.nodes:Int)then(d,[])else match f7 (con s.st) d with
 |none=>(d,[])
 |some l=>match cB l with
  |some _=>(d,[])
  |none=>(l,dx 0 d l)
theorem As {σ:Type}{left:Int}{d0:aa}{con:σ->List Con}{fnd:σ->List Int->σ×Bool}{I:σ->Prop}(h:SrchOK d0 con fnd I){d:aa}(gd:GoodD d0.length d)(hle:leD d d0){s:Srch σ}(hi:I s.st):
  (iP left con d s).1.length=d.length/\(iP left con d s).2.length<=d.length/\(∀c∈(iP left con d s).2,0<=c.1/\c.1<(d.length:Int))/\gh (iP left con d s).2 (iP left con d s).1=d:=by
 unfold iP;split;·exact⟨rfl,Dz _,λc hc=>(by cases hc),rfl⟩
 ·split;·exact⟨rfl,Dz _,λc hc=>(by cases hc),rfl⟩
  ·rename_i l hl;obtain⟨gl,_⟩:=rU h gd hle hi hl;split;·exact⟨rfl,Dz _,λc hc=>(by cases hc),rfl⟩
   ·have e:d.length=l.length:=gd.len.trans gl.len.symm;refine⟨e.symm,nN d l 0,λc hc=> ?_,?_⟩
    ·have:=AD d l 0 c hc;rw[Ew]at this;exact⟨by omega,this.2⟩
    ·have:=ux d l [] e;simpa using this
theorem q9 {σ:Type}{f:Srch σ->Int->Srch σ}: ∀(l:List Int) (s:Srch σ),s.over=true->l.foldl (λs x=>if s.over then s else f s x) s=s
 | [],s,_=>rfl
 |x::l,s,h=>by rw[Dn,D4 h];exact q9 l s h
def Cv {α:Type}(a b:List α):List α:=match b with| []=>a|c::t=>a++c::t
theorem sL {α:Type}(a b:List α):Cv a b=a++b:=by cases b<;>simp[Cv]
set_option maxHeartbeats 4000000 in
theorem qI {σ:Type}(F:Fnd σ)(kb sb:Nat)(m:Mod)(left:Int)(d0:aa)(I:σ->Prop)(hS:SrchOK d0 F.con F.fnd I)(hF:FndOK F kb sb m left d0 I)(hz: ∀t a,F.sz (F.fnd t a).1<=F.sz t+1)(hleft:left<=1099511627776)(hdl:d0.length<=1024):
  ∀(n:Nat) (d:aa) (s:Srch σ) (lv cv mv g1 g2:Value) (ch:List (Int×List (Int×Int))) (mk:List Int),weight d<n->GoodD d0.length d->leD d d0->I s.st->F.sz s.st<=s.nodes->s.over=false->mk.length+n<=1048576->ch.length+n*1026<=1073741824->
  vo F kb sb m left 37 [(true,.raw (pV kb))] lv cv mv g1 g2 d (iP left F.con d s).1 ch (Cv ch (iP left F.con d s).2) mk s (lookG left F.con F.fnd n d s):=by
 intro n
 induction n with
 |zero=>intro d s lv cv mv g1 g2 ch mk hw;omega
 |succ n ihn=>
  intro d s lv cv mv g1 g2 ch mk hw gd hle hi hsn hov hmk hch;refine SpecX.body (fn:=Tryz.f37) [1000,1001,1002,1003,1004,1005,1006,1007,1008,1009] [1006,1007,1008,1009] Y Y Y Y λw0 Z=> ?_;refine T.sub (Rel.derawp (s:=0) (g:=1000) Y Y Y) ?_;obtain⟨r,hr⟩: ∃r,r=lookG left F.con F.fnd (n+1) d s:=⟨_,rfl⟩;obtain⟨e,he⟩: ∃e,e=iP left F.con d s:=⟨_,rfl⟩;rw[<-hr,<-he];rw[lookG]at hr;unfold iP at he;refine T.sub (Rel.canon (keep:=[0,1000,1001,1002,1003,1004,1005,1006,1007,1008,1009]) (os:=[1000,1001,1002,1003,1004,1005,1006,1007,1008,1009]) Y) ?_;refine .B ?_;refine T.cd Y (λh=> ?_) (λh=> ?_)
  ·rw[D4 h]at hr he;subst hr he;refine .B ?_;refine .X ?_;refine .X ?_;exact⟨[0,1,2,3,4,5],[6,7,8,9],[cv,mv,g1,g2],⟨rfl,⟨_,rfl,rfl,rfl⟩,rfl,⟨_,rfl,rfl,rfl⟩,rfl,⟨_,rfl,rfl,rfl⟩,rfl,⟨_,rfl,au _,aC _⟩,rfl,⟨_,rfl,au _,aC _⟩,rfl,⟨_,rfl,au _,aC _⟩,trivial⟩,⟨rfl,⟨_,rfl,rfl,rfl⟩,rfl,⟨_,rfl,rfl,rfl⟩,rfl,⟨_,rfl,au _,aC _⟩,rfl,⟨_,rfl,au _,aC _⟩,trivial⟩,rfl,.nil⟩
  rw[D2 h]at hr he;refine .B ?_;rw[af (by omega) (by omega),<-Int.natCast_succ];refine .W ?_;refine .M ?_;refine T.K (?_:T _ _ (nE F kb sb m left [(0,.optr 0 0 0 0)] lv cv mv g1 g2 d ch mk { s with nodes:=s.nodes+1 }) _);have fd:=gd.few;have hall:=(Cw (hS.run s.st hi) (e:=d) (λx hx=>⟨fd.fine x hx,fd.few x hx⟩) hle).frz;refine T.rdm 16 Y (by kernel_rfl) Y ?_
  iterate 3 refine J.H Y ?_
  refine J.lp 1001 (q:=1) (b:=sb) Y ?_
  iterate 2 refine J.H Y ?_
  refine J.cb 1002 (ye d fd).frz ?_
  iterate 4 refine J.H Y ?_
  refine .C hall ?_;refine .M ?_;clear hall;cases hR:f7 (F.con s.st) d with
  |none=>
   rw[hR]at hr he;dsimp only at hr he;subst hr he;refine T.ct Y ?_;refine .M ?_;exact⟨[0,1,2,3,4,5],[6,7,8,9],[cv,mv,g1,g2],⟨rfl,⟨_,rfl,rfl,rfl⟩,rfl,⟨_,rfl,rfl,rfl⟩,rfl,⟨_,rfl,rfl,rfl⟩,rfl,⟨_,rfl,au _,aC _⟩,rfl,⟨_,rfl,au _,aC _⟩,rfl,⟨_,rfl,au _,aC _⟩,trivial⟩,⟨rfl,⟨_,rfl,rfl,rfl⟩,rfl,⟨_,rfl,rfl,rfl⟩,rfl,⟨_,rfl,au _,aC _⟩,rfl,⟨_,rfl,au _,aC _⟩,trivial⟩,rfl,.nil⟩
  |some l=>
   rw[hR]at hr he;dsimp only at hr he;obtain⟨gl,hld,hl0,hst⟩:=rU hS gd hle hi hR;have fl:=gl.few;refine T.cf Y ?_;refine T.K (?_:T _ _ (nE F kb sb m left [(0,.optr 0 0 0 0),(2,.val true (aJ l))] lv cv mv g1 g2 d ch mk { s with nodes:=s.nodes+1 }) _);refine .M ?_;refine .C (sc l fl.small fl.fine).frz ?_;refine .M ?_;cases hsv:cB l with
   |some a=>
    rw[hsv]at hr he;dsimp only at hr he;subst hr he;refine T.ct Y ?_;refine .M ?_;refine J.cx [0,3,4,5,8,9] [1000,1003,1004,1005,1008,1009] [1008,1009] (hF.ok s.st a g1 g2 ((s.nodes+1:Nat):Int) s.short s.over hi (by omega) ⟨l,gl,hl0,hst,hsv⟩) ⟨rfl,⟨_,rfl,rfl,rfl⟩,rfl,⟨_,rfl,au _,aC _⟩,rfl,⟨_,rfl,au _,aC _⟩,rfl,⟨_,rfl,au _,aC _⟩,rfl,⟨_,rfl,au _,aC _⟩,rfl,⟨_,rfl,au _,aC _⟩,trivial⟩ (hle:=uw _) (λns hns=> ?_);obtain⟨a1,a2,rfl⟩:=C1 hns Y;refine .M ?_;refine .W ?_;refine .M ?_;exact⟨[0,1,2,3,4,5],[6,7,10,11],[cv,mv,a1,a2],⟨rfl,⟨_,rfl,rfl,rfl⟩,rfl,⟨_,rfl,rfl,rfl⟩,rfl,⟨_,rfl,rfl,rfl⟩,rfl,⟨_,rfl,au _,aC _⟩,rfl,⟨_,rfl,au _,aC _⟩,rfl,⟨_,rfl,au _,aC _⟩,trivial⟩,⟨rfl,⟨_,rfl,rfl,rfl⟩,rfl,⟨_,rfl,rfl,rfl⟩,rfl,⟨_,rfl,au _,aC _⟩,rfl,⟨_,rfl,au _,aC _⟩,trivial⟩,rfl,.nil⟩
   |none=>
    rw[hsv]at hr he;dsimp only at hr he;subst he;refine T.cf Y ?_;refine .M ?_;obtain⟨hv,hv1,_⟩:=lf gl hsv;have hop:=yH l fl;rw[Ac gl hsv]at hop;generalize openV l=v at*;have hg:l.getD v []=l[v]:=(by rw[D0,D1 hv];rfl);rw[hg]at hr hv1;have hdl2:=gd.len;have hlay:=AB kb sb lv cv mv m (F.con s.st) left ((s.nodes+1:Nat):Int) s.short s.over F.pv d l ch fd fl (gd.len.trans gl.len.symm) (hld.sub gl gd).2 (Du (EA 32 (by omega:ch.length+d.length+1<=1073741824)) (by decide));refine J.cx [0,1,2,6] [1000,1001,1002,1006] [1006] hlay ⟨rfl,⟨_,rfl,rfl,rfl⟩,rfl,⟨_,rfl,rfl,rfl⟩,rfl,⟨_,rfl,rfl,rfl⟩,rfl,⟨_,rfl,rfl,rfl⟩,trivial⟩ (λns hns=> ?_);obtain⟨u,rfl⟩:=yW hns Y;refine .M ?_;refine .C hop ?_;refine .M ?_;have hrow:(l.map cD)[((v:Nat):Int).toNat]? =some (cD l[v]):=(by rw[DW,DE,D1 hv];rfl);refine .I (r:=cD l[v]) hrow ?_;refine .M ?_;have hym:l[v]∈l:=D8 hv;have hyf:=fl.few _ hym;have hys:=(fl.fine _ hym).len;have hdv:=(iB l[v] (fl.fine _ hym).domB.1 (by omega)).frz;rw[DS (by omega)]at hdv;refine .C hdv ?_;refine .M ?_;generalize hxs:vals l[v]=xs at*;have hxm: ∀x∈xs,x∈vals l[v]:=λx hx=>(by rw[hxs];exact hx);refine T.K (T.ind (λx:Value×Value×Value×Value×Srch σ×Nat=>nE F kb sb m left [(0,.optr 0 0 0 0),(6,.val true (.int .i64 v)),(72,.val true (ao xs)),(73,.val true (.int .i64 (xs.map cI).length)),(74,.val true (.int .i64 x.2.2.2.2.2))] lv x.1 x.2.1 x.2.2.1 x.2.2.2.1 l (ch++dx 0 d l) mk x.2.2.2.2.1)
     (λx=>x.2.2.2.2.2<=xs.length/\I x.2.2.2.2.1.st/\F.sz x.2.2.2.2.1.st<=x.2.2.2.2.1.nodes/\(xs.drop x.2.2.2.2.2).foldl (λs x=>if s.over then s else lookG left F.con F.fnd n (l.set v [(x,x)]) s) x.2.2.2.2.1=r) (λx=>xs.length-x.2.2.2.2.2) (u,mv,g1,g2,{ s with nodes:=s.nodes+1 },0) ⟨Dz _,hi,H2 hsn,hr.symm⟩ (λ_ _ h=>h) ?_)
    rintro⟨cu,mu,h1,h2,t,i⟩ ⟨hil,hti,htz,htr⟩ ih;dsimp only at hil hti htz htr ih⊢;by_cases hlt:i<xs.length
    ·refine .M ?_;refine T.ct2 Y (DD (by rw[D9];omega)) ?_;refine .M ?_;have hrw:(xs.map cI)[((i:Nat):Int).toNat]? =some (cI xs[i]):=(by rw[DW,DE,D1 hlt];rfl);refine .I (r:=cI xs[i]) hrw ?_;refine .M ?_;refine T.cond Y (λhto=> ?_) (λhto=> ?_)
     ·have hto:t.over=true:=hto;rw[q9 _ t hto]at htr;subst htr;refine .M ?_;exact⟨[0,1,2,3,4,5],[6,7,8,9],[cu,mu,h1,h2],⟨rfl,⟨_,rfl,rfl,rfl⟩,rfl,⟨_,rfl,rfl,rfl⟩,rfl,⟨_,rfl,rfl,rfl⟩,rfl,⟨_,rfl,au _,aC _⟩,rfl,⟨_,rfl,au _,aC _⟩,rfl,⟨_,rfl,au _,aC _⟩,trivial⟩,⟨rfl,⟨_,rfl,congrArg chV (sL _ _).symm,rfl⟩,rfl,⟨_,rfl,rfl,rfl⟩,rfl,⟨_,rfl,au _,aC _⟩,rfl,⟨_,rfl,au _,aC _⟩,trivial⟩,rfl,.nil⟩
     ·have hto:t.over=false:=hto;have hxi:=hxm _ (D8 hlt);obtain⟨gc,hc1,hc2⟩:=jm gl hv (x:=xs[i]) (by rw[hg];exact hxi);have hc0:leD (l.set v [(xs[i],xs[i])]) d0:=(aY 0).trans _ _ _ hc1 hl0;have hwl:=(gG gl gd hld).1;have hwc:=hc2 (by rw[hg,hxs];exact hv1);obtain⟨k1,k2,k3,k4⟩:=As (left:=left) hS gc hc0 (s:=t) hti;rw[E7]at k1 k2 k3;have hcl:=nN d l 0;have hll:=gl.len;have hlk:=λcv mv=>ihn (l.set v [(xs[i],xs[i])]) t lv cv mv h1 h2 (ch++dx 0 d l++[((v:Int),l[v])]) (mk++[((ch++dx 0 d l).length:Int)]) (by omega) gc hc0 hti htz hto (by simp;omega) (by simp;omega);rw[sL]at hlk;have hch2:=w6 F kb sb m left lv cu mu h1 h2 l (iP left F.con (l.set v [(xs[i],xs[i])]) t).1 (ch++dx 0 d l) (iP left F.con (l.set v [(xs[i],xs[i])]) t).2 mk t (lookG left F.con F.fnd n (l.set v [(xs[i],xs[i])]) t) v xs[i] l[v] fl (D1 hv) hxi (λe=>by rw[<-hxs,<-e]at hv1;simp[vals,bl]at hv1) (by omega) (Du (EA 32 (by simp;omega:_<=1073741824)) (by decide)) k1 k3 k4 hlk;refine .M ?_;refine J.cx [0,1,2,3,4,5,6,7,8,9] [1000,1001,1002,1003,1004,1005,1006,1007,1008,1009] [1006,1007,1008,1009] hch2 ⟨rfl,⟨_,rfl,rfl,rfl⟩,rfl,⟨_,rfl,rfl,rfl⟩,rfl,⟨_,rfl,rfl,rfl⟩,rfl,⟨_,rfl,au _,aC _⟩,rfl,⟨_,rfl,au _,aC _⟩,rfl,⟨_,rfl,au _,aC _⟩,rfl,⟨_,rfl,rfl,rfl⟩,rfl,⟨_,rfl,rfl,rfl⟩,rfl,⟨_,rfl,au _,aC _⟩,rfl,⟨_,rfl,au _,aC _⟩,trivial⟩ (λns hns=> ?_);obtain⟨a1,a2,a3,a4,rfl⟩:=AA hns Y;refine .M ?_;rw[ak hlt (by omega)];have hgo:=(oV (left:=left) hS n (l.set v [(xs[i],xs[i])]) t (by omega) gc hc0 hti).inv;refine T.K (ih (a1,a2,a3,a4,lookG left F.con F.fnd n (l.set v [(xs[i],xs[i])]) t,i+1) ⟨hlt,hgo,uh hz n _ _ htz,?_⟩ (by dsimp only;omega));rw[DQ hlt,Dn,D2 (by rw[hto];decide)]at htr;exact htr
    ·obtain rfl:i=xs.length:=(by omega);rw[EY]at htr;have htr:t=r:=htr;subst htr;refine .M ?_;refine T.cf2 Y (DC (by rw[D9];omega)) ?_;refine .M ?_;exact⟨[0,1,2,3,4,5],[6,7,8,9],[cu,mu,h1,h2],⟨rfl,⟨_,rfl,rfl,rfl⟩,rfl,⟨_,rfl,rfl,rfl⟩,rfl,⟨_,rfl,rfl,rfl⟩,rfl,⟨_,rfl,au _,aC _⟩,rfl,⟨_,rfl,au _,aC _⟩,rfl,⟨_,rfl,au _,aC _⟩,trivial⟩,⟨rfl,⟨_,rfl,congrArg chV (sL _ _).symm,rfl⟩,rfl,⟨_,rfl,rfl,rfl⟩,rfl,⟨_,rfl,au _,aC _⟩,rfl,⟨_,rfl,au _,aC _⟩,trivial⟩,rfl,.nil⟩
theorem Co {l:List Con}: ∀r∈l.map cC,r.length=7:=λr hr=>by obtain⟨c,_,rfl⟩:=DF.1 hr;rfl
theorem nj (l:List Con)(hl:l.length<=4096):Spec Tryz.prog 43 true [bF l] [.own 51 7 (l.map cC)]:=by
 refine Spec.body Tryz.func43 Y Y Y λw0 Z0=> ?_;refine .B ?_;refine J.nc Y Y Y Y Y Y Y λb hb=> ?_;refine .B ?_;cases b
 ·refine T.cf Y ?_;refine .B ?_;refine .Q ?_;refine J.a Y Y Y Y Y Y Y Y Y Y Y Y Y Y Y Y Y Co (Du (EA _ (show 0+(l.map cC).length<=4096 by rw[D9];omega)) (show 4096*104<=140737488355328 by decide)) ?_;refine .B ?_;exact⟨_,.o Y Y Y (λh=>by cases h) (by simp) .nil⟩
 ·have:l=[]:=(by simpa using hb Y);subst this;refine T.ct Y ?_;refine .B ?_;exact⟨_,.ownN Y .nil⟩
theorem oT (m:Mod)(hm:ModB m):Spec Tryz.prog 66 false [.agg (cM m)] [.own 54 1 ((domsM m).map cD)]:=by
 refine Spec.body Tryz.func66 Y Y Y λw0 Z0=> ?_;obtain⟨h1,h2,_,_,_⟩:=hm;refine .B ?_;refine T.sub (Rel.own0 (s:=3) 54 1 Y) ?_;refine T.K (T.ind (λi:Nat=>⟨[(1,.optr 0 0 0 0),(3,.ref 1),(7,.val false (.sl (m.vars.map cV))),(8,.val true (.int .i64 (m.vars.map cV).length)),(9,.val true (.int .i64 i))],[(0,some (.box false (cM m))),(1,some (.sl 54 1 true (((domsM m).take i).map cD)))],2⟩) (λi=>i<=m.vars.length) (λi=>m.vars.length-i) 0 (Dz _) (λ_ _ h=>h) ?_);rintro i hi ih;refine .B ?_;refine T.cd Y (λh5=> ?_) (λh5=> ?_)
 ·have h5:i<m.vars.length:=(by simpa using h5);have hrow:(m.vars.map cV)[((i:Nat):Int).toNat]? =some (cV m.vars[i]):=(by simp[h5]);have hv:=h2 _ (D8 h5);have htk:(domsM m).take (i+1)=(domsM m).take i++[m.vars[i].2]:=by
   rw[DB (by simpa[domsM]using h5)];simp[domsM]
  have hl:=List.length_take_le i (domsM m);have ih1:=ih (i+1) (by omega) (by omega);rw[htk]at ih1;generalize (domsM m).take i=out at*;generalize m.vars[i]=v at*;refine .B ?_;refine .F (r:=cV v) hrow ?_;refine .L ?_;refine .X ?_;refine .D (bR v.2 (by omega)).frz ?_;refine .V ?_;refine J.aD Y Y Y Y Y Y Y Y Y Y Y Y Y Y Y Y Y Y Y (by omega) ?_;refine .B ?_;rw[ak (l:=m.vars.length) h5 (by omega)];exact T.K ih1
 ·have h5:i=m.vars.length:=(by simp at h5;omega);subst h5;rw[DS (by simp[domsM])];refine .B ?_;exact⟨_,.o Y Y Y (λ_=> .inl Y) (by simp) .nil⟩
theorem yn (m:Mod)(left e:Int)(he:e≠0)(hck:Spec Tryz.prog 64 false [.agg (cM m)] [.val (.int .i64 e)]):Spec Tryz.prog 35 false [.agg (cM m),.int .i64 left] [.val .nilp,.val (.int .i64 e)]:=by
 refine Spec.body Tryz.func35 Y Y Y λw0 Z0=> ?_;refine .B ?_;refine .D hck ?_;refine T.ct2 Y (by simpa using he) ?_;refine .B ?_;exact r2
theorem mW (m:Mod)(hm:ModB m)(fd:FewD (domsM m))(left:Int)(hck:Spec Tryz.prog 64 false [.agg (cM m)] [.val (.int .i64 0)]):
  SpecX Tryz.prog 35 [] [] [] [] [(false,.agg (cM m)),(true,.int .i64 left)] (λ_=>[]) (λns=>[kV m (ns.getD 1 undef) m.cons left 0 false false .nilf,sV (ns.getD 2 undef) (ns.getD 3 undef) (ns.getD 4 undef),dV (domsM m),chV [],mkV []]) true (λns=>[.raw (ns.getD 0 undef),.int .i64 0]):=by
 refine SpecX.body (fn:=Tryz.f35) [] [1000,1001,1002,1003,1004] Y Y Y Y λw0 Z=> ?_;have hcl:=hm.cl;refine .B ?_;refine .D hck ?_;refine T.cf Y ?_;refine .B ?_;refine .D (oT m hm).frz ?_;refine J.cx [] [] [1001,1002,1003,1004] (yd (domsM m) fd fd.few) trivial (λns hns=> ?_);obtain⟨p,a,b,c,rfl⟩:=AA hns Y;refine .M ?_;refine T.canon (keep:=[1,2,7,8,1001,1002,1003,1004]) (os:=[2,1001,1002,1003,1004]) Y ?_;refine T.rdm 10 Y (by kernel_rfl) Y ?_;refine .M ?_;refine .C (nj m.cons (by omega)).frz ?_
 iterate 5 refine J.H Y ?_
 refine J.nil ?_;refine J.name 1000 (s:=4) Y Y Y λu=> ?_;refine J.sub (Rel.raw (s:=4) (g:=1000) Y (.inr Y) Y Y Y) ?_;refine .M ?_;exact⟨[],[5,1,2,3,4],[u,p,a,b,c],trivial,⟨rfl,⟨_,rfl,rfl,rfl⟩,rfl,⟨_,rfl,rfl,rfl⟩,rfl,⟨_,rfl,rfl,rfl⟩,rfl,⟨_,rfl,rfl,rfl⟩,rfl,⟨_,rfl,rfl,rfl⟩,trivial⟩,rfl,.val Y Y (λ_=>rfl) (.val Y Y (λ_=>rfl) .nil)⟩
def AZ (cons:List Con)(op:Value):Fnd (List (List Int)):=⟨36,[.raw op],op,.slice none 0 0,.slice none 0 0,λ_ g1 _=> .box true [.raw g1],λ_ _ _=> .sl 3 1 true [],λ_ _ _=> .sl 3 1 true [],λt=> .sl 24 1 true (t.map cL),λ_=> .sl 3 1 true [],λ_=>cons,ny,λt=>t.length⟩
theorem BU (kb sb:Nat)(m:Mod)(left:Int)(d0:aa)(op:Value):FndOK (AZ m.cons op) kb sb m left d0 λ_=>True:=by
 refine⟨λt a g1 g2 nodes short over _ hsz _=> ?_⟩;have hsz:t.length<=1099511627776:=hsz;refine SpecX.body (fn:=Tryz.f36) [1000,1001,1002,1003,1004,1005] [1006,1005] Y Y Y Y λw0 Z=> ?_;refine T.sub (Rel.derawp (s:=1) (g:=1001) Y Y Y) ?_;refine .B ?_;refine J.sub (Rel.deraw (s:=4) (g:=1004) Y Y) ?_;refine .V ?_;refine J.a Y Y Y Y Y Y Y Y Y Y Y Y Y Y Y Y Y (c9 Y) (Du (EA _ (show(t.map cL).length+1<=1099511627777 by rw[D9];omega)) (show 1099511627777*24<=140737488355328 by decide)) ?_;refine J.name 1006 (s:=7) Y Y Y λu=> ?_;refine J.sub (Rel.raw (s:=7) (g:=1006) Y (.inl Y) Y Y Y) ?_;refine .X ?_;have e:t.map cL++[[ao a]]=(t++[a]).map cL:=(by simp[cL]);refine⟨[0,1,2,3],[6,5],[u,g2],⟨rfl,⟨_,rfl,rfl,rfl⟩,rfl,⟨_,rfl,rfl,rfl⟩,rfl,⟨_,rfl,rfl,rfl⟩,rfl,⟨_,rfl,rfl,rfl⟩,trivial⟩,⟨rfl,⟨_,rfl,congrArg (λl=>Own.sl 24 1 true l) e,rfl⟩,rfl,⟨_,rfl,rfl,rfl⟩,trivial⟩,rfl,.val Y Y (λ_=>rfl) .nil⟩
theorem A9 (m:Mod)(left e:Int)(he:e≠0)(hck:Spec Tryz.prog 64 false [.agg (cM m)] [.val (.int .i64 e)]):Spec Tryz.prog 13 false [.agg (cM m),.int .i64 left] [.own 24 1 [],.val (.bool false),.val (.int .i64 0),.val (.int .i64 e)]:=by
 refine Spec.body Tryz.func13 Y Y Y λw0 Z0=> ?_;refine .B ?_;refine .D (yn m left e he hck) ?_;refine T.ct2 Y (by simpa using he) ?_;refine .B ?_;exact⟨_,.ownN Y (.v Y Y Y (λ_=>rfl) (.v Y Y Y (λ_=>rfl) (.v Y Y Y (λ_=>rfl) .nil)))⟩
theorem C0 {ns:List Value}{n:Nat}(h:ns.length=n)(hn:n=5): ∃a b c d e,ns=[a,b,c,d,e]:=by
 subst hn
 match ns,h with
 | [a,b,c,d,e],_=>exact⟨a,b,c,d,e,rfl⟩
noncomputable def srchA (m:Mod)(left:Int):Srch (List (List Int)):=lookG left (λ_=>m.cons) ny (weight (domsM m)+1) (domsM m) ⟨0,false,false,[]⟩
set_option maxHeartbeats 1000000 in
theorem l6 (m:Mod)(hm:ModB m)(hr:RunOk (domsM m) m.cons)(hw:weight (domsM m)<=1000000)(left:Int)(hleft:left<=1099511627776)(hck:Spec Tryz.prog 64 false [.agg (cM m)] [.val (.int .i64 0)]):
  Spec Tryz.prog 13 false [.agg (cM m),.int .i64 left] [.own 24 1 ((srchA m left).st.map cL),.val (.bool (!(srchA m left).short)),.val (.int .i64 (srchA m left).nodes),.val (.int .i64 0)]:=by
 refine Spec.body Tryz.func13 Y Y Y λw0 Z0=> ?_;have hdl:(domsM m).length<=1024:=(by have:=hm.vl;simpa[domsM]using this);refine .B ?_;refine J.cx [] [] [1000,1001,1002,1006,1007] (mW m hm hr.gd.few left hck) trivial (λns hns=> ?_);obtain⟨p,sp,lv,cv,mv,rfl⟩:=C0 hns Y;refine .M ?_;refine T.cf Y ?_;refine T.canon (keep:=[8,1000,1001,1002,1006,1007]) (os:=[1000,1001,1002,1006,1007]) Y ?_;refine T.knownp 1000 0 Y Y λkb e1=> ?_;refine T.knownp 1001 1 Y Y λsb e2=> ?_;obtain rfl:p=pV kb:=e1;obtain rfl:sp=pV sb:=e2;refine .M ?_;refine J.alr Y Y Y Y Y Y Y ?_;refine J.name 1003 (s:=10) Y Y Y λop=> ?_;refine J.sub (Rel.raw (s:=10) (g:=1003) Y (.inl Y) Y Y Y) ?_;refine J.sub (Rel.derawp (s:=8) (g:=1000) Y Y Y) ?_;refine .M ?_;refine .W ?_;refine .M ?_;refine J.sub (Rel.ownN 1004 3 1) ?_;refine J.sub (Rel.ownN 1005 3 1) ?_;refine J.sub (Rel.ownN 1008 24 1) ?_;refine J.sub (Rel.ownN 1009 3 1) ?_;refine J.sub (Rel.canon (keep:=[8,10,24,1000,1001,1002,1003,1004,1005,1006,1007,1008,1009]) (os:=[1000,1001,1002,1003,1004,1005,1006,1007,1008,1009]) Y) (?_:J _ _ _ _ (nE (AZ m.cons op) kb sb m left [(8,.optr 0 0 0 0),(10,.val true (.raw op)),(24,.optr 0 0 0 0)] lv cv mv (.slice none 0 0) (.slice none 0 0) (domsM m) [] [] ⟨0,false,false,[]⟩) _);have hlk: ∃e ch',vo (AZ m.cons op) kb sb m left 37 [(true,.raw (pV kb))] lv cv mv (.slice none 0 0) (.slice none 0 0) (domsM m) e [] ch' [] ⟨0,false,false,[]⟩ (srchA m left):=⟨_,_,qI (AZ m.cons op) kb sb m left (domsM m) (λ_=>True) (Au hr) (BU kb sb m left (domsM m) op) (λt a=>Nat.le_of_eq (DX)) hleft hdl (weight (domsM m)+1) (domsM m) ⟨0,false,false,[]⟩ lv cv mv (.slice none 0 0) (.slice none 0 0) [] [] (Eh _) hr.gd leD.rfl' trivial (Dz _) Y (by simp;omega) (by simp;omega)⟩;obtain⟨e,ch',hlk⟩:=hlk;generalize srchA m left=r at*;refine J.cx [0,1,2,3,4,5,6,7,8,9] [1000,1001,1002,1003,1004,1005,1006,1007,1008,1009] [1006,1007,1008,1009] hlk ⟨rfl,⟨_,rfl,rfl,rfl⟩,rfl,⟨_,rfl,rfl,rfl⟩,rfl,⟨_,rfl,rfl,rfl⟩,rfl,⟨_,rfl,rfl,rfl⟩,rfl,⟨_,rfl,rfl,rfl⟩,rfl,⟨_,rfl,rfl,rfl⟩,rfl,⟨_,rfl,rfl,rfl⟩,rfl,⟨_,rfl,rfl,rfl⟩,rfl,⟨_,rfl,rfl,rfl⟩,rfl,⟨_,rfl,rfl,rfl⟩,trivial⟩ (λns hns=> ?_);obtain⟨a1,a2,a3,a4,rfl⟩:=AA hns Y;refine .M ?_;refine T.K (?_:T _ _ (nE (AZ m.cons op) kb sb m left [(8,.optr 0 0 0 0),(10,.val true (.raw op))] lv a1 a2 a3 a4 e ch' [] r) _);refine T.sub (Rel.derawp (s:=10) (g:=1003) Y Y Y) ?_;refine .A ?_
 conv=>whnf
 iterate 14 refine J.H Y ?_
 refine J.nil ?_;refine T.sub (Rel.deraw (s:=4) (g:=1008) Y Y) ?_;refine .B ?_;exact⟨_,.o Y Y Y (λ_=> .inl Y) (by simp) (.v rfl rfl rfl (λ_=>rfl) (.v Y Y Y (λ_=>rfl) (.v Y Y Y (λ_=>rfl) .nil)))⟩
def lS (a b:Int):Int×Bool:=if smallI a&&smallI b&&smallI (a+b)then(a+b,true)else(0,false)
theorem aQ {n:Int}:smallI n=true↔-4611686018427387904<=n/\n<=4611686018427387904:=by simp[smallI]
theorem wI (n:Int):Spec Tryz.prog 155 false [.int .i64 n] [.val (.int .i64 (if smallI n then n else 0)),.val (.bool (smallI n))]:=by
 refine Spec.body Tryz.func155 Y Y Y λw0 Z0=> ?_;refine T.sub (Rel.fine (s:=0) Y Y) ?_;have hs:=gu [n] (by simp);rw[show [n].all smallI=smallI n by simp]at hs;refine .B ?_;refine .Z ?_;refine .D hs ?_;cases smallI n with
 |false=>
  refine T.ct Y ?_;refine .B ?_;exact r2
 |true=>
  refine T.cf Y ?_;refine .B ?_;exact r2
theorem jB (a b:Int):Spec Tryz.prog 121 false [.int .i64 a,.int .i64 b] [.val (.int .i64 (lS a b).1),.val (.bool (lS a b).2)]:=by
 refine Spec.body Tryz.func121 Y Y Y λw0 Z0=> ?_;have hs:=gu [a,b] (by simp);rw[show [a,b].all smallI=(smallI a&&smallI b)by simp]at hs;have hno: ∀h:(smallI a&&smallI b&&smallI (a+b))=false,lS a b=(0,false):=λh=>(by unfold lS;rw[h];rfl);generalize hR:lS a b=R;refine .B ?_;refine .Z ?_;refine .D hs ?_;cases h0:smallI a&&smallI b with
 |false=>
  have:R=(0,false):=(by rw[<-hR];exact hno (by rw[h0];rfl));subst this;refine .B ?_;refine T.ct Y ?_;refine .B ?_;exact r2
 |true=>
  obtain⟨ha,hb⟩:=Gg.1 h0;have ha:=aQ.1 ha;have hb:=aQ.1 hb;have hw: ¬(0<a/\4611686018427387904-a<b)->¬(a<0/\b< -4611686018427387904-a)->IntKind.i64.wrap (a+b)=a+b:=λh1 h2=>af (by omega) (by omega);have ht:=wI (a+b);have e1:0<a->IntKind.i64.wrap (4611686018427387904-a)=4611686018427387904-a:=λh=>af (by omega) (by omega);have e2:a<0->IntKind.i64.wrap (-4611686018427387904-a)= -4611686018427387904-a:=λh=>af (by omega) (by omega);have stop: ¬smallI (a+b)=true->R=(0,false):=λh=>(by rw[<-hR];exact hno (by rw[h0,EU];simpa using h));have fin:R=(if smallI (a+b)then a+b else 0,smallI (a+b)):=by
   rw[<-hR];unfold lS;rw[h0,EU];cases smallI (a+b)<;>rfl
  refine .B ?_;refine J.g Y Y Y (λh1=> ?_) (λh1=> ?_)
  ·have h1:0<a:=h1;refine .B ?_;rw[e1 h1];refine J.g Y Y Y (λh2=> ?_) (λh2=> ?_)
   ·have h2:4611686018427387904-a<b:=h2;have:=stop λh=>(by have:=aQ.1 h;omega);subst this;refine .B ?_;refine T.ct Y ?_;refine .B ?_;exact r2
   ·refine .B ?_;refine J.g Y Y Y (λh3=> ?_) (λh3=> ?_)
    ·have h3:a<0:=h3;omega
    ·have h2: ¬4611686018427387904-a<b:=h2;refine .B ?_;refine T.cf Y ?_;refine .B ?_;rw[hw (by omega) (by omega)];refine .D ht ?_;subst fin;exact r2
  ·have h1: ¬0<a:=h1;refine .B ?_;refine J.g Y Y Y (λh3=> ?_) (λh3=> ?_)
   ·refine .B ?_;rw[e2 h3];refine T.cd Y (λh4=> ?_) (λh4=> ?_)
    ·have h4:b< -4611686018427387904-a:=h4;have:=stop λh=>(by have:=aQ.1 h;omega);subst this;refine .B ?_;exact r2
    ·have h4: ¬b< -4611686018427387904-a:=h4;refine .B ?_;rw[hw (by omega) (by omega)];refine .D ht ?_;subst fin;exact r2
   ·have h3: ¬a<0:=h3;refine .B ?_;refine T.cf Y ?_;refine .B ?_;rw[hw (by omega) (by omega)];refine .D ht ?_;subst fin;exact r2
def zI (a b:Int):Int×Bool:=if smallI a&&smallI b then lS a (-b)else(0,false)
theorem y3 (a b:Int):Spec Tryz.prog 224 false [.int .i64 a,.int .i64 b] [.val (.int .i64 (zI a b).1),.val (.bool (zI a b).2)]:=by
 refine Spec.body Tryz.func224 Y Y Y λw0 Z0=> ?_;have hs:=gu [a,b] (by simp);rw[show [a,b].all smallI=(smallI a&&smallI b)by simp]at hs;have hadd:=jB a (-b);unfold zI;refine .B ?_;refine .Z ?_;refine .D hs ?_;cases h0:smallI a&&smallI b with
 |false=>
  refine T.ct Y ?_;refine .B ?_;exact r2
 |true=>
  obtain⟨ha,hb⟩:=Gg.1 h0;have hb:=aQ.1 hb;rw[D4 Y];refine T.cf Y ?_;refine .B ?_;rw[show(0:Int)-b= -b by omega,show IntKind.i64.wrap (-b)= -b from af (by omega) (by omega)];refine .D hadd ?_;exact r2
theorem oQ (n:Int):Spec Tryz.prog 181 false [.int .i64 n] [.val (.int .i64 (if smallI n then aG n else 0)),.val (.bool (smallI n))]:=by
 refine Spec.body Tryz.func181 Y Y Y λw0 Z0=> ?_;have h0:smallI 0=true:=rfl;have key: ∀x:Int,aG n=x->(smallI x=smallI n)->(if smallI n then aG n else 0,smallI n)=lS 0 x:=λx e e2=>by
  unfold lS;rw[h0,EU,GJ,Bool.and_self,e2,e];cases smallI n<;>rfl
 have hsa:=jB 0 n;have hss:=y3 0 n;refine .B ?_;refine T.cd Y (λh1=> ?_) (λh1=> ?_)
 ·have h1:n<0:=h1;have e:zI 0 n=(if smallI n then aG n else 0,smallI n):=by
   have hsn:smallI (-n)=smallI n:=(by rw[FD,aQ,aQ];omega);unfold zI;rw[h0,EU,<-key (-n) (by unfold aG;omega) hsn];cases smallI n<;>rfl
  rw[e]at hss;refine .B ?_;refine .D hss ?_;exact r2
 ·have h1: ¬n<0:=h1;rw[<-key n (by unfold aG;omega) Y]at hsa;refine .B ?_;refine .D hsa ?_;exact r2
theorem yP (l:List Int)(rhs:Int)(hl:l.length*8<=140737488355328)(hw: ∀c∈l,-9223372036854775808<=c/\c<=9223372036854775807):Spec Tryz.prog 131 false [ao l,.int .i64 rhs] [.val (.bool (ei l rhs))]:=by
 refine Spec.body Tryz.func131 Y Y Y λw0 Z0=> ?_;have hs:=oQ rhs;have h0:(if smallI rhs then aG rhs else 0)=if smallI rhs then aG rhs else 0:=rfl
 have hin:smallI rhs=true->0<=aG rhs/\aG rhs<=4611686018427387904/\eD (4611686018427387904-aG rhs) l=ei l rhs:=λh=>by
  have h:=aQ.1 h;refine⟨bE rhs,by unfold aG;omega,?_⟩;unfold ei;rw[D2 (by omega)];rfl
 have hno:smallI rhs=false->ei l rhs=true:=λh=>by
  have h: ¬smallI rhs=true:=(by rw[h];simp);rw[aQ]at h;unfold ei;rw[D4 (by omega)]
 generalize hR:ei l rhs=R at*;have hin2:smallI rhs=true->(if smallI rhs then aG rhs else 0)=aG rhs:=λh=>(by rw[h];rfl);generalize (if smallI rhs then aG rhs else 0)=s0 at*;have hinv:(smallI rhs=true->0<=s0/\s0<=4611686018427387904/\eD (4611686018427387904-s0) l=R):=λh=>(by rw[hin2 h];exact hin h);generalize smallI rhs=ok0 at*;clear hin hin2;refine .B ?_;refine .D hs ?_;refine T.K (T.ind (λs:Nat×Int×Bool=>⟨[(5,.val true (.int .i64 s.2.1)),(6,.val true (.bool s.2.2)),(16,.val false (ao l)),(17,.val true (.int .i64 (l.map cI).length)),(18,.val true (.int .i64 s.1))],[],0⟩)
  (λs=>s.1<=l.length/\(s.2.2=true->0<=s.2.1/\s.2.1<=4611686018427387904/\eD (4611686018427387904-s.2.1) (l.drop s.1)=R)/\(s.2.2=false->R=true)) (λs=>l.length-s.1) (0,s0,ok0) ⟨Dz _,hinv,hno⟩ (λ_ _ h=>h) ?_)
 rintro⟨i,sum,ok⟩ ⟨hi,hv,hn⟩ ih;refine .B ?_;refine T.cd Y (λh1=> ?_) (λh1=> ?_)
 ·have h6:i<l.length:=(by simpa using h1);have hcw:=hw _ (D8 h6);have hms:=oQ l[i];have hdr:eD (4611686018427387904-sum) (l.drop i)=if 4398046511104<l[i]∨l[i]< -4398046511104 then true else if 4611686018427387904-sum-max l[i] (-l[i])*1048576<0 then true else eD (4611686018427387904-sum-max l[i] (-l[i])*1048576) (l.drop (i+1)):=by
   rw[DQ h6,eD]
  have hrow:=aO (enc:=cI) h6;generalize l[i]=c at*;refine .B ?_;refine .F (r:=cI c) hrow ?_;refine .D hms ?_;cases hsc:smallI c with
  |false=>
   have hsc: ¬smallI c=true:=(by rw[hsc];simp);rw[aQ]at hsc;have:R=true:=by
    cases ok with
    |false=>exact hn Y
    |true=>
     obtain⟨_,_,e⟩:=hv Y;rw[<-e,hdr,D4 (by omega)]
   subst this;refine T.cf Y ?_;refine .B ?_;refine T.ct Y ?_;refine .B ?_;exact r1
  |true=>
   have hsc':=aQ.1 hsc;have hac:0<=aG c/\aG c<=4611686018427387904:=⟨bE c,by unfold aG;omega⟩;have hmx:max c (-c)=aG c:=rfl;have hmul:=mC (aG c) 1048576 (by omega) (by omega) (by omega) (by omega);refine T.ct Y ?_;refine .B ?_;rw[D4 Y];refine .D hmul ?_;cases hm:smallI (aG c*1048576)with
   |false=>
    have e0:mulI (aG c) 1048576=(0,false):=(by unfold mulI;rw[hm,GF];rfl);have hm: ¬smallI (aG c*1048576)=true:=(by rw[hm];simp);rw[aQ]at hm;have:R=true:=by
     cases ok with
     |false=>exact hn Y
     |true=>
      obtain⟨_,_,e⟩:=hv Y;rw[<-e,hdr,D4 (by unfold aG at hm;omega)]
    subst this;rw[e0];refine .B ?_;refine T.ct Y ?_;refine .B ?_;exact r1
   |true=>
    have hm:=aQ.1 hm;have e0:mulI (aG c) 1048576=(aG c*1048576,true):=by
     unfold mulI;rw[aQ.2 ⟨by omega,by omega⟩,show smallI (aG c*1048576)=true from aQ.2 hm];rfl
    rw[e0];cases ok with
    |false=>
     obtain rfl:=hn Y;refine .B ?_;refine T.ct Y ?_;refine .B ?_;exact r1
    |true=>
     obtain⟨v1,v2,e⟩:=hv Y;simp only at v1 v2 e;have hadd:=jB sum (aG c*1048576);rw[hdr,D2 (by unfold aG at hm;omega),hmx]at e;refine .B ?_;refine T.cf Y ?_;refine .B ?_;refine .D hadd ?_;rw[ak (l:=l.length) h6 (by omega)];refine T.K (ih (i+1,lS sum (aG c*1048576)) ⟨by omega,λh=> ?_,λh=> ?_⟩ (by simp only;omega))
     ·unfold lS at h⊢;split at h
      ·rename_i h5;rw[D4 h5];have h5:=aQ.1 (Gg.1 h5).2;rw[D2 (by omega)]at e;exact⟨by simp only;omega,by simp only;omega,by rw[<-e];congr 1;simp only;omega⟩
      ·cases h
     ·unfold lS at h;split at h;·cases h
      ·rename_i h5;have h5: ¬smallI (sum+aG c*1048576)=true:=λh=>h5 (by rw[aQ.2 ⟨by omega,by omega⟩,aQ.2 hm,h];rfl);rw[aQ]at h5;rw[<-e,D4 (by omega)]
 ·have h7:i=l.length:=(by simp at h1;omega);refine .B ?_;cases ok with
  |false=>
   obtain rfl:=hn Y;exact r1
  |true=>
   obtain⟨_,_,e⟩:=hv Y;rw[h7,EY]at e;exact⟨_,.v Y Y (by rw[<-e];rfl) (λ_=>rfl) .nil⟩
theorem Aq (a:List Int)(v:Int)(hl:a.length*8<=140737488355328):Spec Tryz.prog 91 false [ao a,.int .i64 v] [.val (.int .i64 (atR a v))]:=by
 refine Spec.body Tryz.func91 Y Y Y λw0 Z0=> ?_;unfold atR;refine .B ?_;refine J.g Y Y Y (λh=> ?_) (λh=> ?_)
 ·refine .B ?_;refine T.ct Y ?_;refine .B ?_;exact⟨_,.v Y Y (by rw[D4 h]) (λ_=>rfl) .nil⟩
 ·refine .B ?_;refine T.cd Y (λh2=> ?_) (λh2=> ?_)
  ·refine .B ?_;refine⟨_,.v Y Y ?_ (λ_=>rfl) .nil⟩;rw[D2 h,D0,EB (by simp at h2;omega)];rfl
  ·have h2:v.toNat<a.length:=(by simp at h2;omega);refine .B ?_;refine J.i Y Y Y Y Y Y Y Y Y (r:=cI a[v.toNat]) (by omega) (aO h2) Y ?_;refine .B ?_;refine⟨_,.v Y Y ?_ (λ_=>rfl) .nil⟩;rw[D2 h,D0,D1 h2];rfl
theorem rW (a vars:List Int)(hv:vars.length<=1048576)(hl:a.length*8<=140737488355328):Spec Tryz.prog 81 false [ao a,ao vars] [.own 3 1 ((pickedR vars a).map cI)]:=by
 refine Spec.body Tryz.func81 Y Y Y λw0 Z0=> ?_;refine .B ?_;refine J.mk0 vars.length (by simp) (show 8*vars.length<=_ by omega) (by omega) Y Y Y Y Y Y Y Y Y Y Y ?_;refine .B ?_;refine T.K (T.ind (λi:Nat=>⟨[(0,.val false (ao a)),(5,.ref 0),(11,.val false (ao vars)),(12,.val true (.int .i64 (vars.map cI).length)),(13,.val true (.int .i64 i))],[(0,some (.sl 3 1 true ((pickedR (vars.take i) a).map cI)))],1⟩) (λi=>i<=vars.length) (λi=>vars.length-i) 0 (by simp) (λ_ _ h=>h) ?_);rintro i hi ih;refine .B ?_;refine T.cd Y (λh1=> ?_) (λh1=> ?_)
 ·have h1:i<vars.length:=(by simpa using h1);refine .B ?_;refine .F (r:=cI vars[i]) (aO h1) ?_;refine .D (Aq a vars[i] hl) ?_;refine .V ?_;refine J.aI Y Y Y Y Y Y Y Y Y Y Y Y Y Y Y Y Y Y Y (by simp[pickedR];omega) ?_;refine .B ?_;rw[ak (l:=vars.length) (by omega) (by omega)];have e:pickedR (vars.take i) a++[atR a vars[i]]=pickedR (vars.take (i+1)) a:=by
   rw[DB h1];unfold pickedR;rw[EC];rfl
  rw[e];exact T.K (ih (i+1) (by omega) (by omega))
 ·have h1:i=vars.length:=(by simp at h1;omega);subst h1;refine .B ?_;refine⟨_,.o Y Y (by rw[E8]) (λ_=> .inl Y) (by simp) .nil⟩
def dotS (a b:List Int):Int:=((a.zip b).map λp=>p.1*p.2).sum
theorem pz: ∀(a b:List Int),(∀k∈a,CoefOk k)->(∀x∈b,-1048576<=x/\x<=1048576)->-aj a<=dotS a b/\dotS a b<=aj a
 |k::a,x::b,ha,hb=>by
  have ih:=pz a b (λk h=>ha k (.tail _ h)) (λx h=>hb x (.tail _ h));have hx:=hb x (.head _);have hm:=d3 k x hx.1 hx.2;have e1:aj (k::a)=aG k*1048576+aj a:=(by simp[aj]);have e2:dotS (k::a) (x::b)=k*x+dotS a b:=(by simp[dotS]);rw[e1,e2];generalize k*x=y at*;omega
 | [],b,_,_=>by simp[dotS,aj]
 |k::a,[],ha,_=>by
  have:=aV (k::a);simp[dotS];omega
theorem AQ (a b:List Int)(k x:Int)(h:a.length=b.length):dotS (a++[k]) (b++[x])=dotS a b+k*x:=by
 unfold dotS;rw[List.zip_append h];simp
theorem gZ: ∀(a:List Int) (i:Nat),aj (a.take i)<=aj a
 | [],i=>by simp
 |k::a,0=>by rw[List.take_zero];exact aV _
 |k::a,i+1=>by
  have:=gZ a i;have e: ∀l,aj (k::l)=aG k*1048576+aj l:=λl=>(by simp[aj]);rw[Gj,e,e];omega
theorem y5 (a b:List Int)(hl:a.length=b.length)(hal:a.length*8<=140737488355328)(ha: ∀k∈a,CoefOk k)(hb: ∀x∈b,-1048576<=x/\x<=1048576)(hw:aj a<=4611686018427387904):Spec Tryz.prog 80 false [ao a,ao b] [.val (.int .i64 (dotS a b)),.val (.bool true)]:=by
 refine Spec.body Tryz.func80 Y Y Y λw0 Z0=> ?_;refine .B ?_;refine T.cf2 Y (by simp[hl]) ?_;refine .B ?_;refine T.K (T.ind (λi:Nat=>⟨[(1,.val false (ao b)),(6,.val true (.int .i64 (dotS (a.take i) (b.take i)))),(7,.val true (.bool true)),(17,.val false (ao a)),(18,.val true (.int .i64 (a.map cI).length)),(19,.val true (.int .i64 i))],[],0⟩) (λi=>i<=a.length) (λi=>a.length-i) 0 (by simp) (λ_ _ h=>h) ?_);rintro i hi ih;refine .B ?_;refine T.cd Y (λh1=> ?_) (λh1=> ?_)
 ·have h1:i<a.length:=(by simpa using h1);have h2:i<b.length:=(by omega);refine .B ?_;refine .F (r:=cI a[i]) (aO h1) ?_;refine .F (r:=cI b[i]) (aO h2) ?_;have hx:=hb b[i] (D8 h2);have hk:=ha a[i] (D8 h1);have hki:=f4 hk;have hk2:=hk.2;have hmul:=mC a[i] b[i] (by omega) (by omega) (by omega) (by omega);rw[lh hk hx.1 hx.2]at hmul;have e1:dotS (a.take (i+1)) (b.take (i+1))=dotS (a.take i) (b.take i)+a[i]*b[i]:=by
   rw[DB h1,DB h2,AQ _ _ _ _ (by rw[Dx,Dx];omega)]
  have hlo:=pz (a.take i) (b.take i) (λk h=>ha k (Eg h)) (λx h=>hb x (Eg h));have hlo2:=pz (a.take (i+1)) (b.take (i+1)) (λk h=>ha k (Eg h)) (λx h=>hb x (Eg h));have hw1:=gZ a i;have hw2:=gZ a (i+1);have hm:=d3 a[i] b[i] hx.1 hx.2;have hkk:=f4 hk;have hadd:=jB (dotS (a.take i) (b.take i)) (a[i]*b[i]);have e2:lS (dotS (a.take i) (b.take i)) (a[i]*b[i])=(dotS (a.take (i+1)) (b.take (i+1)),true):=by
   unfold lS;rw[<-e1,D4];rw[DJ,DJ,aQ,aQ,aQ];generalize a[i]*b[i]=y at*;omega
  rw[e2]at hadd;have ih1:=ih (i+1) (by omega) (by omega);generalize dotS (a.take (i+1)) (b.take (i+1))=y1 at*;refine .D hmul ?_;refine T.cf Y ?_;refine .B ?_;refine .D hadd ?_;refine T.cf Y ?_;refine .B ?_;rw[ak (l:=a.length) (by omega) (by omega)];exact T.K ih1
 ·have h1:i=a.length:=(by simp at h1;omega);subst h1;refine .B ?_;refine⟨_,.v Y Y (by rw[E8,hl,E8]) (λ_=>rfl) (.v Y Y Y (λ_=>rfl) .nil)⟩
def eG (g:Goal)(a:List Int):Int:=if g.kind=0 then 0 else cK g.vars g.coefs a
theorem jI: ∀(vars coefs a:List Int),dotS coefs (pickedR vars a)=cK vars coefs a
 |v::vars,k::coefs,a=>by
  have:=jI vars coefs a;unfold dotS cK pickedR at*;simp only[DZ,F5,Eb,this]
 | [],coefs,a=>by simp[dotS,cK,pickedR]
 |_::_,[],a=>by simp[dotS,cK,pickedR]
structure GoalOk (g:Goal):Prop where
 len:g.vars.length=g.coefs.length
 few:g.vars.length<=1024
 ck: ∀k∈g.coefs,CoefOk k
 weight:aj g.coefs<=4611686018427387904
theorem tU (g:Goal)(a:List Int)(hg:g.kind≠0->GoalOk g)(hal:a.length*8<=140737488355328)(ha: ∀x∈a,-1048576<=x/\x<=1048576):Spec Tryz.prog 45 false [.agg (cG g),ao a] [.val (.int .i64 (eG g a))]:=by
 refine Spec.body Tryz.func45 Y Y Y λw0 Z0=> ?_;unfold eG;refine .B ?_;refine T.cd Y (λh1=> ?_) (λh1=> ?_)
 ·rw[D4 h1];refine .B ?_;exact r1
 ·rw[D2 h1];obtain⟨h2,h3,h4,h5⟩:=hg h1;have hat: ∀v,-1048576<=atR a v/\atR a v<=1048576:=λv=>by
   unfold atR;split;·omega
   ·rw[D0];cases h:a[v.toNat]? with
    |none=>simp
    |some x=>exact ha x (D7 h)
  have hd:=y5 g.coefs (pickedR g.vars a) (by simp[pickedR,h2]) (by omega) h4 (λx hx=>by obtain⟨v,_,rfl⟩:=DF.1 hx;exact hat v) h5;rw[jI]at hd;refine .B ?_;refine .D (rW a g.vars (by omega) hal).frz ?_;refine .D hd ?_;exact r1
def kG (g:Goal)(v:Int):Con:=⟨0,g.vars,if g.kind=2 then g.coefs.map (- ·)else g.coefs,0,if g.kind=2 then -v-1 else v-1,[],0⟩
theorem vh (g:Goal)(v:Int)(hg:GoalOk g)(hv: -4611686018427387904<=v/\v<=4611686018427387904):Spec Tryz.prog 44 false [.agg (cG g),.int .i64 v] [.val (.agg (cC (kG g v)))]:=by
 refine Spec.body Tryz.func44 Y Y Y λw0 Z0=> ?_;obtain⟨h1,h2,h3,h4⟩:=hg;have hc1:=(dU g.vars (by omega)).frz;have hc2:=dU g.coefs (by omega);refine .B ?_;refine .L ?_;refine .M ?_;refine T.rdm 10 Y (by kernel_rfl) Y ?_;refine .M ?_;refine .C hc1 ?_;refine .M ?_;refine .C hc2 ?_;refine .M ?_;refine J.br Y Y Y Y Y ?_;refine .M ?_;refine .L ?_;refine J.nil ?_;refine J.name 1000 (s:=12) Y Y Y λu=> ?_;refine J.sub (Rel.agraw (s:=15) [(2,1000)] Y Y) ?_;refine .X ?_;refine T.cd Y (λhk=> ?_) (λhk=> ?_)
 ·have e0:kG g v=⟨0,g.vars,g.coefs.map (- ·),0,-v-1,[],0⟩:=(by unfold kG;rw[D4 hk,D4 hk]);rw[e0];refine .B ?_;refine J.sub (Rel.deraw (s:=20) (g:=1000) Y Y) ?_;refine .B ?_;refine T.K (T.ind (λi:Nat=>⟨[(1,.val false (.int .i64 v)),(4,.optr 0 0 0 0),(5,.optr 1 0 0 0),(21,.val true (.int .i64 (g.coefs.map cI).length)),(22,.val true (.int .i64 i)),(1000,.eq u 2)],[(0,some (.box true [.int .i64 0,.sl [],.sl [],.int .i64 0,.int .i64 0,.sl [],.int .i64 0])),(1,some (.box true [.int .i64 0,ao g.vars,.raw u,.int .i64 0,.int .i64 (IntKind.i64.wrap (v-1)),.sl [],.int .i64 0])),(2,some (.sl 3 1 true ((((g.coefs.take i).map (- ·))++g.coefs.drop i).map cI)))],3⟩) (λi=>i<=g.coefs.length) (λi=>g.coefs.length-i) 0 (by simp) (λ_ _ h=>h) ?_);rintro i hi ih;refine .B ?_;refine T.cd Y (λh5=> ?_) (λh5=> ?_)
  ·have h5:i<g.coefs.length:=(by simpa using h5);have hml:((g.coefs.take i).map (- ·)).length=i:=(by simp;omega);have hL:(((g.coefs.take i).map (- ·))++g.coefs.drop i).length=g.coefs.length:=(by rw[DX,hml,GX];omega);have hrow:((((g.coefs.take i).map (- ·))++g.coefs.drop i).map cI)[(i:Int).toNat]? =some (cI g.coefs[i]):=by
    rw[DW,DE,Dw (by omega),hml,GI,Ff,F1,D1 h5];rfl
   have hset:(((g.coefs.take i).map (- ·))++g.coefs.drop i).set i (- g.coefs[i])=((g.coefs.take (i+1)).map (- ·))++g.coefs.drop (i+1):=by
    rw[G2 _ _ (by omega),hml,GI,DQ h5,GO,DB h5,EC,E4];rfl
   have hck:=f4 (h3 _ (D8 h5));refine .M ?_;refine T.rdm 10 Y (by kernel_rfl) Y ?_
   iterate 1 refine J.H Y ?_
   refine J.lr 1000 (q:=2) (u:=u) Y Y Y Y Y Y Y Y Y ?_
   iterate 2 refine J.H Y ?_
   refine J.lr 1000 (q:=2) (u:=u) Y Y Y Y Y Y Y Y Y ?_;refine .M ?_;refine J.io Y Y Y Y Y Y Y Y Y (by omega) (by rw[D9,hL];omega) Y ?_;refine J.lo Y Y Y Y Y Y (r:=cI g.coefs[i]) hrow Y ?_;refine .M ?_;refine J.io Y Y Y Y Y Y Y Y Y (by omega) (by rw[D9,hL];omega) Y ?_;refine J.nil ?_;have ew:IntKind.i64.wrap (0-g.coefs[i])= -g.coefs[i]:=(by rw[af (by omega) (by omega)];omega);rw[ew];refine J.w1 Y Y Y Y Y Y Y Y Y Y Y (z:= -g.coefs[i]) (λ_=>rfl) (by rw[hL];omega) ?_;rw[DW,hset];refine .M ?_;rw[ak h5 (by omega)];exact T.K (ih (i+1) (by omega) (by omega))
  ·have h5:i=g.coefs.length:=(by simp at h5;omega);subst h5;rw[E8,EY,Ex];refine .B ?_;refine .W ?_;refine J.sub (Rel.cellF 1000 2 (q:=1) (n:=2) (λb h=>h) Y Y Y Y Y) ?_;refine .B ?_;refine .X ?_;exact⟨_,.cell Y Y (by rw[af (n:=0-v) (by omega) (by omega),af (n:=0-v-1) (by omega) (by omega),Int.zero_sub];rfl) (λ_=>rfl) .nil⟩
 ·have e0:kG g v=⟨0,g.vars,g.coefs,0,v-1,[],0⟩:=(by unfold kG;rw[D2 hk,D2 hk]);rw[e0];refine T.sub (Rel.cellF 1000 2 (q:=3) (n:=2) (λb h=>h) Y Y Y Y Y) ?_;refine .B ?_;refine .X ?_;exact⟨_,.cell Y Y (by rw[af (by omega) (by omega)];rfl) (λ_=>rfl) .nil⟩
def BI (g:Goal)(_:Option (List Int))(a:List Int):Option (List Int)×Bool:=(some a,decide (g.kind=0))
def mG (cons:List Con)(g:Goal)(t:Option (List Int)):List Con:=match t with
 |none=>cons
 |some a=>if g.kind=0 then cons else cons++[kG g (eG g a)]
def nk (m:Mod)(kb:Nat)(bp sp kp:Value):Fnd (Option (List Int)):=⟨42,[.raw bp,.raw sp,.ptr (cM m),.raw kp],bp,sp,kp,λt _ _=> .box true [ao (t.getD [])],λt _ _=> .box true [.bool t.isSome],λ_ _ _=> .box true [.raw (pV kb)],λ_=> .sl 3 1 true [],λ_=> .sl 3 1 true [],mG m.cons m.goal,BI m.goal,λ_=>0⟩
theorem rg {σ:Type}{d0:aa}{con:σ->List Con}{t:σ}{a:List Int}(gd:GoodD d0.length d0)(h:vq d0 con t a):a.length=d0.length/\(∀i,i<d0.length->a.getD i 0∈vals (d0.getD i []))/\∀x∈a,-1048576<=x/\x<=1048576:=by
 obtain⟨e,ge,hle,_,hs⟩:=h;obtain⟨s1,s2⟩:=qd ge hs;have hv: ∀i,i<d0.length->a.getD i 0∈vals (d0.getD i []):=λi hi=>by
  have h1:=s2 (i:Int) (by omega) (by omega);have h2:=hle.2 (i:Int) (atR a i) (by omega) (by rw[h1];simp);unfold domAt atR at h2;rwa[D2 (by omega),DW]at h2
 refine⟨s1,hv,λx hx=> ?_⟩;obtain⟨i,hi,rfl⟩:=Fr.1 hx;have h1:=hv i (by omega);have h1:a[i]∈vals (d0.getD i []):=(by rw[D0 (l:=a),D1 hi]at h1;exact h1);rw[D0,D1 (by omega)]at h1;exact(gd.few.fine _ (D8 _)).val _ h1
set_option maxHeartbeats 1000000 in
theorem AU (kb sb:Nat)(m:Mod)(left:Int)(d0:aa)(gd:GoodD d0.length d0)(hdl:d0.length<=1024)(hcl:m.cons.length<=4095)(hg:m.goal.kind≠0->GoalOk m.goal)(bp sp kp:Value)(I:Option (List Int)->Prop):FndOK (nk m kb bp sp kp) kb sb m left d0 I:=by
 refine⟨λt a g1 g2 nodes short over _ _ hf=> ?_⟩;obtain⟨hal,_,hav⟩:=rg gd hf;refine SpecX.body (fn:=Tryz.f42) [1000,1001,1002,1003,1004,1005] [1004,1005] Y Y Y Y λw0 Z=> ?_;refine T.sub (Rel.derawp (s:=1) (g:=1001) Y Y Y) ?_;refine T.sub (Rel.derawp (s:=2) (g:=1002) Y Y Y) ?_;refine T.sub (Rel.derawp (s:=4) (g:=1003) Y Y Y) ?_;refine .B ?_;refine .W ?_;refine .W ?_;refine J.sub (Rel.canon (keep:=[0,3,4,1000,1001,1002,1003,1004,1005]) (os:=[1000,1001,1002,1003,1004,1005]) Y) (?_:J _ _ _ _ ⟨[(0,.val true (ao a)),(3,.val false (.ptr (cM m))),(4,.optr 3 0 0 0),(1000,.eq (pV kb) 0),(1001,.eq bp 1),(1002,.eq sp 2),(1003,.eq kp 3),(1004,.eq g1 4),(1005,.eq g2 5)],[(0,some (kV m (pV sb) (mG m.cons m.goal t) left nodes short over (nk m kb bp sp kp).pv)),(1,some (.box true [ao a])),(2,some (.box true [.bool true])),(3,some (.box true [.raw (pV kb)])),(4,some (.sl 3 1 true [])),(5,some (.sl 3 1 true []))],6⟩ _);refine .B ?_;refine T.cd Y (λhk=> ?_) (λhk=> ?_)
 ·have e1:(nk m kb bp sp kp).fnd t a=(some a,true):=(by show(some a,decide (m.goal.kind=0))=_;rw[DD hk]);rw[e1];refine .B ?_;have e2: ∀u,mG m.cons m.goal u=m.cons:=λu=>(by cases u with|none=>rfl|some b=>exact D4 hk);refine⟨[0,1,2,3],[4,5],[g1,g2],⟨rfl,⟨_,rfl,?_,rfl⟩,rfl,⟨_,rfl,rfl,rfl⟩,rfl,⟨_,rfl,rfl,rfl⟩,rfl,⟨_,rfl,rfl,rfl⟩,trivial⟩,⟨rfl,⟨_,rfl,rfl,rfl⟩,rfl,⟨_,rfl,rfl,rfl⟩,trivial⟩,rfl,.val Y Y (λ_=>rfl) .nil⟩;show Own.reg _ _=kV m (pV sb) (mG m.cons m.goal (some a)) left nodes short over _;rw[e2,e2];rfl
 ·have e1:(nk m kb bp sp kp).fnd t a=(some a,false):=(by show(some a,decide (m.goal.kind=0))=_;rw[DC hk]);rw[e1];have hgo:=hg hk;have hgo2:=hgo;obtain⟨g4,g5,g6,g7⟩:=hgo2;have hat: ∀v,-1048576<=atR a v/\atR a v<=1048576:=λv=>by
   unfold atR;split;·omega
   ·rw[D0];cases h:a[v.toNat]? with
    |none=>simp
    |some x=>exact hav x (D7 h)
  have hvb: -4611686018427387904<=eG m.goal a/\eG m.goal a<=4611686018427387904:=by
   unfold eG;rw[D2 hk,<-jI];have:=pz m.goal.coefs (pickedR m.goal.vars a) g6 (λx hx=>by obtain⟨v,_,rfl⟩:=DF.1 hx;exact hat v);omega
  have hbe:=vh m.goal (eG m.goal a) hgo hvb;have e2:mG m.cons m.goal (some a)=m.cons++[kG m.goal (eG m.goal a)]:=D2 hk;have hva:=tU m.goal a hg (by omega) hav;have hcc:=nj m.cons (by omega);refine .M ?_;refine T.rdw 15 Y (by kernel_rfl) Y ?_;refine J.lp 1000 (b:=kb) (q:=0) Y ?_;refine .M ?_;refine .C hcc ?_;refine .M ?_;refine .C hva ?_;refine .M ?_;refine .C hbe ?_;refine .M ?_;refine .V ?_;refine J.ad Y Y Y Y Y Y Y Y Y Y Y Y Y Y Y Y Y Y (c9 Y) (Du (EA _ (show(m.cons.map cC).length+1<=4096 by rw[D9];omega)) (show 4096*104<=140737488355328 by decide)) ?_;refine .M ?_;refine⟨by kernel_rfl,?_⟩;refine J.sub (Rel.frzX (s:=24) (o:=7) Y Y ⟨.inr ⟨1000,_,_,rfl,rfl,by decide⟩,.inr ⟨1001,_,_,rfl,rfl,by decide⟩,.inr ⟨1002,_,_,rfl,rfl,by decide⟩,.inr ⟨1003,_,_,rfl,rfl,by decide⟩,.inr ⟨1004,_,_,rfl,rfl,by decide⟩,.inr ⟨1005,_,_,rfl,rfl,by decide⟩,trivial⟩) ?_;refine .W ?_;refine .M ?_;have e3:m.cons.map cC++[cC (kG m.goal (eG m.goal a))]=(mG m.cons m.goal (some a)).map cC:=(by rw[e2,EC];rfl);refine⟨[0,1,2,3],[4,5],[g1,g2],⟨rfl,⟨_,rfl,?_,rfl⟩,rfl,⟨_,rfl,rfl,rfl⟩,rfl,⟨_,rfl,rfl,rfl⟩,rfl,⟨_,rfl,rfl,rfl⟩,trivial⟩,⟨rfl,⟨_,rfl,rfl,rfl⟩,rfl,⟨_,rfl,rfl,rfl⟩,trivial⟩,rfl,.val Y Y (λ_=>rfl) .nil⟩;show Own.reg _ _=kV m (pV sb) (mG m.cons m.goal (some a)) left nodes short over _;unfold kV bF;rw[<-e3];rfl
theorem goal_kinds {d:aa}{g:Goal}(h:dQ d g=0):(g.kind=0/\g.vars=[]/\g.coefs=[])∨((g.kind=1∨g.kind=2)/\conR d (dI g)=0):=by
 unfold dQ at h;split at h;·rename_i h1;exact .inr ⟨h1,h⟩
 ·split at h;·cases h
  ·rename_i h1 h2;exact .inl ⟨by omega,DP (by omega),DP (by omega)⟩
theorem vm (k:Int):aG (-k)=aG k:=by unfold aG;omega
theorem sX (l:List Int):aj (l.map (- ·))=aj l:=by
 unfold aj;rw[F3];refine congrArg List.sum (EJ λk _=> ?_);show aG (-k)*1048576=_;rw[vm]
structure GoalIn (d:aa)(g:Goal):Prop where
 few:g.vars.length<=1024
 kind:g.kind=0∨((g.kind=1∨g.kind=2)/\SumFine d g.vars g.coefs/\g.vars.Nodup/\0<g.vars.length/\aj g.coefs<=4611686018427387904)
theorem xR {d:aa}{g:Goal}(gd:GoodD d.length d)(hf:g.vars.length<=1024)(hc:g.coefs.length<=1024)(h:dQ d g=0):GoalIn d g:=by
 refine⟨hf,?_⟩;rcases goal_kinds h with ⟨h1,_⟩|⟨h1,h2⟩;·exact .inl h1
 ·have hcb:ConB (dI g):=⟨by show(g.vars.length+1)*8<=_;omega,by show g.coefs.length*8<=_;omega,by simp[dI],by simp[dI]⟩;have hs:=rM hcb h2 Y gd.few.fine gd.few.small;obtain⟨_,h3⟩:=pF (jK h2);have:=bE (dI g).rhs;exact .inr ⟨h1,hs.fine,hs.nod,hs.pos,by have h3:aj g.coefs+aG (dI g).rhs<=_:=h3;omega⟩
theorem GoalIn.ok {d:aa}{g:Goal}(h:GoalIn d g)(hk:g.kind≠0):GoalOk g:=by
 rcases h.kind with h1|⟨_,h1,_,_,h2⟩;·exact DU h1 hk
 ·exact⟨h1.len,h.few,h1.ck,h2⟩
theorem C9 {a:List Int}(h: ∀x∈a,-1048576<=x/\x<=1048576)(v:Int): -1048576<=atR a v/\atR a v<=1048576:=by
 unfold atR;split;·omega
 ·rw[D0];cases e:a[v.toNat]? with
  |none=>simp
  |some x=>exact h x (D7 e)
theorem zy {g:Goal}{a:List Int}(hg:g.kind≠0->GoalOk g)(h: ∀x∈a,-1048576<=x/\x<=1048576): -4611686018427387904<=eG g a/\eG g a<=4611686018427387904:=by
 unfold eG;split;·omega
 ·rename_i hk;obtain⟨_,_,g6,g7⟩:=hg hk;rw[<-jI];have:=pz g.coefs (pickedR g.vars a) g6 (λx hx=>by obtain⟨v,_,rfl⟩:=DF.1 hx;exact C9 h v);omega
theorem zt {d:aa}{g:Goal}(h:GoalIn d g)(hk:g.kind≠0){v:Int}(hv: -4611686018427387904<=v/\v<=4611686018427387904):RightC d (kG g v):=by
 rcases h.kind with h1|⟨h1,h2,h3,h4,h5⟩;·exact DU h1 hk
 ·refine .inr ⟨rfl,?_⟩;unfold kG;by_cases hk2:g.kind=2
  ·rw[D4 hk2,D4 hk2];exact⟨⟨by show g.vars.length=(g.coefs.map (- ·)).length;rw[D9];exact h2.len,h2.vl,h2.vin,λk hk=>by
    obtain⟨j,hj,rfl⟩:=DF.1 hk;have:=h2.ck j hj;exact⟨by have:=this.1;omega,by rw[vm];exact this.2⟩,h2.dom,h2.dl⟩,h3,h4,by show(0:Int)<=0/\(0:Int)<=2;omega,by show aj (g.coefs.map (- ·))<=_;rw[sX];omega,by show aG (-v-1)<=_;unfold aG;omega⟩
  ·rw[D2 hk2,D2 hk2];exact⟨h2,h3,h4,by show(0:Int)<=0/\(0:Int)<=2;omega,by show aj g.coefs<=_;omega,by show aG (v-1)<=_;unfold aG;omega⟩
def IB (t:Option (List Int)):Prop:= ∀a,t=some a->∀x∈a,-1048576<=x/\x<=1048576
theorem At {d0:aa}{cons:List Con}{g:Goal}(h:RunOk d0 cons)(hl:cons.length<=4095)(hg:GoalIn d0 g):SrchOK d0 (mG cons g) (BI g) IB:=by
 refine⟨λt ht=> ?_,λt a ht hf b e=> ?_⟩
 ·cases t with
  |none=>exact h
  |some a=>
   by_cases hk:g.kind=0
   ·have e:mG cons g (some a)=cons:=D4 hk;rw[e];exact h
   ·have e:mG cons g (some a)=cons++[kG g (eG g a)]:=D2 hk;rw[e];refine⟨h.gd,λc hc=> ?_,λc hc=> ?_,h.prod,by rw[DX];show _+1<=_;omega⟩
    ·rcases DT.1 hc with hc|hc;·exact h.con c hc
     ·rw[DG.1 hc];have hlen:=(hg.ok hk).len;have hfew:=hg.few;refine⟨hfew,by show(g.vars.length+1)*8<=_;omega,?_,by simp[kG],by simp[kG]⟩;show(kG g _).coefs.length*8<=_;unfold kG;split;·show(g.coefs.map (- ·)).length*8<=_;rw[D9];omega
      ·show g.coefs.length*8<=_;omega
    ·rcases DT.1 hc with hc|hc;·exact h.right c hc
     ·rw[DG.1 hc];exact zt hg hk (zy (λhk=>hg.ok hk) (ht a Y))
 ·cases e;exact(rg h.gd hf).2.2
end Go.Proofs.YtopcjbahjjhdmaaGreat
