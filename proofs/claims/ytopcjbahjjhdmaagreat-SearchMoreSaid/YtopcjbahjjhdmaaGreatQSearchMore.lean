/- The statement SearchMore: the law, and its row; ahead of it what it needs (PwF, PwG, FwR, FwS, FwT, FwU, FwQ, FwV, FwW, FwX, PwH, PwI, PwJ, PwK, FwZ, LwGWhole, FxF, FxG, LwGMore, RowA, RowM, RowGMore). -/
import Derived.Test.YtopcjbahjjhdmaaGreatB9
import Derived.Laws.Strings
import Derived.Test.YtopcjbahjjhdmaaGreatRows
import Derived.WalkKit
import Derived.ProofKit
import Derived.OpenShut
import Derived.ShutString
import Derived.ChangeOld
import Derived.Below
import Derived.SizedLaws
namespace Go.Proofs.YtopcjbahjjhdmaaGreat
open Go Go.RowKit
set_option linter.unusedVariables false
set_option linter.unusedSimpArgs false
def kS:Con:=⟨0,[0,1],[1,1],1,1,[],0⟩
def kT:Con:=⟨0,[0,1],[-2,-1],0,-2,[],0⟩
def eA:Mod:=⟨[(⟨#[120]⟩,[(0,1)]),(⟨#[121]⟩,[(0,1)])],[kS],⟨2,[0,1],[2,1]⟩⟩
theorem wY:ConB kS:=by simp[ConB,kS]
theorem Dg:ConB kT:=by simp[ConB,kT]
theorem gp0:GoodD 2 (dmQ 0 1 0 1):=jo (by decide) (by decide) (by decide) (by decide) (by decide) (by decide)
theorem gp1:GoodD 2 (dmQ 0 0 0 1):=jo (by decide) (by decide) (by decide) (by decide) (by decide) (by decide)
theorem gp2:GoodD 2 (dmQ 0 0 1 1):=jo (by decide) (by decide) (by decide) (by decide) (by decide) (by decide)
theorem gp3:GoodD 2 (dmQ 1 1 0 1):=jo (by decide) (by decide) (by decide) (by decide) (by decide) (by decide)
theorem gp4:GoodD 2 (dmQ 1 1 0 0):=jo (by decide) (by decide) (by decide) (by decide) (by decide) (by decide)
theorem C4:bK kS (dmQ 0 1 0 1)=some (dmQ 0 1 0 1):=jA (N:=5) gp0 wY Y (by decide +kernel) (by unfold LinAns;rw[D2 (by decide),D2 (by decide)];decide +kernel)
theorem C3:bK kS (dmQ 0 0 0 1)=some (dmQ 0 0 1 1):=jA (N:=5) gp1 wY Y (by decide +kernel) (by unfold LinAns;rw[D2 (by decide),D2 (by decide)];decide +kernel)
theorem C2:bK kS (dmQ 0 0 1 1)=some (dmQ 0 0 1 1):=jA (N:=5) gp2 wY Y (by decide +kernel) (by unfold LinAns;rw[D2 (by decide),D2 (by decide)];decide +kernel)
theorem B7:bK kS (dmQ 1 1 0 1)=some (dmQ 1 1 0 0):=jA (N:=5) gp3 wY Y (by decide +kernel) (by unfold LinAns;rw[D2 (by decide),D2 (by decide)];decide +kernel)
theorem B6:bK kS (dmQ 1 1 0 0)=some (dmQ 1 1 0 0):=jA (N:=5) gp4 wY Y (by decide +kernel) (by unfold LinAns;rw[D2 (by decide),D2 (by decide)];decide +kernel)
theorem C1:bK kT (dmQ 1 1 0 0)=some (dmQ 1 1 0 0):=jA (N:=5) gp4 Dg Y (by decide +kernel) (by unfold LinAns;rw[D2 (by decide),D2 (by decide)];decide +kernel)
theorem z6:RunOk (dmQ 0 1 0 1) [kS]:=by
 refine⟨gp0,λc hc=> ?_,λc hc=> .inl ?_,by decide +kernel,by decide⟩;·simp at hc;subst hc;exact⟨by decide,wY⟩
 ·simp at hc;subst hc;decide +kernel
theorem Dt:RunOk (dmQ 0 1 0 1) [kS,kT]:=by
 refine⟨gp0,λc hc=> ?_,λc hc=> .inl ?_,by decide +kernel,by decide⟩
 ·simp at hc;rcases hc with rfl|rfl;·exact⟨by decide,wY⟩
  ·exact⟨by decide,Dg⟩
 ·simp at hc;rcases hc with rfl|rfl<;>decide +kernel
theorem leP {a b c d:Int}(h:0<=a/\b<=1/\0<=c/\d<=1):leD (dmQ a b c d) (dmQ 0 1 0 1):=by
 refine⟨rfl,λu x h0 hx=> ?_⟩;unfold domAt at hx⊢
 match hn:u.toNat with
 |0=>rw[hn]at hx;simp[dmQ,vals,cB]at hx⊢;omega
 |1=>rw[hn]at hx;simp[dmQ,vals,cB]at hx⊢;omega
 |n+2=>rw[hn]at hx;simp[dmQ,vals]at hx
theorem Dq:fY [kS] (dmQ 0 1 0 1)=some (dmQ 0 1 0 1):=by
 refine(fv (R:=some (dmQ 0 1 0 1)) ⟨?_,λc hc=> ?_⟩).symm;·exact Come.refl (aY 2) gp0
 simp at hc;subst hc;exact C4
theorem A9:fY [kS] (dmQ 0 0 0 1)=some (dmQ 0 0 1 1):=by
 have hs:=(z6.less (e:=dmQ 0 0 0 1) gp1 (leP (by decide))).step (c:=kS) (by simp);refine(fv (R:=some (dmQ 0 0 1 1)) ⟨?_,λc hc=> ?_⟩).symm;·exact(Come.refl (aY 2) gp1).step (aY 2) (c:=kS) (by simp) hs.takes C3
 simp at hc;subst hc;exact C2
theorem Dp:fY [kS] (dmQ 1 1 0 1)=some (dmQ 1 1 0 0):=by
 have hs:=(z6.less (e:=dmQ 1 1 0 1) gp3 (leP (by decide))).step (c:=kS) (by simp);refine(fv (R:=some (dmQ 1 1 0 0)) ⟨?_,λc hc=> ?_⟩).symm;·exact(Come.refl (aY 2) gp3).step (aY 2) (c:=kS) (by simp) hs.takes B7
 simp at hc;subst hc;exact B6
theorem Do:fY [kS,kT] (dmQ 1 1 0 1)=some (dmQ 1 1 0 0):=by
 have hs:=(Dt.less (e:=dmQ 1 1 0 1) gp3 (leP (by decide))).step (c:=kS) (by simp);refine(fv (R:=some (dmQ 1 1 0 0)) ⟨?_,λc hc=> ?_⟩).symm;·exact(Come.refl (aY 2) gp3).step (aY 2) (c:=kS) (by simp) hs.takes B7
 simp at hc;rcases hc with rfl|rfl;·exact B6
 ·exact C1
theorem uJ {σ:Type}{left:Int}{con:σ->List Con}{fnd:σ->List Int->σ×Bool}{n:Nat}{d l:aa}{s:Srch σ}{a:List Int}(h1:(s.nodes:Int)<left)(h2:fY (con s.st) d=some l)(h3:cz l=some a):lookG left con fnd (n+1) d s= { s with nodes:=s.nodes+1,st:=(fnd s.st a).1,over:=(fnd s.st a).2 }:=by
 rw[lookG,D2 (by omega),h2];simp only[h3]
theorem wS {σ:Type}{left:Int}{con:σ->List Con}{fnd:σ->List Int->σ×Bool}{n:Nat}{s:Srch σ}(h1:(s.nodes:Int)<left)(h2:con s.st=[kS]):lookG left con fnd (n+1) (dmQ 0 1 0 1) s=[0,1].foldl (λs x=>if s.over then s else lookG left con fnd n (dmQ x x 0 1) s) { s with nodes:=s.nodes+1 }:=by
 rw[lookG,D2 (by omega),h2,Dq];have h3:cz (dmQ 0 1 0 1)=none:=(by decide +kernel);simp only[h3];have h4:openV (dmQ 0 1 0 1)=0:=(by decide +kernel);rw[h4];rfl
theorem Bg:srchA eA 9=⟨3,false,false,[[0,1],[1,0]]⟩:=by
 show lookG 9 (λ_=>[kS]) jj 5 (dmQ 0 1 0 1) ⟨0,false,false,[]⟩=_;rw[wS (by decide) Y,DX,D2 (by decide),uJ (n:=3) (by decide) A9 (a:=[0,1]) (by decide +kernel),DX,D2 (by decide),uJ (n:=3) (by decide) Dp (a:=[1,0]) (by decide +kernel)];rfl
theorem Bh:srchA eA 2=⟨2,true,true,[[0,1]]⟩:=by
 show lookG 2 (λ_=>[kS]) jj 5 (dmQ 0 1 0 1) ⟨0,false,false,[]⟩=_;rw[wS (by decide) Y,DX,D2 (by decide),uJ (n:=3) (by decide) A9 (a:=[0,1]) (by decide +kernel),DX,D2 (by decide),lookG,D3 (by decide)];rfl
theorem Bf:srchB eA 9=⟨3,false,false,some [1,0]⟩:=by
 show lookG 9 (fU [kS] ⟨2,[0,1],[2,1]⟩) (p9 ⟨2,[0,1],[2,1]⟩) 5 (dmQ 0 1 0 1) ⟨0,false,false,none⟩=_;rw[wS (by decide) Y,DX,D2 (by decide),uJ (n:=3) (by decide) A9 (a:=[0,1]) (by decide +kernel),DX,D2 (by decide),uJ (n:=3) (by decide) (show fY (fU [kS] ⟨2,[0,1],[2,1]⟩ (some [0,1])) (dmQ 1 1 0 1)=_ from Do) (a:=[1,0]) (by decide +kernel)];rfl
theorem Bq:checkR eA=0:=by decide +kernel
theorem sf:ModB eA:=⟨by decide,λv hv=>by simp[eA]at hv;rcases hv with rfl|rfl<;>exact⟨by decide,by decide⟩,by decide,λc hc=>by simp[eA]at hc;subst hc;exact⟨by decide,by decide,by decide,by simp[kS]⟩,⟨by decide,by decide⟩⟩
def qM:Mod:=⟨[],[],⟨9,[],[]⟩⟩
theorem Bz:checkR qM=44:=by decide +kernel
theorem Ct:ModB qM:=⟨by decide,λv hv=>(by cases hv),by decide,λc hc=>(by cases hc),⟨by decide,by decide⟩⟩
def i4 (g:Goal):Goal:=⟨3-g.kind,g.vars,g.coefs.map (- ·)⟩
def xB (m:Mod):Mod:=⟨m.vars,m.cons,i4 m.goal⟩
theorem qE: ∀(vars coefs a:List Int),bG vars (coefs.map (- ·)) a= -bG vars coefs a
 |v::vars,k::coefs,a=>by
  have:=qE vars coefs a;unfold bG at*;simp only[DZ,FA,Ej,this];rw[Gd];omega
 | [],coefs,a=>by simp[bG]
 |_::_,[],a=>by simp[bG]
theorem yh: ∀(l:List Int) (room:Int),eD room (l.map (- ·))=eD room l
 | [],room=>rfl
 |k::l,room=>by
  rw[DZ,eD,eD,yh l];have e:max (-k) (- -k)=max k (-k):=(by omega);rw[e];by_cases h:4398046511104<k∨k< -4398046511104;·rw[D3 h,D3 (by omega)]
  ·rw[D2 h,D2 (by omega)]
theorem zP (d:aa)(g:Goal):conR d (em (i4 g))=conR d (em g):=by
 have h1:sumR (em (i4 g))=sumR (em g):=by
  unfold sumR em i4;simp only[D9];congr 2;rw[decide_eq_decide,DD];constructor
  ·rintro⟨k,hk,h⟩;have e:k=0:=(by omega);rw[e]at hk;exact hk
  ·intro h;exact⟨0,h,by omega⟩
 have h2:ee (em (i4 g)).coefs (em (i4 g)).rhs=ee (em g).coefs (em g).rhs:=by
  unfold ee;show(if _ then true else eD _ (g.coefs.map (- ·)))=_;rw[yh];rfl
 have h3:rightR d (em (i4 g))=rightR d (em g):=by
  unfold rightR;rw[D3 (show(em (i4 g)).kind=0 from Y),D3 (show(em g).kind=0 from Y),h1];rfl
 unfold conR;rw[h2,h3];rfl
theorem yv {d:aa}{g:Goal}(hk:g.kind=1∨g.kind=2):eB d (i4 g)=eB d g:=by
 unfold eB;rw[D3 (show(i4 g).kind=1∨(i4 g).kind=2 by show 3-g.kind=1∨3-g.kind=2;omega),D3 hk,zP]
theorem vV {m:Mod}(hk:m.goal.kind=1∨m.goal.kind=2):checkR (xB m)=checkR m:=by
 unfold checkR;rw[show eB (domsM (xB m)) (xB m).goal=eB (domsM m) m.goal from yv hk];rfl
set_option maxRecDepth 8000
theorem qS (l:List Int)(hl:l.length<=1048576):Spec Tryz.prog 175 false [ao l] [.val (.bool (decide l.Nodup))]:=by
 refine Spec.body Tryz.func175 Y Y Y λw0 Z0=> ?_;have hs:(sortI l).length=l.length:=Fz ..;have e:decide l.Nodup=decide ((((aW l).map cI).length:Int)=((l.map cI).length:Int)):=decide_eq_decide.2 (by rw[D9,D9,<-l7];omega);rw[e];refine .B ?_;refine .D (oh l) ?_;refine .D (kU l (by omega)) ?_;refine J.cp (cs2:=[]) (qs:=[]) [] Y Y Y Y Y Y Y Y (iI _ (by omega)) trivial Y Y Y Y Y Y ?_;rw[iJ];refine .B ?_;exact r1
theorem BB {d:List (Int×Int)}(h: ∀r∈d,r.1<=r.2):dX d [(0,1)]=[]↔truthR d=true:=by
 have h1: ∀(out:List (Int×Int)) (r:Int×Int),r.1<=r.2->(cA [(0,1)] out r=out/\(!(decide (r.1<0)||decide (1<r.2)))=true)∨(∃p,cA [(0,1)] out r=out++p/\p≠[]/\(!(decide (r.1<0)||decide (1<r.2)))=false):=by
  intro out r hr;have hw:wr ((0,1):Int×Int).2=1:=rfl;have hw2:wr (((0,1):Int×Int).2+1)=2:=(by rfl);unfold cA;rw[bM,bM,bM];by_cases h2:((0,1):Int×Int).2<r.1∨r.2<((0,1):Int×Int).1
  ·rw[D3 h2];rw[D3 hr];refine .inr ⟨_,rfl,by simp,?_⟩;have h2:1<r.1∨r.2<0:=h2;have:r.1<0∨1<r.2:=(by omega);rcases this with h|h<;>simp[h]
  ·rw[D2 h2,hw2];have h2: ¬(1<r.1∨r.2<0):=h2;by_cases h3:r.1<((0,1):Int×Int).1
   ·rw[D3 h3];have h3:r.1<0:=h3;refine .inr ?_;split;·exact⟨_,EF _ _ _,by simp,by simp[h3]⟩
    ·exact⟨_,rfl,by simp,by simp[h3]⟩
   ·rw[D2 h3];have h3: ¬r.1<0:=h3;split
    ·rename_i h4;have h4:2<=r.2:=h4;exact .inr ⟨_,rfl,by simp,by simp[show 1<r.2 by omega]⟩
    ·rename_i h4;have h4: ¬2<=r.2:=h4;exact .inl ⟨rfl,by simp[h3,show¬1<r.2 by omega]⟩
 have key: ∀(l:List (Int×Int)) (out:List (Int×Int)),(∀r∈l,r.1<=r.2)->(∃p,l.foldl (cA [(0,1)]) out=out++p/\(p=[]↔truthR l=true)):=by
  intro l
  induction l with
  |nil=>intro out _;exact⟨[],by simp,by simp[truthR]⟩
  |cons r l ih=>
   intro out hl;have ht:truthR (r::l)=((!(decide (r.1<0)||decide (1<r.2)))&&truthR l):=rfl;rw[DX,ht];rcases h1 out r (hl r (.head _))with ⟨e,e2⟩|⟨p,e,hp,e2⟩;·rw[e,e2,Ei];exact ih out λr hr=>hl r (.tail _ hr)
   ·obtain⟨q,h3,h4⟩:=ih (out++p) λr hr=>hl r (.tail _ hr);rw[e,e2,h3,EF];exact⟨p++q,rfl,by simp[hp]⟩
 obtain⟨p,h2,h3⟩:=key d [] h;unfold dX;rw[h2,Eo];exact h3
theorem ng (d:List (Int×Int))(hd:d.length<=1048576)(hr: ∀r∈d,r.1<=r.2):Spec Tryz.prog 172 false [dm d] [.val (.bool (truthR d))]:=by
 refine Spec.body Tryz.func172 Y Y Y λw0 Z0=> ?_;have hm:=kx d [(0,1)] (by simp) (by show(d.length+1)*2*16<=_;omega);have e:truthR d=decide ((((dX d [(0,1)]).map cR).length:Int)=0):=by
  rw[FZ,DM,<-BB hr,D9];exact⟨λh=>by rw[h];rfl,λh=>DN (by omega)⟩
 rw[e];refine .B ?_;refine .Z ?_;refine .D hm ?_;exact r1
theorem yI (v:Int):Spec Tryz.prog 222 false [.int .i64 v] [.val (.bool (!aG v))]:=by
 refine Spec.body Tryz.func222 Y Y Y λw0 Z0=> ?_;refine .B ?_;refine J.g Y Y Y (λh=> ?_) (λh=> ?_)
 ·have e:(!aG v)=true:=(by have h:v< -1048576:=h;simp[aG];omega);rw[e];refine .B ?_;exact r1
 ·have e:(!aG v)=decide (v > 1048576):=(by have h: ¬v< -1048576:=h;simp only[aG];rw[FZ];simp;omega);rw[e];refine .B ?_;exact r1
theorem tR (v:Int):Spec Tryz.prog 179 false [.int .i64 v] [.val (.bool (!(decide (v=1)||decide (v= -1))))]:=by
 refine Spec.body Tryz.func179 Y Y Y λw0 Z0=> ?_;refine .B ?_;refine J.g Y Y Y (λh=> ?_) (λh=> ?_)
 ·have h:v≠1:=h;rw[DC h,HH];refine .B ?_;exact⟨_,.v Y Y (by rw[<-decide_not]) (λ_=>rfl) .nil⟩
 ·have h:v=1:=(by have h: ¬(v≠1):=h;omega);rw[DE h,Bool.true_or];refine .B ?_;exact r1
theorem tL (l:List Int)(v:Int)(hl:l.length*8<=140737488355328):Spec Tryz.prog 223 false [ao l,.int .i64 v] [.val (.int .i64 (indexP (λx=>decide (v=x)) l))]:=by
 refine Spec.body Tryz.func223 Y Y Y λw0 Z0=> ?_;refine .B ?_;refine T.K (T.listI l (λpre=> ∀x∈pre,¬v=x) (λn pre post=>⟨[(0,.val false (ao l)),(1,.val false (.int .i64 v)),(7,.val true (.int .i64 (l.map cI).length)),(8,.val true (.int .i64 n))],[],0⟩) (λ_ _ h=>h) (λv hv=>by cases hv) ?_ ?_)
 ·rintro n pre x post h hn hi ih;have hlt:=bZ h hn;refine .B ?_;refine T.ct2 Y (bY h hn) ?_;refine .B ?_;refine .F (r:=cI x) (aQ h hn) ?_;refine T.cd Y (λh2=> ?_) (λh2=> ?_)
  ·have h2:v=x:=h2;refine .B ?_;have e:indexP (λx=>decide (v=x)) l=(n:Int):=by
    unfold indexP;rw[h,GM,EO.2 (by simpa using hi),Fe,D3 (by simpa using h2)];simp[hn]
   rw[e];exact r1
  ·have h2: ¬v=x:=h2;refine .B ?_;rw[aj hlt (by omega)];exact T.K (ih (by
    intro y hy;rcases DT.1 hy with hy|hy;·exact hi y hy
    ·rw[DF.1 hy];exact h2))
 ·intro hi;have e:indexP (λx=>decide (v=x)) l= -1:=by
   unfold indexP;rw[EO.2 (by simpa using hi)]
  rw[e];refine .B ?_;refine T.cf2 Y bq ?_;refine .B ?_;exact r1
theorem jh (l:List Int)(v:Int)(hl:l.length*8<=140737488355328):Spec Tryz.prog 178 false [ao l,.int .i64 v] [.val (.bool (decide (v∈l)))]:=by
 refine Spec.body Tryz.func178 Y Y Y λw0 Z0=> ?_;refine .B ?_;refine .D (tL l v hl) ?_;refine⟨_,.v Y Y ?_ (λ_=>rfl) .nil⟩;simp only[PV.bool.injEq];unfold indexP;cases h:l.findIdx? λx=>decide (v=x)with
 |none=>
  have h1:=EO.1 h;have: ¬v∈l:=λhv=>(by simpa using h1 v hv);rw[DC this];rfl
 |some i=>
  obtain⟨h1,h2,_⟩:=Ep.1 h;have:v∈l:=(by rw[EZ h2];exact D8 h1);rw[DE this];simp
theorem qN (c:Con)(hv:c.vars.length<=1048576)(hk:c.coefs.length<=1048576):Spec Tryz.prog 180 false [.agg (cC c)] [.val (.bool (sumR c))]:=by
 refine Spec.body Tryz.func180 Y Y Y λw0 Z0=> ?_;have hall:=qS c.vars hv;have hcon:=jh c.coefs 0 (by omega);refine .B ?_;refine J.g Y Y Y (λh1=> ?_) (λh1=> ?_)
 ·have h1:0<c.vars.length:=(by simpa using h1);refine .B ?_;refine J.g Y Y Y (λh2=> ?_) (λh2=> ?_)
  ·have h2:c.vars.length=c.coefs.length:=(by simp at h2;omega);have e:sumR c=(decide c.vars.Nodup&& !decide (0∈c.coefs)):=(by unfold sumR;rw[DE h1,DE h2,Gs,Gs]);rw[e];generalize decide c.vars.Nodup=nd at*;refine .B ?_;refine .C hall ?_;cases nd
   ·refine .B ?_;exact r1
   ·refine .B ?_;refine .D hcon ?_;exact r1
  ·have h2: ¬c.vars.length=c.coefs.length:=(by simp at h2;omega);have e:sumR c=false:=(by unfold sumR;rw[DC h2,GO,FV]);rw[e];refine .B ?_;exact r1
 ·have h1: ¬0<c.vars.length:=(by simpa using h1);have e:sumR c=false:=(by unfold sumR;rw[DC h1,GO,FV,FV]);rw[e];refine .B ?_;exact r1
theorem wP (c:Con)(hv:c.vars.length<=1048576)(hk:c.coefs.length<=1048576):Spec Tryz.prog 173 false [.agg (cC c)] [.val (.bool (sumR c&&opR c))]:=by
 refine Spec.body Tryz.func173 Y Y Y λw0 Z0=> ?_;have hs:=qN c hv hk;generalize sumR c=sr at*;refine .B ?_;refine .C hs ?_;cases sr
 ·refine .B ?_;exact r1
 ·refine .B ?_;refine J.g Y Y Y (λh1=> ?_) (λh1=> ?_)
  ·have e:(true&&opR c)=decide (c.op<3):=(by unfold opR;rw[DE (show 0<=c.op from h1)];simp;omega);rw[e];refine .B ?_;exact r1
  ·have e:(true&&opR c)=false:=(by unfold opR;rw[DC (show¬0<=c.op from h1)];rfl);rw[e];refine .B ?_;exact r1
theorem uw (c:Con):Spec Tryz.prog 174 false [.agg (cC c)] [.val (.bool (plainR c))]:=by
 refine Spec.body Tryz.func174 Y Y Y λw0 Z0=> ?_;refine .B ?_;refine J.g Y Y Y (λh1=> ?_) (λh1=> ?_)
 ·have h1:c.coefs.length=0:=(by simpa using h1);refine .B ?_;refine J.g Y Y Y (λh2=> ?_) (λh2=> ?_)
  ·have h2:c.op=0:=h2;refine .B ?_;refine J.g Y Y Y (λh3=> ?_) (λh3=> ?_)
   ·have h3:c.rhs=0:=h3;have e:plainR c=decide (c.b=0):=(by unfold plainR bareR;rw[DE h1,DE h2,DE h3];simp);rw[e];refine .B ?_;exact r1
   ·have h3: ¬c.rhs=0:=h3;have e:plainR c=false:=(by unfold plainR bareR;rw[DC h3];simp);rw[e];refine .B ?_;exact r1
  ·have h2: ¬c.op=0:=h2;have e:plainR c=false:=(by unfold plainR bareR;rw[DC h2];simp);rw[e];refine .B ?_;exact r1
 ·have h1: ¬c.coefs.length=0:=(by simpa using h1);have e:plainR c=false:=(by unfold plainR bareR;rw[DC h1];simp);rw[e];refine .B ?_;exact r1
theorem y6 (c:Con)(l:List Int)(hl:l.length*8<=140737488355328):Spec Tryz.prog 177 false [.agg (cC c),ao l] [.val (.bool (ex c l))]:=by
 refine Spec.body Tryz.func177 Y Y Y λw0 Z0=> ?_;have hcon:=d9 (p:=λv=> !aG v) (f:=222) [] l (λv _=>yI v) hl;have e2:(l.any λv=> !aG v)= !l.all aG:=(by rw[FT]);rw[e2]at hcon;refine .B ?_;refine J.g Y Y Y (λh1=> ?_) (λh1=> ?_)
 ·have h1:l.length=c.vars.length:=(by simp at h1;omega);have e:ex c l=l.all aG:=(by unfold ex;rw[DE h1,Ei]);rw[e];refine .B ?_;refine .D hcon ?_;exact⟨_,.v Y Y (by rw[HO]) (λ_=>rfl) .nil⟩
 ·have h1: ¬l.length=c.vars.length:=(by simp at h1;omega);have e:ex c l=false:=(by unfold ex;rw[DC h1,FV]);rw[e];refine .B ?_;exact r1
theorem tS (c:Con)(l:List Int)(hl:l.length*8<=140737488355328):Spec Tryz.prog 176 false [ao l,.ptr (cC c)] [.val (.bool (!ex c l))]:=by
 refine Spec.body Tryz.func176 Y Y Y λw0 Z0=> ?_;refine .B ?_;refine .D (y6 c l hl) ?_;exact r1
theorem r9 (d:aa)(v:Int)(hv:0<=v/\v.toNat<d.length)(hx: ∀x∈d,x.length<=1048576/\∀r∈x,r.1<=r.2):Spec Tryz.prog 171 false [.int .i64 v,.ptr [aH d]] [.val (.bool (!truthR (domAt d v)))]:=by
 refine Spec.body Tryz.func171 Y Y Y λw0 Z0=> ?_;have hy:d[v.toNat]? =some (domAt d v):=(by unfold domAt;rw[D0,D1 hv.2];rfl);have hm:=D7 hy;have ht:=ng (domAt d v) (hx _ hm).1 (hx _ hm).2;refine .B ?_;refine J.i Y Y Y Y Y Y Y Y Y (r:=cD (domAt d v)) hv.1 (by rw[DG,hy];rfl) Y ?_;refine .B ?_;refine .D ht ?_;exact r1
theorem tT (d:aa)(l:List Int)(hl:l.length*8<=140737488355328)(hv: ∀v∈l,0<=v/\v.toNat<d.length)(hx: ∀x∈d,x.length<=1048576/\∀r∈x,r.1<=r.2):Spec Tryz.prog 170 false [ao l,.ptr [aH d]] [.val (.bool (l.all λv=>truthR (domAt d v)))]:=by
 refine Spec.body Tryz.func170 Y Y Y λw0 Z0=> ?_;have hcon:=d9 (p:=λv=> !truthR (domAt d v)) (f:=171) [.ptr [aH d]] l (λv h=>r9 d v (hv v h) hx) hl;have e2:(l.any λv=> !truthR (domAt d v))= !l.all λv=>truthR (domAt d v):=(by rw[FT]);rw[e2]at hcon;refine .B ?_;refine .D hcon ?_;exact⟨_,.v Y Y (by rw[HO]) (λ_=>rfl) .nil⟩
def yn (d:aa):Prop:= ∀x∈d,x.length<=1048576/\∀r∈x,r.1<=r.2
theorem yr (d:aa)(c:Con)(hl:c.vars.length=c.coefs.length):gw d c=((c.coefs.all λk=>decide (k=1)||decide (k= -1))&&c.vars.all λv=>truthR (domAt d v)):=by
 rw[FZ,DH,gw,DJ,DJ,DJ];have hva: ∀i,i<c.vars.length->∀(h:i<c.vars.length),varAt c i=c.vars[i]:=λi hi h=>(by unfold varAt;rw[D0,D1 h];rfl);have hca: ∀i,∀(h:i<c.coefs.length),coefAt c i=c.coefs[i]:=λi h=>(by unfold coefAt;rw[D0,D1 h];rfl);constructor
 ·intro h;refine⟨λk hk=> ?_,λv hv=> ?_⟩
  ·obtain⟨i,hi,rfl⟩:=Fj.1 hk;have:=h i (DO.2 (by omega));unfold gy at this;rw[hca i hi,DH]at this;exact this.2
  ·obtain⟨i,hi,rfl⟩:=Fj.1 hv;have:=h i (DO.2 hi);unfold gy at this;rw[hva i hi hi,DH]at this;exact this.1
 ·rintro⟨h1,h2⟩ i hi;have hi:=DO.1 hi;unfold gy;rw[hva i hi hi,hca i (by omega),DH];exact⟨h2 _ (D8 _),h1 _ (D8 _)⟩
theorem uv (d:aa)(c:Con)(hvl:c.vars.length<=1048576)(hkl:c.coefs.length<=1048576)(hrl:c.rows.length<=1048576)(hr: ∀r∈c.rows,r.length*8<=140737488355328)(hv: ∀v∈c.vars,0<=v/\v.toNat<d.length)(hb:c.kind=4->0<=c.b/\c.b.toNat<d.length)(hx:yn d):Spec Tryz.prog 130 false [aH d,.agg (cC c)] [.val (.bool (rightR d c))]:=by
 refine Spec.body Tryz.func130 Y Y Y λw0 Z0=> ?_;refine T.seq ?_;refine T.r ?_
 repeat' first|refine J.e Y Y Y Y ?_|refine J.skip Y Y Y ?_|refine J.bx Y Y Y Y Y Y ?_
 refine J.nil ?_;refine T.sub (Rel.unbx (s:=2) (λb h=>h) Y Y) ?_;refine T.sub (Rel.fp (s:=2) Y) ?_;refine .B ?_;have hsum:=qN c hvl hkl;have hheld:=wP c hvl hkl;have hplain:=uw c;have hall:=qS c.vars hvl;have hrow:=jq (p:=λr=> !ex c r) (f:=176) [.ptr (cC c)] c.rows (λr h=>tS c r (hr r h)) (by omega);rw[<-FT]at hrow;have hunit:=d9 (p:=λv=> !(decide (v=1)||decide (v= -1))) (f:=179) [] c.coefs (λv _=>tR v) (by omega);rw[<-FT]at hunit;have htr:=tT d c.vars (by omega) hv hx;have hbm:=jh c.vars c.b (by omega);refine J.g Y Y Y (λh1=> ?_) (λh1=> ?_)
 ·have h1: ¬c.kind=2:=h1;refine .B ?_;refine T.cd Y (λh2=> ?_) (λh2=> ?_)
  ·have h2:0<c.rows.length:=(by simp at h2;omega);have e:rightR d c=false:=by
    have:noneR c=false:=(by unfold noneR;rw[DC (by omega)]);unfold rightR;rw[D2 h1,this]
    repeat' split
    all_goals simp
   rw[e];refine .B ?_;exact r1
  ·have hn:noneR c=true:=(by unfold noneR;simp at h2⊢;omega);refine .B ?_;refine T.cd Y (λhk0=> ?_) (λhk0=> ?_)
   ·have hk0:c.kind=0:=hk0;have e:rightR d c=((sumR c&&opR c)&&decide (c.b=0)):=(by unfold rightR;rw[D3 hk0,hn,Ei]);rw[e];generalize (sumR c&&opR c)=so at*;refine .B ?_;refine .C hheld ?_;cases so
    ·refine .B ?_;exact r1
    ·refine .B ?_;exact r1
   ·have hk0: ¬c.kind=0:=hk0;refine .B ?_;refine T.cd Y (λhk1=> ?_) (λhk1=> ?_)
    ·have hk1:c.kind=1:=hk1;have e:rightR d c=(plainR c&&(decide (0<c.vars.length)&&decide c.vars.Nodup)):=(by unfold rightR;rw[D2 hk0,D3 hk1,hn,Ei];rfl);rw[e];generalize plainR c=pr at*;generalize decide c.vars.Nodup=nd at*;refine .B ?_;refine .C hplain ?_;cases pr
     ·refine .B ?_;exact r1
     ·refine .B ?_;refine J.g Y Y Y (λh3=> ?_) (λh3=> ?_)
      ·rw[DE (show 0<c.vars.length by have h:=h3;rw[D9]at h;omega)];refine .B ?_;refine .D hall ?_;exact r1
      ·rw[DC (show¬0<c.vars.length by have h:=h3;rw[D9]at h;omega)];refine .B ?_;exact r1
    ·have hk1: ¬c.kind=1:=hk1;refine .B ?_;refine T.cf2 Y (DC h1) ?_;refine .B ?_;refine T.cd Y (λhk3=> ?_) (λhk3=> ?_)
     ·have hk3:c.kind=3:=hk3;have e:rightR d c=(plainR c&&(decide (3<=c.vars.length)&&decide c.vars.Nodup)):=by
       unfold rightR;rw[D2 hk0,D2 hk1,D2 h1,D3 hk3,hn,Ei];unfold manyR;generalize plainR c=pr;generalize decide c.vars.Nodup=nd;by_cases h:3<=c.vars.length;·rw[DE h,DE (show 0<c.vars.length by omega)];simp
       ·rw[DC h];simp
      rw[e];generalize plainR c=pr at*;generalize decide c.vars.Nodup=nd at*;refine .B ?_;refine .C hplain ?_;cases pr
      ·refine .B ?_;exact r1
      ·refine .B ?_;refine J.g Y Y Y (λh3=> ?_) (λh3=> ?_)
       ·rw[DE (show 3<=c.vars.length by have h:=h3;rw[D9]at h;omega)];refine .B ?_;refine .D hall ?_;exact r1
       ·rw[DC (show¬3<=c.vars.length by have h:=h3;rw[D9]at h;omega)];refine .B ?_;exact r1
     ·have hk3: ¬c.kind=3:=hk3;refine .B ?_;refine T.cd Y (λhk4=> ?_) (λhk4=> ?_)
      ·have hk4:c.kind=4:=hk4;obtain⟨hb0,hb1⟩:=hb hk4;have hy:d[c.b.toNat]? =some (domAt d c.b):=(by unfold domAt;rw[D0,D1 hb1];rfl);have hm:=D7 hy;have ht:=ng (domAt d c.b) (hx _ hm).1 (hx _ hm).2;have e:rightR d c=((sumR c&&opR c)&&truthR (domAt d c.b)&& !decide (c.b∈c.vars)):=(by unfold rightR;rw[D2 hk0,D2 hk1,D2 h1,D2 hk3,D3 hk4,hn,Ei]);rw[e];generalize (sumR c&&opR c)=so at*;generalize truthR (domAt d c.b)=tr at*;refine .B ?_;refine .C hheld ?_;cases so
       ·refine .B ?_;exact r1
       ·refine .B ?_;refine J.i Y Y Y Y Y Y Y Y Y (r:=cD (domAt d c.b)) hb0 (by rw[DG,hy];rfl) Y ?_;refine .B ?_;refine .C ht ?_;cases tr
        ·refine .B ?_;exact r1
        ·refine .B ?_;refine .D hbm ?_;exact r1
      ·have hk4: ¬c.kind=4:=hk4;refine .B ?_;refine T.cd Y (λhk5=> ?_) (λhk5=> ?_)
       ·have hk5:c.kind=5:=hk5;have e:rightR d c=(bareR c&&(sumR c&&gw d c)):=(by unfold rightR;rw[D2 hk0,D2 hk1,D2 h1,D2 hk3,D2 hk4,D3 hk5,hn,Ei,Bool.and_assoc]);rw[e];refine .B ?_;refine .C hsum ?_;cases hs:sumR c
        ·refine .B ?_;exact⟨_,.v Y Y (by rw[FV,GO]) (λ_=>rfl) .nil⟩
        ·have hlen:c.vars.length=c.coefs.length:=(by unfold sumR at hs;simp at hs;omega);rw[yr d c hlen];generalize (c.coefs.all λk=>decide (k=1)||decide (k= -1))=uc at*;generalize (c.vars.all λv=>truthR (domAt d v))=tv at*;refine .B ?_;refine J.g Y Y Y (λh4=> ?_) (λh4=> ?_)
         ·have h4:c.op=0:=h4;refine .B ?_;refine J.g Y Y Y (λh5=> ?_) (λh5=> ?_)
          ·have h5:c.rhs=0:=h5;refine .B ?_;refine J.g Y Y Y (λh6=> ?_) (λh6=> ?_)
           ·have h6:c.b=0:=h6;have e:bareR c=true:=(by unfold bareR;rw[DE h4,DE h5,DE h6];rfl);rw[e];refine .B ?_;refine .C hunit ?_;cases uc
            ·refine .B ?_;exact r1
            ·refine .B ?_;refine .D htr ?_;exact r1
           ·have h6: ¬c.b=0:=h6;have e:bareR c=false:=(by unfold bareR;rw[DC h6,GO]);rw[e];refine .B ?_;exact r1
          ·have h5: ¬c.rhs=0:=h5;have e:bareR c=false:=(by unfold bareR;rw[DC h5,GO,FV]);rw[e];refine .B ?_;exact r1
         ·have h4: ¬c.op=0:=h4;have e:bareR c=false:=(by unfold bareR;rw[DC h4,FV,FV]);rw[e];refine .B ?_;exact r1
       ·have hk5: ¬c.kind=5:=hk5;have e:rightR d c=(plainR c&&(decide (2<=c.vars.length)&&decide ((c.vars.length:Int).tmod 2=0))):=by
         unfold rightR;rw[D2 hk0,D2 hk1,D2 h1,D2 hk3,D2 hk4,D2 hk5,hn,Ei,Bool.and_assoc];congr 2;rw[decide_eq_decide,H4 (by omega)];omega
        rw[e];generalize plainR c=pr at*;refine .B ?_;refine .C hplain ?_;cases pr
        ·refine .B ?_;exact r1
        ·refine .B ?_;refine J.g Y Y Y (λh3=> ?_) (λh3=> ?_)
         ·rw[DE (show 2<=c.vars.length by have h:=h3;rw[D9]at h;omega)];refine .B ?_;exact⟨_,.v Y Y (by simp) (λ_=>rfl) .nil⟩
         ·rw[DC (show¬2<=c.vars.length by have h:=h3;rw[D9]at h;omega)];refine .B ?_;exact r1
 ·have hk2:c.kind=2:=(by have h1: ¬(c.kind≠2):=h1;omega);refine .B ?_;refine T.cf Y ?_;refine .B ?_;refine T.cf2 Y (DC (by omega)) ?_;refine .B ?_;refine T.cf2 Y (DC (by omega)) ?_;refine .B ?_;refine T.ct2 Y (DE hk2) ?_;refine T.sub (Rel.unbx (s:=3) (λb h=>h) Y Y) ?_;refine T.sub (Rel.fp (s:=3) Y) ?_;have e:rightR d c=(plainR c&&(decide (0<c.vars.length)&&(decide c.vars.Nodup&&(decide (c.rows.length<=1024)&&c.rows.all (ex c))))):=by
   unfold rightR manyR kY;rw[D2 (by omega),D2 (by omega),D3 hk2];generalize plainR c=a1;generalize decide (0<c.vars.length)=a2;generalize decide c.vars.Nodup=a3;generalize decide (c.rows.length<=1024)=a4;generalize c.rows.all (ex c)=a5;cases a1<;>cases a2<;>cases a3<;>cases a4<;>cases a5<;>rfl
  rw[e];generalize plainR c=pr at*;generalize decide c.vars.Nodup=nd at*;generalize c.rows.all (ex c)=ra at*;refine .B ?_;refine .C hplain ?_;cases pr
  ·refine .B ?_;exact r1
  ·refine .B ?_;refine J.g Y Y Y (λh3=> ?_) (λh3=> ?_)
   ·rw[DE (show 0<c.vars.length by have h:=h3;rw[D9]at h;omega)];refine .B ?_;refine .C hall ?_;cases nd
    ·refine .B ?_;exact r1
    ·refine .B ?_;refine J.g Y Y Y (λh4=> ?_) (λh4=> ?_)
     ·rw[DE (show c.rows.length<=1024 by have h:=h4;rw[D9]at h;omega)];refine .B ?_;refine .D hrow ?_;exact⟨_,.v Y Y (by rw[HO];rfl) (λ_=>rfl) .nil⟩
     ·rw[DC (show¬c.rows.length<=1024 by have h:=h4;rw[D9]at h;omega)];refine .B ?_;exact r1
   ·rw[DC (show¬0<c.vars.length by have h:=h3;rw[D9]at h;omega)];refine .B ?_;exact r1
theorem rL (d:aa)(v:Int):Spec Tryz.prog 128 false [.int .i64 v,.ptr [aH d]] [.val (.bool (!inD d v))]:=by
 refine Spec.body Tryz.func128 Y Y Y λw0 Z0=> ?_;have e0:(!inD d v)=(decide (v<0)||decide (v>=((d.map cD).length:Int))):=(by unfold inD;rw[HO,D9]);rw[e0];refine .B ?_;refine J.g Y Y Y (λh1=> ?_) (λh1=> ?_)
 ·rw[DE (show v<0 from h1),Bool.true_or];refine .B ?_;exact r1
 ·rw[DC (show¬v<0 from h1),HH];refine .B ?_;exact r1
structure ConI (c:Con):Prop where
 vl:c.vars.length<=1024
 kl:c.coefs.length<=1024
 rl:c.rows.length<=1024
 rr: ∀r∈c.rows,r.length<=1024
 ki:ee c.coefs c.rhs=false∨∀k∈c.coefs,-9223372036854775808<=k/\k<=9223372036854775807
theorem zO (d:aa)(c:Con):(usesR c).all (inD d)=(c.vars.all (inD d)&&(!decide (c.kind=4)||inD d c.b)):=by
 rw[FZ,DJ];constructor
 ·intro h;rw[DH,DJ];refine⟨λv hv=>h v (uses_mem.2 (.inl hv)),?_⟩;by_cases hk:c.kind=4;·rw[h c.b (uses_mem.2 (.inr ⟨hk,rfl⟩)),Bool.or_true]
  ·rw[DC hk];rfl
 ·intro h v hv;rw[DH,DJ]at h;rcases uses_mem.1 hv with h1|⟨hk,rfl⟩;·exact h.1 v h1
  ·have:=h.2;rwa[DE hk]at this
theorem qR (d:aa)(c:Con)(hc:ConI c)(hx:yn d):Spec Tryz.prog 100 false [aH d,.agg (cC c)] [.val (.int .i64 (conR d c))]:=by
 refine Spec.body Tryz.func100 Y Y Y λw0 Z0=> ?_;have hvl:=hc.vl;have hkl:=hc.kl;have hrl:=hc.rl;have haway:=d9 (p:=λv=> !inD d v) (f:=128) [.ptr [aH d]] c.vars (λv _=>rL d v) (by omega);rw[<-FT]at haway;have hawayb:=rL d c.b;have hright:=λ(h1: ∀v∈c.vars,0<=v/\v.toNat<d.length) h2=>uv d c (by omega) (by omega) (by omega) (λr hr=>by have:=hc.rr r hr;omega) h1 h2 hx;have hbig:(∀k∈c.coefs,-9223372036854775808<=k/\k<=9223372036854775807)->_:=λh=>y8 c.coefs c.rhs (by omega) h;have hki:=λh:ee c.coefs c.rhs=false=>λk hk=>show -9223372036854775808<=k/\k<=9223372036854775807 by
  have h1:=(mM h).1 k hk;unfold aF at h1;omega
 have hbig:=hbig (hc.ki.elim hki id);refine T.seq ?_;refine T.r ?_
 repeat' first|refine J.e Y Y Y Y ?_|refine J.skip Y Y Y ?_|refine J.bx Y Y Y Y Y Y ?_
 refine J.nil ?_;refine T.sub (Rel.unbx (s:=2) (λb h=>h) Y Y) ?_;refine T.sub (Rel.fp (s:=2) Y) ?_;generalize hR:conR d c=R;unfold conR at hR;refine .B ?_;have bad1:c.kind<0∨6<c.kind->R=44:=λh=>(by rw[D3 h]at hR;exact hR.symm);refine J.g Y Y Y (λh1=> ?_) (λh1=> ?_)
 ·rw[bad1 (.inl h1)];refine .B ?_;refine T.ct Y ?_;refine .B ?_;exact r1
 ·refine .B ?_;refine T.cd Y (λh2=> ?_) (λh2=> ?_)
  ·rw[bad1 (.inr (by have h2:c.kind>=7:=h2;omega))];refine .B ?_;exact r1
  ·rw[D2 (by have h1: ¬c.kind<0:=h1;have h2: ¬c.kind>=7:=h2;omega),zO]at hR;refine .B ?_;refine .C haway ?_;cases ha:c.vars.all (inD d)
   ·rw[ha,FV,D3 Y]at hR;subst hR;refine .B ?_;refine T.ct Y ?_;refine .B ?_;exact r1
   ·rw[ha,Ei]at hR;have hva: ∀v∈c.vars,0<=v/\v.toNat<d.length:=λv hv=>lK.1 (DJ.1 ha v hv);refine .B ?_;refine J.g Y Y Y (λh3=> ?_) (λh3=> ?_)
    ·have h3:c.kind=4:=h3;rw[DE h3]at hR;refine .B ?_;refine .C hawayb ?_;cases hbd:inD d c.b
     ·rw[hbd]at hR;have hR:(43:Int)=R:=hR;subst hR;refine .B ?_;refine T.ct Y ?_;refine .B ?_;exact r1
     ·rw[hbd]at hR;have hR:(if rightR d c=false then(44:Int)else if ee c.coefs c.rhs=true then 45 else 0)=R:=hR;have hright:=hright hva λ_=>lK.1 hbd;generalize rightR d c=rr at*;refine .B ?_;refine T.cf Y ?_;refine .B ?_;refine .C hright ?_;cases rr
      ·subst hR;refine .B ?_;refine T.ct Y ?_;refine .B ?_;exact r1
      ·rw[D2 (by simp)]at hR;refine .B ?_;refine T.cf Y ?_;refine .B ?_;refine .D hbig ?_;refine T.cond Y (λh4=> ?_) (λh4=> ?_)
       ·have h4:ee c.coefs c.rhs=true:=h4;rw[D3 h4]at hR;subst hR;refine .B ?_;exact r1
       ·have h4:ee c.coefs c.rhs=false:=h4;rw[D2 (by simp[h4])]at hR;subst hR;refine .B ?_;exact r1
    ·have h3: ¬c.kind=4:=h3;rw[DC h3]at hR;have hR:(if rightR d c=false then(44:Int)else if ee c.coefs c.rhs=true then 45 else 0)=R:=hR;have hright:=hright hva λh=>DS h h3;generalize rightR d c=rr at*;refine .B ?_;refine T.cf Y ?_;refine .B ?_;refine .C hright ?_;cases rr
     ·subst hR;refine .B ?_;refine T.ct Y ?_;refine .B ?_;exact r1
     ·rw[D2 (by simp)]at hR;refine .B ?_;refine T.cf Y ?_;refine .B ?_;refine .D hbig ?_;refine T.cond Y (λh4=> ?_) (λh4=> ?_)
      ·have h4:ee c.coefs c.rhs=true:=h4;rw[D3 h4]at hR;subst hR;refine .B ?_;exact r1
      ·have h4:ee c.coefs c.rhs=false:=h4;rw[D2 (by simp[h4])]at hR;subst hR;refine .B ?_;exact r1
def Db (c:Int):Bool:=decide (c>=97)&&decide (c<=122)
def badC (i:Nat)(c:Int):Bool:= !Db c&&(decide ((i:Int)=0)||(decide (c≠95)&&(decide (c<48)||decide (c > 57))))
theorem Bk {s:ByteArray}{i:Nat}(h:i<s.size):badC i ((Utf8.decode s i).1:Int)=badI i (byteI s i)/\(badI i (byteI s i)=false->(Utf8.decode s i).2=1):=by
 have hb:s.get! i=byteI s i:=by
  unfold byteI;rw[getElem?_pos s i h];show s.data[i]! =_;rw[getElem!_pos s.data i h];rfl
 by_cases hlt:(s.get! i).toNat<128
 ·rw[sQ hlt,hb];exact⟨rfl,λ_=>rfl⟩
 ·have hf:=xh (HK hlt);rw[hb]at hlt;generalize (Utf8.decode s i).1=c at*;have e1:badI i (byteI s i)=true:=by
   simp only[badI,letB];have: ¬((byteI s i).toNat:Int)<=122:=(by omega);have:((byteI s i).toNat:Int) > 57:=(by omega);have:((byteI s i).toNat:Int)≠95:=(by omega);simp[*]
  have e2:badC i c=true:=by
   simp only[badC,Db];have: ¬(c:Int)<=122:=(by omega);have:(c:Int) > 57:=(by omega);have:(c:Int)≠95:=(by omega);simp[*]
  rw[e1,e2];exact⟨rfl,λh=>by cases h⟩
theorem wN (s:ByteArray)(hs:s.size<=140737488355328):Spec Tryz.prog 98 false [.str s] [.val (.bool (fJ s))]:=by
 refine Spec.body Tryz.func98 Y Y Y λw0 Z0=> ?_;generalize hR:fJ s=R;refine .B ?_;cases h0:(s.toList==(⟨#[]⟩:ByteArray).toList)
 ·refine .B ?_;refine T.cd Y (λh1=> ?_) (λh1=> ?_)
  ·have:R=false:=(by rw[<-hR];unfold fJ;rw[h0];simp;omega);subst this;refine .B ?_;exact r1
  ·refine .B ?_;refine J.rgs Y Y Y Y Y Y ?_;refine .B ?_;refine T.K (T.ind (λi:Nat=>⟨[(14,.ref 0)],[(0,some (.sit s i))],1⟩) (λi=>i<=s.size/\∀j,j<i->badI j (byteI s j)=false) (λi=>s.size-i) 0 ⟨EG _,λj hj=>DS hj (Eg j)⟩ (λ_ _ h=>h) ?_);rintro i ⟨hi,hb⟩ ih;refine .B ?_;refine J.nxs Y Y Y Y Y Y (λh2=> ?_) (λh2=> ?_)
   ·have hyes:R=true:=by
     rw[<-hR];unfold fJ;rw[h0];have:((List.range s.size).all λi=> !badI i (byteI s i))=true:=by
      rw[DJ];intro j hj;rw[hb j (by have:=DO.1 hj;omega)];rfl
     rw[this];simp;omega
    subst hyes;refine .B ?_;refine T.cf Y ?_;refine .B ?_;exact r1
   ·obtain⟨hbd,hw⟩:=Bk h2;have hno:badI i (byteI s i)=true->R=false:=λh=>by
     rw[<-hR];unfold fJ;have:((List.range s.size).all λi=> !badI i (byteI s i))=false:=by
      rw[GG];exact⟨i,DO.2 h2,by rw[h];simp⟩
     rw[this];rfl
    have ih1:=λh:badI i (byteI s i)=false=>ih (i+1) ⟨by omega,λj hj=>by
     by_cases e:j=i;·rw[e];exact h
     ·exact hb j (by omega)⟩ (by omega)
    rw[<-hbd]at hw hno ih1;obtain⟨c,hc⟩: ∃c,c=(Utf8.decode s i).1:=⟨_,rfl⟩;obtain⟨k,hk⟩: ∃k,k=(Utf8.decode s i).2:=⟨_,rfl⟩;rw[<-hc]at hw hno ih1;rw[<-hk]at hw;rw[<-hc,<-hk];have hbc:badC i c=(!(decide ((c:Int)>=97)&&decide ((c:Int)<=122))&&(decide ((i:Int)=0)||(decide ((c:Int)≠95)&&(decide ((c:Int)<48)||decide ((c:Int) > 57))))):=rfl;generalize badC i c=bad at*;refine .B ?_;refine T.ct Y ?_;refine .B ?_;cases h1:decide ((c:Int)>=97)
    ·skip
     refine .B ?_;cases h3:decide ((i:Int)=0)
     ·refine .B ?_;cases h4:decide ((c:Int)≠95)
      ·skip
       refine .B ?_;refine T.cf Y ?_;refine .B ?_;have hb0:bad=false:=(by rw[hbc,h1,h3,h4];rfl);rw[hw hb0];exact T.K (ih1 hb0)
      ·refine .B ?_;cases h5:decide ((c:Int)<48)
       ·refine .B ?_;cases h6:decide ((c:Int) > 57)
        ·skip
         refine .B ?_;refine T.cf Y ?_;refine .B ?_;have hb0:bad=false:=(by rw[hbc,h1,h3,h4,h5,h6];rfl);rw[hw hb0];exact T.K (ih1 hb0)
        ·skip
         refine .B ?_;refine T.ct Y ?_;refine .B ?_;rw[hno (by rw[hbc,h1,h3,h4,h5,h6];rfl)];exact r1
       ·skip
        refine .B ?_;refine T.ct Y ?_;refine .B ?_;rw[hno (by rw[hbc,h1,h3,h4,h5];rfl)];exact r1
     ·skip
      refine .B ?_;refine T.ct Y ?_;refine .B ?_;rw[hno (by rw[hbc,h1,h3];rfl)];exact r1
    ·refine .B ?_;cases h2:decide ((c:Int)<=122)
     ·skip
      refine .B ?_;cases h3:decide ((i:Int)=0)
      ·refine .B ?_;cases h4:decide ((c:Int)≠95)
       ·skip
        refine .B ?_;refine T.cf Y ?_;refine .B ?_;have hb0:bad=false:=(by rw[hbc,h1,h2,h3,h4];rfl);rw[hw hb0];exact T.K (ih1 hb0)
       ·refine .B ?_;cases h5:decide ((c:Int)<48)
        ·refine .B ?_;cases h6:decide ((c:Int) > 57)
         ·skip
          refine .B ?_;refine T.cf Y ?_;refine .B ?_;have hb0:bad=false:=(by rw[hbc,h1,h2,h3,h4,h5,h6];rfl);rw[hw hb0];exact T.K (ih1 hb0)
         ·skip
          refine .B ?_;refine T.ct Y ?_;refine .B ?_;rw[hno (by rw[hbc,h1,h2,h3,h4,h5,h6];rfl)];exact r1
        ·skip
         refine .B ?_;refine T.ct Y ?_;refine .B ?_;rw[hno (by rw[hbc,h1,h2,h3,h4,h5];rfl)];exact r1
      ·skip
       refine .B ?_;refine T.ct Y ?_;refine .B ?_;rw[hno (by rw[hbc,h1,h2,h3];rfl)];exact r1
     ·skip
      refine .B ?_;refine T.cf Y ?_;refine .B ?_;have hb0:bad=false:=(by rw[hbc,h1,h2];rfl);rw[hw hb0];exact T.K (ih1 hb0)
 ·have:R=false:=(by rw[<-hR];unfold fJ;rw[h0];simp);subst this;refine .B ?_;refine T.ct Y ?_;refine .B ?_;exact r1
theorem wQ (d:aa)(g:Goal)(hv:g.vars.length<=1024)(hk:g.coefs.length<=1024)(hi:ee g.coefs 0=false∨∀k∈g.coefs,-9223372036854775808<=k/\k<=9223372036854775807)(hx:yn d):Spec Tryz.prog 101 false [aH d,.agg (cG g)] [.val (.int .i64 (eB d g))]:=by
 refine Spec.body Tryz.func101 Y Y Y λw0 Z0=> ?_;have hcon:=qR d (em g) ⟨hv,hk,EG _,λr hr=>(by cases hr),hi⟩ hx;generalize hR:eB d g=R;unfold eB at hR;refine .B ?_;refine T.cd Y (λh0=> ?_) (λh0=> ?_)
 ·have h0:g.kind=0:=h0;rw[D2 (by omega)]at hR;refine .B ?_;refine J.g Y Y Y (λh1=> ?_) (λh1=> ?_)
  ·rw[D3 (.inr (.inl (by have h:=h1;rw[D9]at h;omega)))]at hR;subst hR;refine .B ?_;refine T.ct Y ?_;refine .B ?_;exact r1
  ·refine .B ?_;refine T.cd Y (λh2=> ?_) (λh2=> ?_)
   ·rw[D3 (.inr (.inr (by have h:=h2;rw[D9]at h;omega)))]at hR;subst hR;refine .B ?_;exact r1
   ·rw[D2 (by have h:=h1;rw[D9]at h;have h':=h2;rw[D9]at h';omega)]at hR;subst hR;refine .B ?_;exact r1
 ·have h0: ¬g.kind=0:=h0;refine .B ?_;refine T.cd Y (λh1=> ?_) (λh1=> ?_)
  ·have h1:g.kind=1:=h1;rw[D3 (.inl h1)]at hR;subst hR;refine .B ?_;refine T.ct2 Y (DE h1) ?_;refine .B ?_;refine .D hcon ?_;exact r1
  ·have h1: ¬g.kind=1:=h1;refine .B ?_;refine T.cd Y (λh2=> ?_) (λh2=> ?_)
   ·have h2:g.kind=2:=h2;rw[D3 (.inr h2)]at hR;subst hR;refine .B ?_;refine .D hcon ?_;exact r1
   ·have h2: ¬g.kind=2:=h2;rw[D2 (by omega),D3 (.inl h0)]at hR;subst hR;refine .B ?_;exact r1
def hadM (m:Mod)(i:Nat):List (ByteArray×Bool):=(List.range i).map λk=>(nmM m k,true)
theorem rO (a b:ByteArray):(a.toList==b.toList)=decide (a=b):=by
 rw[ByteArray.toList_eq,ByteArray.toList_eq];by_cases h:a=b;·subst h;simp
 ·rw[DC h];simp only[beq_eq_false_iff_ne];intro e;apply h;cases a;cases b;congr;exact Array.toList_inj.1 e
theorem u7 (m:Mod)(i:Nat):(lkA (hadM m i) (nmM m i))=if gz m i=true then some true else none:=by
 unfold lkA fiA hadM gz;cases h:((List.range i).map λk=>(nmM m k,true)).findIdx? λp=>decide (p.1=nmM m i)with
 |none=>
  have h1:=EO.1 h;rw[D2];·rfl
  ·rw[Ev];rintro⟨k,hk,hb⟩;rw[rO]at hb;have:=h1 _ (DD.2 ⟨k,hk,rfl⟩);rw[hb]at this;cases this
 |some j=>
  obtain⟨h1,h2,_⟩:=Ep.1 h;have h1':j<i:=(by simpa using h1);rw[D3];·simp[h1']
  ·rw[Ev];refine⟨j,DO.2 h1',?_⟩;rw[rO];simpa using h2
theorem Cz (m:Mod)(i:Nat)(h:gz m i=false):upA (hadM m i) (nmM m i) true=hadM m (i+1):=by
 have h1:=u7 m i;rw[h,D2 (by simp)]at h1;unfold upA;have h2:fiA (hadM m i) (nmM m i)=none:=by
  cases h3:fiA (hadM m i) (nmM m i)with
  |none=>rfl
  |some j=>
   unfold lkA at h1;rw[h3]at h1;obtain⟨h4,_⟩:=Ep.1 h3;simp[h4]at h1
 rw[h2];simp[hadM,GW]
structure ModK (m:Mod):Prop where
 b:ModB m
 ck: ∀c∈m.cons,ee c.coefs c.rhs=false∨∀k∈c.coefs,-9223372036854775808<=k/\k<=9223372036854775807
 gk:ee m.goal.coefs 0=false∨∀k∈m.goal.coefs,-9223372036854775808<=k/\k<=9223372036854775807
theorem mw (m:Mod)(hm:ModK m):Spec Tryz.prog 64 false [.agg (cM m)] [.val (.int .i64 (checkR m))]:=by
 refine Spec.body Tryz.func64 Y Y Y λw0 Z0=> ?_;obtain⟨hm,hck,hgk⟩:=hm;have hds:=(o6 m hm).frz;generalize hR:checkR m=R;obtain⟨b1,b2,b3,b4,b5⟩:=hm;have yes:64<m.vars.length∨256<m.cons.length->(2:Int)=R:=λh=>(by rw[<-hR];exact(D3 h).symm);refine .B ?_;refine J.g Y Y Y (λh1=> ?_) (λh1=> ?_)
 ·have e:=yes (.inl (by have h:=h1;rw[D9]at h;omega));subst e;refine .B ?_;refine T.ct Y ?_;refine .B ?_;exact r1
 ·refine .B ?_;refine T.cd Y (λh2=> ?_) (λh2=> ?_)
  ·have e:=yes (.inr (by have h:=h2;rw[D9]at h;omega));subst e;refine .B ?_;exact r1
  ·have hR:(if firstE ((List.range m.vars.length).map (varR m))≠0 then firstE ((List.range m.vars.length).map (varR m))else
     if firstE (m.cons.map (conR (domsM m)))≠0 then firstE (m.cons.map (conR (domsM m)))else eB (domsM m) m.goal)=R:=by
    unfold checkR at hR;rw[D2 (by have h:=h1;rw[D9]at h;have h':=h2;rw[D9]at h';omega)]at hR;exact hR
   have hvar: ∀i,i<m.vars.length->(∀j,j<i->varR m j=0)->varR m i≠0->R=varR m i:=λi hi hb he=>by
    have:firstE ((List.range m.vars.length).map (varR m))=varR m i:=jJ (i:=i) (λj hj x hx=>by
     rw[DG,F4 (by omega)]at hx;rw[<-D4 hx];exact hb j hj) (by rw[DG,F4 hi];rfl) he
    rw[this,D3 he]at hR;exact hR.symm
   refine .B ?_;refine J.mm Y Y Y Y ?_;refine .B ?_;refine T.K (T.ind (λi:Nat=>⟨[(1,.optr 0 0 0 0),(3,.ref 1),(22,.val false (.sl (m.vars.map cV))),(23,.val true (.int .i64 (m.vars.map cV).length)),(24,.val true (.int .i64 i))],[(0,some (.box false (cM m))),(1,some (.mp true none ((hadM m i).map λp=>(.string p.1,.bool p.2))))],2⟩) (λi=>i<=m.vars.length/\∀j,j<i->varR m j=0) (λi=>m.vars.length-i) 0 ⟨EG _,λj hj=>DS hj (Eg j)⟩ (λ_ _ h=>h) ?_);rintro i ⟨hi,hb⟩ ih;refine .B ?_;refine T.cd Y (λh3=> ?_) (λh3=> ?_)
   ·have h3:i<m.vars.length:=(by have h:=h3;rw[D9]at h;omega);have hv:=hvar i h3 hb;have hvi:varR m i=if fJ (nmM m i)=false then 40 else if gz m i=true then 41 else if dmM m i=[]∨chkR (dmM m i)≠0 then 42 else 0:=rfl
    have hrow:(m.vars.map cV)[((i:Nat):Int).toNat]? =some (cV (nmM m i,dmM m i)):=by
     rw[Dz,DG,D1 h3];unfold nmM dmM;rw[D0,D1 h3];rfl
    have hbk:(nmM m i).size<=1024/\(dmM m i).length<=1024:=by
     unfold nmM dmM;rw[D0,D1 h3];exact b2 _ (D8 h3)
    have hns:=wN (nmM m i) (by omega);have hls:=u7 m i;have hup:=Cz m i;refine .B ?_;refine .F (r:=cV (nmM m i,dmM m i)) hrow ?_;refine .L ?_;refine .X ?_;refine .D hns ?_;cases hn:fJ (nmM m i)
    ·have:R=40:=(by rw[hv (by rw[hvi,D3 hn];decide),hvi,D3 hn]);subst this;refine T.ct Y ?_;refine .B ?_;exact r1
    ·rw[D2 (by rw[hn];simp)]at hvi;refine T.cf Y ?_;refine .B ?_;refine J.ml (nmM m i) (.bool false) Y Y Y Y Y Y Y Y Y zL (λ_ _=> .bool _) (Df Tryz.underlying9) (λ_ _ _ h=>sa h) ?_;rw[hls];cases ht:gz m i
     ·rw[D2 (by rw[ht];simp)]at hvi;have hup:=hup ht;have hck2:=jp (dmM m i) (by omega);have stop:dmM m i=[]∨chkR (dmM m i)≠0->R=42:=λh=>(by rw[hv (by rw[hvi,D3 h];decide),hvi,D3 h]);have goon: ¬dmM m i=[]->¬chkR (dmM m i)≠0->varR m i=0:=λa b=>(by rw[hvi,D2 (λh=>h.elim a b)]);have hw1:IntKind.i64.wrap ((i:Int)+1)=((i+1:Nat):Int):=aj (l:=m.vars.length) h3 (by omega);have ih4:=λh:varR m i=0=>ih (i+1) ⟨by omega,λj hj=>by
       by_cases e:j=i;·rw[e];exact h
       ·exact hb j (by omega)⟩ (by omega)
      generalize varR m i=vr at*;rw[<-hup]at ih4;generalize hadM m i=hm at*;generalize nmM m i=nm at*;generalize dmM m i=dd at*;generalize chkR dd=ck at*;refine .B ?_;refine T.cf Y ?_;refine .B ?_;refine J.g Y Y Y (λh5=> ?_) (λh5=> ?_)
      ·have e:=stop (.inl (by simpa using h5));subst e;refine .B ?_;refine T.ct Y ?_;refine .B ?_;exact r1
      ·refine .B ?_;refine .D hck2 ?_;refine T.cd Y (λh6=> ?_) (λh6=> ?_)
       ·have e:=stop (.inr h6);subst e;refine .B ?_;exact r1
       ·refine .B ?_;refine J.mu nm true Y Y Y Y Y Y Y Y Y Y Y (Df Tryz.underlying9) (λ_ _ _ h=>sa h) Y ?_;refine .B ?_;rw[hw1];exact T.K (ih4 (goon (λe=>h5 (by rw[e];rfl)) h6))
     ·have:R=41:=(by rw[hv (by rw[hvi,D3 ht];decide),hvi,D3 ht]);subst this;refine .B ?_;refine T.ct Y ?_;refine .B ?_;exact r1
   ·have h3:i=m.vars.length:=(by have h:=h3;rw[D9]at h;omega);have hfz:firstE ((List.range m.vars.length).map (varR m))=0:=jI λx hx=>by
     obtain⟨j,hj,rfl⟩:=DD.1 hx;exact hb j (by rw[h3];exact DO.1 hj)
    rw[hfz,D2 (by simp)]at hR;have hdv:yn (domsM m):=λx hx=>by
     obtain⟨v,hv,rfl⟩:=DD.1 hx;refine⟨by have:=b2 v hv;omega,?_⟩;obtain⟨j,hj,rfl⟩:=Fj.1 hv;have hvj:=hb j (by omega);unfold varR at hvj;split at hvj;·cases hvj
     ·split at hvj;·cases hvj
      ·split at hvj;·cases hvj
       ·rename_i h6;have h7:chkR (dmM m j)=0:=EB λe=>h6 (.inr e);unfold dmM at h7;rw[D0,D1 hj]at h7;exact(sY h7).1.ok.1
    refine .B ?_;refine .D hds ?_;refine T.K (T.ind (λi:Nat=>⟨[(1,.optr 0 0 0 0),(6,.val true (aH (domsM m))),(56,.val false (.sl (m.cons.map cC))),(57,.val true (.int .i64 (m.cons.map cC).length)),(58,.val true (.int .i64 i))],[(0,some (.box false (cM m)))],1⟩) (λi=>i<=m.cons.length/\∀j,j<i->∀c,m.cons[j]? =some c->conR (domsM m) c=0) (λi=>m.cons.length-i) 0 ⟨EG _,λj hj=>DS hj (Eg j)⟩ (λ_ _ h=>h) ?_);rintro k ⟨hk,hbc⟩ ih;refine .B ?_;refine T.cd Y (λh4=> ?_) (λh4=> ?_)
    ·have h4:k<m.cons.length:=(by have h:=h4;rw[D9]at h;omega);have hrow:(m.cons.map cC)[((k:Nat):Int).toNat]? =some (cC m.cons[k]):=(by simp[h4]);have hcb:=b4 _ (D8 h4);have hcs:=qR (domsM m) m.cons[k] ⟨by omega,by omega,by omega,hcb.2.2.2,hck _ (D8 h4)⟩ hdv;have hgk:m.cons[k]? =some m.cons[k]:=D1 h4;have stop:conR (domsM m) m.cons[k]≠0->R=conR (domsM m) m.cons[k]:=λhe=>by
      have:firstE (m.cons.map (conR (domsM m)))=conR (domsM m) m.cons[k]:=jJ (i:=k) (λj hj x hx=>by
       rw[DG]at hx;obtain⟨c,hc,rfl⟩:=Dy.1 hx;exact hbc j hj c hc) (by rw[DG,hgk];rfl) he
      rw[this,D3 he]at hR;exact hR.symm
     have ih4:=λh:conR (domsM m) m.cons[k]=0=>ih (k+1) ⟨by omega,λj hj c hc=>by
      by_cases e:j=k;·rw[e,hgk]at hc;cases hc;exact h
      ·exact hbc j (by omega) c hc⟩ (by omega)
     generalize m.cons[k]=c at*;generalize conR (domsM m) c=cr at*;refine .B ?_;refine .F (r:=cC c) hrow ?_;refine .L ?_;refine .X ?_;refine .D hcs ?_;refine T.cd Y (λh5=> ?_) (λh5=> ?_)
     ·have e:=stop h5;subst e;refine .B ?_;exact r1
     ·have h5:cr=0:=EB h5;refine .B ?_;rw[aj (l:=m.cons.length) h4 (by omega)];exact T.K (ih4 h5)
    ·have h4:k=m.cons.length:=(by have h:=h4;rw[D9]at h;omega);have hfc:firstE (m.cons.map (conR (domsM m)))=0:=jI λx hx=>by
      obtain⟨c,hc,rfl⟩:=DD.1 hx;obtain⟨j,hj⟩:=DI hc;exact hbc j (by have:=(D5.1 hj).1;omega) c hj
     rw[hfc,D2 (by simp)]at hR;have hgo:=wQ (domsM m) m.goal b5.1 b5.2 hgk hdv;rw[hR]at hgo;refine .B ?_;refine .D hgo ?_;exact r1
theorem km:Spec Tryz.prog 34 false [] [.val (.agg (cM eA))]:=by
 refine Spec.body Tryz.func34 Y Y Y λw0 Z0=> ?_;refine .B ?_;refine .L ?_;refine .B ?_;refine .Z ?_;refine .V ?_;refine .V ?_;refine .Z ?_;refine .V ?_;refine .V ?_;refine .Z ?_;refine .X ?_;exact⟨_,.cell Y Y Y (λ_=>rfl) .nil⟩
theorem Co:ModK eA:=⟨sf,λc hc=> .inl (by simp[eA]at hc;subst hc;decide +kernel),.inl (by decide +kernel)⟩
theorem Cs:ModK qM:=⟨Ct,λc hc=>(by cases hc),.inl (by decide +kernel)⟩
theorem d6:Spec Tryz.prog 12 false [] [.val (.bool true)]:=by
 refine Spec.body Tryz.func12 Y Y Y λw0 Z0=> ?_;have hck:=mw eA Co;rw[Bq]at hck;have hgi:GoalIn (dmQ 0 1 0 1) eA.goal:=x9 gp0 (by decide) (by decide) (by decide +kernel);have a1:=(l9 eA sf z6 (by decide +kernel) 9 (by decide) hck).frz;have a2:=(l9 eA sf z6 (by decide +kernel) 2 (by decide) hck).frz;have a3:=oA eA sf z6 (by decide +kernel) hgi 9 (by decide) hck;rw[Bg]at a1;rw[Bh]at a2;rw[Bf]at a3;have hck2:=mw qM Cs;rw[Bz]at hck2;have a4:=(Bj qM 9 44 (by decide) hck2).frz;have a1:Spec Tryz.prog 13 false [.agg (cM eA),.int .i64 9] [.val (bL [[0,1],[1,0]]),.val (.bool true),.val (.int .i64 3),.val (.int .i64 0)]:=a1;have a2:Spec Tryz.prog 13 false [.agg (cM eA),.int .i64 2] [.val (bL [[0,1]]),.val (.bool false),.val (.int .i64 2),.val (.int .i64 0)]:=a2;have a3:Spec Tryz.prog 18 false [.agg (cM eA),.int .i64 9] [.val (ao [1,0]),.val (.bool true),.val (.bool true),.val (.int .i64 3),.val (.int .i64 0)]:=a3;have a4:Spec Tryz.prog 13 false [.agg (cM qM),.int .i64 9] [.val (bL []),.val (.bool false),.val (.int .i64 0),.val (.int .i64 44)]:=a4;have l1:=ni [[0,1],[1,0]] [[0,1],[1,0]] (by decide) (by decide);rw[DE Y]at l1;have l2:=ni [[0,1]] [[0,1]] (by decide) (by decide);rw[DE Y]at l2;have l3:=mo [1,0] [1,0] (by decide);rw[DE Y]at l3;refine .B ?_;refine .D km ?_;refine .D a1 ?_;refine .D km ?_;refine .D a2 ?_;refine .D km ?_;refine .D a3 ?_;refine .D a4 ?_;refine .V ?_;refine .V ?_;refine .V ?_;refine .D l1 ?_;refine .V ?_;refine .V ?_;refine .D l2 ?_;refine .V ?_;refine .D l3 ?_;exact r1
theorem zD {m:Mod}(h:checkR m=0):m.vars.length<=64/\m.cons.length<=256/\eB (domsM m) m.goal=0:=by
 unfold checkR at h;split at h;·cases h
 ·rename_i h0;split at h;·rename_i h1;exact DS h h1
  ·split at h;·rename_i h1;exact DS h h1
   ·exact⟨by omega,by omega,h⟩
theorem n7: ∀{d:aa},(∀x∈d,(vals x).length<=4096)->weight d<=d.length*4096
 | [],_=>by simp[weight]
 |x::d,h=>by
  have h1:=h x (.head _);have h2:=n7 λy hy=>h y (.tail _ hy);unfold weight at*;simp only[DZ,Ej,E0];omega
theorem vD {d:aa}{c:Con}(h:conR d c=0):ee c.coefs c.rhs=false:=iH h
structure Fit (b:Mod):Prop where
 ck:checkR b=0
 mb:ModB b
 r:RightM b
 p:prodD (domsM b)<=1048576
 cl:b.cons.length<=256
 w:weight (domsM b)<=1000000
 g:GoalIn (domsM b) b.goal
 k:ModK b
theorem Fit.run {b:Mod}(h:Fit b):RunOk (domsM b) b.cons:=h.r.run h.p
theorem AQ {b:Mod}(hb:ModB b)(hc:checkR b=0)(hp:prodD (domsM b)<=1048576):Fit b:=by
 have hr:=kG hb hc;obtain⟨h1,h2,h3⟩:=zD hc;have hw:=n7 hr.good.few.few;have hl:(domsM b).length=b.vars.length:=(by simp[domsM]);refine⟨hc,hb,hr,hp,h2,by omega,x9 hr.good hb.gl.1 hb.gl.2 h3,hb,λc hm=> .inl (vD (hr.right c hm)),?_⟩;rcases goal_kinds h3 with ⟨_,_,h4⟩|⟨_,h4⟩;·rw[h4];exact .inl Y
 ·exact .inl (vD h4)
theorem CB {m:Mod}{most:Nat}(hb:ModB m)(h:okM m most=true)(h1:1<=most/\most<=1048576):Fit m/\prodD (domsM m)<=most:=by
 have hk:=Ar hb h h1.1;unfold okM at h;rw[DH,DM]at h;exact⟨AQ hb h.1 (E9 hk.2 h1.2),hk.2⟩
theorem Fit.turn {b:Mod}(h:Fit b)(hk:b.goal.kind≠0):Fit (xB b):=by
 have hk2:b.goal.kind=1∨b.goal.kind=2:=(h.g.kind.resolve_left hk).1;refine AQ ⟨h.mb.vl,h.mb.vn,h.mb.cl,h.mb.cb,⟨h.mb.gl.1,by show(b.goal.coefs.map (- ·)).length<=_;rw[D9];exact h.mb.gl.2⟩⟩ ((vV hk2).trans h.ck) h.p
theorem rB {b:Mod}(h:Fit b):Spec Tryz.prog 64 false [.agg (cM b)] [.val (.int .i64 0)]:=by
 have:=mw b h.k;rw[h.ck]at this;exact this
theorem yc {b:Mod}(h:Fit b)(left:Int)(hl:left<=1099511627776):Spec Tryz.prog 13 false [.agg (cM b),.int .i64 left] [.own 24 1 ((srchA b left).st.map cL),.val (.bool (!(srchA b left).short)),.val (.int .i64 (srchA b left).nodes),.val (.int .i64 0)]:=l9 b h.mb h.run h.w left hl (rB h)
theorem vm {b:Mod}(h:Fit b)(left:Int)(hl:left<=1099511627776):Spec Tryz.prog 18 false [.agg (cM b),.int .i64 left] [.val (ao ((srchB b left).st.getD [])),.val (.bool (srchB b left).st.isSome),.val (.bool (!(srchB b left).short)),.val (.int .i64 (srchB b left).nodes),.val (.int .i64 0)]:=oA b h.mb h.run h.w h.g left hl (rB h)
theorem lookG_os {σ:Type}{left:Int}{con:σ->List Con}{fnd:σ->List Int->σ×Bool}(hf: ∀st a,(fnd st a).2=false): ∀(n:Nat) (d:aa) (s:Srch σ),s.over=s.short->(lookG left con fnd n d s).over=(lookG left con fnd n d s).short∨(lookG left con fnd n d s).over=false/\s.over=true
 |0,d,s,h=> .inl h
 |n+1,d,s,h=>by
  rw[lookG];split;·exact .inl Y
  ·split;·exact .inl h
   ·split
    ·rename_i a _;cases hs:s.over with
     |true=>exact .inr ⟨hf _ _,rfl⟩
     |false=>exact .inl (by rw[hs]at h;show(fnd s.st a).2=s.short;rw[hf,h])
    ·left
     refine gS (Q:=λs:Srch σ=>s.over=s.short) (λt x _ ht=> ?_) h;split;·exact ht
     ·rename_i ho;rcases lookG_os hf n _ t ht with h1|⟨_,h1⟩;·exact h1
      ·exact DS h1 ho
theorem Aw {d:aa}:nodeF d<=dk (d.map λx=>(vals x).length+1):=by
 refine kr (by simp) λi x y hx hy=> ?_;obtain⟨x',hx',rfl⟩: ∃x',d[i]? =some x'/\iR (vals x').length=x:=(by simpa using hx);obtain⟨y',hy',rfl⟩: ∃y',d[i]? =some y'/\(vals y').length+1=y:=(by simpa using hy);rw[hx']at hy';cases hy';unfold iR;split<;>omega
def nX (d:aa):Nat:=2*dk (d.map λx=>(vals x).length+1)+1
section
variable {b:Mod}{left:Int}
theorem Cb (h:Fit b)(left:Int):Goes left (domsM b) (λ_=>b.cons) jj (λ_=>True) (nodeF (domsM b)) ⟨0,false,false,[]⟩ (srchA b left):=dE (o9 h.run) (weight (domsM b)+1) (domsM b) ⟨0,false,false,[]⟩ (Eb _) h.r.good leD.rfl' trivial
theorem Di (h:Fit b)(left:Int):Goes left (domsM b) (fU b.cons b.goal) (p9 b.goal) IB (nodeF (domsM b)) ⟨0,false,false,none⟩ (srchB b left):=dE (o8 h.run (by have:=h.cl;omega) h.g) (weight (domsM b)+1) (domsM b) ⟨0,false,false,none⟩ (Eb _) h.r.good leD.rfl' (λa e=>by cases e)
theorem Ch (h:Fit b)(hl:(nX (domsM b):Int)<=left):(srchA b left).short=false:=by
 cases hs:(srchA b left).short with
 |false=>rfl
 |true=>
  have h1:=((Cb h left).now Y hs).2.1;have h2:=Aw (d:=domsM b);unfold nX at hl;simp only at h1;omega
theorem CY (h:Fit b)(left:Int):(srchA b left).over=(srchA b left).short:=by
 rcases lookG_os (left:=left) (con:=λ_:List (List Int)=>b.cons) (fnd:=jj) (λ_ _=>rfl) (weight (domsM b)+1) (domsM b) ⟨0,false,false,[]⟩ rfl with h1|⟨_,h1⟩;·exact h1
 ·cases h1
theorem Ce (h:Fit b)(hs:(srchA b left).short=false):(srchA b left).st=solsR b.cons (domsM b):=by
 have ho:=CY h left;rw[hs]at ho;exact qW h.run (weight (domsM b)+1) (domsM b) ⟨0,false,false,[]⟩ (Eb _) h.r.good leD.rfl' Y ho
theorem moreA (h:Fit b){left':Int}(hl:left<=left'):srchA b left=srchA b left'∨((srchA b left).nodes<=(srchA b left').nodes/\∃l,(srchA b left').st=(srchA b left).st++l):=by
 rcases lookG_more (o9 h.run) hl (weight (domsM b)+1) (domsM b) ⟨0,false,false,[]⟩ (Eb _) h.r.good leD.rfl' trivial with h1|⟨_,h1,h2,_⟩;·exact .inl h1
 ·exact .inr ⟨h1,Cm h2⟩
theorem CC (h:Fit b)(left:Int): ∃l,solsR b.cons (domsM b)=(srchA b left).st++l:=by
 have h1:=Ce (left:=max left (nX (domsM b))) h (Ch h (by omega));rcases moreA h (left:=left) (left':=max left (nX (domsM b))) (by omega)with h2|⟨_,l,h2⟩;·exact⟨[],by rw[F5,<-h1,<-h2]⟩
 ·exact⟨l,by rw[<-h1,h2]⟩
theorem Av (h:Fit b)(hl:0<=left):((srchA b left).nodes:Int)<=left:=by
 rcases (Cb h left).most with h1|h1;·rw[h1];exact hl
 ·exact h1
end
theorem ot {cons:List Con}{d:aa}: ∀a∈solsR cons d,a.length=d.length:=λa ha=>(fF.1 ha).1.1
def Bnd (a:List Int):Prop:= ∀x∈a,-1048576<=x/\x<=1048576
def cH (g:Goal)(x y:Int):Prop:=if g.kind=2 then y<=x else x<=y
theorem zI {d:aa}{g:Goal}(hg:GoalIn d g)(hk:g.kind≠0){a:List Int}(ha:Bnd a)(v:Int):aV (fW g v) a=true↔¬cH g v (valueG g a):=by
 obtain⟨hk2,hf,_,_,hw⟩:=hg.kind.resolve_left hk;have hh:aV (fW g v) a=decide (sumW (fW g v).vars (fW g v).coefs a<=(fW g v).rhs):=by
  unfold aV;rw[D3 (show(fW g v).kind=0 from Y)];rfl
 have hv:valueG g a=bG g.vars g.coefs a:=D2 hk;rw[hh,DM,hv];unfold fW cH;by_cases h2:g.kind=2
 ·rw[D3 h2,D3 h2,D3 h2];have e:sumW g.vars (g.coefs.map (- ·)) a=bG g.vars (g.coefs.map (- ·)) a:=kj (g:=atR a) (by rw[D9];exact hf.len) (λk hk=>by
   obtain⟨j,hj,rfl⟩:=DD.1 hk;have:=hf.ck j hj;exact⟨by have:=this.1;omega,by rw[pW];exact this.2⟩) (by rw[mR];omega) (λ_ _=>rfl) λu _=>pR ha u
  show sumW g.vars (g.coefs.map (- ·)) a<=-v-1↔_;rw[e,qE];omega
 ·rw[D2 h2,D2 h2,D2 h2];have e:sumW g.vars g.coefs a=bG g.vars g.coefs a:=kj (g:=atR a) hf.len hf.ck (by omega) (λ_ _=>rfl) λu _=>pR ha u;show sumW g.vars g.coefs a<=v-1↔_;rw[e];omega
theorem p7 {g:Goal}{x y z:Int}(h1:cH g x y)(h2:cH g y z):cH g x z:=by
 unfold cH at*;split at h1<;>simp_all<;>omega
theorem ll (g:Goal)(x:Int):cH g x x:=by unfold cH;split<;>exact EW _
theorem un {g:Goal}{x y:Int}(h: ¬cH g x y):cH g y x:=by
 unfold cH at*;split at h<;>simp_all<;>omega
theorem jl {σ:Type}{d0:aa}{con:σ->List Con}{t:σ}{a:List Int}(hr:RunOk d0 (con t))(h:j6 d0 con t a): ∀c∈con t,aV c a=true:=by
 obtain⟨e,ge,hle,hst,hs⟩:=h;obtain⟨s1,s2⟩:=l8 ge hs;exact(f7 hr ge hle s1 λu h0 hu=>s2 u h0 (by omega)).1 hst
section
variable {b:Mod}{left:Int}
theorem okB (h:Fit b):SrchOK (domsM b) (fU b.cons b.goal) (p9 b.goal) IB:=o8 h.run (by have:=h.cl;omega) h.g
theorem rK {t:Option (List Int)}{cons:List Con}{g:Goal}: ∀c∈cons,c∈fU cons g t:=λc hc=>by
 cases t with
 |none=>exact hc
 |some a=>unfold fU;simp only;split<;>simp[hc]
theorem sI (h:Fit b)(hk:b.goal.kind≠0){c a:List Int}(hI:IB (some c))(hf:j6 (domsM b) (fU b.cons b.goal) (some c) a):cH b.goal (valueG b.goal a) (valueG b.goal c):=by
 have h1:=jl ((okB h).run _ hI) hf (fW b.goal (valueG b.goal c)) (by
  show _∈(if b.goal.kind=0 then _ else _);rw[D2 hk];simp)
 rw[zI h.g hk (gT h.r.good hf).2.2]at h1;exact un h1
theorem kW (h:Fit b): ∀a∈solsR b.cons (domsM b),Bnd a:=λa ha x hx=>by
 obtain⟨⟨h1,h2⟩,_⟩:=fF.1 ha;obtain⟨i,hi,rfl⟩:=Fj.1 hx;have h3:=h2 i (by omega);rw[D0 (l:=a),D1 hi]at h3;rw[D0,D1 (by omega)]at h3;exact(h.r.good.few.fine _ (D8 _)).val _ h3
theorem Cl (h:Fit b){s t:Option (List Int)}(hr:Reach (p9 b.goal) (j6 (domsM b) (fU b.cons b.goal)) s t)(hs: ∀c,s=some c->c∈solsR b.cons (domsM b)): ∀c,t=some c->c∈solsR b.cons (domsM b):=by
 refine hr.keep (P:=λt=> ∀c,t=some c->c∈solsR b.cons (domsM b)) hs λu a hu hf c e=> ?_;cases e;obtain⟨h1,h2,h3⟩:=gT h.r.good hf;have hI:IB u:=λx e=>kW h x (hu x e);exact fF.2 ⟨⟨h1,h2⟩,λc hc=>jl ((okB h).run _ hI) hf c (rK c hc)⟩
theorem s6 (h:Fit b)(left:Int): ∀c,(srchB b left).st=some c->c∈solsR b.cons (domsM b):=Cl h (Di h left).reach λc e=>by cases e
theorem moreB (h:Fit b){left':Int}(hl:left<=left'):srchB b left=srchB b left'∨Reach (p9 b.goal) (j6 (domsM b) (fU b.cons b.goal)) (srchB b left).st (srchB b left').st:=by
 rcases lookG_more (okB h) hl (weight (domsM b)+1) (domsM b) ⟨0,false,false,none⟩ (Eb _) h.r.good leD.rfl' (λa e=>by cases e)with h1|⟨_,_,h2,_⟩;·exact .inl h1
 ·exact .inr h2
theorem BZ (h:Fit b){left':Int}(hl:left<=left'){u:List Int}(hu:(srchB b left).st=some u): ∃v,(srchB b left').st=some v/\(b.goal.kind≠0->cH b.goal (valueG b.goal v) (valueG b.goal u)):=by
 rcases moreB h hl with h1|h1;·rw[<-h1];exact⟨u,hu,λ_=>ll _ _⟩
 ·refine(h1.keep (P:=λt=>(∀c,t=some c->c∈solsR b.cons (domsM b))/\∃v,t=some v/\(b.goal.kind≠0->cH b.goal (valueG b.goal v) (valueG b.goal u))) ⟨s6 h left,u,hu,λ_=>ll _ _⟩ λt a ⟨p1,v,hv,hn⟩ hf=> ?_).2;subst hv;have hI:IB (some v):=λx e=>kW h x (p1 x e);refine⟨λc e=> ?_,a,rfl,λhk=>p7 (sI h hk hI hf) (hn hk)⟩;cases e;obtain⟨h1,h2,_⟩:=gT h.r.good hf;exact fF.2 ⟨⟨h1,h2⟩,λc hc=>jl ((okB h).run _ hI) hf c (rK c hc)⟩
end
theorem kz {σ:Type}{left:Int}{con:σ->List Con}{fnd:σ->List Int->σ×Bool}{P:σ->Prop}(hf: ∀st a,P (fnd st a).1): ∀(n:Nat) (d:aa) (s:Srch σ),P s.st->P (lookG left con fnd n d s).st
 |0,d,s,h=>h
 |n+1,d,s,h=>by
  rw[lookG];split;·exact h
  ·split;·exact h
   ·split;·exact hf _ _
    ·refine gS (Q:=λs:Srch σ=>P s.st) (λt x _ ht=> ?_) h;split;·exact ht
     ·exact kz hf n _ t ht
def CJ (r:Srch (List (List Int)))(r':Srch (Option (List Int))):Prop:=(r.st=[]/\r'.st=none/\r.nodes=r'.nodes/\r.short=r'.short/\r.over=r'.over)∨(r.st≠[]/\r'.st≠none)
theorem lookAB {left:Int}{cons:List Con}{g:Goal}: ∀(n:Nat) (d:aa) (s:Srch (List (List Int))) (s':Srch (Option (List Int))),s.st=[]->s'.st=none->s.nodes=s'.nodes->s.short=s'.short->s.over=s'.over->CJ (lookG left (λ_=>cons) jj n d s) (lookG left (fU cons g) (p9 g) n d s')
 |0,d,s,s',h1,h2,h3,h4,h5=> .inl ⟨h1,h2,h3,h4,h5⟩
 |n+1,d,s,s',h1,h2,h3,h4,h5=>by
  have hc:fU cons g s'.st=cons:=(by rw[h2];rfl);rw[lookG,lookG,hc,<-h3];split;·exact .inl ⟨h1,h2,rfl,rfl,rfl⟩
  ·split;·exact .inl ⟨h1,h2,rfl,h4,h5⟩
   ·rename_i l _;split
    ·rename_i a _;exact .inr ⟨by show s.st++[a]≠[];simp,by show some a≠none;simp⟩
    ·have key: ∀(ys:List Int) (t:Srch (List (List Int))) (t':Srch (Option (List Int))),CJ t t'->CJ (ys.foldl (λs x=>if s.over=true then s else lookG left (λ_=>cons) jj n (l.set (openV l) [(x,x)]) s) t) (ys.foldl (λs x=>if s.over=true then s else lookG left (fU cons g) (p9 g) n (l.set (openV l) [(x,x)]) s) t'):=by
      intro ys
      induction ys with
      |nil=>intro t t' h;exact h
      |cons y ys ih=>
       intro t t' h;rw[DX,DX];refine ih _ _ ?_;rcases h with ⟨a1,a2,a3,a4,a5⟩|⟨a1,a2⟩
       ·rw[<-a5];cases ho:t.over with
        |true=>exact .inl ⟨a1,a2,a3,a4,a5⟩
        |false=>exact lookAB n _ t t' a1 a2 a3 a4 a5
       ·refine .inr ⟨?_,?_⟩
        ·split;·exact a1
         ·exact kz (P:=λl:List (List Int)=>l≠[]) (λst a=>by show st++[a]≠[];simp) n _ t a1
        ·split;·exact a2
         ·exact kz (P:=λo:Option (List Int)=>o≠none) (λst a=>by show some a≠none;simp) n _ t' a2
     exact key _ _ _ (.inl ⟨h1,h2,rfl,h4,h5⟩)
theorem Cg (b:Mod)(left:Int):(srchB b left).st.isSome=decide (0<(srchA b left).st.length):=by
 rcases lookAB (left:=left) (cons:=b.cons) (g:=b.goal) (weight (domsM b)+1) (domsM b) ⟨0,false,false,[]⟩ ⟨0,false,false,none⟩ rfl rfl rfl rfl rfl with ⟨h1,h2,_⟩|⟨h1,h2⟩
 ·have h1:(srchA b left).st=[]:=h1;have h2:(srchB b left).st=none:=h2;rw[h1,h2];rfl
 ·have h1:(srchA b left).st≠[]:=h1;have h2:(srchB b left).st≠none:=h2;rw[DE (G5.2 h1),Option.isSome_iff_ne_none.2 h2]
theorem tN (g:Goal)(a:List Int)(hg:g.kind≠0->GoalOk g)(hvl:g.vars.length<=1024)(hkl:g.coefs.length<=1024)(hal:a.length*8<=140737488355328)(ha: ∀x∈a,-1048576<=x/\x<=1048576):Spec Tryz.prog 24 false [.agg (cG g),ao a] [.val (.int .i64 (valueG g a))]:=by
 refine Spec.body Tryz.func24 Y Y Y λw0 Z0=> ?_;have hs:=yG g.vars g.coefs a (by omega) (by omega) hal;refine .B ?_;refine T.cd Y (λh=> ?_) (λh=> ?_)
 ·rw[show valueG g a=0 from D3 h];refine .B ?_;exact r1
 ·have hgo:=hg h;have e:sumW g.vars g.coefs a=valueG g a:=by
   rw[show valueG g a=bG g.vars g.coefs a from D2 h];exact kj (g:=atR a) hgo.len hgo.ck (by have:=hgo.weight;omega) (λ_ _=>rfl) λu _=>pR ha u
  rw[e]at hs;refine .B ?_;refine .D hs ?_;exact r1
theorem zF (m:Mod):(domsM (boundM m)).length<=10:=by simp[domsM,boundM];omega
theorem ur (x:Int):Spec Tryz.prog 167 false [.int .i64 x] [.val (.bool false)]:=by
 refine Spec.body Tryz.func167 Y Y Y λw0 Z0=> ?_;refine .B ?_;exact⟨_,.v Y Y (by simp) (λ_=>rfl) .nil⟩
def CE (x y:Int):Int:=if x<y then -1 else if x > y then 1 else 0
theorem A2 (x y:Int):Spec Tryz.prog 126 false [.int .i64 x,.int .i64 y] [.val (.int .i64 (CE x y))]:=by
 refine Spec.body Tryz.func126 Y Y Y λw0 Z0=> ?_;unfold CE;refine .B ?_;refine .D (ur x) ?_;refine .D (ur y) ?_;refine T.cf Y ?_;refine .B ?_;refine T.cf Y ?_;refine .B ?_;refine T.cd Y (λh=> ?_) (λh=> ?_)
 ·refine .B ?_;exact⟨_,.v Y Y (by rw[D3 h]) (λ_=>rfl) .nil⟩
 ·refine .B ?_;refine T.cd Y (λh2=> ?_) (λh2=> ?_)
  ·refine .B ?_;exact⟨_,.v Y Y (by rw[D2 h,D3 h2]) (λ_=>rfl) .nil⟩
  ·refine .B ?_;exact⟨_,.v Y Y (by rw[D2 h,D2 h2]) (λ_=>rfl) .nil⟩
theorem sT (a b:List Int)(ha:a.length*8<=140737488355328)(hb:b.length*8<=140737488355328):Spec Tryz.prog 92 false [ao a,ao b] [.val (.int .i64 (dx a b))]:=by
 refine Spec.body Tryz.func92 Y Y Y λw0 Z0=> ?_;refine .B ?_;refine T.K (T.ind (λi:Nat=>⟨[(0,.val false (ao a)),(1,.val false (ao b)),(9,.val false (ao a)),(10,.val true (.int .i64 (a.map cI).length)),(11,.val true (.int .i64 i))],[],0⟩) (λi=>i<=a.length/\i<=b.length/\dx (a.drop i) (b.drop i)=dx a b) (λi=>a.length-i) 0 (by simp) (λ_ _ h=>h) ?_);rintro i ⟨hi,hi2,he⟩ ih;refine .B ?_;refine T.cd Y (λh=> ?_) (λh=> ?_)
 ·have h:i<a.length:=(by simpa using h);refine .B ?_;refine .F (r:=cI a[i]) (aK h) ?_;refine T.cd Y (λh1=> ?_) (λh1=> ?_)
  ·have h1:i=b.length:=(by simp at h1;omega);refine .B ?_;refine⟨_,.v Y Y ?_ (λ_=>rfl) .nil⟩;rw[<-he,h1,En,DP (by omega),dx]
  ·have h1:i<b.length:=(by simp at h1;omega);have ed:dx (a.drop i) (b.drop i)=if a[i]<b[i]then -1 else if b[i]<a[i]then 1 else dx (a.drop (i+1)) (b.drop (i+1)):=by
    rw[DP h,DP h1,dx]
   have hc:=A2 a[i] b[i];have ih1:=λe=>ih (i+1) ⟨by omega,by omega,e⟩ (by omega);refine .B ?_;refine .F (r:=cI b[i]) (aK h1) ?_;refine .C hc ?_;unfold CE;refine .B ?_;refine T.cd Y (λh2=> ?_) (λh2=> ?_)
   ·refine .B ?_;refine⟨_,.v Y Y ?_ (λ_=>rfl) .nil⟩;rw[<-he,ed];split;·rfl
    ·rename_i h3;rw[D2 h3]at h2;by_cases h4:a[i] > b[i];·rw[D3 h4,D3 (by omega)]
     ·rw[D2 h4]at h2;exact DS Y h2
   ·refine .B ?_;rw[aj (l:=a.length) (by omega) (by omega)];refine T.K (ih1 ?_);rw[<-he,ed];by_cases h3:a[i]<b[i];·rw[D3 h3]at h2;exact DS (by omega) h2
    ·rw[D2 h3]at h2⊢;by_cases h4:a[i] > b[i];·rw[D3 h4]at h2;exact DS (by omega) h2
     ·rw[D2 (by omega)]
 ·have h:i=a.length:=(by simp at h;omega);refine .B ?_;refine T.cd Y (λh2=> ?_) (λh2=> ?_)
  ·have h2:a.length<b.length:=(by simpa using h2);refine .B ?_;refine⟨_,.v Y Y ?_ (λ_=>rfl) .nil⟩;rw[<-he,h,En,DP h2,dx]
  ·have h2: ¬a.length<b.length:=(by simpa using h2);refine .B ?_;refine⟨_,.v Y Y ?_ (λ_=>rfl) .nil⟩;rw[<-he,h,En,Gf (by omega),dx]
theorem vu (a b:List Int)(ha:a.length*8<=140737488355328):Spec Tryz.prog 90 false [ao a,ao b] [.val (.bool (decide (a=b)))]:=by
 refine Spec.body Tryz.func90 Y Y Y λw0 Z0=> ?_;refine .B ?_;refine T.cd Y (λh=> ?_) (λh=> ?_)
 ·refine .B ?_;exact⟨_,.v Y Y (congrArg PV.bool (DC λe=>by subst e;exact h Y)).symm (λ_=>rfl) .nil⟩
 ·have h:a.length=b.length:=(by simp at h;omega);refine .B ?_;refine T.K (T.ind (λi:Nat=>⟨[(0,.val false (ao a)),(1,.val false (ao b)),(12,.val true (.int .i64 (a.map cI).length)),(13,.val true (.int .i64 i))],[],0⟩) (λi=>i<=a.length/\a.take i=b.take i) (λi=>a.length-i) 0 (by simp) (λ_ _ h=>h) ?_);rintro i ⟨hi,he⟩ ih;refine .B ?_;refine T.cd Y (λh1=> ?_) (λh1=> ?_)
  ·have h1:i<a.length:=(by simpa using h1);have h2:i<b.length:=(by omega);have ih1:=λe=>ih (i+1) ⟨by omega,e⟩ (by omega);refine .B ?_;refine .F (r:=cI a[i]) (aK h1) ?_;refine .F (r:=cI b[i]) (aK h2) ?_;refine T.cd Y (λh3=> ?_) (λh3=> ?_)
   ·refine .B ?_;refine⟨_,.v Y Y ?_ (λ_=>rfl) .nil⟩;refine(congrArg PV.bool (DC λe=> ?_)).symm;subst e;exact h3 Y
   ·have h3:a[i]=b[i]:=EB h3;refine .B ?_;rw[aj (l:=a.length) (by omega) (by omega)];refine T.K (ih1 ?_);rw[DB h1,DB h2,he,h3]
  ·have h1:i=a.length:=(by simp at h1;omega);subst h1;rw[EI,h,EI]at he;refine .B ?_;exact⟨_,.v Y Y (congrArg PV.bool (DE he)).symm (λ_=>rfl) .nil⟩
theorem qd (l:List Int)(h:Up l)(hl:l.length*8<=140737488355328):Spec Tryz.prog 87 true [ao l] [.val (ao l)]:=by
 refine Spec.body Tryz.func87 Y Y Y λw0 Z0=> ?_;refine .B ?_;refine T.cd Y (λh1=> ?_) (λh1=> ?_)
 ·refine .B ?_;exact⟨_,.v Y Y Y (λh=>by cases h) .nil⟩
 ·have h1:2<=l.length:=(by simp at h1;omega);refine .B ?_;refine T.K (T.ind (λi:Nat=>⟨[(0,.val false (ao l)),(3,.val true (.int .i64 ((i:Nat)+1:Nat)))],[],0⟩) (λi=>i+1<=l.length) (λi=>l.length-i) 0 (by omega) (λ_ _ h=>h) ?_);rintro i hi ih;refine .B ?_;refine T.cd Y (λh2=> ?_) (λh2=> ?_)
  ·have h2:i+1<l.length:=(by have h:=h2;simp at h;omega);have hlt:l[i]<l[i+1]:=Fb.1 h i (i+1) (by omega) h2 (by omega);have ih1:=ih (i+1) (by omega) (by omega);refine .M ?_;refine T.rdm 10 Y (by kernel_rfl) Y ?_;refine .M ?_;refine .I (r:=cI l[i+1]) (aK h2) ?_;refine .M ?_;rw[show IntKind.i64.wrap (((i+1:Nat):Int)-1)=((i:Nat):Int)by rw[ac (by omega) (by omega)];omega];refine .I (r:=cI l[i]) (aK (by omega)) ?_;refine .M ?_;refine T.cd Y (λh3=>DS h3 (by omega)) (λh3=> ?_);refine .B ?_;rw[aj (l:=l.length) (n:=i+1) h2 (by omega)];exact T.K ih1
  ·refine .B ?_;exact⟨_,.v Y Y Y (λh=>by cases h) .nil⟩
theorem BS {d:aa}{c:Con}(hc:ConB c)(h:conR d c=0)(hk:c.kind=0∨c.kind=4):c.vars.length=c.coefs.length/\(∀k∈c.coefs,CoefOk k)/\ai c.coefs<=4611686018427387904/\0<=c.op/\c.op<=2:=by
 obtain⟨hv,hr⟩:=pP hc h;obtain⟨h1,h2⟩:=mM (iH h);have hra:=bu c.rhs;unfold rightR at hr;have hs:sumR c=true/\opR c=true:=by
  rcases hk with hk|hk
  ·rw[D3 hk]at hr;simp only[DH]at hr;exact⟨hr.1.1.2,hr.1.2⟩
  ·rw[D2 (by omega),D2 (by omega),D2 (by omega),D2 (by omega),D3 hk]at hr;simp only[DH]at hr;exact⟨hr.1.1.1.2,hr.1.1.2⟩
 obtain⟨hs,ho⟩:=hs;simp only[sumR,opR,DH,DM,Ed,decide_eq_false_iff_not]at hs ho;exact⟨hs.1.2,λk hk=>⟨λe=>hs.2 (e▸hk),h1 k hk⟩,by omega,ho⟩
theorem wO {d:aa}(c:Con)(a:List Int)(hc:ConB c)(h:conR d c=0)(hk:c.kind=0∨c.kind=4)(hvl:c.vars.length<=1048576)(hal:a.length*8<=140737488355328)(ha: ∀x∈a,-1048576<=x/\x<=1048576):Spec Tryz.prog 85 false [.agg (cC c),ao a] [.val (.bool (soR c a))]:=by
 refine Spec.body Tryz.func85 Y Y Y λw0 Z0=> ?_;obtain⟨hl,hck,hw,ho0,ho2⟩:=BS hc h hk;have hd:=rj c.coefs (pickedR c.vars a) (by simp[pickedR,hl]) (by omega) hck (λx hx=>by obtain⟨v,_,rfl⟩:=DD.1 hx;exact pR ha v) hw;have e:sumW c.vars c.coefs a=dotS c.coefs (pickedR c.vars a):=by
  rw[gU];exact kj (g:=atR a) hl hck (by omega) (λ_ _=>rfl) λu _=>pR ha u
 have hso:soR c a=du c.op (dotS c.coefs (pickedR c.vars a)) c.rhs:=(by unfold soR;rw[e]);rw[hso];generalize dotS c.coefs (pickedR c.vars a)=n at*;unfold du;refine .B ?_;refine .D (ip a c.vars hvl hal).frz ?_;refine .D hd ?_;refine T.cd Y (λh0=> ?_) (λh0=> ?_)
 ·have h0:c.op=0:=h0;refine .B ?_;exact⟨_,.v Y Y (by rw[D3 h0]) (λ_=>rfl) .nil⟩
 ·have h0: ¬c.op=0:=h0;rw[D2 h0];refine .B ?_;refine T.cd Y (λh1=> ?_) (λh1=> ?_)
  ·have h1:c.op=1:=h1;refine .B ?_;exact⟨_,.v Y Y (by rw[DE h1];cases decide (n=c.rhs)<;>rfl) (λ_=>rfl) .nil⟩
  ·have h1: ¬c.op=1:=h1;refine .B ?_;exact⟨_,.v Y Y (by rw[DC h1];by_cases hn:n=c.rhs<;>simp[hn]) (λ_=>rfl) .nil⟩
theorem u6 (l r:List Int)(hr:r.length*8<=140737488355328):Spec Tryz.prog 89 false [ao r,.ptr [ao l]] [.val (.bool (decide (r=l)))]:=by
 refine Spec.body Tryz.func89 Y Y Y λw0 Z0=> ?_;refine .B ?_;refine .D (vu r l hr) ?_;exact r1
theorem BP {l:List Int}(hh:rF l=true): ∃(i:Nat) (hi:i+2<l.length),l[0]'(by omega)=(i:Int)/\l[i+2]=l[1]'(by omega):=by
 unfold rF at hh;simp only[DH,DM]at hh;obtain⟨⟨⟨e1,e2⟩,e3⟩,e4⟩:=hh;have g0:l.getD 0 0=l[0]:=(by rw[D0,D1 (by omega)];rfl);rw[g0]at e2 e3 e4;have ei:((l[0].toNat:Nat):Int)=l[0]:=(by omega);refine⟨l[0].toNat,by omega,ei.symm,?_⟩;rw[show(l[0]+2).toNat=l[0].toNat+2 by omega,D0,D1 (by omega),D0,D1 (by omega)]at e4;exact e4
set_option maxHeartbeats 1000000 in
theorem uA {d:aa}(c:Con)(a:List Int)(hc:ConB c)(h:conR d c=0)(hvl:c.vars.length<=1048576)(hal:a.length*8<=140737488355328)(ha: ∀x∈a,-1048576<=x/\x<=1048576)(hh:aV c a=true):Spec Tryz.prog 58 false [.agg (cC c),ao a] [.val (.bool true)]:=by
 have hkr:0<=c.kind/\c.kind<=6:=by
  unfold conR at h;split at h;·cases h
  ·omega
 have hheld:=λhk=>wO c a hc h hk hvl hal ha;have hpk:=ip a c.vars hvl hal;have hpl:(pickedR c.vars a).length=c.vars.length:=(by simp[pickedR]);have hpx: ∀x∈pickedR c.vars a,-1048576<=x/\x<=1048576:=λx hx=>by
  obtain⟨v,_,rfl⟩:=DD.1 hx;exact pR ha v
 obtain⟨c1,c2,c3,c4⟩:=hc;have hc:ConB c:=⟨c1,c2,c3,c4⟩;have hat:=uD a c.b hal;unfold aV at hh;by_cases k1:c.kind=1
 ·rw[D2 (by omega),D3 k1,DM]at hh;have hs:=ic (pickedR c.vars a) (by omega);have hup:Up (sortI (pickedR c.vars a)):=by
   have h1:(sortI (pickedR c.vars a)).Pairwise (· <= ·):=by
    have:=Ge (le:=λx y:Int=>decide (x<=y)) (λa b c h1 h2=>by simp at h1 h2⊢;omega) (λa b=>by simp;omega) (pickedR c.vars a);exact this.imp λh=>by simpa using h
   have h2:(sortI (pickedR c.vars a)).Nodup:=(GU _ _).nodup_iff.2 (l7.1 hh);exact(h1.and h2).imp λh=>by have:=h.1;have:=h.2;omega
  have hsl:(sortI (pickedR c.vars a)).length=c.vars.length:=(Fz ..).trans hpl;have hcp:=qd _ hup (by omega);generalize sortI (pickedR c.vars a)=s at*;refine Spec.body Tryz.func58 Y Y Y λw0 Z0=> ?_;refine .B ?_;refine .C hpk ?_;refine .M ?_;refine .L ?_;refine J.name 1000 (s:=13) Y Y Y λu=> ?_;refine J.sub (Rel.raw (s:=13) (g:=1000) Y (.inl Y) Y Y Y) ?_;refine .X ?_;refine T.cd Y (λh=>DS (show c.kind=0 from h) (by omega)) (λ_=> ?_);refine .B ?_;refine T.cd Y (λ_=> ?_) (λh=>DS k1 h);refine .M ?_;refine J.sub (Rel.deraw (s:=23) (g:=1000) Y Y) ?_;refine J.cm Y Y Y Y Y Y Y Y Y hs Y Y Y ?_;refine .M ?_;refine T.sub (Rel.cellF 1000 0 (q:=2) (n:=1) (λb h=>h) Y Y Y Y Y) ?_;refine .B ?_;refine .D hcp ?_;exact⟨_,.v Y Y (by simp;omega) (λ_=>rfl) .nil⟩
 rw[D2 k1]at hh;have hpk:=hpk.frz;have hel:c.kind=3->rF (pickedR c.vars a)=true:=λk3=>by
  rw[D2 (by omega),D2 (by omega),D3 k3]at hh;exact hh
 have hcl:c.kind=5->c.vars.length=c.coefs.length/\((pickedR c.vars a).zip c.coefs).any sC=true:=λk5=>by
  rw[D2 (by omega),D2 (by omega),D2 (by omega),D2 (by omega),D3 k5]at hh;exact⟨(rM hc h k5).len,hh⟩
 have hcmp:=sT ((pickedR c.vars a).take (c.vars.length / 2)) ((pickedR c.vars a).drop (c.vars.length / 2)) (by simp;omega) (by simp;omega);have hord:c.kind=6->dx ((pickedR c.vars a).take (c.vars.length / 2)) ((pickedR c.vars a).drop (c.vars.length / 2))<=0:=λk6=>by
  rw[D2 (by omega),D2 (by omega),D2 (by omega),D2 (by omega),D2 (by omega)]at hh;exact EZ hh
 have htab:c.kind=2->(c.rows.any λr=>decide (r=pickedR c.vars a))=true:=λk2=>by
  rw[D2 (by omega),D3 k2]at hh;exact hh
 have hcon:=jq (p:=λr=>decide (r=pickedR c.vars a)) (f:=89) [.ptr [ao (pickedR c.vars a)]] c.rows (λr hr=>u6 _ r (c4 r hr)) (by omega);have hsum:c.kind=0∨c.kind=4->Spec Tryz.prog 85 false [.agg (cC c),ao a] [.val (.bool (soR c a))]:=hheld;have h0:c.kind=0->soR c a=true:=λk0=>(by rw[D3 k0]at hh;exact hh);have h4:c.kind=4->atR a c.b=if soR c a=true then 1 else 0:=λk4=>by
  rw[D2 (by omega),D2 (by omega),D2 (by omega),D3 k4]at hh;cases hs:soR c a<;>simp[hs]at hh<;>simpa using hh
 clear hh hheld;refine Spec.body Tryz.func58 Y Y Y λw0 Z0=> ?_;generalize pickedR c.vars a=l at*;generalize soR c a=so at*;refine .B ?_;refine .C hpk ?_;refine .M ?_;refine .L ?_;refine .W ?_;refine J.nil ?_;refine T.sub (Rel.unbx (s:=5) (λ_ h=>h) Y Y) ?_;refine T.sub (Rel.fp (s:=5) Y) ?_;refine .B ?_;refine T.cd Y (λk=> ?_) (λk0=> ?_)
 ·have k:c.kind=0:=k;have hs:=hsum (.inl k);rw[h0 k]at hs;refine .B ?_;refine .D hs ?_;exact r1
 have k0: ¬c.kind=0:=k0;refine .B ?_;refine T.cd Y (λk=>DS k k1) (λ_=> ?_);refine .B ?_;refine T.cd Y (λk=> ?_) (λk2=> ?_)
 ·have k:c.kind=2:=k;rw[htab k]at hcon;refine .B ?_;refine .D hcon ?_;exact r1
 have k2: ¬c.kind=2:=k2;refine .B ?_;refine T.cd Y (λk=> ?_) (λk3=> ?_)
 ·have k:c.kind=3:=k;obtain⟨i,hi,e0,e1⟩:=BP (hel k);have r0:(l.map cI)[(0:Int).toNat]? =some (cI ((i:Nat):Int)):=by
   rw[<-e0];exact aK (enc:=cI) (l:=l) (i:=0) (by omega)
  have r1:(l.map cI)[(1:Int).toNat]? =some (cI l[1]):=aK (enc:=cI) (l:=l) (i:=1) (by omega);have r2:(l.map cI)[(2+((i:Nat):Int)).toNat]? =some (cI l[i+2]):=by
   rw[show(2+((i:Nat):Int))=((i+2:Nat):Int)by omega];exact aK hi
  have w2:IntKind.i64.wrap (2+((i:Nat):Int))=2+((i:Nat):Int):=ac (by omega) (by omega);have hl2:((l.map cI).length:Int)>=2:=(by simp;omega);have hi2:((i:Nat):Int)<IntKind.i64.wrap (((l.map cI).length:Int)-2):=(by rw[ac (by simp;omega) (by simp;omega)];simp;omega);refine .B ?_;refine J.g Y Y Y (λ_=> ?_) (λh=>DS hl2 h);refine .B ?_;refine .F (r:=cI ((i:Nat):Int)) r0 ?_;refine J.g Y Y Y (λ_=> ?_) (λh=>DS (by omega) h);refine .B ?_;refine .F (r:=cI ((i:Nat):Int)) r0 ?_;refine J.g Y Y Y (λ_=> ?_) (λh=>DS hi2 h);refine .B ?_;refine .F (r:=cI ((i:Nat):Int)) r0 ?_;rw[w2];refine .F (r:=cI l[i+2]) r2 ?_;refine .F (r:=cI l[1]) r1 ?_;exact⟨_,.v Y Y (by simp[e1,hl2,hi2]) (λ_=>rfl) .nil⟩
 have k3: ¬c.kind=3:=k3;refine .B ?_;refine T.cd Y (λk=> ?_) (λk4=> ?_)
 ·have k:c.kind=4:=k;have hs:=hsum (.inr k);have h4:=h4 k;generalize atR a c.b=y at*;refine .B ?_;refine .D hs ?_;cases so with
  |true=>
   refine T.ct Y ?_;refine .B ?_;refine .D hat ?_;exact⟨_,.v Y Y (by rw[h4];rfl) (λ_=>rfl) .nil⟩
  |false=>
   refine T.cf Y ?_;refine .B ?_;refine .D hat ?_;exact⟨_,.v Y Y (by rw[h4];rfl) (λ_=>rfl) .nil⟩
 have k4: ¬c.kind=4:=k4;refine .B ?_;refine T.cd Y (λk=> ?_) (λk5=> ?_)
 ·have k:c.kind=5:=k;obtain⟨hlen,hany⟩:=hcl k;refine .B ?_;refine T.K (T.ind (λi:Nat=>⟨[(2,.optr 0 0 0 0),(84,.val true (ao l)),(85,.val true (.int .i64 (l.map cI).length)),(86,.val true (.int .i64 i))],[(0,some (.box false (cC c)))],1⟩) (λi=>i<=l.length/\((l.take i).zip (c.coefs.take i)).any sC=false) (λi=>l.length-i) 0 (by simp) (λ_ _ h=>h) ?_);rintro i ⟨hi,he⟩ ih;refine .B ?_;refine T.cd Y (λh5=> ?_) (λh5=> ?_)
  ·have h5:i<l.length:=(by simpa using h5);have h6:i<c.coefs.length:=(by omega);have h7:((i:Nat):Int)<((c.coefs.map cI).length:Int):=(by simp;omega);have hnx:((l.take (i+1)).zip (c.coefs.take (i+1))).any sC=sC (l[i],c.coefs[i]):=by
    rw[DB h5,DB h6,HQ (by simp;omega),List.any_append,he];simp
   have ih1:=λe=>ih (i+1) ⟨by omega,e⟩ (by omega);rw[hnx]at ih1;have rl:=aK (enc:=cI) h5;have rc:=aK (enc:=cI) h6;unfold sC at ih1;generalize l[i]=x at*;generalize c.coefs[i]=y at*;refine .B ?_;refine .F (r:=cI x) rl ?_;refine J.g Y Y Y (λ_=> ?_) (λh=>DS h7 h);refine .B ?_;refine .F (r:=cI y) rc ?_;refine J.g Y Y Y (λhy=> ?_) (λhy=> ?_)
   ·have hy:y=1:=hy;refine .B ?_;refine J.g Y Y Y (λhx=> ?_) (λhx=> ?_)
    ·refine .B ?_;refine T.ct Y ?_;refine .B ?_;exact r1
    ·have hx: ¬x=1:=hx;refine .B ?_;refine .F (r:=cI y) rc ?_;refine J.g Y Y Y (λh=>DS (show y= -1 from h) (by omega)) (λ_=> ?_);refine .B ?_;refine T.cf Y ?_;refine .B ?_;rw[aj (l:=l.length) (by omega) (by omega)];exact T.K (ih1 (by simp;omega))
   ·have hy: ¬y=1:=hy;refine .B ?_;refine .F (r:=cI y) rc ?_;refine J.g Y Y Y (λhy2=> ?_) (λhy2=> ?_)
    ·have hy2:y= -1:=hy2;refine .B ?_;refine T.cd Y (λhx=> ?_) (λhx=> ?_)
     ·refine .B ?_;exact r1
     ·have hx: ¬x=0:=hx;refine .B ?_;rw[aj (l:=l.length) (by omega) (by omega)];exact T.K (ih1 (by simp;omega))
    ·have hy2: ¬y= -1:=hy2;refine .B ?_;refine T.cf Y ?_;refine .B ?_;rw[aj (l:=l.length) (by omega) (by omega)];exact T.K (ih1 (by simp;omega))
  ·exfalso;have h5:i=l.length:=(by simp at h5;omega);subst h5;rw[EI,DU (by omega),hany]at he;cases he
 have k5: ¬c.kind=5:=k5;have hord:=hord (by omega);have hw:IntKind.i64.wrap (((l.map cI).length:Int).tdiv 2)=((c.vars.length / 2:Nat):Int):=(by rw[D9,hpl,GL (by omega),ac (by omega) (by omega)];omega);refine .B ?_;rw[hw];refine J.s1 (enc:=cI) (l:=l) (c.vars.length / 2) Y Y Y Y Y Y Y Y Y (λ_=>rfl) Y (by omega) ?_;refine .B ?_;refine J.s3 (enc:=cI) (l:=l) (c.vars.length / 2) Y Y Y Y Y Y Y Y Y (λ_=>rfl) Y (by omega) ?_;refine .B ?_;refine .D hcmp ?_;exact⟨_,.v Y Y (congrArg PV.bool (DE hord)) (λ_=>rfl) .nil⟩
theorem r7 {b:Mod}(hF:Fit b)(a:List Int)(ha:a∈solsR b.cons (domsM b))(c:Con)(hc:c∈b.cons):Spec Tryz.prog 57 false [CF c,.ptr [ao a]] [.val (.bool false)]:=by
 refine Spec.body Tryz.func57 Y Y Y λw0 Z0=> ?_;have hb:=hF.mb.cb c hc;have hl:=ot a ha;have hdl:(domsM b).length<=1024:=(by have:=hF.mb.vl;simpa[domsM]using this);have hs:=uA c a (hF.r.con c hc) (hF.r.right c hc) (by omega) (by omega) (kW hF a ha) ((fF.1 ha).2 c hc);refine .B ?_;refine .D hs ?_;exact r1
theorem sj {b:Mod}(hF:Fit b)(a:List Int)(ha:a∈solsR b.cons (domsM b)):Spec Tryz.prog 26 false [.agg (cM b),ao a] [.val (.bool true)]:=by
 refine Spec.body Tryz.func26 Y Y Y λw0 Z0=> ?_;have hdl:(domsM b).length=b.vars.length:=(by simp[domsM]);have hl:a.length=b.vars.length:=(ot a ha).trans hdl;have hvl:=hF.mb.vl;have hcl:=hF.mb.cl;have hcon:=pO (p:=λ_=>false) (f:=57) [.ptr [ao a]] b.cons (λc hc=>r7 hF a ha c hc) (by omega);have hany:(b.cons.any λ_=>false)=false:=(by simp);rw[hany]at hcon;have hhas: ∀i (h:i<b.vars.length),Spec Tryz.prog 55 false [dm b.vars[i].2,.int .i64 a[i]] [.val (.bool true)]:=λi h=>by
  have hm:b.vars[i].2∈domsM b:=DD.2 ⟨_,D8 h,rfl⟩;have hf:=hF.r.good.few.fine _ hm;have:=gV b.vars[i].2 a[i] (by have:=hf.len;omega);have hv:=((fF.1 ha).1.2 i (by omega));rw[D0,D1 (by omega),D0,D1 (by omega)]at hv;have e:(domsM b)[i]'(by omega)=b.vars[i].2:=(by simp[domsM]);simp only[Ee]at hv;rw[e]at hv;rwa[show hasV b.vars[i].2 a[i]=true from cS.2 hv]at this
 refine .B ?_;refine T.cd Y (λh=>DS (by simp;omega) h) (λ_=> ?_);refine .B ?_;refine T.K (T.ind (λi:Nat=>⟨[(2,.optr 0 0 0 0),(3,.optr 1 0 0 0),(14,.val false (.sl (b.vars.map cV))),(15,.val true (.int .i64 (b.vars.map cV).length)),(16,.val true (.int .i64 i))],[(0,some (.box false (cM b))),(1,some (.box false [ao a]))],2⟩) (λi=>i<=b.vars.length) (λi=>b.vars.length-i) 0 (EG _) (λ_ _ h=>h) ?_);rintro i hi ih;refine .B ?_;refine T.cd Y (λh1=> ?_) (λh1=> ?_)
 ·have h1:i<b.vars.length:=(by simpa using h1);have hr:=aK (enc:=cV) h1;have ha2:=aK (enc:=cI) (l:=a) (i:=i) (by omega);have hh:=hhas i h1;have ih1:=ih (i+1) h1 (by omega);generalize b.vars[i]=v at*;generalize a[i]=k at*;refine .B ?_;refine .F (r:=cV v) hr ?_;refine .L ?_;refine .B ?_;refine .X ?_;refine .F (r:=cI k) ha2 ?_;refine .D hh ?_;refine T.cf Y ?_;refine .B ?_;rw[aj (l:=b.vars.length) h1 (by omega)];exact T.K ih1
 ·refine .B ?_;refine J.sub (Rel.unbx (s:=3) (λ_ h=>h) Y Y) ?_;refine J.sub (Rel.fp (s:=3) Y) ?_;refine .B ?_;refine .D hcon ?_;exact r1
def vI (v:Int):Int:=IntKind.i64.wrap (BitVec.ofInt IntKind.i64.bits v &&& BitVec.ofInt IntKind.i64.bits 255).toNat
theorem A3 (v:Int):0<=vI v/\vI v<=255:=by
 have h:(BitVec.ofInt IntKind.i64.bits v &&& BitVec.ofInt IntKind.i64.bits 255).toNat<=255:=by
  rw[BitVec.toNat_and];exact E9 Nat.and_le_right (by decide)
 unfold vI;rw[ac (by omega) (by omega)];omega
set_option maxHeartbeats 1000000 in
theorem ze (m:Mod)(ia ib:Int)(hm:ModI m):Spec Tryz.prog 9 true [.agg (cM m),.int .i64 ia,.int .i64 ib] [.val (.bool true)]:=by
 refine Spec.body Tryz.func9 Y Y Y λw0 Z0=> ?_;have hrs:=uF m 300 hm (by omega);have hb:=vL m;have hfit:=λh=>CB (most:=300) hb h (by omega);have hbl:=zF m;generalize okM (boundM m) 300=ok at*;generalize boundM m=b at*;refine .B ?_;refine .D hrs ?_;refine .X ?_;cases ok with
 |false=>
  refine T.ct Y ?_;refine .B ?_;refine .D d6 ?_;exact⟨_,.v Y Y Y (λh=>by cases h) .nil⟩
 |true=>
  obtain⟨hF,hp⟩:=hfit Y;have hbt:=A3 ib;obtain⟨n,hn⟩: ∃n:Int,n=max 0 (min ia 400):=⟨_,rfl⟩;have hn0:0<=n/\n<=400:=(by omega);obtain⟨k,hk⟩: ∃k:Int,k=n+vI ib:=⟨_,rfl⟩;have hkw:IntKind.i64.wrap (n+vI ib)=k:=(by rw[hk,ac (by omega) (by omega)]);have hnk:n<=k:=(by omega);have hk0:0<=k/\k<=1000:=(by omega);have s1:=(yc hF n (by omega)).frz;have s2:=(yc hF k (by omega)).frz;have s3:=vm hF n (by omega);have s4:=vm hF k (by omega);have n1:=Av hF hn0.1;have n2:=Av hF hk0.1;have hmr:=moreA hF hnk;have hbet:=λu=>BZ hF hnk (u:=u);have hsol:=s6 hF n;have hsol2:=s6 hF k;have hsm:=Cg b k;have hsl:=ot (cons:=b.cons) (d:=domsM b);have hbn:=kW hF;have hfirst:=CC hF k;have hdl:(domsM b).length<=1024:=(by omega);have hcnt:(solsR b.cons (domsM b)).length<=1048576:=by
   have h1:=Ec (λa=>b.cons.all λc=>aV c a) (bj (domsM b) (domsM b).length);have h2:=nt (domsM b) _ (DL _);rw[DU (DL _)]at h2;unfold solsR;have:=hF.p;omega
  have hmsol:=λu (hu:u∈solsR b.cons (domsM b))=>sj hF u hu;have hval:=λ(a:List Int) (hl:a.length*8<=140737488355328) (ha: ∀x∈a,-1048576<=x/\x<=1048576)=>tN b.goal a (λhk=>hF.g.ok hk) hF.mb.gl.1 hF.mb.gl.2 hl ha;have hkinds:=hF.g.kind;generalize srchA b n=rx at*;generalize srchA b k=ry at*;generalize srchB b n=ru at*;generalize srchB b k=rv at*;generalize solsR b.cons (domsM b)=A at*;obtain⟨p,xs,xo,x⟩:=rx;obtain⟨q,ys,yo,y⟩:=ry;obtain⟨_,us,uo,u⟩:=ru;obtain⟨_,vs,vo,v⟩:=rv;simp only at n1 n2 hmr hbet hsol hsol2 hsm hfirst;have hxy:p<=q/\∃l,y=x++l:=by
   rcases hmr with h|h;·cases h;exact⟨DL _,[],by simp⟩
   ·exact h
  obtain⟨hpq,l,hyl⟩:=hxy;obtain⟨l2,hAl⟩:=hfirst;have hxl:x.length<=y.length:=(by rw[hyl];simp);have hyl2:y.length<=A.length:=(by rw[hAl];simp);have hxe: ∀i (h:i<x.length),y[i]'(by omega)=x[i]:=λi h=>by
   have:y[i]? =x[i]? :=(by rw[hyl,EK h]);rw[D1 h,D1 (by omega)]at this;exact D4 this
  have hxm: ∀a∈x,a.length*8<=140737488355328:=λa ha=>(by rw[hsl a (by rw[hAl,hyl];simp[ha])];omega);have hq2: ∀i (h:i<x.length),Spec Tryz.prog 20 false [ao x[i],ao x[i]] [.val (.bool true)]:=λi h=>by
   have:=mo x[i] x[i] (hxm _ (D8 h));rwa[DE Y]at this
  have s1:Spec Tryz.prog 13 false [.agg (cM b),.int .i64 n] [.val (bL x),.val (.bool (!xs)),.val (.int .i64 p),.val (.int .i64 0)]:=s1;have s2:Spec Tryz.prog 13 false [.agg (cM b),.int .i64 k] [.val (bL y),.val (.bool (!ys)),.val (.int .i64 q),.val (.int .i64 0)]:=s2;have hc:=hval (u.getD []) (by cases u with
   |none=>simp
   |some a=>simp only[Ee];rw[hsl a (hsol a Y)];omega) (by cases u with
   |none=>simp
   |some a=>exact hbn a (hsol a Y))
  have hd:=hval (v.getD []) (by cases v with
   |none=>simp
   |some a=>simp only[Ee];rw[hsl a (hsol2 a Y)];omega) (by cases v with
   |none=>simp
   |some a=>exact hbn a (hsol2 a Y))
  have hbt2: ∀a,u=some a->∃c,v=some c/\(b.goal.kind≠0->cH b.goal (valueG b.goal c) (valueG b.goal a)):=λa h=>hbet a h;refine T.cf Y ?_;refine .B ?_;rw[<-hn,show IntKind.i64.wrap (n+IntKind.i64.wrap (BitVec.ofInt IntKind.i64.bits ib &&& BitVec.ofInt IntKind.i64.bits 255).toNat)=k from hkw];refine .D s1 ?_;refine .D s2 ?_;refine J.g Y Y Y (λh=>DS h (by omega)) (λ_=> ?_);refine .B ?_;refine J.g Y Y Y (λh=>DS h (by omega)) (λ_=> ?_);refine .B ?_;refine J.g Y Y Y (λh=>DS h (by simp;omega)) (λ_=> ?_);refine .B ?_;refine T.cd Y (λh=>DS h (by omega)) (λ_=> ?_);refine .B ?_;refine T.K (T.ind (λi:Nat=>⟨[(3,.optr 0 0 0 0),(8,.val true (.int .i64 n)),(9,.val true (.int .i64 k)),(10,.val true (bL x)),(14,.val true (bL y)),(15,.val true (.bool (!ys))),(18,.val true (.int .i64 i))],[(0,some (.box false (cM b)))],1⟩) (λi=>i<=x.length) (λi=>x.length-i) 0 (EG _) (λ_ _ h=>h) ?_);rintro i hi ih;refine .B ?_;refine T.cd Y (λh1=> ?_) (λh1=> ?_)
  ·have h1:i<x.length:=(by simpa using h1);have ry:=aK (enc:=cL) (l:=y) (show i<y.length by omega);rw[hxe i h1]at ry;refine .B ?_;refine .F (r:=cL x[i]) (aK h1) ?_;refine .F (r:=cL x[i]) ry ?_;refine .D (hq2 i h1) ?_;refine T.cf Y ?_;refine .B ?_;rw[aj h1 (by omega)];exact T.K (ih (i+1) h1 (by omega))
  ·have hlen:v.isSome=decide (((y.map cL).length:Int) > 0):=(by rw[hsm,D9];exact decide_eq_decide.2 (by omega));have hne: ∀z:Bool,(z != z)=false:=λz=>(by cases z<;>rfl);refine .B ?_;refine .D s3 ?_;refine .C s4 ?_
   iterate 11 refine J.H Y ?_
   refine J.nil ?_;refine T.K (?_:T _ _ ⟨[(3,.optr 0 0 0 0),(14,.val true (bL y)),(15,.val true (.bool (!ys))),(19,.val true (ao (u.getD []))),(20,.val true (.bool u.isSome)),(24,.val true (ao (v.getD []))),(25,.val true (.bool v.isSome))],[(0,some (.box false (cM b)))],1⟩ _);have hfin: ∀z:Bool,z=decide (((y.map cL).length:Int) > 0)->(!(z==decide (((y.map cL).length:Int) > 0)))=false:=λz h=>(by rw[h];cases decide (((y.map cL).length:Int) > 0)<;>rfl);have hfin:=hfin _ hlen;cases u with
   |none=>
    generalize v.isSome=z at*;cases ys
    all_goals
     refine .B ?_
     try rw[hfin]
     refine T.cf Y ?_;refine .B ?_;refine .D hc ?_;refine .D hd ?_;refine .D d6 ?_;exact⟨_,.v Y Y Y (λh=>by cases h) .nil⟩
   |some a=>
    obtain⟨e,he,hno⟩:=hbt2 a Y;have hms:=hmsol a (hsol a Y);subst he;simp only[Ee]at hc hd;simp only[Ee];generalize valueG b.goal e=ve at*;generalize valueG b.goal a=va at*;unfold cH at hno;cases ys
    all_goals
     refine .B ?_;refine .D hms ?_
     try rw[hfin]
     refine T.cf Y ?_;refine .B ?_;refine .D hc ?_;refine .D hd ?_;refine J.g Y Y Y (λhk1=> ?_) (λhk1=> ?_)
     ·refine .B ?_;refine J.g Y Y Y (λhk2=> ?_) (λhk2=> ?_)
      ·refine .B ?_;refine .D d6 ?_;exact⟨_,.v Y Y Y (λh=>by cases h) .nil⟩
      ·have hk2:b.goal.kind=2:=EB hk2;have hge:=hno (by omega);rw[D3 hk2]at hge;refine .B ?_;refine J.g Y Y Y (λ_=> ?_) (λh=>DS hge h);refine .B ?_;refine .D d6 ?_;exact⟨_,.v Y Y Y (λh=>by cases h) .nil⟩
     ·have hk1:b.goal.kind=1:=EB hk1;have hle:=hno (by omega);rw[D2 (by omega)]at hle;refine .B ?_;refine J.g Y Y Y (λ_=> ?_) (λh=>DS hle h);refine .B ?_;refine J.g Y Y Y (λhk2=> ?_) (λhk2=>DS (show b.goal.kind≠2 by omega) hk2);refine .B ?_;refine .D d6 ?_;exact⟨_,.v Y Y Y (λh=>by cases h) .nil⟩
set_option maxRecDepth 100000
section
variable {H:Type}{henc:TypeId×Value->H}{w:World}
theorem gj:dC henc Tryz.prog w 3 cI (λn=> -9223372036854775808<=n/\n<=9223372036854775807):=yX (by kernel_rfl)
theorem je:dC henc Tryz.prog w 24 (λl=>[ao l]) (λl=>l.length*8<=reachBytes):=
 (eU (t:=24) (e:=3) (by kernel_rfl) gj (λ_=>by kernel_rfl) (by decide +kernel) (λa p hp=>by simp[cI]at hp;subst hp;rfl)).map id (λ_=>rfl) λl h=>h.1
theorem Ao:dC henc Tryz.prog w 34 (λl=>[bL l]) (λl=>l.length*24<=reachBytes/\∀x∈l,x.length*8<=reachBytes):=
 (eU (t:=34) (e:=24) (by kernel_rfl) je (λ_=>by kernel_rfl) (by decide +kernel) (λa p hp=>by simp at hp;subst hp;rfl)).map id (λ_=>rfl) λl h=>h
theorem yY:dC henc Tryz.prog w 51 cC ConB:=by
 have h:=dU (henc:=henc) (w:=w) Tryz.underlying51 (aO gj Y (aO je (by kernel_rfl) (aO je (by kernel_rfl) (aO gj (by kernel_rfl) (aO gj (by kernel_rfl) (aO Ao (by kernel_rfl) (aO gj (by kernel_rfl) (fI _)))))))) (by kernel_rfl);refine h.map (λx=>(⟨x.1,x.2.1,x.2.2.1,x.2.2.2.1,x.2.2.2.2.1,x.2.2.2.2.2.1,x.2.2.2.2.2.2.1⟩:Con)) (λ_=>rfl) λx h=> ?_;obtain⟨_,h1,h2,_,_,h3,_⟩:=h;have e:reachBytes=140737488351232:=rfl;rw[e]at h1 h2 h3;exact⟨by simp only;omega,by simp only;omega,by simp only;omega,λy hy=>by have:=h3.2 y hy;omega⟩
end
end Go.Proofs.YtopcjbahjjhdmaaGreat
namespace Go.Proofs.YtopcjbahjjhdmaaGreat
open Go Go.RowKit
set_option linter.unusedVariables false
set_option maxRecDepth 100000
section
variable {H:Type}{henc:TypeId×Value->H}{w:World}
theorem Bt:dC henc Tryz.prog w 9 (λs:ByteArray=>[.str s]) (λ_=>True):=by
 intro fuel cs x h _ _;obtain⟨s,rfl,_,_⟩:=DataW.trod_string (show Tryz.prog.underlying 9=some .string by kernel_rfl) h;exact⟨s,.cons (.str _) .nil,trivial⟩
theorem uj:dC henc Tryz.prog w 53 cR (λ_=>True):=by
 have h:=dU (henc:=henc) (w:=w) Tryz.underlying53 (aO gj Y (aO gj (by kernel_rfl) (fI _))) (by kernel_rfl);exact h.map (λx=>(x.1,x.2.1)) (λ_=>rfl) λ_ _=>trivial
theorem Bu:dC henc Tryz.prog w 54 (λl=>[dm l]) (λl=>l.length*16<=reachBytes):=
 (eU (t:=54) (e:=53) (by kernel_rfl) uj (λ_=>by kernel_rfl) (by decide +kernel) (λa p hp=>by simp[cR]at hp;rcases hp with rfl|rfl<;>rfl)).map id (λ_=>rfl) λl h=>h.1
theorem yV:dC henc Tryz.prog w 56 cV (λv=>v.2.length*16<=reachBytes):=by
 have h:=dU (henc:=henc) (w:=w) Tryz.underlying56 (aO Bt Y (aO Bu (by kernel_rfl) (fI _))) (by kernel_rfl);exact h.map (λx=>(x.1,x.2.1)) (λ_=>rfl) λx h=>h.2.1
theorem wC:dC henc Tryz.prog w 22 (λl:List (ByteArray×List (Int×Int))=>[.sl (l.map cV)]) (λl=>l.length*40<=reachBytes/\∀v∈l,v.2.length*16<=reachBytes):=
 (eU (t:=22) (e:=56) (by kernel_rfl) yV (λ_=>by kernel_rfl) (by decide +kernel) (λa p hp=>by simp[cV]at hp;rcases hp with rfl|rfl<;>rfl)).map id (λ_=>rfl) λl h=>h
theorem wF:dC henc Tryz.prog w 51 cC (λc=>c.vars.length*8<=140737488355328/\c.coefs.length*8<=140737488355328/\c.rows.length*8<=140737488355328/\∀r∈c.rows,r.length*8<=140737488355328):=
 yY.map id (λ_=>rfl) λc h=>by obtain⟨h1,h2,h3,h4⟩:=h;exact⟨by simp only[id];omega,h2,by simp only[id];omega,h4⟩
theorem wE:dC henc Tryz.prog w 23 (λl=>[cU l]) (λl=>l.length*104<=reachBytes/\∀c∈l,c.vars.length*8<=140737488355328/\c.coefs.length*8<=140737488355328/\c.rows.length*8<=140737488355328/\∀r∈c.rows,r.length*8<=140737488355328):=
 (eU (t:=23) (e:=51) (by kernel_rfl) wF (λ_=>by kernel_rfl) (by decide +kernel) (λa p hp=>by simp[cC]at hp;rcases hp with rfl|rfl|rfl|rfl|rfl|rfl|rfl<;>rfl)).map id (λ_=>rfl) λl h=>h
theorem wD:dC henc Tryz.prog w 26 cG (λg=>g.vars.length*8<=reachBytes/\g.coefs.length*8<=reachBytes):=by
 have h:=dU (henc:=henc) (w:=w) Tryz.underlying26 (aO gj Y (aO je (by kernel_rfl) (aO je (by kernel_rfl) (fI _)))) (by kernel_rfl);exact h.map (λx=>(⟨x.1,x.2.1,x.2.2.1⟩:Goal)) (λ_=>rfl) λx h=>⟨h.2.1,h.2.2.1⟩
theorem yW:dC henc Tryz.prog w 28 cM ModI:=by
 have h:=dU (henc:=henc) (w:=w) Tryz.underlying28 (aO wC Y (aO wE (by kernel_rfl) (aO wD (by kernel_rfl) (fI _)))) (by kernel_rfl);refine h.map (λx=>(⟨x.1,x.2.1,x.2.2.1⟩:Mod)) (λ_=>by simp[cM,cG]) λx h=> ?_;obtain⟨⟨h1,h2⟩,⟨h3,h4⟩,⟨h5,h6⟩,_⟩:=h;have e:reachBytes=140737488351232:=rfl;rw[e]at h1 h3 h5 h6;exact⟨λv hv=>by have:=h2 v hv;rw[e]at this;omega,by simp only;omega,by simp only;omega,h4,by simp only;omega⟩
theorem BA (m:Mod): ∀p∈cM m,p.one=true:=by
 intro p hp;simp[cM,cU]at hp;rcases hp with rfl|rfl|rfl|rfl|rfl<;>rfl
end
end Go.Proofs.YtopcjbahjjhdmaaGreat
namespace Go.Proofs.YtopcjbahjjhdmaaGreat.searchMore
open Go.ChangeShapes Go.WideShapes Go.ChangeAt Go.RowKit
theorem own:ownKnob Tryz.prog.godebug=none:=by kernel_rfl
theorem laidOut:laidOutB Tryz.prog=true:=by kernel_rfl
set_option maxRecDepth 100000 in
theorem lifted (os:Os)(started:os.Started)(H:Type)(enc:TypeId×Value->H):
  ReturnsInHanded {} Tryz.checked os 9 .any (Rows.searchMoreSpec.pre6 enc Tryz.prog Tryz.f9 Rows.searchMoreRow.domain false) (Rows.searchMoreSpec.post enc Tryz.prog Tryz.f9 false true false false):=by
 refine returnsInHanded_of_change_sized (C:=Tryz.checked) own started (by kernel_rfl) Tryz.func9
  (ChangeSpec.witness6 (enc:=enc) (C:=Tryz.checked) false ⟨#[],#[.agg #[.slice none 0 0,.slice none 0 0,.int .i64 0,.slice none 0 0,.slice none 0 0],.int .i64 0,.int .i64 0],[]⟩ 8 (by kernel_rfl) (by kernel_rfl) (by kernel_rfl) (by kernel_rfl)) ?_
 intro W base args ds gs before hval0 hW hcnd hsz0 _;have hsz:(DataW.weightsEach Tryz.prog (Tryz.f9.params.toList++Rows.searchMoreSpec.plain.varTypes Tryz.prog) (ds++gs)).all (· <=reachBytes)=true:=hsz0;have hval: ∀(j:Nat) t v,Tryz.f9.params[j]? =some t->args[j]? =some v->Value.okWide Tryz.prog W .any base t v:=hval0;have hW':=hW;obtain⟨p,q,hA0,hV,rfl,hfz,hnd⟩:=hW;have hA:DataW.TrodAll enc Tryz.prog W 0 (λ_=>true) true Tryz.f9.params.toList args.toList ds p:=hA0;rw[Tryz.params9]at hA hval hsz;obtain⟨v0,vs0,d0,ds0,p0,q0,hargs,rfl,rfl,h0,r0⟩:=trodAll_cons hA;obtain⟨v1,vs1,d1,ds1,p1,q1,rfl,rfl,rfl,h1,r1⟩:=trodAll_cons r0;obtain⟨v2,vs2,d2,ds2,p2,q2,rfl,rfl,rfl,h2,r2⟩:=trodAll_cons r1;obtain⟨rfl,rfl,rfl⟩:=trodAll_nil r2;obtain rfl:args= #[v0,v1,v2]:=(by cases args;simp_all);obtain⟨rfl,rfl⟩:=trodVars_none hV;have hv0:=hval 0 28 v0 Y Y;obtain⟨cs0,rfl,_,_⟩: ∃cs,v0= .agg cs/\cs.size=Tryz.prog.cellsOf 28/\Row.okWide Tryz.prog W .any base 28 cs:=by
  unfold Value.okWide at hv0;rw[Tryz.underlying28]at hv0;exact hv0
 have k0:=h0;have lt0: ∀x∈p0,x.block<W.heap.size:=(by obtain⟨m,hm⟩:=k0;exact DataW.trod_lt m _ _ _ hm);obtain⟨fuel0,hf0⟩:=h0;obtain⟨a,rfl,rfl,rfl,w1⟩:=open_int Tryz.underlying3 (hval 1 3 v1 Y Y) h1;obtain⟨b,rfl,rfl,rfl,w2⟩:=open_int Tryz.underlying3 (hval 2 3 v2 Y Y) h2;have hw:(DataW.weightsEach Tryz.prog (28::3::3::Rows.searchMoreSpec.plain.varTypes Tryz.prog) (d0:: .lit (.int .i64 a):: .lit (.int .i64 b)::[])).all (· <=reachBytes)=true:=hsz;rw[DataW.weightsEach,F0,DH]at hw;obtain⟨hw0,hw⟩:=hw;rw[DataW.weightsEach,F0,DH]at hw;obtain⟨hw1,hw⟩:=hw;rw[DataW.weightsEach,F0,DH]at hw;obtain⟨hw2,hw⟩:=hw;obtain⟨m,hrep0,hm⟩:=yW fuel0 _ (d0,p0) hf0 hw0 (nf hfz λp hp=>by simp[hp]);clear hA0 hval0 hsz0 hsz hw;have hcs0:(Value.agg cs0).cells.toList=cs0.toList:=rfl;rw[hcs0]at hrep0;have harg0:Rep W (λ_=>True) (.agg cs0) (.agg (cM m)):=by
  have:=Rep.agg (w:=W) (Z:=λ_=>True) cs0.toList (cM m) hrep0 (BA m);simpa using this
 refine((ze m a b hm).out W (λ_=>True) [.agg cs0,.int .i64 a,.int .i64 b] (.cons harg0 (.cons (.int _ _) (.cons (.int _ _) .nil)))).mono λe W' ⟨rs,he,bel,hret⟩=> ?_;have hrs:rs=[.bool true]:=by
  have h:=hret.each;cases h with
  |cons h1 h2=>cases h2;cases h1;rfl
 subst hrs;subst he;exact⟨_,rfl,_,_,_,[],_,[],hW',trodAll_mk1 (shut_bool Tryz.underlying4 _),trodAll_cons_mk (Below.trod laidOut (by kernel_rfl) (EZ (by kernel_rfl)) k0 bel lt0) (trodAll_cons_mk (shut_int Tryz.underlying3 w1) (trodAll_cons_mk (shut_int Tryz.underlying3 w2) trodAll_mk0)),rfl,bel.frame _,λh=>by cases h⟩
theorem over:Rows.searchMoreRow.holds Tryz.pinned (OpenSpec.ofChange Rows.searchMoreSpec):=
 OpenClaim.holds_of_wide 9 Tryz.f9 Y Y Y Y Y Y Y ⟨rfl,rfl,rfl,rfl,rfl⟩ Y Y Y Y Y (by kernel_rfl) Tryz.func9 (by kernel_rfl)
  (EZ (by kernel_rfl)) (by unfold Func.isWrapper;first|(rw[D3 (by decide +kernel)];kernel_rfl)|(rw[D2 (by decide +kernel)];exact⟨rfl,rfl⟩))
  (λos started H enc _=>lifted os started H enc)
theorem proved:Rows.SearchMoreSaid:=over
#print axioms proved
end Go.Proofs.YtopcjbahjjhdmaaGreat.searchMore
namespace Go.Proofs.YtopcjbahjjhdmaaGreat
theorem searchMore_holds:Rows.SearchMoreSaid:=searchMore.proved
end Go.Proofs.YtopcjbahjjhdmaaGreat
