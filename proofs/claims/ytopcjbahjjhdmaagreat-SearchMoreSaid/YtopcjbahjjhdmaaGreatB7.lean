/- The texts LiE, LiF, PuG, FgC, FgD, PuF, FgE, LiG, PuH, PuK, PuS, LiI, PuU, PuV, PuW, PuX, PuY, PuZ, PvA, FuJ, PvB, PvH, ShD, ShC, FvB of the workplace, joined. -/
import Derived.Test.YtopcjbahjjhdmaaGreatB6
import Derived.Ground.SlsfProg
import Derived.Shelf.SlSortCmp.WholeK
import Derived.Test.YtopcjbahjjhdmaaGreatProg
import Derived.Shelf.Slices.CompactI
import Derived.Shelf.SlicesE.DeleteFunc
namespace Go.Proofs.YtopcjbahjjhdmaaGreat
open Go Go.RowKit
set_option linter.unusedVariables false
set_option linter.unusedSimpArgs false
theorem Bl (lo hi:Int):(rng lo hi).length=(hi+1-lo).toNat:=by simp[rng]
theorem tJ {d:List (Int×Int)}(h:Fine d):fG d=((vals d).length:Nat):=by
 have hb:=h.domB.1;have hf:=h.few;have hok:=h.ok;have key: ∀(d:List (Int×Int)) (n:Nat),InB d->(∀r∈d,r.1<=r.2)->n+(vals d).length<=1000000000000000->d.foldl (λn r=>wr (n+wr (wr (r.2-r.1)+1))) (n:Int)=((n+(vals d).length:Nat):Int):=by
  intro d
  induction d with
  |nil=>intro n _ _ _;simp[vals]
  |cons r d ih=>
   intro n hb ho hl;have h1:=hb r (.head _);have h2:=ho r (.head _);rw[bl,DW,Bl]at hl⊢;rw[DX];have e:wr ((n:Int)+wr (wr (r.2-r.1)+1))=((n+(r.2+1-r.1).toNat:Nat):Int):=by
    simp only[wr];rw[ac (n:=r.2-r.1) (by omega) (by omega),ac (n:=r.2-r.1+1) (by omega) (by omega),ac (by omega) (by omega)];omega
   rw[e,ih _ (λr hr=>hb r (.tail _ hr)) (λr hr=>ho r (.tail _ hr)) (by omega)];congr 1;omega
 have:=key d 0 hb hok.1 (by omega);simpa[fG]using this
def jU (x:Int)(r:Int×Int):List (Int×Int):=if x<r.1∨r.2<x then [r]else(if r.1<x then [(r.1,x-1)]else [])++(if x<r.2 then [(x+1,r.2)]else [])
theorem uz {a:List (Int×Int)}{x:Int}(ho: ∀r∈a,r.1<=r.2)(hx: -9223372036854000000<=x/\x<=9223372036854000000):dX a [(x,x)]=a.flatMap (jU x):=by
 have key: ∀(a:List (Int×Int)) (out:List (Int×Int)),(∀r∈a,r.1<=r.2)->a.foldl (cA [(x,x)]) out=out++a.flatMap (jU x):=by
  intro a
  induction a with
  |nil=>intro out _;simp
  |cons r a ih=>
   intro out ho;have h1:=ho r (.head _);have e:cA [(x,x)] out r=out++jU x r:=by
    unfold cA jU;simp only[bM,wr];rw[ac (n:=x+1) (by omega) (by omega),ac (n:=x-1) (by omega) (by omega)];by_cases h2:x<r.1∨r.2<x
    ·rw[D3 h2,D3 h2];simp only;rw[D3 h1]
    ·rw[D2 h2,D2 h2];simp only;by_cases h3:r.1<x<;>by_cases h4:x<r.2;·rw[D3 (show x+1<=r.2 by omega),D3 h3,D3 h3,D3 h4,EF]
     ·rw[D2 (show¬x+1<=r.2 by omega),D3 h3,D3 h3,D2 h4,F5]
     ·rw[D3 (show x+1<=r.2 by omega),D2 h3,D2 h3,D3 h4,Eo]
     ·rw[D2 (show¬x+1<=r.2 by omega),D2 h3,D2 h3,D2 h4];simp
   rw[DX,e,ih _ λr hr=>ho r (.tail _ hr),FG,EF]
 unfold dX;rw[key a [] ho];rfl
theorem oR {x:Int}{r s:Int×Int}(h:r.1<=r.2)(hs:s∈jU x r):r.1<=s.1/\s.1<=s.2/\s.2<=r.2:=by
 unfold jU at hs;split at hs;·simp only[DF]at hs;subst hs;omega
 ·rcases DT.1 hs with hs|hs
  ·split at hs;·simp only[DF]at hs;subst hs;simp only;omega
   ·cases hs
  ·split at hs;·simp only[DF]at hs;subst hs;simp only;omega
   ·cases hs
theorem Aj {a:List (Int×Int)}{x:Int}(h:ay a):ay (a.flatMap (jU x)):=by
 refine⟨λs hs=> ?_,?_⟩
 ·obtain⟨r,hr,hs⟩:=FR.1 hs;exact(oR (h.1 r hr) hs).2.1
 ·induction a with
  |nil=>exact .nil
  |cons r a ih=>
   have hp:=DY.1 h.2;rw[FG];refine FI.2 ⟨?_,ih h.tail,λs hs t ht=> ?_⟩
   ·unfold jU;split;·simp
    ·split<;>split<;>simp;omega
   ·obtain⟨q,hq,ht⟩:=FR.1 ht;have h1:=oR (h.1 r (.head _)) hs;have h2:=oR (h.1 q (.tail _ hq)) ht;have:=hp.1 q hq;omega
theorem qF {x v:Int}{r:Int×Int}:(∃s∈jU x r,s.1<=v/\v<=s.2)↔r.1<=v/\v<=r.2/\v≠x:=by
 unfold jU;constructor
 ·rintro⟨s,hs,h1,h2⟩;split at hs;·simp only[DF]at hs;subst hs;omega
  ·rcases DT.1 hs with hs|hs
   ·split at hs;·simp only[DF]at hs;subst hs;simp only at h1 h2;omega
    ·cases hs
   ·split at hs;·simp only[DF]at hs;subst hs;simp only at h1 h2;omega
    ·cases hs
 ·rintro⟨h1,h2,h3⟩;by_cases hc:x<r.1∨r.2<x;·rw[D3 hc];exact⟨r,.head _,h1,h2⟩
  ·rw[D2 hc];by_cases hv:v<x;·exact⟨(r.1,x-1),E7 _ (by rw[D3 (by omega)];exact .head _),h1,by simp only;omega⟩
   ·exact⟨(x+1,r.2),EA _ (by rw[D3 (by omega)];exact .head _),by simp only;omega,h2⟩
theorem Az {a:List (Int×Int)}{x:Int}(h:ay a)(hx: -9223372036854000000<=x/\x<=9223372036854000000):ay (dX a [(x,x)])/\∀v,v∈vals (dX a [(x,x)])↔v∈vals a/\v≠x:=by
 rw[uz h.1 hx];refine⟨Aj h,λv=> ?_⟩;rw[aS,aS];constructor
 ·rintro⟨s,hs,h1⟩;obtain⟨r,hr,hs⟩:=FR.1 hs;have:=qF.1 ⟨s,hs,h1⟩;exact⟨⟨r,hr,this.1,this.2.1⟩,this.2.2⟩
 ·rintro⟨⟨r,hr,h1,h2⟩,h3⟩;obtain⟨s,hs,h4⟩:=qF.2 ⟨h1,h2,h3⟩;exact⟨s,FR.2 ⟨r,hr,hs⟩,h4⟩
theorem xT {x:List (Int×Int)}(h:Fine x)(hne:x≠[])(h1: ¬1<(vals x).length): ∃v,x=[(v,v)]/\vals x=[v]/\-1048576<=v/\v<=1048576:=by
 have hv:(vals x).length=1:=by
  have:vals x≠[]:=λe=>hne ((e6 h.ok).1 e);cases hx:vals x with
  |nil=>exact DS hx this
  |cons a l=>rw[hx]at h1;simp at h1⊢;exact h1
 obtain⟨v,rfl⟩:=(lj h.ok).1 hv;have e:vals [(v,v)]=[v]:=(by simp[vals,bS]);have:=h.val v (by rw[e];exact .head _);exact⟨v,rfl,e,this⟩
theorem fj {B:Int}(hB:B<=4611686018427388928): ∀(ts:List (List (Int×Int)×Int)) (i:Nat) (op:Int) (s:Int) (m a:Nat),gr ts->(∀t∈ts,t.1≠[])->-B<=s-aZ ts->s+aZ ts<=B->(op<0/\m=0∨0<=op/\m=1/\op=a/\-(B-1048576)<=s-aZ ts/\s+aZ ts<=B-1048576)->
  (c8 i ts op s=none/\1<(au i ts m s a).1)∨∃s',-B<=s'/\s'<=B/\((∃op',op'<0/\c8 i ts op s=some (op',s')/\∃a',au i ts m s a=(0,s',a'))∨∃a':Nat,-(B-1048576)<=s'/\s'<=B-1048576/\c8 i ts op s=some ((a':Int),s')/\au i ts m s a=(1,s',a'))
 | [],i,op,s,m,a,_,_,h1,h2,hr=>by
  have e:aZ []=0:=(by simp[aZ,ai]);rw[e]at h1 h2 hr;refine .inr ⟨s,by omega,by omega,?_⟩;rcases hr with ⟨ho,rfl⟩|⟨ho,rfl,rfl,h3,h4⟩;·exact .inl ⟨op,ho,rfl,a,rfl⟩
  ·exact .inr ⟨a,by omega,by omega,rfl,rfl⟩
 |t::ts,i,op,s,m,a,h,hne,h1,h2,hr=>by
  have hf:=h t (.head _);have hx:=hne t (.head _);have hp:=dc ts;have ha:=bu t.2;rw[cw]at h1 h2 hr;have hk1:1<=aF t.2:=(by have:=hf.2.1;unfold aF;omega);rw[c8,au,tJ hf.1];by_cases hc:1<(vals t.1).length
  ·rw[D3 (show(1:Int)<((vals t.1).length:Nat)by omega),D3 hc];rcases hr with ⟨ho,rfl⟩|⟨ho,rfl,rfl,h3,h4⟩
   ·rw[D2 (by omega)];exact fj hB ts (i+1) i s 1 i (λt ht=>h t (.tail _ ht)) (λt ht=>hne t (.tail _ ht)) (by omega) (by omega) (.inr ⟨by omega,rfl,rfl,by omega,by omega⟩)
   ·rw[D3 (by omega)];refine .inl ⟨rfl,?_⟩;have mono: ∀(ts:List (List (Int×Int)×Int)) (i m:Nat) (s:Int) (a:Nat),m<=(au i ts m s a).1:=by
     intro ts
     induction ts with
     |nil=>intro i m s a;exact DL _
     |cons t ts ih=>
      intro i m s a;rw[au];split;·exact E9 (Nat.le_succ m) (ih _ _ _ _)
      ·exact ih _ _ _ _
    exact mono ts (i+1) 2 s i
  ·rw[D2 (show¬(1:Int)<((vals t.1).length:Nat)by omega),D2 hc];obtain⟨v,e1,e2,b1,b2⟩:=xT hf.1 hx hc;have hm:=dW t.2 v b1 b2;have hck:=hf.2.2;have el:(endW t.1 t.2 false).1=t.2*v:=by
    rw[(sN hf.1 hx hf.2).1,e1];simp[cq,ax,aM]
   have er:wr (t.2*hd0 (vals t.1))=t.2*v:=by
    rw[e2];simp only[hd0,wr,List.getD_cons_zero];rw[ac (by omega) (by omega)]
   have es:wr (s+t.2*v)=s+t.2*v:=(by rw[wr,ac (by omega) (by omega)]);rw[el,er,es];exact fj hB ts (i+1) op (s+t.2*v) m a (λt ht=>h t (.tail _ ht)) (λt ht=>hne t (.tail _ ht)) (by omega) (by omega) (hr.imp id λ⟨q1,q2,q3,q4,q5⟩=>⟨q1,q2,q3,by omega,by omega⟩)
theorem z1 {d:aa}{v:Int}(h:v.toNat<d.length):d.set v.toNat (domAt d v)=d:=by
 refine F1 λi=> ?_;by_cases e:v.toNat=i;·subst e;rw[EJ h,ak h]
 ·rw[E4 e]
theorem dI {d:aa}{i:Nat}{x:List (Int×Int)}(hi:i<d.length)(hne: []∉d): []∈d.set i x↔x=[]:=by
 constructor
 ·intro h;rcases DV h with h|h;·exact DS h hne
  ·exact h.symm
 ·rintro rfl;exact G0.2 ⟨i,EJ hi⟩
theorem xO {α:Type}{l:List α}:0<l.length↔l≠[]:=by cases l<;>simp
theorem yU {x:List (Int×Int)}{k s rhs:Int}(hx:Fine x)(hk:CoefOk k)(h1: -4611686018426340352<=s/\s<=4611686018426340352)(h2: -9223372036853729280<=rhs-s/\rhs-s<=9223372036853729280):
  ((wr (rhs-s)).tmod k=0->dX x [(wr ((wr (rhs-s)).tdiv k),wr ((wr (rhs-s)).tdiv k))]=cX ((vals x).filter λv=>decide (wr (s+wr (k*v))≠rhs)))/\
  (¬(wr (rhs-s)).tmod k=0->cX ((vals x).filter λv=>decide (wr (s+wr (k*v))≠rhs))=x):=by
 have hck:=hk.2;have hmem: ∀w,w∈vals x->(wr (s+wr (k*w))=rhs↔k*w=rhs-s):=by
  intro w hw;have b:=hx.val w hw;have m:=dW k w b.1 b.2;simp only[wr];rw[ac (n:=k*w) (by omega) (by omega),ac (by omega) (by omega)];omega
 have er:wr (rhs-s)=rhs-s:=(by rw[wr,ac (by omega) (by omega)]);rw[er];have et:=Int.mul_tdiv_add_tmod (rhs-s) k;have hq: -9223372036853729280<=(rhs-s).tdiv k/\(rhs-s).tdiv k<=9223372036853729280:=by
  have:=H7 (rhs-s) k;omega
 have hu:=fD (p:=λw=>decide (wr (s+wr (k*w))≠rhs)) (aE hx.ok);constructor
 ·intro hz;rw[hz,Int.add_zero]at et;clear hz;generalize (rhs-s).tdiv k=q at*;have eq:wr q=q:=(by rw[wr,ac (by omega) (by omega)]);rw[eq];obtain⟨m1,m2⟩:=Az (x:=q) hx.ok (by omega);refine iE m1 (gg hu) (dD (aE m1) (aE (gg hu)) λv=> ?_);rw[m2,bI hu,ES];refine and_congr_right λhv=> ?_;rw[DM,ne_eq,ne_eq,hmem v hv,<-et];refine not_congr ⟨λe=>by rw[e],λe=>H8 hk.1 e⟩
 ·intro hz;have e:((vals x).filter λw=>decide (wr (s+wr (k*w))≠rhs))=vals x:=by
   refine H1.2 λw hw=> ?_;rw[DE];intro e;have e2:=(hmem w hw).1 e;rw[<-e2,Int.mul_tmod_right]at hz;exact hz Y
  rw[e,eI hx.ok]
theorem fH {d:aa}{c:Con}(h:bE c d)(hpos:0<c.vars.length):(if(otherW d c).2 then some (otherW d c).1 else none)=if []∈bT d c then none else some (bT d c):=by
 have hw:=cy (d:=d) h.fine.len;have hb:=h.big;have har:aF c.rhs=max c.rhs (-c.rhs):=rfl;have hin:=cN (ab d c.vars c.coefs) 0 0 0 0 c.vars.length hpos (by have:=h.fine.len;simp[ab];omega) (DL _);have key:=fj (B:=ai c.coefs) (by omega) (ab d c.vars c.coefs) 0 (-1) 0 0 0 (dh h.fine) (eT h) (by omega) (by omega) (.inl ⟨by omega,rfl⟩);unfold otherW bT;simp only;rcases key with ⟨e1,e2⟩|⟨s,hs1,hs2,⟨op,ho,e1,a,e2⟩|⟨a,hs3,hs4,e1,e2⟩⟩
 ·rw[e1,D3 e2,D2 h.ne];rfl
 ·rw[e1,e2];simp only[Eg,if_false,if_true,D3 ho];have hv:=h.fine.vin _ (aJ (c:=c) (k:=0) hpos);by_cases hs:s=c.rhs
  ·rw[D3 hs,D3 ((dI hv.2 h.ne).2 Y),DC (by simpa using hs)];rfl
  ·rw[D2 hs,D2 h.ne,DE hs];rfl
 ·rw[e1];rw[e2]at hin⊢;simp only[HG,if_false,Nat.one_ne_zero,Dz,D2 (show¬(a:Int)<0 by omega)];have hal:a<c.vars.length:=hin.1;have hac:a<c.coefs.length:=(by have:=h.fine.len;omega);have hv:=h.fine.vin _ (aJ (c:=c) (k:=a) hal);have hk:=h.fine.ck (coefAt c a) (by unfold coefAt;rw[aN hac];exact D8 _);have hx:=h.fine.dom _ (af hv.2);obtain⟨o1,o2⟩:=yU (s:=s) (rhs:=c.rhs) hx hk (by omega) (by omega);by_cases hz:(wr (c.rhs-s)).tmod (coefAt c a)=0
  ·rw[D3 hz];simp only[o1 hz];by_cases he:cX ((vals (domAt d (varAt c a))).filter λv=>decide (wr (s+wr (coefAt c a*v))≠c.rhs))=[]
   ·rw[D3 ((dI hv.2 h.ne).2 he),he];rfl
   ·rw[D2 (λhm=>he ((dI hv.2 h.ne).1 hm)),DE (xO.2 he)];rfl
  ·rw[D2 hz,o2 hz,z1 hv.2,D2 h.ne];have:0<(domAt d (varAt c a)).length:=xO.2 λe=>h.ne (e▸af hv.2);simp only;rw[DE this];rfl
theorem yS {x:List (Int×Int)}(h:Fine x)(p:Int->Bool):Fine (cX ((vals x).filter p)):=by
 have hu:=fD (p:=p) (aE h.ok);refine h.cut (gg hu) λv hv=> ?_;rw[bI hu]at hv;exact(ES.1 hv).1
theorem i9 {d:aa}{c:Con}(h:bE c d)(hpos:0<c.vars.length):(bT d c).length=d.length/\∀x∈bT d c,Fine x:=by
 have hin:=cN (ab d c.vars c.coefs) 0 0 0 0 c.vars.length hpos (by have:=h.fine.len;simp[ab];omega) (DL _);unfold bT;simp only;split;·exact⟨rfl,h.fine.dom⟩
 ·split
  ·split;·exact⟨by simp,iq h.fine.dom ⟨⟨by simp,.nil⟩,by simp[vals],by simp[vals]⟩⟩
   ·exact⟨rfl,h.fine.dom⟩
  ·exact⟨by simp,iq h.fine.dom (yS (h.fine.dom _ (af (h.fine.vin _ (aJ hin.1)).2)) _)⟩
theorem SumOk.whole {d:aa}{c:Con}(h:SumOk d c)(hne: []∉d):bE c d:=⟨h.fine,h.nod,hne,h.big⟩
theorem x4 {d:aa}{c:Con}(h:SumOk d c): ∃R N N',LinAns d c R N/\lV d c R N'/\∀out,R=some out->out.length=d.length/\[]∉out/\∀x∈out,Fine x:=by
 by_cases hne: []∈d;·exact⟨none,0,0,by rw[LinAns,D3 hne],by rw[lV,D3 hne],λout h=>by cases h⟩
 ·have hw:=h.whole hne;have hm:uy d c=M1 c d:=o4 hw;by_cases h2:c.op=2
  ·have hs:=fH hw h.pos;obtain⟨r1,r2⟩:=i9 hw h.pos;refine⟨if []∈bT d c then none else some (bT d c),0,0,by rw[LinAns,D2 hne,D3 h2,hs],by rw[lV,D2 hne,D3 h2],λout ho=> ?_⟩;split at ho;·cases ho
   ·rename_i hn;obtain rfl:=D4 ho;exact⟨r1,hn,r2⟩
  ·have hfin: ∀N R,cE (e5 c) N d=some R->∀out,R=some out->out.length=d.length/\[]∉out/\∀x∈out,Fine x:=by
    intro N R hR out ho;have hst: ∀x y,(bE c x/\x.length=d.length)->e5 c x= .inr y->bE c y/\y.length=d.length:=by
     rintro x y ⟨hx,hl⟩ hy;rw[di hx]at hy;obtain⟨f1,s1⟩:=ej hx;by_cases h1: []∈M1 c x;·rw[D3 h1]at hy;cases hy
     ·have hw1:bE c (M1 c x):=Whole.most hx h1;obtain⟨f2,s2⟩:=ej hw1.back;rw[D2 h1]at hy;split at hy;·cases hy
      ·split at hy;·cases hy
       ·rename_i h3;split at hy;·cases hy
        ·obtain rfl:=Sum.inr.inj hy;exact⟨hw1.unback (Whole.most hw1.back h3),s2.1.trans (s1.1.trans hl)⟩
    obtain⟨z,⟨hz,hzl⟩,hs⟩:=po (λx=>bE c x/\x.length=d.length) hst N d R ⟨hw,rfl⟩ hR;rw[di hz,ho]at hs;obtain⟨f1,s1⟩:=ej hz;by_cases h1: []∈M1 c z;·rw[D3 h1]at hs;cases hs
    ·have hw1:bE c (M1 c z):=Whole.most hz h1;obtain⟨f2,s2⟩:=ej hw1.back;rw[D2 h1]at hs;split at hs
     ·obtain rfl:=D4 (Sum.inl.inj hs);exact⟨s1.1.trans hzl,h1,f1⟩
     ·split at hs;·cases hs
      ·rename_i h3;split at hs
       ·obtain rfl:=D4 (Sum.inl.inj hs);exact⟨s2.1.trans (s1.1.trans hzl),h3,f2⟩
       ·cases hs
   obtain⟨N,R,hR⟩:=Cv hw;by_cases h0:c.op=0
   ·have hs:=di hw;have e:R=if []∈M1 c d then none else some (M1 c d):=by
     by_cases h1: []∈M1 c d
     ·rw[D3 h1]at hs⊢;exact(bf hR hs).symm
     ·rw[D2 h1,D3 h0]at hs;rw[D2 h1];exact(bf hR hs).symm
    refine⟨R,N,1,by rw[LinAns,D2 hne,D2 h2];exact hR,?_,hfin N R hR⟩;rw[lV,D2 hne,D2 h2,hm];have hd:=oo (c:=c) (d:=M1 c d) (λhn=>Whole.most hw hn);rw[D2 (λhh=>by have:=hh.1;omega)]at hd;simp only[cE,hd,e]
   ·have h1:c.op=1:=(by have:=h.op;omega);obtain⟨N',hN⟩:=uO h1 N d R hw hR;exact⟨R,N,N',by rw[LinAns,D2 hne,D2 h2];exact hR,by rw[lV,D2 hne,D2 h2,hm];exact hN,hfin N R hR⟩
structure ReifOk (d:aa)(c:Con):Prop where
 sum:SumOk d (bN c)
 sumN:SumOk d (bP (bN c))
 con:ConB (bN c)
 b:0<=c.b/\c.b.toNat<d.length
 truth:truthR (domAt d c.b)=true
 apart:c.b∉c.vars
theorem Cr {d:aa}{c:Con}(h:SumOk d c)(hw:ai c.coefs+aF c.rhs<=4611686018427387904):SumOk d (bP c):=by
 obtain⟨h1,h2,h3,h4,h5⟩:=h;obtain⟨kind,vars,coefs,op,rhs,rows,b⟩:=c;simp only at h1 h2 h3 h4 h5 hw;have hwp:=aT coefs;have ha: -aF rhs<=rhs/\rhs<=aF rhs:=(by unfold aF;omega);unfold bP;simp only;split
 ·have e1:wr (0-rhs)= -rhs:=(by rw[wr,ac (by omega) (by omega)];omega);have e2:wr (wr (0-rhs)-1)= -rhs-1:=(by rw[e1,wr,ac (by omega) (by omega)]);refine⟨h1.back,h2,h3,h4,?_⟩;simp only;rw[de _ h1.ck,e2];unfold aF at*;omega
 ·split;·exact⟨h1,h2,h3,⟨by show(0:Int)<=2;omega,by show(2:Int)<=2;omega⟩,h5⟩
  ·split;·exact⟨h1,h2,h3,⟨by show(0:Int)<=1;omega,by show(1:Int)<=2;omega⟩,h5⟩
   ·exact⟨h1,h2,h3,h4,h5⟩
theorem xN {d:aa}{c:Con}(hc:ConB c)(h:conR d c=0)(hk:c.kind=4)(hf: ∀x∈d,Fine x)(hdl:d.length*24<=140737488355328):ReifOk d c:=by
 obtain⟨hv,hr⟩:=pP hc h;obtain⟨h1,h2⟩:=mM (iH h);have hb:0<=c.b/\c.b.toNat<d.length:=by
  unfold conR at h;split at h;·cases h
  ·split at h;·cases h
   ·rename_i hu;exact(rV hc (by simpa using hu)).2 hk
 unfold rightR at hr;rw[D2 (by omega),D2 (by omega),D2 (by omega),D2 (by omega),D3 hk]at hr;simp only[sumR,opR,DH,DM,Ed,decide_eq_false_iff_not]at hr;obtain⟨⟨⟨⟨_,⟨⟨h4,h5⟩,h6⟩,h7⟩,h8⟩,h9⟩,h10⟩:=hr;have hs:SumOk d (bN c):=⟨⟨h6,hv.1,hv.2,λk hk=>⟨λe=>h7 (e▸hk),h1 k hk⟩,hf,hdl⟩,h4,h5,h8,by show ai c.coefs<=_/\aF c.rhs<=_;have:=bu c.rhs;have:=aT c.coefs;omega⟩;exact⟨hs,Cr hs h2,⟨hc.1,hc.2.1,by simp[bN],by simp[bN]⟩,hb,h9,h10⟩
set_option maxRecDepth 8000
def litB (d:aa)(p:Int×Int):Bool:=hasV (domAt d p.1) (dA p.2)
def qf (d:aa):Nat->List (Int×Int)->Int->Option Int
 |_,[],op=>some op
 |i,p::l,op=>if litB d p=false then qf d (i+1) l op else if 0<=op then none else qf d (i+1) l i
def n3 (d:aa)(c:Con)(r:Option Int):Option aa:=
 match r with
 |none=>some d
 |some op=>if op<0 then none else dB d (varAt c op.toNat) (dA (coefAt c op.toNat))
def jM (d:aa)(c:Con):Option aa:=if []∈d then none else n3 d c (qf d 0 (c.vars.zip c.coefs) (-1))
structure ClIn (d:aa)(c:Con):Prop where
 len:c.vars.length=c.coefs.length
 vl:c.vars.length*8<=140737488355328
 vin: ∀v∈c.vars,0<=v/\v.toNat<d.length
 dl:d.length*24<=140737488355328
 dom: ∀x∈d,(x.length+1)*16<=140737488355328
theorem sE (d:aa)(c:Con)(h:ClIn d c):Spec Tryz.prog 137 false [aH d,.agg (cC c)] (aX (jM d c)):=by
 refine Spec.body Tryz.func137 Y Y Y λw0 Z0=> ?_;obtain⟨hlen,hvl,hvin,hdl,hdom⟩:=h;have hown:=rp d hdl (λx hm=>by have:=hdom x hm;omega);unfold jM;refine .B ?_;refine .D hown ?_;by_cases hm: []∈d
 ·rw[D3 hm,D3 hm,DE hm];refine T.ct Y ?_;refine .B ?_;exact⟨_,.ownN Y (.v Y Y Y (λ_=>rfl) .nil)⟩
 ·rw[D2 hm,D2 hm,DC hm];refine T.cf Y ?_;generalize hres:qf d 0 (c.vars.zip c.coefs) (-1)=res;refine .B ?_;refine T.K (T.ind (λs:Nat×Int=>⟨[(3,.optr 0 0 0 0),(6,.ref 1),(8,.val true (.int .i64 s.2)),(19,.val false (ao c.vars)),(20,.val true (.int .i64 (c.vars.map cI).length)),(21,.val true (.int .i64 s.1))],[(0,some (.box false (cC c))),(1,some (.sl 54 1 true (d.map cD)))],2⟩)
   (λs=>s.1<=c.vars.length/\qf d s.1 ((c.vars.zip c.coefs).drop s.1) s.2=res/\s.2<s.1) (λs=>c.vars.length-s.1) (0,-1) ⟨by simp,hres,by decide⟩ (λ_ _ h=>h) ?_)
  rintro⟨i,op⟩ ⟨hil,he,hop⟩ ih;simp only at hil he hop;dsimp only;refine .B ?_;refine T.cd Y (λh1=> ?_) (λh1=> ?_)
  ·have h1:i<c.vars.length:=(by simpa using h1);have h2:i<c.coefs.length:=(by omega);have hv:=hvin _ (D8 h1);have hx:=hdom _ (af hv.2);have hrow:(d.map cD)[c.vars[i].toNat]? =some (cD (domAt d c.vars[i])):=(by simp[ak hv.2]);have hz:i<(c.vars.zip c.coefs).length:=(by simp;omega);rw[DP hz,Gq,qf]at he;have hhas:=gV (domAt d c.vars[i]) (dA c.coefs[i]) (by omega);have hlb:litB d (c.vars[i],c.coefs[i])=hasV (domAt d c.vars[i]) (dA c.coefs[i]):=rfl;rw[<-hlb]at hhas;generalize litB d (c.vars[i],c.coefs[i])=b at*;refine .B ?_;refine .F (r:=cI c.vars[i]) (aK h1) ?_;refine J.io Y Y Y Y Y Y Y Y Y hv.1 (by simpa using hv.2) Y ?_;refine J.lo Y Y Y Y Y Y (r:=cD (domAt d c.vars[i])) hrow Y ?_;refine .B ?_;refine .F (r:=cI c.coefs[i]) (aK h2) ?_;refine .C (uN c.coefs[i]) ?_;refine .D hhas ?_;cases b
   ·rw[D3 Y]at he;refine T.ct Y ?_;refine .B ?_;rw[aj (l:=c.vars.length) (by omega) (by omega)];exact T.K (ih (i+1,op) ⟨by simp only;omega,he,by simp only;omega⟩ (by simp only;omega))
   ·rw[D2 (by decide)]at he;refine T.cf Y ?_;refine .B ?_;refine T.cd Y (λh3=> ?_) (λh3=> ?_)
    ·have h3:0<=op:=h3;rw[D3 h3]at he;subst he;refine .B ?_;exact⟨_,.o Y Y Y (λ_=> .inl Y) (by simp) (.v rfl rfl rfl (λ_=>rfl) .nil)⟩
    ·have h3: ¬0<=op:=h3;rw[D2 h3]at he;refine .B ?_;rw[aj (l:=c.vars.length) (by omega) (by omega)];exact T.K (ih (i+1,i) ⟨by simp only;omega,he,by simp only;omega⟩ (by simp only;omega))
  ·have h1:i=c.vars.length:=(by simp at h1;omega);subst h1;rw[Et (by simp;omega),qf]at he;subst he;clear ih;unfold n3;dsimp only;refine .M ?_;refine T.rdm 15 Y (by kernel_rfl) Y ?_
   repeat' first|refine J.e Y Y Y Y ?_|refine J.skip Y Y Y ?_|refine J.bx Y Y Y Y Y Y ?_
   refine J.g Y Y Y (λh3=> ?_) (λh3=> ?_)
   ·have h3:op<0:=h3;rw[D3 h3];refine .B ?_;refine T.ct Y ?_;refine .B ?_;exact⟨_,.ownN Y (.v Y Y Y (λ_=>rfl) .nil)⟩
   ·have h3: ¬op<0:=h3;rw[D2 h3];have hj:op.toNat<c.vars.length:=(by omega);have hj2:op.toNat<c.coefs.length:=(by omega);have hv:=hvin _ (aJ hj);have hx:=hdom _ (af hv.2);have hk:=mC d (varAt c op.toNat) (dA (coefAt c op.toNat)) hv hx;unfold dB
    repeat' first|refine J.e Y Y Y Y ?_|refine J.skip Y Y Y ?_|refine J.bx Y Y Y Y Y Y ?_
    refine J.i Y Y Y Y Y Y Y Y Y (r:=cI (varAt c op.toNat)) (by omega) (eF hj) Y ?_
    repeat' first|refine J.e Y Y Y Y ?_|refine J.skip Y Y Y ?_|refine J.bx Y Y Y Y Y Y ?_
    refine J.i Y Y Y Y Y Y Y Y Y (r:=cI (coefAt c op.toNat)) (by omega) (iK hj2) Y ?_
    repeat' first|refine J.e Y Y Y Y ?_|refine J.skip Y Y Y ?_|refine J.bx Y Y Y Y Y Y ?_
    refine .C (uN (coefAt c op.toNat)) ?_;refine J.nil ?_;refine J.cm Y Y Y Y Y Y Y Y Y hk Y Y Y ?_;refine .B ?_;by_cases hk:domCut (domAt d (varAt c op.toNat)) (dA (coefAt c op.toNat)) (dA (coefAt c op.toNat))=[]
    ·rw[D3 hk,DE hk];refine T.ct Y ?_;refine .B ?_;exact⟨_,.ownN Y (.v Y Y Y (λ_=>rfl) .nil)⟩
    ·rw[D2 hk,DC hk];refine T.cf Y ?_;refine .B ?_;exact⟨_,.o Y Y Y (λ_=> .inl Y) (by simp) (.v rfl rfl rfl (λ_=>rfl) .nil)⟩
def Supp (a:List Int)(d:aa):Prop:=a.length=d.length/\∀(i:Nat) x v,d[i]? =some x->a[i]? =some v->v∈vals x
theorem Supp.at {a:List Int}{d:aa}(h:Supp a d){v:Int}(h0:0<=v)(hl:v.toNat<d.length):atR a v∈vals (domAt d v):=by
 have ha:v.toNat<a.length:=(by have:=h.1;omega);refine h.2 v.toNat _ _ (ak hl) ?_;unfold atR;rw[D2 (by omega),D0,D1 ha];rfl
theorem Supp.ne {a:List Int}{d:aa}(h:Supp a d): []∉d:=by
 intro hm;obtain⟨i,hi⟩:=G0.1 hm;have hl:=(D5.1 hi).1;have:=h.2 i [] _ hi (D1 (by have:=h.1;omega));simp[vals]at this
def bG (vars coefs a:List Int):Int:=((vars.zip coefs).map λp=>p.2*atR a p.1).sum
theorem sA {x:List (Int×Int)}(h:ay x){v k:Int}(hv:v∈vals x):cq x k<=k*v/\k*v<=fQ x k:=by
 have h1:=ph h hv;have h2:=nT h hv;unfold cq fQ;by_cases hk:0<k
 ·rw[D3 hk,D3 hk];exact⟨EX h1 (by omega),EX h2 (by omega)⟩
 ·rw[D2 hk,D2 hk];exact⟨Fi (by omega) h2,Fi (by omega) h1⟩
theorem eH {α:Type}{f g:α->Int}: ∀{l:List α},(∀p∈l,f p<=g p)->(l.map f).sum<=(l.map g).sum/\∀p∈l,g p-f p<=(l.map g).sum-(l.map f).sum
 | [],_=>by simp
 |p::l,h=>by
  obtain⟨h1,h2⟩:=eH (l:=l) λq hq=>h q (.tail _ hq);have h0:=h p (.head _);simp only[DZ,Ej];refine⟨by omega,λq hq=> ?_⟩;rcases DQ.1 hq with rfl|hq;·omega
  ·have:=h2 q hq;omega
theorem eV (d:aa)(vars coefs:List Int):bi (ab d vars coefs)=((vars.zip coefs).map λp=>cq (domAt d p.1) p.2).sum:=by
 unfold bi ab;rw[FH];rfl
theorem rk (d:aa)(vars coefs:List Int):fP (ab d vars coefs)=((vars.zip coefs).map λp=>fQ (domAt d p.1) p.2).sum:=by
 unfold fP ab;rw[FH];rfl
theorem t8 {d:aa}{vars coefs a:List Int}(h:SumFine d vars coefs)(hs:Supp a d):
  bi (ab d vars coefs)<=bG vars coefs a/\bG vars coefs a<=fP (ab d vars coefs)/\∀p∈vars.zip coefs,p.2*atR a p.1-cq (domAt d p.1) p.2<=bG vars coefs a-bi (ab d vars coefs):=by
 have hmem: ∀p∈vars.zip coefs,cq (domAt d p.1) p.2<=p.2*atR a p.1/\p.2*atR a p.1<=fQ (domAt d p.1) p.2:=λp hp=>by
  have hv:=h.vin _ (E8 hp).1;exact sA (h.dom _ (af hv.2)).ok (hs.at hv.1 hv.2)
 rw[eV,rk];obtain⟨h1,h2⟩:=eH (f:=λp:Int×Int=>cq (domAt d p.1) p.2) (g:=λp=>p.2*atR a p.1) λp hp=>(hmem p hp).1;obtain⟨h3,_⟩:=eH (f:=λp:Int×Int=>p.2*atR a p.1) (g:=λp=>fQ (domAt d p.1) p.2) λp hp=>(hmem p hp).2;exact⟨h1,h3,h2⟩
theorem ld {vars coefs a:List Int}(h: ∀k∈coefs,CoefOk k):bG vars (az coefs) a= -bG vars coefs a:=by
 unfold bG az
 induction vars generalizing coefs with
 |nil=>simp
 |cons v vars ih=>
  cases coefs with
  |nil=>simp
  |cons k coefs=>
   have e:=(cZ (h k (.head _))).1;have:=ih λk hk=>h k (.tail _ hk);simp only[DZ,FA,Ej]at this⊢;rw[this,e,Gd];omega
theorem yk {d:aa}{vars coefs a:List Int}{rhs:Int}(h:Whole d vars coefs rhs)(hs:Supp a d)(hle:bG vars coefs a<=rhs):Supp a (MO d vars coefs rhs):=by
 obtain⟨ha,hl⟩:=iF h;obtain⟨_,_,hp3⟩:=t8 h.fine hs;refine⟨by rw[MO,kn];exact hs.1,λi x v hx hv=> ?_⟩;by_cases he: ∃p∈iG d vars coefs rhs,p.1.toNat=i
 ·obtain⟨p,hp,rfl⟩:=he;rw[show MO d vars coefs rhs=bU (iG d vars coefs rhs) d from Y,dJ ha hl p hp]at hx;obtain rfl:=D4 hx;obtain⟨q,hq,rfl⟩:=DD.1 hp;have hvq:=h.fine.vin _ (E8 hq).1;have hat:=hs.at hvq.1 hvq.2;have e:atR a q.1=v:=by
   unfold atR;rw[D2 (by omega),D0,hv];rfl
  refine((fT h hq _).2 v).2 ⟨e▸hat,?_⟩;have:=hp3 q hq;rw[e]at this;omega
 ·rw[show MO d vars coefs rhs=bU (iG d vars coefs rhs) d from Y,cQ _ _ _ λp hp e=>he ⟨p,hp,e⟩]at hx;exact hs.2 i x v hx hv
def iz (c:Con)(a:List Int):Bool:=du c.op (bG c.vars c.coefs a) c.rhs
theorem rg {c:Con}{a:List Int}(hop:c.op=0∨c.op=1)(hh:iz c a=true): ∀(N:Nat) (p:aa) (R:Option aa),bE c p->Supp a p->cE (e5 c) N p=some R->∃out,R=some out/\Supp a out
 |0,p,R,_,_,h=>by cases h
 |n+1,p,R,hw,hs,h=>by
  have hle:bG c.vars c.coefs a<=c.rhs:=by
   unfold iz du at hh;rcases hop with h0|h1;·rw[D3 h0]at hh;exact EZ hh
   ·rw[D2 (by omega),h1]at hh;simp at hh;omega
  have hst:=di hw;have s1:Supp a (M1 c p):=yk hw hs hle;rw[D2 s1.ne]at hst;by_cases h0:c.op=0
  ·rw[D3 h0]at hst;obtain rfl:=bf h hst;exact⟨_,rfl,s1⟩
  ·rw[D2 h0]at hst;have h1:c.op=1:=(by omega);have hw1:bE c (M1 c p):=Whole.most hw s1.ne;have heq:bG c.vars c.coefs a=c.rhs:=by
    unfold iz du at hh;rw[D2 h0,h1]at hh;simpa using hh
   have hb:=hw.big;have hp:=aT c.coefs;have s2:Supp a (M2 c (M1 c p)):=yk hw1.back s1 (by rw[ld hw.fine.ck,(n4 (by omega)).1];omega);rw[D2 s2.ne]at hst;by_cases h3:M1 c p=p/\M2 c (M1 c p)=M1 c p
   ·rw[D3 h3]at hst;obtain rfl:=bf h hst;exact⟨_,rfl,s2⟩
   ·rw[D2 h3]at hst;simp only[cE,hst]at h;exact rg (.inr h1) hh n _ R (hw1.unback (Whole.most hw1.back s2.ne)) s2 h
def xy (ts:List ((List (Int×Int)×Int)×Int)):Prop:= ∀t∈ts,t.2∈vals t.1.1
theorem e9 {B:Int}(hB:B<=4611686018427388928): ∀(ts:List ((List (Int×Int)×Int)×Int)) (i m:Nat) (s:Int) (a:Nat),gr (ts.map (·.1))->xy ts->-B<=s-aZ (ts.map (·.1))->s+aZ (ts.map (·.1))<=B->
  ((au i (ts.map (·.1)) m s a).1=m->(au i (ts.map (·.1)) m s a).2.1=s+(ts.map λt=>t.1.2*t.2).sum/\(au i (ts.map (·.1)) m s a).2.2=a)/\
  m<=(au i (ts.map (·.1)) m s a).1/\
  ((au i (ts.map (·.1)) m s a).1=m+1->∃j t,(au i (ts.map (·.1)) m s a).2.2=i+j/\ts[j]? =some t/\(au i (ts.map (·.1)) m s a).2.1+t.1.2*t.2=s+(ts.map λt=>t.1.2*t.2).sum)
 | [],i,m,s,a,_,_,_,_=>by simp[au]
 |t::ts,i,m,s,a,h,hv,h1,h2=>by
  have hf:=h t.1 (.head _);have hvt:=hv t (.head _);have hp:=dc (ts.map (·.1));have ha:=bu t.1.2;have hx:t.1.1≠[]:=λe=>(by rw[e]at hvt;simp[vals]at hvt);simp only[DZ]at h1 h2⊢;rw[cw]at h1 h2;rw[au];simp only[Ej];by_cases hc:1<(vals t.1.1).length
  ·rw[D3 hc];obtain⟨i1,i2,i3⟩:=e9 hB ts (i+1) (m+1) s i (λt ht=>h t (.tail _ ht)) (λt ht=>hv t (.tail _ ht)) (by omega) (by omega);refine⟨λe=>by omega,by omega,λe=> ?_⟩;obtain⟨j1,j2⟩:=i1 e;exact⟨0,t,by rw[j2];rfl,rfl,by rw[j1];omega⟩
  ·rw[D2 hc];obtain⟨v,e1,e2,b1,b2⟩:=xT hf.1 hx hc;have hm:=dW t.1.2 v b1 b2;have hck:=hf.2.2;have ev:t.2=v:=(by rw[e2]at hvt;simpa using hvt);have er:wr (t.1.2*hd0 (vals t.1.1))=t.1.2*v:=by
    rw[e2];simp only[hd0,wr,List.getD_cons_zero];rw[ac (by omega) (by omega)]
   have es:wr (s+t.1.2*v)=s+t.1.2*v:=(by rw[wr,ac (by omega) (by omega)]);rw[er,es,ev];obtain⟨i1,i2,i3⟩:=e9 hB ts (i+1) m (s+t.1.2*v) a (λt ht=>h t (.tail _ ht)) (λt ht=>hv t (.tail _ ht)) (by omega) (by omega);refine⟨λe=> ?_,i2,λe=> ?_⟩
   ·obtain⟨j1,j2⟩:=i1 e;exact⟨by rw[j1];omega,j2⟩
   ·obtain⟨j,u,j1,j2,j3⟩:=i3 e;exact⟨j+1,u,by rw[j1];omega,by simpa using j2,by rw[j3];omega⟩
theorem m7 {d:aa}{c:Con}{a:List Int}(h:bE c d)(hpos:0<c.vars.length)(hs:Supp a d)(hne:bG c.vars c.coefs a≠c.rhs):Supp a (bT d c):=by
 have hw:=cy (d:=d) h.fine.len;have hb:=h.big;have har:aF c.rhs=max c.rhs (-c.rhs):=rfl;let ts:List ((List (Int×Int)×Int)×Int):=(c.vars.zip c.coefs).map λp=>((domAt d p.1,p.2),atR a p.1);have et:ts.map (·.1)=ab d c.vars c.coefs:=(by simp only[ts,FH];rfl);have eS:(ts.map λt=>t.1.2*t.2).sum=bG c.vars c.coefs a:=(by simp only[ts,FH];rfl);have hv:xy ts:=by
  intro t ht;obtain⟨p,hp,rfl⟩:=DD.1 ht;have:=h.fine.vin _ (E8 hp).1;exact hs.at this.1 this.2
 have key:=e9 (B:=ai c.coefs) (by omega) ts 0 0 0 0 (by rw[et];exact dh h.fine) hv (by rw[et];omega) (by rw[et];omega);rw[et,eS]at key;have hin:=cN (ab d c.vars c.coefs) 0 0 0 0 c.vars.length hpos (by have:=h.fine.len;simp[ab];omega) (DL _);have hsame:=fj (B:=ai c.coefs) (by omega) (ab d c.vars c.coefs) 0 (-1) 0 0 0 (dh h.fine) (eT h) (by omega) (by omega) (.inl ⟨by omega,rfl⟩);obtain⟨k1,_,k3⟩:=key;unfold bT;simp only;by_cases hm1:1<(au 0 (ab d c.vars c.coefs) 0 0 0).1;·rw[D3 hm1];exact hs
 ·rw[D2 hm1];by_cases hm0:(au 0 (ab d c.vars c.coefs) 0 0 0).1=0
  ·rw[D3 hm0];have:=(k1 hm0).1;rw[D2 (λe=>hne (by rw[this,GR]at e;exact e))];exact hs
  ·rw[D2 hm0];obtain⟨j,t,j1,j2,j3⟩:=k3 (by omega);rw[F9]at j1;have hj:j<c.vars.length:=(by rw[<-j1];exact hin.1);have hjc:j<c.coefs.length:=(by have:=h.fine.len;omega);have ht:t=((domAt d (varAt c j),coefAt c j),atR a (varAt c j)):=by
    have hz:j<(c.vars.zip c.coefs).length:=(by simp;omega);simp only[ts,DG,D1 hz,ER,D6]at j2;rw[<-j2,show varAt c j=c.vars[j]from aN hj,show coefAt c j=c.coefs[j]from aN hjc];simp
   rw[j1];have hv:=h.fine.vin _ (aJ hj);have hx:=h.fine.dom _ (af hv.2);have hk:=h.fine.ck (coefAt c j) (by unfold coefAt;rw[aN hjc];exact D8 _);have hat:=hs.at hv.1 hv.2;rw[ht]at j3;simp only at j3;have hs': -(ai c.coefs-1048576)<=(au 0 (ab d c.vars c.coefs) 0 0 0).2.1/\(au 0 (ab d c.vars c.coefs) 0 0 0).2.1<=ai c.coefs-1048576:=by
    rcases hsame with ⟨_,e⟩|⟨s',_,_,⟨_,_,_,a',e⟩|⟨a',b1,b2,_,e⟩⟩;·omega
    ·rw[e]at hm0;exact DS Y hm0
    ·rw[e];exact⟨b1,b2⟩
   generalize (au 0 (ab d c.vars c.coefs) 0 0 0).2.1=s at*;have b:=hx.val _ hat;have m:=dW (coefAt c j) _ b.1 b.2;have hck:=hk.2;have hu:=fD (p:=λv=>decide (wr (s+wr (coefAt c j*v))≠c.rhs)) (aE hx.ok);refine⟨by rw[EL];exact hs.1,λi x v hxi hvi=> ?_⟩;by_cases e:(varAt c j).toNat=i
   ·subst e;rw[EJ hv.2]at hxi;obtain rfl:=D4 hxi;have ev:atR a (varAt c j)=v:=by
     unfold atR;rw[D2 (by omega),D0,hvi];rfl
    rw[ev]at hat j3 m;rw[bI hu,ES];refine⟨hat,?_⟩;rw[DM];rw[GR]at j3;clear k1 k3 hsame hin hm1 hm0 j1 j2 ht;simp only[wr];rw[ac (n:=coefAt c j*v) (by omega) (by omega),ac (by omega) (by omega),j3];exact hne
   ·rw[E4 e]at hxi;exact hs.2 i x v hxi hvi
theorem zc {d:aa}{c:Con}{a:List Int}(h:SumOk d c)(hs:Supp a d)(hh:iz c a=true){R:Option aa}{N:Nat}(hR:LinAns d c R N): ∃out,R=some out/\Supp a out:=by
 have hw:=h.whole hs.ne;unfold LinAns at hR;rw[D2 hs.ne]at hR;by_cases h2:c.op=2
 ·rw[D3 h2,fH hw h.pos]at hR;have hne:bG c.vars c.coefs a≠c.rhs:=by
   unfold iz du at hh;rw[D2 (by omega),h2]at hh;simpa using hh
  have:=m7 hw h.pos hs hne;rw[D2 this.ne]at hR;exact⟨_,hR,this⟩
 ·rw[D2 h2]at hR;exact rg (by have:=h.op;omega) hh N d R hw hs hR
theorem ou {d:aa}{c:Con}{a:List Int}(h:SumFine d c.vars c.coefs)(hw:ai c.coefs<=4611686018427388928)(hop:0<=c.op/\c.op<=2)(hs:Supp a d)(hso:soW (endsW d c.vars c.coefs) c=true):iz c a=true:=by
 have hne: ∀t∈ab d c.vars c.coefs,t.1≠[]:=by
  intro t ht e;obtain⟨p,hp,rfl⟩:=DD.1 ht;have:=af (h.vin _ (E8 hp).1).2;simp only at e;rw[e]at this;exact hs.ne this
 have ht:=cy (d:=d) h.len;have hk:=aT c.coefs;obtain⟨p1,p2,_⟩:=t8 h hs;unfold endsW at hso;rw[jL 0 0 (dh h) hne (by omega) (by omega) (by omega) (by omega)]at hso;unfold soW at hso;simp only[GZ,if_false,GR]at hso;unfold iz du;by_cases h0:c.op=0
 ·rw[D3 h0]at hso⊢;exact DE (by have:=EZ hso;omega)
 ·rw[D2 h0]at hso⊢;by_cases h1:c.op=1
  ·rw[D3 h1]at hso;simp only[DH,DM]at hso;rw[DE h1,DE (by omega)];rfl
  ·rw[D2 h1]at hso;simp only[FB,DM]at hso;rw[DC h1,DC (by omega)];rfl
theorem y3 {d:aa}{c:Con}{a:List Int}(h:SumOk d c)(hs:Supp a d)(hso:soW (endsW d (bP c).vars (bP c).coefs) (bP c)=true):iz c a=false:=by
 have hb:=h.big;have hr:aF c.rhs=max c.rhs (-c.rhs):=rfl;have hk:=aT c.coefs;have hn:SumFine d (bP c).vars (bP c).coefs/\ai (bP c).coefs<=4611686018427388928/\0<=(bP c).op/\(bP c).op<=2:=by
  have e:ai c.coefs<=4611686018427388928:=(by omega);have ho:=h.op;unfold bP;split;·exact⟨h.fine.back,by simp only;rw[de _ h.fine.ck];exact e,ho⟩
  ·split;·exact⟨h.fine,e,by simp,by simp⟩
   ·split;·exact⟨h.fine,e,by simp,by simp⟩
    ·exact⟨h.fine,e,ho⟩
 have hh:=ou hn.1 hn.2.1 hn.2.2 hs hso;unfold iz du at hh⊢;unfold bP at hh;have ho:=h.op;by_cases h0:c.op=0
 ·rw[D3 h0]at hh;simp only[D3 h0]at hh;rw[D3 h0];rw[ld h.fine.ck]at hh;have e:wr (wr (0-c.rhs)-1)= -c.rhs-1:=by
   rw[(n4 (by omega)).1,wr,ac (by omega) (by omega)]
  rw[e]at hh;exact DC (by have:=EZ hh;omega)
 ·rw[D2 h0]at hh⊢;by_cases h1:c.op=1
  ·rw[D3 h1]at hh;rw[D2 (by simp)]at hh;simp at hh;rw[DE h1,DC hh];rfl
  ·have h2:c.op=2:=(by omega);rw[D2 h1,D3 h2]at hh;rw[D2 (by simp)]at hh;simp at hh;rw[DC h1,DE hh];rfl
def clF (d:aa)(l:List (Int×Int)):Option aa:=
 match l with
 | []=>none
 | [p]=>dB d p.1 (dA p.2)
 |_::_::_=>some d
theorem sX (d:aa)(c:Con)(hl:c.vars.length=c.coefs.length): ∀(l:List (Int×Int)) (i:Nat) (op:Int),l=(c.vars.zip c.coefs).drop i->(0<=op->op.toNat<c.vars.length)->
  n3 d c (qf d i l op)=if op<0 then clF d (l.filter (litB d))else(match l.filter (litB d)with| []=>dB d (varAt c op.toNat) (dA (coefAt c op.toNat))|_::_=>some d)
 | [],i,op,h,ho=>by
  rw[qf,n3];by_cases h1:op<0;·rw[D3 h1,D3 h1];rfl
  ·rw[D2 h1,D2 h1];rfl
 |p::l,i,op,h,ho=>by
  have hi:i<(c.vars.zip c.coefs).length:=by
   have:=congrArg List.length h;simp at this;simp;omega
  have hd:=DP hi;rw[<-h]at hd;injection hd with hp hl';have hiv:i<c.vars.length:=(by simp at hi;omega);have hic:i<c.coefs.length:=(by omega);have hpe:p=(varAt c i,coefAt c i):=by
   rw[hp,Gq];simp[varAt,coefAt,hiv,hic]
  rw[qf];by_cases hb:litB d p=true
  ·rw[D2 (by simp[hb]),FS hb];by_cases h1:op<0
   ·rw[D2 (by omega),D3 h1,sX d c hl l (i+1) i hl' (λ_=>by simpa using hiv),D2 (by omega)];cases hf:l.filter (litB d)with
    |nil=>simp[clF,hpe]
    |cons q m=>simp[clF]
   ·rw[D3 (by omega),D2 h1];rfl
  ·have hb:litB d p=false:=(by simpa using hb);rw[D3 hb,Fk (by simp[hb]),sX d c hl l (i+1) op hl' ho]
theorem xl {d:aa}{c:Con}(hl:c.vars.length=c.coefs.length):jM d c=if []∈d then none else clF d ((c.vars.zip c.coefs).filter (litB d)):=by
 unfold jM;rw[sX d c hl (c.vars.zip c.coefs) 0 (-1) Y (by omega),D3 (by decide:(-1:Int)<0)]
structure ClOk (d:aa)(c:Con):Prop where
 len:c.vars.length=c.coefs.length
 nod:c.vars.Nodup
 pos:0<c.vars.length
 vl:c.vars.length*8<=140737488355328
 vin: ∀v∈c.vars,0<=v/\v.toNat<d.length
 unit: ∀k∈c.coefs,k=1∨k= -1
 truth: ∀v∈c.vars,truthR (domAt d v)=true
theorem C9:dA 1=1:=by decide +kernel
theorem C8:dA (-1)=0:=by decide +kernel
theorem rM {d:aa}{c:Con}(hc:ConB c)(h:conR d c=0)(hk:c.kind=5):ClOk d c:=by
 obtain⟨hv,hr⟩:=pP hc h;unfold rightR at hr;rw[D2 (by omega),D2 (by omega),D2 (by omega),D2 (by omega),D2 (by omega),D3 hk]at hr;simp only[sumR,DH,DM,Ed,decide_eq_false_iff_not]at hr;obtain⟨⟨_,⟨⟨h4,h5⟩,h6⟩,h7⟩,h8⟩:=hr;have hu: ∀i,i<c.vars.length->truthR (domAt d (varAt c i))=true/\(coefAt c i=1∨coefAt c i= -1):=by
  intro i hi;have:=DJ.1 h8 i (DO.2 hi);simpa[gy]using this
 refine⟨h6,h4,h5,hv.1,hv.2,λk hk=> ?_,λv hv=> ?_⟩
 ·obtain⟨i,hi,rfl⟩:=FK hk;have:=(hu i (by omega)).2;simpa[coefAt,hi]using this
 ·obtain⟨i,hi,rfl⟩:=FK hv;have:=(hu i hi).1;simpa[varAt,hi]using this
theorem BX {d:aa}{c:Con}(h:ClOk d c)(hdl:d.length*24<=140737488355328)(hx: ∀x∈d,(x.length+1)*16<=140737488355328):ClIn d c:=⟨h.len,h.vl,h.vin,hdl,hx⟩
theorem fE {d:aa}{v w:Int}{x:List (Int×Int)}(hv:v.toNat<d.length):domAt (d.set v.toNat x) w=if v.toNat=w.toNat then x else domAt d w:=by
 unfold domAt;rw[D0,D0,Em];by_cases h:v.toNat=w.toNat;·rw[D3 h,D3 h,D3 hv];rfl
 ·rw[D2 h,D2 h]
theorem ms {D:aa}: ∀{n:Nat} {t:List Int},t∈bj D n↔t.length=n/\∀k,k<n->t.getD k 0∈vals (D.getD k [])
 |0,t=>by simp[bj]
 |n+1,t=>by
  simp only[bj,FR,DD];constructor
  ·rintro⟨a,ha,v,hv,rfl⟩;obtain⟨hl,h⟩:=ms.1 ha;refine⟨by simp[hl],λk hk=> ?_⟩;by_cases e:k=n
   ·subst e;subst hl;simp only[D0];rw[EC (DL _)];simpa using hv
   ·have:=h k (by omega);simp only[D0]at this⊢;rw[EK (by omega)];exact this
  ·rintro⟨hl,h⟩;refine⟨t.take n,ms.2 ⟨by simp;omega,λk hk=> ?_⟩,t.getD n 0,h n (by omega),?_⟩
   ·have:=h k (by omega);simp only[D0]at this⊢;rw[Ew,D3 hk];exact this
   ·have e:t=t.take n++[t[n]]:=by
     rw[<-DB (by omega),DU (by omega)]
    rw[D0,D1 (by omega)];exact e.symm
theorem mr {us:List Int}(h:us.Nodup){k:Nat}(hk:k<us.length):us.idxOf us[k]=k:=by
 have h1:us.idxOf us[k]<us.length:=FO.2 (D8 hk);have h2:=Fy h1;exact(Fp h).1 h2
theorem u9 {d:aa}{us:List Int}(h:us.Nodup){t:List Int}:t∈bj (us.map (domAt d)) us.length↔∃f:Int->Int,t=us.map f/\∀v∈us,f v∈vals (domAt d v):=by
 rw[ms];have hD: ∀k (hk:k<us.length),(us.map (domAt d)).getD k []=domAt d us[k]:=λk hk=>by
  rw[D0,DG,D1 hk];rfl
 constructor
 ·rintro⟨hl,hk⟩;refine⟨λv=>t.getD (us.idxOf v) 0,?_,λv hv=> ?_⟩
  ·apply Fq (by simp[hl]);intro k h1 h2;have h3:k<us.length:=(by simpa using h2);rw[Fr,mr h h3,D0,D1 h1];rfl
  ·obtain⟨k,hk2,rfl⟩:=FK hv;have:=hk k hk2;rw[hD k hk2]at this;simp only[mr h hk2];exact this
 ·rintro⟨f,rfl,hf⟩;refine⟨by simp,λk hk=> ?_⟩;rw[hD k hk,D0,DG,D1 hk];exact hf _ (D8 hk)
theorem iA {α:Type}(f:Int->α): ∀(us:List Int) (a:List α) (i:Nat),(∀u∈us,0<=u)->(us.foldl (λa u=>a.set u.toNat (f u)) a)[i]? =if(i:Int)∈us/\i<a.length then some (f i)else a[i]?
 | [],a,i,_=>by simp
 |u::us,a,i,h=>by
  rw[DX,iA f us _ i λv hv=>h v (.tail _ hv)];have hu:=h u (.head _);simp only[EL,DQ];by_cases h1:(i:Int)∈us/\i<a.length;·rw[D3 h1,D3 ⟨.inr h1.1,h1.2⟩]
  ·rw[D2 h1,Em];by_cases e:u.toNat=i
   ·have e2:(i:Int)=u:=(by omega);rw[D3 e];by_cases hl:i<a.length;·rw[D3 (by omega),D3 ⟨.inl e2,hl⟩,e2]
    ·rw[D2 (by omega),D2 (λh=>hl h.2),EQ (by omega)]
   ·rw[D2 e,D2];rintro⟨h2|h2,h3⟩;·omega
    ·exact h1 ⟨h2,h3⟩
theorem lX {β γ:Type}(g:Int->β)(st:γ->Int×β->γ): ∀(us:List Int) (a:γ),(us.zip (us.map g)).foldl st a=us.foldl (λa u=>st a (u,g u)) a
 | [],_=>rfl
 |u::us,a=>by rw[DZ,FA,DX,DX,lX g st us]
theorem lQ {n:Nat}{us:List Int}(f:Int->Int)(h0: ∀u∈us,0<=u/\u.toNat<n){v:Int}(hv:v∈us):atR (eC n us (us.map f) us.length) v=f v:=by
 have hl:=zp n us (us.map f) us.length;have h1:=h0 v hv;have e:eC n us (us.map f) us.length=us.foldl (λa u=>a.set u.toNat (f u)) (List.replicate n 0):=by
  unfold eC;rw[DU (by simp),lX (γ:=List Int) f]
 unfold atR;rw[D2 (by omega),D0,e,iA f us _ _ (λu hu=>(h0 u hu).1),FW h1.1,D3 ⟨hv,by simpa using h1.2⟩];rfl
def pX (d:aa)(us:List Int)(P:List Int->Bool)(v x:Int):Prop:= ∃f:Int->Int,(∀u∈us,f u∈vals (domAt d u))/\P (us.map f)=true/\f v=x
theorem k9 {d:aa}{us:List Int}{P:List Int->Bool}(hn:us.Nodup)(h0: ∀u∈us,0<=u/\u.toNat<d.length)(i:Nat):
  ((i:Int)∉us->(putsW d us (fN P us.length (bj (us.map (domAt d)) us.length)) us.length)[i]? =d[i]?)/\
  ((i:Int)∈us->∃y,(putsW d us (fN P us.length (bj (us.map (domAt d)) us.length)) us.length)[i]? =some y/\ay y/\∀x,x∈vals y↔pX d us P i x):=by
 let G:Int->List Int:=λv=>((bj (us.map (domAt d)) us.length).filter P).map (·.getD (us.idxOf v) 0);have hG: ∀v∈us,∀x,x∈G v↔pX d us P v x:=by
  intro v hv x;have hk:us.idxOf v<us.length:=FO.2 hv;have hf: ∀f:Int->Int,(us.map f).getD (us.idxOf v) 0=f v:=λf=>by
   rw[D0,DG,D1 hk,Fy];rfl
  simp only[G,DD,ES];constructor
  ·rintro⟨t,⟨ht,hp⟩,rfl⟩;obtain⟨f,rfl,h⟩:=(u9 hn).1 ht;exact⟨f,h,hp,(hf f).symm⟩
  ·rintro⟨f,h,hp,rfl⟩;exact⟨us.map f,⟨(u9 hn).2 ⟨f,rfl,h⟩,hp⟩,hf f⟩
 have hks:fN P us.length (bj (us.map (domAt d)) us.length)=us.map G:=by
  apply Fq (by simp[fN]);intro k h1 h2;have h3:k<us.length:=(by simpa using h2);simp only[fN,Fr,List.getElem_range,G,mr hn h3]
 have e:putsW d us (fN P us.length (bj (us.map (domAt d)) us.length)) us.length=us.foldl (λa u=>a.set u.toNat (cX (aW (G u)))) d:=by
  rw[hks];unfold putsW;rw[DU (by simp),lX (γ:=aa) G]
 rw[e,iA (λu=>cX (aW (G u))) us d i λu hu=>(h0 u hu).1];constructor;·intro h;rw[D2 λh2=>h h2.1]
 ·intro h;have:=h0 _ h;rw[D3 ⟨h,by simpa using this.2⟩];refine⟨_,rfl,gg (b9 _),λx=> ?_⟩;rw[bI (b9 _),bJ];exact hG _ h x
theorem nV {d out:aa}{us:List Int}{P:List Int->Bool}(hn:us.Nodup)(h0: ∀u∈us,0<=u/\u.toNat<d.length)(hl:out.length=d.length)(hok: ∀x∈out,ay x)
  (h1: ∀v∈us,∀x,x∈vals (domAt out v)↔pX d us P v x) (h2: ∀i:Nat,(i:Int)∉us->out[i]? =d[i]?):putsW d us (fN P us.length (bj (us.map (domAt d)) us.length)) us.length=out:=by
 apply F1;intro i;obtain⟨h3,h4⟩:=k9 (P:=P) hn h0 i;by_cases hi:(i:Int)∈us
 ·obtain⟨y,hy,hd,hx⟩:=h4 hi;have hlt:=(h0 _ hi).2;have ho:out[i]? =some (domAt out i):=by
   have:=ak (d:=out) (v:=(i:Int)) (by omega);simpa using this
  rw[hy,ho];congr 1;refine iE hd (hok _ (D7 ho)) (dD (aE hd) (aE (hok _ (D7 ho))) λx=> ?_);rw[hx x,h1 _ hi x]
 ·rw[h3 hi,h2 i hi]
theorem CR {n:Nat}{us:List Int}{P:List Int->Bool}(hn:us.Nodup)(h0: ∀u∈us,0<=u/\u.toNat<n)(hne:us≠[]):SuppS n us P λd=>lG d us P:=by
 refine⟨λd out hd he=> ?_,λd hd he g hg=> ?_,h0,hne⟩
 ·have h0d: ∀u∈us,0<=u/\u.toNat<d.length:=(by rw[hd.len];exact h0);have hat:=k9 (d:=d) (P:=P) hn h0d;have hl:=yO d us (fN P us.length (bj (us.map (domAt d)) us.length)) us.length;simp only[lG,D2 hd.some',mU]at he;generalize putsW d us (fN P us.length (bj (us.map (domAt d)) us.length)) us.length=o at*;split at he;·cases he
  ·rename_i hno;obtain rfl:=D4 he;have hfx: ∀x∈o,Fine x/\(vals x).length<=4096:=λx hx=>by
    obtain⟨i,hi⟩:=DI hx;obtain⟨h1,h2⟩:=hat i;by_cases hiu:(i:Int)∈us
    ·obtain⟨y,hy,hok,hv⟩:=h2 hiu;rw[hi]at hy;obtain rfl:=D4 hy;obtain⟨k1,k2,k3⟩:=hd.few.at (i:Int);have hsub: ∀v∈vals x,v∈vals (domAt d i):=λv hm=>by
      obtain⟨f,h3,_,rfl⟩:=(hv v).1 hm;exact h3 _ hiu
     have hlen:=bV (aE hok) hsub;exact⟨⟨hok,λv hm=>k3 v (hsub v hm),by omega⟩,by omega⟩
    ·rw[h1 hiu]at hi;exact⟨hd.few.fine x (D7 hi),hd.few.few x (D7 hi)⟩
   refine⟨⟨⟨by rw[hl];exact hd.few.small,λx hx=>(hfx x hx).1,λx hx=>(hfx x hx).2⟩,by rw[hl,hd.len],hno⟩,λv hv x=> ?_,λv hv0 hv=> ?_⟩
   ·have hv0:=h0 v hv;have e:((v.toNat:Nat):Int)=v:=(by omega);obtain⟨y,hy,hok,hx⟩:=(hat v.toNat).2 (by rw[e];exact hv);rw[e]at hx;have:domAt o v=y:=by
     unfold domAt;rw[D0,hy];rfl
    rw[this];exact hx x
   ·have e:((v.toNat:Nat):Int)=v:=(by omega);have:=(hat v.toNat).1 (by rw[e];exact hv);unfold domAt;rw[D0,D0,this]
 ·have h0d: ∀u∈us,0<=u/\u.toNat<d.length:=(by rw[hd.len];exact h0);have hat:=k9 (d:=d) (P:=P) hn h0d;simp only[lG,D2 hd.some',mU]at he;generalize putsW d us (fN P us.length (bj (us.map (domAt d)) us.length)) us.length=o at*;split at he
  ·rename_i hm;obtain⟨i,hi⟩:=DI hm;obtain⟨h1,h2⟩:=hat i;by_cases hiu:(i:Int)∈us
   ·obtain⟨y,hy,hok,hx⟩:=h2 hiu;rw[hi]at hy;obtain rfl:=D4 hy;cases hp:P (us.map g)with
    |false=>rfl
    |true=>
     have:=(hx (g i)).2 ⟨g,hg,hp,rfl⟩;cases this
   ·rw[h1 hiu]at hi;exact DS (D7 hi) hd.some'
  ·cases he
theorem pq {α β:Type}{f:α->β ⊕ α}: ∀{n m:Nat} {x:α} {r s:β},cE f n x=some r->cE f m x=some s->r=s
 |0,_,_,_,_,h,_=>by cases h
 |_+1,0,_,_,_,_,h=>by cases h
 |n+1,m+1,x,r,s,h1,h2=>by
  simp only[cE]at h1 h2;cases h:f x with
  |inl b=>rw[h]at h1 h2;simp only[D6]at h1 h2;rw[<-h1,h2]
  |inr y=>rw[h]at h1 h2;exact pq h1 h2
theorem x3 {d:aa}{c:Con}{R S:Option aa}{N M:Nat}(h1:LinAns d c R N)(h2:LinAns d c S M):R=S:=by
 unfold LinAns at h1 h2;split at h1;·rename_i h;rw[D3 h]at h2;rw[h1,h2]
 ·rename_i h;rw[D2 h]at h2;split at h1;·rename_i h3;rw[D3 h3]at h2;rw[h1,h2]
  ·rename_i h3;rw[D2 h3]at h2;exact pq h1 h2
theorem rh {α β:Type}{f:α->β ⊕ α}{I:α->Prop}{P:β->Prop}(h1: ∀x y,I x->f x= .inr y->I y)(h2: ∀x r,I x->f x= .inl r->P r): ∀{n:Nat} {x:α} {r:β},I x->cE f n x=some r->P r
 |0,_,_,_,h=>by cases h
 |n+1,x,r,hi,h=>by
  simp only[cE]at h;cases hf:f x with
  |inl b=>rw[hf]at h;simp only[D6]at h;exact h▸h2 x b hi hf
  |inr y=>rw[hf]at h;exact rh h1 h2 (h1 x y hi hf) h
theorem kO {d:aa}{i:Nat}{x:List (Int×Int)}(h: ∀y,d[i]? =some y->∀v∈vals x,v∈vals y):Sub (d.set i x) d:=by
 refine⟨by simp,λj y z hy hz v hv=> ?_⟩;rw[Em]at hy;split at hy
 ·rename_i e;subst e;split at hy;·cases hy;exact h z hz v hv
  ·cases hy
 ·rw[hz]at hy;cases hy;exact hv
theorem xZ {d:aa}{c:Con}{out:aa}{N:Nat}(h:SumOk d c)(hR:LinAns d c (some out) N):Sub out d:=by
 unfold LinAns at hR;split at hR;·cases hR
 ·rename_i hne;have hw:=h.whole hne;split at hR
  ·rename_i h2;rw[fH hw h.pos]at hR;split at hR;·cases hR
   ·cases hR;have hin:=cN (ab d c.vars c.coefs) 0 0 0 0 c.vars.length h.pos (by have:=h.fine.len;simp[ab];omega) (DL _);unfold bT;simp only;split;·exact Sub.refl d
    ·split
     ·split;·exact kO λy _ v hv=>by simp[vals]at hv
      ·exact Sub.refl d
     ·refine kO λy hy v hv=> ?_;have hvv:=h.fine.vin _ (aJ hin.1);rw[ak hvv.2]at hy;obtain rfl:=D4 hy;have hf:=h.fine.dom _ (af hvv.2);rw[bI (fD (aE hf.ok))]at hv;exact(ES.1 hv).1
  ·refine rh (f:=e5 c) (I:=λx=>bE c x/\Sub x d) (P:=λr=> ∀o,r=some o->Sub o d) ?_ ?_ ⟨hw,Sub.refl d⟩ hR out Y
   ·rintro x y ⟨hx,hs⟩ hy;rw[di hx]at hy;obtain⟨f1,s1⟩:=ej hx;split at hy;·cases hy
    ·rename_i h1;have hw1:bE c (M1 c x):=Whole.most hx h1;obtain⟨f2,s2⟩:=ej hw1.back;split at hy;·cases hy
     ·split at hy;·cases hy
      ·rename_i h3;split at hy;·cases hy
       ·obtain rfl:=Sum.inr.inj hy;exact⟨hw1.unback (Whole.most hw1.back h3),Sub.trans s2 (Sub.trans s1 hs)⟩
   ·rintro x r ⟨hx,hs⟩ hy o rfl;rw[di hx]at hy;obtain⟨f1,s1⟩:=ej hx;split at hy;·cases hy
    ·rename_i h1;have hw1:bE c (M1 c x):=Whole.most hx h1;obtain⟨f2,s2⟩:=ej hw1.back;split at hy
     ·obtain rfl:=D4 (Sum.inl.inj hy);exact Sub.trans s1 hs
     ·split at hy;·cases hy
      ·split at hy
       ·obtain rfl:=D4 (Sum.inl.inj hy);exact Sub.trans s2 (Sub.trans s1 hs)
       ·cases hy
theorem g9 {d:aa}(hf: ∀x∈d,Fine x)(hne: []∉d){i:Nat}{x:List (Int×Int)}{v:Int}(hx:d[i]? =some x)(hv:v∈vals x): ∃a,Supp a d/\a[i]? =some v:=by
 have hi:=(D5.1 hx).1;refine⟨(d.map λy=>(vals y).headD 0).set i v,⟨by simp,λj y w hy hw=> ?_⟩,by simp[hi]⟩;rw[Em]at hw;split at hw
 ·rename_i e;subst e;rw[hx]at hy;cases hy;split at hw;·cases hw;exact hv
  ·cases hw
 ·rw[DG,hy]at hw;simp only[ER,D6]at hw;subst hw;have hm:=D7 hy;cases h2:vals y with
  |nil=>exact DS ((e6 (hf y hm).ok).1 h2▸hm) hne
  |cons z l=>simp
theorem AE {d:aa}{c:Con}{R:Option aa}{N:Nat}(h:SumOk d c)(hne: []∉d)(hR:LinAns d c R N)(hfin: ∀out,R=some out->out.length=d.length/\[]∉out/\∀x∈out,Fine x)(hso:soW (endsW d c.vars c.coefs) c=true):R=some d:=by
 have hb:=h.big;have ha:=bu c.rhs;have key: ∀a,Supp a d->∃out,R=some out/\Supp a out:=λa hs=>zc h hs (ou h.fine (by omega) h.op hs hso) hR;cases R with
 |none=>
  exfalso;cases hd:d with
  |nil=>
   have:=h.fine.vin;have hp:=h.pos;obtain⟨v,hv⟩:=Gu hp;have:=(this v hv).2;rw[hd]at this;simp at this
  |cons x l=>
   have hxm:x∈d:=(by rw[hd];exact .head _);cases h2:vals x with
   |nil=>exact hne ((e6 (h.fine.dom x hxm).ok).1 h2▸hxm)
   |cons z m=>
    obtain⟨a,hs,_⟩:=g9 h.fine.dom hne (i:=0) (x:=x) (v:=z) (by rw[hd];rfl) (by rw[h2];exact .head _);obtain⟨out,ho,_⟩:=key a hs;cases ho
 |some out=>
  obtain⟨h1,h2,h3⟩:=hfin out Y;have hsub:=xZ h hR;congr 1;refine Sub.antisymm hsub ⟨h1.symm,λi x y hx hy v hv=> ?_⟩ h3 h.fine.dom;obtain⟨a,hs,hai⟩:=g9 h.fine.dom hne hx hv;obtain⟨out',ho,hs2⟩:=key a hs;cases ho;exact hs2.2 i y v hy hai
theorem pG {d:aa}{vars coefs:List Int}{rhs:Int}(h:Whole d vars coefs rhs):endsW d vars coefs=(bi (ab d vars coefs),fP (ab d vars coefs),true):=by
 have hb:=h.big;have ha:=bu rhs;have hwt:=cy (d:=d) h.fine.len;have:=jL 0 0 (dh h.fine) (eT h) (by omega) (by omega) (by omega) (by omega);unfold endsW;rw[this];simp
theorem o7 {d:aa}{vars coefs:List Int}(h: ∀k∈coefs,CoefOk k):bi (ab d vars (az coefs))= -fP (ab d vars coefs):=by
 rw[eV,rk];unfold az
 induction vars generalizing coefs with
 |nil=>simp
 |cons v vars ih=>
  cases coefs with
  |nil=>simp
  |cons k coefs=>
   have hk:=h k (.head _);have e:=(cZ hk).1;have ih:=ih λk hk=>h k (.tail _ hk);simp only[DZ,FA,Ej,e];have e2:cq (domAt d v) (-k)= -fQ (domAt d v) k:=by
    have hk0:=hk.1;unfold cq fQ;by_cases h0:0<k;·rw[D2 (by omega),D3 h0,Gd]
    ·rw[D3 (by omega),D2 h0,Gd]
   rw[e2,ih];omega
theorem jQ: ∀(ts:List (List (Int×Int)×Int)) (i m a:Nat) (s:Int),(∀t∈ts,¬1<(vals t.1).length)->(au i ts m s a).1=m
 | [],i,m,a,s,_=>by simp[au]
 |t::ts,i,m,a,s,h=>by
  rw[au,D2 (h t (.head _))];exact jQ ts _ _ _ _ λt ht=>h t (.tail _ ht)
theorem yz {d:aa}(hf: ∀x∈d,Fine x)(hne: []∉d)(hl:0<d.length): ∃a,Supp a d:=by
 cases h2:vals d[0]with
 |nil=>exact DS ((e6 (hf d[0] (D8 hl)).ok).1 h2▸D8 hl) hne
 |cons z m=>
  obtain⟨a,ha,_⟩:=g9 hf hne (i:=0) (x:=d[0]) (v:=z) (D1 hl) (by rw[h2];exact .head _);exact⟨a,ha⟩
theorem not_not {c:Con}(hck: ∀k∈c.coefs,CoefOk k)(hop:0<=c.op/\c.op<=2)(hr:aF c.rhs<=4611686018427388928):bP (bP c)=c:=by
 obtain⟨kind,vars,coefs,op,rhs,rows,b⟩:=c;simp only at hck hop hr;have har:aF rhs=max rhs (-rhs):=rfl;have:op=0∨op=1∨op=2:=(by omega);rcases this with rfl|rfl|rfl
 ·have e1:wr (0-rhs)= -rhs:=(by rw[wr,ac (by omega) (by omega)];omega);have e2:wr (wr (0-rhs)-1)= -rhs-1:=(by rw[e1,wr,ac (by omega) (by omega)]);have e3:wr (wr (0-(-rhs-1))-1)=rhs:=by
   rw[show wr (0-(-rhs-1))=rhs+1 by rw[wr,ac (by omega) (by omega)];omega,wr,ac (by omega) (by omega)];omega
  have e4:az (az coefs)=coefs:=by
   unfold az;rw[FH];refine(EV λk hk=> ?_).trans (List.map_id _);obtain⟨h1,h2⟩:=cZ (hck k hk);have h3:=(cZ h2).1;simp only[Function.comp];rw[h3,h1];simp
  simp only[bP,if_true,e2,e3,e4]
 ·simp[bP]
 ·simp[bP]
theorem xW {x:List (Int×Int)}(h:ay x)(hne:x≠[])(k:Int): ∃v∈vals x,cq x k=k*v:=by
 unfold cq;by_cases hk:0<k;·rw[D3 hk];exact⟨_,fC h hne,rfl⟩
 ·rw[D2 hk];exact⟨_,pj h hne,rfl⟩
theorem qU {x y:List (Int×Int)}(hx:ay x)(hy:ay y)(hne:x≠[])(hs: ∀v∈vals x,v∈vals y)(k:Int):cq y k<=cq x k:=by
 obtain⟨v,hv,e⟩:=xW hx hne k;rw[e];exact(sA hy (hs v hv)).1
structure SumC (n:Nat)(vars coefs:List Int)(rhs:Int):Prop where
 vl:vars.length=coefs.length
 vin: ∀v∈vars,0<=v/\v.toNat<n
 ck: ∀k∈coefs,CoefOk k
 nod:vars.Nodup
 big:ai coefs<=4611686018427388928/\aF rhs<=4611686018427388928
 few:vars.length*24<=140737488355328
theorem SumC.whole {n:Nat}{vars coefs:List Int}{rhs:Int}(h:SumC n vars coefs rhs){d:aa}(hd:GoodD n d):Whole d vars coefs rhs:=
 ⟨⟨h.vl,by have:=h.few;omega,λv hv=>by rw[hd.len];exact h.vin v hv,h.ck,hd.few.fine,hd.few.small⟩,h.nod,hd.some',h.big⟩
theorem th {d:aa}{vars coefs:List Int}{rhs:Int}(h:Whole d vars coefs rhs){p:Int×Int}(hp:p∈vars.zip coefs):domAt (MO d vars coefs rhs) p.1=dP d (bi (ab d vars coefs)) rhs p:=by
 obtain⟨ha,hl⟩:=iF h;have hm:(p.1,dP d (bi (ab d vars coefs)) rhs p)∈iG d vars coefs rhs:=DD.2 ⟨p,hp,rfl⟩;have e:=dJ ha hl _ hm;unfold domAt;rw[D0,show MO d vars coefs rhs=bU (iG d vars coefs rhs) d from Y,e];rfl
theorem td {d:aa}{vars coefs:List Int}{rhs:Int}(h:Whole d vars coefs rhs){v:Int}(h0:0<=v)(hv:v∉vars):domAt (MO d vars coefs rhs) v=domAt d v:=by
 have e:(MO d vars coefs rhs)[v.toNat]? =d[v.toNat]? :=cQ _ _ _ λp hp e=>by
  obtain⟨q,hq,rfl⟩:=DD.1 hp;have hq1:=(E8 hq).1;have:=(h.fine.vin _ hq1).1;have e:q.1.toNat=v.toNat:=e;exact hv ((show q.1=v by omega)▸hq1)
 unfold domAt;rw[D0,D0,e]
theorem kK {vars coefs:List Int}(hl:vars.length=coefs.length){v:Int}(hv:v∈vars): ∃p∈vars.zip coefs,p.1=v:=by
 obtain⟨i,hi,rfl⟩:=FK hv;exact⟨(vars[i],coefs[i]'(by omega)),Fj.2 ⟨i,by simp;omega,by simp⟩,rfl⟩
theorem B3 {n:Nat}{a b:aa}{vars coefs:List Int}{rhs:Int}(hc:SumC n vars coefs rhs)(ga:GoodD n a)(gb:GoodD n b)(h:leD a b):leD (MO a vars coefs rhs) (MO b vars coefs rhs):=by
 have wa:=hc.whole ga;have wb:=hc.whole gb;have hlow:=eH (f:=λp=>cq (domAt b p.1) p.2) (g:=λp=>cq (domAt a p.1) p.2) (l:=vars.zip coefs) λp hp=>by
  have hv:=hc.vin _ (E8 hp).1;have hm:domAt a p.1∈a:=af (by rw[ga.len];exact hv.2);exact qU (ga.few.fine _ hm).ok (gb.few.fine _ (af (by rw[gb.len];exact hv.2))).ok (λe=>ga.some' (e▸hm)) (λx hx=>h.2 p.1 x hv.1 hx) p.2
 rw[<-eV,<-eV]at hlow;refine⟨by rw[(ej wa).2.1,(ej wb).2.1,ga.len,gb.len],λv x h0 hx=> ?_⟩;by_cases hv:v∈vars
 ·obtain⟨p,hp,rfl⟩:=kK hc.vl hv;rw[th wa hp]at hx;rw[th wb hp];obtain⟨h1,h2⟩:=((fT wa hp _).2 x).1 hx;refine((fT wb hp _).2 x).2 ⟨h.2 _ x h0 h1,?_⟩;have:=hlow.2 p hp;omega
 ·rw[td wa h0 hv]at hx;rw[td wb h0 hv];exact h.2 v x h0 hx
def kQ (vars coefs:List Int)(rhs:Int)(d:aa):Option aa:=if []∈MO d vars coefs rhs then none else some (MO d vars coefs rhs)
theorem te {n:Nat}{d:aa}{vars coefs:List Int}{rhs:Int}(hc:SumC n vars coefs rhs)(hd:GoodD n d)(hne: []∉MO d vars coefs rhs):GoodD n (MO d vars coefs rhs)/\leD (MO d vars coefs rhs) d:=by
 obtain⟨h1,h2⟩:=ej (hc.whole hd);have hle:leD (MO d vars coefs rhs) d:=by
  refine⟨h2.1,λv x h0 hx=> ?_⟩;by_cases hl:v.toNat<d.length
  ·have hl2:v.toNat<(MO d vars coefs rhs).length:=(by rw[h2.1];exact hl);exact h2.2 v.toNat _ _ (ak hl2) (ak hl) x hx
  ·unfold domAt at hx;rw[D0,EQ (by rw[h2.1];omega)]at hx;cases hx
 refine⟨⟨⟨by rw[h2.1];exact hd.few.small,h1,λx hx=> ?_⟩,by rw[h2.1,hd.len],hne⟩,hle⟩;obtain⟨j,hj⟩:=DI hx;have hjl:=(D5.1 hj).1;have hjd:j<d.length:=(by rw[<-h2.1];exact hjl);have hsub: ∀v∈vals x,v∈vals d[j]:=λv hv=>h2.2 j x d[j] hj (D1 hjd) v hv;have:=bV (aE (h1 x hx).ok) hsub;have:=hd.few.few _ (D8 hjd);omega
theorem mY {n:Nat}{vars coefs:List Int}{rhs:Int}(hc:SumC n vars coefs rhs):Takes leD (GoodD n) (kQ vars coefs rhs):=by
 refine⟨λa a' ga he=> ?_,λa a' b ga gb hle he=> ?_⟩
 ·unfold kQ at he;split at he;·cases he
  ·rename_i hne;obtain rfl:=D4 he;exact te hc ga hne
 ·unfold kQ at he⊢;split at he;·cases he
  ·rename_i hne;obtain rfl:=D4 he;have hm:=B3 hc ga gb hle;obtain⟨g1,_⟩:=te hc ga hne;rw[D2];·exact⟨_,rfl,hm⟩
   ·intro hem;obtain⟨j,hj⟩:=DI hem;have hjl:=(D5.1 hj).1;have hjn:j<n:=(by rw[(ej (hc.whole gb)).2.1,gb.len]at hjl;exact hjl);obtain⟨x,hx⟩:=g1.ne (v:=(j:Int)) (by simpa using hjn);have:=hm.2 j x (by omega) hx;unfold domAt at this;rw[D0,Dz,hj]at this;cases this
def pM (c:Con)(b:Bool)(d:aa):Option aa:=if b=true then kQ c.vars c.coefs c.rhs d else kQ c.vars (az c.coefs) (wr (0-c.rhs)) d
theorem nw {n:Nat}{c:Con}(h1:SumC n c.vars c.coefs c.rhs)(h2:SumC n c.vars (az c.coefs) (wr (0-c.rhs)))(b:Bool):Takes leD (GoodD n) (pM c b):=by
 cases b with
 |true=>exact mY h1
 |false=>exact mY h2
theorem zd {n:Nat}{c:Con}(h1:SumC n c.vars c.coefs c.rhs)(h2:SumC n c.vars (az c.coefs) (wr (0-c.rhs)))(hop:c.op=1)(d0:aa): ∀(N:Nat) (d:aa) (R:Option aa),Come leD (GoodD n) (pM c) [true,false] d0 d->cE (e5 c) N d=some R->ep leD (GoodD n) (pM c) [true,false] d0 R:=by
 intro N
 induction N using Nat.strongRecOn with
 |_ N ih=>
  intro d R hd hR;have hw:bE c d:=h1.whole hd.fine;have hst:=di hw;have t1:=nw h1 h2 true;have t2:=nw h1 h2 false;by_cases e1: []∈M1 c d
  ·rw[D3 e1]at hst;obtain rfl:=bf hR hst;exact hd.none (c:=true) (by simp) t1 (D3 e1)
  ·rw[D2 e1,D2 (by omega)]at hst;have f1:pM c true d=some (M1 c d):=D2 e1;have hd1:=hd.step (aY n) (c:=true) (by simp) t1 f1;by_cases e2: []∈M2 c (M1 c d)
   ·rw[D3 e2]at hst;obtain rfl:=bf hR hst;exact hd1.none (c:=false) (by simp) t2 (D3 e2)
   ·rw[D2 e2]at hst;have f2:pM c false (M1 c d)=some (M2 c (M1 c d)):=D2 e2;have hd2:=hd1.step (aY n) (c:=false) (by simp) t2 f2;by_cases e3:M1 c d=d/\M2 c (M1 c d)=M1 c d
    ·rw[D3 e3]at hst;obtain rfl:=bf hR hst;refine⟨hd2,λb hb=> ?_⟩;have e:M2 c (M1 c d)=d:=e3.2.trans e3.1;rw[e];cases b with
     |true=>rw[f1,e3.1]
     |false=>rw[e3.1]at f2;rw[f2,<-e3.1];rw[e3.1]at e;rw[e3.1,e]
    ·rw[D2 e3]at hst;obtain⟨m,hm,hR2⟩:=gP hR hst;exact ih m hm _ R hd2 hR2
theorem BD {n:Nat}{c:Con}(h1:SumC n c.vars c.coefs c.rhs)(hop:c.op=0){d:aa}(hd:GoodD n d){N:Nat}{R:Option aa}(hR:cE (e5 c) N d=some R):R=pM c true d:=by
 have hst:=di (h1.whole hd:bE c d);by_cases e1: []∈M1 c d
 ·rw[D3 e1]at hst;obtain rfl:=bf hR hst;exact(D3 e1).symm
 ·rw[D2 e1,D3 hop]at hst;obtain rfl:=bf hR hst;exact(D2 e1).symm
structure StepOK (n:Nat)(us:List Int)(P:(Int->Int)->Prop)(f:aa->Option aa):Prop where
 takes:Takes leD (GoodD n) f
 stays: ∀a b,GoodD n a->GoodD n b->f a=some a->(∀u∈us,domAt a u=domAt b u)->f b=some b
 off: ∀a out,GoodD n a->f a=some out->∀v,0<=v->v∉us->domAt out v=domAt a v
 point: ∀e,GoodD n e->∀g:Int->Int,(∀u∈us,vals (domAt e u)=[g u])->(f e=some e↔P g)
 in': ∀u∈us,0<=u/\u.toNat<n
theorem SuppS.step {n:Nat}{us:List Int}{P:List Int->Bool}{f:aa->Option aa}(h:SuppS n us P f):StepOK n us (λg=>P (us.map g)=true) f:=by
 refine⟨h.takes,λa b ga gb ha hab=>h.stays ga gb ha hab,λa out ga he=>(h.ok a out ga he).2.2,λe ge g he=> ?_,h.in'⟩;rw[h.point ge g he];by_cases hp:P (us.map g)=true;·simp[hp]
 ·simp[hp]
theorem StepOK.iff {n:Nat}{us:List Int}{P Q:(Int->Int)->Prop}{f:aa->Option aa}(h:StepOK n us P f)(hq: ∀g,P g↔Q g):StepOK n us Q f:=
 ⟨h.takes,h.stays,h.off,λe ge g he=>(h.point e ge g he).trans (hq g),h.in'⟩
theorem StepOK.wide {n:Nat}{us vs:List Int}{P:(Int->Int)->Prop}{f:aa->Option aa}(h:StepOK n us P f)(hs: ∀u∈us,u∈vs)(hv: ∀u∈vs,0<=u/\u.toNat<n):StepOK n vs P f:=
 ⟨h.takes,λa b ga gb ha hab=>h.stays a b ga gb ha λu hu=>hab u (hs u hu),λa out ga he v h0 hv=>h.off a out ga he v h0 λhm=>hv (hs v hm),λe ge g he=>h.point e ge g λu hu=>he u (hs u hu),hv⟩
theorem StepOK.congr {n:Nat}{us:List Int}{P:(Int->Int)->Prop}{f f':aa->Option aa}(h:StepOK n us P f)(he: ∀d,GoodD n d->f' d=f d):StepOK n us P f':=by
 refine⟨⟨λa a' ga e=>h.takes.less a a' ga (by rw[<-he a ga];exact e),λa a' b ga gb hle e=> ?_⟩,λa b ga gb ha hab=> ?_,λa out ga e=>h.off a out ga (by rw[<-he a ga];exact e),λe ge g hg=>by rw[he e ge];exact h.point e ge g hg,h.in'⟩;·rw[he a ga]at e;rw[he b gb];exact h.takes.mono a a' b ga gb hle e
 ·rw[he a ga]at ha;rw[he b gb];exact h.stays a b ga gb ha hab
def su (us:List Int)(a b:aa):aa:=(List.range a.length).map λj:Nat=>if(j:Int)∈us then domAt a (j:Int)else domAt b (j:Int)
theorem Cu {us:List Int}{a b:aa}{v:Int}(h0:0<=v)(hl:v.toNat<a.length):domAt (su us a b) v=if v∈us then domAt a v else domAt b v:=by
 have e:((v.toNat:Nat):Int)=v:=(by omega);unfold domAt su;rw[D0,DG,F4 hl];simp only[ER,Ee,e,domAt]
theorem fS {a:aa}{v:Int}(hl:a.length<=v.toNat):domAt a v=[]:=by
 unfold domAt;rw[D0,EQ hl];rfl
theorem Ay {n:Nat}{us:List Int}{a b:aa}(ga:GoodD n a)(gb:GoodD n b):GoodD n (su us a b):=by
 have hl:(su us a b).length=a.length:=(by simp[su]);have hm: ∀x∈su us a b,x∈a∨x∈b:=by
  intro x hx;obtain⟨j,hj,rfl⟩:=DD.1 hx;have hj:=DO.1 hj;split;·exact .inl (af (by simpa using hj))
  ·exact .inr (af (by rw[gb.len,<-ga.len];simpa using hj))
 refine⟨⟨by rw[hl];exact ga.few.small,λx hx=> ?_,λx hx=> ?_⟩,by rw[hl,ga.len],λhx=> ?_⟩;·exact(hm x hx).elim (ga.few.fine x) (gb.few.fine x)
 ·exact(hm x hx).elim (ga.few.few x) (gb.few.few x)
 ·exact(hm _ hx).elim ga.some' gb.some'
theorem ep.step {γ:Type}{n:Nat}{us:List Int}{l:List γ}{f:γ->aa->Option aa}{F:aa->Option aa}{P:γ->(Int->Int)->Prop}(h: ∀d,GoodD n d->ep leD (GoodD n) f l d (F d))(hs: ∀c∈l,StepOK n us (P c) (f c))(hin: ∀u∈us,0<=u/\u.toNat<n):StepOK n us (λg=> ∀c∈l,P c g) F:=by
 have O:=aY n;have loc: ∀a b,GoodD n a->GoodD n b->eE f l a->(∀u∈us,domAt a u=domAt b u)->eE f l b:=λa b ga gb ha hab c hc=>(hs c hc).stays a b ga gb (ha c hc) hab;refine⟨ep.takes O h,λa b ga gb ha hab=>(ep.fix O h gb).2 (loc a b ga gb ((ep.fix O h ga).1 ha) hab),λa out ga he v h0 hv=> ?_,λe ge g he=> ?_,hin⟩
 ·have hE:=h a ga;rw[he]at hE;obtain⟨hc,hst⟩:=hE;by_cases hl:v.toNat<n
  ·have gm:=Ay (us:=us) hc.fine ga;have hlo:out.length=a.length:=hc.less.1;have hat: ∀u:Int,0<=u->domAt (su us out a) u=if u∈us then domAt out u else domAt a u:=λu hu0=>by
    by_cases hul:u.toNat<out.length;·exact Cu hu0 hul
    ·rw[fS (by rw[gm.len];rw[hc.fine.len]at hul;omega),fS (by omega),fS (by omega),ite_self]
   have hst2:eE f l (su us out a):=by
    refine loc out _ hc.fine gm hst λu hu=> ?_;rw[hat u (hin u hu).1,D3 hu]
   have hle:leD (su us out a) a:=⟨by rw[gm.len,ga.len],λu x hu0 hx=>by
    rw[hat u hu0]at hx;split at hx;·exact hc.less.2 u x hu0 hx
    ·exact hx⟩
   have hk:=hc.keep _ gm hle hst2;have f1:=(hc.fine.few.fine _ (af (by rw[hc.fine.len];exact hl))).ok;have f2:=(ga.few.fine _ (af (by rw[ga.len];exact hl))).ok;refine iE f1 f2 (dD (aE f1) (aE f2) λx=>⟨hc.less.2 v x h0,λhx=>hk.2 v x h0 ?_⟩);rw[hat v h0,D2 hv];exact hx
  ·rw[fS (by rw[hc.fine.len];omega),fS (by rw[ga.len];omega)]
 ·rw[ep.fix O h ge];exact⟨λhh c hc=>((hs c hc).point e ge g he).1 (hh c hc),λhh c hc=>((hs c hc).point e ge g he).2 (hh c hc)⟩
def dz (vars coefs:List Int)(g:Int->Int):Int:=((vars.zip coefs).map λp=>p.2*g p.1).sum
def yA (coefs l:List Int):Int:=((l.zip coefs).map λp=>p.2*p.1).sum
theorem dS: ∀(vars coefs:List Int) (g:Int->Int),yA coefs (vars.map g)=dz vars coefs g
 | [],_,_=>by simp[yA,dz]
 |_::_,[],_=>by simp[yA,dz]
 |v::vars,k::coefs,g=>by
  have:=dS vars coefs g;simp only[yA,dz,DZ,FA,Ej]at this⊢;rw[this]
theorem r4 {α:Type}{f f':α->Int}{q:α}: ∀{l:List α},l.Nodup->q∈l->(∀p∈l,p≠q->f' p=f p)->(l.map f').sum=(l.map f).sum-f q+f' q
 |p::l,hn,hq,h=>by
  have h1:=EN.1 hn;simp only[DZ,Ej];rcases DQ.1 hq with rfl|hq
  ·have:l.map f'=l.map f:=EV λr hr=>h r (.tail _ hr) λe=>h1.1 (e▸hr);rw[this];omega
  ·have:=r4 (f:=f) (f':=f') h1.2 hq λr hr=>h r (.tail _ hr);have:=h p (.head _) λe=>h1.1 (e▸hq);omega
theorem jv: ∀{vars coefs:List Int},vars.Nodup->(vars.zip coefs).Nodup
 | [],_,_=>by simp
 |_::_,[],_=>by simp
 |v::vars,k::coefs,h=>by
  have h1:=EN.1 h;rw[FA];exact EN.2 ⟨λhm=>h1.1 (E8 hm).1,jv h1.2⟩
theorem kL: ∀{vars coefs:List Int},vars.Nodup->∀{p q:Int×Int},p∈vars.zip coefs->q∈vars.zip coefs->p.1=q.1->p=q
 | [],_,_,p,q,h,_,_=>by simp at h
 |_::_,[],_,p,q,h,_,_=>by simp at h
 |v::vars,k::coefs,hn,p,q,hp,hq,e=>by
  have h1:=EN.1 hn;rw[FA]at hp hq;rcases DQ.1 hp with rfl|hp
  ·rcases DQ.1 hq with rfl|hq;·rfl
   ·exact DS ((show v=q.1 from e)▸(E8 hq).1) h1.1
  ·rcases DQ.1 hq with rfl|hq;·exact DS ((show p.1=v from e)▸(E8 hp).1) h1.1
   ·exact kL h1.2 hp hq e
theorem Bp {vars coefs:List Int}(hn:vars.Nodup)(h:Int×Int->Int): ∃g:Int->Int,∀p∈vars.zip coefs,g p.1=h p:=by
 refine⟨λu=>if hu: ∃p∈vars.zip coefs,p.1=u then h hu.choose else 0,λp hp=> ?_⟩;have hu: ∃q∈vars.zip coefs,q.1=p.1:=⟨p,hp,rfl⟩;simp only[dif_pos hu];rw[kL hn hu.choose_spec.1 hp hu.choose_spec.2]
theorem CQ {n:Nat}{vars coefs:List Int}{rhs:Int}(hc:SumC n vars coefs rhs)(hne:vars≠[]):SuppS n vars (λl=>decide (yA coefs l<=rhs)) (kQ vars coefs rhs):=by
 have low: ∀d,GoodD n d->∀g:Int->Int,(∀u∈vars,g u∈vals (domAt d u))->∀p∈vars.zip coefs,p.2*g p.1-cq (domAt d p.1) p.2<=dz vars coefs g-bi (ab d vars coefs):=λd gd g hg p hp=>by
  rw[eV];refine(eH (f:=λp:Int×Int=>cq (domAt d p.1) p.2) (g:=λp=>p.2*g p.1) (l:=vars.zip coefs) λq hq=> ?_).2 p hp;have hv:=(E8 hq).1;exact(sA (gd.few.fine _ (af (by rw[gd.len];exact(hc.vin _ hv).2))).ok (hg _ hv)).1
 have put: ∀d,GoodD n d->∀q∈vars.zip coefs,∀x∈vals (domAt d q.1),∃g:Int->Int,(∀u∈vars,g u∈vals (domAt d u))/\g q.1=x/\dz vars coefs g=bi (ab d vars coefs)-cq (domAt d q.1) q.2+q.2*x:=λd gd q hq x hx=>by
  have hex: ∀p:Int×Int,∃y,p∈vars.zip coefs->y∈vals (domAt d p.1)/\cq (domAt d p.1) p.2=p.2*y:=λp=>by
   by_cases hp:p∈vars.zip coefs
   ·have hm:domAt d p.1∈d:=af (by rw[gd.len];exact(hc.vin _ (E8 hp).1).2);obtain⟨y,h1,h2⟩:=xW (gd.few.fine _ hm).ok (λe=>gd.some' (e▸hm)) p.2;exact⟨y,λ_=>⟨h1,h2⟩⟩
   ·exact⟨0,λh=>DS h hp⟩
  obtain⟨g,hg⟩:=Bp (coefs:=coefs) hc.nod λp=>if p=q then x else(hex p).choose
  refine⟨g,λu hu=> ?_,by rw[hg q hq,D3 Y],?_⟩
  ·obtain⟨p,hp,rfl⟩:=kK hc.vl hu;rw[hg p hp];split;·rename_i e;exact e▸hx
   ·exact((hex p).choose_spec hp).1
  ·unfold dz;rw[r4 (f:=λp=>cq (domAt d p.1) p.2) (q:=q) (jv hc.nod) hq λp hp hpq=> ?_,<-eV,hg q hq,D3 Y];show p.2*g p.1=cq (domAt d p.1) p.2;rw[hg p hp,D2 hpq];exact((hex p).choose_spec hp).2.symm
 refine⟨λd out gd he=> ?_,λd gd he g hg=> ?_,hc.vin,hne⟩
 ·unfold kQ at he;split at he;·cases he
  ·rename_i hno;obtain rfl:=D4 he;have hw:=hc.whole gd;refine⟨(te hc gd hno).1,λv hv x=> ?_,λv h0 hv=>td hw h0 hv⟩;obtain⟨q,hq,rfl⟩:=kK hc.vl hv;rw[th hw hq,(fT hw hq _).2 x];constructor
   ·rintro⟨h1,h2⟩;obtain⟨g,h3,h4,h5⟩:=put d gd q hq x h1;refine⟨g,h3,DE ?_,h4⟩;rw[dS,h5];omega
   ·rintro⟨g,h3,h4,rfl⟩;have h4:=EZ h4;rw[dS]at h4;have:=low d gd g h3 q hq;exact⟨h3 _ hv,by omega⟩
 ·refine DC λhle=> ?_;rw[dS]at hle;unfold kQ at he;split at he
  ·rename_i hem;obtain⟨j,hj⟩:=DI hem;have hw:=hc.whole gd;have hjn:j<n:=by
    have:=(D5.1 hj).1;rwa[(ej hw).2.1,gd.len]at this
   have e:domAt (MO d vars coefs rhs) (j:Int)=[]:=by
    unfold domAt;rw[D0,Dz,hj];rfl
   by_cases hv:(j:Int)∈vars
   ·obtain⟨q,hq,hqj⟩:=kK hc.vl hv;have h1:=low d gd g hg q hq;have h2:=((fT hw hq (bi (ab d vars coefs))).2 (g q.1)).2 ⟨hg _ (E8 hq).1,by omega⟩;rw[<-th hw hq,hqj,e]at h2;cases h2
   ·rw[td hw (by omega) hv]at e;exact gd.some' (e▸af (by rw[gd.len];simpa using hjn))
  ·cases he
theorem om {n:Nat}{vars coefs:List Int}{rhs:Int}(hc:SumC n vars coefs rhs)(hne:vars≠[]):StepOK n vars (λg=>dz vars coefs g<=rhs) (kQ vars coefs rhs):=
 (CQ hc hne).step.iff λg=>by rw[DM,dS]
theorem ja: ∀(ts:List (List (Int×Int)×Int)) (i m:Nat) (s:Int) (a:Nat),m<=(au i ts m s a).1
 | [],i,m,s,a=>DL _
 |t::ts,i,m,s,a=>by
  rw[au];split
  ·have:=ja ts (i+1) (m+1) s i;omega
  ·exact ja ts _ _ _ _
theorem jR: ∀(ts:List (List (Int×Int)×Int)) (i m:Nat) (s:Int) (a:Nat),(au i ts m s a).1=m->(au i ts m s a).2.2=a
 | [],i,m,s,a,_=>rfl
 |t::ts,i,m,s,a,h=>by
  rw[au]at h⊢;split at h
  ·have:=ja ts (i+1) (m+1) s i;omega
  ·rename_i hc;rw[D2 hc];exact jR ts _ _ _ _ h
theorem k7: ∀(ts:List (List (Int×Int)×Int)) (i m:Nat) (s:Int) (a:Nat),
  ((au i ts m s a).1=m+1->∃(j:Nat) (t:List (Int×Int)×Int),(au i ts m s a).2.2=i+j/\ts[j]? =some t/\1<(vals t.1).length)/\
  (m+1<(au i ts m s a).1->∃(j k:Nat) (t u:List (Int×Int)×Int),j≠k/\ts[j]? =some t/\ts[k]? =some u/\1<(vals t.1).length/\1<(vals u.1).length)
 | [],i,m,s,a=>by simp[au]
 |t::ts,i,m,s,a=>by
  rw[au];by_cases hc:1<(vals t.1).length
  ·rw[D3 hc];refine⟨λe=> ?_,λe=> ?_⟩
   ·have hk:=jR ts (i+1) (m+1) s i e;exact⟨0,t,by rw[hk];rfl,rfl,hc⟩
   ·have hex: ∃(k:Nat) (u:List (Int×Int)×Int),ts[k]? =some u/\1<(vals u.1).length:=by
     refine EB λhn=> ?_;have:=jQ ts (i+1) (m+1) i s λu hu h=>hn ((G0.1 hu).elim λk hk=>⟨k,u,hk,h⟩);omega
    obtain⟨k,u,h5,h6⟩:=hex;exact⟨0,k+1,t,u,by omega,rfl,by simpa using h5,hc,h6⟩
  ·rw[D2 hc];obtain⟨h3,h4⟩:=k7 ts (i+1) m (wr (s+wr (t.2*hd0 (vals t.1)))) a;refine⟨λe=> ?_,λe=> ?_⟩
   ·obtain⟨j,u,h5,h6,h7⟩:=h3 e;exact⟨j+1,u,by omega,by simpa using h6,h7⟩
   ·obtain⟨j,k,u,w,h5,h6,h7,h8,h9⟩:=h4 e;exact⟨j+1,k+1,u,w,by omega,by simpa using h6,by simpa using h7,h8,h9⟩
theorem Be {n:Nat}{d:aa}(hd:GoodD n d){us:List Int}(hin: ∀u∈us,0<=u/\u.toNat<n){g:Int->Int}(hg: ∀u∈us,g u∈vals (domAt d u)): ∃a,Supp a d/\∀u∈us,atR a u=g u:=by
 have hex: ∀j:Nat,∃x,j<n->x∈vals (domAt d j)/\((j:Int)∈us->x=g j):=λj=>by
  by_cases hj:(j:Int)∈us;·exact⟨g j,λ_=>⟨hg _ hj,λ_=>rfl⟩⟩
  ·by_cases hl:j<n
   ·obtain⟨x,hx⟩:=hd.ne (v:=(j:Int)) (by simpa using hl);exact⟨x,λ_=>⟨hx,λh=>DS h hj⟩⟩
   ·exact⟨0,λh=>DS h hl⟩
 refine⟨(List.range n).map λj=>(hex j).choose,⟨by simp[hd.len],λi x v hx hv=> ?_⟩,λu hu=> ?_⟩
 ·have hi:=(D5.1 hx).1;have hin':i<n:=(by rw[<-hd.len];exact hi);rw[DG,F4 hin']at hv;obtain rfl:=D4 hv;have h1:=((hex i).choose_spec hin').1;have e:domAt d (i:Int)=x:=by
   rw[D1 hi]at hx;rw[pK hi];exact D4 hx
  exact e▸h1
 ·obtain⟨h0,h1⟩:=hin u hu;have e:((u.toNat:Nat):Int)=u:=(by omega);unfold atR;rw[D2 (by omega),D0,DG,F4 h1];exact(((hex u.toNat).choose_spec h1).2 (by rw[e];exact hu)).trans (congrArg g e)
theorem wv {vars coefs a:List Int}{g:Int->Int}(h: ∀u∈vars,atR a u=g u):bG vars coefs a=dz vars coefs g:=by
 unfold bG dz;congr 1;exact EV λp hp=>by rw[h _ (E8 hp).1]
structure LinC (n:Nat)(c:Con):Prop where
 sum:SumC n c.vars c.coefs c.rhs
 pos:0<c.vars.length
 op:0<=c.op/\c.op<=2
theorem LinC.ok {n:Nat}{c:Con}(h:LinC n c){d:aa}(hd:GoodD n d):SumOk d c:=⟨(h.sum.whole hd).fine,h.sum.nod,h.pos,h.op,h.sum.big⟩
theorem LinC.ne {n:Nat}{c:Con}(h:LinC n c):c.vars≠[]:=λe=>by have:=h.pos;rw[e]at this;simp at this
theorem GoodD.of_sub {n:Nat}{a b:aa}(hb:GoodD n b)(h:Sub a b)(hf: ∀x∈a,Fine x)(hne: []∉a):GoodD n a/\leD a b:=by
 have hle:leD a b:=by
  refine⟨h.1,λv x h0 hx=> ?_⟩;by_cases hl:v.toNat<a.length;·exact h.2 v.toNat _ _ (ak hl) (ak (by rw[<-h.1];exact hl)) x hx
  ·rw[fS (by omega)]at hx;cases hx
 refine⟨⟨⟨by rw[h.1];exact hb.few.small,hf,λx hx=> ?_⟩,by rw[h.1,hb.len],hne⟩,hle⟩;obtain⟨j,hj⟩:=DI hx;have hjl:=(D5.1 hj).1;have hjd:j<b.length:=(by rw[<-h.1];exact hjl);have:=bV (aE (hf x hx).ok) λv hv=>h.2 j x _ hj (D1 hjd) v hv;have:=hb.few.few _ (D8 hjd);omega
def neO (c:Con)(d:aa):Option aa:=if []∈bT d c then none else some (bT d c)
theorem wm {d:aa}{c:Con}(hp:0<c.vars.length)(hl:c.vars.length=c.coefs.length)(h0: ∀v∈c.vars,0<=v){v:Int}(hv0:0<=v)(hv:v∉c.vars):domAt (bT d c) v=domAt d v:=by
 have hin:=cN (ab d c.vars c.coefs) 0 0 0 0 c.vars.length hp (by simp[ab];omega) (DL _);have key: ∀(k:Nat) (y:List (Int×Int)),k<c.vars.length->domAt (d.set (varAt c k).toNat y) v=domAt d v:=λk y hk=>by
  have hm:=aJ (c:=c) hk;have h1:=h0 _ hm;have hne:(varAt c k).toNat≠v.toNat:=λe=>hv ((show varAt c k=v by omega)▸hm);unfold domAt;rw[D0,D0,E4 hne]
 unfold bT;simp only;split;·rfl
 ·split
  ·split;·exact key 0 _ hp
   ·rfl
  ·exact key _ _ hin.1
theorem CP {n:Nat}{c:Con}(h:LinC n c)(hop:c.op=2):SuppS n c.vars (λl=>decide (yA c.coefs l≠c.rhs)) (neO c):=by
 have hc:=h.sum;have hans: ∀d,GoodD n d->LinAns d c (neO c d) 0:=λd gd=>by
  have hw:bE c d:=hc.whole gd;unfold LinAns;rw[D2 gd.some',D3 hop,fH hw h.pos];rfl
 have keep: ∀d,GoodD n d->∀g:Int->Int,(∀u∈c.vars,g u∈vals (domAt d u))->dz c.vars c.coefs g≠c.rhs->[]∉bT d c/\∀u∈c.vars,g u∈vals (domAt (bT d c) u):=λd gd g hg hne=>by
  obtain⟨a,ha,hag⟩:=Be gd hc.vin hg;have hw:bE c d:=hc.whole gd;have hs:=m7 hw h.pos ha (by rw[wv hag];exact hne);refine⟨hs.ne,λu hu=> ?_⟩;have hv:=hc.vin u hu;have:=hs.at hv.1 (by rw[(i9 hw h.pos).1,gd.len];exact hv.2);rwa[hag u hu]at this
 refine⟨λd out gd he=> ?_,λd gd he g hg=> ?_,hc.vin,h.ne⟩
 ·have hA:=hans d gd;rw[he]at hA;have hsub:=xZ (h.ok gd) hA;have hw:bE c d:=hc.whole gd;unfold neO at he;split at he;·cases he
  ·rename_i hno;obtain rfl:=D4 he;obtain⟨go,hle⟩:=GoodD.of_sub gd hsub (i9 hw h.pos).2 hno;refine⟨go,λv hv x=>⟨λhx=> ?_,?_⟩,λv h0 hv=>wm h.pos hc.vl (λv hv=>(hc.vin v hv).1) h0 hv⟩
   ·refine EB λhn=> ?_;have hx0:=hle.2 v x (hc.vin v hv).1 hx;have hall: ∀g:Int->Int,(∀u∈c.vars,g u∈vals (domAt d u))->g v=x->dz c.vars c.coefs g=c.rhs:=λg h1 h2=>by
     refine EB λh3=>hn ⟨g,h1,DE ?_,h2⟩;rw[dS];exact h3
    obtain⟨q,hq,rfl⟩:=kK hc.vl hv;have hex: ∀u:Int,∃y,u∈c.vars->y∈vals (domAt d u):=λu=>by
     by_cases hu:u∈c.vars
     ·obtain⟨y,hy⟩:=gd.ne (hc.vin u hu).2;exact⟨y,λ_=>hy⟩
     ·exact⟨0,λh=>DS h hu⟩
    let g0:Int->Int:=λu=>if u=q.1 then x else(hex u).choose
    have hg0: ∀u∈c.vars,g0 u∈vals (domAt d u):=λu hu=>by
     simp only[g0];split;·rename_i e;rw[e];exact hx0
     ·exact(hex u).choose_spec hu
    have hg0x:g0 q.1=x:=D3 Y;have hs0:=hall g0 hg0 hg0x;have single: ∀p∈c.vars.zip c.coefs,p.1≠q.1->¬1<(vals (domAt d p.1)).length:=λp hp hpq=>by
     have hpv:=(E8 hp).1;have heq: ∀y∈vals (domAt d p.1),y=g0 p.1:=λy hy=>by
      have h1:=hall (λu=>if u=p.1 then y else g0 u) (λu hu=>by
       by_cases e:u=p.1;·rw[D3 e,e];exact hy
       ·rw[D2 e];exact hg0 u hu) ((D2 (Ne.symm hpq)).trans hg0x)
      have h2:dz c.vars c.coefs (λu=>if u=p.1 then y else g0 u)=dz c.vars c.coefs g0-p.2*g0 p.1+p.2*y:=by
       unfold dz;rw[r4 (f:=λr:Int×Int=>r.2*g0 r.1) (f':=λr=>r.2*(if r.1=p.1 then y else g0 r.1)) (jv hc.nod) hp λr hr hrp=> ?_,D3 Y];rw[D2 λe=>hrp (kL hc.nod hr hp e)]
      have hk:=(hc.ck _ (E8 hp).2).1;have h3:p.2*y=p.2*g0 p.1:=(by omega);exact H8 hk h3
     have hu:=aE (gd.few.fine _ (af (v:=p.1) (by rw[gd.len];exact(hc.vin _ hpv).2))).ok;intro hl;cases hv2:vals (domAt d p.1)with
     |nil=>rw[hv2]at hl;simp at hl
     |cons y l=>
      cases l with
      |nil=>rw[hv2]at hl;simp at hl
      |cons z l=>
       rw[hv2]at hu heq;have h4:=(DY.1 hu).1 z (.head _);have h5:=heq y (.head _);have h6:=heq z (.tail _ (.head _));omega
    have hzl:(c.vars.zip c.coefs).length=c.vars.length:=(by have:=hc.vl;simp;omega);have hterm: ∀(j:Nat) t,(ab d c.vars c.coefs)[j]? =some t->∃p,(c.vars.zip c.coefs)[j]? =some p/\t=(domAt d p.1,p.2):=λj t ht=>by
     unfold ab at ht;rw[DG]at ht;cases hp:(c.vars.zip c.coefs)[j]? with
     |none=>rw[hp]at ht;cases ht
     |some p=>rw[hp]at ht;exact⟨p,rfl,(D4 ht).symm⟩
    have hmulti: ∀(j:Nat) t,(ab d c.vars c.coefs)[j]? =some t->1<(vals t.1).length->(c.vars.zip c.coefs)[j]? =some q:=λj t ht hl=>by
     obtain⟨p,hp,rfl⟩:=hterm j t ht;have hpm:=D7 hp;by_cases e:p.1=q.1;·rw[hp,kL hc.nod hpm hq e]
     ·exact DS hl (single p hpm e)
    have hone: ∀(j k:Nat),(c.vars.zip c.coefs)[j]? =some q->(c.vars.zip c.coefs)[k]? =some q->j=k:=λj k h1 h2=>by
     have hj:=(D5.1 h1).1;have hk:=(D5.1 h2).1;have e1:(c.vars.zip c.coefs)[j]=(c.vars.zip c.coefs)[k]:=by
      rw[D1 hj]at h1;rw[D1 hk]at h2;exact(D4 h1).trans (D4 h2).symm
     exact(Fp (jv hc.nod)).1 e1
    obtain⟨t1,t2⟩:=k7 (ab d c.vars c.coefs) 0 0 0 0;let ts:List ((List (Int×Int)×Int)×Int):=(c.vars.zip c.coefs).map λp=>((domAt d p.1,p.2),g0 p.1);have et:ts.map (·.1)=ab d c.vars c.coefs:=(by simp only[ts,FH];rfl);have eS:(ts.map λt=>t.1.2*t.2).sum=dz c.vars c.coefs g0:=(by simp only[ts,FH];rfl);have hvt:xy ts:=by
     intro t ht;obtain⟨p,hp,rfl⟩:=DD.1 ht;exact hg0 _ (E8 hp).1
    have hww:=cy (d:=d) hc.vl;have hb:=hc.big;have har:=bu c.rhs;have key:=e9 (B:=ai c.coefs) (by omega) ts 0 0 0 0 (by rw[et];exact dh hw.fine) hvt (by rw[et];omega) (by rw[et];omega);rw[et,eS,hs0]at key;obtain⟨k1,_,k3⟩:=key;have hin:=cN (ab d c.vars c.coefs) 0 0 0 0 c.vars.length h.pos (by simp[ab];have:=hc.vl;omega) (DL _);unfold bT at hno hx;simp only at hno hx;by_cases hm2:1<(au 0 (ab d c.vars c.coefs) 0 0 0).1
    ·obtain⟨j,k,t,u,h1,h2,h3,h4,h5⟩:=t2 (by omega);exact h1 (hone j k (hmulti j t h2 h4) (hmulti k u h3 h5))
    ·rw[D2 hm2]at hno hx;by_cases hm0:(au 0 (ab d c.vars c.coefs) 0 0 0).1=0
     ·rw[D3 hm0,D3 (by have:=(k1 hm0).1;omega)]at hno;refine hno ((dI ?_ gd.some').2 Y);rw[gd.len];exact(hc.vin _ (aJ (c:=c) h.pos)).2
     ·rw[D2 hm0]at hx;obtain⟨j,t,j1,j2,j3⟩:=t1 (by omega);obtain⟨j',t',i1,i2,i3⟩:=k3 (by omega);have ejj:j'=j:=(by omega);subst ejj;have hjq:=hmulti _ t j2 j3;have hj:j'<c.vars.length:=(by have:=(D5.1 hjq).1;omega);have ev:varAt c j'=q.1/\coefAt c j'=q.2:=by
       have h1:=(D5.1 hjq).2;have hjc:j'<c.coefs.length:=(by have:=hc.vl;omega);rw[Gq]at h1;rw[<-h1];exact⟨aN hj,aN hjc⟩
      have et':t'=((domAt d q.1,q.2),x):=by
       simp only[ts,DG,hjq,ER,D6]at i2;rw[<-i2,hg0x]
      rw[et']at i3;simp only[GR]at i3;rw[j1,F9,ev.1,ev.2]at hx;have hqv:=hc.vin _ (E8 hq).1;have hxd:=gd.few.fine _ (af (v:=q.1) (by rw[gd.len];exact hqv.2));have e:domAt (d.set q.1.toNat (cX ((vals (domAt d q.1)).filter λv=>decide (wr ((au 0 (ab d c.vars c.coefs) 0 0 0).2.1+wr (q.2*v))≠c.rhs)))) q.1=cX ((vals (domAt d q.1)).filter λv=>decide (wr ((au 0 (ab d c.vars c.coefs) 0 0 0).2.1+wr (q.2*v))≠c.rhs)):=by
       unfold domAt;rw[D0,EJ (by rw[gd.len];exact hqv.2)];rfl
      rw[e,bI (fD (aE hxd.ok)),ES,DM]at hx;have b:=hxd.val _ hx0;have hk:=hc.ck _ (E8 hq).2;have m:=dW q.2 x b.1 b.2;have hk2:=hk.2;have hrb: -c.rhs<=aF c.rhs/\c.rhs<=aF c.rhs:=(by unfold aF;omega);have hwk:=aT c.coefs;refine hx.2 ?_;simp only[wr];rw[ac (n:=q.2*x) (by omega) (by omega),ac (by omega) (by omega)];omega
   ·rintro⟨g,h3,h4,rfl⟩;have h4:=EZ h4;rw[dS]at h4;exact(keep d gd g h3 h4).2 v hv
 ·refine DC λhne=> ?_;rw[dS]at hne;have:=(keep d gd g hg hne).1;unfold neO at he;rw[D2 this]at he;cases he
open Classical in
noncomputable def gN (c:Con)(d:aa):Option aa:=if h: ∃R:Option aa,∃N,LinAns d c R N then h.choose else none
theorem gM {d:aa}{c:Con}(h:SumOk d c): ∃N,LinAns d c (gN c d) N:=by
 obtain⟨R,N,N',h1,h2,h3⟩:=x4 h;have hex: ∃R:Option aa,∃N,LinAns d c R N:=⟨R,N,h1⟩;unfold gN;rw[dif_pos hex];exact hex.choose_spec
theorem mW {vars coefs:List Int}(g:Int->Int)(h: ∀k∈coefs,CoefOk k):dz vars (az coefs) g= -dz vars coefs g:=by
 unfold dz az
 induction vars generalizing coefs with
 |nil=>simp
 |cons v vars ih=>
  cases coefs with
  |nil=>simp
  |cons k coefs=>
   have e:=(cZ (h k (.head _))).1;have:=ih λk hk=>h k (.tail _ hk);simp only[DZ,FA,Ej]at this⊢;rw[this,e,Gd];omega
theorem SumC.back {n:Nat}{vars coefs:List Int}{rhs:Int}(h:SumC n vars coefs rhs):SumC n vars (az coefs) (wr (0-rhs)):=by
 have hb:=h.big;have hp:=aT coefs;refine⟨by rw[h.vl];simp[az],h.vin,λk hk=> ?_,h.nod,?_,h.few⟩
 ·obtain⟨k0,hk0,rfl⟩:=DD.1 hk;exact(cZ (h.ck _ hk0)).2
 ·rw[de _ h.ck,(n4 (by omega)).2];exact hb
theorem lE {n:Nat}{c:Con}(h:LinC n c):StepOK n c.vars (λg=>du c.op (dz c.vars c.coefs g) c.rhs=true) (gN c):=by
 have hc:=h.sum;have hopc:c.op=0∨c.op=1∨c.op=2:=(by have:=h.op;omega);rcases hopc with h0|h0|h0
 ·refine((om hc h.ne).congr λd gd=> ?_).iff λg=> ?_
  ·obtain⟨N,hN⟩:=gM (h.ok gd);unfold LinAns at hN;rw[D2 gd.some',D2 (by omega)]at hN;rw[BD hc h0 gd hN];rfl
  ·unfold du;rw[D3 h0,DM]
 ·have hE: ∀d,GoodD n d->ep leD (GoodD n) (pM c) [true,false] d (gN c d):=λd gd=>by
   obtain⟨N,hN⟩:=gM (h.ok gd);unfold LinAns at hN;rw[D2 gd.some',D2 (by omega)]at hN;exact zd hc hc.back h0 d N d _ (Come.refl (aY n) gd) hN
  refine(ep.step hE (P:=λb g=>if b=true then dz c.vars c.coefs g<=c.rhs else dz c.vars (az c.coefs) g<=wr (0-c.rhs)) (us:=c.vars) (λb _=> ?_) hc.vin).iff λg=> ?_
  ·cases b;·exact(om hc.back h.ne).iff λg=>by simp
   ·exact(om hc h.ne).iff λg=>by simp
  ·have hb:=hc.big;have hp:=aT c.coefs;have e1:=(n4 (rhs:=c.rhs) (by omega)).1;have e2:=mW (vars:=c.vars) g hc.ck;unfold du;rw[D2 (by omega),h0];simp only[DQ,Gp,or_false,forall_eq_or_imp,forall_eq,if_true,EU,if_false,e1,e2];simp;omega
 ·refine((CP h h0).step.congr λd gd=> ?_).iff λg=> ?_
  ·obtain⟨N,hN⟩:=gM (h.ok gd);have hw:bE c d:=hc.whole gd;unfold LinAns at hN;rw[D2 gd.some',D3 h0,fH hw h.pos]at hN;exact hN
  ·unfold du;rw[D2 (by omega),h0,dS];simp
theorem AO {c:Con}(g:Int->Int)(hck: ∀k∈c.coefs,CoefOk k)(hop:0<=c.op/\c.op<=2)(hr:aF c.rhs<=4611686018427387904):du (bP c).op (dz (bP c).vars (bP c).coefs g) (bP c).rhs= !du c.op (dz c.vars c.coefs g) c.rhs:=by
 have har:aF c.rhs=max c.rhs (-c.rhs):=rfl;have hopc:c.op=0∨c.op=1∨c.op=2:=(by omega);rcases hopc with h0|h0|h0
 ·have en:bP c= { c with coefs:=az c.coefs,rhs:=wr (wr (0-c.rhs)-1) }:=(by unfold bP;rw[D3 h0]);have e1:wr (0-c.rhs)= -c.rhs:=(by rw[wr,ac (by omega) (by omega)];omega);have e2:wr (wr (0-c.rhs)-1)= -c.rhs-1:=(by rw[e1,wr,ac (by omega) (by omega)]);rw[en];simp only[du,h0,if_true,e2,mW g hck];by_cases hh:dz c.vars c.coefs g<=c.rhs;·rw[DE hh,DC (by omega)];rfl
  ·rw[DC hh,DE (by omega)];rfl
 ·have en:bP c= { c with op:=2 }:=(by unfold bP;rw[D2 (by omega),D3 h0]);rw[en];simp[du,h0]
 ·have en:bP c= { c with op:=1 }:=(by unfold bP;rw[D2 (by omega),D2 (by omega),D3 h0]);rw[en];simp[du,h0]
theorem mV {a b:aa}{vars coefs:List Int}(h: ∀u∈vars,domAt a u=domAt b u):ab a vars coefs=ab b vars coefs:=
 EV λp hp=>by rw[h _ (E8 hp).1]
theorem zr {n:Nat}{a b:aa}{vars coefs:List Int}{rhs:Int}(hc:SumC n vars coefs rhs)(ga:GoodD n a)(gb:GoodD n b)(h:leD a b):bi (ab b vars coefs)<=bi (ab a vars coefs)/\fP (ab a vars coefs)<=fP (ab b vars coefs):=by
 have low: ∀ks:List Int,bi (ab b vars ks)<=bi (ab a vars ks):=λks=>by
  rw[eV,eV];refine(eH λp hp=> ?_).1;have hv:=hc.vin _ (E8 hp).1;have hm:domAt a p.1∈a:=af (by rw[ga.len];exact hv.2);exact qU (ga.few.fine _ hm).ok (gb.few.fine _ (af (by rw[gb.len];exact hv.2))).ok (λe=>ga.some' (e▸hm)) (λx hx=>h.2 p.1 x hv.1 hx) p.2
 have h2:=low (az coefs);rw[o7 hc.ck,o7 hc.ck]at h2;exact⟨low coefs,by omega⟩
theorem xI {n:Nat}{a b:aa}{c:Con}(hc:LinC n c)(ga:GoodD n a)(gb:GoodD n b)(h:leD a b)(hs:soW (endsW b c.vars c.coefs) c=true):soW (endsW a c.vars c.coefs) c=true:=by
 obtain⟨h1,h2⟩:=zr hc.sum ga gb h;have hle:bi (ab a c.vars c.coefs)<=fP (ab a c.vars c.coefs):=(kN (dh (hc.sum.whole ga).fine) (eT (hc.sum.whole ga))).2.1;rw[pG (hc.sum.whole gb)]at hs;rw[pG (hc.sum.whole ga)];unfold soW at hs⊢;simp only[GZ,if_false]at hs⊢;split
 ·rename_i h0;rw[D3 h0]at hs;exact DE (by have:=EZ hs;omega)
 ·rename_i h0;rw[D2 h0]at hs;split
  ·rename_i h3;rw[D3 h3]at hs;simp only[DH,DM]at hs⊢;omega
  ·rename_i h3;rw[D2 h3]at hs;simp only[FB,DM]at hs⊢;omega
theorem q7 {n:Nat}{c:Con}(hc:LinC n c){d:aa}(gd:GoodD n d)(hs:soW (endsW d c.vars c.coefs) c=true):gN c d=some d:=by
 obtain⟨R,N,N',h1,h2,h3⟩:=x4 (hc.ok gd);obtain⟨M,hM⟩:=gM (hc.ok gd);have e:=x3 hM h1;rw[e];exact AE (hc.ok gd) gd.some' h1 h3 hs
noncomputable def oL (c:Con)(d:aa):Option aa:=if truthR (domAt d c.b)=true then tU d c (gN (bN c) d) (gN (bP (bN c)) d)else some d
theorem g8 {x:List (Int×Int)}(h:ay x):truthR x=true↔∀v∈vals x,0<=v/\v<=1:=by
 constructor
 ·intro ht v hv;obtain⟨r,hr,h1,h2⟩:=aS.1 hv;have:=DJ.1 ht r hr;simp at this;omega
 ·intro hv;refine DJ.2 λr hr=> ?_;have h0:=h.1 r hr;have h1:=hv r.1 (aS.2 ⟨r,hr,EW _,h0⟩);have h2:=hv r.2 (aS.2 ⟨r,hr,h0,EW _⟩);simp;omega
theorem GoodD.at_ {n:Nat}{d:aa}(h:GoodD n d){v:Int}(hv:v.toNat<n):ay (domAt d v)/\domAt d v≠[]:=by
 have hm:domAt d v∈d:=af (by rw[h.len];exact hv);exact⟨(h.few.fine _ hm).ok,λe=>h.some' (e▸hm)⟩
theorem nY {d:aa}{b v:Int}{x:List (Int×Int)}(hb:0<=b)(hl:b.toNat<d.length)(hv:0<=v):domAt (d.set b.toNat x) v=if v=b then x else domAt d v:=by
 unfold domAt;rw[D0];split;·rename_i e;subst e;rw[EJ hl];rfl
 ·rename_i e;rw[E4 (by omega),<-D0]
theorem qx {d:aa}{b:Int}(hl:b.toNat<d.length):d.set b.toNat (domAt d b)=d:=by
 refine F1 λi=> ?_;by_cases e:b.toNat=i;·subst e;rw[EJ hl,ak hl]
 ·rw[E4 e]
theorem dY {n:Nat}{d:aa}{b w:Int}(gd:GoodD n d)(hb:0<=b/\b.toNat<n){out:aa}(he:dB d b w=some out):GoodD n out/\leD out d/\(∀v,0<=v->v≠b->domAt out v=domAt d v)/\(∀x,x∈vals (domAt out b)↔x∈vals (domAt d b)/\x=w):=by
 have hbl:b.toNat<d.length:=(by rw[gd.len];exact hb.2);obtain⟨hok,hne⟩:=gd.at_ hb.2;unfold dB at he;split at he;·cases he
 ·rename_i hx;obtain rfl:=D4 he;obtain⟨c1,c2⟩:=bQ hok w w;generalize domCut (domAt d b) w w=x at*;have hsub:Sub (d.set b.toNat x) d:=kO λy hy v hv=>by
   rw[ak hbl]at hy;exact D4 hy▸((c2 v).1 hv).1
  have hfx:Fine x:=(gd.few.fine _ (af hbl)).cut c1 λv hv=>((c2 v).1 hv).1;obtain⟨g1,g2⟩:=GoodD.of_sub gd hsub (iq gd.few.fine hfx) (λhm=>hx ((dI hbl gd.some').1 hm));refine⟨g1,g2,λv h0 hv=>by rw[nY hb.1 hbl h0,D2 hv],λy=> ?_⟩;rw[nY hb.1 hbl hb.1,D3 Y,c2];constructor;·rintro⟨h1,h2,h3⟩;exact⟨h1,by omega⟩
  ·rintro⟨h1,rfl⟩;exact⟨h1,EW _,EW _⟩
theorem re {n:Nat}{d:aa}{b w:Int}(gd:GoodD n d)(hb:0<=b/\b.toNat<n)(hw:w∈vals (domAt d b)): ∃out,dB d b w=some out:=by
 obtain⟨hok,hne⟩:=gd.at_ hb.2;unfold dB;rw[D2];·exact⟨_,rfl⟩
 ·intro e;have:=((bQ hok w w).2 w).2 ⟨hw,EW _,EW _⟩;rw[e]at this;cases this
theorem lH {n:Nat}{d:aa}{b w:Int}(gd:GoodD n d)(hb:0<=b/\b.toNat<n){out:aa}(he:dB d b w=some out):w∈vals (domAt d b):=by
 obtain⟨g1,g2,g3,g4⟩:=dY gd hb he;obtain⟨x,hx⟩:=g1.ne hb.2;obtain⟨h1,rfl⟩:=(g4 x).1 hx;exact h1
theorem dM {n:Nat}{d:aa}{b w:Int}(gd:GoodD n d)(hb:0<=b/\b.toNat<n):dB d b w=some d↔vals (domAt d b)=[w]:=by
 obtain⟨hok,hne⟩:=gd.at_ hb.2;constructor
 ·intro he;obtain⟨g1,g2,g3,g4⟩:=dY gd hb he;refine dD (aE hok) (Ey _ _) λx=> ?_;rw[g4 x,DF];exact⟨λh=>h.2,λh=>⟨h▸lH gd hb he,h⟩⟩
 ·intro hv;obtain⟨out,ho⟩:=re gd hb (w:=w) (by rw[hv];exact .head _);obtain⟨g1,g2,g3,g4⟩:=dY gd hb ho;rw[ho];congr 1;refine jn g1 gd λv x h0=> ?_;by_cases e:v=b
  ·subst e;rw[g4 x,hv,DF];exact⟨λh=>h.1,λh=>⟨h,h⟩⟩
  ·rw[g3 v h0 e]
theorem cS {x:List (Int×Int)}{v:Int}:hasV x v=true↔v∈vals x:=by
 unfold hasV;rw[Ev,aS];simp
structure ReifC (n:Nat)(c:Con):Prop where
 yes:LinC n (bN c)
 no:LinC n (bP (bN c))
 b:0<=c.b/\c.b.toNat<n
 apart:c.b∉c.vars
 small:aF c.rhs<=4611686018427387904
theorem Au (c:Con):(bP c).vars=c.vars:=by
 unfold bP;split;·rfl
 ·split;·rfl
  ·split<;>rfl
theorem Ac {n:Nat}{c:Con}(h:ReifC n c){d:aa}(gd:GoodD n d)(hy:yesW d c=true)(hn:noW d c=true):False:=by
 have hdl:0<d.length:=(by rw[gd.len];have:=h.b;omega);obtain⟨a,ha⟩:=yz gd.few.fine gd.some' hdl;have h1:=ou (h.yes.ok gd).fine (by have:=h.yes.sum.big;have:=bu (bN c).rhs;omega) h.yes.op ha hy;have h2:=y3 (h.yes.ok gd) ha hn;rw[h1]at h2;cases h2
theorem yL {n:Nat}{c:Con}(h:ReifC n c):StepOK n (c.vars++[c.b]) (λg=>(0<=g c.b/\g c.b<=1)->(du c.op (dz c.vars c.coefs g) c.rhs=true/\g c.b=1)∨(du c.op (dz c.vars c.coefs g) c.rhs=false/\g c.b=0)) (oL c):=by
 have sy:=lE h.yes;have sn:=lE h.no;have hvn:(bP (bN c)).vars=c.vars:=Au (bN c);rw[hvn]at sn;have hb:=h.b;have tr: ∀d,GoodD n d->(truthR (domAt d c.b)=true↔∀v∈vals (domAt d c.b),0<=v/\v<=1):=λd gd=>g8 (gd.at_ hb.2).1;have ym: ∀a b,GoodD n a->GoodD n b->leD a b->yesW b c=true->yesW a c=true:=λa b ga gb hle hy=>xI (c:=bN c) h.yes ga gb hle hy;have nm: ∀a b,GoodD n a->GoodD n b->leD a b->noW b c=true->noW a c=true:=λa b ga gb hle hy=>xI (c:=bP (bN c)) h.no ga gb hle hy;have yst: ∀a,GoodD n a->yesW a c=true->gN (bN c) a=some a:=λa ga hy=>q7 (c:=bN c) h.yes ga hy;have nst: ∀a,GoodD n a->noW a c=true->gN (bP (bN c)) a=some a:=λa ga hy=>q7 (c:=bP (bN c)) h.no ga hy;have hf: ∀d,GoodD n d->oL c d=if truthR (domAt d c.b)=true then(if yesW d c=true then dB d c.b 1 else if noW d c=true then dB d c.b 0 else if hasV (domAt d c.b) 0=false then gN (bN c) d else if hasV (domAt d c.b) 1=false then gN (bP (bN c)) d else some d)else some d:=λd gd=>by
  unfold oL tU;rw[D2 gd.some']
 have hin: ∀u∈c.vars++[c.b],0<=u/\u.toNat<n:=λu hu=>by
  rcases DT.1 hu with hu|hu;·exact sy.in' u hu
  ·rw[DF.1 hu];exact hb
 refine StepOK.congr (f:=λd=>if truthR (domAt d c.b)=true then(if yesW d c=true then dB d c.b 1 else if noW d c=true then dB d c.b 0 else if hasV (domAt d c.b) 0=false then gN (bN c) d else if hasV (domAt d c.b) 1=false then gN (bP (bN c)) d else some d)else some d) ⟨⟨λa a' ga he=> ?_,λa a' b ga gb hle he=> ?_⟩,λa b ga gb ha hab=> ?_,λa out ga he v h0 hv=> ?_,λe ge g he=> ?_,hin⟩ hf
 ·split at he
  ·split at he
   ·obtain⟨g1,g2,_⟩:=dY ga hb he;exact⟨g1,g2⟩
   ·split at he
    ·obtain⟨g1,g2,_⟩:=dY ga hb he;exact⟨g1,g2⟩
    ·split at he;·exact sy.takes.less a a' ga he
     ·split at he;·exact sn.takes.less a a' ga he
      ·obtain rfl:=D4 he;exact⟨ga,(aY n).refl a⟩
  ·obtain rfl:=D4 he;exact⟨ga,(aY n).refl a⟩
 ·
  have hless:leD a' a:=by
   split at he
   ·split at he;·exact(dY ga hb he).2.1
    ·split at he;·exact(dY ga hb he).2.1
     ·split at he;·exact(sy.takes.less a a' ga he).2
      ·split at he;·exact(sn.takes.less a a' ga he).2
       ·exact D4 he▸(aY n).refl a
   ·exact D4 he▸(aY n).refl a
  have stay: ∃b',some b=some b'/\leD a' b':=⟨b,rfl,(aY n).trans _ _ _ hless hle⟩;by_cases htb:truthR (domAt b c.b)=true
  ·have hta:truthR (domAt a c.b)=true:=(tr a ga).2 λv hv=>(tr b gb).1 htb v (hle.2 _ v hb.1 hv);rw[D3 hta]at he;rw[D3 htb];have kmono: ∀w,dB a c.b w=some a'->∃b',dB b c.b w=some b'/\leD a' b':=λw hk=>by
    obtain⟨g1,g2,g3,g4⟩:=dY ga hb hk;obtain⟨b',hb'⟩:=re gb hb (hle.2 _ w hb.1 (lH ga hb hk));obtain⟨k1,k2,k3,k4⟩:=dY gb hb hb';refine⟨b',hb',by rw[g1.len,k1.len],λv x h0 hx=> ?_⟩;by_cases e:v=c.b
    ·subst e;obtain⟨h1,h2⟩:=(g4 x).1 hx;exact(k4 x).2 ⟨hle.2 _ x h0 h1,h2⟩
    ·rw[g3 v h0 e]at hx;rw[k3 v h0 e];exact hle.2 v x h0 hx
   by_cases hyb:yesW b c=true
   ·rw[D3 hyb];rw[D3 (ym a b ga gb hle hyb)]at he;exact kmono 1 he
   ·rw[D2 hyb];by_cases hnb:noW b c=true
    ·rw[D3 hnb];have hna:=nm a b ga gb hle hnb;rw[D2 (λhy=>Ac h ga hy hna),D3 hna]at he;exact kmono 0 he
    ·rw[D2 hnb];by_cases h0b:hasV (domAt b c.b) 0=false
     ·rw[D3 h0b];have h0a:hasV (domAt a c.b) 0=false:=by
       cases hh:hasV (domAt a c.b) 0 with
       |false=>rfl
       |true=>rw[cS.2 (hle.2 _ 0 hb.1 (cS.1 hh))]at h0b;cases h0b
      have hle':a'=a∨gN (bN c) a=some a':=by
       by_cases hya:yesW a c=true
       ·rw[D3 hya]at he;refine .inl ?_;have hv:vals (domAt a c.b)=[1]:=by
         obtain⟨x,hx⟩:=ga.ne hb.2;have hone: ∀y∈vals (domAt a c.b),y=1:=λy hy=>by
          have h1:=(tr a ga).1 hta y hy;have h2:y≠0:=λe=>(by rw[e]at hy;rw[cS.2 hy]at h0a;cases h0a);omega
         exact dD (aE (ga.at_ hb.2).1) (Ey _ _) λy=>⟨λhy=>DF.2 (hone y hy),λhy=>by rw[DF.1 hy,<-hone x hx];exact hx⟩
        rw[(dM ga hb).2 hv]at he;exact(D4 he).symm
       ·rw[D2 hya]at he;by_cases hna:noW a c=true
        ·rw[D3 hna]at he;have:=lH ga hb he;rw[cS.2 this]at h0a;cases h0a
        ·rw[D2 hna,D3 h0a]at he;exact .inr he
      rcases hle' with e|hl
      ·subst e;by_cases hya:yesW a' c=true;·exact sy.takes.mono a' a' b ga gb hle (yst a' ga hya)
       ·rw[D2 hya]at he;by_cases hna:noW a' c=true
        ·rw[D3 hna]at he;have:=lH ga hb he;rw[cS.2 this]at h0a;cases h0a
        ·rw[D2 hna,D3 h0a]at he;exact sy.takes.mono a' a' b ga gb hle he
      ·exact sy.takes.mono a a' b ga gb hle hl
     ·rw[D2 h0b];by_cases h1b:hasV (domAt b c.b) 1=false
      ·rw[D3 h1b];have h1a:hasV (domAt a c.b) 1=false:=by
        cases hh:hasV (domAt a c.b) 1 with
        |false=>rfl
        |true=>rw[cS.2 (hle.2 _ 1 hb.1 (cS.1 hh))]at h1b;cases h1b
       have hone: ∀y∈vals (domAt a c.b),y=0:=λy hy=>by
        have h1:=(tr a ga).1 hta y hy;have h2:y≠1:=λe=>(by rw[e]at hy;rw[cS.2 hy]at h1a;cases h1a);omega
       have hv:vals (domAt a c.b)=[0]:=by
        obtain⟨x,hx⟩:=ga.ne hb.2;exact dD (aE (ga.at_ hb.2).1) (Ey _ _) λy=>⟨λhy=>DF.2 (hone y hy),λhy=>by rw[DF.1 hy,<-hone x hx];exact hx⟩
       have h0a: ¬hasV (domAt a c.b) 0=false:=λe=>by
        have:=cS (x:=domAt a c.b) (v:=0);rw[e,hv]at this;simp at this
       by_cases hya:yesW a c=true
       ·rw[D3 hya]at he;have:=lH ga hb he;rw[cS.2 this]at h1a;cases h1a
       ·rw[D2 hya]at he;by_cases hna:noW a c=true
        ·rw[D3 hna,(dM ga hb).2 hv]at he;obtain rfl:=D4 he;exact sn.takes.mono a a b ga gb hle (nst a ga hna)
        ·rw[D2 hna,D2 h0a,D3 h1a]at he;exact sn.takes.mono a a' b ga gb hle he
      ·rw[D2 h1b];exact stay
  ·rw[D2 htb];exact stay
 ·
  have hB:=hab c.b (EA _ (.head _));have hV: ∀u∈c.vars,domAt a u=domAt b u:=λu hu=>hab u (E7 _ hu);have ey:yesW b c=yesW a c:=(by unfold yesW endsW;rw[mV hV]);have en:noW b c=noW a c:=(by unfold noW endsW;rw[hvn,mV hV]);rw[ey,en,<-hB];split
  ·rename_i ht;rw[D3 ht]at ha;split
   ·rename_i hy;rw[D3 hy,dM ga hb]at ha;rw[dM gb hb,<-hB];exact ha
   ·rename_i hy;rw[D2 hy]at ha;split
    ·rename_i hn;rw[D3 hn,dM ga hb]at ha;rw[dM gb hb,<-hB];exact ha
    ·rename_i hn;rw[D2 hn]at ha;split
     ·rename_i h0;rw[D3 h0]at ha;exact sy.stays a b ga gb ha hV
     ·rename_i h0;rw[D2 h0]at ha;split
      ·rename_i h1;rw[D3 h1]at ha;exact sn.stays a b ga gb ha hV
      ·rfl
  ·rfl
 ·have hv1:v∉c.vars:=λhm=>hv (E7 _ hm);have hv2:v≠c.b:=λe=>hv (EA _ (e▸.head _));split at he
  ·split at he;·exact(dY ga hb he).2.2.1 v h0 hv2
   ·split at he;·exact(dY ga hb he).2.2.1 v h0 hv2
    ·split at he;·exact sy.off a out ga he v h0 hv1
     ·split at he;·exact sn.off a out ga he v h0 hv1
      ·obtain rfl:=D4 he;rfl
  ·obtain rfl:=D4 he;rfl
 ·
  have hB:=he c.b (EA _ (.head _));have hV: ∀u∈c.vars,vals (domAt e u)=[g u]:=λu hu=>he u (E7 _ hu);have py:=sy.point e ge g hV;have pn:=sn.point e ge g hV;have hhn:=AO (c:=bN c) g h.yes.sum.ck h.yes.op h.small;rw[hvn]at hhn;have htr:=tr e ge;rw[hB]at htr;simp only[DF,forall_eq]at htr;by_cases ht:truthR (domAt e c.b)=true
  ·have h01:=htr.1 ht;rw[D3 ht];have hsy:yesW e c=true->du c.op (dz c.vars c.coefs g) c.rhs=true:=λhy=>(py.1 (yst e ge hy));have hsn:noW e c=true->du c.op (dz c.vars c.coefs g) c.rhs=false:=λhn=>by
    have:=pn.1 (nst e ge hn);rw[hhn]at this;have:=Ed _▸this;exact this
   have e0:hasV (domAt e c.b) 0=false↔g c.b=1:=by
    have:=cS (x:=domAt e c.b) (v:=0);rw[hB,DF]at this;rw[<-Gr,this];omega
   have e1:hasV (domAt e c.b) 1=false↔g c.b=0:=by
    have:=cS (x:=domAt e c.b) (v:=1);rw[hB,DF]at this;rw[<-Gr,this];omega
   by_cases hy:yesW e c=true
   ·rw[D3 hy,dM ge hb,hB,hsy hy];simp;omega
   ·rw[D2 hy];by_cases hn:noW e c=true
    ·rw[D3 hn,dM ge hb,hB,hsn hn];simp;omega
    ·rw[D2 hn];by_cases h1:g c.b=1
     ·rw[D3 (e0.2 h1),py];simp[h1];exact Y
     ·have h2:g c.b=0:=(by omega);rw[D2 (λhh=>h1 (e0.1 hh)),D3 (e1.2 h2),pn,hhn];simp[h2];exact Y
  ·rw[D2 ht];have: ¬(0<=g c.b/\g c.b<=1):=λhh=>ht (htr.2 hh);simp[this]
theorem StepOK.guard {n:Nat}{us:List Int}{P Q:(Int->Int)->Prop}{f:aa->Option aa}{C:aa->Bool}(h:StepOK n us P f)(hm: ∀a b,GoodD n a->GoodD n b->leD a b->C b=true->C a=true)
  (hl: ∀a b,GoodD n a->GoodD n b->(∀u∈us,domAt a u=domAt b u)->C a=C b) (hp: ∀e,GoodD n e->∀g:Int->Int,(∀u∈us,vals (domAt e u)=[g u])->(C e=true↔Q g)):StepOK n us (λg=>Q g->P g) (λd=>if C d=true then f d else some d):=by
 refine⟨⟨λa a' ga he=> ?_,λa a' b ga gb hle he=> ?_⟩,λa b ga gb ha hab=> ?_,λa out ga he v h0 hv=> ?_,λe ge g he=> ?_,h.in'⟩
 ·split at he;·exact h.takes.less a a' ga he
  ·obtain rfl:=D4 he;exact⟨ga,(aY n).refl a⟩
 ·by_cases hc:C b=true
  ·rw[D3 (hm a b ga gb hle hc)]at he;rw[D3 hc];exact h.takes.mono a a' b ga gb hle he
  ·rw[D2 hc];refine⟨b,rfl,(aY n).trans _ _ _ ?_ hle⟩;split at he;·exact(h.takes.less a a' ga he).2
   ·exact D4 he▸(aY n).refl a
 ·rw[<-hl a b ga gb hab];split
  ·rename_i hc;rw[D3 hc]at ha;exact h.stays a b ga gb ha hab
  ·rfl
 ·split at he;·exact h.off a out ga he v h0 hv
  ·obtain rfl:=D4 he;rfl
 ·have hq:=hp e ge g he;by_cases hc:C e=true
  ·rw[D3 hc,h.point e ge g he];exact⟨λh _=>h,λh=>h (hq.1 hc)⟩
  ·rw[D2 hc];exact⟨λ_ h=>DS (hq.2 h) hc,λ_=>rfl⟩
def qa (a b:Int)(d:aa):Option aa:=
 if a=b then some d else
 if domCut (domAt d a) (-1048576) (aM (domAt d b))=[]∨domCut (domAt d b) (ax (domAt d a)) 1048576=[]then none else
 some ((d.set a.toNat (domCut (domAt d a) (-1048576) (aM (domAt d b)))).set b.toNat (domCut (domAt d b) (ax (domAt d a)) 1048576))
theorem BN {n:Nat}{us:List Int}{P:(Int->Int)->Prop}(hp: ∀g,P g)(hin: ∀u∈us,0<=u/\u.toNat<n):StepOK n us P some:=
 ⟨⟨λa a' ga he=>by obtain rfl:=D4 he;exact⟨ga,(aY n).refl a⟩,λa a' b ga gb hle he=>by obtain rfl:=D4 he;exact⟨b,rfl,hle⟩⟩,λ_ _ _ _ _ _=>rfl,λa out ga he v _ _=>by obtain rfl:=D4 he;rfl,λ_ _ g _=>⟨λ_=>hp g,λ_=>rfl⟩,hin⟩
theorem CT {n:Nat}{a b:Int}(hab:a≠b)(ha:0<=a/\a.toNat<n)(hb:0<=b/\b.toNat<n):SuppS n [a,b] (λl=>decide (l.getD 0 0<=l.getD 1 0)) (qa a b):=by
 have two: ∀g:Int->Int,(decide ((([a,b]:List Int).map g).getD 0 0<=(([a,b]:List Int).map g).getD 1 0)=true)↔g a<=g b:=λg=>(by simp);have ends: ∀d,GoodD n d->∀v:Int,0<=v/\v.toNat<n->ay (domAt d v)/\ax (domAt d v)∈vals (domAt d v)/\aM (domAt d v)∈vals (domAt d v)/\∀x∈vals (domAt d v),-1048576<=x/\x<=1048576/\ax (domAt d v)<=x/\x<=aM (domAt d v):=λd gd v hv=>by
  obtain⟨h1,h2⟩:=gd.at_ hv.2;have h3:=(gd.few.fine _ (af (v:=v) (by rw[gd.len];exact hv.2))).val;exact⟨h1,fC h1 h2,pj h1 h2,λx hx=>⟨(h3 x hx).1,(h3 x hx).2,ph h1 hx,nT h1 hx⟩⟩
 have pick: ∀(P:Int->Prop) (x y:Int),∃g:Int->Int,g a=x/\g b=y:=λ_ x y=>⟨λu=>if u=a then x else y,D3 Y,D2 (Ne.symm hab)⟩;have hin: ∀u∈[a,b],0<=u/\u.toNat<n:=λu hu=>by
  rcases DQ.1 hu with rfl|hu;·exact ha
  ·rw[DF.1 hu];exact hb
 refine⟨λd out gd he=> ?_,λd gd he g hg=> ?_,hin,by simp⟩
 ·obtain⟨oa,la,ma,va⟩:=ends d gd a ha;obtain⟨ob,lb,mb,vb⟩:=ends d gd b hb;have hal:a.toNat<d.length:=(by rw[gd.len];exact ha.2);have hbl:b.toNat<d.length:=(by rw[gd.len];exact hb.2);unfold qa at he;rw[D2 hab]at he;split at he;·cases he
  ·rename_i hne;obtain rfl:=D4 he;obtain⟨x1,x2⟩:=bQ oa (-1048576) (aM (domAt d b));obtain⟨y1,y2⟩:=bQ ob (ax (domAt d a)) 1048576;generalize domCut (domAt d a) (-1048576) (aM (domAt d b))=x at*;generalize domCut (domAt d b) (ax (domAt d a)) 1048576=y at*;have hd1: ∀v,0<=v->domAt ((d.set a.toNat x).set b.toNat y) v=if v=b then y else if v=a then x else domAt d v:=λv h0=>by
    rw[nY hb.1 (by rw[EL];exact hbl) h0];split;·rfl
    ·rw[nY ha.1 hal h0]
   have s1:Sub (d.set a.toNat x) d:=kO λz hz v hv=>by
    rw[ak hal]at hz;exact D4 hz▸((x2 v).1 hv).1
   have s2:Sub ((d.set a.toNat x).set b.toNat y) (d.set a.toNat x):=kO λz hz v hv=>by
    rw[E4 (by omega),ak hbl]at hz;exact D4 hz▸((y2 v).1 hv).1
   have fx:Fine x:=(gd.few.fine _ (af hal)).cut x1 λv hv=>((x2 v).1 hv).1;have fy:Fine y:=(gd.few.fine _ (af hbl)).cut y1 λv hv=>((y2 v).1 hv).1;have hno: []∉(d.set a.toNat x).set b.toNat y:=λhm=>by
    have h1: []∉d.set a.toNat x:=λhm=>hne (.inl ((dI hal gd.some').1 hm));exact hne (.inr ((dI (by rw[EL];exact hbl) h1).1 hm))
   refine⟨(GoodD.of_sub gd (Sub.trans s2 s1) (iq (iq gd.few.fine fx) fy) hno).1,λv hv z=> ?_,λv h0 hv=> ?_⟩
   ·rcases DQ.1 hv with rfl|hv
    ·rw[hd1 v ha.1,D2 hab,D3 Y,x2];constructor
     ·rintro⟨h1,_,h2⟩;obtain⟨g,g1,g2⟩:=pick (λ_=>True) z (aM (domAt d b));refine⟨g,λu hu=> ?_,(two g).2 (by omega),g1⟩;rcases DQ.1 hu with rfl|hu;·rw[g1];exact h1
      ·rw[DF.1 hu,g2];exact mb
     ·rintro⟨g,g1,g2,rfl⟩;have g2:=(two g).1 g2;have h1:=g1 v (.head _);have h2:=g1 b (.tail _ (.head _));exact⟨h1,(va _ h1).1,by have:=vb _ h2;omega⟩
    ·obtain rfl:=DF.1 hv;rw[hd1 v hb.1,D3 Y,y2];constructor
     ·rintro⟨h1,h2,_⟩;obtain⟨g,g1,g2⟩:=pick (λ_=>True) (ax (domAt d a)) z;refine⟨g,λu hu=> ?_,(two g).2 (by omega),g2⟩;rcases DQ.1 hu with rfl|hu;·rw[g1];exact la
      ·rw[DF.1 hu,g2];exact h1
     ·rintro⟨g,g1,g2,rfl⟩;have g2:=(two g).1 g2;have h1:=g1 a (.head _);have h2:=g1 v (.tail _ (.head _));exact⟨h2,by have:=va _ h1;omega,(vb _ h2).2.1⟩
   ·have n1:v≠b:=λe=>hv (by rw[e];exact .tail _ (.head _));have n2:v≠a:=λe=>hv (by rw[e];exact .head _);rw[hd1 v h0,D2 n1,D2 n2]
 ·refine DC λhle=> ?_;have hle:=(two g).1 (DE hle);have h1:=hg a (.head _);have h2:=hg b (.tail _ (.head _));obtain⟨oa,la,ma,va⟩:=ends d gd a ha;obtain⟨ob,lb,mb,vb⟩:=ends d gd b hb;have v1:=va _ h1;have v2:=vb _ h2;have e1:=((bQ oa (-1048576) (aM (domAt d b))).2 (g a)).2 ⟨h1,by omega,by omega⟩;have e2:=((bQ ob (ax (domAt d a)) 1048576).2 (g b)).2 ⟨h2,by omega,by omega⟩;unfold qa at he;rw[D2 hab]at he;split at he
  ·rename_i hh;rcases hh with hh|hh;·rw[hh]at e1;cases e1
   ·rw[hh]at e2;cases e2
  ·cases he
theorem rJ {n:Nat}{a b:Int}(ha:0<=a/\a.toNat<n)(hb:0<=b/\b.toNat<n):StepOK n [a,b] (λg=>g a<=g b) (qa a b):=by
 by_cases hab:a=b
 ·refine StepOK.congr (BN (λg=>by rw[hab];exact EW _) λu hu=> ?_) λd _=>(by unfold qa;rw[D3 hab]);rcases DQ.1 hu with rfl|hu;·exact ha
  ·rw[DF.1 hu];exact hb
 ·exact(CT hab ha hb).step.iff λg=>by simp
def mN (c:Con)(k:Nat)(d:aa):Bool:=(List.range k).all (dT d c)
def vB (c:Con)(k:Nat)(d:aa):Option aa:=if mN c k d=true then qa (varAt c k) (varAt c (halfOf c+k)) d else some d
structure LexC (n:Nat)(c:Con):Prop where
 vin: ∀v∈c.vars,0<=v/\v.toNat<n
theorem jd {n:Nat}{c:Con}(h:LexC n c){d:aa}(gd:GoodD n d){j:Nat}(hj:j<halfOf c):dT d c j=true↔varAt c j=varAt c (halfOf c+j)∨∃x,vals (domAt d (varAt c j))=[x]/\vals (domAt d (varAt c (halfOf c+j)))=[x]:=by
 have hh:=jG c;have o1:=gd.at_ (h.vin _ (aJ (c:=c) (k:=j) (by omega))).2;have o2:=gd.at_ (h.vin _ (aJ (c:=c) (k:=halfOf c+j) (by omega))).2;unfold dT;rw[wX o1.1 o2.1];refine or_congr_right ⟨?_,?_⟩
 ·rintro⟨h1,h2⟩;obtain⟨x,hx⟩:=Fm.1 h1;exact⟨x,hx,by rw[<-h2,hx]⟩
 ·rintro⟨x,h1,h2⟩;exact⟨by rw[h1];rfl,iE o1.1 o2.1 (by rw[h1,h2])⟩
theorem rI {n:Nat}{c:Con}(h:LexC n c){k:Nat}(hk:k<halfOf c):StepOK n c.vars (λg=>(∀j,j<k->g (varAt c j)=g (varAt c (halfOf c+j)))->g (varAt c k)<=g (varAt c (halfOf c+k))) (vB c k):=by
 have hh:=jG c;have m1: ∀j,j<halfOf c->varAt c j∈c.vars/\varAt c (halfOf c+j)∈c.vars:=λj hj=>⟨aJ (by omega),aJ (by omega)⟩;obtain⟨ha,hb⟩:=m1 k hk;refine StepOK.guard (C:=mN c k) ((rJ (h.vin _ ha) (h.vin _ hb)).wide (λu hu=> ?_) h.vin) (λa b ga gb hle hc=> ?_) (λa b ga gb hab=> ?_) (λe ge g he=> ?_)
 ·rcases DQ.1 hu with rfl|hu;·exact ha
  ·rw[DF.1 hu];exact hb
 ·refine DJ.2 λj hj=> ?_;have hj':=DO.1 hj;have hjh:j<halfOf c:=(by omega);obtain⟨v1,v2⟩:=m1 j hjh;have:=(jd h gb hjh).1 (DJ.1 hc j hj);refine(jd h ga hjh).2 (this.imp id ?_);rintro⟨x,h1,h2⟩;have key: ∀v∈c.vars,vals (domAt b v)=[x]->vals (domAt a v)=[x]:=λv hv e=>by
   have hn:=h.vin v hv;obtain⟨y,hy⟩:=ga.ne hn.2;have hsub: ∀z∈vals (domAt a v),z=x:=λz hz=>by
    have:=hle.2 v z hn.1 hz;rw[e]at this;exact DF.1 this
   exact dD (aE (ga.at_ hn.2).1) (Ey _ _) λz=>⟨λhz=>DF.2 (hsub z hz),λhz=>by rw[DF.1 hz,<-hsub y hy];exact hy⟩
  exact⟨x,key _ v1 h1,key _ v2 h2⟩
 ·unfold mN;rw[FZ,DJ,DJ];refine forall_congr' λj=>imp_congr_right λhj=> ?_;have hj':=DO.1 hj;obtain⟨v1,v2⟩:=m1 j (by omega);unfold dT;rw[hab _ v1,hab _ v2]
 ·unfold mN;rw[DJ];refine forall_congr' λj=> ?_;rw[DO];refine imp_congr_right λhj=> ?_;obtain⟨v1,v2⟩:=m1 j (by omega);rw[jd h ge (by omega),he _ v1,he _ v2];constructor
  ·rintro(e|⟨x,h1,h2⟩);·rw[e]
   ·rw[(List.cons.inj h1).1,(List.cons.inj h2).1]
  ·exact λe=> .inr ⟨_,rfl,by rw[e]⟩
theorem AG {n:Nat}{c:Con}(h:LexC n c)(d0:aa): ∀(N:Nat) (d:aa) (R:Option aa),Come leD (GoodD n) (vB c) (List.range (halfOf c)) d0 d->cE (dH c) N d=some R->ep leD (GoodD n) (vB c) (List.range (halfOf c)) d0 R:=by
 intro N
 induction N using Nat.strongRecOn with
 |_ N ih=>
  intro d R hd hR;have hh:=jG c;have known: ∀k,k<halfOf c->dT d c k=true->qa (varAt c k) (varAt c (halfOf c+k)) d=some d:=λk hk hp=>by
   have v1:=h.vin _ (aJ (c:=c) (k:=k) (by omega));have v2:=h.vin _ (aJ (c:=c) (k:=halfOf c+k) (by omega));rcases (jd h hd.fine hk).1 hp with e|⟨x,h1,h2⟩;·unfold qa;rw[D3 e]
   ·refine((rJ v1 v2).point d hd.fine (λ_=>x) λu hu=> ?_).2 (EW _);rcases DQ.1 hu with rfl|hu;·exact h1
    ·rw[DF.1 hu];exact h2
  have stay: ∀k,k<halfOf c->dT d c k=true->vB c k d=some d:=λk hk hp=>by
   unfold vB;rw[known k hk hp,ite_self]
  by_cases hk:placeO d c=halfOf c
  ·have hst:dH c d= .inl (some d):=(by unfold dH;rw[D3 hk]);obtain rfl:=bf hR hst;refine⟨hd,λk hk2=> ?_⟩;have hk2:=DO.1 hk2;exact stay k hk2 (jT (p:=dT d c) (h:=halfOf c) (j:=k) (by unfold placeO at hk;omega))
  ·have hkl:placeO d c<halfOf c:=(by have:=mj (dT d c) (halfOf c);unfold placeO at hk⊢;omega);have hn:dT d c (placeO d c)=false:=m8 hkl;have hbf: ∀j,j<placeO d c->dT d c j=true:=λj hj=>jT hj;have hst:dH c d=(if domCut (domAt d (varAt c (placeO d c))) (-1048576) (aM (domAt d (varAt c (halfOf c+placeO d c))))=[]∨domCut (domAt d (varAt c (halfOf c+placeO d c))) (ax (domAt d (varAt c (placeO d c)))) 1048576=[]then .inl none else
    if domCut (domAt d (varAt c (placeO d c))) (-1048576) (aM (domAt d (varAt c (halfOf c+placeO d c))))=domAt d (varAt c (placeO d c))/\domCut (domAt d (varAt c (halfOf c+placeO d c))) (ax (domAt d (varAt c (placeO d c)))) 1048576=domAt d (varAt c (halfOf c+placeO d c))then .inl (some d)else
    .inr ((d.set (varAt c (placeO d c)).toNat (domCut (domAt d (varAt c (placeO d c))) (-1048576) (aM (domAt d (varAt c (halfOf c+placeO d c)))))).set (varAt c (halfOf c+placeO d c)).toNat (domCut (domAt d (varAt c (halfOf c+placeO d c))) (ax (domAt d (varAt c (placeO d c)))) 1048576))):=by
    unfold dH;rw[D2 hk]
   generalize placeO d c=k at*;have v1:=h.vin _ (aJ (c:=c) (k:=k) (by omega));have v2:=h.vin _ (aJ (c:=c) (k:=halfOf c+k) (by omega));have hab:varAt c k≠varAt c (halfOf c+k):=λe=>by
    rw[(jd h hd.fine hkl).2 (.inl e)]at hn;cases hn
   have hah:mN c k d=true:=DJ.2 λj hj=>hbf j (DO.1 hj);have hcut:vB c k d=qa (varAt c k) (varAt c (halfOf c+k)) d:=D3 hah;have htk:=(rI h hkl).takes;unfold qa at hcut;rw[D2 hab]at hcut;by_cases e1:domCut (domAt d (varAt c k)) (-1048576) (aM (domAt d (varAt c (halfOf c+k))))=[]∨domCut (domAt d (varAt c (halfOf c+k))) (ax (domAt d (varAt c k))) 1048576=[]
   ·rw[D3 e1]at hst hcut;obtain rfl:=bf hR hst;exact hd.none (c:=k) (DO.2 hkl) htk hcut
   ·rw[D2 e1]at hst hcut;by_cases e2:domCut (domAt d (varAt c k)) (-1048576) (aM (domAt d (varAt c (halfOf c+k))))=domAt d (varAt c k)/\domCut (domAt d (varAt c (halfOf c+k))) (ax (domAt d (varAt c k))) 1048576=domAt d (varAt c (halfOf c+k))
    ·rw[D3 e2]at hst;obtain rfl:=bf hR hst;refine⟨hd,λj hj=> ?_⟩;have hj:=DO.1 hj;by_cases hjk:j<k;·exact stay j hj (hbf j hjk)
     ·by_cases e:j=k
      ·subst e;rw[hcut,e2.1,e2.2,qx (by rw[hd.fine.len];exact v1.2),qx (by rw[hd.fine.len];exact v2.2)]
      ·have:mN c j d=false:=by
        rw[<-Gr];intro ht;have:=DJ.1 ht k (DO.2 (by omega));rw[hn]at this;cases this
       unfold vB;rw[this];rfl
    ·rw[D2 e2]at hst;obtain⟨m,hm,hR2⟩:=gP hR hst;exact ih m hm _ R (hd.step (aY n) (c:=k) (DO.2 hkl) htk hcut) hR2
open Classical in
noncomputable def wV (c:Con)(d:aa):Option aa:=if h: ∃R:Option aa,∃N,cE (dH c) N d=some R then h.choose else none
theorem uP {c:Con}{d:aa}{R:Option aa}{N:Nat}(h:cE (dH c) N d=some R):R=wV c d:=by
 have hex: ∃R:Option aa,∃N,cE (dH c) N d=some R:=⟨R,N,h⟩;obtain⟨M,hM⟩:=hex.choose_spec;unfold wV;rw[dif_pos hex];exact pq h hM
theorem ui: ∀(xs ys:List Int),xs.length=ys.length->(dx xs ys<=0↔∀k,k<xs.length->(∀j,j<k->xs.getD j 0=ys.getD j 0)->xs.getD k 0<=ys.getD k 0)
 | [],[],_=>by simp[dx]
 | [],_::_,h=>by simp at h
 |_::_,[],h=>by simp at h
 |x::xs,y::ys,h=>by
  rw[dx];have ih:=ui xs ys (by simpa using h);by_cases h1:x<y
  ·rw[D3 h1];refine⟨λ_ k hk he=> ?_,λ_=>by omega⟩;cases k with
   |zero=>simp;omega
   |succ k=>have:=he 0 (by omega);simp at this;omega
  ·rw[D2 h1];by_cases h2:y<x
   ·rw[D3 (by omega)];refine⟨λh=>by omega,λhh=> ?_⟩;have:=hh 0 (by simp) (λj hj=>by omega);simp at this;omega
   ·rw[D2 (by omega)];have e:x=y:=(by omega);subst e;rw[ih];constructor
    ·intro hh k hk he;cases k with
     |zero=>simp
     |succ k=>
      have:=hh k (by simpa using hk) λj hj=>(by simpa using he (j+1) (by omega));simpa using this
    ·intro hh k hk he;have:=hh (k+1) (by simpa using hk) λj hj=>by
      cases j with
      |zero=>simp
      |succ j=>simpa using he j (by omega)
     simpa using this
theorem AF {n:Nat}{c:Con}(h:LexC n c)(hl:c.vars.length*8<=140737488355328)(heven:c.vars.length % 2=0):StepOK n c.vars (λg=>dx ((c.vars.map g).take (c.vars.length / 2)) ((c.vars.map g).drop (c.vars.length / 2))<=0) (wV c):=by
 have hE: ∀d,GoodD n d->ep leD (GoodD n) (vB c) (List.range (halfOf c)) d (wV c d):=λd gd=>by
  obtain⟨R,N,h1,_⟩:=qC (c:=c) (d:=d) ⟨hl,λv hv=>by rw[gd.len];exact h.vin v hv⟩ gd.few.fine;rw[D2 gd.some']at h1;rw[<-uP h1];exact AG h d N d R (Come.refl (aY n) gd) h1
 refine(ep.step hE (λk hk=>rI h (DO.1 hk)) h.vin).iff λg=> ?_;have hh:c.vars.length=halfOf c+halfOf c:=(by unfold halfOf;omega);have e:c.vars.length / 2=halfOf c:=rfl;have x1:((c.vars.map g).take (halfOf c)).length=halfOf c:=(by simp;omega);have y1:((c.vars.map g).drop (halfOf c)).length=halfOf c:=(by simp;omega);have x2: ∀k,k<halfOf c->((c.vars.map g).take (halfOf c)).getD k 0=g (varAt c k):=λk hk=>by
  unfold varAt;rw[D0,D0,Ew,D3 hk,DG,D1 (by omega)];rfl
 have y2: ∀k,k<halfOf c->((c.vars.map g).drop (halfOf c)).getD k 0=g (varAt c (halfOf c+k)):=λk hk=>by
  unfold varAt;rw[D0,D0,Fu,DG,D1 (by omega)];rfl
 rw[e,ui _ _ (by rw[x1,y1]),x1];constructor
 ·intro hp k hk he;rw[x2 k hk,y2 k hk];exact hp k (DO.2 hk) λj hj=>by
   have:=he j hj;rwa[x2 j (by omega),y2 j (by omega)]at this
 ·intro hp k hk he;have hk:=DO.1 hk;have:=hp k hk λj hj=>(by rw[x2 j (by omega),y2 j (by omega)];exact he j hj);rwa[x2 k hk,y2 k hk]at this
theorem FewD.smallD {d:aa}(h:FewD d):ju d:=⟨h.small,λx hx=>by have:=(h.fine x hx).len;omega⟩
theorem j4.few {d:aa}(h:FewD d){vars:List Int}(hv:j4 d vars):vars.length*24<=140737488355328:=by
 have:vars.length<=d.length:=by
  have h1:(vars.map Int.toNat).Nodup:=fB hv.1 λx hx y hy e=>by
   have:=(hv.2 x hx).1;have:=(hv.2 y hy).1;omega
  have h2:=mq h1 (b:=List.range d.length) λk hk=>by
   obtain⟨v,hv2,rfl⟩:=DD.1 hk;exact DO.2 (hv.2 v hv2).2
  simpa using h2
 have:=h.small;omega
theorem vT (d:aa)(vars:List Int)(h:FewD d)(hv:j4 d vars)(hne:vars≠[]):Spec Tryz.prog 133 false [aH d,.agg (cC (BU vars))] (aX (ij d vars)):=by
 have:=tt d (BU vars) h.smallD h.valD.inb h.valD.len hv.2 (hv.few h);rw[show(BU vars).vars=vars from Y,Ag h hv hne]at this;exact this
theorem AS {a b:Int}(h:a<=b)(h1: -1048576<=a)(h2:b<=1048576):Fine [(a,b)]:=by
 have hv:vals [(a,b)]=rng a b:=by
  show rng a b++[]=_;rw[F5]
 refine⟨⟨λr hr=> ?_,by simp⟩,?_,?_⟩;·obtain rfl:=DF.1 hr;exact h
 ·rw[hv];intro v hm;have:=cB.1 hm;omega
 ·rw[hv];simp[rng];omega
def kg (n:Nat)(g:Int->Int):List Int:=(List.range n).map λj:Nat=>g (j:Int)
theorem Bd (n:Nat)(g:Int->Int):(kg n g).length=n:=by simp[kg]
theorem l6 {n:Nat}{g:Int->Int}{v:Int}(h:0<=v/\v.toNat<n):atR (kg n g) v=g v:=by
 unfold atR kg;rw[D2 (by omega),D0,DG,F4 h.2];show g ((v.toNat:Nat):Int)=g v;congr 1;omega
theorem zS {n:Nat}{a:List Int}(h:a.length=n):kg n (atR a)=a:=by
 subst h;refine Fq (Bd _ _) λi h1 h2=> ?_;simp only[kg,Fr,List.getElem_range];unfold atR;rw[D2 (by omega)];simp[D0,h2]
theorem sd {vars a b:List Int}(h: ∀u∈vars,atR a u=atR b u):pickedR vars a=pickedR vars b:=EV h
theorem v6 {vars coefs a b:List Int}(h: ∀u∈vars,atR a u=atR b u):sumW vars coefs a=sumW vars coefs b:=by
 unfold sumW;have: ∀(l:List (Int×Int)) (n:Int),(∀p∈l,atR a p.1=atR b p.1)->l.foldl (λn p=>IntKind.i64.wrap (n+IntKind.i64.wrap (p.2*atR a p.1))) n=l.foldl (λn p=>IntKind.i64.wrap (n+IntKind.i64.wrap (p.2*atR b p.1))) n:=by
  intro l
  induction l with
  |nil=>intro n _;rfl
  |cons p l ih=>
   intro n hp;rw[DX,DX,hp p (.head _)];exact ih _ λq hq=>hp q (.tail _ hq)
 exact this _ _ λp hp=>h _ (E8 hp).1
theorem uses_mem {c:Con}{u:Int}:u∈usesR c↔u∈c.vars∨c.kind=4/\u=c.b:=by
 unfold usesR;rw[bJ];split;·rename_i h;simp[h]
 ·rename_i h;simp[h]
theorem u5 {c:Con}{a b:List Int}(h: ∀u∈usesR c,atR a u=atR b u):aV c a=aV c b:=by
 have hv: ∀u∈c.vars,atR a u=atR b u:=λu hu=>h u (uses_mem.2 (.inl hu));have e1:=sd hv;have e2:soR c a=soR c b:=(by unfold soR;rw[v6 hv]);unfold aV w6;rw[e1,e2];by_cases hk:c.kind=4;·rw[h c.b (uses_mem.2 (.inr ⟨hk,rfl⟩))]
 ·simp only[D2 hk]
theorem kj {vars coefs a:List Int}{g:Int->Int}(hl:vars.length=coefs.length)(hck: ∀k∈coefs,CoefOk k)(hw:ai coefs<=4611686018427388928)(ha: ∀u∈vars,atR a u=g u)(hb: ∀u∈vars,-1048576<=g u/\g u<=1048576):sumW vars coefs a=dz vars coefs g:=by
 have key: ∀(l:List (Int×Int)) (n:Int),(∀p∈l,atR a p.1=g p.1/\(-1048576<=g p.1/\g p.1<=1048576)/\CoefOk p.2)->-4611686018427388928<=n-ai (l.map (·.2))->n+ai (l.map (·.2))<=4611686018427388928->
   l.foldl (λn p=>IntKind.i64.wrap (n+IntKind.i64.wrap (p.2*atR a p.1))) n=n+(l.map λp=>p.2*g p.1).sum:=by
  intro l
  induction l with
  |nil=>intro n _ _ _;simp
  |cons p l ih=>
   intro n hp h1 h2;obtain⟨e,b,hk⟩:=hp p (.head _);have m:=dW p.2 (g p.1) b.1 b.2;have hk2:=hk.2;have hpos:=aT (l.map (·.2));have ew:ai ((p::l).map (·.2))=aF p.2*1048576+ai (l.map (·.2)):=(by simp[ai]);rw[ew]at h1 h2;have hab:=bu p.2;rw[DX,e,ac (n:=p.2*g p.1) (by omega) (by omega),ac (by omega) (by omega),ih _ (λq hq=>hp q (.tail _ hq)) (by omega) (by omega)];simp only[DZ,Ej];omega
 have e:(vars.zip coefs).map (·.2)=coefs:=List.map_snd_zip (by omega);have hp:=aT coefs;unfold sumW dz;rw[key _ 0 (λp hp=>⟨ha _ (E8 hp).1,hb _ (E8 hp).1,hck _ (E8 hp).2⟩) (by rw[e];omega) (by rw[e];omega),GR]
theorem StepOK.iff' {n:Nat}{us:List Int}{P Q:(Int->Int)->Prop}{f:aa->Option aa}(h:StepOK n us P f)(hq: ∀g:Int->Int,(∀u∈us,-1048576<=g u/\g u<=1048576)->(P g↔Q g)):StepOK n us Q f:=by
 refine⟨h.takes,h.stays,h.off,λe ge g he=>(h.point e ge g he).trans (hq g λu hu=> ?_),h.in'⟩;have hm:domAt e u∈e:=af (by rw[ge.len];exact(h.in' u hu).2);exact(ge.few.fine _ hm).val _ (by rw[he u hu];exact .head _)
theorem nodup_full: ∀(l s:List Int),s.Nodup->(∀x∈s,x∈l)->l.length<=s.length->l.Nodup
 | [],_,_,_,_=> .nil
 |x::l,s,hs,hm,hl=>by
  have hx:x∉l:=λhx=>by
   have:=hs.length_le_of_subset (l₂:=l) λy hy=>by
    rcases DQ.1 (hm y hy)with rfl|h;·exact hx
    ·exact h
   simp at hl;omega
  have h2: ∀y∈s.erase x,y∈l:=λy hy=>by
   have:=(hs.mem_erase_iff).1 hy;exact(DQ.1 (hm y this.2)).resolve_left this.1
  have h3:=List.length_erase_le (l:=s) (a:=x);have h4:s.length-1<=(s.erase x).length:=by
   rw[List.length_erase];split<;>omega
  exact EN.2 ⟨hx,nodup_full l (s.erase x) (hs.erase x) h2 (by simp at hl;omega)⟩
theorem l7 {l:List Int}:(aW l).length=l.length↔l.Nodup:=by
 constructor
 ·intro h;exact nodup_full l (aW l) (dy (b9 l)) (λx hx=>(bJ x l).1 hx) (by omega)
 ·intro h;have h1:=(dy (b9 l)).length_le_of_subset (l₂:=l) λx hx=>(bJ x l).1 hx;have h2:=h.length_le_of_subset (l₂:=aW l) λx hx=>(bJ x l).2 hx;omega
noncomputable def bK (c:Con)(d:aa):Option aa:=
 if c.kind=0 then gN c d else
 if c.kind=1 then ij d c.vars else
 if c.kind=4 then oL c d else
 if c.kind=6 then wV c d else
 lG d (usesR c) λt=>aV c (eC d.length (usesR c) t (usesR c).length)
theorem xE {n:Nat}{d:aa}{c:Con}(gd:GoodD n d)(h:SumOk d c):LinC n c:=by
 have hv:j4 d c.vars:=⟨h.nod,h.fine.vin⟩;exact⟨⟨h.fine.len,λv hv=>by have:=h.fine.vin v hv;rwa[gd.len]at this,h.fine.ck,h.nod,h.big,hv.few gd.few⟩,h.pos,h.op⟩
theorem cO {d:aa}{c:Con}(hc:ConB c)(h:conR d c=0):(0<=c.kind/\c.kind<=6)/\cK d c/\rightR d c=true/\∀u∈usesR c,0<=u/\u.toNat<d.length:=by
 obtain⟨h1,h2⟩:=pP hc h;unfold conR at h;split at h;·cases h
 ·split at h;·cases h
  ·rename_i h3 h4;refine⟨by omega,h1,h2,λu hu=> ?_⟩;have h4:(usesR c).all (inD d)=true:=(by simpa using h4);exact lK.1 (DJ.1 h4 u hu)
theorem zf {n:Nat}{c:Con}(hin: ∀u∈usesR c,0<=u/\u.toNat<n)(hne:usesR c≠[]):StepOK n (usesR c) (λg=>aV c (kg n g)=true) λd=>lG d (usesR c) λt=>aV c (eC d.length (usesR c) t (usesR c).length):=by
 have hnd:(usesR c).Nodup:=dy (b9 _);refine((CR (P:=λt=>aV c (eC n (usesR c) t (usesR c).length)) hnd hin hne).step.congr λd gd=>by rw[gd.len]).iff λg=> ?_;rw[u5 (b:=kg n g) λu hu=> ?_];rw[l6 (hin u hu)];exact lQ g hin hu
def RightC (d:aa)(c:Con):Prop:=conR d c=0∨(c.kind=0/\SumOk d c)
theorem qy {d:aa}{c:Con}(hc:ConB c)(h:RightC d c):(0<=c.kind/\c.kind<=6)/\cK d c/\∀u∈usesR c,0<=u/\u.toNat<d.length:=by
 rcases h with h|⟨hk,hs⟩
 ·obtain⟨h1,h2,_,h3⟩:=cO hc h;exact⟨h1,h2,h3⟩
 ·refine⟨by omega,⟨hs.fine.vl,hs.fine.vin⟩,λu hu=> ?_⟩;rcases uses_mem.1 hu with hu|⟨h4,_⟩;·exact hs.fine.vin u hu
  ·omega
theorem y0 {n:Nat}{d:aa}{c:Con}(gd:GoodD n d)(hc:ConB c)(h:conR d c=0):StepOK n (usesR c) (λg=>(c.kind=4->0<=g c.b/\g c.b<=1)->aV c (kg n g)=true) (bK c):=by
 obtain⟨hk,hv,hr,hin⟩:=cO hc h;rw[gd.len]at hin;have hpick: ∀g:Int->Int,pickedR c.vars (kg n g)=c.vars.map g:=λg=>EV λu hu=>l6 (hin u (uses_mem.2 (.inl hu)));have hvu: ∀u∈c.vars,u∈usesR c:=λu hu=>uses_mem.2 (.inl hu);have hdl:=gd.few.small;by_cases h0:c.kind=0
 ·have hs:=xE gd (r5 hc h h0 gd.few.fine hdl);refine(((lE hs).wide hvu hin).congr λd gd=>by unfold bK;rw[D3 h0]).iff' λg hg=> ?_;have hb:=hs.sum.big;have:=bu c.rhs;unfold aV soR;rw[D3 h0,kj hs.sum.vl hs.sum.ck (by omega) (λu hu=>l6 (hin u (hvu u hu))) λu hu=>hg u (hvu u hu)];exact⟨λh _=>h,λh=>h λe=>by omega⟩
 ·by_cases h1:c.kind=1
  ·have hm:0<c.vars.length/\c.vars.Nodup:=by
    unfold rightR at hr;rw[D2 h0,D3 h1]at hr;simp only[manyR,DH,DM]at hr;exact hr.2
   refine(((CS (n:=n) ⟨hm.2,λv hv=>hin v (hvu v hv)⟩ (G1 hm.1)).step.wide hvu hin).congr λd gd=>by unfold bK;rw[D2 h0,D3 h1]).iff λg=> ?_;unfold aV;rw[D2 h0,D3 h1,hpick,DM,DM,l7];exact⟨λh _=>h,λh=>h λe=>by omega⟩
  ·by_cases h4:c.kind=4
   ·have hrf:=xN hc h h4 gd.few.fine hdl;have hrc:ReifC n c:=by
     refine⟨xE gd hrf.sum,xE gd hrf.sumN,by have:=hrf.b;rwa[gd.len]at this,hrf.apart,?_⟩;obtain⟨_,hbg⟩:=mM (iH h);have:=aT c.coefs;omega
    have hu4: ∀u∈c.vars++[c.b],u∈usesR c:=λu hu=>by
     rcases DT.1 hu with hu|hu;·exact hvu u hu
     ·exact uses_mem.2 (.inr ⟨h4,DF.1 hu⟩)
    refine(((yL hrc).wide hu4 hin).congr λd gd=>by unfold bK;rw[D2 h0,D2 h1,D3 h4]).iff' λg hg=> ?_;have hs:=hrc.yes.sum;have hb:ai c.coefs<=4611686018427388928/\aF c.rhs<=4611686018427388928:=hs.big;have:=bu c.rhs;have e1:sumW c.vars c.coefs (kg n g)=dz c.vars c.coefs g:=kj hs.vl hs.ck (by omega) (λu hu=>l6 (hin u (hvu u hu))) λu hu=>hg u (hvu u hu);have e2:atR (kg n g) c.b=g c.b:=l6 hrc.b;unfold aV soR;rw[D2 h0,D2 h1,D2 (by omega),D2 (by omega),D3 h4,e1,e2];simp only[FB,DH,DM,Ed];exact⟨λh hh=>h (hh h4),λh hh=>h λ_=>hh⟩
   ·by_cases h6:c.kind=6
    ·have hev:c.vars.length % 2=0:=by
      unfold rightR at hr;rw[D2 h0,D2 h1,D2 (by omega),D2 (by omega),D2 h4,D2 (by omega)]at hr;simp only[DH,DM]at hr;exact hr.2
     refine(((AF (n:=n) ⟨λv hv=>hin v (hvu v hv)⟩ hv.1 hev).wide hvu hin).congr λd gd=>by unfold bK;rw[D2 h0,D2 h1,D2 h4,D3 h6]).iff λg=> ?_;unfold aV w6;rw[D2 h0,D2 h1,D2 (by omega),D2 (by omega),D2 h4,D2 (by omega),hpick,DM];exact⟨λh _=>h,λh=>h λe=>by omega⟩
    ·have hne:usesR c≠[]:=by
      have hpos:0<c.vars.length:=by
       unfold rightR at hr;rw[D2 h0,D2 h1]at hr;by_cases h2:c.kind=2
       ·rw[D3 h2]at hr;simp only[manyR,DH,DM]at hr;exact hr.1.2.1
       ·rw[D2 h2]at hr;by_cases h3:c.kind=3
        ·rw[D3 h3]at hr;simp only[manyR,DH,DM]at hr;omega
        ·rw[D2 h3,D2 h4,D3 (by omega)]at hr;simp only[sumR,DH,DM]at hr;exact hr.1.2.1.1.2
      intro e;have:=hvu _ (D8 hpos);rw[e]at this;cases this
     refine((zf hin hne).congr λd gd=>by unfold bK;rw[D2 h0,D2 h1,D2 h4,D2 h6]).iff λg=> ?_;exact⟨λh _=>h,λh=>h λe=>DS e h4⟩
theorem ul {n:Nat}{d:aa}{c:Con}(gd:GoodD n d)(hc:ConB c)(h:RightC d c):StepOK n (usesR c) (λg=>(c.kind=4->0<=g c.b/\g c.b<=1)->aV c (kg n g)=true) (bK c):=by
 rcases h with h|⟨h0,hs⟩;·exact y0 gd hc h
 ·obtain⟨_,_,hin⟩:=qy hc (.inr ⟨h0,hs⟩);rw[gd.len]at hin;have hvu: ∀u∈c.vars,u∈usesR c:=λu hu=>uses_mem.2 (.inl hu);have hs:=xE gd hs;refine(((lE hs).wide hvu hin).congr λd gd=>by unfold bK;rw[D3 h0]).iff' λg hg=> ?_;have hb:=hs.sum.big;unfold aV soR;rw[D3 h0,kj hs.sum.vl hs.sum.ck (by omega) (λu hu=>l6 (hin u (hvu u hu))) λu hu=>hg u (hvu u hu)];exact⟨λh _=>h,λh=>h λe=>by omega⟩
def dk:List Nat->Nat
 | []=>1
 |n::l=>n*dk l
theorem fe: ∀(l m:List Nat),dk (l++m)=dk l*dk m
 | [],m=>by simp[dk]
 |n::l,m=>by rw[Ez,dk,dk,fe l m,Nat.mul_assoc]
theorem qD: ∀{l:List Nat},(∀x∈l,1<=x)->1<=dk l
 | [],_=>DL _
 |n::l,h=>Nat.mul_pos (h n (.head _)) (qD λx hx=>h x (.tail _ hx))
def prodD (d:aa):Nat:=dk (d.map λx=>(vals x).length)
theorem oQ (d:aa)(x:List (Int×Int)):prodD (d++[x])=prodD d*(vals x).length:=by
 unfold prodD;rw[EP,fe];simp[dk]
theorem nt (D:aa): ∀n,n<=D.length->(bj D n).length=prodD (D.take n)
 |0,_=>rfl
 |n+1,hn=>by
  have ih:=nt D n (by omega);have: ∀(l:List (List Int)) (v:List Int),(l.flatMap λa=>v.map λv=>a++[v]).length=l.length*v.length:=by
   intro l v
   induction l with
   |nil=>simp
   |cons a l ih=>rw[FG,DW,ih,D9,E0,Fl];omega
  rw[bj,this,ih,DB (by omega),oQ,D0,D1 (by omega)];rfl
theorem Ah {a b:aa}(hl:a.length=b.length)(h: ∀(i:Nat) x y,a[i]? =some x->b[i]? =some y->(vals x).length<=(vals y).length):prodD a<=prodD b:=by
 induction a generalizing b with
 |nil=>
  cases b with
  |nil=>exact DL _
  |cons y b=>simp at hl
 |cons x a ih=>
  cases b with
  |nil=>simp at hl
  |cons y b=>exact H5 (h 0 x y Y Y) (ih (by simpa using hl) λi u v hu hv=>h (i+1) u v hu hv)
theorem GoodD.one {n:Nat}{d:aa}(h:GoodD n d): ∀x∈d,1<=(vals x).length:=λx hx=>by
 have hok:=(h.few.fine x hx).ok;have:vals x≠[]:=λe=>h.some' ((e6 hok).1 e▸hx);exact G5.2 this
theorem yP {n:Nat}{a b:aa}(ha:GoodD n a)(hb:GoodD n b)(h:leD a b):prodD a<=prodD b:=by
 refine Ah (ha.len.trans hb.len.symm) λi x y hx hy=> ?_;have hi:=(D5.1 hx).1;have hj:=(D5.1 hy).1;have h1:=(ha.few.fine x (D7 hx)).ok;refine bV (aE h1) λv hv=> ?_;have:=h.2 (i:Int) v (by omega) (by rw[pK hi,(D5.1 hx).2];exact hv);rwa[pK hj,(D5.1 hy).2]at this
end Go.Proofs.YtopcjbahjjhdmaaGreat
namespace Go.Proofs.YtopcjbahjjhdmaaGreat
open Go Go.Shelf Go.RowKit
def p8:Go.Shelf.Ren:=⟨fun|6=>228|15=>124|14=>242|28=>165|29=>166|20=>244|21=>245|22=>246|23=>247|24=>248|25=>249|26=>250|27=>251|46=>252|47=>216|48=>217|49=>253|50=>254|57=>255|n=>n,fun|22=>54|24=>53|25=>215|3=>3|39=>146|0=>0|53=>173|55=>159|4=>4|46=>166|45=>165|50=>115|5=>5|9=>9|66=>204|70=>208|76=>221|77=>222|n=>n,fun|n=>n⟩
theorem qT:Go.Proofs.SlLaysF0.n6 Tryz.prog p8:= {
 mixed:=by kernel_rfl
 f6:=⟨Tryz.f228.name,by decide,Tryz.func228.trans (congrArg some (by kernel_rfl))⟩
 f14:=⟨Tryz.f242.name,by decide,Tryz.func242.trans (congrArg some (by kernel_rfl))⟩
 f15:=Tryz.func124.trans (congrArg some (by kernel_rfl))
 f20:=⟨Tryz.f244.name,by decide,Tryz.func244.trans (congrArg some (by kernel_rfl))⟩
 f21:=⟨Tryz.f245.name,by decide,Tryz.func245.trans (congrArg some (by kernel_rfl))⟩
 f22:=⟨Tryz.f246.name,by decide,Tryz.func246.trans (congrArg some (by kernel_rfl))⟩
 f23:=⟨Tryz.f247.name,by decide,Tryz.func247.trans (congrArg some (by kernel_rfl))⟩
 f24:=⟨Tryz.f248.name,by decide,Tryz.func248.trans (congrArg some (by kernel_rfl))⟩
 f25:=⟨Tryz.f249.name,by decide,Tryz.func249.trans (congrArg some (by kernel_rfl))⟩
 f26:=⟨Tryz.f250.name,by decide,Tryz.func250.trans (congrArg some (by kernel_rfl))⟩
 f27:=⟨Tryz.f251.name,by decide,Tryz.func251.trans (congrArg some (by kernel_rfl))⟩
 f28:=Tryz.func165.trans (congrArg some (by kernel_rfl))
 f29:=Tryz.func166.trans (congrArg some (by kernel_rfl))
 f46:=⟨Tryz.f252.name,by decide,Tryz.func252.trans (congrArg some (by kernel_rfl))⟩
 f47:=Tryz.func216.trans (congrArg some (by kernel_rfl))
 f48:=Tryz.func217.trans (congrArg some (by kernel_rfl))
 f49:=⟨Tryz.f253.name,by decide,Tryz.func253.trans (congrArg some (by kernel_rfl))⟩
 f50:=⟨Tryz.f254.name,by decide,Tryz.func254.trans (congrArg some (by kernel_rfl))⟩
 f57:=⟨Tryz.f255.name,by decide,Tryz.func255.trans (congrArg some (by kernel_rfl))⟩
 t0:=Tryz.underlying0
 a0:=Tryz.isAgg0
 z0:=Tryz.sizeOf0
 v0:=Tryz.zeroValue0
 t3:=Tryz.underlying3
 a3:=Tryz.isAgg3
 z3:=Tryz.sizeOf3
 v3:=Tryz.zeroValue3
 t4:=Tryz.underlying4
 a4:=Tryz.isAgg4
 z4:=Tryz.sizeOf4
 v4:=Tryz.zeroValue4
 t5:=Tryz.underlying5
 a5:=Tryz.isAgg5
 z5:=Tryz.sizeOf5
 v5:=Tryz.zeroValue5
 t9:=Tryz.underlying9
 a9:=Tryz.isAgg9
 z9:=Tryz.sizeOf9
 v9:=Tryz.zeroValue9
 t22:=Tryz.underlying54
 a22:=Tryz.isAgg54
 z22:=Tryz.sizeOf54
 v22:=Tryz.zeroValue54
 t25:=Tryz.underlying215
 a25:=Tryz.isAgg215
 z25:=Tryz.sizeOf215
 v25:=Tryz.zeroValue215
 t39:=Tryz.underlying146
 a39:=Tryz.isAgg146
 z39:=Tryz.sizeOf146
 v39:=Tryz.zeroValue146
 t45:=Tryz.underlying165
 a45:=Tryz.isAgg165
 z45:=Tryz.sizeOf165
 v45:=Tryz.zeroValue165
 t46:=Tryz.underlying166
 a46:=Tryz.isAgg166
 z46:=Tryz.sizeOf166
 v46:=Tryz.zeroValue166
 t50:=Tryz.underlying115
 a50:=Tryz.isAgg115
 z50:=Tryz.sizeOf115
 v50:=Tryz.zeroValue115
 t53:=Tryz.underlying173
 a53:=Tryz.isAgg173
 z53:=Tryz.sizeOf173
 v53:=Tryz.zeroValue173
 t55:=Tryz.underlying159
 a55:=Tryz.isAgg159
 z55:=Tryz.sizeOf159
 v55:=Tryz.zeroValue159
 t66:=Tryz.underlying204
 a66:=Tryz.isAgg204
 z66:=Tryz.sizeOf204
 v66:=Tryz.zeroValue204
 t70:=Tryz.underlying208
 a70:=Tryz.isAgg208
 z70:=Tryz.sizeOf208
 v70:=Tryz.zeroValue208
 t76:=Tryz.underlying221
 a76:=Tryz.isAgg221
 z76:=Tryz.sizeOf221
 v76:=Tryz.zeroValue221
 t77:=Tryz.underlying222
 a77:=Tryz.isAgg222
 z77:=Tryz.sizeOf222
 v77:=Tryz.zeroValue222 }
end Go.Proofs.YtopcjbahjjhdmaaGreat
namespace Go.Proofs.YtopcjbahjjhdmaaGreat
open Go Go.Shelf Go.RowKit
def my:Go.Shelf.Ren:=⟨fun|20=>87|n=>n,fun|22=>24|3=>3|4=>4|0=>0|n=>n,fun|n=>n⟩
theorem lx:Go.Proofs.Lays2.n20 Tryz.prog my:= {
 mixed:=by kernel_rfl
 f20:=Tryz.func87.trans (congrArg some (by kernel_rfl))
 t0:=Tryz.underlying0
 a0:=Tryz.isAgg0
 z0:=Tryz.sizeOf0
 v0:=Tryz.zeroValue0
 t3:=Tryz.underlying3
 a3:=Tryz.isAgg3
 z3:=Tryz.sizeOf3
 v3:=Tryz.zeroValue3
 t4:=Tryz.underlying4
 a4:=Tryz.isAgg4
 z4:=Tryz.sizeOf4
 v4:=Tryz.zeroValue4
 t22:=Tryz.underlying24
 a22:=Tryz.isAgg24
 z22:=Tryz.sizeOf24
 v22:=Tryz.zeroValue24
 i3:=by kernel_rfl }
open Go.RowKit Go.Lib Go.Sort in
theorem iY (blk off cap:Nat)(zs:List Int)(w:World)(hH:Holds (Value.int .i64) w blk off zs.toArray)(hsz:zs.length<=9223372036854775807)(hcap:zs.length<=cap):
  Calls Tryz.prog 87 #[.slice (some ⟨blk,off,none⟩) zs.length cap] w λe w'=>e= .returned (.slice (some ⟨blk,off,none⟩) (Lib.compact zs).length cap)/\∃q,w'=putRow (Value.int .i64) (Sort.ahead w q) blk off (Lib.compact zs++List.replicate (zs.length-(Lib.compact zs).length) 0).toArray:=Any.slices_Compact_int lx blk off cap zs w hH hsz hcap
open Go.RowKit Go.Lib Go.Sort in
theorem fk (a:Option Addr)(cap:Nat)(w:World):
  Calls Tryz.prog 87 #[.slice a 0 cap] w λe w'=>e= .returned (.slice a 0 cap)/\w'=w:=Any.slices_Compact_int_empty lx a cap w
end Go.Proofs.YtopcjbahjjhdmaaGreat
namespace Go.Proofs.YtopcjbahjjhdmaaGreat
open Go Go.RowKit Go.Sort
set_option linter.unusedVariables false
set_option linter.unusedSimpArgs false
set_option maxRecDepth 8000
theorem Af {w:World}{g cap n:Nat}{e:TypeId}{cur:Array Value}{ts:List Int}(k:Nat)(hb:w.heap[g]? =some (.cells cur e (0,0)))(hk:k<=ts.length)(hcap:ts.length<=cap)(hmax:cap<=maxLen)(hsz:cur.size=cap*1){w':World}(hw:w'=putRow (Value.int .i64) (Sort.ahead w n) g 0 ts.toArray):
  w'.os=w.os/\w'.tape=w.tape/\w'.output=w.output/\w.heap.size<=w'.heap.size/\(∀b,b<w.heap.size->b≠g->w'.heap[b]? =w.heap[b]?)/\w'.ownsRow 0 e 1 (.slice (some ⟨g,0,none⟩) k cap) k ((ts.take k).map (Value.int .i64)):=by
 subst hw;refine⟨rfl,rfl,rfl,by simp,λb hb hne=> ?_,?_⟩;·simp[putRow,mapBlock,Sort.ahead,GC,Ne.symm hne]
 ·have hh:(putRow (Value.int .i64) (Sort.ahead w n) g 0 ts.toArray).heap[g]? =some (.cells (Go.Sort.putCells (Value.int .i64) 0 ts.toArray cur) e (0,0)):=by
   simp[putRow,mapBlock,Sort.ahead,GC,hb,onCells]
  have ht:=take_putCellsI cur ts (by omega);refine⟨by simp;omega,.inr ⟨g,cap,_,rfl,EG _,hh,by omega,hmax,by simp[Go.Sort.putCells,hsz],?_⟩⟩;rw[Gc,GA,<-ht,GI,Ef hk]
theorem Ai {f:FuncId} {fn:Func} {us:List Value} {cs:List Own} (l:List Int) (args:List PV) (l':List Int) (hl:l.length*8<=140737488355328) (hll:l'.length<=l.length) (hf:Tryz.prog.funcs[f]? =some fn) (hb:fn.body.isSome=true) (hn:(fn.name== "runtime.NumGoroutine")=false)
  (h0:l=[]->∀(w:World) (vs:List Value),L2 (Rep w λ_=>True) vs args->Calls Tryz.prog f (.slice none 0 0::vs).toArray w λe w'=>e= .returned (.slice none 0 0)/\w'=w)
  (h1: ∀(g cap:Nat) (w:World) (vs:List Value),Holds (Value.int .i64) w g 0 l.toArray->g<w.heap.size->l.length<=cap->L2 (ar w λ_ b=>b≠g/\Off us b) us cs->gD us->(∀u g',u∈us->VB u g'->g'≠g)->L2 (Rep w λb=>b≠g/\Off us b) vs args->
   Calls Tryz.prog f (.slice (some ⟨g,0,none⟩) l.length cap::vs).toArray w λe w'=>e= .returned (.slice (some ⟨g,0,none⟩) l'.length cap)/\∃q,w'=putRow (Value.int .i64) (Sort.ahead w q) g 0 (l'++List.replicate (l.length-l'.length) 0).toArray):
  SpecP Tryz.prog f us cs 3 1 (l.map cI) args (l'.map cI):=by
 refine⟨⟨fn,hf,hb,hn⟩,λw Z1 v0 vs ho hz hus hap hdis hvs=> ?_⟩;obtain⟨xs,hrow,hx,_,_⟩:=ho;rw[show(l.map cI).flatten=l.map (PV.int .i64)from rA _ l]at hx;obtain rfl:=pu hx;rw[D9]at hrow;obtain⟨hln,hrow⟩:=hrow;have hfin: ∀(w':World) (v:Value),w'.ownsRow 0 3 1 v l'.length (l'.map (Value.int .i64))->ar w' (λ_ b=>Z1 b/\¬VB v b) v (.sl 3 1 true (l'.map cI)):=λw' v h=>by
  refine⟨l'.map (Value.int .i64),by rw[D9];exact h,?_,λr hr=>by obtain⟨x,_,rfl⟩:=DD.1 hr;rfl,λr hr p hp=>by obtain⟨x,_,rfl⟩:=DD.1 hr;simp[cI]at hp;rw[hp];rfl⟩;rw[show(l'.map cI).flatten=l'.map (PV.int .i64)from rA _ _];exact mg _
 rcases hrow with ⟨rfl,hnil⟩|⟨g,cap,cur,rfl,_,hb,hcap,hmax,hsz,htk⟩
 ·obtain rfl:l=[]:=(by simpa using hnil);obtain rfl:l'=[]:=(by cases l' with|nil=>rfl|cons _ _=>simp at hll);refine(h0 Y w vs (hvs.imp λ_ _ h=>h.mono λ_ _ _=>⟨trivial,rfl⟩)).mono ?_;rintro e w' ⟨rfl,rfl⟩;exact⟨_,rfl,rfl,rfl,rfl,DL _,λ_ _ _=>rfl,hfin _ _ ⟨rfl,.inl ⟨rfl,rfl⟩⟩,λg hg=> .inl hg⟩
 ·have hg:g<w.heap.size:=(DR.1 hb).1;have hvb: ∀b,VB (.slice (some ⟨g,0,none⟩) l.length cap) b↔b=g:=λb=>(by simp[VB,av];exact eq_comm);rw[Gc]at htk;have hZ: ∀b,(¬VB (.slice (some ⟨g,0,none⟩) l.length cap) b/\Off us b)->b≠g/\Off us b:=λb h=>⟨λe=>h.1 ((hvb b).2 e),h.2⟩;refine(h1 g cap w vs (holds_of_blockI hb htk) hg (by simpa using hcap) (hus.imp λu c h=>oT h λb hb=>hZ b hb) hap (λu g' hu hv e=>hdis u g' hu hv ((hvb g').2 e)) (hvs.imp λ_ _ h=>h.mono λb hb _=>⟨hZ b hb,rfl⟩)).mono ?_;rintro e w' ⟨rfl,q,hw⟩;have htl:(l'++List.replicate (l.length-l'.length) (0:Int)).length=l.length:=(by simp;omega);obtain⟨a1,a2,a3,a4,a5,a6⟩:=Af (ts:=l'++List.replicate (l.length-l'.length) 0) l'.length hb (by omega) (by rw[htl];simpa using hcap) hmax hsz hw;rw[Gg]at a6;exact⟨_,rfl,a1,a2,a3,a4,λb hb hn=>a5 b hb λe=>hn ((hvb b).2 e),hfin _ _ a6,λg' hg'=> .inl ((hvb g').2 (by simpa[VB,av,eq_comm]using hg'))⟩
theorem iI (l:List Int)(hl:l.length*8<=140737488355328):SpecP Tryz.prog 87 [] [] 3 1 (l.map cI) [] ((Lib.compact l).map cI):=by
 have hle:(Lib.compact l).length<=l.length:=by
  unfold Lib.compact Lib.compactUpTo;rw[D9];exact E9 (Ec _ _) (by simp)
 refine Ai l [] (Lib.compact l) hl hle Tryz.func87 Y Y (λh w vs hvs=> ?_) (λg cap w vs hH hg hc _ _ _ hvs=> ?_)
 ·cases hvs;exact fk none 0 w
 ·cases hvs;exact iY g 0 cap l w hH (by omega) hc
theorem xi {l:List Int}(h:l.Pairwise (· <= ·)):Up (Lib.compact l)/\∀x,x∈Lib.compact l↔x∈l:=by
 have hget: ∀j,j<l.length->l.toArray[j]! =l.getD j 0:=λj hj=>by
  rw[D0,D1 hj];simp[hj]
 have hle: ∀i j,i<=j->j<l.length->l.getD i 0<=l.getD j 0:=λi j hij hj=>by
  rw[D0,D0,D1 hj,D1 (by omega)];by_cases e:i=j;·subst e;exact EW _
  ·exact Fb.1 h i j (by omega) hj (by omega)
 have key: ∀m,m<=l.length->Up (Lib.compactUpTo l.toArray m)/\(∀x,x∈Lib.compactUpTo l.toArray m↔∃j,j<m/\l.getD j 0=x):=by
  intro m
  induction m with
  |zero=>intro _;exact⟨by simp[Lib.compactUpTo,Up],by simp[Lib.compactUpTo]⟩
  |succ m ih=>
   intro hm;obtain⟨h1,h2⟩:=ih (by omega);rw[Lib.compactUpTo_succ];by_cases hk:Lib.keeps l.toArray m=true
   ·rw[D3 hk,hget m (by omega)];refine⟨FI.2 ⟨h1,Ey _ _,λx hx y hy=> ?_⟩,λx=> ?_⟩
    ·obtain⟨j,hj,rfl⟩:=(h2 x).1 hx;rw[DF.1 hy];have e1:=hle j (m-1) (by omega) (by omega);have e2:=hle (m-1) m (by omega) (by omega);simp only[Lib.keeps,DM]at hk;have hne:l.toArray[m]! ≠l.toArray[m-1]! :=hk.resolve_left (by omega);rw[hget m (by omega),hget (m-1) (by omega)]at hne;omega
    ·rw[DT,h2,DF];constructor
     ·rintro(⟨j,hj,e⟩|rfl);·exact⟨j,by omega,e⟩
      ·exact⟨m,by omega,rfl⟩
     ·rintro⟨j,hj,e⟩;by_cases hjm:j=m;·subst hjm;exact .inr e.symm
      ·exact .inl ⟨j,by omega,e⟩
   ·rw[D2 hk,F5];refine⟨h1,λx=> ?_⟩;rw[h2];constructor;·rintro⟨j,hj,e⟩;exact⟨j,by omega,e⟩
    ·rintro⟨j,hj,e⟩;by_cases hjm:j=m
     ·subst hjm;simp only[Lib.keeps,DM,not_or,ne_eq,Classical.not_not]at hk;have:=hk.2;rw[hget j (by omega),hget (j-1) (by omega)]at this;exact⟨j-1,by omega,by rw[<-this];exact e⟩
     ·exact⟨j,by omega,e⟩
 obtain⟨h1,h2⟩:=key l.length (DL _);refine⟨h1,λx=> ?_⟩;rw[show Lib.compact l=Lib.compactUpTo l.toArray l.length from Y,h2];constructor
 ·rintro⟨j,hj,rfl⟩;rw[D0,D1 hj];exact D8 hj
 ·intro hx;obtain⟨j,hj,rfl⟩:=FK hx;exact⟨j,hj,by rw[D0,D1 hj];rfl⟩
theorem iJ (l:List Int):Lib.compact (sortI l)=aW l:=by
 have hs:(sortI l).Pairwise (· <= ·):=by
  have:=Ge (le:=λx y:Int=>decide (x<=y)) (λa b c h1 h2=>by simp at h1 h2⊢;omega) (λa b=>by simp;omega) l;exact this.imp λh=>by simpa using h
 obtain⟨h1,h2⟩:=xi hs;refine dD h1 (b9 l) λx=> ?_;rw[h2,bJ];exact(GU l _).mem_iff
theorem wL (c:Con)(hc:ConB c):Spec Tryz.prog 132 false [.agg (cC c)] [.own 3 1 ((usesR c).map cI)]:=by
 refine Spec.body Tryz.func132 Y Y Y λw0 Z0=> ?_;obtain⟨h1,h2,h3,h4⟩:=hc;unfold usesR;have hll:((if c.kind=4 then c.vars++[c.b]else c.vars):List Int).length*8<=140737488355328:=by
  split;·simp;omega
  ·omega
 have fin: ∀(l:List Int),l.length*8<=140737488355328->(sortI l).length*8<=140737488355328:=λl h=>by
  rw[show(sortI l).length=l.length from Fz ..];exact h
 refine .B ?_;refine .D (dQ c.vars (by omega)) ?_;refine T.cd Y (λhk=> ?_) (λhk=> ?_)
 ·have hk:c.kind=4:=hk;rw[D3 hk]at hll⊢;have hf:=fin _ hll;refine .B ?_;refine .V ?_;refine J.aI Y Y Y Y Y Y Y Y Y Y Y Y Y Y Y Y Y Y Y (by omega) ?_;refine .B ?_;refine J.cm Y Y Y Y Y Y Y Y Y (ic (c.vars++[c.b]) hll) Y Y Y ?_;refine .B ?_;refine J.cp (cs2:=[]) (qs:=[]) [] Y Y Y Y Y Y Y Y (iI _ hf) trivial Y Y Y Y Y Y ?_;rw[iJ];refine .B ?_;exact⟨_,.o Y Y Y (λ_=> .inl Y) (by simp) .nil⟩
 ·have hk: ¬c.kind=4:=hk;rw[D2 hk]at hll⊢;have hf:=fin _ hll;refine .B ?_;refine J.cm Y Y Y Y Y Y Y Y Y (ic c.vars hll) Y Y Y ?_;refine .B ?_;refine J.cp (cs2:=[]) (qs:=[]) [] Y Y Y Y Y Y Y Y (iI _ hf) trivial Y Y Y Y Y Y ?_;rw[iJ];refine .B ?_;exact⟨_,.o Y Y Y (λ_=> .inl Y) (by simp) .nil⟩
end Go.Proofs.YtopcjbahjjhdmaaGreat
