/- The texts PvE, PvF, FvK, PvG, FvL, FvM, PuT, PvD, FvA, FvC, PvC, FvD, FvE, LiH, FvF, PuE, FvG, FvN, FvI, FvJ, FvO, FvP, FvS, FvT, FvU of the workplace, joined. -/
import Derived.Test.YtopcjbahjjhdmaaGreatB7
import Derived.Shelf.SlSortCmp.NoneTotal
namespace Go.Proofs.YtopcjbahjjhdmaaGreat
open Go Go.RowKit
set_option linter.unusedVariables false
set_option linter.unusedSimpArgs false
def vE:Int->List Int->List Int
 |_,[]=>[]
 |x,y::l=>if y=x then vE x l else y::vE y l
theorem sW: ∀(l:List Int) (x:Int),(x::l).Pairwise (· <= ·)->Up (x::vE x l)/\∀z,z∈x::vE x l↔z∈x::l
 | [],x,_=>⟨Ey _ _,λz=>Iff.rfl⟩
 |y::l,x,h=>by
  have h1:=DY.1 h;have hxy:=h1.1 y (.head _);rw[vE];by_cases e:y=x
  ·subst e;rw[D3 Y];obtain⟨a,b⟩:=sW l y h1.2;refine⟨a,λz=> ?_⟩;rw[b z];simp
  ·rw[D2 e];obtain⟨a,b⟩:=sW l y h1.2;refine⟨DY.2 ⟨λz hz=> ?_,a⟩,λz=> ?_⟩
   ·rcases DQ.1 hz with rfl|hz;·omega
    ·have:=(DY.1 a).1 z hz;omega
   ·rw[DQ,b z,DQ (a:=z) (b:=x)]
theorem jy: ∀(l:List Int) (o:List (Int×Int)) (lo x:Int),(x::l).Pairwise (· <= ·)->l.foldl gh (o++[(lo,x)])=o++dL lo x (vE x l)
 | [],o,lo,x,_=>rfl
 |y::l,o,lo,x,h=>by
  have h1:=DY.1 h;have hxy:=h1.1 y (.head _);rw[DX,ik,vE];by_cases e:y=x
  ·subst e;rw[D3 (EW _),D3 Y];exact jy l o lo y h1.2
  ·rw[D2 (by omega),D2 e,dL];by_cases e2:y=x+1
   ·rw[D3 (by omega),D3 e2];exact jy l o lo y h1.2
   ·rw[D2 (by omega),D2 e2,jy l (o++[(lo,x)]) y y h1.2,EF];rfl
theorem wc (l:List Int):(sortI l).Pairwise (· <= ·):=by
 have:=Ge (le:=λx y:Int=>decide (x<=y)) (λa b c h1 h2=>by simp at h1 h2⊢;omega) (λa b=>by simp;omega) l;exact this.imp λh=>by simpa using h
theorem wy (l:List Int):packG (sortI l)=cX (aW l):=by
 have hs:=wc l;have hm: ∀z,z∈sortI l↔z∈l:=λz=>(GU l _).mem_iff;cases h:sortI l with
 |nil=>
  have:aW l=[]:=FJ.2 λz hz=>by
   have:=(hm z).2 ((bJ z l).1 hz);rw[h]at this;cases this
  rw[this];rfl
 |cons x t=>
  rw[h]at hs;obtain⟨a,b⟩:=sW t x hs;have e:aW l=x::vE x t:=dD (b9 l) a λz=>(by rw[bJ,b z,<-h,hm]);rw[e];show t.foldl gh (gh [] x)=_;rw[qG];exact jy t [] x x hs
theorem xf {l:List Int}(hv: ∀v∈l,-1048576<=v/\v<=1048576)(hn:l.length<=4096):domOfP l=(cX (aW l),0):=by
 have hv2: ∀v∈aW l,-1048576<=v/\v<=1048576:=λv h=>hv v ((bJ v l).1 h);have hln:=e8 l;have hf:Fine (cX (aW l)):=ku (b9 l) hv2 (by omega);unfold domOfP;rw[wy,ox hf,bI (b9 l),D3 (DJ.2 λv hm=>by simpa[aG]using hv v hm),D2 (by omega)]
def kZ (d:aa)(vars r:List Int):Bool:=(vars.zip r).all λp=>hasV (domAt d p.1) p.2
def rowsP (d:aa)(c:Con):List (List Int):=c.rows.filter (kZ d c.vars)
def gW (rows:List (List Int))(i:Nat):List Int:=rows.map λr=>r.getD i 0
def gE (rows:List (List Int)):List Int->Nat->aa->aa
 | [],_,out=>out
 |v::vs,i,out=>gE rows vs (i+1) (out.set v.toNat (domOfP (gW rows i)).1)
def tabO (d:aa)(c:Con):Option aa:=if []∈d then none else if rowsP d c=[]then none else some (gE (rowsP d c) c.vars 0 d)
theorem qt (rows:List (List Int)): ∀(vs:List Int) (i:Nat) (out:aa),(gE rows vs i out).length=out.length
 | [],_,_=>rfl
 |v::vs,i,out=>by rw[gE,qt rows vs];simp
theorem tE (rows:List (List Int)): ∀(vs:List Int) (i:Nat) (out:aa),vs.Nodup->(∀v∈vs,0<=v/\v.toNat<out.length)->∀k:Nat,
  ((k:Int)∉vs->(gE rows vs i out)[k]? =out[k]?)/\∀j,vs[j]? =some (k:Int)->(gE rows vs i out)[k]? =some (domOfP (gW rows (i+j))).1
 | [],i,out,_,_,k=>⟨λ_=>rfl,λj hj=>by simp at hj⟩
 |v::vs,i,out,hn,h0,k=>by
  have hn2:=EN.1 hn;have hv:=h0 v (.head _);obtain⟨h1,h2⟩:=tE rows vs (i+1) (out.set v.toNat (domOfP (gW rows i)).1) hn2.2 (λu hu=>by rw[EL];exact h0 u (.tail _ hu)) k;rw[gE];refine⟨λhk=> ?_,λj hj=> ?_⟩
  ·have hne:v≠(k:Int):=λe=>hk (by rw[e];exact .head _);rw[h1 λh=>hk (.tail _ h),E4 (by omega)]
  ·cases j with
   |zero=>
    simp at hj;rw[h1 (by rw[<-hj];exact hn2.1)];have:v.toNat=k:=(by omega);rw[this,EJ (by rw[<-this];exact hv.2)];rfl
   |succ j=>
    rw[h2 j (by simpa using hj)];congr 4;omega
theorem rU {vars r:List Int}{p:Int->Int->Bool}(hl:r.length=vars.length):((vars.zip r).all λq=>p q.1 q.2)=true↔∀(j:Nat) v,vars[j]? =some v->p v (r.getD j 0)=true:=by
 rw[DJ];constructor
 ·intro h j v hj;have hlt:=(D5.1 hj).1;have hr:r[j]? =some (r.getD j 0):=(by rw[D0,D1 (by omega)];rfl);exact h (v,r.getD j 0) (D7 (i:=j) (F8.2 ⟨hj,hr⟩))
 ·rintro h ⟨v,x⟩ hm;obtain⟨j,hj⟩:=DI hm;rw[F8]at hj;have:=h j v hj.1;rw[D0,hj.2]at this;exact this
theorem zT {n:Nat}{d:aa}{c:Con}(gd:GoodD n d)(hc:ConB c)(h:conR d c=0)(hk:c.kind=2):bK c d=tabO d c:=by
 obtain⟨_,hv,hr,hin⟩:=cO hc h;have hu:usesR c=aW c.vars:=(by unfold usesR;rw[D2 (by omega)]);have hrr:c.vars.Nodup/\(∀r∈c.rows,r.length=c.vars.length/\∀x∈r,-1048576<=x/\x<=1048576)/\c.rows.length<=1024:=by
  unfold rightR at hr;rw[D2 (by omega),D2 (by omega),D3 hk]at hr;simp only[manyR,kY,DH,DM,DJ]at hr;refine⟨hr.1.2.2,λr hrm=> ?_,hr.2.2⟩;have:=hr.2.1 r hrm;simp only[ex,aG,DH,DM,DJ]at this;exact⟨this.1,λx hx=>by have:=this.2 x hx;omega⟩
 obtain⟨hnod,hrow,hfew⟩:=hrr;have hnd:(usesR c).Nodup:=dy (b9 _);have hmem: ∀u,u∈usesR c↔u∈c.vars:=λu=>(by rw[hu];exact bJ u _);have hP: ∀f:Int->Int,aV c (eC d.length (usesR c) ((usesR c).map f) (usesR c).length)=true↔c.vars.map f∈c.rows:=λf=>by
  have hpk:pickedR c.vars (eC d.length (usesR c) ((usesR c).map f) (usesR c).length)=c.vars.map f:=EV λv hv=>lQ f hin ((hmem v).2 hv);unfold aV;rw[D2 (by omega),D2 (by omega),D3 hk,hpk,Ev];constructor;·rintro⟨r,h1,h2⟩;rw[<-EZ h2];exact h1
  ·exact λh1=>⟨_,h1,DE Y⟩
 have hri: ∀r∈c.rows,kZ d c.vars r=true↔∀(j:Nat) v,c.vars[j]? =some v->r.getD j 0∈vals (domAt d v):=λr hrm=>by
  unfold kZ;rw[rU (p:=λv x=>hasV (domAt d v) x) (hrow r hrm).1];exact forall_congr' λj=>forall_congr' λv=>imp_congr_right λ_=>cS
 have hsupp: ∀v∈c.vars,∀x,pX d (usesR c) (λt=>aV c (eC d.length (usesR c) t (usesR c).length)) v x↔∃r∈rowsP d c,r.getD (c.vars.idxOf v) 0=x:=λv hv x=>by
  have hiv:c.vars.idxOf v<c.vars.length:=FO.2 hv;constructor
  ·rintro⟨f,h1,h2,rfl⟩;have h2:=(hP f).1 h2;refine⟨c.vars.map f,ES.2 ⟨h2,(hri _ h2).2 λj v hj=> ?_⟩,?_⟩
   ·rw[D0,DG,hj];exact h1 v ((hmem v).2 (D7 hj))
   ·rw[D0,DG,D1 hiv,Fy];rfl
  ·rintro⟨r,hr,rfl⟩;obtain⟨hrm,hro⟩:=ES.1 hr;have hro:=(hri r hrm).1 hro;refine⟨λu=>r.getD (c.vars.idxOf u) 0,λu hu=> ?_,(hP _).2 ?_,rfl⟩
   ·have hm:=(hmem u).1 hu;refine hro (c.vars.idxOf u) u ?_;rw[D1 (FO.2 hm),Fy]
   ·have:c.vars.map (λu=>r.getD (c.vars.idxOf u) 0)=r:=by
     refine Fq (by rw[D9,(hrow r hrm).1]) λj h1 h2=> ?_;have hj:j<c.vars.length:=(by simpa using h1);rw[Fr,hnod.idxOf_getElem j hj,D0,D1 h2];rfl
    rw[this];exact hrm
 have hcol: ∀j,j<c.vars.length->(domOfP (gW (rowsP d c) j)).1=cX (aW (gW (rowsP d c) j)):=λj hj=>by
  have h1: ∀x∈gW (rowsP d c) j,-1048576<=x/\x<=1048576:=λx hx=>by
   obtain⟨r,hr,rfl⟩:=DD.1 hx;have hrm:=(ES.1 hr).1;have hl:=(hrow r hrm).1;rw[D0,D1 (by omega)];exact(hrow r hrm).2 _ (D8 _)
  have h2:(gW (rowsP d c) j).length<=4096:=by
   have:(rowsP d c).length<=c.rows.length:=Ec _ _;simp only[gW,D9];omega
  rw[xf h1 h2]
 have hat:=tE (rowsP d c) c.vars 0 d hnod hv.2;have hdat: ∀v∈c.vars,∃y,(gE (rowsP d c) c.vars 0 d)[v.toNat]? =some y/\ay y/\∀x,x∈vals y↔∃r∈rowsP d c,r.getD (c.vars.idxOf v) 0=x:=λv hvm=>by
  have hiv:c.vars.idxOf v<c.vars.length:=FO.2 hvm;have h0:=hv.2 v hvm;have e:((v.toNat:Nat):Int)=v:=(by omega);have h3:=(hat v.toNat).2 (c.vars.idxOf v) (by rw[e,D1 hiv,Fy]);rw[F9,hcol _ hiv]at h3;refine⟨_,h3,gg (b9 _),λx=> ?_⟩;rw[bI (b9 _),bJ];unfold gW;rw[DD]
 unfold bK tabO;rw[D2 (by omega),D2 (by omega),D2 (by omega),D2 (by omega),D2 gd.some'];unfold lG;rw[D2 gd.some'];have hpos:c.vars≠[]:=λe=>by
  unfold rightR at hr;rw[D2 (by omega),D2 (by omega),D3 hk]at hr;simp only[manyR,DH,DM]at hr;have:=hr.1.2.1;rw[e]at this;simp at this
 rw[nV (out:=gE (rowsP d c) c.vars 0 d) hnd hin (qt _ _ _ _) (λx hx=> ?_) (λv hvm x=> ?_) (λi hi=>(hat i).1 λhm=>hi ((hmem _).2 hm))]
 ·unfold mU;by_cases hr0:rowsP d c=[]
  ·rw[D3 hr0,D3];obtain⟨v,hvm⟩:=F7 _ hpos;obtain⟨y,hy,hok,hx⟩:=hdat v hvm;have:y=[]:=(e6 hok).1 (FJ.2 λx hxm=>by
    obtain⟨r,hr,_⟩:=(hx x).1 hxm;rw[hr0]at hr;cases hr)
   exact this▸D7 hy
  ·rw[D2 hr0,D2];intro hm;obtain⟨k,hk2⟩:=DI hm;by_cases hkv:(k:Int)∈c.vars
   ·obtain⟨y,hy,hok,hx⟩:=hdat _ hkv;rw[Dz,hk2]at hy;obtain rfl:=D4 hy;obtain⟨r,hr⟩:=F7 _ hr0;have:=(hx _).2 ⟨r,hr,rfl⟩;cases this
   ·rw[(hat k).1 hkv]at hk2;exact gd.some' (D7 hk2)
 ·obtain⟨k,hk2⟩:=DI hx;by_cases hkv:(k:Int)∈c.vars
  ·obtain⟨y,hy,hok,_⟩:=hdat _ hkv;rw[Dz,hk2]at hy;exact D4 hy▸hok
  ·rw[(hat k).1 hkv]at hk2;exact(gd.few.fine x (D7 hk2)).ok
 ·have hvc:=(hmem v).1 hvm;obtain⟨y,hy,_,hx⟩:=hdat v hvc;have:domAt (gE (rowsP d c) c.vars 0 d) v=y:=by
   unfold domAt;rw[D0,hy];rfl
  rw[this,hx,hsupp v hvc]
theorem lR {x:Int×Int}{a:List (Int×Int)}(h:ay (x::a)){v:Int}(hv:v∈vals a):x.2+2<=v:=by
 obtain⟨s,hs,h4,h5⟩:=aS.1 hv;have:=(DY.1 h.2).1 s hs;omega
theorem nQ: ∀(n:Nat) (a b:List (Int×Int)),a.length+b.length<=n->ay a->ay b->ay (bB a b)/\(∀r∈bB a b,∃s∈a,s.1<=r.1/\r.2<=s.2)/\(∀r∈bB a b,∃s∈b,s.1<=r.1/\r.2<=s.2)/\∀v,v∈vals (bB a b)↔v∈vals a/\v∈vals b
 |_,[],b,_,_,_=>by rw[nS];exact⟨⟨by simp,.nil⟩,by simp,by simp,by simp[vals]⟩
 |_,x::a,[],_,_,_=>by rw[nR];exact⟨⟨by simp,.nil⟩,by simp,by simp,by simp[vals]⟩
 |0,x::a,y::b,hn,_,_=>by simp at hn
 |n+1,x::a,y::b,hn,ha,hb=>by
  have hx:=ha.1 x (.head _);have hy:=hb.1 y (.head _);have hpa:=(DY.1 ha.2).1;have hpb:=(DY.1 hb.2).1;rw[ir];have key:ay (if x.2<y.2 then bB a (y::b)else bB (x::a) b)/\(∀r∈(if x.2<y.2 then bB a (y::b)else bB (x::a) b),(∃s∈x::a,s.1<=r.1/\r.2<=s.2)/\(∃s∈y::b,s.1<=r.1/\r.2<=s.2)/\min x.2 y.2+2<=r.1)/\
    ∀v,v∈vals (if x.2<y.2 then bB a (y::b)else bB (x::a) b)↔(v∈vals (x::a)/\v∈vals (y::b))/\min x.2 y.2<v:=by
   by_cases hlt:x.2<y.2
   ·rw[D3 hlt];obtain⟨h1,h2,h3,h4⟩:=nQ n a (y::b) (by simp at hn⊢;omega) ha.tail hb;refine⟨h1,λr hr=> ?_,λv=> ?_⟩
    ·obtain⟨s,hs,h5,h6⟩:=h2 r hr;have:=hpa s hs;exact⟨⟨s,.tail _ hs,h5,h6⟩,h3 r hr,by omega⟩
    ·rw[h4,bl x a,DT,cB];constructor
     ·rintro⟨h5,h6⟩;have:=lR ha h5;exact⟨⟨.inr h5,h6⟩,by omega⟩
     ·rintro⟨⟨h5|h5,h6⟩,h7⟩;·omega
      ·exact⟨h5,h6⟩
   ·rw[D2 hlt];obtain⟨h1,h2,h3,h4⟩:=nQ n (x::a) b (by simp at hn⊢;omega) ha hb.tail;refine⟨h1,λr hr=> ?_,λv=> ?_⟩
    ·obtain⟨s,hs,h5,h6⟩:=h3 r hr;have:=hpb s hs;exact⟨h2 r hr,⟨s,.tail _ hs,h5,h6⟩,by omega⟩
    ·rw[h4,bl y b,DT,cB];constructor
     ·rintro⟨h5,h6⟩;have:=lR hb h6;exact⟨⟨h5,.inr h6⟩,by omega⟩
     ·rintro⟨⟨h5,h6|h6⟩,h7⟩;·omega
      ·exact⟨h5,h6⟩
  generalize (if x.2<y.2 then bB a (y::b)else bB (x::a) b)=t at*;obtain⟨t1,t2,t3⟩:=key;have hmem: ∀v,v<=min x.2 y.2->(v∈vals (x::a)/\v∈vals (y::b)↔max x.1 y.1<=v):=λv hv=>by
   rw[bl,bl,DT,DT,cB,cB];constructor
   ·rintro⟨h5|h5,h6|h6⟩;·omega
    ·have:=lR hb h6;omega
    ·have:=lR ha h5;omega
    ·have:=lR ha h5;omega
   ·intro h5;exact⟨.inl (by omega),.inl (by omega)⟩
  by_cases hc:max x.1 y.1<=min x.2 y.2
  ·rw[D3 hc];refine⟨⟨λr hr=> ?_,DY.2 ⟨λr hr=> ?_,t1.2⟩⟩,λr hr=> ?_,λr hr=> ?_,λv=> ?_⟩
   ·rcases DQ.1 hr with rfl|hr;·exact hc
    ·exact t1.1 r hr
   ·have:=(t2 r hr).2.2;simp only;omega
   ·rcases DQ.1 hr with rfl|hr;·exact⟨x,.head _,by simp only;omega,by simp only;omega⟩
    ·exact(t2 r hr).1
   ·rcases DQ.1 hr with rfl|hr;·exact⟨y,.head _,by simp only;omega,by simp only;omega⟩
    ·exact(t2 r hr).2.1
   ·rw[List.singleton_append,bl,DT,cB,t3];by_cases hv:v<=min x.2 y.2
    ·rw[hmem v hv];simp only;omega
    ·simp only;constructor
     ·rintro(h5|h5);·omega
      ·exact h5.1
     ·exact λh5=> .inr ⟨h5,by omega⟩
  ·rw[D2 hc,Eo];refine⟨t1,λr hr=>(t2 r hr).1,λr hr=>(t2 r hr).2.1,λv=> ?_⟩;rw[t3];constructor;·exact λh=>h.1
   ·intro h;refine⟨h,EB λhv=> ?_⟩;have:=(hmem v (by omega)).1 h;omega
theorem AB {a b:List (Int×Int)}(ha:ay a)(hb:ay b):ay (bB a b)/\∀v,v∈vals (bB a b)↔v∈vals a/\v∈vals b:=
 ⟨(nQ _ a b (DL _) ha hb).1,(nQ _ a b (DL _) ha hb).2.2.2⟩
def uU (out:List (Int×Int))(x:Int×Int):List (Int×Int):=match out.getLast? with
 |none=>out++[x]
 |some r=>if x.1<=r.2+1 then out.dropLast++[(r.1,max r.2 x.2)]else out++[x]
def joinG (l:List (Int×Int)):List (Int×Int):=l.foldl uU []
theorem jD (x:Int×Int):uU [] x=[x]:=rfl
theorem iw (o:List (Int×Int))(r x:Int×Int):uU (o++[r]) x=if x.1<=r.2+1 then o++[(r.1,max r.2 x.2)]else o++[r]++[x]:=by
 unfold uU;rw[List.getLast?_append];simp
theorem ix (l:List (Int×Int))(x:Int×Int):joinG (l++[x])=uU (joinG l) x:=by simp[joinG]
theorem snocInd {α:Type}{P:List α->Prop}(h0:P [])(h1: ∀l x,P l->P (l++[x]))(l:List α):P l:=by
 have key: ∀l:List α,P l.reverse:=by
  intro l
  induction l with
  |nil=>exact h0
  |cons x l ih=>rw[List.reverse_cons];exact h1 _ _ ih
 have:=key l.reverse;rwa[List.reverse_reverse]at this
theorem zh (l:List (Int×Int)):(joinG l).length<=l.length:=by
 refine snocInd (P:=λl=>(joinG l).length<=l.length) (by simp[joinG]) (λl x ih=> ?_) l
 ·show(joinG (l++[x])).length<=(l++[x]).length;rw[ix];rcases FM (joinG l)with h|⟨o,r,h⟩;·rw[h,jD];simp
  ·rw[h,FD,iw];rw[h,FD]at ih;split<;>simp at ih⊢ <;>omega
theorem BJ: ∀(l:List (Int×Int)),(∀r∈l,r.1<=r.2)->l.Pairwise (λr s=>r.1<=s.1)->ay (joinG l)/\(∀r∈joinG l,∃s∈l,r.1=s.1)/\∀v,v∈vals (joinG l)↔∃r∈l,r.1<=v/\v<=r.2:=by
 intro l;refine snocInd (P:=λl=>(∀r∈l,r.1<=r.2)->l.Pairwise (λr s=>r.1<=s.1)->ay (joinG l)/\(∀r∈joinG l,∃s∈l,r.1=s.1)/\∀v,v∈vals (joinG l)↔∃r∈l,r.1<=v/\v<=r.2) (λ_ _=>⟨⟨by simp[joinG],.nil⟩,by simp[joinG],by simp[joinG,vals]⟩) (λl x ih=> ?_) l
 ·intro h1 h2;have hp:=FI.1 h2;obtain⟨i1,i2,i3⟩:=ih (λr hr=>h1 r (E7 _ hr)) hp.1;have hx:=h1 x (EA _ (.head _));have hle: ∀r∈joinG l,r.1<=x.1:=λr hr=>by
   obtain⟨s,hs,e⟩:=i2 r hr;rw[e];exact hp.2.2 s hs x (.head _)
  have hmem: ∀v,(∃r∈l++[x],r.1<=v/\v<=r.2)↔v∈vals (joinG l)∨(x.1<=v/\v<=x.2):=λv=>by
   rw[i3];constructor
   ·rintro⟨r,hr,h⟩;rcases DT.1 hr with hr|hr;·exact .inl ⟨r,hr,h⟩
    ·rw[DF.1 hr]at h;exact .inr h
   ·rintro(⟨r,hr,h⟩|h);·exact⟨r,E7 _ hr,h⟩
    ·exact⟨x,EA _ (.head _),h⟩
  rw[ix];rcases FM (joinG l)with h|⟨o,r,h⟩
  ·rw[h]at hmem⊢;rw[jD];refine⟨⟨by simp;omega,Ey _ _⟩,λr hr=>⟨x,EA _ (.head _),by rw[DF.1 hr]⟩,λv=> ?_⟩;rw[hmem];simp[vals,cB]
  ·rw[h,FD]at i1 i2 hle hmem⊢;rw[iw];obtain⟨a1,a2⟩:=i1;have hpo:=FI.1 a2;have hr:=a1 r (EA _ (.head _));have hrx:=hle r (EA _ (.head _));have vs: ∀(o:List (Int×Int)) (v:Int),v∈vals (o++[r])↔v∈vals o∨(r.1<=v/\v<=r.2):=λo v=>(by simp[vals,cB]);by_cases hc:x.1<=r.2+1
   ·rw[D3 hc];refine⟨⟨λs hs=> ?_,FI.2 ⟨hpo.1,Ey _ _,λs hs t ht=> ?_⟩⟩,λs hs=> ?_,λv=> ?_⟩
    ·rcases DT.1 hs with hs|hs;·exact a1 s (E7 _ hs)
     ·rw[DF.1 hs];simp only;omega
    ·rw[DF.1 ht];exact hpo.2.2 s hs r (.head _)
    ·rcases DT.1 hs with hs|hs
     ·obtain⟨t,ht,e⟩:=i2 s (E7 _ hs);exact⟨t,E7 _ ht,e⟩
     ·obtain⟨t,ht,e⟩:=i2 r (EA _ (.head _));exact⟨t,E7 _ ht,by rw[DF.1 hs];exact e⟩
    ·rw[hmem,vs];have:v∈vals (o++[(r.1,max r.2 x.2)])↔v∈vals o∨(r.1<=v/\v<=max r.2 x.2):=(by simp[vals,cB]);rw[this];constructor
     ·rintro(h5|h5);·exact .inl (.inl h5)
      ·by_cases h6:v<=r.2;·exact .inl (.inr ⟨h5.1,h6⟩)
       ·exact .inr (by omega)
     ·rintro((h5|h5)|h5);·exact .inl h5
      ·exact .inr (by omega)
      ·exact .inr (by omega)
   ·rw[D2 hc];refine⟨⟨λs hs=> ?_,FI.2 ⟨a2,Ey _ _,λs hs t ht=> ?_⟩⟩,λs hs=> ?_,λv=> ?_⟩
    ·rcases DT.1 hs with hs|hs;·exact a1 s hs
     ·rw[DF.1 hs];exact hx
    ·rw[DF.1 ht];rcases DT.1 hs with hs|hs;·have:=hpo.2.2 s hs r (.head _);omega
     ·rw[DF.1 hs];omega
    ·rcases DT.1 hs with hs|hs
     ·obtain⟨t,ht,e⟩:=i2 s hs;exact⟨t,E7 _ ht,e⟩
     ·exact⟨x,EA _ (.head _),by rw[DF.1 hs]⟩
    ·rw[hmem];simp[vals,cB,or_assoc]
end Go.Proofs.YtopcjbahjjhdmaaGreat
namespace Go.Proofs.YtopcjbahjjhdmaaGreat
open Go Go.RowKit Go.Sort
set_option linter.unusedVariables false
set_option linter.unusedSimpArgs false
set_option maxRecDepth 8000
def RB:Type:= {r:Int×Int // -2097152<=r.1/\r.1<=2097152}
def rb0:RB:=⟨(0,0),by decide,by decide⟩
instance:Inhabited RB:=⟨rb0⟩
def dN (x:RB):List Value:=[.int .i64 x.1.1,.int .i64 x.1.2]
def nI (x y:RB):Int:=x.1.1-y.1.1
theorem BC (x y:RB):ltOf nI x y=decide (x.1.1<y.1.1):=by
 unfold ltOf nI;by_cases h:x.1.1<y.1.1;·simp[h];omega
 ·simp[h];omega
theorem B5:SWO (ltOf nI) where
 irrefl x:=by rw[BC];simp
 trans x y z h1 h2:=by rw[BC]at *;simp at *;omega
 ntrans x y z h1 h2:=by rw[BC]at *;simp at *;omega
theorem Dl (x y:RB)(W:World):Calls Tryz.prog 229 #[.agg (dN x).toArray,.agg (dN y).toArray] W λe w'=>e= .returned (.int .i64 (nI x y))/\∃q os',w'=grow (W.drewN q) os':=by
 have hw:IntKind.i64.wrap (x.1.1-y.1.1)=x.1.1-y.1.1:=ac (by have:=x.2;have:=y.2;omega) (by have:=x.2;have:=y.2;omega);unfold dN nI
 go_enter Tryz.func229,Tryz.ntmps229
 go_wp2
 go_ret
 exact⟨rfl,0,_,by rw[alloc_eq_grow,alloc_eq_grow,grow_grow];rfl⟩
theorem CA (l:List RB):(flatK dN 2 l.toArray).toList=(l.map dN).flatten:=by
 have key: ∀(l:List RB) (t:Nat),t<l.length*2->((l.map dN).flatten)[t]? =some (dN l[t / 2]!)[t % 2]! :=by
  intro l
  induction l with
  |nil=>intro t h;simp at h
  |cons x l ih=>
   intro t h
   match t with
   |0=>rfl
   |1=>rfl
   |t+2=>
    rw[DZ,EY,show(dN x)=[.int .i64 x.1.1,.int .i64 x.1.2]from Y];rw[show∀(a b:Value) (m:List Value),([a,b]++m)[t+2]? =m[t]? from λ_ _ _=>rfl,ih t (by simp at h;omega)];rw[show(t+2) / 2=t / 2+1 by omega,show(t+2) % 2=t % 2 by omega];rfl
 have hlen:((l.map dN).flatten).length=l.length*2:=by
  induction l with
  |nil=>rfl
  |cons x l ih=>rw[DZ,EY,DW,ih];simp[dN];omega
 refine Fq (by rw[ET,size_flatK,hlen];rfl) λt h1 h2=> ?_;have ht:t<l.length*2:=(by rw[<-hlen];exact h2);have h3:=key l t ht;rw[D1 h2]at h3;have h4:=get_flatK dN 2 l.toArray t (by simpa using ht);rw[getElem!_pos _ t (by simpa using ht)]at h4;rw[Array.getElem_toList,h4,D4 h3];simp
theorem w5 {w:World}{g:Nat}{cur:Array Value}{e:TypeId}{F:Array Value}(hb:w.heap[g]? =some (.cells cur e (0,0)))(ht:cur.toList.take F.size=F.toList):Holds id w g 0 F:=by
 intro j hj;refine⟨?_,by simp[World.frozen?,hb]⟩;have h1:(cur.toList.take F.size)[j]? =F.toList[j]? :=(by rw[ht]);rw[FC hj]at h1;simp only[World.cell?,hb,F9];simp only[H3,EU,if_false];rw[<-F3,h1];simp[hj]
theorem rZ (cur F:Array Value)(h:F.size<=cur.size):(Go.Sort.putCells id 0 F cur).toList.take F.size=F.toList:=by
 apply F1;intro j;by_cases hj:j<F.size
 ·rw[FC hj,F3];simp[Go.Sort.putCells,hj,show j<cur.size by omega]
 ·rw[List.getElem?_take_eq_none (by omega),EQ (by simp;omega)]
def iX (r:Int×Int):RB:=if h: -2097152<=r.1/\r.1<=2097152 then⟨r,h⟩else rb0
def sortR (l:List (Int×Int)):List (Int×Int):=((pdq (ltOf nI) (l.map iX).toArray 0 l.length (Lib.bitLen l.length) true true).toList).map (·.1)
theorem tC {l:List (Int×Int)}(h: ∀r∈l,-2097152<=r.1/\r.1<=2097152):(l.map iX).map (·.1)=l:=by
 rw[FH]
 conv=>rhs;rw[<-List.map_id l]
 refine EV λr hr=> ?_;simp[iX,h r hr]
theorem oq {l:List (Int×Int)}(h: ∀r∈l,-2097152<=r.1/\r.1<=2097152):(sortR l).Perm l/\(sortR l).Pairwise (λr s=>r.1<=s.1):=by
 have hs:(l.map iX).toArray.size=l.length:=(by simp);have hp:=pdq_sorts (ltOf nI) B5 (l.map iX).toArray 0 (l.map iX).toArray.size (Lib.bitLen (l.map iX).toArray.size) true true (EG _) (DL _) (Or.inl Y);rw[hs]at hp;unfold sortR;generalize pdq (ltOf nI) (l.map iX).toArray 0 l.length (Lib.bitLen l.length) true true=d' at hp⊢;obtain⟨⟨h1,_,h3⟩,h4⟩:=hp;rw[hs]at h1;have e1:(d'.extract 0 l.length).toList=d'.toList:=(by rw[<-h1];simp);have e2:((l.map iX).toArray.extract 0 l.length).toList=l.map iX:=(by simp[DU]);rw[e1,e2]at h3;refine⟨?_,?_⟩
 ·have:=h3.map (·.1);rwa[tC h]at this
 ·rw[HD,Fb];intro i j hi hj hij;have:=h4 i j (EG _) hij (by rw[<-h1];simpa using hj);rw[BC,getElem!_pos _ i (by simpa using hi),getElem!_pos _ j (by simpa using hj)]at this;simp at this;simpa using this
theorem oO {w:World}{Z:Nat->Prop}: ∀{l:List (Int×Int)} {vs:List Value},L2 (Rep w Z) vs (l.map cR).flatten->vs=(l.map λr=>[Value.int .i64 r.1,Value.int .i64 r.2]).flatten
 | [],_,.nil=>rfl
 |r::l,_,.cons h1 (.cons h2 h3)=>by
  cases h1;cases h2;rw[oO h3];rfl
theorem oK {w:World}{Z:Nat->Prop}: ∀(l:List (Int×Int)),L2 (Rep w Z) (l.map λr=>[Value.int .i64 r.1,Value.int .i64 r.2]).flatten (l.map cR).flatten
 | []=> .nil
 |r::l=> .cons (.int _ _) (.cons (.int _ _) (oK l))
theorem yb {l:List (Int×Int)}(m:List RB)(h:m.map (·.1)=l):(flatK dN 2 m.toArray).toList=(l.map λr=>[Value.int .i64 r.1,Value.int .i64 r.2]).flatten:=by
 rw[CA,<-h,FH];rfl
theorem tG (l:List (Int×Int))(hl:l.length*16<=140737488355328)(hb: ∀r∈l,-2097152<=r.1/\r.1<=2097152):SpecM Tryz.prog 228 53 2 (l.map cR) [.fn (.func 229) [] []] ((sortR l).map cR) []:=by
 have hsl:(sortR l).length=l.length:=(oq hb).1.length_eq;refine⟨⟨_,Tryz.func228,rfl,rfl⟩,λp hp=>(by cases hp),λw Z1 v0 vs ho hz hvs=> ?_⟩;cases hvs with
 |cons hf hvs=>
 cases hvs;cases hf with
 |fn _ us vs _ _ hu hc=>
 cases hu;cases hc;obtain⟨xs,hrow,hx,h1,h2⟩:=ho;obtain rfl:=oO hx;rw[D9]at hrow;obtain⟨hln,hrow⟩:=hrow;have hflen: ∀m:List (Int×Int),((m.map λr=>[Value.int .i64 r.1,Value.int .i64 r.2]).flatten).length=m.length*2:=λm=>by
  induction m with
  |nil=>rfl
  |cons r m ih=>rw[DZ,EY,DW,ih];simp;omega
 rcases hrow with ⟨rfl,hnil⟩|⟨g,cap,cur,rfl,_,hbk,hcap,hmax,hsz,htk⟩
 ·obtain rfl:l=[]:=(by simpa using hnil);refine(AnyF.slices_SortFunc_none qT none 0 _ w).mono ?_;rintro e w' ⟨rfl,rfl⟩;have hn:sortR []=[]:=DN hsl;refine⟨[],rfl,rfl,rfl,rfl,DL _,λ_ _ _=>rfl,?_,.nil⟩;rw[hn];refine⟨[],⟨rfl,.inl ⟨rfl,rfl⟩⟩,.nil,?_,?_⟩<;>(intro r hr;cases hr)
 ·have hg:g<w.heap.size:=(DR.1 hbk).1;have hfl:=yb (l.map iX) (tC hb);have hfs:(flatK dN 2 (l.map iX).toArray).size=l.length*2:=(by simp);have hH:HoldsK dN 2 w g 0 (l.map iX).toArray:=w5 hbk (by rw[hfs,hfl];exact htk);have hcon:=AnyQ.slices_SortFunc_eq qT 2 Tryz.isAgg53 Tryz.sizeOf53 dN (λ_=>rfl) (λx v hv=>by simp[dN]at hv;rcases hv with rfl|rfl<;>rfl) nI B5 229 #[] g 0 cap (l.map iX).toArray w
   (enters_of Tryz.func229 (by kernel_rfl) Y) (λ_ _ _ _ x y=>Dl x y _) hH hg (by simp;omega)
  rw[show(l.map iX).toArray.size=l.length by simp]at hcon;refine hcon.mono ?_;rintro e w' ⟨rfl,n,os,rfl⟩;have hpz:(pdq (ltOf nI) (l.map iX).toArray 0 l.length (Lib.bitLen l.length) true true).size=l.length:=by
   have:=hsl;unfold sortR at this;simpa using this
  have hfl2:=yb (l:=sortR l) (pdq (ltOf nI) (l.map iX).toArray 0 l.length (Lib.bitLen l.length) true true).toList Y;generalize pdq (ltOf nI) (l.map iX).toArray 0 l.length (Lib.bitLen l.length) true true=d' at hpz hfl2⊢;have hfs2:(flatK dN 2 d').size=l.length*2:=(by rw[size_flatK,hpz]);have hh:(sortWorldK dN 2 w g 0 n d' os).heap[g]? =some (.cells (Go.Sort.putCells id 0 (flatK dN 2 d') cur) 53 (0,0)):=by
   unfold sortWorldK putRowK;rw[heap_grow_old _ _ (by simpa using hg)];simp[putRow,mapBlock,Sort.ahead,GC,hbk,onCells]
  have htk2:(Go.Sort.putCells id 0 (flatK dN 2 d') cur).toList.take ((sortR l).length*2)=((sortR l).map λr=>[Value.int .i64 r.1,Value.int .i64 r.2]).flatten:=by
   rw[hsl,<-hfs2,rZ _ _ (by rw[hfs2,hsz];exact EM 2 hcap)];exact hfl2
  refine⟨[],rfl,rfl,rfl,rfl,?_,λb hb1 hb2=> ?_,⟨((sortR l).map λr=>[Value.int .i64 r.1,Value.int .i64 r.2]).flatten,⟨by rw[hflen,D9],.inr ⟨g,cap,_,by rw[D9,hsl],EG _,hh,by rw[D9,hsl];exact hcap,hmax,by simp[Go.Sort.putCells,hsz],by rw[D9];exact htk2⟩⟩,oK _,λr hr=> ?_,λr hr p hp=> ?_⟩,.nil⟩
  ·unfold sortWorldK putRowK;simp
  ·unfold sortWorldK putRowK;rw[heap_grow_old _ _ (by simpa using hb1)];have:g≠b:=λe=>hb2 (by simp[VB,av,e]);simp[putRow,mapBlock,Sort.ahead,GC,this]
  ·obtain⟨x,_,rfl⟩:=DD.1 hr;rfl
  ·obtain⟨x,_,rfl⟩:=DD.1 hr;simp[cR]at hp;rcases hp with rfl|rfl<;>rfl
end Go.Proofs.YtopcjbahjjhdmaaGreat
namespace Go.Proofs.YtopcjbahjjhdmaaGreat
open Go Go.RowKit
set_option linter.unusedVariables false
set_option linter.unusedSimpArgs false
def pk (a b:List (Int×Int)):List (Int×Int):=joinG (sortR (a++b))
theorem AN {a b:List (Int×Int)}(ha:ay a)(hb:ay b)(h: ∀r∈a++b,-1048576<=r.1/\r.1<=1048576/\-1048576<=r.2/\r.2<=1048576):ay (pk a b)/\∀v,v∈vals (pk a b)↔v∈vals a∨v∈vals b:=by
 obtain⟨h1,h2⟩:=oq (l:=a++b) λr hr=>(by have:=h r hr;omega);obtain⟨h3,_,h4⟩:=BJ (sortR (a++b)) (λr hr=>by
  rcases DT.1 (h1.mem_iff.1 hr)with hr|hr;·exact ha.1 r hr
  ·exact hb.1 r hr) h2
 refine⟨h3,λv=> ?_⟩;show v∈vals (joinG _)↔_;rw[h4,aS,aS];constructor
 ·rintro⟨r,hr,h⟩;rcases DT.1 (h1.mem_iff.1 hr)with hr|hr;·exact .inl ⟨r,hr,h⟩
  ·exact .inr ⟨r,hr,h⟩
 ·rintro(⟨r,hr,h⟩|⟨r,hr,h⟩);·exact⟨r,h1.mem_iff.2 (E7 _ hr),h⟩
  ·exact⟨r,h1.mem_iff.2 (EA _ hr),h⟩
def elemM (d:aa)(vs:List Int)(i:Int):List (Int×Int):=bB (domAt d (vs.getD (i.toNat+2) 0)) (domAt d (vs.getD 1 0))
def elemIn (d:aa)(vs:List Int)(i:Int):Bool:=decide (0<=i)&&decide (i.toNat+2<vs.length)&& !decide (elemM d vs i=[])
def elemPl (d:aa)(vs:List Int):List Int:=(vals (domAt d (vs.getD 0 0))).filter (elemIn d vs)
def elemMay (d:aa)(vs:List Int)(l:List Int):List (Int×Int):=l.foldl (λm i=>pk m (elemM d vs i)) []
def sO (d:aa)(vs l:List Int):aa:=
 if l.length=1 then((d.set (vs.getD 0 0).toNat (domOfP l).1).set (vs.getD 1 0).toNat (elemMay d vs l)).set (vs.getD ((l.getD 0 0).toNat+2) 0).toNat (elemMay d vs l)else(d.set (vs.getD 0 0).toNat (domOfP l).1).set (vs.getD 1 0).toNat (elemMay d vs l)
def rE (d:aa)(c:Con):Option aa:=if []∈d then none else if elemPl d c.vars=[]then none else some (sO d c.vars (elemPl d c.vars))
theorem nZ {x:List (Int×Int)}(h:ay x)(hv: ∀v∈vals x,-1048576<=v/\v<=1048576): ∀r∈x,-1048576<=r.1/\r.1<=1048576/\-1048576<=r.2/\r.2<=1048576:=λr hr=>by
 have h0:=h.1 r hr;have h1:=hv r.1 (aS.2 ⟨r,hr,EW _,h0⟩);have h2:=hv r.2 (aS.2 ⟨r,hr,h0,EW _⟩);omega
theorem GoodD.dok {n:Nat}{d:aa}(gd:GoodD n d)(v:Int):ay (domAt d v):=by
 unfold domAt;by_cases hv:v.toNat<d.length
 ·rw[D0,D1 hv];exact(gd.few.fine _ (D8 hv)).ok
 ·rw[D0,EQ (by omega)];exact⟨by simp,.nil⟩
theorem d7 {n:Nat}{d:aa}(gd:GoodD n d)(vs:List Int)(i:Int):ay (elemM d vs i)/\∀v,v∈vals (elemM d vs i)↔v∈vals (domAt d (vs.getD (i.toNat+2) 0))/\v∈vals (domAt d (vs.getD 1 0)):=AB (gd.dok _) (gd.dok _)
theorem pI {n:Nat}{d:aa}(gd:GoodD n d)(vs:List Int)(l:List Int):ay (elemMay d vs l)/\∀v,v∈vals (elemMay d vs l)↔∃i∈l,v∈vals (elemM d vs i):=by
 refine snocInd (P:=λl=>ay (elemMay d vs l)/\∀v,v∈vals (elemMay d vs l)↔∃i∈l,v∈vals (elemM d vs i)) ⟨⟨by simp[elemMay],.nil⟩,λv=>by simp[elemMay,vals]⟩ (λl i ⟨h1,h2⟩=> ?_) l;have e:elemMay d vs (l++[i])=pk (elemMay d vs l) (elemM d vs i):=(by simp[elemMay]);obtain⟨h3,h4⟩:=d7 gd vs i;have hr: ∀j v,v∈vals (elemM d vs j)->-1048576<=v/\v<=1048576:=λj v hv=>(gd.few.at _).2.2 v (((d7 gd vs j).2 v).1 hv).1;obtain⟨h5,h6⟩:=AN h1 h3 λr hr2=>by
  rcases DT.1 hr2 with hr2|hr2
  ·refine nZ h1 (λv hv=> ?_) r hr2;obtain⟨j,_,hj⟩:=(h2 v).1 hv;exact hr j v hj
  ·exact nZ h3 (hr i) r hr2
 rw[e];refine⟨h5,λv=> ?_⟩;rw[h6,h2];constructor
 ·rintro(⟨j,hj,h⟩|h);·exact⟨j,E7 _ hj,h⟩
  ·exact⟨i,EA _ (.head _),h⟩
 ·rintro⟨j,hj,h⟩;rcases DT.1 hj with hj|hj;·exact .inl ⟨j,hj,h⟩
  ·rw[DF.1 hj]at h;exact .inr h
theorem vz {n:Nat}{d:aa}(gd:GoodD n d)(vs:List Int)(l:List Int):(elemMay d vs l).length<=4096/\∀r∈elemMay d vs l,-1048576<=r.1/\r.1<=1048576/\-1048576<=r.2/\r.2<=1048576:=by
 obtain⟨h1,h2⟩:=pI gd vs l;have hs: ∀v∈vals (elemMay d vs l),v∈vals (domAt d (vs.getD 1 0)):=λv hv=>by
  obtain⟨i,_,h⟩:=(h2 v).1 hv;exact(((d7 gd vs i).2 v).1 h).2
 have h3:=bV (aE h1) hs;have h4:=(gd.few.at (vs.getD 1 0)).1;have h5:=bF h1;exact⟨by omega,nZ h1 λv hv=>(gd.few.at _).2.2 v (hs v hv)⟩
theorem jH {vs:List Int}{f:Int->Int}{j:Nat}(h:j<vs.length):(vs.map f).getD j 0=f (vs.getD j 0):=by
 rw[D0,DG,D1 h,D0,D1 h];rfl
theorem ji {vs:List Int}(hn:vs.Nodup){i j:Nat}(hi:i<vs.length)(hj:j<vs.length)(h:vs.getD i 0=vs.getD j 0):i=j:=by
 rw[aN hi,aN hj]at h;rw[<-hn.idxOf_getElem i hi,h,hn.idxOf_getElem j hj]
theorem cT {vs:List Int}{i:Nat}(hi:i<vs.length):vs.getD i 0∈vs:=by
 rw[aN hi];exact D8 hi
theorem iC {n:Nat}{d:aa}(gd:GoodD n d)(vs:List Int)(i:Int):i∈elemPl d vs↔i∈vals (domAt d (vs.getD 0 0))/\0<=i/\i.toNat+2<vs.length/\∃y,y∈vals (elemM d vs i):=by
 have e: ¬elemM d vs i=[]↔∃y,y∈vals (elemM d vs i):=by
  rw[<-e6 (d7 gd vs i).1];constructor;·exact λh=>F7 _ h
  ·rintro⟨y,hy⟩ h;rw[h]at hy;cases hy
 unfold elemPl elemIn;rw[ES,<-e];simp[and_assoc]
def ye (vs:List Int)(f:Int->Int):Prop:=0<=f (vs.getD 0 0)/\(f (vs.getD 0 0)).toNat+2<vs.length/\f (vs.getD ((f (vs.getD 0 0)).toNat+2) 0)=f (vs.getD 1 0)
theorem zy {vs:List Int}(h3:3<=vs.length)(f:Int->Int):rF (vs.map f)=true↔ye vs f:=by
 unfold rF ye;rw[jH (j:=0) (by omega),jH (j:=1) (by omega)];simp only[DH,DM,D9];generalize f (vs.getD 0 0)=i;constructor
 ·rintro⟨⟨⟨_,h1⟩,h2⟩,h4⟩;have e:(i+2).toNat=i.toNat+2:=(by omega);rw[e,jH (by omega)]at h4;exact⟨h1,by omega,h4⟩
 ·rintro⟨h1,h2,h4⟩;have e:(i+2).toNat=i.toNat+2:=(by omega);rw[e,jH (by omega)];exact⟨⟨⟨by omega,h1⟩,by omega⟩,h4⟩
theorem zu {n:Nat}{d:aa}(gd:GoodD n d){vs:List Int}(hn:vs.Nodup)(h3:3<=vs.length)(h0: ∀u∈vs,0<=u/\u.toNat<n){v:Int}(hv:v∈vs)(x:Int):
  (∃f:Int->Int,(∀u∈vs,f u∈vals (domAt d u))/\ye vs f/\f v=x)↔∃i y,i∈elemPl d vs/\y∈vals (elemM d vs i)/\x∈vals (domAt d v)/\(v=vs.getD 0 0->x=i)/\(v=vs.getD 1 0->x=y)/\(v=vs.getD (i.toNat+2) 0->x=y):=by
 constructor
 ·rintro⟨f,h1,⟨h4,h5,h6⟩,rfl⟩;have hy:f (vs.getD 1 0)∈vals (elemM d vs (f (vs.getD 0 0))):=by
   rw[(d7 gd vs _).2];exact⟨by rw[<-h6];exact h1 _ (cT h5),h1 _ (cT (by omega))⟩
  refine⟨f (vs.getD 0 0),f (vs.getD 1 0),(iC gd vs _).2 ⟨h1 _ (cT (by omega)),h4,h5,_,hy⟩,hy,h1 v hv,λe=>by rw[e],λe=>by rw[e],λe=>by rw[<-h6,e]⟩
 ·rintro⟨i,y,hi,hy,hx,e0,e1,e2⟩;obtain⟨i1,i2,i3,_⟩:=(iC gd vs i).1 hi;obtain⟨y1,y2⟩:=((d7 gd vs i).2 y).1 hy;have hg: ∀u,∃w,u∈vs->w∈vals (domAt d u):=λu=>by
   by_cases hu:u∈vs
   ·obtain⟨w,hw⟩:=gd.ne (h0 u hu).2;exact⟨w,λ_=>hw⟩
   ·exact⟨0,λh=>DS h hu⟩
  have d01:vs.getD 1 0≠vs.getD 0 0:=λe=>(by have:=ji hn (by omega) (by omega) e;omega);have d02:vs.getD (i.toNat+2) 0≠vs.getD 0 0:=λe=>(by have:=ji hn (by omega) (by omega) e;omega);have d12:vs.getD (i.toNat+2) 0≠vs.getD 1 0:=λe=>(by have:=ji hn (by omega) (by omega) e;omega);let f:Int->Int:=λu=>if u=vs.getD 0 0 then i else if u=vs.getD 1 0 then y else if u=vs.getD (i.toNat+2) 0 then y else if u=v then x else Classical.choose (hg u)
  have f0:f (vs.getD 0 0)=i:=D3 Y;have f1:f (vs.getD 1 0)=y:=(by simp only[f];rw[D2 d01,D3 trivial]);have f2:f (vs.getD (i.toNat+2) 0)=y:=(by simp only[f];rw[D2 d02,D2 d12,D3 trivial]);refine⟨f,λu hu=> ?_,⟨by rw[f0];exact i2,by rw[f0];exact i3,by rw[f0,f1,f2]⟩,?_⟩
  ·simp only[f];by_cases c0:u=vs.getD 0 0;·rw[D3 c0,c0];exact i1
   rw[D2 c0];by_cases c1:u=vs.getD 1 0;·rw[D3 c1,c1];exact y2
   rw[D2 c1];by_cases c2:u=vs.getD (i.toNat+2) 0;·rw[D3 c2,c2];exact y1
   rw[D2 c2];by_cases c3:u=v;·rw[D3 c3,c3];exact hx
   ·rw[D2 c3];exact Classical.choose_spec (hg u) hu
  ·simp only[f];by_cases c0:v=vs.getD 0 0;·rw[D3 c0];exact(e0 c0).symm
   rw[D2 c0];by_cases c1:v=vs.getD 1 0;·rw[D3 c1];exact(e1 c1).symm
   rw[D2 c1];by_cases c2:v=vs.getD (i.toNat+2) 0;·rw[D3 c2];exact(e2 c2).symm
   rw[D2 c2,D3 trivial]
theorem zw {n:Nat}{d:aa}{c:Con}(gd:GoodD n d)(hc:ConB c)(h:conR d c=0)(hk:c.kind=3):bK c d=rE d c:=by
 obtain⟨_,hv,hr,hin⟩:=cO hc h;have hu:usesR c=aW c.vars:=(by unfold usesR;rw[D2 (by omega)]);have hrr:c.vars.Nodup/\3<=c.vars.length:=by
  unfold rightR at hr;rw[D2 (by omega),D2 (by omega),D2 (by omega),D3 hk]at hr;simp only[manyR,DH,DM]at hr;exact⟨hr.1.2.2,hr.2⟩
 obtain⟨hnod,h3⟩:=hrr;have hnd:(usesR c).Nodup:=dy (b9 _);have hmem: ∀u,u∈usesR c↔u∈c.vars:=λu=>(by rw[hu];exact bJ u _);have hP: ∀f:Int->Int,aV c (eC d.length (usesR c) ((usesR c).map f) (usesR c).length)=true↔ye c.vars f:=λf=>by
  have hpk:pickedR c.vars (eC d.length (usesR c) ((usesR c).map f) (usesR c).length)=c.vars.map f:=EV λv hv=>lQ f hin ((hmem v).2 hv);unfold aV;rw[D2 (by omega),D2 (by omega),D2 (by omega),D3 hk,hpk];exact zy h3 f
 have h0: ∀u∈c.vars,0<=u/\u.toNat<n:=λu hu=>(by have:=hv.2 u hu;rwa[gd.len]at this);have hS: ∀v∈c.vars,∀x,pX d (usesR c) (λt=>aV c (eC d.length (usesR c) t (usesR c).length)) v x↔∃i y,i∈elemPl d c.vars/\y∈vals (elemM d c.vars i)/\x∈vals (domAt d v)/\(v=c.vars.getD 0 0->x=i)/\(v=c.vars.getD 1 0->x=y)/\(v=c.vars.getD (i.toNat+2) 0->x=y):=λv hvm x=>by
  rw[<-zu gd hnod h3 h0 hvm x];constructor
  ·rintro⟨f,h1,h2,h4⟩;exact⟨f,λu hu=>h1 u ((hmem u).2 hu),(hP f).1 h2,h4⟩
  ·rintro⟨f,h1,h2,h4⟩;exact⟨f,λu hu=>h1 u ((hmem u).1 hu),(hP f).2 h2,h4⟩
 unfold bK rE;rw[D2 (by omega),D2 (by omega),D2 (by omega),D2 (by omega),D2 gd.some'];unfold lG;rw[D2 gd.some'];generalize (λt=>aV c (eC d.length (usesR c) t (usesR c).length))=P at hS⊢;generalize usesR c=us at*;have hlin: ∀u,u∈us->0<=u/\u.toNat<d.length:=hin;clear hP h hu hr hc hk;generalize c.vars=vs at*;have dne: ∀j k,j<vs.length->k<vs.length->j≠k->(vs.getD j 0).toNat≠(vs.getD k 0).toNat:=λj k hj hk e2 e=>e2 (ji hnod hj hk (by have:=(h0 _ (cT hj)).1;have:=(h0 _ (cT hk)).1;omega));by_cases hl:elemPl d vs=[]
 ·rw[D3 hl];refine D3 ?_;have hv0:vs.getD 0 0∈vs:=cT (by omega);have hz:=h0 _ hv0;obtain⟨y,hy,hok,hx⟩:=(k9 (P:=P) hnd hlin (vs.getD 0 0).toNat).2 (by rw[FW hz.1];exact(hmem _).2 hv0);have:y=[]:=(e6 hok).1 (FJ.2 λx hxm=>by
   have:=(hx x).1 hxm;rw[FW hz.1,hS _ hv0,hl]at this;obtain⟨i,_,h,_⟩:=this;cases h)
  rw[this]at hy;exact D7 hy
 ·rw[D2 hl];obtain⟨m1,m2⟩:=pI gd vs (elemPl d vs);have hlu:Up (elemPl d vs):=(aE (gd.dok _)).filter _;have hlv: ∀v∈elemPl d vs,-1048576<=v/\v<=1048576:=λv hv=>(gd.few.at _).2.2 v (ES.1 hv).1;have hll:(elemPl d vs).length<=4096:=E9 (Ec _ _) (gd.few.at _).1;have hpl:=λi=>iC gd vs i;have hof:=rG hlu hlv hll;have hln:=dy hlu;have hmne: ∀i∈elemPl d vs,∃y,y∈vals (elemM d vs i):=λi hi=>((hpl i).1 hi).2.2.2;have hmay:elemMay d vs (elemPl d vs)≠[]:=λe=>by
   obtain⟨i,hi⟩:=F7 _ hl;obtain⟨y,hy⟩:=hmne i hi;have:=(m2 y).2 ⟨i,hi,hy⟩;rw[e]at this;cases this
  have hpk:cX (elemPl d vs)≠[]:=λe=>hl (by rw[<-bI hlu,e];rfl);have hxx: ∀v x i y,y∈vals (elemM d vs i)->(v=vs.getD 1 0->x=y)->v=vs.getD 1 0->x∈vals (elemM d vs i):=λv x i y hy e hv=>(by rw[e hv];exact hy);unfold sO;rw[hof];generalize elemMay d vs (elemPl d vs)=may at*;generalize hpe:elemPl d vs=l at*;have hsz: ∀o:aa,(if l.length=1 then((d.set (vs.getD 0 0).toNat (cX l)).set (vs.getD 1 0).toNat may).set (vs.getD ((l.getD 0 0).toNat+2) 0).toNat may else(d.set (vs.getD 0 0).toNat (cX l)).set (vs.getD 1 0).toNat may)=o->o.length=d.length:=λo e=>(by rw[<-e];split<;>simp);generalize hO:(if l.length=1 then((d.set (vs.getD 0 0).toNat (cX l)).set (vs.getD 1 0).toNat may).set (vs.getD ((l.getD 0 0).toNat+2) 0).toNat may else(d.set (vs.getD 0 0).toNat (cX l)).set (vs.getD 1 0).toNat may)=out;have hlen:=hsz out hO;have hd0:=λj (hj:j<vs.length)=>(hlin _ ((hmem _).2 (cT hj))).2;have hi0:l.length=1->l.getD 0 0∈l:=λe=>(by rw[aN (by omega)];exact D8 _);have hb0:l.length=1->(l.getD 0 0).toNat+2<vs.length:=λe=>((hpl _).1 (hi0 e)).2.2.1;have hat: ∀j,j<vs.length->domAt out (vs.getD j 0)=if j=0 then cX l else if j=1 then may else if l.length=1/\j=(l.getD 0 0).toNat+2 then may else domAt d (vs.getD j 0):=λj hj=>by
   rw[<-hO];by_cases hl1:l.length=1
   ·rw[D3 hl1,fE (by simp;exact hd0 _ (hb0 hl1)),fE (by simp;exact hd0 1 (by omega)),fE (hd0 0 (by omega))];by_cases c2:j=(l.getD 0 0).toNat+2;·rw[D3 (by rw[c2]),D2 (by omega),D2 (by omega),D3 ⟨hl1,c2⟩]
    ·rw[D2 (dne _ _ (hb0 hl1) hj (Ne.symm c2)),D2 (c:=l.length=1/\_) (λh=>c2 h.2)];by_cases c1:j=1;·rw[D3 (by rw[c1]),D2 (by omega),D3 c1]
     ·rw[D2 (dne _ _ (by omega) hj (Ne.symm c1)),D2 c1];by_cases c0:j=0;·rw[D3 (by rw[c0]),D3 c0]
      ·rw[D2 (dne _ _ (by omega) hj (Ne.symm c0)),D2 c0]
   ·rw[D2 hl1,fE (by simp;exact hd0 1 (by omega)),fE (hd0 0 (by omega)),D2 (c:=l.length=1/\_) (λh=>hl1 h.1)];by_cases c1:j=1;·rw[D3 (by rw[c1]),D2 (by omega),D3 c1]
    ·rw[D2 (dne _ _ (by omega) hj (Ne.symm c1)),D2 c1];by_cases c0:j=0;·rw[D3 (by rw[c0]),D3 c0]
     ·rw[D2 (dne _ _ (by omega) hj (Ne.symm c0)),D2 c0]
  have hms: ∀x∈out,x=cX l∨x=may∨x∈d:=λx hx=>by
   rw[<-hO]at hx;split at hx
   ·rcases DV hx with hx|hx
    ·rcases DV hx with hx|hx
     ·rcases DV hx with hx|hx;·exact .inr (.inr hx)
      ·exact .inl hx
     ·exact .inr (.inl hx)
    ·exact .inr (.inl hx)
   ·rcases DV hx with hx|hx
    ·rcases DV hx with hx|hx;·exact .inr (.inr hx)
     ·exact .inl hx
    ·exact .inr (.inl hx)
  rw[nV (out:=out) hnd hlin hlen (λx hx=> ?_) (λv hvm x=> ?_) (λi hi=> ?_)]
  ·unfold mU;rw[D2];intro hm;rcases hms _ hm with e|e|e;·exact hpk e.symm
   ·exact hmay e.symm
   ·exact gd.some' e
  ·rcases hms x hx with rfl|rfl|hx;·exact gg hlu
   ·exact m1
   ·exact(gd.few.fine x hx).ok
  ·have hvc:=(hmem v).1 hvm;rw[hS v hvc];have hj:vs.idxOf v<vs.length:=FO.2 hvc;have hve:v=vs.getD (vs.idxOf v) 0:=(by rw[aN hj,Fy]);generalize vs.idxOf v=j at hj hve;subst hve;have hvi: ∀k,k<vs.length->(vs.getD j 0=vs.getD k 0↔j=k):=λk hk=>⟨ji hnod hj hk,λe=>by rw[e]⟩;rw[hat j hj];by_cases c0:j=0
   ·subst c0;rw[D3 Y,bI hlu];constructor
    ·intro hx;obtain⟨y,hy⟩:=hmne x hx;obtain⟨a1,a2,a3,_⟩:=(hpl x).1 hx;exact⟨x,y,hx,hy,a1,λ_=>rfl,λe=>by rw[hvi 1 (by omega)]at e;omega,λe=>by rw[hvi _ a3]at e;omega⟩
    ·rintro⟨i,y,hi,_,_,e,_⟩;rw[e Y];exact hi
   rw[D2 c0];by_cases c1:j=1
   ·subst c1;rw[D3 Y,m2];constructor
    ·rintro⟨i,hi,hx⟩;obtain⟨a1,a2,a3,_⟩:=(hpl i).1 hi;exact⟨i,x,hi,hx,(((d7 gd vs i).2 x).1 hx).2,λe=>DS ((hvi 0 (by omega)).1 e) (by omega),λ_=>rfl,λe=>DS ((hvi _ a3).1 e) (by omega)⟩
    ·rintro⟨i,y,hi,hy,_,_,e,_⟩;exact⟨i,hi,by rw[e Y];exact hy⟩
   rw[D2 c1];by_cases hl1:l.length=1
   ·have hone: ∀i∈l,i=l.getD 0 0:=λi hi=>by
     obtain⟨z,rfl⟩:=Fm.1 hl1;rw[DF.1 hi];rfl
    by_cases c2:j=(l.getD 0 0).toNat+2
    ·rw[D3 ⟨hl1,c2⟩,m2];constructor
     ·rintro⟨i,hi,hx⟩;obtain⟨a1,a2,a3,_⟩:=(hpl i).1 hi;have:=hone i hi;exact⟨i,x,hi,hx,by have:=(((d7 gd vs i).2 x).1 hx).1;rw[c2,<-hone i hi];exact this,λe=>by rw[hvi 0 (by omega)]at e;omega,λ_=>rfl,λ_=>rfl⟩
     ·rintro⟨i,y,hi,hy,_,_,_,e⟩;exact⟨i,hi,by rw[e (by rw[c2,hone i hi])];exact hy⟩
    ·rw[D2 λh=>c2 h.2];constructor
     ·intro hx;obtain⟨y,hy⟩:=hmne _ (hi0 hl1);exact⟨_,y,hi0 hl1,hy,hx,λe=>by rw[hvi 0 (by omega)]at e;omega,λe=>by rw[hvi 1 (by omega)]at e;omega,λe=>by rw[hvi _ (hb0 hl1)]at e;omega⟩
     ·rintro⟨i,y,_,_,hx,_⟩;exact hx
   ·rw[D2 λh=>hl1 h.1];constructor
    ·intro hx;have: ∃i∈l,i.toNat+2≠j:=by
      match l,hl,hl1,hln,hpl with
      | [],hl,_,_,_=>exact DS Y hl
      | [z],_,h1,_,_=>exact DS Y h1
      |z::t::_,_,_,hln,hpl=>
       by_cases e:z.toNat+2=j
       ·refine⟨t,.tail _ (.head _),λe2=> ?_⟩;have a1:=((hpl z).1 (.head _)).2.1;have a2:=((hpl t).1 (.tail _ (.head _))).2.1;have:z=t:=(by omega);rw[this]at hln;exact(EN.1 hln).1 (.head _)
       ·exact⟨z,.head _,e⟩
     obtain⟨i,hi,hne⟩:=this;obtain⟨y,hy⟩:=hmne i hi;exact⟨i,y,hi,hy,hx,λe=>by rw[hvi 0 (by omega)]at e;omega,λe=>by rw[hvi 1 (by omega)]at e;omega,λe=>by rw[hvi _ ((hpl i).1 hi).2.2.1]at e;omega⟩
    ·rintro⟨i,y,_,_,hx,_⟩;exact hx
  ·have hni: ∀k,k<vs.length->(vs.getD k 0).toNat≠i:=λk hk e=>hi (by
    rw[<-e,FW (h0 _ (cT hk)).1];exact(hmem _).2 (cT hk))
   rw[<-hO];by_cases hl1:l.length=1;·rw[D3 hl1,E4 (hni _ (hb0 hl1)),E4 (hni 1 (by omega)),E4 (hni 0 (by omega))]
   ·rw[D2 hl1,E4 (hni 1 (by omega)),E4 (hni 0 (by omega))]
set_option maxRecDepth 8000
theorem zg {l:List (Int×Int)}(h: ∀r∈l,-1048576<=r.2/\r.2<=1048576): ∀r∈joinG l,-1048576<=r.2/\r.2<=1048576:=by
 revert h;refine snocInd (P:=λl=>(∀r∈l,-1048576<=r.2/\r.2<=1048576)->∀r∈joinG l,-1048576<=r.2/\r.2<=1048576) (λ_ r hr=>by simp[joinG]at hr) (λl x ih h=> ?_) l;have ih:=ih λr hr=>h r (E7 _ hr);have hx:=h x (EA _ (.head _));rw[ix];rcases FM (joinG l)with e|⟨o,r,e⟩
 ·rw[e,jD];intro r hr;rw[DF.1 hr];exact hx
 ·rw[e,FD]at ih⊢;rw[iw];have hr:=ih r (EA _ (.head _));split
  ·intro s hs;rcases DT.1 hs with hs|hs;·exact ih s (E7 _ hs)
   ·rw[DF.1 hs];simp only;omega
  ·intro s hs;rcases DT.1 hs with hs|hs;·exact ih s hs
   ·rw[DF.1 hs];exact hx
set_option maxHeartbeats 2000000 in
theorem xg (a b:List (Int×Int))(hl:(a.length+b.length+1)*16<=140737488355328)(hb: ∀r∈a++b,-1048576<=r.1/\r.1<=1048576/\-1048576<=r.2/\r.2<=1048576):
  Spec Tryz.prog 190 false [dm a,dm b] [.own 53 2 ((pk a b).map cR)]:=by
 refine Spec.body Tryz.func190 Y Y Y λw0 Z0=> ?_;have hso:=oq (l:=a++b) λr hr=>(by have:=hb r hr;omega);have hspec:=tG (a++b) (by simp;omega) λr hr=>(by have:=hb r hr;omega);have hsb: ∀r∈sortR (a++b),-1048576<=r.1/\r.1<=1048576/\-1048576<=r.2/\r.2<=1048576:=λr hr=>hb r (hso.1.mem_iff.1 hr);have hsl:(sortR (a++b)).length=a.length+b.length:=(by rw[hso.1.length_eq];simp);show T _ _ _ _;unfold pk;generalize sortR (a++b)=l at*;refine .B ?_;refine .D (bR a (by omega)) ?_;refine J.am (enc:=cR) (l:=a) (l2:=b) (B:=16) Y Y Y Y Y Y Y Y Y Y Y Y Y Y Y Y Y (λ_=>rfl) Y (by omega) ?_;refine .B ?_;refine J.cm Y Y Y Y Y Y Y Y Y hspec Y Y Y ?_;refine .B ?_;refine T.sub (Rel.own0 (s:=6) 53 2 Y) ?_;refine T.sub (Rel.flat (o:=1) Y sJ) ?_;refine T.K (T.list l (λn pre post=>⟨[(6,.ref 0),(16,.ref 1),(17,.val true (.int .i64 (l.map cR).length)),(18,.val true (.int .i64 n))],[(0,some (.sl 53 2 true ((joinG pre).map cR))),(1,some (.sl 53 2 true (l.map cR)))],2⟩) (λ_ _ h=>h) ?_ ?_)
 ·rintro n pre ⟨x1,x2⟩ post h hn ih;have hlt:=bZ h hn;have hpl:=zh pre;have hpn:pre.length<=l.length:=(by rw[h];simp);have hx:=hsb (x1,x2) (by rw[h];simp);simp only at hx;have hpb: ∀r∈joinG pre,-1048576<=r.2/\r.2<=1048576:=zg λr hr=>(by have:=hsb r (by rw[h];simp[hr]);omega);rw[ix]at ih;refine .B ?_;refine T.ct2 Y (bY h hn) ?_;refine .B ?_;refine J.io Y Y Y Y Y Y Y Y Y (by omega) (by simp;omega) Y ?_;refine .B ?_;refine J.lo Y Y Y Y Y Y (r:=cR (x1,x2)) (aQ h hn) Y ?_;refine .B ?_;refine .L ?_;refine .X ?_;have hw1:=aj hlt (by omega);have hby:((joinG pre).length+1)*16<=140737488355328:=(by omega);generalize joinG pre=out at*;rcases FM out with rfl|⟨o,⟨a,b⟩,rfl⟩
  ·rw[jD]at ih;refine J.g Y Y Y (λh2=> ?_) (λh2=> ?_);·simp at h2
   refine .B ?_;refine T.cf Y ?_;refine .B ?_;refine .Z ?_;refine J.aR Y Y Y Y Y Y Y Y Y Y Y Y Y Y Y Y Y Y Y (by simp) ?_;refine .B ?_;rw[aj hlt (by omega)];exact T.K ih
  ·rw[FD]at*;rw[iw]at ih;have hab:=hpb (a,b) (by simp);simp only at hab;have hw2:IntKind.i64.wrap (b+1)=b+1:=ac (by omega) (by omega);refine J.g Y Y Y (λh2=> ?_) (λh2=> ?_)
   rotate_left
   ·simp at h2
   have hlw:IntKind.i64.wrap (((((o++[(a,b)]).map cR).length:Nat):Int)-1)=(o.length:Int):=by
    rw[D9,DW,ac]<;>simp at* <;>omega
   have hro:((o++[(a,b)]).map cR)[((o.length:Nat):Int).toNat]? =some (cR (a,b)):=(by simp);refine .B ?_;rw[hlw];refine J.io Y Y Y Y Y Y Y Y Y (Fw _) (by simp) rfl ?_;refine .B ?_;refine J.lo Y Y Y Y Y Y (r:=cR (a,b)) hro Y ?_;refine .B ?_;rw[hw2];refine T.cd Y (λh3=> ?_) (λh3=> ?_)
   ·rw[D3 h3]at ih;refine .B ?_;refine T.rdw 12 Y (by kernel_rfl) Y ?_;refine .B ?_;rw[hlw];refine J.io Y Y Y Y Y Y Y Y Y (Fw _) (by simp) rfl ?_;refine .B ?_;refine J.lo Y Y Y Y Y Y (r:=cR (a,b)) hro Y ?_;refine .B ?_;refine⟨rfl,?_⟩;refine J.io Y Y Y Y Y Y Y Y Y (Fw _) (by simp) rfl ?_;refine .B ?_;refine J.w Y Y Y Y Y Y Y Y Y (t6 o a b (max b x2)) ?_;refine .B ?_;rw[hw1];exact T.K ih
   ·rw[D2 h3]at ih;refine .B ?_;refine .Z ?_;refine J.aR Y Y Y Y Y Y Y Y Y Y Y Y Y Y Y Y Y Y Y (l:=o++[(a,b)]) (a:=x1) (b:=x2) hby ?_;refine .B ?_;rw[hw1];exact T.K ih
 ·refine .B ?_;refine T.cf2 Y bq ?_;refine .B ?_;exact⟨_,.o Y Y Y (λ_=> .inl Y) (by simp) .nil⟩
theorem nq {p:Int->Bool}{f:FuncId}(caps:List PV)(l:List Int)(hp: ∀v∈l,Spec Tryz.prog f false (.int .i64 v::caps) [.val (.bool (p v))])(hl:l.length*8<=140737488355328):Spec Tryz.prog 169 false [ao l,.fn (.func f) [] caps] [.val (.int .i64 (indexP p l))]:=by
 refine Spec.body Tryz.func169 Y Y Y λw0 Z0=> ?_;refine .B ?_;refine T.K (T.listI l (λpre=> ∀v∈pre,p v=false) (λn pre post=>⟨[(0,.val false (ao l)),(1,.val false (.fn (.func f) [] caps)),(7,.val true (.int .i64 (l.map cI).length)),(8,.val true (.int .i64 n))],[],0⟩) (λ_ _ h=>h) (λv hv=>by cases hv) ?_ ?_)
 ·rintro n pre v post h hn hi ih;have hlt:=bZ h hn;have hsp:=hp v (by rw[h];simp);refine .B ?_;refine T.ct2 Y (bY h hn) ?_;refine .B ?_;refine .F (r:=cI v) (aQ h hn) ?_;refine .D hsp ?_;refine T.cond Y (λh2=> ?_) (λh2=> ?_)
  ·have h2:p v=true:=h2;refine .B ?_;have e:indexP p l=(n:Int):=by
    unfold indexP;rw[h,GM,EO.2 (by simpa using hi),Fe,D3 h2];simp[hn]
   rw[e];exact r1
  ·have h2:p v=false:=h2;refine .B ?_;rw[aj hlt (by omega)];exact T.K (ih (by
    intro x hx;rcases DT.1 hx with hx|hx;·exact hi x hx
    ·rw[DF.1 hx];exact h2))
 ·intro hi;have e:indexP p l= -1:=by
   unfold indexP;rw[EO.2 (by simpa using hi)]
  rw[e];refine .B ?_;refine T.cf2 Y bq ?_;refine .B ?_;exact r1
theorem sG (p:Int->Bool)(l:List Int):(indexP p l= -1/\∀v∈l,p v=false)∨∃i:Nat,i<l.length/\indexP p l=(i:Int)/\p (l.getD i 0)=true/\∀v∈l.take i,p v=false:=by
 unfold indexP;cases h:l.findIdx? p with
 |none=>exact .inl ⟨rfl,by simpa using EO.1 h⟩
 |some i=>
  obtain⟨h1,h2,h3⟩:=Ep.1 h;refine .inr ⟨i,h1,rfl,by rw[aN h1];exact h2,λv hv=> ?_⟩;obtain⟨j,hj⟩:=DI hv;have hjl:=(D5.1 hj).1;have hji:j<i:=(by simp at hjl;omega);have:=h3 j hji;rw[FC hji,D1 (by omega)]at hj;rw[<-D4 hj];simpa using this
structure DelInv (p:Int->Bool)(l:List Int)(j:Nat)(L:List Int):Prop where
 len:L.length=l.length
 le:j<=l.length
 lt:((l.take j).filter λx=> !p x).length<j
 tk:L.take ((l.take j).filter λx=> !p x).length=(l.take j).filter λx=> !p x
 dr:L.drop j=l.drop j
theorem DelInv.at {p:Int->Bool}{l L:List Int}{j:Nat}(h:DelInv p l j L)(hj:j<l.length):L.getD j 0=l.getD j 0:=by
 have h1:=h.dr;have hL:=h.len;rw[DP (by omega),DP hj]at h1;rw[aN (by omega),aN hj];exact(List.cons.inj h1).1
theorem DelInv.step {p:Int->Bool}{l L:List Int}{j:Nat}(h:DelInv p l j L)(hj:j<l.length):
  (p (l.getD j 0)=true->DelInv p l (j+1) L/\((l.take (j+1)).filter λx=> !p x).length=((l.take j).filter λx=> !p x).length)/\
  (p (l.getD j 0)=false->DelInv p l (j+1) (L.set ((l.take j).filter λx=> !p x).length (l.getD j 0))/\((l.take (j+1)).filter λx=> !p x).length=((l.take j).filter λx=> !p x).length+1):=by
 obtain⟨h1,h2,h3,h4,h5⟩:=h;have ht:l.take (j+1)=l.take j++[l.getD j 0]:=(by rw[DB hj,aN hj]);have hd:L.drop (j+1)=l.drop (j+1):=by
  have:=congrArg (List.drop 1) h5;rwa[HR,HR]at this
 refine⟨λhp=> ?_,λhp=> ?_⟩
 ·have e:(l.take (j+1)).filter (λx=> !p x)=(l.take j).filter λx=> !p x:=(by rw[D0]at hp;rw[ht,Fx];simp[hp]);exact⟨⟨h1,hj,by rw[e];omega,by rw[e];exact h4,hd⟩,by rw[e]⟩
 ·have e:(l.take (j+1)).filter (λx=> !p x)=((l.take j).filter λx=> !p x)++[l.getD j 0]:=(by rw[D0]at hp;rw[ht,Fx];simp[hp]);refine⟨⟨by simpa using h1,hj,by rw[e];simp;omega,?_,?_⟩,by rw[e];simp⟩;·rw[e,DW,El,DB (by simp;omega),List.getElem_set_self,List.take_set_of_le (DL _),h4]
  ·rw[Gz (by omega)];exact hd
theorem sP {p:Int->Bool}{f:FuncId}(caps:List PV)(l:List Int)(hp: ∀v∈l,Spec Tryz.prog f false (.int .i64 v::caps) [.val (.bool (p v))])(hl:l.length*8<=140737488355328):
  SpecP Tryz.prog 187 [] [] 3 1 (l.map cI) [.fn (.func f) [] caps] ((l.filter λx=> !p x).map cI):=by
 refine SpecP.body Tryz.func187 Y Y Y (λr hr q hq=>by obtain⟨x,_,rfl⟩:=DD.1 hr;simp[cI]at hq;rw[hq];rfl) λw0 v0 Z1=> ?_;have hix:=nq caps l hp hl;have hcs:=sG p l;generalize indexP p l=i0 at*;refine .B ?_;refine .D hix ?_;rcases hcs with ⟨rfl,hall⟩|⟨i,hi,rfl,hpi,hbe⟩
 ·refine T.ct Y ?_;refine .B ?_;rw[H1.2 (λx hx=>by rw[hall x hx];rfl)];exact⟨4,0,rfl,rfl,rfl⟩
 ·refine T.cf2 Y (DC (by omega)) ?_;have hf0:(l.take i).filter (λx=> !p x)=l.take i:=H1.2 (λx hx=>by rw[hbe x hx];rfl);have hf1:(l.take (i+1)).filter (λx=> !p x)=l.take i:=by
   rw[D0]at hpi;rw[DB hi,Fx,hf0,<-aN hi];simp[hpi]
  have hinv:DelInv p l (i+1) l:=⟨rfl,hi,by rw[hf1];simp;omega,by rw[hf1];simp[Ef (Gh hi)],rfl⟩;refine .B ?_;rw[aj hi hl];refine T.K (T.ind (λs:Nat×Nat×List Int=>⟨[(0,.ref 0),(1,.val false (.fn (.func f) [] caps)),(5,.val true (.int .i64 s.2.1)),(6,.val true (.int .i64 s.1))],[(0,some (.sl 3 1 true (s.2.2.map cI)))],1⟩)
   (λs=>DelInv p l s.1 s.2.2/\s.2.1=((l.take s.1).filter λx=> !p x).length) (λs=>l.length-s.1) (i+1,i,l) ⟨hinv,by simp only;rw[hf1];simp;omega⟩ (λ_ _ h=>h) ?_)
  rintro⟨j,k,L⟩ ⟨hinv,hk⟩ ih;simp only at hinv hk;dsimp only;have hle:=hinv.le;have hlen:=hinv.len;have hlt:=hinv.lt;rw[<-hk]at hlt;refine .B ?_;refine T.cd Y (λh6=> ?_) (λh6=> ?_)
  ·have h6:j<l.length:=(by simp at h6;omega);have hrow:(L.map cI)[((j:Nat):Int).toNat]? =some (cI (l.getD j 0)):=by
    rw[<-hinv.at h6,aN (by omega)];exact aK (by omega)
   obtain⟨hs1,hs2⟩:=hinv.step h6;have hsp:=hp (l.getD j 0) (by rw[aN h6];exact D8 _);have hw1:IntKind.i64.wrap ((j:Int)+1)=((j+1:Nat):Int):=aj h6 hl;have hw2:IntKind.i64.wrap ((k:Int)+1)=((k+1:Nat):Int):=aj (l:=l.length) (by omega) hl;have ih1:=λk2 L2 h1 h2=>ih (j+1,k2,L2) ⟨h1,h2⟩ (by show _-_<_-_;omega);rw[<-hk]at hs1 hs2;refine .B ?_;refine J.io Y Y Y Y Y Y Y Y Y (by omega) (by simp;omega) Y ?_;refine .B ?_;refine J.lo Y Y Y Y Y Y (r:=cI (l.getD j 0)) hrow Y ?_;refine .B ?_;refine .D hsp ?_;cases hpv:p (l.getD j 0)with
   |true=>
    obtain⟨a1,a2⟩:=hs1 hpv;refine T.cf Y ?_;refine .B ?_;rw[hw1];exact T.K (ih1 k L a1 a2.symm)
   |false=>
    obtain⟨a1,a2⟩:=hs2 hpv;refine T.ct Y ?_;refine .B ?_;refine J.io Y Y Y Y Y Y Y Y Y (by omega) (by simp;omega) Y ?_;refine .B ?_;refine J.w1 Y Y Y Y Y Y Y Y Y Y Y (enc:=cI) (z:=l.getD j 0) (λ_=>rfl) (by simp;omega) ?_;refine .B ?_;rw[hw1,hw2];exact T.K (ih1 (k+1) _ a1 a2.symm)
  ·have h6:j=l.length:=(by simp at h6;omega);have htk:=hinv.tk;subst h6;rw[<-hk]at htk;rw[EI]at htk;refine .B ?_;refine J.clr (l:=L) k Y Y Y Y Y Y Y (by omega) Y Y Y (λw=>by kernel_rfl) Y Y Y Y (λ_=>rfl) λu=> ?_;refine .B ?_;refine J.cut (l:=L.take k++List.replicate (L.length-k) 0) k Y Y Y Y Y Y Y (by simp;omega) Y Y ?_;refine .B ?_;rw[show(L.take k++List.replicate (L.length-k) (0:Int)).take k=l.filter λx=> !p x by rw[Fh (by simp;omega),GI,Nat.min_self,htk]];exact⟨4,1,rfl,rfl,rfl⟩
def clP (d:aa)(c:Con)(us t:List Int):Bool:=aV c (eC d.length us t us.length)
theorem xY {x k:Int}(hk:k=1∨k= -1):sC (x,k)=true↔x=dA k:=by
 rcases hk with rfl|rfl;·rw[C9];simp[sC]
 ·rw[C8];simp[sC]
theorem BY {d:aa}{c:Con}(h:ClOk d c)(hk:c.kind=5)(f:Int->Int):clP d c (aW c.vars) ((aW c.vars).map f)=true↔∃p∈c.vars.zip c.coefs,f p.1=dA p.2:=by
 have hin: ∀u∈aW c.vars,0<=u/\u.toNat<d.length:=λu hu=>h.vin u ((bJ u _).1 hu);have hat: ∀v∈c.vars,atR (eC d.length (aW c.vars) ((aW c.vars).map f) (aW c.vars).length) v=f v:=λv hv=>lQ f hin ((bJ v _).2 hv);have hp:pickedR c.vars (eC d.length (aW c.vars) ((aW c.vars).map f) (aW c.vars).length)=c.vars.map f:=EV λv hv=>hat v hv;unfold clP aV;rw[D2 (by omega),D2 (by omega),D2 (by omega),D2 (by omega),D2 (by omega),D3 hk,hp,Ev];constructor
 ·rintro⟨q,hq,hl⟩;obtain⟨i,hi⟩:=DI hq;rw[F8]at hi;obtain⟨h1,h2⟩:=hi;rw[DG]at h1;obtain⟨v,hv,e⟩:=Dy.1 h1;refine⟨(v,q.2),D7 (i:=i) (F8.2 ⟨hv,h2⟩),?_⟩;rw[show q=(q.1,q.2)from Y,xY (h.unit _ (D7 h2))]at hl;rw[<-hl,<-e]
 ·rintro⟨p,hp,e⟩;obtain⟨i,hi⟩:=DI hp;rw[F8]at hi;refine⟨(f p.1,p.2),D7 (i:=i) (F8.2 ⟨by rw[DG,hi.1];rfl,hi.2⟩),?_⟩;rw[xY (h.unit _ (D7 hi.2))];exact e
theorem Bc {c:Con}(hn:c.vars.Nodup){p q:Int×Int}(hp:p∈c.vars.zip c.coefs)(hq:q∈c.vars.zip c.coefs)(h:p.1=q.1):p=q:=by
 obtain⟨i,hi⟩:=DI hp;obtain⟨j,hj⟩:=DI hq;have e:i=j:=by
  rw[F8]at hi hj;obtain⟨h1,h2⟩:=D5.1 hi.1;obtain⟨h3,h4⟩:=D5.1 hj.1;exact(Fp hn).1 (h2.trans (h.trans h4.symm))
 subst e;exact D4 (hi.symm.trans hj)
theorem vG {d:aa}{c:Con}(h:ClOk d c)(hk:c.kind=5)(hf: ∀x∈d,Fine x):lG d (aW c.vars) (clP d c (aW c.vars))=jM d c:=by
 have hus: ∀u,u∈aW c.vars↔u∈c.vars:=λu=>bJ u _;have hnd:(aW c.vars).Nodup:=dy (b9 _);have hin: ∀u∈aW c.vars,0<=u/\u.toNat<d.length:=λu hu=>h.vin u ((hus u).1 hu);have hP:=BY h hk;have hpv: ∀p∈c.vars.zip c.coefs,p.1∈c.vars:=λp hp=>(E8 hp).1;have hlb: ∀p,litB d p=true↔dA p.2∈vals (domAt d p.1):=λp=>cS;unfold lG;rw[xl h.len];by_cases hm: []∈d;·rw[D3 hm,D3 hm]
 rw[D2 hm,D2 hm];have hne: ∀v∈c.vars,∃x,x∈vals (domAt d v):=by
  intro v hv;have hd:=hf _ (af (h.vin v hv).2);have:domAt d v≠[]:=λe=>hm (e▸af (h.vin v hv).2);exact⟨_,fC hd.ok this⟩
 obtain⟨g,hg⟩: ∃g:Int->Int,∀v∈c.vars,g v∈vals (domAt d v):=⟨λv=>ax (domAt d v),λv hv=>fC (hf _ (af (h.vin v hv).2)).ok λe=>hm (e▸af (h.vin v hv).2)⟩;cases hL:(c.vars.zip c.coefs).filter (litB d)with
 |nil=>
  have hno: ∀p∈c.vars.zip c.coefs,litB d p=false:=λp hp=>by
   have:=List.filter_eq_nil_iff.1 hL p hp;simpa using this
  obtain⟨v,hv⟩: ∃v,v∈c.vars:=⟨c.vars[0]'h.pos,D8 _⟩;have hvi:=h.vin v hv;obtain⟨y,hy,hyd,hyv⟩:=(k9 (P:=clP d c (aW c.vars)) hnd hin v.toNat).2 (by rw[FW hvi.1];exact(hus v).2 hv);have hy0:y=[]:=by
   refine(e6 hyd).1 (FJ.2 λx hx=> ?_);obtain⟨f,hf1,hf2,_⟩:=(hyv x).1 hx;obtain⟨p,hp,e⟩:=(hP f).1 hf2;have:=hf1 p.1 ((hus _).2 (hpv p hp));rw[e]at this;have:=hno p hp;rw[(hlb p).2 ‹_›]at this;cases this
  subst hy0;unfold mU;rw[D3 (D7 hy)];rfl
 |cons p l=>
  have hp:p∈c.vars.zip c.coefs/\litB d p=true:=ES.1 (by rw[hL];exact .head _);have hpl:=(hlb p).1 hp.2;have hpi:=h.vin _ (hpv p hp.1);have hpd:=hf _ (af hpi.2);cases l with
  |nil=>
   obtain⟨hc1,hc2⟩:=bQ hpd.ok (dA p.2) (dA p.2);have hcv: ∀x,x∈vals (domCut (domAt d p.1) (dA p.2) (dA p.2))↔x=dA p.2:=λx=>by
    rw[hc2];constructor;·rintro⟨_,h1,h2⟩;omega
    ·rintro rfl;exact⟨hpl,by omega,by omega⟩
   have hcn:domCut (domAt d p.1) (dA p.2) (dA p.2)≠[]:=λe=>by
    have:=(hcv (dA p.2)).2 Y;rw[e]at this;cases this
   have honly: ∀q∈c.vars.zip c.coefs,litB d q=true->q=p:=λq hq hb=>by
    have:q∈(c.vars.zip c.coefs).filter (litB d):=ES.2 ⟨hq,hb⟩;rw[hL]at this;simpa using this
   have hkeep:clF d [p]=some (d.set p.1.toNat (domCut (domAt d p.1) (dA p.2) (dA p.2))):=by
    show dB d p.1 (dA p.2)=_;unfold dB;rw[D2 hcn]
   rw[hkeep,nV (out:=d.set p.1.toNat (domCut (domAt d p.1) (dA p.2) (dA p.2))) hnd hin (by simp) ?_ ?_ ?_]
   ·unfold mU;rw[D2 λhc=>hcn ((dI hpi.2 hm).1 hc)]
   ·intro x hx;rcases DV hx with hx|rfl;·exact(hf x hx).ok
    ·exact hc1
   ·intro v hv x;have hvc:=(hus v).1 hv;have hvi:=h.vin v hvc;rw[fE hpi.2];by_cases e:p.1.toNat=v.toNat
    ·have e2:p.1=v:=(by omega);rw[D3 e,hcv];subst e2;constructor
     ·rintro rfl;refine⟨λu=>if u=p.1 then dA p.2 else g u,λu hu=> ?_,(hP _).2 ⟨p,hp.1,D3 Y⟩,D3 Y⟩;by_cases e3:u=p.1;·simp only[e3,if_true];exact hpl
      ·simp only[e3,if_false];exact hg u ((hus u).1 hu)
     ·rintro⟨f,hf1,hf2,rfl⟩;obtain⟨q,hq,e3⟩:=(hP f).1 hf2;have:=hf1 q.1 ((hus _).2 (hpv q hq));rw[e3]at this;have:=honly q hq ((hlb q).2 this);subst this;exact e3
    ·have e2:p.1≠v:=λe2=>e (by rw[e2]);rw[D2 e];constructor
     ·intro hx;refine⟨λu=>if u=p.1 then dA p.2 else if u=v then x else g u,λu hu=> ?_,(hP _).2 ⟨p,hp.1,D3 Y⟩,by simp only[Ne.symm e2,if_false,if_true]⟩;by_cases e3:u=p.1;·simp only[e3,if_true];exact hpl
      ·by_cases e4:u=v;·subst e4;simp only[e3,if_false,if_true];exact hx
       ·simp only[e3,e4,if_false];exact hg u ((hus u).1 hu)
     ·rintro⟨f,hf1,_,rfl⟩;exact hf1 v hv
   ·intro i hi;rw[E4];rintro rfl;exact hi (by rw[FW hpi.1];exact(hus _).2 (hpv p hp.1))
  |cons q l=>
   have hq:q∈c.vars.zip c.coefs/\litB d q=true:=ES.1 (by rw[hL];exact .tail _ (.head _));have hql:=(hlb q).1 hq.2;have hpq:p.1≠q.1:=by
    intro e;have e2:=Bc h.nod hp.1 hq.1 e;have hz:(c.vars.zip c.coefs).Nodup:=by
     refine List.Pairwise.of_map (S:=(· ≠ ·)) Prod.fst (λa b hne e=>hne (by rw[e])) ?_;rw[List.map_fst_zip (by rw[h.len];exact DL _)];exact h.nod
    have:=hz.filter (litB d);rw[hL,e2]at this;simp at this
   have hcl:clF d (p::q::l)=some d:=rfl;rw[hcl,nV (out:=d) hnd hin Y (λx hx=>(hf x hx).ok) ?_ (λ_ _=>rfl)];·unfold mU;rw[D2 hm]
   ·intro v hv x;constructor
    ·intro hx;obtain⟨r,hr,hrv⟩: ∃r,(r∈c.vars.zip c.coefs/\dA r.2∈vals (domAt d r.1))/\r.1≠v:=by
      by_cases e:p.1=v;·exact⟨q,⟨hq.1,hql⟩,λe2=>hpq (e.trans e2.symm)⟩
      ·exact⟨p,⟨hp.1,hpl⟩,e⟩
     refine⟨λu=>if u=r.1 then dA r.2 else if u=v then x else g u,λu hu=> ?_,(hP _).2 ⟨r,hr.1,D3 Y⟩,by simp only[Ne.symm hrv,if_false,if_true]⟩;by_cases e3:u=r.1;·simp only[e3,if_true];exact hr.2
     ·by_cases e4:u=v;·subst e4;simp only[e3,if_false,if_true];exact hx
      ·simp only[e3,e4,if_false];exact hg u ((hus u).1 hu)
    ·rintro⟨f,hf1,_,rfl⟩;exact hf1 v hv
abbrev jt:=List (Int×List Int)
def mpU (u:jt):Own:= .mp true none (u.map λp=>(Value.int .i64 p.1,ao p.2))
def iS (n:Nat)(o:bA):Option Nat:=(List.range n).find? λi=>(lkA o (i:Int)).getD false
def mL (rows:List (List PV))(ua uu:Value):Own:= .box true [.sl rows,.raw ua,.raw uu]
theorem y4 (rows:List (List PV))(o:bA)(uq ua uu:Value)(hl:rows.length<=4611686018427387904):
  SpecO Tryz.prog 104 false [uq,ua] [mL rows ua uu,mpS o] [.raw uq] [mL rows ua uu,mpS (match iS rows.length o with
   |some i=>dlA o (i:Int)
   |none=>o)] (λ_=>[]) (λ_=>[.int .i64 ((iS rows.length o).getD 0:Nat),.bool (iS rows.length o).isSome]):=by
 refine SpecO.body [1001,1002] [] Tryz.func104 Y Y Y Y λw0 Z1=> ?_;refine T.sub (Rel.derawp (s:=0) (g:=1001) Y Y Y) ?_;refine .B ?_;refine T.K (T.ind (λi:Nat=>⟨[(0,.optr 0 0 0 0),(9,.val true (.int .i64 rows.length)),(10,.val true (.int .i64 i)),(1001,.eq uq 0),(1002,.eq ua 1)],[(0,some (mL rows ua uu)),(1,some (mpS o))],2⟩)
  (λi=>i<=rows.length/\∀j,j<i->(lkA o (j:Int)).getD false=false) (λi=>rows.length-i) 0 ⟨by simp,λj hj=>by omega⟩ (λ_ _ h=>h) ?_)
 rintro i ⟨hi,hb⟩ ih;refine .B ?_;refine T.cd Y (λh1=> ?_) (λh1=> ?_)
 ·have h1:i<rows.length:=(by simpa using h1);refine .B ?_;refine J.sub (Rel.deraw (s:=16) (g:=1002) Y Y) ?_;refine .B ?_;refine J.ml (i:Int) (.bool false) Y Y Y Y Y Y Y Y Y zL (λ_ _=> .bool _) (nH Tryz.underlying3) (λ_ _ _ h=>c7 h) ?_;have hmb:((lkA o (i:Int)).map PV.bool).getD (.bool false)= .bool ((lkA o (i:Int)).getD false):=(by cases lkA o (i:Int)<;>rfl);rw[hmb];by_cases hs:(lkA o (i:Int)).getD false=true
  ·have hn:iS rows.length o=some i:=by
    unfold iS;rw[FN];exact⟨hs,by simpa using h1,λj hj=>by simpa using hb j hj⟩
   rw[hn,hs];refine .B ?_;refine T.ct Y ?_;refine .B ?_;refine J.sub (Rel.deraw (s:=22) (g:=1002) Y Y) ?_;refine .B ?_;refine J.dl (i:Int) Y Y Y Y Y Y Y Y Y Y (nH Tryz.underlying3) (λ_ _ _ h=>c7 h) ?_;refine .B ?_;exact⟨[0,1],[],[],⟨rfl,rfl,rfl,rfl,rfl,rfl,trivial⟩,trivial,rfl,.v Y Y Y (λ_=>rfl) (.v Y Y Y (λ_=>rfl) .nil)⟩
  ·rw[eq_false_of_ne_true hs];refine .B ?_;refine T.cf Y ?_;refine .B ?_;have hw:IntKind.i64.wrap ((i:Int)+1)=((i+1:Nat):Int):=(by rw[ac (by omega) (by omega)];omega);rw[hw];refine T.K (ih (i+1) ⟨by omega,λj hj=> ?_⟩ (by omega));by_cases e:j=i;·subst e;exact eq_false_of_ne_true hs
   ·exact hb j (by omega)
 ·have h1:i=rows.length:=(by simp at h1;omega);subst h1;have hn:iS rows.length o=none:=by
   unfold iS;rw[Ff];intro j hj;rw[hb j (DO.1 hj)];simp
  rw[hn];refine .B ?_;exact⟨[0,1],[],[],⟨rfl,rfl,rfl,rfl,rfl,rfl,trivial⟩,trivial,rfl,.v Y Y Y (λ_=>rfl) (.v Y Y Y (λ_=>rfl) .nil)⟩
def eQ (l:List Int)(o:bA):bA:=l.foldl (λo i=>upA o i true) o
theorem B4 (w:World):(zeroValue 24).run Tryz.prog w= .ok (.slice none 0 0) w:=by kernel_rfl
theorem sZ (rows:List (List PV))(o:bA)(u:jt)(v:Int)(uq ua uu:Value)(hl: ∀p∈u,p.2.length*8<=140737488355328):
  SpecO Tryz.prog 107 false [uq,ua,uu] [mL rows ua uu,mpS o,mpU u] [.raw uq,.int .i64 v] [mL rows ua uu,mpS (eQ ((lkA u v).getD []) o),mpU u] (λ_=>[]) (λ_=>[]):=by
 refine SpecO.body [1001,1002,1003] [] Tryz.func107 Y Y Y Y λw0 Z1=> ?_;refine T.sub (Rel.derawp (s:=0) (g:=1001) Y Y Y) ?_;refine T.sub (Rel.fine (s:=1) Y Y) ?_;refine .B ?_;refine J.sub (Rel.deraw (s:=9) (g:=1003) Y Y) ?_;refine .B ?_;refine J.ml v (.sl []) Y Y Y Y Y Y Y Y Y B4 (λ_ _=> .nilsl) (nH Tryz.underlying3) (λ_ _ _ h=>c7 h) ?_;have hmb:((lkA u v).map ao).getD (.sl [])=ao ((lkA u v).getD []):=(by cases lkA u v<;>rfl);rw[hmb];have hll:((lkA u v).getD []).length*8<=140737488355328:=by
  cases h:lkA u v with
  |none=>simp
  |some l=>exact hl _ (eM h)
 generalize hL:(lkA u v).getD []=l at*;generalize hR:eQ l o=R;refine .B ?_;refine T.K (T.ind (λx:Nat×bA=>⟨[(0,.optr 0 0 0 0),(11,.val true (ao l)),(12,.val true (.int .i64 (l.map cI).length)),(13,.val true (.int .i64 x.1)),(1001,.eq uq 0),(1002,.eq ua 1),(1003,.eq uu 2)],[(0,some (mL rows ua uu)),(1,some (mpS x.2)),(2,some (mpU u))],3⟩)
  (λx=>x.1<=l.length/\eQ (l.drop x.1) x.2=R) (λx=>l.length-x.1) (0,o) ⟨by simp,hR⟩ (λ_ _ h=>h) ?_)
 rintro⟨i,s⟩ ⟨hi,hR⟩ ih;simp only at hi hR;dsimp only;refine .B ?_;refine T.cd Y (λh1=> ?_) (λh1=> ?_)
 ·have h1:i<l.length:=(by simpa using h1);rw[DP h1]at hR;refine .B ?_;refine .F (r:=cI l[i]) (aK h1) ?_;refine J.sub (Rel.deraw (s:=20) (g:=1002) Y Y) ?_;refine .B ?_;refine J.mu l[i] true Y Y Y Y Y Y Y Y Y Y Y (nH Tryz.underlying3) (λ_ _ _ h=>c7 h) Y ?_;refine .B ?_;rw[aj (l:=l.length) h1 hll];exact T.K (ih (i+1,upA s l[i] true) ⟨by omega,hR⟩ (by show _-_<_-_;omega))
 ·have h1:i=l.length:=(by simp at h1;omega);subst h1;rw[En]at hR;obtain rfl:s=R:=hR;refine .B ?_;exact⟨[0,1,2],[],[],⟨rfl,rfl,rfl,rfl,rfl,rfl,rfl,rfl,rfl,trivial⟩,trivial,rfl,.nil⟩
abbrev sh:Value:= .slice none 0 0
def fvL (L:xz)(k:Int):Value:=(L.getD k.toNat (sh,[])).1
def eO (u:jt)(i:Int)(vs:List Int):jt:=vs.foldl (λu v=>upA u v ((lkA u v).getD []++[i])) u
def cW:Nat->List Con->bA->jt->bA×jt
 |_,[],o,u=>(o,u)
 |i,c::cs,o,u=>cW (i+1) cs (upA o i true) (eO u i (usesR c))
def gC (cons:List Con):bA×jt:=cW 0 cons [] []
theorem xX {β γ:Type}(f:Int->γ)(a:Int): ∀u:List (Int×β),lkA (u.map λp=>(p.1,f p.1)) a=(lkA u a).map λ_=>f a
 | []=>rfl
 |p::u=>by
  rw[DZ,cY,cY,xX f a u];by_cases h:p.1=a;·simp[h]
  ·simp[h]
theorem xA {β γ:Type}{f f':Int->γ}{a:Int}{y:γ}{x:β}(h2:f' a=y): ∀u:List (Int×β),(u.map (·.1)).Nodup->(∀p∈u,p.1≠a->f' p.1=f p.1)->upA (u.map λp=>(p.1,f p.1)) a y=(upA u a x).map λp=>(p.1,f' p.1)
 | [],_,_=>by simp[upA,fiA,h2]
 |p::u,hn,h1=>by
  have hn:=EN.1 hn;rw[DZ,gZ,gZ];by_cases h:p.1=a
  ·rw[D3 h,D3 h,DZ,h2];congr 1;refine EV λq hq=> ?_;have:q.1≠a:=λe=>hn.1 (DD.2 ⟨q,hq,e.trans h.symm⟩);rw[h1 q (.tail _ hq) this]
  ·rw[D2 h,D2 h,DZ,h1 p (.head _) h,xA h2 u hn.2 λq hq=>h1 q (.tail _ hq)]
theorem nK {β:Type}{a:Int}{x:β}: ∀u:List (Int×β),(u.map (·.1)).Nodup->((upA u a x).map (·.1)).Nodup
 | [],_=>by simp[upA,fiA]
 |p::u,hn=>by
  have hn2:=EN.1 hn;rw[gZ];by_cases h:p.1=a
  ·rw[D3 h];have e:((a,x)::u).map (·.1)=(p::u).map (·.1):=(by simp[h]);rw[e];exact hn
  ·rw[D2 h,DZ];refine EN.2 ⟨λhm=> ?_,nK u hn2.2⟩;obtain⟨q,hq,e⟩:=DD.1 hm;rcases mem_upA hq with hq|rfl;·exact hn2.1 (DD.2 ⟨q,hq,e⟩)
   ·exact h e.symm
theorem qZ {β:Type}: ∀{u:List (Int×β)},(u.map (·.1)).Nodup->∀{p:Int×β},p∈u->lkA u p.1=some p.2
 |q::u,hn,p,hp=>by
  have hn2:=EN.1 hn;rw[cY];rcases DQ.1 hp with rfl|hp;·rw[D3 Y]
  ·have:q.1≠p.1:=λe=>hn2.1 (DD.2 ⟨p,hp,e.symm⟩);rw[D2 this];exact qZ hn2.2 hp
structure UsOk (N t:Nat)(u:jt)(L:xz):Prop where
 rows:L.map (·.2)=(List.range N).map λk:Nat=>((lkA u (k:Int)).getD []).map cI
 nil: ∀k:Nat,lkA u (k:Int)=none->(L.getD k (sh,[])).1=sh
 nod:(u.map (·.1)).Nodup
 ks: ∀p∈u,0<=p.1/\p.1.toNat<N
 len: ∀p∈u,p.2.length<=t
theorem UsOk.at {N t:Nat}{u:jt}{L:xz}(h:UsOk N t u L){k:Nat}(hk:k<N): ∃v,L[k]? =some (v,((lkA u (k:Int)).getD []).map cI)/\fvL L k=v:=by
 have e:(L.map (·.2))[k]? =some (((lkA u (k:Int)).getD []).map cI):=(by rw[h.rows,DG,F4 hk];rfl);rw[DG]at e;obtain⟨p,hp,e2⟩:=Dy.1 e;refine⟨p.1,by rw[hp,<-e2],?_⟩;unfold fvL;rw[Dz,D0,hp];rfl
theorem UsOk.put {N t:Nat}{u:jt}{L:xz}(h:UsOk N t u L){v i:Int}(h0:0<=v)(hv:v.toNat<N)(u':Value):
  UsOk N (t+1) (upA u v ((lkA u v).getD []++[i])) (L.set v.toNat (u',((lkA u v).getD []++[i]).map cI))/\
  upA (u.map λp=>(p.1,fvL L p.1)) v u'=(upA u v ((lkA u v).getD []++[i])).map λp=>(p.1,fvL (L.set v.toNat (u',((lkA u v).getD []++[i]).map cI)) p.1):=by
 have hL:L.length=N:=(by have:=congrArg List.length h.rows;simpa using this);have ev:((v.toNat:Nat):Int)=v:=(by omega);have hlen:((lkA u v).getD []).length<=t:=by
  cases hc:lkA u v with
  |none=>simp
  |some l=>exact h.len _ (eM hc)
 refine⟨⟨?_,λk hk=> ?_,nK u h.nod,λp hp=> ?_,λp hp=> ?_⟩,xA ?_ u h.nod λp hp hne=> ?_⟩
 ·rw[Gi,h.rows,yM];refine EV λj _=> ?_;rw[lA];by_cases e:j=v.toNat;·rw[D3 e,D3 (by omega)];rfl
  ·rw[D2 e,D2 (by omega)]
 ·rw[lA]at hk;split at hk;·cases hk
  ·rename_i hne;rw[D0,E4 (by omega),<-D0];exact h.nil k hk
 ·rcases mem_upA hp with hp|rfl;·exact h.ks p hp
  ·exact⟨h0,hv⟩
 ·rcases mem_upA hp with hp|rfl;·have:=h.len p hp;omega
  ·simp;omega
 ·unfold fvL;rw[D0,EJ (by omega)];rfl
 ·have:=h.ks p hp;unfold fvL;rw[D0,E4 (by omega),<-D0]
def cU (cons:List Con):PV:= .sl (cons.map cC)
def mpR (u:jt)(L:xz):Own:= .mp true none ((u.map λp=>(p.1,fvL L p.1)).map λp=>(Value.int .i64 p.1,PV.raw p.2))
theorem xr (cons:List Con)(N:Nat)(hc: ∀c∈cons,ConB c)(hN: ∀c∈cons,∀v∈usesR c,0<=v/\v.toNat<N)(hl:cons.length*128<=140737488355328)(hM:((cons.map λc=>(usesR c).length).sum+1)*8<=140737488355328):
  SpecO Tryz.prog 103 true [] [] [cU cons] [] (λns=>[mL (cons.map cC) (ns.getD 1 undef) (ns.getD 2 undef),mpS (gC cons).1,mpU (gC cons).2]) (λns=>[.raw (ns.getD 0 undef)]):=by
 refine SpecO.body [] [1001,1002,1003] Tryz.func103 Y Y Y Y λw0 Z1=> ?_;generalize hM2:(cons.map λc=>(usesR c).length).sum=M at hM;generalize hR:gC cons=R;refine .B ?_;refine J.mm Y Y Y Y ?_;refine J.mm Y Y Y Y ?_;refine J.name 1002 (s:=9) Y Y Y λua=> ?_;refine J.name 1003 (s:=10) Y Y Y λuu=> ?_;refine J.sub (Rel.raw (s:=9) (g:=1002) Y (.inl Y) Y Y Y) ?_;refine J.sub (Rel.raw (s:=10) (g:=1003) Y (.inl Y) Y Y Y) ?_;refine .B ?_;refine T.sub (λa w h=>Rel.fam0 N 3 1 h) ?_;refine T.nameO 1004 3 Y Y λU0=> ?_;refine T.name 1001 (s:=3) Y Y Y λuq=> ?_;have hcl:(cons.map cC).length=cons.length:=D9 ..;refine T.K (T.ind (λx:Nat×bA×jt×Value×xz=>⟨[(3,.optr 0 0 0 0),(13,.val true (cU cons)),(14,.val true (.int .i64 (cons.map cC).length)),(15,.val true (.int .i64 x.1)),(1001,.eq uq 0),(1002,.eq ua 1),(1003,.eq uu 2),(1004,.eq x.2.2.2.1 3)],[(0,some (mL (cons.map cC) ua uu)),(1,some (mpS x.2.1)),(2,some (mpR x.2.2.1 x.2.2.2.2)),(3,some (.fam 3 1 true x.2.2.2.2))],4⟩)
  (λx=>x.1<=cons.length/\cW x.1 (cons.drop x.1) x.2.1 x.2.2.1=R/\∃t,UsOk N t x.2.2.1 x.2.2.2.2/\t+((cons.drop x.1).map λc=>(usesR c).length).sum<=M) (λx=>cons.length-x.1) (0,[],[],U0,List.replicate N (sh,[]))
  ⟨by simp,hR,0,⟨by simp[List.map_const',wT],λk hk=> ?_,.nil,by simp,by simp⟩,by simp[hM2]⟩ (λ_ _ h=>h) ?_)
 ·show((List.replicate N ((sh,[]):Value×List (List PV))).getD k (sh,[])).1=sh;rw[D0];cases hk:(List.replicate N ((sh,[]):Value×List (List PV)))[k]? with
  |none=>rfl
  |some p=>rw[G4 (D7 hk)];rfl
 rintro⟨i,o,u,U,L⟩ ⟨hi,hR,t,hu,ht⟩ ih;simp only at hi hR hu ht;dsimp only;refine .B ?_;refine T.cd Y (λh1=> ?_) (λh1=> ?_)
 ·have h1:i<cons.length:=(by simpa using h1);have hrow:(cons.map cC)[((i:Nat):Int).toNat]? =some (cC cons[i]):=(by simp[h1]);have hcb:=hc _ (D8 h1);have hin:=hN _ (D8 h1);have hus:=wL cons[i] hcb;rw[DP h1]at hR ht;rw[cW]at hR;simp only[DZ,Ej]at ht;generalize cons[i]=c at*;generalize usesR c=vs at*;refine .B ?_;refine .F (r:=cC c) hrow ?_;refine .L ?_;refine .B ?_;refine .X ?_;refine J.sub (Rel.deraw (s:=23) (g:=1002) Y Y) ?_;refine .B ?_;refine J.mu (i:Int) true Y Y Y Y Y Y Y Y Y Y Y (nH Tryz.underlying3) (λ_ _ _ h=>c7 h) Y ?_;refine .B ?_;refine .D hus.frz ?_;generalize hu1:eO u i vs=u1 at hR;generalize hrest:((cons.drop (i+1)).map λc=>(usesR c).length).sum=rest at ht;refine T.K (T.ind (λx:Nat×jt×Value×xz=>⟨[(3,.optr 0 0 0 0),(4,.val true (.int .i64 i)),(13,.val true (cU cons)),(14,.val true (.int .i64 (cons.map cC).length)),(15,.val true (.int .i64 i)),(26,.val true (ao vs)),(27,.val true (.int .i64 (vs.map cI).length)),(28,.val true (.int .i64 x.1)),(1001,.eq uq 0),(1002,.eq ua 1),(1003,.eq uu 2),(1004,.eq x.2.2.1 3)],[(0,some (mL (cons.map cC) ua uu)),(1,some (mpS (upA o (i:Int) true))),(2,some (mpR x.2.1 x.2.2.2)),(3,some (.fam 3 1 true x.2.2.2))],4⟩)
   (λx=>x.1<=vs.length/\eO x.2.1 i (vs.drop x.1)=u1/\∃t,UsOk N t x.2.1 x.2.2.2/\t+(vs.length-x.1)+rest<=M) (λx=>vs.length-x.1) (0,u,U,L) ⟨by simp,hu1,t,hu,by simp;omega⟩ (λ_ _ h=>h) ?_)
  rintro⟨j,u,U,L⟩ ⟨hj,hu1,t,hu,ht⟩ ih2;simp only at hj hu1 hu ht;dsimp only;refine .B ?_;refine T.cd Y (λh2=> ?_) (λh2=> ?_)
  ·have h2:j<vs.length:=(by simpa using h2);have hv:=hin _ (D8 h2);have hvr:(vs.map cI)[((j:Nat):Int).toNat]? =some (cI vs[j]):=aK h2;rw[DP h2]at hu1;generalize vs[j]=v at*;obtain⟨uk,hk,hfv⟩:=hu.at hv.2;have ev:((v.toNat:Nat):Int)=v:=(by omega);rw[ev]at hk hfv;have hpu:=λu'=>hu.put (i:=(i:Int)) hv.1 hv.2 u';have hkl:((lkA u v).getD []).length<=t:=by
    cases hc:lkA u v with
    |none=>simp
    |some l=>exact hu.len _ (eM hc)
   have hval:((lkA (u.map λp=>(p.1,fvL L p.1)) v).map λx=>PV.raw x)=some (.raw uk)∨(lkA (u.map λp=>(p.1,fvL L p.1)) v=none/\sh=uk):=by
    rw[xX];cases hc:lkA u v with
    |some l=>exact .inl (by simp[hfv])
    |none=>
     refine .inr ⟨rfl,?_⟩;have:=hu.nil v.toNat (by rw[ev];exact hc);rw[D0,hk]at this;exact this.symm
   generalize hold:((lkA u v).getD []:List Int)=old at*;refine .B ?_;refine .I (r:=cI v) hvr ?_;refine .M ?_;refine T.sub (λa w h=>Rel.split 1005 v.toNat (q:=3) Y Y hk h) ?_;refine T.rdw 14 Y (by kernel_rfl) Y ?_
   iterate 8 refine J.H Y ?_
   refine J.lr 1003 (q:=2) (u:=uu) Y Y Y Y Y Y Y Y Y ?_;refine J.H Y ?_;refine J.lm 1005 v Y Y Y Y Y Y Y Y Y B4 (nH Tryz.underlying3) (λ_ _ _ h=>c7 h) hval Y Y ?_;refine J.H Y ?_;refine .V ?_;refine J.ad Y Y Y Y Y Y Y Y Y Y Y Y Y Y Y Y Y Y (c9 Y) (by show(List.length _+1)*8<=_;simp;omega) ?_;refine J.nil ⟨rfl,?_⟩;refine J.name 1006 (s:=45) Y Y Y λu'=> ?_;refine J.sub (Rel.raw (s:=45) (g:=1006) Y (.inl Y) Y Y Y) ?_;refine J.sub (Rel.deraw (s:=35) (g:=1003) Y Y) ?_;refine J.mu v u' Y Y Y Y Y Y Y Y Y Y Y (nH Tryz.underlying3) (λ_ _ _ h=>c7 h) Y ?_;refine J.sub (λa w h=>Rel.join v.toNat (g:=1006) (q:=5) (n:=6) (rows:=(old++[(i:Int)]).map cI) Y (by rw[EP];rfl) Y Y h) ?_;refine J.nil ?_;refine T.nameO 1004 7 Y Y λU3=> ?_;refine .B ?_;rw[aj (l:=vs.length) h2 (by omega),List.set_set,(hpu u').2];have hih:=ih2 (j+1,upA u v (old++[(i:Int)]),U3,L.set v.toNat (u',(old++[(i:Int)]).map cI)) ⟨by omega,by rw[<-hu1,<-hold];rfl,t+1,(hpu u').1,by show t+1+(vs.length-(j+1))+rest<=M;omega⟩ (by show _-_<_-_;omega);exact T.K hih
  ·have h2:j=vs.length:=(by simp at h2;omega);subst h2;rw[En]at hu1;obtain rfl:u=u1:=hu1;refine .B ?_;rw[aj (l:=cons.length) h1 (by omega)];have hih:=ih (i+1,upA o (i:Int) true,u,U,L) ⟨by omega,hR,t,hu,by show t+((cons.drop (i+1)).map λc=>(usesR c).length).sum<=M;omega⟩ (by show _-_<_-_;omega);exact T.K hih
 ·have h1:i=cons.length:=(by simp at h1;omega);subst h1;rw[En,cW]at hR;subst hR;have hin: ∀p∈u.map λp=>(Value.int .i64 p.1,fvL L p.1,p.2.map cI),p.2∈L:=by
   intro p hp;obtain⟨q,hq,rfl⟩:=DD.1 hp;have hks:=hu.ks q hq;obtain⟨v,h1,h2⟩:=hu.at hks.2;have ev:((q.1.toNat:Nat):Int)=q.1:=(by omega);rw[ev]at h1 h2;have hlk:lkA u q.1=some q.2:=by
    obtain⟨i,hi⟩:=DI hq;exact qZ hu.nod hq
   rw[hlk]at h1;simp only[h2];exact D7 h1
  have hmp:mpR u L= .mp true none ((u.map λp=>(Value.int .i64 p.1,fvL L p.1,p.2.map cI)).map λp=>(p.1,PV.raw p.2.1)):=by
   unfold mpR;rw[FH,FH];rfl
  refine T.sub (λa w h=>Rel.meltM (qc:=2) (q:=3) (e:=3) (sz:=1) (frc:=true) (fr:=true) (b:=none) (L:=L) (u.map λp=>(Value.int .i64 p.1,fvL L p.1,p.2.map cI)) hin (λb h=>by obtain⟨u,hu,_⟩:=h;cases hu) (by exact congrArg some hmp) Y Y h) ?_;refine T.sub (Rel.raw (s:=3) (g:=1001) Y (.inr Y) Y Y Y) ?_;rw[show((u.map λp=>(Value.int .i64 p.1,fvL L p.1,p.2.map cI)).map λp=>(p.1,PV.sl p.2.2))=u.map λp=>(Value.int .i64 p.1,ao p.2)from by rw[FH];rfl];refine .B ?_;exact⟨[],[0,1,2],[uq,ua,uu],trivial,⟨rfl,rfl,rfl,rfl,rfl,rfl,rfl,rfl,rfl,trivial⟩,rfl,.v Y Y Y (λ_=>rfl) .nil⟩
def cF (o:bA)(j:Nat):Bool:=(lkA o (j:Int)).getD false
theorem oX (c:Int): ∀(l:List Int) (o:bA),lkA (eQ l o) c=if c∈l then some true else lkA o c
 | [],o=>by simp[eQ]
 |x::l,o=>by
  have:=oX c l (upA o x true);rw[show eQ (x::l) o=eQ l (upA o x true)from Y,this,lA];by_cases h:c∈l;·rw[D3 h,D3 (.tail _ h)]
  ·rw[D2 h];by_cases e:x=c;·rw[D3 e,D3 (by rw[e];exact .head _)]
   ·rw[D2 e,D2 (λhm=>(DQ.1 hm).elim (λh2=>e h2.symm) h)]
theorem nb: ∀(l:List Int) (o:bA),(o.map (·.1)).Nodup->((eQ l o).map (·.1)).Nodup
 | [],o,h=>h
 |x::l,o,h=>nb l (upA o x true) (nK o h)
theorem yf {β:Type}(p:Int×β)(l:List (Int×β))(a:Int):dlA (p::l) a=if p.1=a then l else p::dlA l a:=by
 unfold dlA;rw[sK];by_cases h:p.1=a;·rw[D3 h,D3 h];rfl
 ·rw[D2 h,D2 h];cases fiA l a<;>simp
theorem AZ {β:Type}(a:Int): ∀l:List (Int×β),(dlA l a).Sublist l
 | []=>by simp[dlA,fiA]
 |p::l=>by
  rw[yf];split;·exact List.sublist_cons_self _ _
  ·exact(AZ a l).cons_cons p
theorem Cc {β:Type}(a c:Int): ∀l:List (Int×β),(l.map (·.1)).Nodup->lkA (dlA l a) c=if a=c then none else lkA l c
 | [],_=>by simp[dlA,fiA,wT]
 |p::l,hn=>by
  have hn2:=EN.1 hn;have hno:p.1=c->lkA l c=none:=λe=>by
   cases h:lkA l c with
   |none=>rfl
   |some b=>exact DS (DD.2 ⟨(c,b),eM h,e.symm⟩) hn2.1
  rw[yf];by_cases h:p.1=a
  ·rw[D3 h,cY];by_cases e:a=c;·rw[D3 e];exact hno (h.trans e)
   ·rw[D2 e,D2 (λh2=>e (h.symm.trans h2))]
  ·rw[D2 h,cY,cY,Cc a c l hn2.2];by_cases e:p.1=c;·rw[D3 e,D3 e,D2 (λh2=>h (e.trans h2.symm))]
   ·rw[D2 e,D2 e]
theorem n8 (i c:Int): ∀(vs:List Int) (u:jt),vs.Nodup->(lkA (eO u i vs) c).getD []=if c∈vs then(lkA u c).getD []++[i]else(lkA u c).getD []
 | [],u,_=>by simp[eO]
 |v::vs,u,hn=>by
  have hn2:=EN.1 hn;rw[show eO u i (v::vs)=eO (upA u v ((lkA u v).getD []++[i])) i vs from Y,n8 i c vs _ hn2.2,lA];by_cases e:v=c
  ·subst e;rw[D2 hn2.1,D3 Y,D3 (.head _)];rfl
  ·rw[D2 e];by_cases h:c∈vs;·rw[D3 h,D3 (.tail _ h)]
   ·rw[D2 h,D2 (λhm=>(DQ.1 hm).elim (λh2=>e h2.symm) h)]
theorem pQ: ∀(cons:List Con) (i:Nat) (o:bA) (u:jt),(o.map (·.1)).Nodup->
  (((cW i cons o u).1).map (·.1)).Nodup/\(∀j,cF (cW i cons o u).1 j=if i<=j/\j<i+cons.length then true else cF o j)/\
  ∀(v x:Int),x∈(lkA (cW i cons o u).2 v).getD []↔x∈(lkA u v).getD []∨∃k c,cons[k]? =some c/\v∈usesR c/\x=((i+k:Nat):Int)
 | [],i,o,u,h=>⟨h,λj=>by rw[D2 (by simp)];rfl,λv x=>by simp[cW]⟩
 |c::cons,i,o,u,h=>by
  obtain⟨h1,h2,h3⟩:=pQ cons (i+1) (upA o i true) (eO u i (usesR c)) (nK o h);refine⟨h1,λj=> ?_,λv x=> ?_⟩
  ·have e1:cF (upA o i true) j=if i=j then true else cF o j:=by
    unfold cF;rw[lA];by_cases e:i=j;·rw[D3 e,D3 (by omega)];rfl
    ·rw[D2 e,D2 (by omega)]
   rw[cW,h2 j,e1];by_cases e:i=j;·rw[D3 e,ite_self,D3 (by simp;omega)]
   ·rw[D2 e];by_cases hj:i+1<=j/\j<i+1+cons.length;·rw[D3 hj,D3 (by simp;omega)]
    ·rw[D2 hj,D2 (by simp;omega)]
  ·rw[cW,h3 v x,n8 _ _ (usesR c) u (dy (b9 _))];constructor
   ·rintro(hx|⟨k,c',h4,h5,h6⟩)
    ·split at hx
     ·rename_i hv;rcases DT.1 hx with hx|hx;·exact .inl hx
      ·exact .inr ⟨0,c,rfl,hv,by rw[DF.1 hx];rfl⟩
     ·exact .inl hx
    ·exact .inr ⟨k+1,c',by simpa using h4,h5,by rw[h6];congr 1;omega⟩
   ·rintro(hx|⟨k,c',h4,h5,h6⟩)
    ·refine .inl ?_;split;·exact E7 _ hx
     ·exact hx
    ·cases k with
     |zero=>
      simp at h4;subst h4;rw[D3 h5];exact .inl (EA _ (by rw[h6];exact .head _))
     |succ k=>exact .inr ⟨k,c',by simpa using h4,h5,by rw[h6];congr 1;omega⟩
theorem mT {t:Nat}(i:Int): ∀(vs:List Int) (u:jt),(∀p∈u,p.2.length<=t)->∀p∈eO u i vs,p.2.length<=t+vs.length
 | [],u,h,p,hp=>h p hp
 |v::vs,u,h,p,hp=>by
  have:=mT (t:=t+1) i vs (upA u v ((lkA u v).getD []++[i])) (λq hq=>by
   rcases mem_upA hq with hq|rfl;·have:=h q hq;omega
   ·have:((lkA u v).getD []).length<=t:=by
     cases hc:lkA u v with
     |none=>simp
     |some l=>exact h _ (eM hc)
    simp;omega) p hp
  simp;omega
theorem rQ: ∀(cons:List Con) (i t:Nat) (o:bA) (u:jt),(∀p∈u,p.2.length<=t)->∀p∈(cW i cons o u).2,p.2.length<=t+(cons.map λc=>(usesR c).length).sum
 | [],i,t,o,u,h,p,hp=>by simpa[cW]using h p hp
 |c::cons,i,t,o,u,h,p,hp=>by
  have:=rQ cons (i+1) (t+(usesR c).length) (upA o i true) (eO u i (usesR c)) (mT _ _ _ h) p hp;simp only[DZ,Ej];omega
def AllEnds (cons:List Con)(d:aa)(R:Option aa):Prop:=ep leD (GoodD d.length) bK cons d R
open Classical in
noncomputable def fY (cons:List Con)(d:aa):Option aa:=if h: ∃R:Option aa,AllEnds cons d R then h.choose else none
theorem fv {cons:List Con}{d:aa}{R:Option aa}(h:AllEnds cons d R):R=fY cons d:=by
 have hex: ∃R:Option aa,AllEnds cons d R:=⟨R,h⟩;unfold fY;rw[dif_pos hex];exact ep.one (aY d.length) (λ_=>Iff.rfl) h hex.choose_spec
theorem xv {cons:List Con}{d:aa}(h: []∈d):fY cons d=none:=by
 refine(fv (R:=none) ?_).symm;rintro⟨e,ge,hle,_⟩;obtain⟨j,hj⟩:=DI h;have hjl:=(D5.1 hj).1;obtain⟨x,hx⟩:=ge.ne (v:=(j:Int)) (by simpa using hjl);have:=hle.2 j x (by omega) hx;unfold domAt at this;rw[D0,Dz,hj]at this;cases this
theorem leD.sub {n:Nat}{a b:aa}(ga:GoodD n a)(gb:GoodD n b)(h:leD a b):Sub a b:=by
 refine⟨h.1,λi x y hx hy v hv=> ?_⟩;have h1:domAt a (i:Int)=x:=by
  unfold domAt;rw[D0,Dz,hx];rfl
 have h2:domAt b (i:Int)=y:=by
  unfold domAt;rw[D0,Dz,hy];rfl
 have:=h.2 (i:Int) v (by omega) (by rw[h1];exact hv);rwa[h2]at this
theorem fw {n:Nat}{a b:aa}(ga:GoodD n a)(gb:GoodD n b)(h:leD a b):weight a<=weight b/\(a≠b->weight a<weight b):=jw (leD.sub ga gb h) ga.few.fine gb.few.fine
def xk (m:Nat)(o:bA):Nat:=((List.range m).filter (cF o)).length
theorem BW (m:Nat)(o:bA):xk m o<=m:=by
 have:=Ec (cF o) (List.range m);simpa[xk]using this
structure QInv (cons:List Con)(d:aa)(x:aa×bA):Prop where
 come:Come leD (GoodD d.length) bK cons d x.1
 nod:(x.2.map (·.1)).Nodup
 shut: ∀(j:Nat) c,cons[j]? =some c->cF x.2 j=false->bK c x.1=some x.1
theorem wt {cons:List Con}{d:aa}(gd:GoodD d.length d):QInv cons d (d,(gC cons).1):=by
 obtain⟨h1,h2,_⟩:=pQ cons 0 [] [] .nil;refine⟨Come.refl (aY _) gd,h1,λj c hj hb=> ?_⟩;have hjl:=(D5.1 hj).1;have:=h2 j;rw[D3 (by omega)]at this;rw[show cF (d,(gC cons).1).2 j=cF (cW 0 cons [] []).1 j from Y,this]at hb;cases hb
theorem Ae {cons:List Con}{d:aa}{x:aa×bA}(h:QInv cons d x)(hn:iS cons.length x.2=none):AllEnds cons d (some x.1):=by
 refine⟨h.come,λc hc=> ?_⟩;obtain⟨j,hj⟩:=DI hc;have hjl:=(D5.1 hj).1;have:=Ff.1 hn j (DO.2 hjl);exact h.shut j c hj (by simpa[cF]using this)
theorem yN {cons:List Con}{d:aa}{P:Con->(Int->Int)->Prop}(hs: ∀c∈cons,StepOK d.length (usesR c) (P c) (bK c)){x:aa×bA}{i:Nat}{c:Con}{now:aa}{o2:bA}(h:QInv cons d x)(hi:iS cons.length x.2=some i)(hc:cons[i]? =some c)(hnow:bK c x.1=some now)
  (ho: ∀j,cF o2 j=true↔cF (dlA x.2 (i:Int)) j=true∨∃v c',v<x.1.length/\x.1[v]? ≠now[v]? /\cons[j]? =some c'/\(v:Int)∈usesR c') (hn2:(o2.map (·.1)).Nodup):
  QInv cons d (now,o2)/\weight now*(cons.length+1)+xk cons.length o2<weight x.1*(cons.length+1)+xk cons.length x.2:=by
 have O:=aY d.length;have hcm:=D7 hc;have hst:=hs c hcm;have gx:=h.come.fine;have hcome:=h.come.step O hcm hst.takes hnow;have gn:=hcome.fine;have hlo:x.1.length=now.length:=(by rw[gx.len,gn.len]);have hle:=(hst.takes.less _ _ gx hnow).2;have hopen:cF x.2 i=true/\i<cons.length:=by
  unfold iS at hi;rw[FN]at hi;exact⟨hi.1,by simpa using hi.2.1⟩
 have hd: ∀j,cF (dlA x.2 (i:Int)) j=if i=j then false else cF x.2 j:=λj=>by
  unfold cF;rw[Cc _ _ _ h.nod];by_cases e:i=j;·subst e;rw[D3 Y,D3 Y];rfl
  ·rw[D2 (by omega),D2 e]
 have same: ∀j c',cons[j]? =some c'->cF o2 j=false->∀u∈usesR c',domAt x.1 u=domAt now u:=λj c' hj hb u hu=>by
  have hin:=(hs c' (D7 hj)).in' u hu;have hne: ¬(x.1[u.toNat]? ≠now[u.toNat]?):=λhne=>by
   have:=(ho j).2 (.inr ⟨u.toNat,c',by rw[gx.len];exact hin.2,hne,hj,by rw[show((u.toNat:Nat):Int)=u by omega];exact hu⟩);rw[hb]at this;cases this
  have e:=Classical.not_not.1 hne;unfold domAt;rw[D0,D0,e]
 refine⟨⟨hcome,hn2,λj c' hj hb=> ?_⟩,?_⟩
 ·have hbd:cF (dlA x.2 (i:Int)) j=false:=by
   cases hh:cF (dlA x.2 (i:Int)) j with
   |false=>rfl
   |true=>rw[(ho j).2 (.inl hh)]at hb;cases hb
  rw[hd j]at hbd;by_cases e:i=j
  ·subst e;rw[hc]at hj;obtain rfl:=D4 hj;have hsm:=same i c hc hb;have e:now=x.1:=jn gn gx λv y h0=>by
    by_cases hv:v∈usesR c;·rw[hsm v hv]
    ·rw[hst.off x.1 now gx hnow v h0 hv]
   show bK c now=some now;rw[e,hnow,e]
  ·rw[D2 e]at hbd;exact(hs c' (D7 hj)).stays x.1 now gx gn (h.shut j c' hj hbd) (same j c' hj hb)
 ·have hw:=fw gn gx hle;by_cases e:now=x.1
  ·subst e;have hcnt:xk cons.length o2<xk cons.length x.2:=by
    refine jK (p:=cF x.2) (q:=cF o2) (List.range cons.length) i (λj hj=> ?_) (DO.2 hopen.2) hopen.1 ?_
    ·rcases (ho j).1 hj with h1|⟨v,_,_,hne,_⟩
     ·rw[hd j]at h1;split at h1;·cases h1
      ·exact h1
     ·exact DS Y hne
    ·cases hb:cF o2 i with
     |false=>rfl
     |true=>
      rcases (ho i).1 hb with h1|⟨v,_,_,hne,_⟩;·rw[hd i,D3 Y]at h1;cases h1
      ·exact DS Y hne
   omega
  ·have h1:=hw.2 e;have h2:=BW cons.length o2;have h3:weight now*(cons.length+1)+(cons.length+1)<=weight x.1*(cons.length+1):=by
    have:=EM (cons.length+1) h1;rw[Fl]at this;exact this
   omega
def wH (x:List (Int×Int)):Bool:=decide ((vals x).length=1)
def cz (d:aa):Option (List Int):=if d.all wH=true then some (d.map ax)else none
def Bw (R:Option (List Int)):List RV:=[.own 3 1 ((R.getD []).map cI),.val (.bool R.isSome)]
theorem we {pre post:aa}{x:List (Int×Int)}(h:wH x=false):cz (pre++x::post)=none:=by
 unfold cz;rw[D2];simp[h]
theorem sH (d:aa)(hd:d.length*24<=140737488355328)(hf: ∀x∈d,Fine x):Spec Tryz.prog 69 false [aH d] (Bw (cz d)):=by
 refine Spec.body Tryz.func69 Y Y Y λw0 Z0=> ?_;generalize hR:cz d=R;refine .B ?_;refine .Q ?_;refine T.K (T.listI d (λpre=>pre.all wH=true) (λn pre post=>⟨[(4,.ref 0),(10,.val false (aH d)),(11,.val true (.int .i64 (d.map cD).length)),(12,.val true (.int .i64 n))],[(0,some (.sl 3 1 true ((pre.map ax).map cI)))],1⟩) (λ_ _ h=>h) (by simp) ?_ ?_)
 ·rintro n pre x post h hn hi ih;have hlt:=bZ h hn;have hfx:=hf x (by rw[h];simp);have hxl:=hfx.len;have hs:=tJ hfx;refine .B ?_;refine T.ct2 Y (bY h hn) ?_;refine .B ?_;refine .F (r:=cD x) (aQ h hn) ?_;refine .D (kB x) ?_;have no:wH x=false->R=none:=λhx=>(by rw[<-hR,h];exact we hx);cases hx:x.isEmpty with
  |true=>
   have hxe:x=[]:=(by simpa using hx);have hR2:=no (by rw[hxe];rfl);subst hR2;refine .B ?_;refine T.ct Y ?_;refine .B ?_;exact⟨_,.ownN Y (.v Y Y Y (λ_=>rfl) .nil)⟩
  |false=>
   refine .B ?_;refine .D (gF x (by omega)) ?_;refine T.cd Y (λh1=> ?_) (λh1=> ?_)
   ·have hR2:=no (DC λe=>by
     rw[hs,e]at h1;exact h1 Y)
    subst hR2;refine .B ?_;exact⟨_,.ownN Y (.v Y Y Y (λ_=>rfl) .nil)⟩
   ·have h1:wH x=true:=DE (by
     have:fG x=1:=Classical.not_not.1 h1;rw[hs]at this;omega)
    refine .B ?_;refine .V ?_;refine J.aI Y Y Y Y Y Y Y Y Y Y Y Y Y Y Y Y Y Y Y (by simp;omega) ?_;refine .B ?_;rw[aj hlt (by omega)];have:=ih (by simp[hi,h1]);rw[EP]at this;exact T.K this
 ·intro hi;have hR:some (d.map ax)=R:=(by rw[<-hR,cz,D3 hi]);subst hR;refine .B ?_;refine T.cf2 Y bq ?_;refine .B ?_;exact⟨_,.o Y Y Y (λ_=> .inl Y) (by simp) (.v rfl rfl rfl (λ_=>rfl) .nil)⟩
structure ConsOk (d:aa)(cons:List Con):Prop where
 con: ∀c∈cons,ConB c
 right: ∀c∈cons,RightC d c
 few:cons.length*128<=140737488355328
 uses:((cons.map λc=>(usesR c).length).sum+1)*8<=140737488355328
theorem ConsOk.step {d:aa}{cons:List Con}(h:ConsOk d cons)(gd:GoodD d.length d): ∀c∈cons,StepOK d.length (usesR c) (λg=>(c.kind=4->0<=g c.b/\g c.b<=1)->aV c (kg d.length g)=true) (bK c):=λc hc=>ul gd (h.con c hc) (h.right c hc)
theorem zq (d:aa)(cons:List Con)(hd:d.length*24<=140737488355328)(hx: ∀x∈d,Fine x/\(vals x).length<=4096)(hc:ConsOk d cons)
  (hone: ∀c∈cons,∀out,GoodD d.length out->leD out d->Spec Tryz.prog 105 false [aH out,.agg (cC c)] (aX (bK c out))):
  Spec Tryz.prog 67 false [aH d,cU cons] (aX (fY cons d)):=by
 refine Spec.body Tryz.func67 Y Y Y λw0 Z0=> ?_;generalize hR:fY cons d=R;refine .B ?_;refine T.sub (Rel.own0 (s:=6) 54 1 Y) ?_;refine T.K (T.listI d (λpre=>[]∉pre) (λn pre post=>⟨[(1,.val false (cU cons)),(6,.ref 0),(15,.val false (aH d)),(16,.val true (.int .i64 (d.map cD).length)),(17,.val true (.int .i64 n))],[(0,some (.sl 54 1 true (pre.map cD)))],1⟩) (λ_ _ h=>h) (by simp) ?_ ?_)
 ·rintro n pre x post h hn hi ih;have hlt:=bZ h hn;have hxl:=(hx x (by rw[h];simp)).1.len;refine .B ?_;refine T.ct2 Y (bY h hn) ?_;refine .B ?_;refine .F (r:=cD x) (aQ h hn) ?_;refine T.cd Y (λh1=> ?_) (λh1=> ?_)
  ·have hxe:x=[]:=(by simp at h1;exact h1);have:R=none:=(by rw[<-hR,xv (by rw[h,hxe];simp)]);subst this;refine .B ?_;exact⟨_,.ownN Y (.v Y Y Y (λ_=>rfl) .nil)⟩
  ·have hxe:x≠[]:=λe=>h1 (by rw[e];rfl);refine .B ?_;refine .D (bR x (by omega)).frz ?_;refine .V ?_;refine J.aD Y Y Y Y Y Y Y Y Y Y Y Y Y Y Y Y Y Y Y (by omega) ?_;refine .B ?_;rw[aj hlt (by omega)];exact T.K (ih (by simp[hi,Ne.symm hxe]))
 ·intro hne;have gd:GoodD d.length d:=⟨⟨hd,λx h=>(hx x h).1,λx h=>(hx x h).2⟩,rfl,hne⟩;have hst:=hc.step gd;refine .B ?_;refine T.cf2 Y bq ?_;refine .B ?_;have hbg:=xr cons d.length hc.con (λc hcc=>(qy (hc.con c hcc) (hc.right c hcc)).2.2) hc.few hc.uses;refine J.co (qs:=[]) (cs2:=[]) false [] [1001,1002,1003] Y Y Y Y Y Y hbg trivial Y Y Y Y Y Y Y λns hns=> ?_;obtain⟨uq,ua,uu,rfl⟩: ∃uq ua uu,ns=[uq,ua,uu]:=by
   match ns,hns with
   | [a,b,c],_=>exact⟨a,b,c,rfl⟩
  refine .B ?_;have hlen: ∀p∈(gC cons).2,p.2.length*8<=140737488355328:=λp hp=>by
   have:=rQ cons 0 0 [] [] (by simp) p hp;have:=hc.uses;omega
  have hlk: ∀(v x:Int),x∈(lkA (gC cons).2 v).getD []↔∃(k:Nat) (c:Con),cons[k]? =some c/\v∈usesR c/\x=(k:Int):=λv x=>by
   have:=(pQ cons 0 [] [] .nil).2.2 v x;rw[show(gC cons).2=(cW 0 cons [] []).2 from Y,this];simp[wT]
  have hqb:=wt (cons:=cons) gd;generalize (gC cons).1=o0 at*;generalize (gC cons).2=us at*;refine T.K (T.ind (λx:aa×bA=>⟨[(1,.val false (cU cons)),(6,.ref 0),(9,.val true (.raw uq)),(1001,.eq uq 1),(1002,.eq ua 2),(1003,.eq uu 3)],[(0,some (.sl 54 1 true (x.1.map cD))),(1,some ((mL (cons.map cC) ua uu).reg false)),(2,some ((mpS x.2).reg false)),(3,some ((mpU us).reg false))],4⟩)
   (λx=>QInv cons d x) (λx=>weight x.1*(cons.length+1)+xk cons.length x.2) (d,o0) hqb (λ_ _ h=>h) ?_)
  rintro⟨out,o⟩ hq ih;dsimp only;have gx:GoodD d.length out:=hq.come.fine;have hnx:=y4 (cons.map cC) o uq ua uu (by simp;have:=hc.few;omega);rw[D9]at hnx;refine .B ?_;refine J.co (qs:=[1,2]) (cs2:=[(mL (cons.map cC) ua uu).reg false,(mpS o).reg false]) false [1001,1002] [] Y Y Y Y Y Y hnx ⟨rfl,rfl,rfl,rfl,trivial⟩ Y Y Y Y Y Y Y λns hns=> ?_;obtain rfl:ns=[]:=DN hns;cases hn:iS cons.length o with
  |none=>
   have hfin:=fv (Ae hq hn);rw[hR]at hfin;subst hfin;refine .B ?_;refine T.ct Y ?_;refine .B ?_;exact⟨_,.o Y Y Y (λ_=> .inl Y) (by simp) (.v rfl rfl rfl (λ_=>rfl) .nil)⟩
  |some i=>
   have hil:i<cons.length:=by
    unfold iS at hn;rw[FN]at hn;simpa using hn.2.1
   have hci:cons[i]? =some cons[i]:=D1 hil;have hcm:=D8 hil;have hrow:(cons.map cC)[((i:Nat):Int).toNat]? =some (cC cons[i]):=(by simp[hil]);have hsp:=hone _ hcm out gx hq.come.less;have hstc:=hst _ hcm;have hqs:=λnow o2=>yN (o2:=o2) (now:=now) hst hq hn hci;generalize cons[i]=c at*;refine .B ?_;refine T.cf Y ?_;refine .B ?_;refine J.i Y Y Y Y Y Y Y Y Y (r:=cC c) (by simp) hrow rfl ?_;refine .B ?_;refine .C hsp ?_;cases hnow:bK c out with
   |none=>
    have hfin:=fv (d:=d) (R:=none) (show AllEnds cons d none from hq.come.none hcm hstc.takes hnow);rw[hR]at hfin;subst hfin;refine .B ?_;refine T.ct Y ?_;refine .B ?_;exact⟨_,.ownN Y (.v Y Y Y (λ_=>rfl) .nil)⟩
   |some now=>
    have hqs:=λo2=>hqs now o2 hnow;have gn:=(hstc.takes.less _ _ gx hnow).1;refine .B ?_;refine T.cf Y ?_;refine .B ?_;have hlen2:out.length=now.length:=(by rw[gx.len,gn.len]);have hml:((cons.map cC).length:Nat)=cons.length:=D9 ..;refine T.K (T.ind (λx:Nat×bA=>⟨[(1,.val false (cU cons)),(6,.ref 0),(9,.val true (.raw uq)),(12,.ref 4),(52,.val true (.int .i64 (out.map cD).length)),(53,.val true (.int .i64 x.1)),(1001,.eq uq 1),(1002,.eq ua 2),(1003,.eq uu 3)],[(0,some (.sl 54 1 true (out.map cD))),(1,some ((mL (cons.map cC) ua uu).reg false)),(2,some ((mpS x.2).reg false)),(3,some ((mpU us).reg false)),(4,some (.sl 54 1 true (now.map cD)))],5⟩)
     (λx=>x.1<=out.length/\(x.2.map (·.1)).Nodup/\∀j,cF x.2 j=true↔cF (dlA o (i:Int)) j=true∨∃(w:Nat) (c':Con),w<x.1/\out[w]? ≠now[w]? /\cons[j]? =some c'/\(w:Int)∈usesR c') (λx=>out.length-x.1) (0,dlA o (i:Int))
     ⟨by simp,hq.nod.sublist ((AZ (i:Int) o).map _),λj=>⟨.inl,λh=>h.resolve_right λ⟨w,c',h1,_⟩=>DS h1 (Eg w)⟩⟩ (λ_ _ h=>h) ?_)
    rintro⟨v,o2⟩ ⟨hv,hnd,ho⟩ ih2;simp only at hv hnd ho;dsimp only;refine .B ?_;refine T.cd Y (λh1=> ?_) (λh1=> ?_)
    ·have h1:v<out.length:=(by simpa using h1);have h2:v<now.length:=(by omega);have hxl:=(gx.few.fine _ (D8 h1)).len;have ra:(out.map cD)[((v:Nat):Int).toNat]? =some (cD out[v]):=(by simp[h1]);have rb:(now.map cD)[((v:Nat):Int).toNat]? =some (cD now[v]):=(by simp[h2]);have ea:out[v]? =some out[v]:=D1 h1;have eb:now[v]? =some now[v]:=D1 h2;have hw1:IntKind.i64.wrap ((v:Int)+1)=((v+1:Nat):Int):=aj (l:=out.length) h1 (by have:=gx.few.small;omega);have hch:=sZ (cons.map cC) o2 us (v:Int) uq ua uu hlen;generalize hxa:out[v]=xa at*;generalize hxb:now[v]=xb at*;refine .B ?_;refine .M ?_;refine J.io Y Y Y Y Y Y Y Y Y (by omega) (by simpa using h1) Y ?_;refine J.lo Y Y Y Y Y Y (r:=cD xa) ra Y ?_;refine .M ?_;refine J.io Y Y Y Y Y Y Y Y Y (by omega) (by simpa using h2) Y ?_;refine J.lo Y Y Y Y Y Y (r:=cD xb) rb Y ?_;refine .M ?_;refine .C (d8 xa xb (by omega)) ?_;by_cases hab:xa=xb
     ·rw[DE hab];refine .B ?_;refine T.cf Y ?_;refine .B ?_;rw[hw1];have:=ih2 (v+1,o2) ⟨by omega,hnd,λk=>(ho k).trans (or_congr_right ⟨λ⟨w,c',h3,h4⟩=>⟨w,c',by omega,h4⟩,λ⟨w,c',h3,h4,h5⟩=>⟨w,c',by
       have:w≠v:=λe=>h4 (by rw[e,ea,eb,hab]);omega,h4,h5⟩⟩)⟩ (by show _-_<_-_;omega)
      exact T.K this
     ·rw[DC hab];refine .B ?_;refine T.ct Y ?_;refine .B ?_;refine J.co (qs:=[1,2,3]) (cs2:=[(mL (cons.map cC) ua uu).reg false,(mpS o2).reg false,(mpU us).reg false]) false [1001,1002,1003] [] Y Y Y Y Y Y hch ⟨rfl,rfl,rfl,rfl,rfl,rfl,trivial⟩ Y Y Y Y Y Y Y λns hns=> ?_;obtain rfl:ns=[]:=DN hns;refine .B ?_;rw[hw1];have hb3: ∀k,cF (eQ ((lkA us (v:Int)).getD []) o2) k=true↔cF o2 k=true∨∃c',cons[k]? =some c'/\(v:Int)∈usesR c':=λk=>by
       unfold cF;rw[oX];by_cases hm:(k:Int)∈(lkA us (v:Int)).getD []
       ·rw[D3 hm];obtain⟨k',c',h3,h4,h5⟩:=(hlk _ _).1 hm;obtain rfl:k=k':=(by omega);exact⟨λ_=> .inr ⟨c',h3,h4⟩,λ_=>rfl⟩
       ·rw[D2 hm];exact⟨.inl,λh=>h.resolve_right λ⟨c',h3,h4⟩=>hm ((hlk _ _).2 ⟨k,c',h3,h4,rfl⟩)⟩
      have:=ih2 (v+1,eQ ((lkA us (v:Int)).getD []) o2) ⟨by omega,nb _ _ hnd,λk=>by
       rw[hb3 k,ho k];constructor
       ·rintro((h3|⟨w,c',h3,h4,h5⟩)|⟨c',h3,h4⟩);·exact .inl h3
        ·exact .inr ⟨w,c',by omega,h4,h5⟩
        ·exact .inr ⟨v,c',by omega,by rw[ea,eb];exact λe=>hab (D4 e),h3,h4⟩
       ·rintro(h3|⟨w,c',h3,h4,h5⟩);·exact .inl (.inl h3)
        ·by_cases e:w=v;·subst e;exact .inr ⟨c',h5⟩
         ·exact .inl (.inr ⟨w,c',by omega,h4,h5⟩)⟩ (by show _-_<_-_;omega)
      exact T.K this
    ·have h1:v=out.length:=(by simp at h1;omega);subst h1;refine .B ?_;have:=ih (now,o2) (hqs o2 ho hnd).1 (hqs o2 ho hnd).2;exact T.K this
def nO (k:Int):FuncId:=if k=1 then 133 else if k=2 then 134 else if k=3 then 135 else if k=4 then 136 else if k=5 then 137 else if k=6 then 138 else 139
theorem ya {d:aa}{c:Con}{R:Option aa}(h:Spec Tryz.prog (nO c.kind) false [aH d,.agg (cC c)] (aX R)):Spec Tryz.prog 105 false [aH d,.agg (cC c)] (aX R):=by
 refine Spec.body Tryz.func105 Y Y Y λw0 Z0=> ?_;unfold nO at h;refine .B ?_;refine T.cd Y (λh1=> ?_) (λh1=> ?_)
 ·have h1:c.kind=1:=h1;rw[D3 h1]at h;refine .B ?_;refine .D h ?_;exact⟨_,.o Y Y Y (λ_=> .inl Y) (by simp) (.v rfl rfl rfl (λ_=>rfl) .nil)⟩
 ·have h1: ¬c.kind=1:=h1;rw[D2 h1]at h;refine .B ?_;refine T.cd Y (λh1=> ?_) (λh1=> ?_)
  ·have h1:c.kind=2:=h1;rw[D3 h1]at h;refine .B ?_;refine .D h ?_;exact⟨_,.o Y Y Y (λ_=> .inl Y) (by simp) (.v rfl rfl rfl (λ_=>rfl) .nil)⟩
  ·have h1: ¬c.kind=2:=h1;rw[D2 h1]at h;refine .B ?_;refine T.cd Y (λh1=> ?_) (λh1=> ?_)
   ·have h1:c.kind=3:=h1;rw[D3 h1]at h;refine .B ?_;refine .D h ?_;exact⟨_,.o Y Y Y (λ_=> .inl Y) (by simp) (.v rfl rfl rfl (λ_=>rfl) .nil)⟩
   ·have h1: ¬c.kind=3:=h1;rw[D2 h1]at h;refine .B ?_;refine T.cd Y (λh1=> ?_) (λh1=> ?_)
    ·have h1:c.kind=4:=h1;rw[D3 h1]at h;refine .B ?_;refine .D h ?_;exact⟨_,.o Y Y Y (λ_=> .inl Y) (by simp) (.v rfl rfl rfl (λ_=>rfl) .nil)⟩
    ·have h1: ¬c.kind=4:=h1;rw[D2 h1]at h;refine .B ?_;refine T.cd Y (λh1=> ?_) (λh1=> ?_)
     ·have h1:c.kind=5:=h1;rw[D3 h1]at h;refine .B ?_;refine .D h ?_;exact⟨_,.o Y Y Y (λ_=> .inl Y) (by simp) (.v rfl rfl rfl (λ_=>rfl) .nil)⟩
     ·have h1: ¬c.kind=5:=h1;rw[D2 h1]at h;refine .B ?_;refine T.cd Y (λh1=> ?_) (λh1=> ?_)
      ·have h1:c.kind=6:=h1;rw[D3 h1]at h;refine .B ?_;refine .D h ?_;exact⟨_,.o Y Y Y (λ_=> .inl Y) (by simp) (.v rfl rfl rfl (λ_=>rfl) .nil)⟩
      ·have h1: ¬c.kind=6:=h1;rw[D2 h1]at h;refine .B ?_;refine .D h ?_;exact⟨_,.o Y Y Y (λ_=> .inl Y) (by simp) (.v rfl rfl rfl (λ_=>rfl) .nil)⟩
theorem fR {n:Nat}{d:aa}(gd:GoodD n d): ∀x∈d,x.length*64+1048576<=140737488355328:=λx hx=>by
 have:=gd.few.few x hx;have:=bF (gd.few.fine x hx).ok;omega
theorem sD {d:aa}{c:Con}(gd:GoodD d.length d)(h:SumOk d c):Spec Tryz.prog 139 false [aH d,.agg (cC c)] (aX (gN c d)):=by
 obtain⟨M,hM⟩:=gM h;exact uG d c h.fine (fR gd) _ M hM
theorem BT {d:aa}{c:Con}(hk:c.kind=1)(hr:rightR d c=true):c=BU c.vars/\c.vars.Nodup/\c.vars≠[]:=by
 obtain⟨kind,vars,coefs,op,rhs,rows,b⟩:=c;simp only at hk;subst hk;simp only[rightR,noneR,plainR,bareR,manyR,DH,DM,D2 (by decide: ¬(1:Int)=0),D3]at hr;obtain⟨⟨h1,⟨⟨h2,h3⟩,h4⟩,h5⟩,h6,h7⟩:=hr;obtain rfl:=DN h1;obtain rfl:=DN h5;subst h2 h3 h4;exact⟨rfl,h7,G1 h6⟩
theorem Dn {d:aa}{c:Con}(gd:GoodD d.length d)(hc:ConB c)(h:conR d c=0)(hk:c.kind=1):Spec Tryz.prog 133 false [aH d,.agg (cC c)] (aX (ij d c.vars)):=by
 obtain⟨_,hv,hr,_⟩:=cO hc h;obtain⟨e,h1,h2⟩:=BT hk hr;have a:=vT d c.vars gd.few ⟨h1,hv.2⟩ h2;rw[<-e]at a;exact a
theorem Ck {d:aa}{c:Con}(gd:GoodD d.length d)(h:ReifOk d c):Spec Tryz.prog 136 false [aH d,.agg (cC c)] (aX (oL c d)):=by
 have hsm:=fR gd;have e:oL c d=tU d c (gN (bN c) d) (gN (bP (bN c)) d):=D3 h.truth;rw[e];exact wR d c h.sum.fine.in_ h.con h.b (λx hx=>by have:=hsm x hx;omega) _ _ (λ_ _ _ _=>sD gd h.sum) (λ_ _ _ _ _=>sD gd h.sumN)
theorem CN {c:Con}(h:c.kind≠4):usesR c=aW c.vars:=by unfold usesR;rw[D2 h]
theorem qe {d:aa}{c:Con}(gd:GoodD d.length d)(hc:ConB c)(h:conR d c=0)(hk:c.kind=5):Spec Tryz.prog 137 false [aH d,.agg (cC c)] (aX (bK c d)):=by
 have hcl:=rM hc h hk;have hsm:=fR gd;have e:bK c d=jM d c:=by
  unfold bK;rw[D2 (by omega),D2 (by omega),D2 (by omega),D2 (by omega),CN (by omega)];exact vG hcl hk gd.few.fine
 rw[e];exact sE d c (BX hcl gd.few.small λx hx=>by have:=hsm x hx;omega)
theorem Da {d:aa}{c:Con}(gd:GoodD d.length d)(hv:cK d c):Spec Tryz.prog 138 false [aH d,.agg (cC c)] (aX (wV c d)):=by
 obtain⟨R,N,h1,_⟩:=qC (c:=c) (d:=d) hv gd.few.fine;have h2:=h1;rw[D2 gd.some']at h2;obtain rfl:=uP h2;exact wu d c hv ⟨gd.few.small,λx hx=>by have:=fR gd x hx;omega⟩ _ N h1
theorem zx {d:aa}{vs:List Int}{i:Int}(h0:0<=i)(h1:i.toNat<(vs.drop 2).length):elemIn d vs i= !decide (elemM d vs i=[]):=by
 have h2:i.toNat+2<vs.length:=(by simp at h1;omega);unfold elemIn;rw[DE h0,DE h2];rfl
theorem xe (d:aa)(vs:List Int)(i:Int)(h2:2<=vs.length)(hv: ∀v∈vs,0<=v/\v.toNat<d.length)(hvl:vs.length*8<=140737488355328)(hx: ∀x∈d,x.length*32<=140737488355328):
  Spec Tryz.prog 188 false [.int .i64 i,.ptr [ao (vs.drop 2)],.ptr [aH d],.ptr [.int .i64 (vs.getD 1 0)]] [.val (.bool (!elemIn d vs i))]:=by
 refine Spec.body Tryz.func188 Y Y Y λw0 Z0=> ?_;have hr:=hv (vs.getD 1 0) (cT (by omega));have hrow:(d.map cD)[(vs.getD 1 0).toNat]? =some (cD (domAt d (vs.getD 1 0))):=(by rw[DG,ak hr.2];rfl);have hM:elemM d vs i=bB (domAt d (vs.getD (i.toNat+2) 0)) (domAt d (vs.getD 1 0)):=rfl;have hIn:= @zx d vs i;have hno: ¬(0<=i/\i.toNat<(vs.drop 2).length)->elemIn d vs i=false:=λh=>by
  unfold elemIn;by_cases h0:0<=i
  ·have: ¬i.toNat+2<vs.length:=λe=>h ⟨h0,by simp;omega⟩;rw[DC this];simp
  ·rw[DC h0];rfl
 have hat: ∀h:i.toNat<(vs.drop 2).length,(vs.drop 2)[i.toNat]=vs.getD (i.toNat+2) 0:=λh=>(by rw[List.getElem_drop,aN (by simp at h;omega)];congr 1;omega);have hin: ∀h:i.toNat<(vs.drop 2).length,vs.getD (i.toNat+2) 0∈vs:=λh=>cT (by simp at h;omega);have hls:(vs.drop 2).length<=vs.length:=(by simp);generalize vs.drop 2=ls at*;generalize vs.getD 1 0=r at*;generalize elemIn d vs i=b at*;generalize elemM d vs i=M at*;refine .B ?_;refine J.g Y Y Y (λh3=> ?_) (λh3=> ?_)
 ·refine .B ?_;rw[hno (by omega)];exact r1
 ·refine .B ?_;refine J.g Y Y Y (λh4=> ?_) (λh4=> ?_)
  ·refine .B ?_;rw[hno (by simp at h4;omega)];exact r1
  ·have h4:i.toNat<ls.length:=(by simp at h4;omega);have hvi:=hv _ (hin h4);have hri:(d.map cD)[(vs.getD (i.toNat+2) 0).toNat]? =some (cD (domAt d (vs.getD (i.toNat+2) 0))):=(by rw[DG,ak hvi.2];rfl);have hli:(ls.map cI)[i.toNat]? =some (cI (vs.getD (i.toNat+2) 0)):=(by rw[DG,D1 h4,hat h4];rfl);have hx1:=hx _ (af hvi.2);have hx2:=hx _ (af hr.2);rw[hIn (by omega) h4];refine .B ?_;refine J.i Y Y Y Y Y Y Y Y Y (r:=cI (vs.getD (i.toNat+2) 0)) (by omega) hli Y ?_;refine .B ?_;refine J.i Y Y Y Y Y Y Y Y Y (r:=cD (domAt d (vs.getD (i.toNat+2) 0))) hvi.1 hri Y ?_;refine .B ?_;refine J.i Y Y Y Y Y Y Y Y Y (r:=cD (domAt d r)) hr.1 hrow Y ?_;refine .B ?_;refine J.cc Y Y Y Y Y (mt _ _ (by omega)) Y Y ?_;refine .B ?_;have e:decide (((((bB (domAt d (vs.getD (i.toNat+2) 0)) (domAt d r)).map cR).length:Nat):Int)=0)= !(!decide (M=[])):=(by rw[hM];simp);exact⟨_,.v Y Y (by rw[<-e]) (λ_=>rfl) .nil⟩
theorem vw {d:aa}{c:Con}(h: []∈d):rE d c=none:=D3 h
set_option maxHeartbeats 1000000 in
theorem vv {n:Nat}(d:aa)(c:Con)(gd: []∉d->GoodD n d)(fd:FewD d)(hc:ConB c)(hn:c.vars.Nodup)(h3:3<=c.vars.length)(hv: ∀v∈c.vars,0<=v/\v.toNat<d.length):
  Spec Tryz.prog 135 false [aH d,.agg (cC c)] (aX (rE d c)):=by
 refine Spec.body Tryz.func135 Y Y Y λw0 Z0=> ?_;generalize hR:rE d c=R;have hdl:=fd.small;have hx: ∀x∈d,x.length<=4096:=λx hm=>(by have:=bF (fd.fine x hm).ok;have:=fd.few x hm;omega);obtain⟨h1,h2,h5,h4⟩:=hc;refine .B ?_;refine T.sub (Rel.unbx (s:=2) (λ_ h=>h) Y Y) ?_;refine T.sub (Rel.fp (s:=2) Y) ?_;refine T.sub (Rel.unbx (s:=3) (λ_ h=>h) Y Y) ?_;refine T.sub (Rel.own0 (s:=6) 54 1 Y) ?_;refine T.K (T.listI d (λpre=>[]∉pre) (λn pre post=>⟨[(2,.val false (.ptr [aH d])),(3,.fptr false (cC c)),(6,.ref 0),(16,.val false (aH d)),(17,.val true (.int .i64 (d.map cD).length)),(18,.val true (.int .i64 n))],[(0,some (.sl 54 1 true (pre.map cD)))],1⟩) (λ_ _ h=>h) (by simp) ?_ ?_)
 ·rintro n pre x post h hn hi ih;have hlt:=bZ h hn;have hxl:=hx x (by rw[h];simp);refine .B ?_;refine T.ct2 Y (bY h hn) ?_;refine .B ?_;refine .F (r:=cD x) (aQ h hn) ?_;refine T.cd Y (λh5=> ?_) (λh5=> ?_)
  ·have hxe:x=[]:=(by simp at h5;exact h5);have:R=none:=(by rw[<-hR,vw (by rw[h,hxe];simp)]);subst this;refine .B ?_;exact⟨_,.ownN Y (.v Y Y Y (λ_=>rfl) .nil)⟩
  ·have hxe:x≠[]:=λe=>h5 (by rw[e];rfl);refine .B ?_;refine .D (bR x (by omega)).frz ?_;refine .V ?_;refine J.aD Y Y Y Y Y Y Y Y Y Y Y Y Y Y Y Y Y Y Y (by omega) ?_;refine .B ?_;rw[aj hlt (by omega)];exact T.K (ih (by simp[hi,Ne.symm hxe]))
 ·intro hne;have gd:=gd hne;unfold rE at hR;rw[D2 hne]at hR;refine .B ?_;refine T.cf2 Y bq ?_;refine .B ?_;have hr0:(c.vars.map cI)[(0:Int).toNat]? =some (cI (c.vars.getD 0 0)):=(by rw[DG,D1 (show(0:Int).toNat<c.vars.length by simp;omega),aN (by omega)];rfl);have hr1:(c.vars.map cI)[(1:Int).toNat]? =some (cI (c.vars.getD 1 0)):=(by rw[DG,D1 (show(1:Int).toNat<c.vars.length by simp;omega),aN (by omega)];rfl);refine T.rdw 16 Y (by kernel_rfl) Y ?_;refine .B ?_;refine .F (r:=cI (c.vars.getD 0 0)) hr0 ?_;refine .F (r:=cI (c.vars.getD 1 0)) hr1 ?_;refine J.s3 (enc:=cI) (l:=c.vars) 2 Y Y Y Y Y Y Y Y Y (λ_=>rfl) Y (by omega) ?_;refine .B ?_;refine .L ?_;refine .B ?_;refine .L ?_;refine .B ?_;refine J.wd Y Y Y Y Y Y Y Y Y Y ?_;refine .B ?_;refine J.wd Y Y Y Y Y Y Y Y Y Y ?_;refine .B ?_;refine⟨by kernel_rfl,?_⟩;refine .B ?_;refine J.sub (Rel.unbx (s:=10) (λ_ h=>h) Y Y) ?_;refine J.sub (Rel.fp (s:=10) Y) ?_;refine J.sub (Rel.unbx (s:=11) (λ_ h=>h) Y Y) ?_;refine J.sub (Rel.fp (s:=11) Y) ?_;have hvi:=hv _ (cT (show 0<c.vars.length by omega));have hvr:=hv _ (cT (show 1<c.vars.length by omega));have hdi:=af hvi.2;have hri:(d.map cD)[(c.vars.getD 0 0).toNat]? =some (cD (domAt d (c.vars.getD 0 0))):=(by rw[DG,ak hvi.2];rfl);refine J.i Y Y Y Y Y Y Y Y Y (r:=cD (domAt d (c.vars.getD 0 0))) hvi.1 hri Y ?_;refine .B ?_;have hvs:=iD (domAt d (c.vars.getD 0 0)) (fd.fine _ hdi).domB.1 (by have:=hx _ hdi;omega);rw[DU (show _<=4097 by have:=fd.few _ hdi;omega)]at hvs;refine .D hvs ?_;have hdel:=sP (p:=λi=> !elemIn d c.vars i) (f:=188) [.ptr [ao (c.vars.drop 2)],.ptr [aH d],.ptr [.int .i64 (c.vars.getD 1 0)]] (vals (domAt d (c.vars.getD 0 0))) (λi _=>xe d c.vars i (by omega) hv (by omega) λx hm=>by have:=hx x hm;omega) (by have:=fd.few _ hdi;omega);rw[show(vals (domAt d (c.vars.getD 0 0))).filter (λx=> !!elemIn d c.vars x)=elemPl d c.vars by simp[elemPl]]at hdel;refine J.cp (cs2:=[]) (qs:=[]) [] Y Y Y Y Y Y Y Y hdel trivial Y Y Y Y Y Y ?_;refine .B ?_;have hpin: ∀i∈elemPl d c.vars,0<=i/\i.toNat+2<c.vars.length:=λi hi=>by
   obtain⟨_,a1,a2,_⟩:=(iC gd c.vars i).1 hi;exact⟨a1,a2⟩
  have hpll:(elemPl d c.vars).length<=4096:=E9 (Ec _ _) (fd.few _ hdi);have hmay:=λl=>vz gd c.vars l;have hrr:(d.map cD)[(c.vars.getD 1 0).toNat]? =some (cD (domAt d (c.vars.getD 1 0))):=(by rw[DG,ak hvr.2];rfl);unfold sO at hR;generalize elemPl d c.vars=l at*;refine T.cd Y (λh5=> ?_) (λh5=> ?_)
  ·have h5:l=[]:=(by simp at h5;exact h5);rw[D3 h5]at hR;subst hR;refine .B ?_;exact⟨_,.ownN Y (.v Y Y Y (λ_=>rfl) .nil)⟩
  ·have h5: ¬l=[]:=λe=>h5 (by rw[e];rfl);rw[D2 h5]at hR;refine .B ?_;refine T.sub (Rel.own0 (s:=13) 53 2 Y) ?_;refine T.K (T.list l (λn pre post=>⟨[(2,.val false (.ptr [aH d])),(6,.ref 0),(9,.val true (.int .i64 (c.vars.getD 0 0))),(10,.val true (.ptr [.int .i64 (c.vars.getD 1 0)])),(11,.val false (.ptr [ao (c.vars.drop 2)])),(12,.ref 1),(13,.ref 2),(52,.ref 1),(53,.val true (.int .i64 (l.map cI).length)),(54,.val true (.int .i64 n))],[(0,some (.sl 54 1 true (d.map cD))),(1,some (.sl 3 1 true (l.map cI))),(2,some (.sl 53 2 true ((elemMay d c.vars pre).map cR)))],3⟩) (λ_ _ h=>h) ?_ ?_)
   ·rintro n pre v post h hn ih;have hlt:=bZ h hn;have hvv:=hpin v (by rw[h];simp);refine .B ?_;refine T.ct2 Y (bY h hn) ?_;refine .B ?_;refine J.io Y Y Y Y Y Y Y Y Y (by omega) (by simp;omega) Y ?_;refine .B ?_;refine J.lo Y Y Y Y Y Y (r:=cI v) (aQ h hn) Y ?_;refine .B ?_;have hvin:=hv _ (cT hvv.2);have hls:((c.vars.drop 2).map cI)[v.toNat]? =some (cI (c.vars.getD (v.toNat+2) 0)):=by
     rw[DG,Fu,FP 2,D1 hvv.2,aN hvv.2];rfl
    have hrv:(d.map cD)[(c.vars.getD (v.toNat+2) 0).toNat]? =some (cD (domAt d (c.vars.getD (v.toNat+2) 0))):=(by rw[DG,ak hvin.2];rfl);have hx1:=hx _ (af hvin.2);have hx2:=hx _ (af hvr.2);have hmy:=hmay pre;have hme:=d7 gd c.vars v;have hmr:=nZ hme.1 λx hx=>(gd.few.at _).2.2 x ((hme.2 x).1 hx).1;have hml:(elemM d c.vars v).length<=4096:=by
     have a1:=bF hme.1;have a2:=bV (aE hme.1) λx hx=>((hme.2 x).1 hx).1;have:=(gd.few.at (c.vars.getD (v.toNat+2) 0)).1;omega
    have hnx:elemMay d c.vars (pre++[v])=pk (elemMay d c.vars pre) (elemM d c.vars v):=(by simp[elemMay]);have hmeet:=mt (domAt d (c.vars.getD (v.toNat+2) 0)) (domAt d (c.vars.getD 1 0)) (by omega);have hjoin:=xg (elemMay d c.vars pre) (elemM d c.vars v) (by omega) λr hr=>by
     rcases DT.1 hr with hr|hr;·exact hmy.2 r hr
     ·exact hmr r hr
    rw[show bB (domAt d (c.vars.getD (v.toNat+2) 0)) (domAt d (c.vars.getD 1 0))=elemM d c.vars v from Y]at hmeet;rw[hnx]at ih;have hw1:=aj hlt (by omega);refine J.i Y Y Y Y Y Y Y Y Y (r:=cI (c.vars.getD (v.toNat+2) 0)) (by omega) hls Y ?_;refine .B ?_;refine J.i Y Y Y Y Y Y Y Y Y (r:=cD (domAt d (c.vars.getD (v.toNat+2) 0))) hvin.1 hrv Y ?_;refine .B ?_;refine J.i Y Y Y Y Y Y Y Y Y (r:=cD (domAt d (c.vars.getD 1 0))) hvr.1 hrr Y ?_;refine .B ?_;refine .D hmeet ?_;refine .D hjoin ?_;rw[hw1];exact T.K ih
   ·have hof:=(kF l (by omega)).frz;have hml:=(hmay l).1;generalize elemMay d c.vars l=may at*;generalize domOfP l=of at*;refine .B ?_;refine T.cf2 Y bq ?_;refine .B ?_;refine .D hof ?_;refine J.io Y Y Y Y Y Y Y Y Y hvi.1 (by simp;exact hvi.2) Y ?_;refine J.w1 Y Y Y Y Y Y Y Y Y Y Y (enc:=cD) (z:=of.1) (λ_=>rfl) (by simp;exact hvi.2) ?_;refine J.sub (Rel.frz (s:=13) (λ_ h=>h) Y Y) ?_;refine .B ?_;refine J.io Y Y Y Y Y Y Y Y Y hvr.1 (by simp;exact hvr.2) Y ?_;refine J.w1 Y Y Y Y Y Y Y Y Y Y Y (enc:=cD) (z:=may) (λ_=>rfl) (by simp;exact hvr.2) ?_;refine .B ?_;refine T.cd Y (λh6=> ?_) (λh6=> ?_)
    ·have h6:l.length=1:=(by simp at h6;omega);have hl0:(l.map cI)[(0:Int).toNat]? =some (cI (l.getD 0 0)):=(by rw[DG,D1 (show(0:Int).toNat<l.length by simp;omega),aN (by omega)];rfl);have hm0:l.getD 0 0∈l:=(by rw[aN (by omega)];exact D8 _);obtain⟨b1,b2⟩:=hpin _ hm0;have hvin:=hv _ (cT b2);rw[D3 h6]at hR;generalize l.getD 0 0=i0 at*;have hls:((c.vars.drop 2).map cI)[i0.toNat]? =some (cI (c.vars.getD (i0.toNat+2) 0)):=by
      rw[DG,Fu,FP 2,D1 b2,aN b2];rfl
     subst hR;refine .B ?_;refine T.rdm 10 Y (by kernel_rfl) Y ?_;refine .B ?_;refine J.io Y Y Y Y Y Y Y Y Y (by omega) (by simp;omega) Y ?_;refine .B ?_;refine J.lo Y Y Y Y Y Y (r:=cI i0) hl0 Y ?_;refine .B ?_;refine J.i Y Y Y Y Y Y Y Y Y (r:=cI (c.vars.getD (i0.toNat+2) 0)) b1 hls Y ?_;refine .B ?_;refine .D (bR may (by omega)).frz ?_;refine J.io Y Y Y Y Y Y Y Y Y hvin.1 (by simp;exact hvin.2) Y ?_;refine .B ?_;refine J.w1 Y Y Y Y Y Y Y Y Y Y Y (enc:=cD) (z:=may) (λ_=>rfl) (by simp;exact hvin.2) ?_;refine .B ?_;exact⟨_,.o Y Y Y (λ_=> .inl Y) (by simp) (.v rfl rfl rfl (λ_=>rfl) .nil)⟩
    ·have h6: ¬l.length=1:=(by simp at h6;omega);rw[D2 h6]at hR;subst hR;refine .B ?_;exact⟨_,.o Y Y Y (λ_=> .inl Y) (by simp) (.v rfl rfl rfl (λ_=>rfl) .nil)⟩
theorem tD {α:Type}{l:List α}{i:Nat}(p:α->Bool)(h:i<l.length):(l.take (i+1)).filter p=(l.take i).filter p++(if p l[i]=true then [l[i]]else []):=by
 rw[DB h,Fx];congr 1;by_cases hp:p l[i]=true;·rw[D3 hp,FS hp];rfl
 ·rw[D2 hp,Fk hp];rfl
theorem vW (d:aa)(c:Con)(hdl:d.length*24<=140737488355328)(hx: ∀x∈d,x.length*16<=140737488355328)(hc:ConB c)(hv: ∀v∈c.vars,0<=v/\v.toNat<d.length)(hr: ∀r∈c.rows,r.length=c.vars.length):
  Spec Tryz.prog 186 false [aH d,.agg (cC c)] [.own 24 1 ((rowsP d c).map cL)]:=by
 refine Spec.body Tryz.func186 Y Y Y λw0 Z0=> ?_;obtain⟨h1,h2,h3,h4⟩:=hc;refine .B ?_;refine T.scope (λ_ _ h=>h) ?_;refine .B ?_;refine T.sub (Rel.own0 (s:=5) 24 1 Y) ?_;refine T.K (T.ind (λi:Nat=>⟨[(0,.val false (aH d)),(3,.optr 0 0 0 0),(5,.ref 1),(11,.val false (bL c.rows)),(12,.val true (.int .i64 (c.rows.map cL).length)),(13,.val true (.int .i64 i))],[(0,some (.box false (cC c))),(1,some (.sl 24 1 true (((c.rows.take i).filter (kZ d c.vars)).map cL)))],2⟩) (λi=>i<=c.rows.length) (λi=>c.rows.length-i) 0 (by simp) (λ_ _ h=>h) ?_);rintro i hi ih;refine .B ?_;refine T.cd Y (λh5=> ?_) (λh5=> ?_)
 ·have h5:i<c.rows.length:=(by simpa using h5);have hrl:=hr _ (D8 h5);have hr8:=h4 _ (D8 h5);have hfl:((c.rows.take i).filter (kZ d c.vars)).length<=i:=E9 (Ec _ _) (by simp;omega);have ih1:=ih (i+1) (by omega) (by omega);rw[tD _ h5]at ih1;have hrow:(c.rows.map cL)[((i:Nat):Int).toNat]? =some (cL c.rows[i]):=(by simp[h5]);generalize (c.rows.take i).filter (kZ d c.vars)=out at*;generalize c.rows[i]=r at*;have hw1:IntKind.i64.wrap ((i:Int)+1)=((i+1:Nat):Int):=aj (l:=c.rows.length) h5 (by omega);refine .B ?_;refine .F (r:=cL r) hrow ?_;refine T.K (T.ind (λk:Nat=>⟨[(0,.val false (aH d)),(3,.optr 0 0 0 0),(5,.ref 1),(7,.val false (ao r)),(11,.val false (bL c.rows)),(12,.val true (.int .i64 (c.rows.map cL).length)),(13,.val true (.int .i64 i)),(18,.val false (ao c.vars)),(19,.val true (.int .i64 (c.vars.map cI).length)),(20,.val true (.int .i64 k))],[(0,some (.box false (cC c))),(1,some (.sl 24 1 true (out.map cL)))],2⟩)
   (λk=>k<=c.vars.length/\∀j,j<k->hasV (domAt d (c.vars.getD j 0)) (r.getD j 0)=true) (λk=>c.vars.length-k) 0 ⟨by simp,λj hj=>DS hj (Eg j)⟩ (λ_ _ h=>h) ?_)
  rintro k ⟨hk,hb⟩ ih2;refine .B ?_;refine T.cd Y (λh6=> ?_) (λh6=> ?_)
  ·have h6:k<c.vars.length:=(by simpa using h6);have h7:k<r.length:=(by omega);have hvk:=hv _ (D8 h6);have hdx:=hx _ (af hvk.2);have hrd:(d.map cD)[c.vars[k].toNat]? =some (cD (domAt d c.vars[k])):=(by simp[ak hvk.2]);have hg1:c.vars.getD k 0=c.vars[k]:=aN h6;have hg2:r.getD k 0=r[k]:=aN h7;have hkv:(c.vars.map cI)[((k:Nat):Int).toNat]? =some (cI c.vars[k]):=aK h6;have hkr:(r.map cI)[((k:Nat):Int).toNat]? =some (cI r[k]):=aK h7;have hno:hasV (domAt d c.vars[k]) r[k]=false->kZ d c.vars r=false:=λhf=>by
    cases hh:kZ d c.vars r with
    |false=>rfl
    |true=>
     have:=(rU (p:=λv x=>hasV (domAt d v) x) hrl).1 hh k c.vars[k] (D1 h6);rw[hg2]at this;rw[hf]at this;cases this
   have hyes:hasV (domAt d c.vars[k]) r[k]=true->∀j,j<k+1->hasV (domAt d (c.vars.getD j 0)) (r.getD j 0)=true:=λhf j hj=>by
    by_cases e:j=k;·rw[e,hg1,hg2];exact hf
    ·exact hb j (by omega)
   generalize c.vars[k]=v at*;generalize r[k]=x at*;refine .B ?_;refine .F (r:=cI v) hkv ?_;refine J.i Y Y Y Y Y Y Y Y Y (r:=cD (domAt d v)) hvk.1 hrd Y ?_;refine .B ?_;refine .F (r:=cI x) hkr ?_;refine .C (gV (domAt d v) x hdx) ?_;cases hh:hasV (domAt d v) x with
   |false=>
    refine .B ?_;refine T.ct Y ?_;refine .B ?_;rw[hno hh]at ih1;simp only[EU,if_false,F5]at ih1;rw[hw1];exact T.K ih1
   |true=>
    refine .B ?_;refine T.cf Y ?_;refine .B ?_;rw[aj (l:=c.vars.length) h6 (by omega)];exact T.K (ih2 (k+1) ⟨by omega,hyes hh⟩ (by omega))
  ·have h6:k=c.vars.length:=(by simp at h6;omega);subst h6;have hin:kZ d c.vars r=true:=(rU (p:=λv x=>hasV (domAt d v) x) hrl).2 λj v hj=>by
    have hjl:=(D5.1 hj).1;have:=hb j hjl;rw[D0,hj]at this;exact this
   rw[hin]at ih1;simp only[if_true]at ih1;refine .B ?_;refine .D (dQ r hr8).frz ?_;refine .Z ?_;refine J.a1 (enc:=cL) (x:=r) (B:=24) Y Y Y Y Y Y Y Y Y Y Y Y Y Y Y Y Y Y Y Y (by omega) ?_;refine .B ?_;rw[hw1];exact T.K ih1
 ·have h5:i=c.rows.length:=(by simp at h5;omega);subst h5;rw[EI];refine .B ?_;exact⟨_,.o Y Y Y (λ_=> .inl Y) (by simp) .nil⟩
theorem vZ {d:aa}{c:Con}(h: []∈d):tabO d c=none:=D3 h
theorem tz (d:aa)(c:Con)(hdl:d.length*24<=140737488355328)(hx: ∀x∈d,(x.length+1)*16<=140737488355328)(hc:ConB c)(hv: ∀v∈c.vars,0<=v/\v.toNat<d.length)(hr: ∀r∈c.rows,r.length=c.vars.length)(hfew:c.rows.length<=1024):
  Spec Tryz.prog 134 false [aH d,.agg (cC c)] (aX (tabO d c)):=by
 refine Spec.body Tryz.func134 Y Y Y λw0 Z0=> ?_;generalize hR:tabO d c=R;have hcb:=hc;obtain⟨h1,h2,h3,h4⟩:=hc;refine .B ?_;refine T.sub (Rel.own0 (s:=6) 54 1 Y) ?_;refine T.K (T.listI d (λpre=>[]∉pre) (λn pre post=>⟨[(0,.val false (aH d)),(3,.optr 0 0 0 0),(6,.ref 1),(15,.val false (aH d)),(16,.val true (.int .i64 (d.map cD).length)),(17,.val true (.int .i64 n))],[(0,some (.box false (cC c))),(1,some (.sl 54 1 true (pre.map cD)))],2⟩) (λ_ _ h=>h) (by simp) ?_ ?_)
 ·rintro n pre x post h hn hi ih;have hlt:=bZ h hn;have hxl:=hx x (by rw[h];simp);refine .B ?_;refine T.ct2 Y (bY h hn) ?_;refine .B ?_;refine .F (r:=cD x) (aQ h hn) ?_;refine T.cd Y (λh5=> ?_) (λh5=> ?_)
  ·have hxe:x=[]:=(by simp at h5;exact h5);have:R=none:=(by rw[<-hR,vZ (by rw[h,hxe];simp)]);subst this;refine .B ?_;exact⟨_,.ownN Y (.v Y Y Y (λ_=>rfl) .nil)⟩
  ·have hxe:x≠[]:=λe=>h5 (by rw[e];rfl);refine .B ?_;refine .D (bR x (by omega)).frz ?_;refine .V ?_;refine J.aD Y Y Y Y Y Y Y Y Y Y Y Y Y Y Y Y Y Y Y (by omega) ?_;refine .B ?_;rw[aj hlt (by omega)];exact T.K (ih (by simp[hi,Ne.symm hxe]))
 ·intro hne;unfold tabO at hR;rw[D2 hne]at hR;refine .B ?_;refine T.cf2 Y bq ?_;refine .B ?_;refine .C (vW d c hdl (λx hm=>by have:=hx x hm;omega) hcb hv hr).frz ?_;have hrl:(rowsP d c).length<=1024:=E9 (Ec _ _) hfew;have hrr: ∀r∈rowsP d c,r.length=c.vars.length:=λr hm=>hr r (ES.1 hm).1;generalize rowsP d c=rows at*;refine .B ?_;refine T.cd Y (λh5=> ?_) (λh5=> ?_)
  ·have h5:rows=[]:=(by simp at h5;exact h5);rw[D3 h5]at hR;subst hR;refine .B ?_;exact⟨_,.ownN Y (.v Y Y Y (λ_=>rfl) .nil)⟩
  ·have h5: ¬rows=[]:=λe=>h5 (by rw[e];rfl);rw[D2 h5]at hR;refine .B ?_;refine T.K (T.ind (λs:Nat×aa=>⟨[(6,.ref 0),(9,.val true (bL rows)),(37,.val false (ao c.vars)),(38,.val true (.int .i64 (c.vars.map cI).length)),(39,.val true (.int .i64 s.1))],[(0,some (.sl 54 1 true (s.2.map cD)))],1⟩)
    (λs=>s.1<=c.vars.length/\s.2.length=d.length/\some (gE rows (c.vars.drop s.1) s.1 s.2)=R) (λs=>c.vars.length-s.1) (0,d) ⟨by simp,rfl,hR⟩ (λ_ _ h=>h) ?_)
   rintro⟨i,out⟩ ⟨hi,hol,hR⟩ ih;simp only at hi hol hR;dsimp only;refine .B ?_;refine T.cd Y (λh6=> ?_) (λh6=> ?_)
   ·have h6:i<c.vars.length:=(by simpa using h6);have hvi:=hv _ (D8 h6);have hkv:(c.vars.map cI)[((i:Nat):Int).toNat]? =some (cI c.vars[i]):=aK h6;rw[DP h6,gE]at hR;generalize c.vars[i]=v at*;refine .B ?_;refine .F (r:=cI v) hkv ?_;refine T.sub (Rel.own0 (s:=12) 3 1 Y) ?_;refine T.K (T.ind (λk:Nat=>⟨[(6,.ref 0),(9,.val true (bL rows)),(10,.val true (.int .i64 i)),(11,.val true (.int .i64 v)),(12,.ref 1),(37,.val false (ao c.vars)),(38,.val true (.int .i64 (c.vars.map cI).length)),(39,.val true (.int .i64 i)),(44,.val true (bL rows)),(45,.val true (.int .i64 (rows.map cL).length)),(46,.val true (.int .i64 k))],[(0,some (.sl 54 1 true (out.map cD))),(1,some (.sl 3 1 true ((gW (rows.take k) i).map cI)))],2⟩)
     (λk=>k<=rows.length) (λk=>rows.length-k) 0 (by simp) (λ_ _ h=>h) ?_)
    rintro k hk ih2;refine .B ?_;refine T.cd Y (λh7=> ?_) (λh7=> ?_)
    ·have h7:k<rows.length:=(by simpa using h7);have hrk:=hrr _ (D8 h7);have hrow:(rows.map cL)[((k:Nat):Int).toNat]? =some (cL rows[k]):=(by simp[h7]);have ih3:=ih2 (k+1) (by omega) (by omega);rw[DB h7,show gW (rows.take k++[rows[k]]) i=gW (rows.take k) i++[rows[k].getD i 0]from EP ..]at ih3;have hcl:(gW (rows.take k) i).length<=1024:=(by simp[gW];omega);generalize rows[k]=r at*;have h8:i<r.length:=(by omega);refine .B ?_;refine .F (r:=cL r) hrow ?_;refine .F (r:=cI r[i]) (aK h8) ?_;refine .V ?_;refine J.aI Y Y Y Y Y Y Y Y Y Y Y Y Y Y Y Y Y Y Y (l:=gW (rows.take k) i) (x:=r[i]) (by omega) ?_;refine .B ?_;rw[aj (l:=rows.length) h7 (by omega)];rw[show r.getD i 0=r[i]from aN h8]at ih3;exact T.K ih3
    ·have h7:k=rows.length:=(by simp at h7;omega);subst h7;rw[EI];have hcl:(gW rows i).length<=1024:=(by simp[gW];omega);have hof:=(kF (gW rows i) (by omega)).frz;have ih3:=ih (i+1,out.set v.toNat (domOfP (gW rows i)).1) ⟨by omega,by rw[EL];exact hol,hR⟩ (by show _-_<_-_;omega);generalize domOfP (gW rows i)=of at*;refine .B ?_;refine .D hof ?_;refine J.io Y Y Y Y Y Y Y Y Y hvi.1 (by simp[hol];exact hvi.2) Y ?_;refine J.w1 Y Y Y Y Y Y Y Y Y Y Y (enc:=cD) (z:=of.1) (λ_=>rfl) (by omega) ?_;refine .B ?_;rw[aj (l:=c.vars.length) h6 (by omega)];exact T.K ih3
   ·have h6:i=c.vars.length:=(by simp at h6;omega);subst h6;rw[En,gE]at hR;subst hR;refine .B ?_;exact⟨_,.o Y Y Y (λ_=> .inl Y) (by simp) (.v rfl rfl rfl (λ_=>rfl) .nil)⟩
theorem Bv {d:aa}{c:Con}(gd:GoodD d.length d)(hc:ConB c)(h:conR d c=0)(hp:prodD d<=1048576):Spec Tryz.prog 105 false [aH d,.agg (cC c)] (aX (bK c d)):=by
 obtain⟨hk0,hv,hr,hin⟩:=cO hc h;have hsm:=fR gd
 suffices hh:Spec Tryz.prog (nO c.kind) false [aH d,.agg (cC c)] (aX (bK c d))from ya hh
 have hcs:c.kind=0∨c.kind=1∨c.kind=2∨c.kind=3∨c.kind=4∨c.kind=5∨c.kind=6:=(by omega);rcases hcs with hk|hk|hk|hk|hk|hk|hk
 ·have e:bK c d=gN c d:=(by unfold bK;rw[D3 hk]);rw[e,hk];exact sD gd (r5 hc h hk gd.few.fine gd.few.small)
 ·have e:bK c d=ij d c.vars:=(by unfold bK;rw[D2 (by omega),D3 hk]);rw[e,hk];exact Dn gd hc h hk
 ·have hrr:(∀r∈c.rows,r.length=c.vars.length)/\c.rows.length<=1024:=by
   unfold rightR at hr;rw[D2 (by omega),D2 (by omega),D3 hk]at hr;simp only[manyR,kY,DH,DM,DJ]at hr;refine⟨λr hrm=> ?_,hr.2.2⟩;have:=hr.2.1 r hrm;simp only[ex,DH,DM]at this;exact this.1
  have hp2:=tz d c gd.few.small (λx hx=>by have:=hsm x hx;omega) hc hv.2 hrr.1 hrr.2;rw[<-zT gd hc h hk]at hp2;rw[hk];exact hp2
 ·have hrr:c.vars.Nodup/\3<=c.vars.length:=by
   unfold rightR at hr;rw[D2 (by omega),D2 (by omega),D2 (by omega),D3 hk]at hr;simp only[manyR,DH,DM]at hr;exact⟨hr.1.2.2,hr.2⟩
  have hp2:=vv (n:=d.length) d c (λ_=>gd) gd.few hc hrr.1 hrr.2 hv.2;rw[<-zw gd hc h hk]at hp2;rw[hk];exact hp2
 ·have e:bK c d=oL c d:=(by unfold bK;rw[D2 (by omega),D2 (by omega),D3 hk]);rw[e,hk];exact Ck gd (xN hc h hk gd.few.fine gd.few.small)
 ·have hp2:=qe gd hc h hk;rw[hk];exact hp2
 ·have e:bK c d=wV c d:=(by unfold bK;rw[D2 (by omega),D2 (by omega),D2 (by omega),D3 hk]);rw[e,hk];exact Da gd hv
theorem Cp {d:aa}{c:Con}(gd:GoodD d.length d)(hc:ConB c)(h:RightC d c)(hp:prodD d<=1048576):Spec Tryz.prog 105 false [aH d,.agg (cC c)] (aX (bK c d)):=by
 rcases h with h|⟨hk,hs⟩;·exact Bv gd hc h hp
 ·have e:bK c d=gN c d:=by unfold bK;rw[D3 hk]
  suffices hh:Spec Tryz.prog (nO c.kind) false [aH d,.agg (cC c)] (aX (bK c d))from ya hh
  rw[e,hk];exact sD gd hs
theorem C5 {d:List (Int×Int)}(h: ∀i,i<d.length->(d.getD i (0,0)).1<=(d.getD i (0,0)).2/\(0<i->(d.getD (i-1) (0,0)).2+2<=(d.getD i (0,0)).1)):ay d:=by
 induction d with
 |nil=>exact⟨by simp,.nil⟩
 |cons x d ih=>
  have h0:=(h 0 (by simp)).1;have h1:=ih λi hi=>by
   obtain⟨a,b⟩:=h (i+1) (by simp;omega);refine⟨a,λhp=> ?_⟩;obtain⟨j,rfl⟩: ∃j,i=j+1:=⟨i-1,by omega⟩;exact b (by omega)
  refine⟨λr hr=> ?_,DY.2 ⟨λs hs=> ?_,h1.2⟩⟩
  ·rcases DQ.1 hr with rfl|hr;·exact h0
   ·exact h1.1 r hr
  ·cases d with
   |nil=>cases hs
   |cons y d=>
    have h2:=(h 1 (by simp)).2 (by omega);have h2:x.2+2<=y.1:=h2;rcases DQ.1 hs with rfl|hs;·exact h2
    ·have:=(DY.1 h1.2).1 s hs;have:=h1.1 y (.head _);omega
theorem tK {d:List (Int×Int)}(h:ay d):sizeI d=((vals d).length:Nat):=by
 induction d with
 |nil=>rfl
 |cons r d ih=>
  have h0:=h.1 r (.head _);have e:sizeI (r::d)=(r.2-r.1+1)+sizeI d:=rfl;rw[e,ih h.tail,bl,DW,show(rng r.1 r.2).length=(r.2+1-r.1).toNat by simp[rng]];omega
theorem sY {d:List (Int×Int)}(h:chkR d=0):Fine d/\(vals d).length<=4096:=by
 unfold chkR at h;split at h;·cases h
 ·rename_i h1;split at h;·cases h
  ·rename_i h2;have hb: ∀i,i<d.length->badR d i=false:=λi hi=>by
    cases e:badR d i with
    |false=>rfl
    |true=>exact DS (Ev.2 ⟨i,DO.2 hi,e⟩) h1
   have hok:ay d:=C5 λi hi=>by
    have:=hb i hi;unfold badR at this;simp only[GN,Fg,Bool.and_eq_false_iff,decide_eq_false_iff_not]at this;obtain⟨_,_,h5,h6⟩:=this;refine⟨by omega,λhp=> ?_⟩;rcases h6 with h6|h6<;>omega
   have hs:=tK hok;have hln:(vals d).length<=4096:=(by omega);refine⟨⟨hok,λv hv=> ?_,by omega⟩,hln⟩;obtain⟨r,hr,h3,h4⟩:=aS.1 hv;obtain⟨i,hi⟩:=DI hr;have hil:=(D5.1 hi).1;have:=hb i hil;unfold badR at this;rw[D0,hi]at this;simp only[Ee,GN,Fg,aG,DM]at this;omega
structure Goal where
 kind:Int
 vars:List Int
 coefs:List Int
structure Mod where
 vars:List (ByteArray×List (Int×Int))
 cons:List Con
 goal:Goal
def cV (v:ByteArray×List (Int×Int)):List PV:=[.str v.1,dm v.2]
def cG (g:Goal):List PV:=[.int .i64 g.kind,ao g.vars,ao g.coefs]
def cM (m:Mod):List PV:=[.sl (m.vars.map cV),cU m.cons,.int .i64 m.goal.kind,ao m.goal.vars,ao m.goal.coefs]
def domsM (m:Mod):aa:=m.vars.map (·.2)
structure ModB (m:Mod):Prop where
 vl:m.vars.length<=1024
 vn: ∀v∈m.vars,v.1.size<=1024/\v.2.length<=1024
 cl:m.cons.length<=1024
 cb: ∀c∈m.cons,c.vars.length<=1024/\c.coefs.length<=1024/\c.rows.length<=1024/\∀r∈c.rows,r.length<=1024
 gl:m.goal.vars.length<=1024/\m.goal.coefs.length<=1024
theorem oM (m:Mod)(hm:ModB m):Spec Tryz.prog 29 false [.agg (cM m)] [.own 54 1 ((domsM m).map cD)]:=by
 refine Spec.body Tryz.func29 Y Y Y λw0 Z0=> ?_;obtain⟨h1,h2,_,_,_⟩:=hm;refine .B ?_;refine .Q ?_;refine T.sub (Rel.wk (o:=1) Y) ?_;refine T.K (T.ind (λi:Nat=>⟨[(1,.optr 0 0 0 0),(3,.ref 1),(4,.val true (.int .i64 i))],[(0,some (.box false (cM m))),(1,some (.sl 54 1 false (((domsM m).take i).map cD)))],2⟩) (λi=>i<=m.vars.length) (λi=>m.vars.length-i) 0 (EG _) (λ_ _ h=>h) ?_);rintro i hi ih;refine .B ?_;refine T.cd Y (λh5=> ?_) (λh5=> ?_)
 ·have h5:i<m.vars.length:=(by simpa using h5);have hrow:(m.vars.map cV)[((i:Nat):Int).toNat]? =some (cV m.vars[i]):=(by simp[h5]);have hv:=h2 _ (D8 h5);have htk:(domsM m).take (i+1)=(domsM m).take i++[m.vars[i].2]:=by
   rw[DB (by simpa[domsM]using h5)];simp[domsM]
  have hl:=List.length_take_le i (domsM m);have ih1:=ih (i+1) (by omega) (by omega);rw[htk]at ih1;generalize (domsM m).take i=out at*;generalize m.vars[i]=v at*;refine .B ?_;refine .F (r:=cV v) hrow ?_;refine .V ?_;refine J.aD Y Y Y Y Y Y Y Y Y Y Y Y Y Y Y Y Y Y Y (by omega) ?_;refine .B ?_;rw[aj (l:=m.vars.length) h5 (by omega)];exact T.K ih1
 ·have h5:i=m.vars.length:=(by simp at h5;omega);subst h5;rw[DU (by simp[domsM])];have hli:=wU (domsM m) (by simp[domsM];omega) λx hx=>by
   obtain⟨v,hv,rfl⟩:=DD.1 hx;have:=h2 v hv;omega
  generalize domsM m=d at*;refine .B ?_;refine .D hli ?_;exact⟨_,.o Y Y Y (λ_=> .inl Y) (by simp) .nil⟩
def em (g:Goal):Con:=⟨0,g.vars,g.coefs,0,0,[],0⟩
def eB (d:aa)(g:Goal):Int:=if g.kind=1∨g.kind=2 then conR d (em g)else if g.kind≠0∨0<g.vars.length∨0<g.coefs.length then 44 else 0
theorem zl (d:aa)(g:Goal)(hg:g.vars.length<=1024/\g.coefs.length<=1024)(hl:d.length*8<=140737488355328)(hd: ∀x∈d,x.length*8<=140737488355328):Spec Tryz.prog 33 false [aH d,.agg (cG g)] [.val (.int .i64 (eB d g))]:=by
 refine Spec.body Tryz.func33 Y Y Y λw0 Z0=> ?_;have hcb:ConB (em g):=⟨by simp[em];omega,by simp[em];omega,by simp[em],by simp[em]⟩;have hcon:=vC d (em g) hcb hl hd;generalize hR:eB d g=R;unfold eB at hR;generalize conR d (em g)=cr at*;have yes:g.kind=1∨g.kind=2->cr=R:=λh=>(by rw[D3 h]at hR;exact hR);have no: ¬g.kind=1->¬g.kind=2->(if g.kind≠0∨0<g.vars.length∨0<g.coefs.length then(44:Int)else 0)=R:=λa b=>(by rw[D2 (λh=>h.elim a b)]at hR;exact hR);refine .B ?_;refine J.g Y Y Y (λh1=> ?_) (λh1=> ?_)
 ·rw[yes (.inl h1)]at hcon;refine .B ?_;refine T.ct Y ?_;refine .B ?_;refine .D hcon ?_;exact r1
 ·have h1: ¬g.kind=1:=h1;refine .B ?_;refine T.cd Y (λh2=> ?_) (λh2=> ?_)
  ·rw[yes (.inr h2)]at hcon;refine .B ?_;refine .D hcon ?_;exact r1
  ·have h2: ¬g.kind=2:=h2;have no:=no h1 h2;refine .B ?_;refine J.g Y Y Y (λh3=> ?_) (λh3=> ?_)
   ·rw[D3 (.inl h3)]at no;subst no;refine .B ?_;refine T.ct Y ?_;refine .B ?_;exact r1
   ·have h3: ¬g.kind≠0:=h3;refine .B ?_;refine J.g Y Y Y (λh4=> ?_) (λh4=> ?_)
    ·rw[D3 (.inr (.inl (by simpa using h4)))]at no;subst no;refine .B ?_;refine T.ct Y ?_;refine .B ?_;exact r1
    ·refine .B ?_;refine T.cd Y (λh6=> ?_) (λh6=> ?_)
     ·rw[D3 (.inr (.inr (by simpa using h6)))]at no;subst no;refine .B ?_;exact r1
     ·rw[D2 (by
       rintro(h|h|h);·exact h3 h
       ·exact h4 (by simpa using h)
       ·exact h6 (by simpa using h))]at no
      subst no;refine .B ?_;exact r1
def nmM (m:Mod)(i:Nat):ByteArray:=(m.vars.getD i (⟨#[]⟩,[])).1
def dmM (m:Mod)(i:Nat):List (Int×Int):=(m.vars.getD i (⟨#[]⟩,[])).2
def gz (m:Mod)(i:Nat):Bool:=(List.range i).any λk=>(nmM m k).toList==(nmM m i).toList
def varR (m:Mod)(i:Nat):Int:=if fJ (nmM m i)=false then 40 else if gz m i=true then 41 else if dmM m i=[]∨chkR (dmM m i)≠0 then 42 else 0
def firstE (l:List Int):Int:=(l.find? (· ≠0)).getD 0
def checkR (m:Mod):Int:=if 64<m.vars.length∨256<m.cons.length then 2 else
 if firstE ((List.range m.vars.length).map (varR m))≠0 then firstE ((List.range m.vars.length).map (varR m))else
 if firstE (m.cons.map (conR (domsM m)))≠0 then firstE (m.cons.map (conR (domsM m)))else eB (domsM m) m.goal
theorem jJ {l:List Int}{i:Nat}{e:Int}(h: ∀j,j<i->∀x,l[j]? =some x->x=0)(hi:l[i]? =some e)(he:e≠0):firstE l=e:=by
 have hlt:=(D5.1 hi).1;have:l.find? (· ≠0)=some e:=by
  rw[List.find?_eq_some_iff_getElem];refine⟨by simpa using he,i,hlt,(D5.1 hi).2,λj hj=> ?_⟩;have:=h j hj _ (D1 (by omega));simp[this]
 unfold firstE;rw[this];rfl
theorem jI {l:List Int}(h: ∀x∈l,x=0):firstE l=0:=by
 have:l.find? (· ≠0)=none:=by
  rw[Ff];intro x hx;simp[h x hx]
 unfold firstE;rw[this];rfl
theorem nu {l:List Int}(h:firstE l=0): ∀x∈l,x=0:=by
 intro x hx;unfold firstE at h;cases hf:l.find? (· ≠0)with
 |none=>
  have:=Ff.1 hf x hx;simpa using this
 |some e=>
  rw[hf]at h;have:=List.find?_some hf;simp at this;exact DS h this
theorem uB (m:Mod)(hm:ModB m):Spec Tryz.prog 11 false [.agg (cM m)] [.val (.int .i64 (checkR m))]:=by
 refine Spec.body Tryz.func11 Y Y Y λw0 Z0=> ?_;have hds:=oM m hm;generalize hR:checkR m=R;obtain⟨b1,b2,b3,b4,b5⟩:=hm;have yes:64<m.vars.length∨256<m.cons.length->(2:Int)=R:=λh=>(by rw[<-hR];exact(D3 h).symm);refine .B ?_;refine J.g Y Y Y (λh1=> ?_) (λh1=> ?_)
 ·have e:=yes (.inl (by simp at h1;omega));subst e;refine .B ?_;refine T.ct Y ?_;refine .B ?_;exact r1
 ·refine .B ?_;refine T.cd Y (λh2=> ?_) (λh2=> ?_)
  ·have e:=yes (.inr (by simp at h2;omega));subst e;refine .B ?_;exact r1
  ·have hR:(if firstE ((List.range m.vars.length).map (varR m))≠0 then firstE ((List.range m.vars.length).map (varR m))else
     if firstE (m.cons.map (conR (domsM m)))≠0 then firstE (m.cons.map (conR (domsM m)))else eB (domsM m) m.goal)=R:=by
    unfold checkR at hR;rw[D2 (by simp at h1 h2;omega)]at hR;exact hR
   have hvar: ∀i,i<m.vars.length->(∀j,j<i->varR m j=0)->varR m i≠0->R=varR m i:=λi hi hb he=>by
    have:firstE ((List.range m.vars.length).map (varR m))=varR m i:=jJ (i:=i) (λj hj x hx=>by
     rw[DG,F4 (by omega)]at hx;rw[<-D4 hx];exact hb j hj) (by rw[DG,F4 hi];rfl) he
    rw[this,D3 he]at hR;exact hR.symm
   refine .B ?_;refine T.K (T.ind (λi:Nat=>⟨[(1,.optr 0 0 0 0),(3,.val true (.int .i64 i))],[(0,some (.box false (cM m)))],1⟩) (λi=>i<=m.vars.length/\∀j,j<i->varR m j=0) (λi=>m.vars.length-i) 0 ⟨EG _,λj hj=>DS hj (Eg j)⟩ (λ_ _ h=>h) ?_);rintro i ⟨hi,hb⟩ ih;refine .B ?_;refine T.cd Y (λh3=> ?_) (λh3=> ?_)
   ·have h3:i<m.vars.length:=(by simpa using h3);have hv:=hvar i h3 hb;have hvi:varR m i=if fJ (nmM m i)=false then 40 else if gz m i=true then 41 else if dmM m i=[]∨chkR (dmM m i)≠0 then 42 else 0:=rfl
    have hrowk: ∀k,k<m.vars.length->(m.vars.map cV)[((k:Nat):Int).toNat]? =some (cV (nmM m k,dmM m k)):=λk hk=>by
     rw[Dz,DG,D1 hk];unfold nmM dmM;rw[D0,D1 hk];rfl
    have hrow:=hrowk i h3;have hbk: ∀k,k<m.vars.length->(nmM m k).size<=1024/\(dmM m k).length<=1024:=λk hk=>by
     unfold nmM dmM;rw[D0,D1 hk];exact b2 _ (D8 hk)
    have hns:=y5 (nmM m i) (by have:=hbk i h3;omega);refine .B ?_;refine .F (r:=cV (nmM m i,dmM m i)) hrow ?_;refine .D hns ?_;cases hn:fJ (nmM m i)
    ·have:R=40:=(by rw[hv (by rw[hvi,D3 hn];decide),hvi,D3 hn]);subst this;refine T.ct Y ?_;refine .B ?_;exact r1
    ·rw[D2 (by rw[hn];simp)]at hvi;refine T.cf Y ?_;refine .B ?_;refine T.K (T.ind (λk:Nat=>⟨[(1,.optr 0 0 0 0),(3,.val true (.int .i64 i)),(4,.val true (.int .i64 k))],[(0,some (.box false (cM m)))],1⟩) (λk=>k<=i/\∀j,j<k->((nmM m j).toList==(nmM m i).toList)=false) (λk=>i-k) 0 ⟨EG _,λj hj=>DS hj (Eg j)⟩ (λ_ _ h=>h) ?_);rintro k ⟨hk,hbn⟩ ih2;refine .B ?_;refine T.cd Y (λh4=> ?_) (λh4=> ?_)
     ·have h4:k<i:=(by omega);have hrk:=hrowk k (by omega);have htw:((nmM m k).toList==(nmM m i).toList)=true->gz m i=true:=λh=>Ev.2 ⟨k,DO.2 h4,h⟩;have ih3:=λh:((nmM m k).toList==(nmM m i).toList)=false=>ih2 (k+1) ⟨by omega,λj hj=>by
       by_cases e:j=k;·rw[e];exact h
       ·exact hbn j (by omega)⟩ (by omega)
      refine .B ?_;refine .F (r:=cV (nmM m k,dmM m k)) hrk ?_;refine .F (r:=cV (nmM m i,dmM m i)) hrow ?_;cases he:((nmM m k).toList==(nmM m i).toList)
      ·refine T.cf Y ?_;refine .B ?_;rw[aj (l:=m.vars.length) (n:=k) (by omega) (by omega)];exact T.K (ih3 he)
      ·have ht:=htw he;have:R=41:=(by rw[hv (by rw[hvi,D3 ht];decide),hvi,D3 ht]);subst this;refine T.ct Y ?_;refine .B ?_;exact r1
     ·have h4:k=i:=(by omega);subst h4;have htf:gz m k=false:=by
       unfold gz;rw[G3];intro j hj;rw[hbn j (DO.1 hj)];simp
      rw[D2 (by rw[htf];simp)]at hvi;have hck:=tX (dmM m k) (by have:=hbk k h3;omega);have stop:dmM m k=[]∨chkR (dmM m k)≠0->R=42:=λh=>(by rw[hv (by rw[hvi,D3 h];decide),hvi,D3 h]);have goon: ¬dmM m k=[]->¬chkR (dmM m k)≠0->varR m k=0:=λa b=>(by rw[hvi,D2 (λh=>h.elim a b)]);have hw1:IntKind.i64.wrap ((k:Int)+1)=((k+1:Nat):Int):=aj (l:=m.vars.length) h3 (by omega);have ih4:=λh:varR m k=0=>ih (k+1) ⟨by omega,λj hj=>by
       by_cases e:j=k;·rw[e];exact h
       ·exact hb j (by omega)⟩ (by omega)
      generalize varR m k=vr at*;generalize nmM m k=nm at*;generalize dmM m k=dd at*;generalize chkR dd=ck at*;refine .B ?_;refine .F (r:=cV (nm,dd)) hrow ?_;refine J.g Y Y Y (λh5=> ?_) (λh5=> ?_)
      ·have e:=stop (.inl (by simpa using h5));subst e;refine .B ?_;refine T.ct Y ?_;refine .B ?_;exact r1
      ·refine .B ?_;refine .F (r:=cV (nm,dd)) hrow ?_;refine .D hck ?_;refine T.cd Y (λh6=> ?_) (λh6=> ?_)
       ·have e:=stop (.inr h6);subst e;refine .B ?_;exact r1
       ·refine .B ?_;rw[hw1];exact T.K (ih4 (goon (by simpa using h5) h6))
   ·have h3:i=m.vars.length:=(by simp at h3;omega);have hfz:firstE ((List.range m.vars.length).map (varR m))=0:=jI λx hx=>by
     obtain⟨j,hj,rfl⟩:=DD.1 hx;exact hb j (by rw[h3];exact DO.1 hj)
    rw[hfz,D2 (by simp)]at hR;refine .B ?_;refine .D hds.frz ?_;refine T.K (T.ind (λi:Nat=>⟨[(1,.optr 0 0 0 0),(5,.val true (aH (domsM m))),(6,.val true (.int .i64 i))],[(0,some (.box false (cM m)))],1⟩) (λi=>i<=m.cons.length/\∀j,j<i->∀c,m.cons[j]? =some c->conR (domsM m) c=0) (λi=>m.cons.length-i) 0 ⟨EG _,λj hj=>DS hj (Eg j)⟩ (λ_ _ h=>h) ?_);rintro k ⟨hk,hbc⟩ ih;have hdl:(domsM m).length*8<=140737488355328:=(by simp[domsM];omega);have hdx: ∀x∈domsM m,x.length*8<=140737488355328:=λx hx=>by
     obtain⟨v,hv,rfl⟩:=DD.1 hx;have:=b2 v hv;omega
    refine .B ?_;refine T.cd Y (λh4=> ?_) (λh4=> ?_)
    ·have h4:k<m.cons.length:=(by simpa[cU]using h4);have hrow:(m.cons.map cC)[((k:Nat):Int).toNat]? =some (cC m.cons[k]):=(by simp[h4]);have hcb:=b4 _ (D8 h4);have hcs:=vC (domsM m) m.cons[k] ⟨by omega,by omega,by omega,λr hr=>by have:=hcb.2.2.2 r hr;omega⟩ hdl hdx;have hgk:m.cons[k]? =some m.cons[k]:=D1 h4;have stop:conR (domsM m) m.cons[k]≠0->R=conR (domsM m) m.cons[k]:=λhe=>by
      have:firstE (m.cons.map (conR (domsM m)))=conR (domsM m) m.cons[k]:=jJ (i:=k) (λj hj x hx=>by
       rw[DG]at hx;obtain⟨c,hc,rfl⟩:=Dy.1 hx;exact hbc j hj c hc) (by rw[DG,hgk];rfl) he
      rw[this,D3 he]at hR;exact hR.symm
     have ih4:=λh:conR (domsM m) m.cons[k]=0=>ih (k+1) ⟨by omega,λj hj c hc=>by
      by_cases e:j=k;·rw[e,hgk]at hc;cases hc;exact h
      ·exact hbc j (by omega) c hc⟩ (by omega)
     generalize m.cons[k]=c at*;generalize conR (domsM m) c=cr at*;refine .B ?_;refine .F (r:=cC c) hrow ?_;refine .D hcs ?_;refine T.cd Y (λh5=> ?_) (λh5=> ?_)
     ·have e:=stop h5;subst e;refine .B ?_;exact r1
     ·have h5:cr=0:=EB h5;refine .B ?_;rw[aj (l:=m.cons.length) h4 (by omega)];exact T.K (ih4 h5)
    ·have h4:k=m.cons.length:=(by simp[cU]at h4;omega);have hfc:firstE (m.cons.map (conR (domsM m)))=0:=jI λx hx=>by
      obtain⟨c,hc,rfl⟩:=DD.1 hx;obtain⟨j,hj⟩:=DI hc;exact hbc j (by rw[h4];exact(D5.1 hj).1) c hj
     rw[hfc,D2 (by simp)]at hR;have hgs:=zl (domsM m) m.goal b5 hdl hdx;rw[hR]at hgs;refine .B ?_;refine .D hgs ?_;exact r1
def smallD (d:aa)(most:Nat):Bool:=(List.range d.length).all λk=>decide (prodD (d.take (k+1))<=most)
theorem yE {d:aa}{most:Nat}(h:smallD d most=true)(h1:1<=most):prodD d<=most:=by
 by_cases h0:d=[];·subst h0;exact h1
 ·have hl:=G5.2 h0;have:=DJ.1 h (d.length-1) (DO.2 (by omega));rw[show d.length-1+1=d.length by omega,EI]at this;simpa using this
theorem tP (d:aa)(most:Nat)(hm:1<=most/\most<=1048576)(fd:FewD d):Spec Tryz.prog 28 false [aH d,.int .i64 most] [.val (.bool (smallD d most))]:=by
 refine Spec.body Tryz.func28 Y Y Y λw0 Z0=> ?_;generalize hR:smallD d most=R;have hds:=fd.small;refine .B ?_;refine T.K (T.ind (λi:Nat=>⟨[(0,.val false (aH d)),(1,.val false (.int .i64 most)),(5,.val true (.int .i64 (prodD (d.take i)))),(6,.val true (.int .i64 i))],[],0⟩) (λi=>i<=d.length/\prodD (d.take i)<=most/\∀j,j<i->prodD (d.take (j+1))<=most) (λi=>d.length-i) 0 ⟨EG _,hm.1,λj hj=>DS hj (Eg j)⟩ (λ_ _ h=>h) ?_);rintro i ⟨hi,hp,hb⟩ ih;refine .B ?_;refine T.cd Y (λh1=> ?_) (λh1=> ?_)
 ·have h1:i<d.length:=(by simpa using h1);have hrow:(d.map cD)[((i:Nat):Int).toNat]? =some (cD d[i]):=(by simp[h1]);have hf:=fd.fine _ (D8 h1);have hw:=fd.few _ (D8 h1);have hvs:=to d[i] hf.domB.1 (by omega) hf.domB.2.2;have htk:prodD (d.take (i+1))=prodD (d.take i)*(vals d[i]).length:=(by rw[DB h1,oQ]);have hno: ¬prodD (d.take (i+1))<=most->R=false:=λh=>by
   rw[<-hR];unfold smallD;rw[GG];exact⟨i,DO.2 h1,by simpa using h⟩
  have ih1:=λh:prodD (d.take (i+1))<=most=>ih (i+1) ⟨by omega,h,λj hj=>by
   by_cases e:j=i;·rw[e];exact h
   ·exact hb j (by omega)⟩ (by omega)
  have hle:prodD (d.take i)*(vals d[i]).length<=1048576*4096:=H5 (by omega) hw;rw[htk]at hno ih1;generalize vals d[i]=l at*;generalize d[i]=x at*;generalize prodD (d.take i)=p at*;have hmul:IntKind.i64.wrap ((p:Int)*((l.map cI).length:Nat))=((p*l.length:Nat):Int):=by
   rw[D9,<-HP,ac (by omega) (by omega)]
  refine .B ?_;refine .F (r:=cD x) hrow ?_;refine .D hvs ?_;rw[hmul];refine T.cd Y (λh2=> ?_) (λh2=> ?_)
  ·have e:=hno (by omega);subst e;refine .B ?_;exact r1
  ·refine .B ?_;rw[aj (l:=d.length) h1 (by omega)];exact T.K (ih1 (by omega))
 ·have h1:i=d.length:=(by simp at h1;omega);have:R=true:=by
   rw[<-hR];unfold smallD;rw[DJ];intro j hj;have:=hb j (by rw[h1];exact DO.1 hj);simpa using this
  subst this;refine .B ?_;exact r1
end Go.Proofs.YtopcjbahjjhdmaaGreat
