/- The texts PuC, LiA, FnR, FnS, FuE, FvB, FvQ, PuL, FuF, FuG, FuH, FuI, PuM, FvR, PuQ, PuR, FnP, FnQ, FgH, FgK of the workplace, joined. -/
import Derived.Test.YtopcjbahjjhdmaaGreatB5
import Derived.Lib.Mul64
import Derived.Sort.OwnSortedInts
namespace Go.Proofs.YtopcjbahjjhdmaaGreat
open Go Go.RowKit
set_option linter.unusedVariables false
theorem yV {α β:Type}{step:α->β ⊕ α}(Inv:α->Prop)(μ:α->Nat)(h: ∀x y,Inv x->step x= .inr y->Inv y/\μ y<μ x): ∀x,Inv x->∃N R,b9 step N x=some R:=by
 have key: ∀n x,μ x=n->Inv x->∃N R,b9 step N x=some R:=by
  intro n
  induction n using Nat.strongRecOn with
  |_ n ih=>
   intro x hx hi;cases e:step x with
   |inl b=>exact⟨1,b,by simp[b9,e]⟩
   |inr y=>
    obtain⟨h1,h2⟩:=h x y hi e;obtain⟨N,R,hR⟩:=ih (μ y) (hx▸h2) y Y h1;exact⟨N+1,R,by simp[b9,e,hR]⟩
 exact λx hi=>key _ x Y hi
theorem qk {α β:Type}{step:α->β ⊕ α}(Inv:α->Prop)(h: ∀x y,Inv x->step x= .inr y->Inv y): ∀(N:Nat) (x:α) (R:β),Inv x->b9 step N x=some R->∃z,Inv z/\step z= .inl R
 |0,x,R,_,e=>by cases e
 |n+1,x,R,hi,e=>by
  cases hs:step x with
  |inl b=>simp only[b9,hs,E9]at e;exact⟨x,hi,by rw[hs,e]⟩
  |inr y=>simp only[b9,hs]at e;exact qk Inv h n y R (h x y hi hs) e
theorem sf {α β:Type}{s1 s2:α->β ⊕ α}(Inv:α->Prop)(h: ∀x y,Inv x->s1 x= .inr y->Inv y)(he: ∀x,Inv x->s1 x=s2 x): ∀(N:Nat) (x:α),Inv x->b9 s1 N x=b9 s2 N x
 |0,_,_=>rfl
 |n+1,x,hi=>by
  simp only[b9,<-he x hi];cases hs:s1 x with
  |inl b=>rfl
  |inr y=>exact sf Inv h he n y (h x y hi hs)
def weight (d:aa):Nat:=(d.map λx=>(vals x).length).sum
theorem iB: ∀{d:aa} {i:Nat} {y:List (Int×Int)} (x:List (Int×Int)),d[i]? =some y->weight (d.set i x)+(vals y).length=weight d+(vals x).length
 | [],i,y,x,h=>by simp at h
 |z::d,0,y,x,h=>by
  simp at h;subst h;simp only[HR,weight,Ek,FX];omega
 |z::d,i+1,y,x,h=>by
  have:=iB (d:=d) (i:=i) x (by simpa using h);simp only[List.set_cons_succ,weight,Ek,FX]at this⊢;omega
theorem w5 {d d':List (Int×Int)}(h:aB d)(h':aB d')(hs: ∀v∈vals d',v∈vals d):(vals d').length<=(vals d).length/\(d'≠d->(vals d').length<(vals d).length):=by
 have hle:=cq (aG h') hs;refine⟨hle,λhne=>Nat.lt_of_le_of_ne hle λe=>hne ?_⟩;refine fX h' h (dX (aG h') (aG h) λv=>⟨hs v,λhv=> ?_⟩);refine F9 λhn=> ?_;have h1:(v::vals d').Nodup:=FH.2 ⟨hn,dF (aG h')⟩;have h2:(v::vals d').length<=(vals d).length:=h1.length_le_of_subset λw hw=>by
  rcases ET.1 hw with rfl|hw;·exact hv
  ·exact hs w hw
 simp at h2;omega
structure Cutd (d out:aa):Prop where
 len:out.length=d.length
 fine: ∀x∈out,Fine x
 ne: ∀x∈out,x≠[]
 sub: ∀(i:Nat) x y,out[i]? =some x->d[i]? =some y->∀v∈vals x,v∈vals y
theorem Cutd.set {d out:aa}(h:Cutd d out){i:Nat}{x y:List (Int×Int)}(hy:out[i]? =some y)(hx:aB x)(hne:x≠[])(hs: ∀v∈vals x,v∈vals y):Cutd d (out.set i x):=by
 have hym:=EC hy;refine⟨by simp[h.len],λz hz=> ?_,λz hz=> ?_,λj z w hz hw v hv=> ?_⟩
 ·rcases EV hz with hz|rfl;·exact h.fine z hz
  ·exact(h.fine y hym).cut hx hs
 ·rcases EV hz with hz|rfl;·exact h.ne z hz
  ·exact hne
 ·by_cases e:i=j
  ·subst e;have hlt:=(E8.1 hy).1;rw[F2 hlt]at hz;obtain rfl:=E7 hz;exact h.sub i y w hy hw v (hs v hv)
  ·rw[Et e]at hz;exact h.sub j z w hz hw v hv
theorem rp {c:Con}{d out next:aa}(hv:bG out c)(h:Cutd d out)(hs:dG c out= .inr next):Cutd d next/\bG next c/\weight next<weight out:=by
 have hh:=eF c;unfold dG at hs;split at hs;·cases hs
 ·rename_i hk;have hkl:placeO out c<halfOf c:=(by have:=e8 (ez out c) (halfOf c);unfold placeO at hk⊢;omega);have hp:ez out c (placeO out c)=false:=gM hkl;have hv1:=hv.2 _ (az (c:=c) (k:=placeO out c) (by omega));have hv2:=hv.2 _ (az (c:=c) (k:=halfOf c+placeO out c) (by omega));have hab:varAt c (placeO out c)≠varAt c (halfOf c+placeO out c):=λe=>(by rw[ez,e]at hp;simp[gC]at hp);simp only at hs;generalize varAt c (placeO out c)=a at*;generalize varAt c (halfOf c+placeO out c)=b at*;have ha:=aj hv1.2;have hb:=aj hv2.2;have fa:=h.fine _ (ac hv1.2);have fb:=h.fine _ (ac hv2.2);generalize domAt out a=da at*;generalize domAt out b=db at*;obtain⟨x1,x2⟩:=bR fa.ok (-1048576) (aP db);obtain⟨y1,y2⟩:=bR fb.ok (av da) 1048576;generalize domCut da (-1048576) (aP db)=x at*;generalize domCut db (av da) 1048576=y at*;split at hs;·cases hs
  ·rename_i hne;split at hs;·cases hs
   ·rename_i hns;obtain rfl:=Sum.inr.inj hs;have hsx: ∀v∈vals x,v∈vals da:=λv hv=>((x2 v).1 hv).1;have hsy: ∀v∈vals y,v∈vals db:=λv hv=>((y2 v).1 hv).1;have hne':a.toNat≠b.toNat:=(by omega);have hb':(out.set a.toNat x)[b.toNat]? =some db:=(by rw[Et hne'];exact hb);refine⟨(h.set ha x1 (λe=>hne (.inl e)) hsx).set hb' y1 (λe=>hne (.inr e)) hsy,(hv.set _ _).set _ _,?_⟩;have w1:=iB x ha;have w2:=iB y hb';have l1:=w5 fa.ok x1 hsx;have l2:=w5 fb.ok y1 hsy;by_cases e1:x=da
    ·have e2:y≠db:=λe=>hns ⟨e1,e⟩;have:=l2.2 e2;subst e1;omega
    ·have:=l1.2 e1;omega
theorem mU {c:Con}{d:aa}(hv:bG d c)(hf: ∀x∈d,Fine x): ∃R N,(if []∈d then R=none else b9 (dG c) N d=some R)/\(∀out,R=some out->Cutd d out/\dG c out= .inl (some out)):=by
 by_cases he: []∈d;·exact⟨none,0,by rw[E6 he],λout h=>by cases h⟩
 ·have h0:Cutd d d:=⟨rfl,hf,λx hx e=>he (e▸hx),λi x y hx hy v hv=>by rw[hx]at hy;exact E7 hy▸hv⟩;have hst: ∀x y,(Cutd d x/\bG x c)->dG c x= .inr y->(Cutd d y/\bG y c)/\weight y<weight x:=λx y hi hs=>by
   have:=rp hi.2 hi.1 hs;exact⟨⟨this.1,this.2.1⟩,this.2.2⟩
  obtain⟨N,R,hR⟩:=yV (step:=dG c) (λx=>Cutd d x/\bG x c) weight hst d ⟨h0,hv⟩;refine⟨R,N,by rw[E4 he];exact hR,λout h=> ?_⟩;obtain⟨z,hz,hs⟩:=qk (λx=>Cutd d x/\bG x c) (λx y hi hs=>(hst x y hi hs).1) N d R ⟨h0,hv⟩ hR;have:z=out:=by
   subst h;unfold dG at hs;split at hs;·simpa using hs
   ·simp only at hs;split at hs;·simp at hs
    ·split at hs;·simpa using hs
     ·cases hs
  subst this;rw[h]at hs;exact⟨hz.1,hs⟩
set_option linter.unusedSimpArgs false
abbrev wr (n:Int):Int:=IntKind.i64.wrap n
def smallI (n:Int):Bool:=decide (-4611686018427387904<=n)&&decide (n<=4611686018427387904)
def mulI (a b:Int):Int×Bool:=if smallI a&&smallI b&&smallI (a*b)then(a*b,true)else(0,false)
def endW (d:List (Int×Int))(k:Int)(high:Bool):Int×Bool:=((mulI k (if decide (0<k)==high then aP d else av d)).1,!d.isEmpty&&(mulI k (if decide (0<k)==high then aP d else av d)).2)
def gE:List (List (Int×Int)×Int)->Int->Int->Int×Int×Bool
 | [],lo,hi=>(lo,hi,true)
 |(x,k)::ts,lo,hi=>if(endW x k false).2 then gE ts (wr (lo+(endW x k false).1)) (wr (hi+(endW x k true).1))else(0,0,false)
def ae (d:aa)(vars coefs:List Int):List (List (Int×Int)×Int):=(vars.zip coefs).map λp=>(domAt d p.1,p.2)
def endsW (d:aa)(vars coefs:List Int):Int×Int×Bool:=gE (ae d vars coefs) 0 0
def endR (d:List (Int×Int))(k:Int):Int×Int×Bool:=(min (wr (k*(dq d).1)) (wr (k*(dq d).2.1)),max (wr (k*(dq d).1)) (wr (k*(dq d).2.1)),(dq d).2.2)
def eJ:List (List (Int×Int)×Int)->Int->Int->Int×Int×Bool
 | [],lo,hi=>(lo,hi,true)
 |(x,k)::ts,lo,hi=>if(endR x k).2.2 then eJ ts (wr (lo+(endR x k).1)) (wr (hi+(endR x k).2.1))else(0,0,false)
def endsRW (d:aa)(vars coefs:List Int):Int×Int×Bool:=eJ (ae d vars coefs) 0 0
def cO (d:List (Int×Int))(k:Int):Int:=if 0<k then k*av d else k*aP d
def gD (d:List (Int×Int))(k:Int):Int:=if 0<k then k*aP d else k*av d
def bq (ts:List (List (Int×Int)×Int)):Int:=(ts.map λt=>cO t.1 t.2).sum
def eY (ts:List (List (Int×Int)×Int)):Int:=(ts.map λt=>gD t.1 t.2).sum
def aL (k:Int):Int:=max k (-k)
def ar (coefs:List Int):Int:=(coefs.map λk=>aL k*1048576).sum
theorem bA (k:Int):0<=aL k:=by unfold aL;omega
theorem eB (k x:Int)(h1: -1048576<=x)(h2:x<=1048576): -(aL k*1048576)<=k*x/\k*x<=aL k*1048576:=by
 unfold aL;by_cases hk:0<=k
 ·have e1:=FN h2 hk;have e2:=FN h1 hk;rw[show max k (-k)=k by omega];omega
 ·have hk':0<=-k:=(by omega);have e1:=FN h2 hk';have e2:=FN h1 hk';rw[Hf]at e1 e2;rw[show max k (-k)= -k by omega];rw[Hf]at e1 e2⊢;omega
theorem tP {d:List (Int×Int)}(h:Fine d)(hne:d≠[]): -1048576<=av d/\av d<=aP d/\aP d<=1048576:=by
 have h1:=gg h.ok hne;have h2:=qg h.ok hne;have:=h.val _ h1;have:=h.val _ h2;have:=oM h.ok h1;omega
theorem j6 {d:List (Int×Int)}(h:Fine d)(hne:d≠[])(k:Int): -(aL k*1048576)<=cO d k/\cO d k<=gD d k/\gD d k<=aL k*1048576:=by
 obtain⟨h1,h2,h3⟩:=tP h hne;have m1:=eB k (av d) h1 (by omega);have m2:=eB k (aP d) (by omega) h3;unfold cO gD;by_cases hk:0<k
 ·rw[E6 hk,E6 hk];have:=FN h2 (show 0<=k by omega);omega
 ·rw[E4 hk,E4 hk];have:=GZ (show k<=0 by omega) h2;omega
def CoefOk (k:Int):Prop:=k≠0/\aL k<=4398046511104
theorem j4 {k x:Int}(hk:CoefOk k)(h1: -1048576<=x)(h2:x<=1048576):mulI k x=(k*x,true):=by
 have m:=eB k x h1 h2;have h3:=hk.2;unfold mulI smallI;have e:aL k=max k (-k):=rfl;rw[E6];simp only[EL,ER];omega
theorem oR {d:List (Int×Int)}{k:Int}(h:Fine d)(hne:d≠[])(hk:CoefOk k):endW d k false=(cO d k,true)/\endW d k true=(gD d k,true):=by
 obtain⟨h1,h2,h3⟩:=tP h hne;have hb:d.isEmpty=false:=by cases d with
  |nil=>exact EX Y hne
  |cons r d=>rfl
 unfold endW cO gD;rw[hb];by_cases hp:0<k
 ·rw[EF hp,E6 hp,E6 hp];simp only[Bool.not_false,Fe,beq_self_eq_true,if_true];rw[E4 (by decide),j4 hk h1 (by omega),j4 hk (by omega) h3];exact⟨rfl,rfl⟩
 ·rw[EE hp,E4 hp,E4 hp];simp only[Bool.not_false,Fe,beq_self_eq_true,if_true];rw[E4 (by decide),j4 hk h1 (by omega),j4 hk (by omega) h3];exact⟨rfl,rfl⟩
theorem x4 (k:Int)(hk:CoefOk k)(high:Bool):endW [] k high=(0,false):=by
 unfold endW;have:mulI k 0=(0,true):=(by have:=j4 hk (x:=0) (by decide) (by decide);simpa using this);simp only[aP,av,List.getLast?_nil,ite_self,this];rfl
theorem oS {d:List (Int×Int)}{k:Int}(h:Fine d)(hne:d≠[])(hk:CoefOk k):endR d k=(cO d k,gD d k,true):=by
 obtain⟨h1,h2,h3⟩:=tP h hne;have m1:=eB k (av d) h1 (by omega);have m2:=eB k (aP d) (by omega) h3;have h4:=hk.2;unfold endR wr;rw[qC h.ok hne];simp only;rw[af (by omega) (by omega),af (by omega) (by omega)];unfold cO gD;by_cases hp:0<k
 ·rw[E6 hp,E6 hp];have:=FN h2 (show 0<=k by omega);rw[show min (k*av d) (k*aP d)=k*av d by omega,show max (k*av d) (k*aP d)=k*aP d by omega]
 ·rw[E4 hp,E4 hp];have:=GZ (show k<=0 by omega) h2;rw[show min (k*av d) (k*aP d)=k*aP d by omega,show max (k*av d) (k*aP d)=k*av d by omega]
theorem x5 (k:Int):(endR [] k).2.2=false:=rfl
def eR (ts:List (List (Int×Int)×Int)):Prop:= ∀t∈ts,Fine t.1/\CoefOk t.2
def aV (ts:List (List (Int×Int)×Int)):Int:=ar (ts.map (·.2))
theorem cg (t:List (Int×Int)×Int)(ts):aV (t::ts)=aL t.2*1048576+aV ts:=by simp[aV,ar]
theorem c7: ∀ts,0<=aV ts
 | []=>by simp[aV,ar]
 |t::ts=>by
  rw[cg];have:=c7 ts;have:=bA t.2;omega
theorem lJ: ∀{ts:List (List (Int×Int)×Int)},eR ts->(∀t∈ts,t.1≠[])->-aV ts<=bq ts/\bq ts<=eY ts/\eY ts<=aV ts
 | [],_,_=>by simp[aV,ar,bq,eY]
 |t::ts,h,hne=>by
  obtain⟨h1,h2,h3⟩:=lJ (ts:=ts) (λt ht=>h t (.tail _ ht)) (λt ht=>hne t (.tail _ ht));obtain⟨h4,h5,h6⟩:=j6 (h t (.head _)).1 (hne t (.head _)) t.2;rw[cg];simp only[bq,eY,Ek,FX]at h1 h2 h3⊢;omega
theorem ix: ∀{ts:List (List (Int×Int)×Int)} (lo hi:Int),eR ts->(∀t∈ts,t.1≠[])->-4611686018427388928<=lo-aV ts->lo+aV ts<=4611686018427388928->-4611686018427388928<=hi-aV ts->hi+aV ts<=4611686018427388928->gE ts lo hi=(lo+bq ts,hi+eY ts,true)
 | [],lo,hi,_,_,_,_,_,_=>by simp[gE,bq,eY]
 |(x,k)::ts,lo,hi,h,hne,h1,h2,h3,h4=>by
  obtain⟨hf,hk⟩:=h _ (.head _);have hx:=hne _ (.head _);obtain⟨e1,e2⟩:=oR hf hx hk;obtain⟨b1,b2,b3⟩:=j6 hf hx k;have hp:=c7 ts;rw[cg]at h1 h2 h3 h4;simp only at h1 h2 h3 h4 e1 e2 b1 b2 b3;rw[gE,e1,e2,E6 Y];simp only[wr];rw[af (by omega) (by omega),af (by omega) (by omega),ix _ _ (λt ht=>h t (.tail _ ht)) (λt ht=>hne t (.tail _ ht)) (by omega) (by omega) (by omega) (by omega)];simp only[bq,eY,Ek,FX,Prod.mk.injEq,and_true];omega
theorem qD: ∀{ts:List (List (Int×Int)×Int)} (lo hi:Int),eR ts->(∀t∈ts,t.1≠[])->-4611686018427388928<=lo-aV ts->lo+aV ts<=4611686018427388928->-4611686018427388928<=hi-aV ts->hi+aV ts<=4611686018427388928->eJ ts lo hi=(lo+bq ts,hi+eY ts,true)
 | [],lo,hi,_,_,_,_,_,_=>by simp[eJ,bq,eY]
 |(x,k)::ts,lo,hi,h,hne,h1,h2,h3,h4=>by
  obtain⟨hf,hk⟩:=h _ (.head _);have hx:=hne _ (.head _);have e1:=oS hf hx hk;obtain⟨b1,b2,b3⟩:=j6 hf hx k;have hp:=c7 ts;rw[cg]at h1 h2 h3 h4;simp only at h1 h2 h3 h4 e1 b1 b2 b3;rw[eJ,e1,E6 Y];simp only[wr];rw[af (by omega) (by omega),af (by omega) (by omega),qD _ _ (λt ht=>h t (.tail _ ht)) (λt ht=>hne t (.tail _ ht)) (by omega) (by omega) (by omega) (by omega)];simp only[bq,eY,Ek,FX,Prod.mk.injEq,and_true];omega
theorem mA: ∀{ts:List (List (Int×Int)×Int)} (lo hi:Int),eR ts->(∃t∈ts,t.1=[])->gE ts lo hi=(0,0,false)/\eJ ts lo hi=(0,0,false)
 | [],lo,hi,_,h=>by obtain⟨t,ht,_⟩:=h;cases ht
 |(x,k)::ts,lo,hi,h,he=>by
  obtain⟨hf,hk⟩:=h _ (.head _);by_cases hx:x=[]
  ·subst hx;rw[gE,eJ,x4 k hk,x5];exact⟨rfl,rfl⟩
  ·obtain⟨e1,e2⟩:=oR hf hx hk;have e3:=oS hf hx hk;simp only at e1 e2 e3;rw[gE,eJ,e1,e2,e3,E6 Y,E6 Y];refine mA _ _ (λt ht=>h t (.tail _ ht)) ?_;obtain⟨t,ht,e⟩:=he;cases ht with
   |head=>exact EX e hx
   |tail _ ht=>exact⟨t,ht,e⟩
theorem Ao {ts:List (List (Int×Int)×Int)}(h:eR ts)(hw:aV ts<=4611686018427388928):gE ts 0 0=eJ ts 0 0:=by
 by_cases he: ∃t∈ts,t.1=[]
 ·obtain⟨h1,h2⟩:=mA 0 0 h he;rw[h1,h2]
 ·have hne: ∀t∈ts,t.1≠[]:=λt ht e=>he ⟨t,ht,e⟩;rw[ix 0 0 h hne (by omega) (by omega) (by omega) (by omega),qD 0 0 h hne (by omega) (by omega) (by omega) (by omega)]
set_option maxRecDepth 8000
theorem gR (l:List Int)(hl:l.length*8<=140737488355328):Spec Tryz.prog 152 false [aq l] [.val (.bool (l.all smallI))]:=by
 refine Spec.body Tryz.func152 Y Y Y λw0 Z0=> ?_;refine .B ?_;refine T.K (T.ind (λi:Nat=>⟨[(5,.val false (aq l)),(6,.val true (.int .i64 (l.map cI).length)),(7,.val true (.int .i64 i))],[],0⟩) (λi=>i<=l.length/\(l.take i).all smallI=true) (λi=>l.length-i) 0 (by simp) (λ_ _ h=>h) ?_);rintro i ⟨hi,hd⟩ ih;refine .B ?_;refine T.cd Y (λh1=> ?_) (λh1=> ?_)
 ·have h1:i<l.length:=(by simpa using h1);have hno:smallI l[i]=false->l.all smallI=false:=λh=>by
   cases h2:l.all smallI with
   |false=>rfl
   |true=>rw[EN.1 h2 _ (EA h1)]at h;cases h
  refine .B ?_;refine .F (r:=cI l[i]) (ax h1) ?_;refine J.g Y Y Y (λh2=> ?_) (λh2=> ?_)
  ·refine .B ?_;refine T.ct Y ?_;refine .B ?_;exact⟨_,.v Y Y (by rw[hno];simp[smallI];omega) (λ_=>rfl) .nil⟩
  ·refine .B ?_;refine T.cd Y (λh3=> ?_) (λh3=> ?_)
   ·refine .B ?_;exact⟨_,.v Y Y (by rw[hno];simp[smallI];omega) (λ_=>rfl) .nil⟩
   ·refine .B ?_;rw[ai (l:=l.length) (by omega) (by omega)];refine T.K (ih (i+1) ⟨by omega,?_⟩ (by omega));rw[ED h1,Ft,hd];simp[smallI];omega
 ·have h1:i=l.length:=(by simp at h1;omega);subst h1;rw[Ep]at hd;refine .B ?_;exact⟨_,.v Y Y (by rw[hd]) (λ_=>rfl) .nil⟩
theorem rc (n:Int):IntKind.u64.wrap n=n % 18446744073709551616:=by simp[IntKind.wrap,IntKind.bits,IntKind.signed]
theorem qm (n:Int)(h: -9223372036854775808<=n)(h2:n<=9223372036854775807):Spec Tryz.prog 154 false [.int .i64 n] [.val (.int .u64 ((n.natAbs:Nat):Int))]:=by
 refine Spec.body Tryz.func154 Y Y Y λw0 Z0=> ?_;refine .B ?_;refine T.cd Y (λh3=> ?_) (λh3=> ?_)
 ·have h3:n<0:=h3;refine .B ?_;exact⟨_,.v Y Y (by rw[rc,rc];congr 1;omega) (λ_=>rfl) .nil⟩
 ·have h3: ¬n<0:=h3;refine .B ?_;exact⟨_,.v Y Y (by rw[rc];congr 1;omega) (λ_=>rfl) .nil⟩
theorem Bw (a:Nat)(ha:a<18446744073709551616):IntKind.u64.wrap (BitVec.ofInt IntKind.u64.bits (a:Int) &&& BitVec.ofInt IntKind.u64.bits 4294967295).toNat=((a % 4294967296:Nat):Int):=by
 have e:(BitVec.ofInt IntKind.u64.bits (a:Int) &&& BitVec.ofInt IntKind.u64.bits 4294967295).toNat=a % 4294967296:=by
  rw[BitVec.toNat_and];have e1:(BitVec.ofInt IntKind.u64.bits (a:Int)).toNat=a:=by
   rw[BitVec.toNat_ofInt];have:((2 ^ IntKind.u64.bits:Nat):Int)=18446744073709551616:=rfl;rw[this];omega
  have e2:(BitVec.ofInt IntKind.u64.bits 4294967295).toNat=2 ^ 32-1:=rfl;rw[e1,e2,Nat.and_two_pow_sub_one_eq_mod]
 rw[e,rc];omega
theorem Ec (a:Nat):((a:Int)).fdiv (2 ^ (min (32:Int).toNat IntKind.u64.bits))=((a / 4294967296:Nat):Int):=by
 have:(2:Int) ^ (min (32:Int).toNat IntKind.u64.bits)=4294967296:=rfl;rw[this,Int.fdiv_eq_ediv_of_nonneg _ (by decide)];omega
theorem DN (a b:Nat):(a:Int)*(b:Int)=((a*b:Nat):Int):=(ID a b).symm
theorem Eb (a b:Nat):(a:Int)+(b:Int)=((a+b:Nat):Int):=(Int.natCast_add a b).symm
theorem nC (a:Nat)(ha:a<18446744073709551616):IntKind.u64.wrap (a:Int)=(a:Int):=by rw[rc];omega
theorem Du (a:Nat):IntKind.u64.wrap (a:Int)=((a % 18446744073709551616:Nat):Int):=by rw[rc];omega
theorem xI (x y:Nat)(hx:x<18446744073709551616)(hy:y<18446744073709551616):Spec Tryz.prog 153 false [.int .u64 (x:Int),.int .u64 (y:Int)] [.val (.int .u64 ((x*y / 18446744073709551616:Nat):Int)),.val (.int .u64 ((x*y % 18446744073709551616:Nat):Int))]:=by
 obtain⟨bd,bt,bw,hhi⟩:=Lib.mul64_hi x y hx hy;have ba:=Lib.half_mul_le (a:=x / 4294967296) (b:=y / 4294967296) (by omega) (by omega);have bb:=Lib.half_mul_le (a:=x / 4294967296) (b:=y % 4294967296) (by omega) (by omega);have bc:=Lib.half_mul_le (a:=x % 4294967296) (b:=y / 4294967296) (by omega) (by omega);have ba':x / 4294967296*(y / 4294967296)<18446744073709551616:=(by omega);have bb':x / 4294967296*(y % 4294967296)<18446744073709551616:=(by omega);have bc':x % 4294967296*(y / 4294967296)<18446744073709551616:=(by omega);have bh1:x / 4294967296*(y / 4294967296)+(x / 4294967296*(y % 4294967296)+x % 4294967296*(y % 4294967296) / 4294967296) / 4294967296<18446744073709551616:=(by omega);have bh:x / 4294967296*(y / 4294967296)+(x / 4294967296*(y % 4294967296)+x % 4294967296*(y % 4294967296) / 4294967296) / 4294967296+((x / 4294967296*(y % 4294967296)+x % 4294967296*(y % 4294967296) / 4294967296) % 4294967296+x % 4294967296*(y / 4294967296)) / 4294967296<18446744073709551616:=by
  generalize (x / 4294967296)*(y / 4294967296)=a at*;generalize (x / 4294967296)*(y % 4294967296)=b at*;generalize (x % 4294967296)*(y / 4294967296)=c at*;generalize (x % 4294967296)*(y % 4294967296)=d at*;omega
 refine Spec.body Tryz.func153 Y Y Y λw0 Z0=> ?_;refine .B ?_;refine⟨_,.v Y Y ?_ (λ_=>rfl) (.v Y Y ?_ (λ_=>rfl) .nil)⟩
 ·simp only[Bw x hx,Bw y hy,Ec,DN,Eb,nC _ bd,nC _ bb',nC _ bt,Bw _ bt,nC _ bc',nC _ bw,nC _ ba',nC _ bh1,nC _ bh];rw[hhi]
 ·rw[DN,Du]
theorem np (a b:Int)(ha1: -9223372036854775808<=a)(ha2:a<=9223372036854775807)(hb1: -9223372036854775808<=b)(hb2:b<=9223372036854775807):
  Spec Tryz.prog 120 false [.int .i64 a,.int .i64 b] [.val (.int .i64 (mulI a b).1),.val (.bool (mulI a b).2)]:=by
 refine Spec.body Tryz.func120 Y Y Y λw0 Z0=> ?_;have hs:=gR [a,b] (by simp);refine .B ?_;refine .V ?_;refine .D hs ?_;refine T.cond Y (λh=> ?_) (λh=> ?_)
 ·have e:mulI a b=(0,false):=by
   unfold mulI;rw[E4];intro h2;simp at h h2;rcases h with h|h;·rw[h2.1.1]at h;cases h
   ·rw[h2.1.2]at h;cases h
  rw[e];refine .B ?_;exact r2
 ·have hsa:smallI a=true/\smallI b=true:=(by simpa using h);obtain⟨hsa,hsb⟩:=hsa;have ha: -4611686018427387904<=a/\a<=4611686018427387904:=(by simpa[smallI]using hsa);have hb: -4611686018427387904<=b/\b<=4611686018427387904:=(by simpa[smallI]using hsb);have hm:=xI a.natAbs b.natAbs (by omega) (by omega);have hab:(a*b).natAbs=a.natAbs*b.natAbs:=Int.natAbs_mul a b;have hp1:(a<0)≠(b<0)->a*b<=0:=by
   intro hne;by_cases h1:a<0
   ·have h2: ¬b<0:=λh2=>hne (by simp[h1,h2]);exact Int.mul_nonpos_of_nonpos_of_nonneg (by omega) (by omega)
   ·have h2:b<0:=by
     by_cases h2:b<0;·exact h2
     ·exact EX (by simp[h1,h2]) hne
    exact Int.mul_nonpos_of_nonneg_of_nonpos (by omega) (by omega)
  have hp2:(a<0)=(b<0)->0<=a*b:=by
   intro heq;by_cases h1:a<0
   ·have h2:b<0:=(by rw[<-heq];exact h1);exact Int.mul_nonneg_of_nonpos_of_nonpos (by omega) (by omega)
   ·have h2: ¬b<0:=(by rw[<-heq];exact h1);exact Int.mul_nonneg (by omega) (by omega)
  have hmi:mulI a b=if smallI (a*b)then(a*b,true)else(0,false):=by simp[mulI,hsa,hsb]
  rw[hmi];rw[<-hab]at hm;clear hab hmi;generalize a*b=p at*;refine .B ?_;refine .D (qm a ha1 ha2) ?_;refine .C (qm b hb1 hb2) ?_;refine .D hm ?_;refine J.g Y Y Y (λh4=> ?_) (λh4=> ?_)
  ·have h4:((p.natAbs / 18446744073709551616:Nat):Int)≠0:=h4;refine .B ?_;refine T.ct Y ?_;have e:smallI p=false:=(by simp[smallI];omega);rw[e];refine .B ?_;exact r2
  ·have h4: ¬((p.natAbs / 18446744073709551616:Nat):Int)≠0:=h4;refine .B ?_;refine T.cd Y (λh5=> ?_) (λh5=> ?_)
   ·have h5:((p.natAbs % 18446744073709551616:Nat):Int) > 4611686018427387904:=h5;have e:smallI p=false:=(by simp[smallI];omega);rw[e];refine .B ?_;exact r2
   ·have h5: ¬((p.natAbs % 18446744073709551616:Nat):Int) > 4611686018427387904:=h5;have e:smallI p=true:=(by simp[smallI];omega);rw[e];refine .B ?_;refine T.cond Y (λh6=> ?_) (λh6=> ?_)
    ·have h7:=hp1 (by intro e;simp[e]at h6);refine .B ?_;exact⟨_,.v Y Y (by simp only[if_true];rw[af (n:=((p.natAbs % 18446744073709551616:Nat):Int)) (by omega) (by omega),af (by omega) (by omega)];congr 1;omega) (λ_=>rfl) (.v Y Y Y (λ_=>rfl) .nil)⟩
    ·have h7:=hp2 (by
      by_cases h1:a<0<;>by_cases h2:b<0<;>simp[h1,h2]at h6⊢)
     refine .B ?_;exact⟨_,.v Y Y (by simp only[if_true];rw[af (by omega) (by omega)];congr 1;omega) (λ_=>rfl) (.v Y Y Y (λ_=>rfl) .nil)⟩
theorem BU {d:List (Int×Int)}(h:InB d): -1048576<=av d/\av d<=1048576/\-1048576<=aP d/\aP d<=1048576:=by
 constructor
 ·cases d with
  |nil=>simp[av]
  |cons r d=>exact(h r (.head _)).1
 ·constructor
  ·cases d with
   |nil=>simp[av]
   |cons r d=>exact(h r (.head _)).2.1
  ·unfold aP;cases hl:d.getLast? with
   |none=>simp
   |some r=>
    have:=h r (He hl);exact⟨this.2.2.1,this.2.2.2⟩
theorem fI {k:Int}(h:CoefOk k): -4398046511104<=k/\k<=4398046511104:=by
 have:=h.2;unfold aL at this;omega
theorem j8 (d:List (Int×Int))(k:Int)(high:Bool)(hd:DomB d)(hk:CoefOk k):Spec Tryz.prog 233 false [dm d,.int .i64 k,.bool high] [.val (.int .i64 (endW d k high).1),.val (.bool (endW d k high).2)]:=by
 refine Spec.body Tryz.func233 Y Y Y λw0 Z0=> ?_;obtain⟨h1,h2,h3,h4⟩:=BU hd.1;have hk2:=fI hk;refine T.seq ?_;refine T.r ?_
 repeat' first|refine J.e Y Y Y Y ?_|refine J.skip Y Y Y ?_|refine J.bx Y Y Y Y Y Y ?_
 refine J.nil ?_;refine T.seq ?_;refine T.r ?_
 repeat' first|refine J.e Y Y Y Y ?_|refine J.skip Y Y Y ?_|refine J.bx Y Y Y Y Y Y ?_
 refine .C (ly d) ?_
 repeat' first|refine J.e Y Y Y Y ?_|refine J.skip Y Y Y ?_|refine J.bx Y Y Y Y Y Y ?_
 refine J.nil ?_;refine T.mid ⟨[(1,.val false (.int .i64 k)),(8,.val true (.int .i64 (if decide (0<k)==high then aP d else av d))),(9,.val true (.bool (!d.isEmpty)))],[],0⟩ ?_ ?_
 ·refine .B ?_;refine T.cond Y (λh=> ?_) (λh=> ?_)
  ·have h:(decide (0<k)==high)=true:=h;rw[E6 h];refine .B ?_;refine .D (rS d (by have:=hd.2.2;omega)) ?_;exact⟨rfl,[1,8,9],[],rfl,rfl⟩
  ·have h:(decide (0<k)==high)=false:=h;rw[h];refine .B ?_;exact⟨rfl,[1,8,9],[],rfl,rfl⟩
 ·have hm:=np k (if decide (0<k)==high then aP d else av d) (by omega) (by omega) (by split<;>omega) (by split<;>omega);unfold endW;generalize (if decide (0<k)==high then aP d else av d)=x at*;generalize mulI k x=m at*;refine .B ?_;refine .D hm ?_;refine J.gb Y Y Y (λh=> ?_) (λh=> ?_)
  ·rw[h];refine .B ?_;exact⟨_,.v Y Y Y (λ_=>rfl) (.v Y Y (by simp) (λ_=>rfl) .nil)⟩
  ·rw[h];refine .B ?_;exact r2
structure SumIn (d:aa)(vars coefs:List Int):Prop where
 len:vars.length=coefs.length
 vl:vars.length*8<=140737488355328
 vin: ∀v∈vars,0<=v/\v.toNat<d.length
 ck: ∀k∈coefs,CoefOk k
 dom: ∀x∈d,DomB x
 dl:d.length*24<=140737488355328
theorem gj {d:aa}{vars coefs:List Int}{i:Nat}(h1:i<vars.length)(h2:i<coefs.length):(ae d vars coefs).drop i=(domAt d vars[i],coefs[i])::(ae d vars coefs).drop (i+1):=by
 have hl:i<(ae d vars coefs).length:=(by simp[ae];omega);rw[EP hl];simp[ae]
theorem ic {d:aa}{vars coefs:List Int}(h:vars.length=coefs.length):(ae d vars coefs).drop vars.length=[]:=by
 refine Fb ?_;simp[ae];omega
theorem qf (d:aa)(vars coefs:List Int)(h:SumIn d vars coefs):Spec Tryz.prog 234 false [ao d,aq vars,aq coefs] [.val (.int .i64 (endsW d vars coefs).1),.val (.int .i64 (endsW d vars coefs).2.1),.val (.bool (endsW d vars coefs).2.2)]:=by
 refine Spec.body Tryz.func234 Y Y Y λw0 Z0=> ?_;obtain⟨hlen,hvl,hvin,hck,hdom,hdl⟩:=h;refine .B ?_;refine T.K (T.ind (λs:Nat×Int×Int=>⟨[(0,.val false (ao d)),(2,.val false (aq coefs)),(9,.val true (.int .i64 s.2.1)),(10,.val true (.int .i64 s.2.2)),(17,.val false (aq vars)),(18,.val true (.int .i64 (vars.map cI).length)),(19,.val true (.int .i64 s.1))],[],0⟩)
  (λs=>s.1<=vars.length/\gE ((ae d vars coefs).drop s.1) s.2.1 s.2.2=endsW d vars coefs) (λs=>vars.length-s.1) (0,0,0) ⟨by simp,rfl⟩ (λ_ _ h=>h) ?_)
 rintro⟨i,lo,hi⟩ ⟨hil,he⟩ ih;simp only at hil he;dsimp only;refine .B ?_;refine T.cd Y (λh1=> ?_) (λh1=> ?_)
 ·have h1:i<vars.length:=(by simpa using h1);have h2:i<coefs.length:=(by omega);have hv:=hvin _ (EA h1);have hk:=hck _ (EA h2);have hx:=hdom _ (ac hv.2);have hrow:(d.map cD)[vars[i].toNat]? =some (cD (domAt d vars[i])):=(by simp[aj hv.2]);rw[gj h1 h2,gE]at he;refine .B ?_;refine .F (r:=cI vars[i]) (ax h1) ?_;refine J.i Y Y Y Y Y Y Y Y Y (r:=cD (domAt d vars[i])) hv.1 hrow Y ?_;refine .B ?_;refine .F (r:=cI coefs[i]) (ax h2) ?_;refine J.cc Y Y Y Y Y (j8 _ _ false hx hk) Y Y ?_;refine .B ?_;refine J.i Y Y Y Y Y Y Y Y Y (r:=cD (domAt d vars[i])) hv.1 hrow Y ?_;refine .B ?_;refine .F (r:=cI coefs[i]) (ax h2) ?_;refine J.cc Y Y Y Y Y (j8 _ _ true hx hk) Y Y ?_;generalize endW (domAt d vars[i]) coefs[i] false=e1 at*;generalize endW (domAt d vars[i]) coefs[i] true=e2 at*;obtain⟨n1,b1⟩:=e1;refine .B ?_;cases b1
  ·simp only[FC,if_false]at he;refine .B ?_;refine T.ct Y ?_;refine .B ?_;exact⟨_,.v Y Y (by rw[<-he]) (λ_=>rfl) (.v Y Y (by rw[<-he]) (λ_=>rfl) (.v Y Y (by rw[<-he]) (λ_=>rfl) .nil))⟩
  ·simp only[if_true]at he;refine .B ?_;refine T.cf Y ?_;refine .B ?_;rw[ai (l:=vars.length) (by omega) (by omega)];exact T.K (ih (i+1,wr (lo+n1),wr (hi+e2.1)) ⟨by simp only;omega,he⟩ (by simp only;omega))
 ·have h1:i=vars.length:=(by simp at h1;omega);subst h1;rw[ic hlen]at he;refine .B ?_;exact⟨_,.v Y Y (by rw[<-he];rfl) (λ_=>rfl) (.v Y Y (by rw[<-he];rfl) (λ_=>rfl) (.v Y Y (by rw[<-he];rfl) (λ_=>rfl) .nil))⟩
theorem rC (d:List (Int×Int))(k:Int)(hd:DomB d):Spec Tryz.prog 236 false [dm d,.int .i64 k] [.val (.int .i64 (endR d k).1),.val (.int .i64 (endR d k).2.1),.val (.bool (endR d k).2.2)]:=by
 refine Spec.body Tryz.func236 Y Y Y λw0 Z0=> ?_;refine .B ?_;refine .D (nw d hd) ?_;exact⟨_,.v Y Y Y (λ_=>rfl) (.v Y Y Y (λ_=>rfl) (.v Y Y Y (λ_=>rfl) .nil))⟩
theorem xk (d:aa)(vars coefs:List Int)(h:SumIn d vars coefs):Spec Tryz.prog 243 false [ao d,aq vars,aq coefs] [.val (.int .i64 (endsRW d vars coefs).1),.val (.int .i64 (endsRW d vars coefs).2.1),.val (.bool (endsRW d vars coefs).2.2)]:=by
 refine Spec.body Tryz.func243 Y Y Y λw0 Z0=> ?_;obtain⟨hlen,hvl,hvin,hck,hdom,hdl⟩:=h;refine .B ?_;refine T.K (T.ind (λs:Nat×Int×Int=>⟨[(0,.val false (ao d)),(1,.val false (aq vars)),(2,.val false (aq coefs)),(9,.val true (.int .i64 s.2.1)),(10,.val true (.int .i64 s.2.2)),(11,.val true (.int .i64 s.1))],[],0⟩)
  (λs=>s.1<=vars.length/\eJ ((ae d vars coefs).drop s.1) s.2.1 s.2.2=endsRW d vars coefs) (λs=>vars.length-s.1) (0,0,0) ⟨by simp,rfl⟩ (λ_ _ h=>h) ?_)
 rintro⟨i,lo,hi⟩ ⟨hil,he⟩ ih;simp only at hil he;dsimp only;refine .B ?_;refine T.cd Y (λh1=> ?_) (λh1=> ?_)
 ·have h1:i<vars.length:=(by simpa using h1);have h2:i<coefs.length:=(by omega);have hv:=hvin _ (EA h1);have hx:=hdom _ (ac hv.2);have hrow:(d.map cD)[vars[i].toNat]? =some (cD (domAt d vars[i])):=(by simp[aj hv.2]);rw[gj h1 h2,eJ]at he;refine .B ?_;refine .F (r:=cI vars[i]) (ax h1) ?_;refine J.i Y Y Y Y Y Y Y Y Y (r:=cD (domAt d vars[i])) hv.1 hrow Y ?_;refine .B ?_;refine .F (r:=cI coefs[i]) (ax h2) ?_;refine J.cc Y Y Y Y Y (rC _ coefs[i] hx) Y Y ?_;generalize endR (domAt d vars[i]) coefs[i]=e1 at*;obtain⟨n1,n2,b1⟩:=e1;cases b1
  ·simp only[FC,if_false]at he;refine .B ?_;refine T.ct Y ?_;refine .B ?_;exact⟨_,.v Y Y (by rw[<-he]) (λ_=>rfl) (.v Y Y (by rw[<-he]) (λ_=>rfl) (.v Y Y (by rw[<-he]) (λ_=>rfl) .nil))⟩
  ·simp only[if_true]at he;refine .B ?_;refine T.cf Y ?_;refine .B ?_;rw[ai (l:=vars.length) (by omega) (by omega)];exact T.K (ih (i+1,wr (lo+n1),wr (hi+n2)) ⟨by simp only;omega,he⟩ (by simp only;omega))
 ·have h1:i=vars.length:=(by simp at h1;omega);subst h1;rw[ic hlen]at he;refine .B ?_;exact⟨_,.v Y Y (by rw[<-he];rfl) (λ_=>rfl) (.v Y Y (by rw[<-he];rfl) (λ_=>rfl) (.v Y Y (by rw[<-he];rfl) (λ_=>rfl) .nil))⟩
theorem zW (d:aa)(hl:d.length*24<=140737488355328)(hx: ∀x∈d,x.length*16<=140737488355328):Spec Tryz.prog 199 false [ao d] [.own 54 1 ((if []∈d then []else d).map cD),.val (.bool (!decide ([]∈d)))]:=by
 refine Spec.body Tryz.func199 Y Y Y λw0 Z0=> ?_;refine .B ?_;refine T.sub (Rel.own0 (s:=4) 54 1 Y) ?_;refine T.K (T.listI d (λpre=>[]∉pre) (λn pre post=>⟨[(4,.ref 0),(7,.val false (ao d)),(8,.val true (.int .i64 (d.map cD).length)),(9,.val true (.int .i64 n))],[(0,some (.sl 54 1 true (pre.map cD)))],1⟩) (λ_ _ h=>h) (by simp) ?_ ?_)
 ·rintro n pre x post h hn hi ih;have hlt:=bW h hn;have hxl:=hx x (by rw[h];simp);refine .B ?_;refine T.ct2 Y (bV h hn) ?_;refine .B ?_;refine .F (r:=cD x) (aM h hn) ?_;refine T.cd Y (λh1=> ?_) (λh1=> ?_)
  ·have hx:x=[]:=(by simp at h1;exact h1);have hm: []∈d:=(by rw[h,hx];simp);rw[E6 hm,EF hm];refine .B ?_;exact⟨_,.ownN Y (.v Y Y Y (λ_=>rfl) .nil)⟩
  ·have hx:x≠[]:=λe=>h1 (by rw[e];rfl);refine .B ?_;refine .D (bT x (by omega)).frz ?_;refine .Z ?_;refine J.aD Y Y Y Y Y Y Y Y Y Y Y Y Y Y Y Y Y Y Y (by omega) ?_;refine .B ?_;rw[ai hlt (by omega)];exact T.K (ih (by simp[hi,Ne.symm hx]))
 ·intro hi;refine .B ?_;refine T.cf2 Y bj ?_;refine .B ?_;exact⟨_,.o Y Y (by rw[E4 hi]) (λ_=> .inl Y) (by simp) (.v rfl rfl (by simp[hi]) (λ_=>rfl) .nil)⟩
def g8 (a b:Int):Int:=if a.tmod b<0 then wr (wr (a.tdiv b)-1)else wr (a.tdiv b)
theorem qw (a b:Int)(hb:b≠0):Spec Tryz.prog 235 false [.int .i64 a,.int .i64 b] [.val (.int .i64 (g8 a b))]:=by
 refine Spec.body Tryz.func235 Y Y Y λw0 Z0=> ?_;unfold g8;refine .B ?_;refine J.qu Y Y Y Y Y Y hb ?_;refine .B ?_;refine J.rm Y Y Y Y Y Y hb ?_;refine .B ?_;refine T.cd Y (λh=> ?_) (λh=> ?_)
 ·have h:a.tmod b<0:=h;refine .B ?_;exact⟨_,.v Y Y (by rw[E6 h]) (λ_=>rfl) .nil⟩
 ·have h: ¬a.tmod b<0:=h;refine .B ?_;exact⟨_,.v Y Y (by rw[E4 h]) (λ_=>rfl) .nil⟩
def aw (l:List Int):List Int:=l.map λk=>wr (0-k)
theorem l7 (l:List Int)(hl:l.length*8<=140737488355328):Spec Tryz.prog 201 false [aq l] [.own 3 1 ((aw l).map cI)]:=by
 refine Spec.body Tryz.func201 Y Y Y λw0 Z0=> ?_;refine .B ?_;refine T.sub (Rel.own0 (s:=3) 3 1 Y) ?_;refine T.K (T.list l (λn pre post=>⟨[(3,.ref 0),(6,.val false (aq l)),(7,.val true (.int .i64 (l.map cI).length)),(8,.val true (.int .i64 n))],[(0,some (.sl 3 1 true ((aw pre).map cI)))],1⟩) (λ_ _ h=>h) ?_ ?_)
 ·rintro n pre x post h hn ih;have hlt:=bW h hn;refine .B ?_;refine T.ct2 Y (bV h hn) ?_;refine .B ?_;refine .F (r:=cI x) (aM h hn) ?_;refine .V ?_;refine J.aI Y Y Y Y Y Y Y Y Y Y Y Y Y Y Y Y Y Y Y (by simp[aw];omega) ?_;refine .B ?_;rw[ai hlt (by omega),show aw pre++[IntKind.i64.wrap (0-x)]=aw (pre++[x])by simp[aw]];exact T.K ih
 ·refine .B ?_;refine T.cf2 Y bj ?_;refine .B ?_;exact⟨_,.o Y Y Y (λ_=> .inl Y) (by simp) .nil⟩
theorem lQ (l:List Int)(hl:l.length*8<=140737488355328):Spec Tryz.prog 206 false [aq l] [.own 3 1 ((aw l).map cI)]:=by
 refine Spec.body Tryz.func206 Y Y Y λw0 Z0=> ?_;refine .B ?_;refine .Q ?_;refine T.K (T.list l (λn pre post=>⟨[(0,.val false (aq l)),(3,.ref 0),(4,.val true (.int .i64 n))],[(0,some (.sl 3 1 true ((aw pre).map cI)))],1⟩) (λ_ _ h=>h) ?_ ?_)
 ·rintro n pre x post h hn ih;have hlt:=bW h hn;refine .B ?_;refine T.ct2 Y (bV h hn) ?_;refine .B ?_;refine .F (r:=cI x) (aM h hn) ?_;refine .V ?_;refine J.aI Y Y Y Y Y Y Y Y Y Y Y Y Y Y Y Y Y Y Y (by simp[aw];omega) ?_;refine .B ?_;rw[ai hlt (by omega),show aw pre++[IntKind.i64.wrap (0-x)]=aw (pre++[x])by simp[aw]];exact T.K ih
 ·refine .B ?_;refine T.cf2 Y bj ?_;refine .B ?_;exact⟨_,.o Y Y Y (λ_=> .inl Y) (by simp) .nil⟩
theorem ef (l:List Int)(hl:l.length*8<=140737488355328):Spec Tryz.prog 79 false [aq l] [.own 3 1 (l.map cI)]:=by
 refine Spec.body Tryz.func79 Y Y Y λw0 Z0=> ?_;refine .B ?_;refine J.nc Y Y Y Y Y Y Y λb hb=> ?_;refine .B ?_;cases b
 ·refine T.cf Y ?_;refine .B ?_;refine .Q ?_;refine J.a Y Y Y Y Y Y Y Y Y Y Y Y Y Y Y Y Y jE (by show(0+List.length _)*8<=_;simp;omega) ?_;refine .B ?_;exact⟨_,.o Y Y Y (λ_=> .inr xX) (by simp) .nil⟩
 ·have:l=[]:=(by simpa using hb Y);subst this;refine T.ct Y ?_;refine .B ?_;exact⟨_,.ownN Y .nil⟩
theorem jT (d:aa)(hl:d.length*8<=140737488355328):Spec Tryz.prog 203 true [ao d] ([ao (if []∈d then []else d),.bool (!decide ([]∈d))].map .val):=by
 refine Spec.body Tryz.func203 Y Y Y λw0 Z0=> ?_;refine .B ?_;refine .D (dN d hl) ?_;by_cases hm: []∈d
 ·rw[E6 hm,EF hm];refine T.ct Y ?_;refine .B ?_;exact⟨_,.v Y Y Y (λh=>by cases h) (.v rfl rfl rfl (λh=>by cases h) .nil)⟩
 ·rw[E4 hm,EE hm];refine T.cf Y ?_;refine .B ?_;exact⟨_,.v Y Y Y (λh=>by cases h) (.v rfl rfl rfl (λh=>by cases h) .nil)⟩
def gp (d:List (Int×Int)):Int:=d.foldl (λn r=>wr (n+wr (wr (r.2-r.1)+1))) 0
theorem ii (d:List (Int×Int))(hl:d.length*8<=140737488355328):Spec Tryz.prog 109 false [dm d] [.val (.int .i64 (gp d))]:=by
 refine Spec.body Tryz.func109 Y Y Y λw0 Z0=> ?_;refine .B ?_;refine T.K (T.list d (λn pre post=>⟨[(3,.val true (.int .i64 (gp pre))),(6,.val false (dm d)),(7,.val true (.int .i64 (d.map cR).length)),(8,.val true (.int .i64 n))],[],0⟩) (λ_ _ h=>h) ?_ ?_)
 ·rintro n pre x post h hn ih;have hlt:=bW h hn;refine .B ?_;refine T.ct2 Y (bV h hn) ?_;refine .B ?_;refine .F (r:=cR x) (aM h hn) ?_;refine .L ?_;refine .B ?_;refine .X ?_;rw[ai hlt (by omega),show IntKind.i64.wrap (gp pre+IntKind.i64.wrap (IntKind.i64.wrap (x.2-x.1)+1))=gp (pre++[x])by simp[gp]];exact T.K ih
 ·refine .B ?_;refine T.cf2 Y bj ?_;refine .B ?_;exact r1
def c8 (l:List Int):List Int:=l.mergeSort λx y=>decide (x<=y)
theorem qn {w:World}{Z:Nat->Prop}: ∀{xs:List Int} {vs:List Value},L2 (Rep w Z) vs (xs.map (PV.int .i64))->vs=xs.map (Value.int .i64)
 | [],_,.nil=>rfl
 |x::xs,_,.cons h h2=>by
  cases h;rw[qn h2];rfl
theorem mS {w:World}{Z:Nat->Prop}: ∀(xs:List Int),L2 (Rep w Z) (xs.map (Value.int .i64)) (xs.map (PV.int .i64))
 | []=> .nil
 |x::xs=> .cons (.int _ _) (mS xs)
theorem k9 (l:List Int)(hl:l.length*8<=140737488355328):SpecM Tryz.prog 86 3 1 (l.map cI) [] ((c8 l).map cI) []:=by
 have hsl:(c8 l).length=l.length:=H1 ..;refine⟨⟨_,Tryz.func86,rfl,rfl⟩,λp hp=>(by cases hp),λw Z1 v0 vs ho hz hvs=> ?_⟩;cases hvs;obtain⟨xs,hrow,hx,h1,h2⟩:=ho;rw[show(l.map cI).flatten=l.map (PV.int .i64)from n8 _ l]at hx;obtain rfl:=qn hx;rw[EB]at hrow;obtain⟨hln,hrow⟩:=hrow;rcases hrow with ⟨rfl,hnil⟩|⟨g,cap,cur,rfl,_,hb,hcap,hmax,hsz,htk⟩
 ·obtain rfl:l=[]:=(by simpa using hnil);refine(ou none 0 w).mono ?_;rintro e w' ⟨rfl,rfl⟩;refine⟨[],rfl,rfl,rfl,rfl,EO _,λ_ _ _=>rfl,?_,.nil⟩;rw[show c8 []=[]from List.mergeSort_nil ..];refine⟨[],⟨rfl,.inl ⟨rfl,rfl⟩⟩,.nil,?_,?_⟩<;>(intro r hr;cases hr)
 ·have hg:g<w.heap.size:=(EU.1 hb).1;rw[HU]at htk;refine(w7 g 0 cap l w (holds_of_blockI hb htk) hg (by omega)).mono ?_;rintro e w' ⟨rfl,n,os,rfl⟩;have hgr:=grownBy_sortedI (n:=n) (os:=os) (w:=w) (g:=g) (c8 l).toArray;refine⟨[],rfl,hgr.os,hgr.tape,hgr.output,hgr.size,λb hb1 hb2=>hgr.block b hb1 (λe=>hb2 (by simpa[VB,aC]using e.symm)),?_,.nil⟩;have hr:=ownsRow_sortedI (base:=0) (n:=n) (os:=os) (ts:=c8 l) hsl (Er _) hb hcap hmax hsz;refine⟨(c8 l).map (Value.int .i64),?_,?_,λr hr=>by obtain⟨x,_,rfl⟩:=EH.1 hr;rfl,λr hr p hp=>by obtain⟨x,_,rfl⟩:=EH.1 hr;simp[cI]at hp;rw[hp];rfl⟩;·rw[EB,hsl];exact hr
  ·rw[show((c8 l).map cI).flatten=(c8 l).map (PV.int .i64)from n8 _ _];exact mS _
theorem lO (l:List Int)(hl:l.length*8<=140737488351232):Spec Tryz.prog 220 false [.fn (.func 240) [] [.ptr [aq l]]] [.own 3 1 ((c8 l).map cI)]:=by
 refine Spec.body Tryz.func220 Y Y Y λw0 Z0=> ?_;have hc:=mF (g:=240) (caps:=[.ptr [aq l]]) (xs:=l) (enters_of Tryz.func240 (by kernel_rfl) Y) (λw Z us h=>by
  cases h with
  |cons h1 h2=>cases h2;exact qU 0 0 l hl w _ h1) (by omega)
 refine .B ?_;refine .D hc ?_;refine J.cm Y Y Y Y Y Y Y Y Y (k9 l (by omega)) Y Y Y ?_;refine .B ?_;exact⟨_,.o Y Y Y (λ_=> .inl Y) (by simp) .nil⟩
def domOfP (l:List Int):List (Int×Int)×Int:=if l.all aN=true then(if gp (packG (c8 l)) > 4096 then([],2)else(packG (c8 l),0))else([],20)
theorem lA (l:List Int)(hl:l.length*16<=140737488351232):Spec Tryz.prog 185 false [aq l] [.own 53 2 ((domOfP l).1.map cR),.val (.int .i64 (domOfP l).2)]:=by
 refine Spec.body Tryz.func185 Y Y Y λw0 Z0=> ?_;have hc:=qK (p:=λv=> !aN v) (f:=226) l (λv _=>Bo v) (by omega);have hsl:(c8 l).length=l.length:=H1 ..;have hpg:=rK (c8 l);refine .B ?_;refine .D hc ?_;have hany:(l.any λv=> !aN v)= !l.all aN:=by
  rw[GI]
 rw[hany];unfold domOfP;cases ha:l.all aN with
 |false=>
  refine T.ct Y ?_;refine .B ?_;exact⟨_,.ownN Y (.v Y Y Y (λ_=>rfl) .nil)⟩
 |true=>
  refine T.cf Y ?_;have hvs: ∀v∈c8 l,aN v=true:=λv hv=>EN.1 ha v ((Ho l _).mem_iff.1 hv);refine .B ?_;refine .D (pa l) ?_;refine .D (lO l (by omega)).frz ?_;refine .D (vk (c8 l) hvs (by omega)) ?_;refine .D (ii (packG (c8 l)) (by omega)) ?_;refine T.cd Y (λh=> ?_) (λh=> ?_)
  ·rw[E6 Y,E6 h];refine .B ?_;exact⟨_,.ownN Y (.v Y Y Y (λ_=>rfl) .nil)⟩
  ·rw[E6 Y,E4 h];refine .B ?_;exact⟨_,.o Y Y Y (λ_=> .inl Y) (by simp) (.v rfl rfl rfl (λ_=>rfl) .nil)⟩
end Go.Proofs.YtopcjbahjjhdmaaGreat
namespace Go.Proofs.YtopcjbahjjhdmaaGreat
open Go Go.RowKit Go.Sort
set_option linter.unusedVariables false
set_option linter.unusedSimpArgs false
set_option maxRecDepth 8000
theorem A8 {w:World}{g cap n:Nat}{e:TypeId}{cur:Array Value}{ts:List Int}(k:Nat)(hb:w.heap[g]? =some (.cells cur e (0,0)))(hk:k<=ts.length)(hcap:ts.length<=cap)(hmax:cap<=maxLen)(hsz:cur.size=cap*1){w':World}(hw:w'=putRow (Value.int .i64) (Sort.ahead w n) g 0 ts.toArray):
  w'.os=w.os/\w'.tape=w.tape/\w'.output=w.output/\w.heap.size<=w'.heap.size/\(∀b,b<w.heap.size->b≠g->w'.heap[b]? =w.heap[b]?)/\w'.ownsRow 0 e 1 (.slice (some ⟨g,0,none⟩) k cap) k ((ts.take k).map (Value.int .i64)):=by
 subst hw;refine⟨rfl,rfl,rfl,by simp,λb hb hne=> ?_,?_⟩;·simp[putRow,mapBlock,Sort.ahead,H2,Ne.symm hne]
 ·have hh:(putRow (Value.int .i64) (Sort.ahead w n) g 0 ts.toArray).heap[g]? =some (.cells (Go.Sort.putCells (Value.int .i64) 0 ts.toArray cur) e (0,0)):=by
   simp[putRow,mapBlock,Sort.ahead,H2,hb,onCells]
  have ht:=take_putCellsI cur ts (by omega);refine⟨by simp;omega,.inr ⟨g,cap,_,rfl,Er _,hh,by omega,hmax,by simp[Go.Sort.putCells,hsz],?_⟩⟩;rw[HU,Gp,<-ht,HB,FO hk]
theorem Bc {f:FuncId} {fn:Func} {us:List Value} {cs:List Own} (l:List Int) (args:List PV) (l':List Int) (hl:l.length*8<=140737488355328) (hll:l'.length<=l.length) (hf:Tryz.prog.funcs[f]? =some fn) (hb:fn.body.isSome=true) (hn:(fn.name== "runtime.NumGoroutine")=false)
  (h0:l=[]->∀(w:World) (vs:List Value),L2 (Rep w λ_=>True) vs args->Calls Tryz.prog f (.slice none 0 0::vs).toArray w λe w'=>e= .returned (.slice none 0 0)/\w'=w)
  (h1: ∀(g cap:Nat) (w:World) (vs:List Value),Holds (Value.int .i64) w g 0 l.toArray->g<w.heap.size->l.length<=cap->L2 (aA w λ_ b=>b≠g/\Off us b) us cs->ib us->(∀u g',u∈us->VB u g'->g'≠g)->L2 (Rep w λb=>b≠g/\Off us b) vs args->
   Calls Tryz.prog f (.slice (some ⟨g,0,none⟩) l.length cap::vs).toArray w λe w'=>e= .returned (.slice (some ⟨g,0,none⟩) l'.length cap)/\∃q,w'=putRow (Value.int .i64) (Sort.ahead w q) g 0 (l'++List.replicate (l.length-l'.length) 0).toArray):
  SpecP Tryz.prog f us cs 3 1 (l.map cI) args (l'.map cI):=by
 refine⟨⟨fn,hf,hb,hn⟩,λw Z1 v0 vs ho hz hus hap hdis hvs=> ?_⟩;obtain⟨xs,hrow,hx,_,_⟩:=ho;rw[show(l.map cI).flatten=l.map (PV.int .i64)from n8 _ l]at hx;obtain rfl:=qn hx;rw[EB]at hrow;obtain⟨hln,hrow⟩:=hrow;have hfin: ∀(w':World) (v:Value),w'.ownsRow 0 3 1 v l'.length (l'.map (Value.int .i64))->aA w' (λ_ b=>Z1 b/\¬VB v b) v (.sl 3 1 true (l'.map cI)):=λw' v h=>by
  refine⟨l'.map (Value.int .i64),by rw[EB];exact h,?_,λr hr=>by obtain⟨x,_,rfl⟩:=EH.1 hr;rfl,λr hr p hp=>by obtain⟨x,_,rfl⟩:=EH.1 hr;simp[cI]at hp;rw[hp];rfl⟩;rw[show(l'.map cI).flatten=l'.map (PV.int .i64)from n8 _ _];exact mS _
 rcases hrow with ⟨rfl,hnil⟩|⟨g,cap,cur,rfl,_,hb,hcap,hmax,hsz,htk⟩
 ·obtain rfl:l=[]:=(by simpa using hnil);obtain rfl:l'=[]:=(by cases l' with|nil=>rfl|cons _ _=>simp at hll);refine(h0 Y w vs (hvs.imp λ_ _ h=>h.mono λ_ _ _=>⟨trivial,rfl⟩)).mono ?_;rintro e w' ⟨rfl,rfl⟩;exact⟨_,rfl,rfl,rfl,rfl,EO _,λ_ _ _=>rfl,hfin _ _ ⟨rfl,.inl ⟨rfl,rfl⟩⟩,λg hg=> .inl hg⟩
 ·have hg:g<w.heap.size:=(EU.1 hb).1;have hvb: ∀b,VB (.slice (some ⟨g,0,none⟩) l.length cap) b↔b=g:=λb=>(by simp[VB,aC];exact eq_comm);rw[HU]at htk;have hZ: ∀b,(¬VB (.slice (some ⟨g,0,none⟩) l.length cap) b/\Off us b)->b≠g/\Off us b:=λb h=>⟨λe=>h.1 ((hvb b).2 e),h.2⟩;refine(h1 g cap w vs (holds_of_blockI hb htk) hg (by simpa using hcap) (hus.imp λu c h=>pO h λb hb=>hZ b hb) hap (λu g' hu hv e=>hdis u g' hu hv ((hvb g').2 e)) (hvs.imp λ_ _ h=>h.mono λb hb _=>⟨hZ b hb,rfl⟩)).mono ?_;rintro e w' ⟨rfl,q,hw⟩;have htl:(l'++List.replicate (l.length-l'.length) (0:Int)).length=l.length:=(by simp;omega);obtain⟨a1,a2,a3,a4,a5,a6⟩:=A8 (ts:=l'++List.replicate (l.length-l'.length) 0) l'.length hb (by omega) (by rw[htl];simpa using hcap) hmax hsz hw;rw[HW]at a6;exact⟨_,rfl,a1,a2,a3,a4,λb hb hn=>a5 b hb λe=>hn ((hvb b).2 e),hfin _ _ a6,λg' hg'=> .inl ((hvb g').2 (by simpa[VB,aC,eq_comm]using hg'))⟩
theorem i8 (l:List Int)(hl:l.length*8<=140737488355328):SpecP Tryz.prog 87 [] [] 3 1 (l.map cI) [] ((Lib.compact l).map cI):=by
 have hle:(Lib.compact l).length<=l.length:=by
  unfold Lib.compact Lib.compactUpTo;rw[EB];exact Em (Ez _ _) (by simp)
 refine Bc l [] (Lib.compact l) hl hle Tryz.func87 Y Y (λh w vs hvs=> ?_) (λg cap w vs hH hg hc _ _ _ hvs=> ?_)
 ·cases hvs;exact fT none 0 w
 ·cases hvs;exact jn g 0 cap l w hH (by omega) hc
theorem yc {l:List Int}(h:l.Pairwise (· <= ·)):Up (Lib.compact l)/\∀x,x∈Lib.compact l↔x∈l:=by
 have hget: ∀j,j<l.length->l.toArray[j]! =l.getD j 0:=λj hj=>by
  rw[E0,E5 hj];simp[hj]
 have hle: ∀i j,i<=j->j<l.length->l.getD i 0<=l.getD j 0:=λi j hij hj=>by
  rw[E0,E0,E5 hj,E5 (by omega)];by_cases e:i=j;·subst e;exact FS _
  ·exact Gi.1 h i j (by omega) hj (by omega)
 have key: ∀m,m<=l.length->Up (Lib.compactUpTo l.toArray m)/\(∀x,x∈Lib.compactUpTo l.toArray m↔∃j,j<m/\l.getD j 0=x):=by
  intro m
  induction m with
  |zero=>intro _;exact⟨by simp[Lib.compactUpTo,Up],by simp[Lib.compactUpTo]⟩
  |succ m ih=>
   intro hm;obtain⟨h1,h2⟩:=ih (by omega);rw[Lib.compactUpTo_succ];by_cases hk:Lib.keeps l.toArray m=true
   ·rw[E6 hk,hget m (by omega)];refine⟨G5.2 ⟨h1,Fm _ _,λx hx y hy=> ?_⟩,λx=> ?_⟩
    ·obtain⟨j,hj,rfl⟩:=(h2 x).1 hx;rw[EI.1 hy];have e1:=hle j (m-1) (by omega) (by omega);have e2:=hle (m-1) m (by omega) (by omega);simp only[Lib.keeps,ER]at hk;have hne:l.toArray[m]! ≠l.toArray[m-1]! :=hk.resolve_left (by omega);rw[hget m (by omega),hget (m-1) (by omega)]at hne;omega
    ·rw[EW,h2,EI];constructor
     ·rintro(⟨j,hj,e⟩|rfl);·exact⟨j,by omega,e⟩
      ·exact⟨m,by omega,rfl⟩
     ·rintro⟨j,hj,e⟩;by_cases hjm:j=m;·subst hjm;exact .inr e.symm
      ·exact .inl ⟨j,by omega,e⟩
   ·rw[E4 hk,FU];refine⟨h1,λx=> ?_⟩;rw[h2];constructor;·rintro⟨j,hj,e⟩;exact⟨j,by omega,e⟩
    ·rintro⟨j,hj,e⟩;by_cases hjm:j=m
     ·subst hjm;simp only[Lib.keeps,ER,not_or,ne_eq,Classical.not_not]at hk;have:=hk.2;rw[hget j (by omega),hget (j-1) (by omega)]at this;exact⟨j-1,by omega,by rw[<-this];exact e⟩
     ·exact⟨j,by omega,e⟩
 obtain⟨h1,h2⟩:=key l.length (EO _);refine⟨h1,λx=> ?_⟩;rw[show Lib.compact l=Lib.compactUpTo l.toArray l.length from Y,h2];constructor
 ·rintro⟨j,hj,rfl⟩;rw[E0,E5 hj];exact EA hj
 ·intro hx;obtain⟨j,hj,rfl⟩:=G8 hx;exact⟨j,hj,by rw[E0,E5 hj];rfl⟩
theorem i9 (l:List Int):Lib.compact (c8 l)=aT l:=by
 have hs:(c8 l).Pairwise (· <= ·):=by
  have:=I8 (le:=λx y:Int=>decide (x<=y)) (λa b c h1 h2=>by simp at h1 h2⊢;omega) (λa b=>by simp;omega) l;exact this.imp λh=>by simpa using h
 obtain⟨h1,h2⟩:=yc hs;refine dX h1 (ca l) λx=> ?_;rw[h2,bI];exact(Ho l _).mem_iff
theorem xH (c:Con)(hc:ConB c):Spec Tryz.prog 132 false [.agg (cC c)] [.own 3 1 ((usesR c).map cI)]:=by
 refine Spec.body Tryz.func132 Y Y Y λw0 Z0=> ?_;obtain⟨h1,h2,h3,h4⟩:=hc;unfold usesR;have hll:((if c.kind=4 then c.vars++[c.b]else c.vars):List Int).length*8<=140737488355328:=by
  split;·simp;omega
  ·omega
 have fin: ∀(l:List Int),l.length*8<=140737488355328->(c8 l).length*8<=140737488355328:=λl h=>by
  rw[show(c8 l).length=l.length from H1 ..];exact h
 refine .B ?_;refine .D (ef c.vars (by omega)) ?_;refine T.cd Y (λhk=> ?_) (λhk=> ?_)
 ·have hk:c.kind=4:=hk;rw[E6 hk]at hll⊢;have hf:=fin _ hll;refine .B ?_;refine .V ?_;refine J.aI Y Y Y Y Y Y Y Y Y Y Y Y Y Y Y Y Y Y Y (by omega) ?_;refine .B ?_;refine J.cm Y Y Y Y Y Y Y Y Y (k9 (c.vars++[c.b]) hll) Y Y Y ?_;refine .B ?_;refine J.cp (cs2:=[]) (qs:=[]) [] Y Y Y Y Y Y Y Y (i8 _ hf) trivial Y Y Y Y Y Y ?_;rw[i9];refine .B ?_;exact⟨_,.o Y Y Y (λ_=> .inl Y) (by simp) .nil⟩
 ·have hk: ¬c.kind=4:=hk;rw[E4 hk]at hll⊢;have hf:=fin _ hll;refine .B ?_;refine J.cm Y Y Y Y Y Y Y Y Y (k9 c.vars hll) Y Y Y ?_;refine .B ?_;refine J.cp (cs2:=[]) (qs:=[]) [] Y Y Y Y Y Y Y Y (i8 _ hf) trivial Y Y Y Y Y Y ?_;rw[i9];refine .B ?_;exact⟨_,.o Y Y Y (λ_=> .inl Y) (by simp) .nil⟩
end Go.Proofs.YtopcjbahjjhdmaaGreat
namespace Go.Proofs.YtopcjbahjjhdmaaGreat
open Go Go.RowKit
set_option linter.unusedVariables false
set_option linter.unusedSimpArgs false
set_option maxRecDepth 8000
def byteI (s:ByteArray)(i:Nat):UInt8:=(s[i]?).getD 0
def letB (b:UInt8):Bool:=decide ((b.toNat:Int)>=97)&&decide ((b.toNat:Int)<=122)
def badI (i:Nat)(b:UInt8):Bool:= !letB b&&(decide ((i:Int)=0)||(decide ((b.toNat:Int)≠95)&&(decide ((b.toNat:Int)<48)||decide ((b.toNat:Int) > 57))))
def gu (s:ByteArray):Bool:=((List.range s.size).all λi=> !badI i (byteI s i))&&(!(s.toList==(⟨#[]⟩:ByteArray).toList)&&decide ((s.size:Int)<=16))
theorem zR (s:ByteArray)(hs:s.size<=140737488355328):Spec Tryz.prog 30 false [.str s] [.val (.bool (gu s))]:=by
 refine Spec.body Tryz.func30 Y Y Y λw0 Z0=> ?_;generalize hR:gu s=R;refine .B ?_;refine T.K (T.ind (λi:Nat=>⟨[(0,.val false (.str s)),(3,.val true (.int .i64 i))],[],0⟩) (λi=>i<=s.size/\∀j,j<i->badI j (byteI s j)=false) (λi=>s.size-i) 0 ⟨Er _,λj hj=>EX hj (FK j)⟩ (λ_ _ h=>h) ?_);rintro i ⟨hi,hb⟩ ih;refine .B ?_;refine T.cd Y (λh1=> ?_) (λh1=> ?_)
 ·have h1:i<s.size:=(by omega);have hw:IntKind.i64.wrap ((i:Int)+1)=((i+1:Nat):Int):=(by rw[af (by omega) (by omega)];omega);have hbi:s[((i:Nat):Int).toNat]? =some (byteI s i):=by
   rw[Eo];unfold byteI;rw[getElem?_pos s i h1];rfl
  have hno:badI i (byteI s i)=true->R=false:=λh=>by
   rw[<-hR];unfold gu;have:((List.range s.size).all λi=> !badI i (byteI s i))=false:=by
    rw[H8];exact⟨i,ES.2 h1,by rw[h];simp⟩
   rw[this];rfl
  have ih1:=λh:badI i (byteI s i)=false=>ih (i+1) ⟨by omega,λj hj=>by
   by_cases e:j=i;·rw[e];exact h
   ·exact hb j (by omega)⟩ (by omega)
  have hbd:badI i (byteI s i)=(!letB (byteI s i)&&(decide ((i:Int)=0)||(decide (((byteI s i).toNat:Int)≠95)&&(decide (((byteI s i).toNat:Int)<48)||decide (((byteI s i).toNat:Int) > 57))))):=rfl;have hlt:letB (byteI s i)=(decide (((byteI s i).toNat:Int)>=97)&&decide (((byteI s i).toNat:Int)<=122)):=rfl;generalize badI i (byteI s i)=bad at*;generalize letB (byteI s i)=lt at*;generalize byteI s i=b at*;refine .B ?_;refine J.xs Y Y Y Y Y Y Y (by omega) hbi ?_;refine .B ?_;cases h1:decide ((b.toNat:Int)>=97)
  ·refine .B ?_;cases h3:decide ((i:Int)=0)
   ·refine .B ?_;refine J.xs Y Y Y Y Y Y Y (by omega) hbi ?_;refine .B ?_;cases h4:decide ((b.toNat:Int)≠95);rotate_left
    ·refine .B ?_;refine J.xs Y Y Y Y Y Y Y (by omega) hbi ?_;refine .B ?_;cases h5:decide ((b.toNat:Int)<48)
     ·refine .B ?_;refine J.xs Y Y Y Y Y Y Y (by omega) hbi ?_;refine .B ?_;cases h6:decide ((b.toNat:Int) > 57)
      ·refine .B ?_;refine T.cf Y ?_;refine .B ?_;rw[hw];exact T.K (ih1 (by rw[hbd,hlt,h1,h3,h4,h5,h6];rfl))
      ·refine .B ?_;refine T.ct Y ?_;refine .B ?_;rw[hno (by rw[hbd,hlt,h1,h3,h4,h5,h6];rfl)];exact r1
     ·refine .B ?_;refine T.ct Y ?_;refine .B ?_;rw[hno (by rw[hbd,hlt,h1,h3,h4,h5];rfl)];exact r1
    ·refine .B ?_;refine T.cf Y ?_;refine .B ?_;rw[hw];exact T.K (ih1 (by rw[hbd,hlt,h1,h3,h4];rfl))
   ·refine .B ?_;refine T.ct Y ?_;refine .B ?_;rw[hno (by rw[hbd,hlt,h1,h3];rfl)];exact r1
  ·refine .B ?_;refine J.xs Y Y Y Y Y Y Y (by omega) hbi ?_;refine .B ?_;cases h2:decide ((b.toNat:Int)<=122)
   ·refine .B ?_;cases h3:decide ((i:Int)=0)
    ·refine .B ?_;refine J.xs Y Y Y Y Y Y Y (by omega) hbi ?_;refine .B ?_;cases h4:decide ((b.toNat:Int)≠95);rotate_left
     ·refine .B ?_;refine J.xs Y Y Y Y Y Y Y (by omega) hbi ?_;refine .B ?_;cases h5:decide ((b.toNat:Int)<48)
      ·refine .B ?_;refine J.xs Y Y Y Y Y Y Y (by omega) hbi ?_;refine .B ?_;cases h6:decide ((b.toNat:Int) > 57)
       ·refine .B ?_;refine T.cf Y ?_;refine .B ?_;rw[hw];exact T.K (ih1 (by rw[hbd,hlt,h1,h2,h3,h4,h5,h6];rfl))
       ·refine .B ?_;refine T.ct Y ?_;refine .B ?_;rw[hno (by rw[hbd,hlt,h1,h2,h3,h4,h5,h6];rfl)];exact r1
      ·refine .B ?_;refine T.ct Y ?_;refine .B ?_;rw[hno (by rw[hbd,hlt,h1,h2,h3,h4,h5];rfl)];exact r1
     ·refine .B ?_;refine T.cf Y ?_;refine .B ?_;rw[hw];exact T.K (ih1 (by rw[hbd,hlt,h1,h2,h3,h4];rfl))
    ·refine .B ?_;refine T.ct Y ?_;refine .B ?_;rw[hno (by rw[hbd,hlt,h1,h2,h3];rfl)];exact r1
   ·refine .B ?_;refine T.cf Y ?_;refine .B ?_;rw[hw];exact T.K (ih1 (by rw[hbd,hlt,h1,h2];rfl))
 ·have h1:i=s.size:=(by omega);subst h1;have hall:((List.range s.size).all λi=> !badI i (byteI s i))=true:=by
   rw[EN];intro j hj;rw[hb j (ES.1 hj)];rfl
  have hR2:R=(!(s.toList==(⟨#[]⟩:ByteArray).toList)&&decide ((s.size:Int)<=16)):=by
   rw[<-hR];unfold gu;rw[hall];rfl
  refine .B ?_;cases h2:(s.toList==(⟨#[]⟩:ByteArray).toList)
  ·rw[h2]at hR2;refine .B ?_;rw[hR2];exact r1
  ·rw[h2]at hR2;refine .B ?_;rw[hR2];exact r1
def cnt (b:By)(j:Int):Nat:=b.countP λp=>decide (p.2=j)
theorem BZ (b:By)(v i j:Int):cnt (upA b v i) j+(if lkA b v=some j then 1 else 0)=cnt b j+if i=j then 1 else 0:=by
 induction b with
 |nil=>
  show List.countP _ [(v,i)]+0=0+_;rw[Gt];simp
 |cons p b ih=>
  unfold cnt at*;rw[iD,dp];by_cases h:p.1=v
  ·rw[E6 h,E6 h,Gt,Gt];simp only[ER,E9];omega
  ·rw[E4 h,E4 h,Gt,Gt];omega
structure TT (i:Int)(s:bF)(b:By)(R:Bool×bF×By):Prop where
 mono: ∀v,sees s v->sees R.2.1 v
 no:R.1=false->R.2.2=b
 more:R.1=true->∀j,cnt R.2.2 j=cnt b j+if i=j then 1 else 0
 keep:R.1=true->∀v,sees s v->lkA R.2.2 v=lkA b v
theorem lI {rec:bF->By->Int->Bool×bF×By}{i:Int}(hr: ∀s b k,TT k s b (rec s b k)): ∀(vs:List Int) (s:bF) (b:By),TT i s b (jl rec i vs s b)
 | [],s,b=>⟨λ_ h=>h,λ_=>rfl,λh=>(by cases h),λh=>(by cases h)⟩
 |v::vs,s,b=>by
  rw[jl];split;·exact lI hr vs s b
  ·rename_i hs;have hne: ∀w,sees s w->¬v=w:=λw hw e=>hs (e▸hw);split
   ·rename_i hk;refine⟨λw hw=>sees_up.2 (.inr hw),λh=>(by cases h),λ_ j=> ?_,λ_ w hw=> ?_⟩
    ·have:=BZ b v i j;rw[hk]at this;simpa using this
    ·show lkA (upA b v i) w=_;rw[l9,E4 (hne w hw)]
   ·rename_i k hk;have h1:=hr (upA s v true) b k;have hv:sees (upA s v true) v:=sees_up.2 (.inl Y);split
    ·rename_i s2 b2 e;rw[e]at h1;refine⟨λw hw=>h1.mono w (sees_up.2 (.inr hw)),λh=>(by cases h),λ_ j=> ?_,λ_ w hw=> ?_⟩
     ·have e1:=BZ b2 v i j;have e2:=h1.more Y j;have e3:=h1.keep Y v hv;simp only at e2 e3;rw[e3,hk]at e1;simp only[E9]at e1;show cnt (upA b2 v i) j=_;omega
     ·show lkA (upA b2 v i) w=_;rw[l9,E4 (hne w hw)];exact h1.keep Y w (sees_up.2 (.inr hw))
    ·rename_i s2 b2 e;rw[e]at h1;obtain rfl:b2=b:=h1.no Y;have h2:=lI (i:=i) hr vs s2 b2;exact⟨λw hw=>h2.mono w (h1.mono w (sees_up.2 (.inr hw))),h2.no,h2.more,λh w hw=>h2.keep h w (h1.mono w (sees_up.2 (.inr hw)))⟩
theorem oE (l:List (List Int)): ∀(f:Nat) (i:Int) (s:bF) (b:By),TT i s b (fO l f i s b)
 |0,i,s,b=>⟨λ_ h=>h,λ_=>rfl,λh=>(by cases h),λh=>(by cases h)⟩
 |f+1,i,s,b=>by
  rw[fO];exact lI (λs b k=>oE l f k s b) _ _ _
def oB (l:List (List Int))(b:By):Prop:= ∀p∈b,p.1∈l.getD p.2.toNat []
theorem oB.up {l:List (List Int)}{b:By}(h:oB l b){v i:Int}(hv:v∈l.getD i.toNat []):oB l (upA b v i):=λp hp=>by
 rcases mem_upA hp with hp|rfl;·exact h p hp
 ·exact hv
theorem mN {l:List (List Int)}{rec:bF->By->Int->Bool×bF×By}{i:Int}(hr: ∀s b k,oB l b->oB l (rec s b k).2.2): ∀(vs:List Int) (s:bF) (b:By),(∀v∈vs,v∈l.getD i.toNat [])->oB l b->oB l (jl rec i vs s b).2.2
 | [],s,b,_,hb=>hb
 |v::vs,s,b,hv,hb=>by
  rw[jl];split;·exact mN hr vs s b (λw hw=>hv w (.tail _ hw)) hb
  ·split;·exact hb.up (hv v (.head _))
   ·rename_i k _;have h1:=hr (upA s v true) b k hb;split
    ·rename_i s2 b2 e;rw[e]at h1;exact h1.up (hv v (.head _))
    ·rename_i s2 b2 e;rw[e]at h1;exact mN hr vs s2 b2 (λw hw=>hv w (.tail _ hw)) h1
theorem rn (l:List (List Int)): ∀(f:Nat) (i:Int) (s:bF) (b:By),oB l b->oB l (fO l f i s b).2.2
 |0,i,s,b,h=>h
 |f+1,i,s,b,h=>by
  rw[fO];exact mN (λs b k h=>rn l f k s b h) _ _ _ (λ_ h=>h) h
theorem qr {l:List (List Int)}: ∀(n i:Nat) (b b2:By),n+i=l.length->oB l b->(∀j:Int,cnt b j=if 0<=j/\j<(i:Nat)then 1 else 0)->eG l n i b=some b2->oB l b2/\∀j:Int,cnt b2 j=if 0<=j/\j<(l.length:Nat)then 1 else 0
 |0,i,b,b2,hi,hb,hc,h=>by
  cases h;rw[show l.length=i by omega];exact⟨hb,hc⟩
 |n+1,i,b,b2,hi,hb,hc,h=>by
  have h1:=oE l (l.flatten.length+1) (i:Nat) [] b;have h2:=rn l (l.flatten.length+1) (i:Nat) [] b hb;rw[eG]at h;generalize hT:mw l (i:Nat) b=R at*;rw[show fO l (l.flatten.length+1) (i:Nat) [] b=R from hT]at h1 h2;obtain⟨r,s,b3⟩:=R;cases r with
  |false=>cases h
  |true=>
   refine qr n (i+1) b3 b2 (by omega) h2 (λj=> ?_) h;have:=h1.more Y j;simp only at this;rw[this,hc j];by_cases e:((i:Nat):Int)=j;·rw[E6 e,E4 (by omega),E6 (by omega)]
   ·rw[E4 e];by_cases e2:0<=j/\j<(i:Nat);·rw[E6 e2,E6 (by omega)]
    ·rw[E4 e2,E4 (by omega)]
theorem m6 {l:List (List Int)}{b:By}(h:dA l=some b):oB l b/\∀j:Int,cnt b j=if 0<=j/\j<(l.length:Nat)then 1 else 0:=
 qr l.length 0 [] b Y (λp hp=>by cases hp) (λj=>by rw[E4 (by omega)];rfl) h
theorem CL {b:By}{j:Int}(h:0<cnt b j): ∃p∈b,p.2=j:=by
 obtain⟨p,h1,h2⟩:=HO.1 h;exact⟨p,h1,by simpa using h2⟩
theorem tW {j:Int}: ∀{b:By},cnt b j<=1->∀(x y:Nat) (p q:Int×Int),b[x]? =some p->b[y]? =some q->p.2=j->q.2=j->x=y
 | [],_,x,y,p,q,hp,_,_,_=>by cases hp
 |r::b,h,x,y,p,q,hp,hq,h1,h2=>by
  unfold cnt at h;rw[Gt]at h;have key: ∀(z:Nat) (u:Int×Int),b[z]? =some u->u.2=j->0<cnt b j:=λz u hz hu=>HO.2 ⟨u,EC hz,by simpa using hu⟩;cases x with
  |zero=>
   cases y with
   |zero=>rfl
   |succ y=>
    obtain rfl:=E7 hp;have:=key y q hq h2;unfold cnt at this;rw[E6 (by simpa using h1)]at h;omega
  |succ x=>
   cases y with
   |zero=>
    obtain rfl:=E7 hq;have:=key x p hp h1;unfold cnt at this;rw[E6 (by simpa using h2)]at h;omega
   |succ y=>
    have:=tW (j:=j) (b:=b) (by unfold cnt;omega) x y p q hp hq h1 h2;omega
structure FF (l:List (List Int))(vs:List Int)(s:bF)(b:By)(R:Bool×bF×By):Prop where
 all:R.1=false->∀v∈vs,sees R.2.1 v
 own:R.1=false->∀v,sees R.2.1 v->sees s v∨∃k,lkA b v=some k/\∀w∈l.getD k.toNat [],sees R.2.1 w
theorem s6 {l:List (List Int)}{rec:bF->By->Int->Bool×bF×By}{i:Int}{f:Nat}(ht: ∀s b k,TT k s b (rec s b k))(hr: ∀s b k,eh l s<f->0<=k->k.toNat<l.length->jo l b->FF l (l.getD k.toNat []) s b (rec s b k)): ∀(vs:List Int) (s:bF) (b:By),(∀v∈vs,v∈l.flatten)->eh l s<f+1->jo l b->FF l vs s b (jl rec i vs s b)
 | [],s,b,_,_,_=>⟨λ_ v hv=>(by cases hv),λ_ v hv=> .inl hv⟩
 |v::vs,s,b,hv,hu,hb=>by
  have hv2: ∀w∈vs,w∈l.flatten:=λw hw=>hv w (.tail _ hw);rw[jl];split
  ·rename_i hs;have h:=s6 (i:=i) ht hr vs s b hv2 hu hb;refine⟨λe w hw=> ?_,h.own⟩;cases hw with
   |head=>exact(lI (i:=i) ht vs s b).mono v hs
   |tail _ hw=>exact h.all e w hw
  ·rename_i hs;split;·exact⟨λh=>(by cases h),λh=>(by cases h)⟩
   ·rename_i k hk;have hq:=hb _ (fk hk);have hlt:=ri (hv v (.head _)) hs;have h1:=hr (upA s v true) b k (by omega) hq.1 hq.2 hb;have h2:=ht (upA s v true) b k;split;·exact⟨λh=>(by cases h),λh=>(by cases h)⟩
    ·rename_i s2 b2 e;rw[e]at h1 h2;obtain rfl:b2=b:=h2.no Y;have hsv:sees s2 v:=h2.mono v (sees_up.2 (.inl Y));have hle:eh l s2<=eh l (upA s v true):=rj λw hw=>h2.mono w hw;have h3:=s6 (i:=i) ht hr vs s2 b2 hv2 (by omega) hb;have h4:=lI (i:=i) ht vs s2 b2;refine⟨λe w hw=> ?_,λe w hw=> ?_⟩
     ·cases hw with
      |head=>exact h4.mono v hsv
      |tail _ hw=>exact h3.all e w hw
     ·rcases h3.own e w hw with h5|h5
      ·rcases h1.own rfl w h5 with h6|⟨k2,h6,h7⟩
       ·rcases sees_up.1 h6 with rfl|h6;·exact .inr ⟨k,hk,λu hu=>h4.mono u (h1.all Y u hu)⟩
        ·exact .inl h6
       ·exact .inr ⟨k2,h6,λu hu=>h4.mono u (h7 u hu)⟩
      ·exact .inr h5
theorem Bt {l:List (List Int)}{i:Int}: ∀v∈l.getD i.toNat [],v∈l.flatten:=λv hv=>by
 by_cases h:i.toNat<l.length
 ·rw[E0,E5 h]at hv;exact Gq.2 ⟨_,EA h,hv⟩
 ·rw[E0,FD (by omega)]at hv;cases hv
theorem yy (l:List (List Int)): ∀(f:Nat) (i:Int) (s:bF) (b:By),eh l s<f->0<=i->i.toNat<l.length->jo l b->FF l (l.getD i.toNat []) s b (fO l f i s b)
 |0,i,s,b,h,_,_,_=>by omega
 |f+1,i,s,b,h,_,_,hb=>by
  rw[fO];exact s6 (λs b k=>oE l f k s b) (λs b k h1 h2 h3 h4=>yy l f k s b h1 h2 h3 h4) _ _ _ Bt h hb
def Others (l:List (List Int))(g:Nat->Int):Prop:=(∀j,j<l.length->g j∈l.getD j [])/\∀j k,j<l.length->k<l.length->g j=g k->j=k
def dd:List Int->List Int
 | []=>[]
 |x::l=>if x∈l then dd l else x::dd l
theorem tT {x:Int}: ∀{l:List Int},x∈dd l↔x∈l
 | []=>Iff.rfl
 |y::l=>by
  rw[dd];split
  ·rename_i h;rw[tT,ET];constructor;·exact .inr
   ·rintro(rfl|h2);·exact h
    ·exact h2
  ·rw[ET,ET,tT]
theorem qH: ∀l:List Int,(dd l).Nodup
 | []=> .nil
 |y::l=>by
  rw[dd];split;·exact qH l
  ·rename_i h;exact FH.2 ⟨λh2=>h (tT.1 h2),qH l⟩
theorem mZ {α:Type}[DecidableEq α]: ∀{a b:List α},a.Nodup->(∀x∈a,x∈b)->a.length<=b.length
 | [],_,_,_=>Er _
 |x::a,b,h,hs=>by
  have hx:x∈b:=hs x (.head _);obtain⟨h1,h2⟩:=FH.1 h;have:=mZ (b:=b.erase x) h2 λy hy=>(List.mem_erase_of_ne (λe=>h1 (by rw[<-e];exact hy))).2 (hs y (.tail _ hy));rw[List.length_erase_of_mem hx]at this;have:=List.length_pos_of_mem hx;rw[El];omega
theorem f8 {α β:Type}{f:α->β}: ∀{a:List α},a.Nodup->(∀x∈a,∀y∈a,f x=f y->x=y)->(a.map f).Nodup
 | [],_,_=> .nil
 |x::a,h,hf=>by
  obtain⟨h1,h2⟩:=FH.1 h;refine FH.2 ⟨λh3=> ?_,f8 h2 λy hy z hz=>hf y (.tail _ hy) z (.tail _ hz)⟩;obtain⟨y,hy,e⟩:=EH.1 h3;exact h1 (hf y (.tail _ hy) x (.head _) e▸hy)
theorem AY {s:bF}{v:Int}(h:sees s v):v∈s.map (·.1):=by
 unfold sees at h;cases hk:lkA s v with
 |none=>rw[hk]at h;cases h
 |some x=>exact EH.2 ⟨_,fk hk,rfl⟩
theorem Ak {l:List (List Int)}{i:Nat}{b:By}(hi:i<l.length)(hb:jo l b)(hc: ∀j:Int,cnt b j=if 0<=j/\j<(i:Nat)then 1 else 0)(hR:(mw l (i:Nat) b).1=false)(g:Nat->Int): ¬Others l g:=by
 rintro⟨hg,hinj⟩;have hf:=yy l (l.flatten.length+1) (i:Nat) [] b (o5 l) (by omega) (by omega) hb;have h1:=hf.all hR;have h2:=hf.own hR;generalize hs:(mw l (i:Nat) b).2.1=s at*;have h2: ∀v,sees s v->∃k,lkA b v=some k/\∀w∈l.getD k.toNat [],sees s w:=λv hv=>by
  rcases h2 v hv with h|h;·cases h
  ·exact h
 let V:=(dd (s.map (·.1))).filter λv=>(lkA s v).getD false;have hV: ∀v,v∈V↔sees s v:=λv=>by
  rw[FB,tT];exact⟨λh=>h.2,λh=>⟨AY h,h⟩⟩
 have hVn:V.Nodup:=(qH _).filter _;let o:Int->Nat:=λv=>((lkA b v).getD 0).toNat;have ho: ∀v∈V,∃k:Int,lkA b v=some k/\o v=k.toNat/\0<=k/\k<(i:Nat)/\∀w∈l.getD (o v) [],sees s w:=λv hv=>by
  obtain⟨k,hk,hw⟩:=h2 v ((hV v).1 hv);have hm:=fk hk;have h0:0<cnt b k:=HO.2 ⟨_,hm,by simp⟩;rw[hc]at h0;have:0<=k/\k<(i:Nat):=by
   by_cases e:0<=k/\k<(i:Nat);·exact e
   ·rw[E4 e]at h0;omega
  have e:o v=k.toNat:=(by show((lkA b v).getD 0).toNat=_;rw[hk];rfl);exact⟨k,hk,e,this.1,this.2,e▸hw⟩
 have hoi: ∀v∈V,∀w∈V,o v=o w->v=w:=λv hv w hw e=>by
  obtain⟨k,hk,h1,h3,h4,_⟩:=ho v hv;obtain⟨k',hk',h1',h3',h4',_⟩:=ho w hw;have ek:k=k':=(by omega);subst ek;obtain⟨x,hx⟩:=EK (fk hk);obtain⟨y,hy⟩:=EK (fk hk');have:=tW (b:=b) (j:=k) (by rw[hc];split<;>omega) x y _ _ hx hy Y Y;subst this;rw[hx]at hy;exact congrArg Prod.fst (E7 hy)
 have hKn:(i::V.map o).Nodup:=FH.2 ⟨λh=>by
  obtain⟨v,hv,e⟩:=EH.1 h;obtain⟨k,_,h1,h3,h4,_⟩:=ho v hv;omega,f8 hVn hoi⟩
 have hKl: ∀k∈i::V.map o,k<l.length:=λk hk=>by
  cases hk with
  |head=>exact hi
  |tail _ hk=>
   obtain⟨v,hv,rfl⟩:=EH.1 hk;obtain⟨k,_,h1,h3,h4,_⟩:=ho v hv;omega
 have hgn:((i::V.map o).map g).Nodup:=f8 hKn λx hx y hy e=>hinj x y (hKl x hx) (hKl y hy) e;have hsub: ∀x∈(i::V.map o).map g,x∈V:=λx hx=>by
  obtain⟨k,hk,rfl⟩:=EH.1 hx;rw[hV];have hgk:=hg k (hKl k hk);cases hk with
  |head=>exact h1 _ (by simpa using hgk)
  |tail _ hk=>
   obtain⟨v,hv,rfl⟩:=EH.1 hk;obtain⟨k,_,_,_,_,h5⟩:=ho v hv;exact h5 _ hgk
 have:=mZ hgn hsub;simp at this;omega
theorem mx {l:List (List Int)}{g:Nat->Int}(hg:Others l g): ∀(n i:Nat) (b:By),n+i=l.length->jo l b->(∀j:Int,cnt b j=if 0<=j/\j<(i:Nat)then 1 else 0)->eG l n i b≠none
 |0,i,b,hi,hb,hc,h=>by cases h
 |n+1,i,b,hi,hb,hc,h=>by
  have h1:=oE l (l.flatten.length+1) (i:Nat) [] b;have h2:=oF l (l.flatten.length+1) (i:Nat) [] b (by omega) (by omega) hb;have h3:=Ak (i:=i) (by omega) hb hc;rw[eG]at h;generalize hT:mw l (i:Nat) b=R at*;rw[show fO l (l.flatten.length+1) (i:Nat) [] b=R from hT]at h1 h2;obtain⟨r,s,b3⟩:=R;cases r with
  |false=>exact h3 Y g hg
  |true=>
   refine mx hg n (i+1) b3 (by omega) h2.byIn (λj=> ?_) h;have:=h1.more Y j;simp only at this;rw[this,hc j];by_cases e:((i:Nat):Int)=j;·rw[E6 e,E4 (by omega),E6 (by omega)]
   ·rw[E4 e];by_cases e2:0<=j/\j<(i:Nat);·rw[E6 e2,E6 (by omega)]
    ·rw[E4 e2,E4 (by omega)]
theorem vJ {l:List (List Int)}{g:Nat->Int}(hg:Others l g): ∃b,dA l=some b:=by
 cases h:dA l with
 |some b=>exact⟨b,rfl⟩
 |none=>exact EX h (mx hg l.length 0 [] rfl (λp hp=>by cases hp) λj=>by rw[E4 (by omega)];rfl)
def uI (b:By)(n:Nat):List Int:=(List.range n).map λ(j:Nat)=>((b.find? λp=>decide (p.2=(j:Int))).map (·.1)).getD 0
theorem Cf {l:List (List Int)}{b:By}(h:dA l=some b){p:Int×Int}(hp:p∈b):0<=p.2/\p.2.toNat<l.length/\(uI b l.length)[p.2.toNat]? =some p.1:=by
 obtain⟨_,hc⟩:=m6 h;have h0:0<cnt b p.2:=HO.2 ⟨_,hp,by simp⟩;have hr:0<=p.2/\p.2<(l.length:Nat):=by
  rw[hc]at h0;by_cases e:0<=p.2/\p.2<(l.length:Nat);·exact e
  ·rw[E4 e]at h0;omega
 refine⟨hr.1,by omega,?_⟩;unfold uI;rw[EJ,Fr (by omega)];simp only[FJ,E9];have e:((p.2.toNat:Nat):Int)=p.2:=(by omega);rw[e];cases hf:b.find? λq=>decide (q.2=p.2)with
 |none=>exact EX (GV.1 hf p hp) (by simp)
 |some q=>
  have hq:=Hv hf;have hq2:q.2=p.2:=(by simpa using List.find?_some hf);obtain⟨x,hx⟩:=EK hp;obtain⟨y,hy⟩:=EK hq;have:=tW (b:=b) (j:=p.2) (by rw[hc];split<;>omega) x y _ _ hx hy Y hq2;subst this;rw[hx]at hy;rw[<-E7 hy];rfl
theorem D0 {l:List (List Int)}{b:By}(h:dA l=some b){j:Nat}(hj:j<l.length): ∃p∈b,p.2=(j:Int):=by
 obtain⟨_,hc⟩:=m6 h;exact CL (by rw[hc,E6 (by omega)];omega)
theorem uH {l:List (List Int)}{b:By}(h:dA l=some b)(hk:(b.map (·.1)).Nodup):Others l λj=>(uI b l.length).getD j 0:=by
 obtain⟨hf,hc⟩:=m6 h;have hj: ∀j,j<l.length->∃p∈b,p.2=(j:Int)/\(uI b l.length).getD j 0=p.1:=λj hj=>by
  obtain⟨p,hp,e⟩:=D0 h hj;have h2:=(Cf h hp).2.2;rw[e]at h2;refine⟨p,hp,e,?_⟩;rw[E0,show j=((j:Nat):Int).toNat by omega,h2];rfl
 refine⟨λj h1=> ?_,λj k h1 h2 e=> ?_⟩
 ·obtain⟨p,hp,e1,e2⟩:=hj j h1;have:=hf p hp;rw[e1]at this;show(uI b l.length).getD j 0∈_;rw[e2];simpa using this
 ·obtain⟨p,hp,e1,e2⟩:=hj j h1;obtain⟨q,hq,e3,e4⟩:=hj k h2;have e:p.1=q.1:=by
   have e:(uI b l.length).getD j 0=(uI b l.length).getD k 0:=e;rw[e2,e4]at e;exact e
  have:p=q:=by
   obtain⟨x,hx⟩:=EK hp;obtain⟨y,hy⟩:=EK hq;have hx1:(b.map (·.1))[x]? =some p.1:=(by rw[EJ,hx];rfl);have hy1:(b.map (·.1))[y]? =some p.1:=(by rw[EJ,hy,e];rfl);have:x=y:=by
    obtain⟨h3,h4⟩:=E8.1 hx1;obtain⟨h5,h6⟩:=E8.1 hy1;exact(Ga hk).1 (h4.trans h6.symm)
   subst this;rw[hx]at hy;exact E7 hy
  rw[this]at e1;omega
def gU (b:By):Prop:=(b.map (·.1)).Nodup
theorem gU.up {v i:Int}: ∀{b:By},gU b->gU (upA b v i)
 | [],_=>by
  show List.Nodup [v];simp
 |p::b,h=>by
  obtain⟨h1,h2⟩:=FH.1 (show(p.1::b.map (·.1)).Nodup from h);rw[iD];split
  ·rename_i e;show(v::b.map (·.1)).Nodup;rw[<-e];exact h
  ·rename_i e;refine FH.2 ⟨λh3=> ?_,gU.up h2⟩;obtain⟨q,hq,e2⟩:=EH.1 h3;rcases mem_upA hq with hq|rfl;·exact h1 (EH.2 ⟨q,hq,e2⟩)
   ·exact e e2.symm
theorem s5 {rec:bF->By->Int->Bool×bF×By}{i:Int}(hr: ∀s b k,gU b->gU (rec s b k).2.2): ∀(vs:List Int) (s:bF) (b:By),gU b->gU (jl rec i vs s b).2.2
 | [],s,b,hb=>hb
 |v::vs,s,b,hb=>by
  rw[jl];split;·exact s5 hr vs s b hb
  ·split;·exact hb.up
   ·rename_i k _;have h1:=hr (upA s v true) b k hb;split
    ·rename_i s2 b2 e;rw[e]at h1;exact gU.up h1
    ·rename_i s2 b2 e;rw[e]at h1;exact s5 hr vs s2 b2 h1
theorem yx (l:List (List Int)): ∀(f:Nat) (i:Int) (s:bF) (b:By),gU b->gU (fO l f i s b).2.2
 |0,i,s,b,h=>h
 |f+1,i,s,b,h=>by
  rw[fO];exact s5 (λs b k h=>yx l f k s b h) _ _ _ h
theorem qt {l:List (List Int)}: ∀(n i:Nat) (b b2:By),gU b->eG l n i b=some b2->gU b2
 |0,i,b,b2,hb,h=>by cases h;exact hb
 |n+1,i,b,b2,hb,h=>by
  have h2:=yx l (l.flatten.length+1) (i:Nat) [] b hb;rw[eG]at h;generalize hT:mw l (i:Nat) b=R at*;rw[show fO l (l.flatten.length+1) (i:Nat) [] b=R from hT]at h2;obtain⟨r,s,b3⟩:=R;cases r with
  |false=>cases h
  |true=>exact qt n (i+1) b3 b2 h2 h
theorem zV {l:List (List Int)}{b:By}(h:dA l=some b):gU b:=qt _ _ _ _ (by show List.Nodup [];exact .nil) h
def dK (l:List (List Int)):List Int×Bool:=match dA l with|some b=>(uI b l.length,true)|none=>([],false)
theorem gy (l:List (List Int)):(dK l).2=true↔∃g,Others l g:=by
 unfold dK;cases h:dA l with
 |some b=>exact⟨λ_=>⟨_,uH h (zV h)⟩,λ_=>rfl⟩
 |none=>
  refine⟨λh=>(by cases h),λ⟨g,hg⟩=> ?_⟩;obtain⟨b,hb⟩:=vJ hg;rw[h]at hb;cases hb
theorem zX (d:aa)(vs:List Int)(hl:vs.length*24<=140737488355328):(listsP d vs).length*24<=140737488355328/\∀x∈listsP d vs,x.length*8<=140737488355328:=by
 refine⟨by rw[listsP,EB];exact hl,λx hx=> ?_⟩;obtain⟨v,_,rfl⟩:=EH.1 hx;have:=re (d.getD v.toNat []);omega
def nX (L:List (List Int))(i:Nat):List Int:=(L.getD i []).filter λx=>(dK (L.set i [x])).2
def lL (L:List (List Int)):List Int->Nat->aa->aa
 | [],_,out=>out
 |v::vs,i,out=>lL L vs (i+1) (out.set v.toNat (domOfP (nX L i)).1)
def pJ (d:aa)(vs:List Int):Option aa:=if []∈d then none else if(dK (listsP d vs)).2=true then some (lL (listsP d vs) vs 0 d)else none
theorem uy (d:aa)(c:Con)(hd:jQ d)(hb: ∀x∈d,InB x)(hx: ∀x∈d,x.length*16<=140737488351232)(hv: ∀v∈c.vars,0<=v/\v.toNat<d.length)(hl:c.vars.length*24<=140737488355328):Spec Tryz.prog 133 false [ao d,.agg (cC c)] (aJ (pJ d c.vars)):=by
 refine Spec.body Tryz.func133 Y Y Y λw0 Z0=> ?_;obtain⟨hd1,hd2⟩:=hd;generalize hR:pJ d c.vars=R;unfold pJ at hR;refine .B ?_;refine T.sub (Rel.own0 (s:=6) 54 1 Y) ?_;refine T.K (T.listI d (λpre=>[]∉pre) (λn pre post=>⟨[(0,.val false (ao d)),(3,.optr 0 0 0 0),(6,.ref 1),(20,.val false (ao d)),(21,.val true (.int .i64 (d.map cD).length)),(22,.val true (.int .i64 n))],[(0,some (.box false (cC c))),(1,some (.sl 54 1 true (pre.map cD)))],2⟩) (λ_ _ h=>h) (by simp) ?_ ?_)
 ·rintro n pre x post h hn hi ih;have hlt:=bW h hn;have hxl:=hd2 x (by rw[h];simp);refine .B ?_;refine T.ct2 Y (bV h hn) ?_;refine .B ?_;refine .F (r:=cD x) (aM h hn) ?_;refine T.cd Y (λh1=> ?_) (λh1=> ?_)
  ·have hx:x=[]:=(by simp at h1;exact h1);have:R=none:=(by rw[E6 (by rw[h,hx];simp)]at hR;exact hR.symm);subst this;refine .B ?_;exact⟨_,.ownN Y (.v Y Y Y (λ_=>rfl) .nil)⟩
  ·have hx:x≠[]:=λe=>h1 (by rw[e];rfl);refine .B ?_;refine .D (bT x (by omega)).frz ?_;refine .Z ?_;refine J.aD Y Y Y Y Y Y Y Y Y Y Y Y Y Y Y Y Y Y Y (by omega) ?_;refine .B ?_;rw[ai hlt (by omega)];exact T.K (ih (by simp[hi,Ne.symm hx]))
 ·intro hi;rw[E4 hi]at hR;have hlo:=zX d c.vars hl;have hlen:(listsP d c.vars).length=c.vars.length:=EB ..;have hL4: ∀x∈listsP d c.vars,x.length<=4097:=λx hx=>by
   obtain⟨v,_,rfl⟩:=EH.1 hx;exact re _
  have hsl:=(uz d c.vars ⟨hd1,hd2⟩ hb hx hv hl).frz;generalize listsP d c.vars=L at*;have hsp:=l5 L hlo.1 hlo.2;refine .B ?_;refine T.cf2 Y bj ?_;refine .B ?_;refine .D hsl ?_;have hR2:(dK L).2=(dA L).isSome:=(by unfold dK;cases dA L<;>rfl);rw[hR2]at hR;cases hm:dA L with
  |none=>
   rw[hm]at hsp hR;dsimp only at hsp;obtain rfl:R=none:=(by simpa using hR.symm);refine J.co (qs:=[]) (cs2:=[]) false [] [] Y Y Y Y Y Y hsp trivial Y Y Y Y Y Y Y λns hns=> ?_;obtain rfl:ns=[]:=EQ hns;refine .B ?_;refine T.ct Y ?_;refine .B ?_;exact⟨_,.ownN Y (.v Y Y Y (λ_=>rfl) .nil)⟩
  |some b0=>
  rw[hm]at hsp hR;dsimp only at hsp;obtain rfl:R=some (lL L c.vars 0 d):=(by simpa using hR.symm);refine J.co (qs:=[]) (cs2:=[]) false [] [1001,1002] Y Y Y Y Y Y hsp trivial Y Y Y Y Y Y Y λns hns=> ?_;obtain⟨pm,pb,rfl⟩: ∃pm pb,ns=[pm,pb]:=by
   match ns,hns with
   | [a,b],_=>exact⟨a,b,rfl⟩
  refine .B ?_;refine T.cf Y ?_;refine .B ?_;refine T.K (T.ind (λx:Nat×aa=>⟨[(3,.optr 0 0 0 0),(6,.ref 1),(9,.val true (bC L)),(47,.val false (aq c.vars)),(48,.val true (.int .i64 (c.vars.map cI).length)),(49,.val true (.int .i64 x.1))],[(0,some (.box false (cC c))),(1,some (.sl 54 1 true (x.2.map cD)))],2⟩)
   (λx=>x.1<=c.vars.length/\x.2.length=d.length/\lL L (c.vars.drop x.1) x.1 x.2=lL L c.vars 0 d) (λx=>c.vars.length-x.1) (0,d) ⟨by simp,rfl,rfl⟩ (λ_ _ h=>h) ?_)
  rintro⟨k,out⟩ ⟨hk,hol,hst⟩ ih;simp only at hk hol hst;dsimp only;refine .B ?_;refine T.cd Y (λh1=> ?_) (λh1=> ?_)
  rotate_left
  ·have h1:k=c.vars.length:=(by simp at h1;omega);subst h1;rw[FR,lL]at hst;subst hst;refine .B ?_;exact⟨_,.o Y Y Y (λ_=> .inl Y) (by simp) (.v rfl rfl rfl (λ_=>rfl) .nil)⟩
  have h1:k<c.vars.length:=(by simpa using h1);rw[EP h1,lL]at hst;have hvk:=hv _ (EA h1);have hvr:(c.vars.map cI)[((k:Nat):Int).toNat]? =some (cI c.vars[k]):=ax h1;have hkL:k<L.length:=(by omega);have hrow:(L.map cL)[((k:Nat):Int).toNat]? =some (cL (L.getD k [])):=(by simp[hkL]);have hml:(L.getD k []).length<=4097:=by
   rw[E0,E5 hkL];exact hL4 _ (EA hkL)
  have hw1:IntKind.i64.wrap ((k:Int)+1)=((k+1:Nat):Int):=ai (l:=c.vars.length) h1 (by omega);refine .B ?_;refine .I (r:=cI c.vars[k]) hvr ?_;generalize c.vars[k]=v at*;refine .B ?_;refine J.sub (Rel.own0 (s:=14) 3 1 Y) ?_;refine .F (r:=cL (L.getD k [])) hrow ?_;have hlf:nX L k=(L.getD k []).filter λx=>(dK (L.set k [x])).2:=rfl;generalize L.getD k []=Lk at*;have hlL:(nX L k).length<=Lk.length:=(by rw[hlf];exact Ez ..);refine T.K (T.list Lk (λn pre post=>⟨[(3,.optr 0 0 0 0),(6,.ref 1),(9,.val true (bC L)),(12,.val true (.int .i64 k)),(13,.val true (.int .i64 v)),(14,.ref 2),(47,.val false (aq c.vars)),(48,.val true (.int .i64 (c.vars.map cI).length)),(49,.val true (.int .i64 k)),(57,.val true (aq Lk)),(58,.val true (.int .i64 (Lk.map cI).length)),(59,.val true (.int .i64 n))],
    [(0,some (.box false (cC c))),(1,some (.sl 54 1 true (out.map cD))),(2,some (.sl 3 1 true ((pre.filter λx=>(dK (L.set k [x])).2).map cI)))],3⟩) (λ_ _ h=>h) ?_ ?_)
  ·rintro n pre x post h hn ih2;have hlt:=bW h hn;have hfl:(pre.filter λx=>(dK (L.set k [x])).2).length<=pre.length:=Ez ..;have hwn:IntKind.i64.wrap ((n:Int)+1)=((n+1:Nat):Int):=ai hlt (by omega);have hset: ∀y∈L.set k [x],y.length*8<=140737488355328:=λy hy=>by
    rcases EV hy with hy|rfl;·exact hlo.2 y hy
    ·simp
   have hsp2:=l5 (L.set k [x]) (by rw[FA];exact hlo.1) hset;have hR3:(dK (L.set k [x])).2=(dA (L.set k [x])).isSome:=(by unfold dK;cases dA (L.set k [x])<;>rfl);refine .B ?_;refine T.ct2 Y (bV h hn) ?_;refine .B ?_;refine .F (r:=cI x) (aM h hn) ?_;refine .D (wF L hlo.1) ?_;refine .Z ?_;refine J.io Y Y Y Y Y Y Y Y Y (by omega) (by rw[EB];omega) Y ?_;refine .B ?_;refine J.w1 Y Y Y Y Y Y Y Y Y Y Y (z:=[x]) (λ_=>rfl) (by omega) ?_;refine .B ?_;refine J.sub (Rel.frz (s:=71) (λ_ h=>h) Y Y) ?_;cases hm2:dA (L.set k [x])with
   |none=>
    rw[hm2]at hsp2 hR3;dsimp only at hsp2;have hx2:(pre++[x]).filter (λx=>(dK (L.set k [x])).2)=pre.filter λx=>(dK (L.set k [x])).2:=by
     rw[Fh,G4 (by rw[hR3];simp)];simp
    rw[hx2]at ih2;refine J.co (qs:=[]) (cs2:=[]) false [] [] Y Y Y Y Y Y hsp2 trivial Y Y Y Y Y Y Y λns hns=> ?_;obtain rfl:ns=[]:=EQ hns;refine .B ?_;refine T.cf Y ?_;refine .B ?_;rw[hwn];exact T.K ih2
   |some b2=>
    rw[hm2]at hsp2 hR3;dsimp only at hsp2;have hx2:(pre++[x]).filter (λx=>(dK (L.set k [x])).2)=pre.filter (λx=>(dK (L.set k [x])).2)++[x]:=by
     rw[Fh,Fu (by rw[hR3];simp)];simp
    rw[hx2]at ih2;refine J.co (qs:=[]) (cs2:=[]) false [] [1003,1004] Y Y Y Y Y Y hsp2 trivial Y Y Y Y Y Y Y λns hns=> ?_;obtain⟨pm2,pb2,rfl⟩: ∃pm2 pb2,ns=[pm2,pb2]:=by
     match ns,hns with
     | [a,b],_=>exact⟨a,b,rfl⟩
    refine .B ?_;refine T.ct Y ?_;refine .B ?_;refine .Z ?_;refine J.aI Y Y Y Y Y Y Y Y Y Y Y Y Y Y Y Y Y Y Y (by omega) ?_;refine .B ?_;rw[hwn];exact T.K ih2
  ·rw[<-hlf];refine .B ?_;refine T.cf2 Y bj ?_;refine .B ?_;refine .D (lA (nX L k) (by omega)).frz ?_;refine J.io Y Y Y Y Y Y Y Y Y hvk.1 (by rw[EB,hol];exact hvk.2) Y ?_;refine .B ?_;refine J.w1 Y Y Y Y Y Y Y Y Y Y Y (z:=(domOfP (nX L k)).1) (λ_=>rfl) (by rw[hol];exact hvk.2) ?_;refine .B ?_;rw[hw1];exact T.K (ih (k+1,out.set v.toNat (domOfP (nX L k)).1) ⟨by omega,by rw[FA];exact hol,hst⟩ (by show _-_<_-_;omega))
structure ValD (d:aa):Prop where
 small:d.length*24<=140737488355328
 inb: ∀x∈d,InB x
 len: ∀x∈d,x.length*16<=140737488351232
 vals: ∀x∈d,(vals x).length<=4097
theorem ValD.dom {d:aa}(h:ValD d){v:Int}(hv:v.toNat<d.length):domAt d v∈d:=by
 unfold domAt;rw[E0,E5 hv];exact EA hv
theorem y5 {d:aa}{v:Int}(hv:v.toNat<d.length):(d.map cD)[v.toNat]? =some (cD (domAt d v)):=by simp[domAt,hv]
def kB (d:aa)(vars:List Int):Nat->List Int->Bool
 |0,_=>true
 |n+1,had=>(vals (domAt d (vars.getD had.length 0))).any λx=> !decide (x∈had)&&kB d vars n (had++[x])
theorem BT (d:aa)(vars:List Int)(hd:ValD d)(hv: ∀v∈vars,0<=v/\v.toNat<d.length)(hl:vars.length*8<=140737488355328): ∀(n:Nat) (had:List Int),n+had.length=vars.length->
  Spec Tryz.prog 237 false [ao d,aq vars,aq had] [.val (.bool (kB d vars n had))]:=by
 intro n
 induction n with
 |zero=>
  intro had hn;refine Spec.body Tryz.func237 Y Y Y λw0 Z0=> ?_;refine .B ?_;refine T.cd Y (λh=> ?_) (λh=> ?_)
  ·refine .B ?_;exact r1
  ·simp only[EB]at h;omega
 |succ n ihn=>
  intro had hn;refine Spec.body Tryz.func237 Y Y Y λw0 Z0=> ?_;have hvm:vars[had.length]'(by omega)∈vars:=EA _;have hvr:(vars.map cI)[(((had.map cI).length:Nat):Int).toNat]? =some (cI (vars.getD had.length 0)):=by
   rw[EB];have:had.length<vars.length:=(by omega);simp[this]
  have hvd:vars.getD had.length 0∈vars:=by
   rw[E0,E5 (by omega)];exact hvm
  have hva:=hv _ hvd;have hdm:=hd.dom hva.2;have hvs:=(bB (domAt d (vars.getD had.length 0)) (hd.inb _ hdm) (by have:=hd.vals _ hdm;omega) (by have:=hd.len _ hdm;omega)).frz;have hvl:=hd.vals _ hdm;rw[kB];generalize vars.getD had.length 0=v at*;refine .B ?_;refine T.cd Y (λh=> ?_) (λh=> ?_);·simp only[EB]at h;omega
  refine .B ?_;refine .F (r:=cI v) hvr ?_;refine J.i Y Y Y Y Y Y Y Y Y (r:=cD (domAt d v)) hva.1 (y5 hva.2) Y ?_;refine .B ?_;refine .D hvs ?_;generalize vals (domAt d v)=l at*;refine T.K (T.listI l (λpre=>(pre.any λx=> !decide (x∈had)&&kB d vars n (had++[x]))=false) (λk pre post=>⟨[(0,.val false (ao d)),(1,.val false (aq vars)),(2,.val false (aq had)),(7,.val true (aq l)),(8,.val true (.int .i64 k))],[],0⟩) (λ_ _ h=>h) Y ?_ ?_)
  ·rintro k pre x post h hk hi ih;have hlt:=bW h hk;have hhs:=mt had x (by omega);refine .B ?_;refine T.ct2 Y (bV h hk) ?_;refine .B ?_;refine .Q ?_;refine J.a Y Y Y Y Y Y Y Y Y Y Y Y Y Y Y Y Y jE (by show(0+List.length _)*8<=_;simp;omega) ?_;refine .B ?_;refine .F (r:=cI x) (aM h hk) ?_;refine .Z ?_;refine J.aI (l:=had) (x:=x) Y Y Y Y Y Y Y Y Y Y Y Y Y Y Y Y Y Y Y (by omega) ?_;refine .B ?_;refine .F (r:=cI x) (aM h hk) ?_;refine .C hhs ?_;by_cases hm:x∈had
   ·rw[EF hm];refine .B ?_;refine T.cf Y ?_;refine .B ?_;rw[ai hlt (by omega)];exact T.K (ih (by rw[Hj,hi];simp[hm]))
   ·rw[EE hm];refine .B ?_;refine .D (ihn (had++[x]) (by simp;omega)) ?_;cases he:kB d vars n (had++[x])with
    |true=>
     refine T.ct Y ?_;refine .B ?_;refine⟨_,.v Y Y ?_ (λ_=>rfl) .nil⟩;rw[h];simp[hm,he]
    |false=>
     refine T.cf Y ?_;refine .B ?_;rw[ai hlt (by omega)];exact T.K (ih (by rw[Hj,hi];simp[hm,he]))
  ·intro hi;rw[hi];refine .B ?_;refine T.cf2 Y bj ?_;refine .B ?_;exact r1
theorem Bh (d:aa)(vars:List Int)(hd:ValD d)(hv: ∀v∈vars,0<=v/\v.toNat<d.length)(hl:vars.length*8<=140737488355328):
  Spec Tryz.prog 207 false [ao d,aq vars] [.val (.bool (kB d vars vars.length []))]:=by
 refine Spec.body Tryz.func207 Y Y Y λw0 Z0=> ?_;refine .B ?_;refine .O ?_;refine .D (BT d vars hd hv hl vars.length [] Y) ?_;exact r1
def fF (d:aa)(vars:List Int)(v:Int):List Int:=(vals (domAt d v)).filter λx=>kB (d.set v.toNat [(x,x)]) vars vars.length []
def step8 (d:aa)(vars:List Int):List Int->aa->aa
 | [],out=>out
 |v::vs,out=>step8 d vars vs (out.set v.toNat (bX (fF d vars v)))
def dz (d:aa)(vars:List Int):Option aa:=if []∈d then none else if []∈step8 d vars vars d then none else some (step8 d vars vars d)
theorem ValD.one {d:aa}(h:ValD d)(i:Nat){x:Int}(hx: -1048576<=x/\x<=1048576):ValD (d.set i [(x,x)]):=by
 have key: ∀y∈d.set i [(x,x)],y∈d∨y=[(x,x)]:=λy hy=>EV hy;refine⟨by rw[FA];exact h.small,λy hy=> ?_,λy hy=> ?_,λy hy=> ?_⟩
 ·rcases key y hy with hy|rfl;·exact h.inb y hy
  ·intro r hr;obtain rfl:=EI.1 hr;exact⟨hx.1,hx.2,hx.1,hx.2⟩
 ·rcases key y hy with hy|rfl;·exact h.len y hy
  ·simp
 ·rcases key y hy with hy|rfl;·exact h.vals y hy
  ·have:Go.Proofs.YtopcjbahjjhdmaaGreat.vals [(x,x)]=[x]:=by
    show rng x x++[]=_;rw[cH];rfl
   rw[this];simp
theorem ve (d:aa)(c:Con)(hd:ValD d)(hv: ∀v∈c.vars,0<=v/\v.toNat<d.length)(hl:c.vars.length*8<=140737488355328):
  Spec Tryz.prog 146 false [ao d,.agg (cC c)] [.val (ao ((dz d c.vars).getD [])),.val (.bool (dz d c.vars).isSome)]:=by
 refine Spec.body Tryz.func146 Y Y Y λw0 Z0=> ?_;have hds:=hd.small;have hls:=cJ d hd.small (λx hx=>by have:=hd.len x hx;omega);refine .B ?_;refine .D (dN d (by omega)) ?_;generalize hR:dz d c.vars=R;unfold dz at hR;refine T.cond Y (λhe=> ?_) (λhe=> ?_)
 ·have he: []∈d:=(by simpa using he);rw[E6 he]at hR;subst hR;refine .B ?_;exact r2
 have he: []∉d:=(by simpa using he);rw[E4 he]at hR;refine .B ?_;refine .D hls ?_;refine T.K (T.ind (λx:Nat×aa=>⟨[(0,.val false (ao d)),(3,.optr 0 0 0 0),(6,.ref 1),(7,.val true (.int .i64 x.1))],[(0,some (.box false (cC c))),(1,some (.sl 54 1 true (x.2.map cD)))],2⟩)
  (λx=>x.1<=c.vars.length/\x.2.length=d.length/\step8 d c.vars (c.vars.drop x.1) x.2=step8 d c.vars c.vars d) (λx=>c.vars.length-x.1) (0,d) ⟨by simp,rfl,rfl⟩ (λ_ _ h=>h) ?_)
 rintro⟨k,out⟩ ⟨hk,hol,hst⟩ ih;simp only at hk hol hst;dsimp only;refine .B ?_;refine T.cd Y (λh1=> ?_) (λh1=> ?_)
 rotate_left
 ·have h1:k=c.vars.length:=(by simp at h1;omega);subst h1;rw[FR,step8]at hst;subst hst;have hto:=jT (step8 d c.vars c.vars d) (by rw[hol];omega);generalize step8 d c.vars c.vars d=out at*;refine .B ?_;refine J.sub (Rel.frz (s:=78) (λ_ h=>h) Y Y) ?_;refine J.ct Y Y Y Y Y hto Y Y ?_;refine .B ?_;subst hR;by_cases hn: []∈out
  ·rw[E6 hn,E6 hn,EF hn];exact r2
  ·rw[E4 hn,E4 hn,EE hn];exact r2
 have h1:k<c.vars.length:=(by simpa using h1);rw[EP h1,step8]at hst;have hvk:=hv _ (EA h1);have hvr:(c.vars.map cI)[((k:Nat):Int).toNat]? =some (cI c.vars[k]):=ax h1;have hw1:IntKind.i64.wrap ((k:Int)+1)=((k+1:Nat):Int):=ai (l:=c.vars.length) h1 (by omega);generalize c.vars[k]=v at*;have hdm:=hd.dom hvk.2;have hvs:=(bB (domAt d v) (hd.inb _ hdm) (by have:=hd.vals _ hdm;omega) (by have:=hd.len _ hdm;omega)).frz;have hvl:=hd.vals _ hdm;have hvi:=oC (hd.inb _ hdm);have hl8:fF d c.vars v=(vals (domAt d v)).filter λx=>kB (d.set v.toNat [(x,x)]) c.vars c.vars.length []:=rfl;refine .B ?_;refine .F (r:=cI v) hvr ?_;refine J.i Y Y Y Y Y Y Y Y Y (r:=cD (domAt d v)) hvk.1 (y5 hvk.2) Y ?_;refine .B ?_;refine .C hvs ?_;refine .Q ?_;generalize vals (domAt d v)=l at*;have hll:(fF d c.vars v).length<=l.length:=(by rw[hl8];exact Ez ..);refine T.K (T.list l (λn pre post=>⟨[(0,.val false (ao d)),(3,.optr 0 0 0 0),(6,.ref 1),(7,.val true (.int .i64 k)),(8,.val true (aq l)),(9,.ref 2),(10,.val true (.int .i64 n))],
   [(0,some (.box false (cC c))),(1,some (.sl 54 1 true (out.map cD))),(2,some (.sl 3 1 true ((pre.filter λx=>kB (d.set v.toNat [(x,x)]) c.vars c.vars.length []).map cI)))],3⟩) (λ_ _ h=>h) ?_ ?_)
 ·rintro n pre x post h hn ih2;have hlt:=bW h hn;have hfl:(pre.filter λx=>kB (d.set v.toNat [(x,x)]) c.vars c.vars.length []).length<=pre.length:=Ez ..;have hwn:IntKind.i64.wrap ((n:Int)+1)=((n+1:Nat):Int):=ai hlt (by omega);have hxi:=hvi x (by rw[h];simp);have hos:=Bh (d.set v.toNat [(x,x)]) c.vars (hd.one v.toNat hxi) (λu hu=>by rw[FA];exact hv u hu) hl;refine .B ?_;refine T.ct2 Y (bV h hn) ?_;refine .B ?_;refine .D hls ?_;refine T.rdm 16 Y (by kernel_rfl) Y ?_;refine .M ?_;refine .I (r:=cI v) hvr ?_;refine .M ?_;refine .I (r:=cI x) (aM h hn) ?_;refine .M ?_;refine .I (r:=cI x) (aM h hn) ?_;refine .M ?_;refine .V ?_;refine .M ?_;refine J.io Y Y Y Y Y Y Y Y Y hvk.1 (by rw[EB];exact hvk.2) Y ?_;refine .M ?_;refine J.w1 Y Y Y Y Y Y Y Y Y Y Y (z:=[(x,x)]) (λ_=>rfl) hvk.2 ?_;refine .B ?_;refine .D hos ?_;cases he2:kB (d.set v.toNat [(x,x)]) c.vars c.vars.length []with
  |false=>
   rw[Fh,G4 (by simp[he2]),List.filter_nil,FU]at ih2;refine T.cf Y ?_;refine .B ?_;rw[hwn];exact T.K ih2
  |true=>
   rw[Fh,Fu (by simp[he2]),List.filter_nil]at ih2;refine T.ct Y ?_;refine .B ?_;refine .F (r:=cI x) (aM h hn) ?_;refine .Z ?_;refine J.aI Y Y Y Y Y Y Y Y Y Y Y Y Y Y Y Y Y Y Y (by omega) ?_;refine .B ?_;rw[hwn];exact T.K ih2
 ·rw[<-hl8];have hpk:=(im (fF d c.vars v) (λx hx=>by
   rw[hl8]at hx;have:=hvi x (FB.1 hx).1;omega) (by omega)).frz
  refine .B ?_;refine T.cf2 Y bj ?_;refine .B ?_;refine T.rdm 8 Y (by kernel_rfl) Y ?_;refine .M ?_;refine .I (r:=cI v) hvr ?_;refine .M ?_;refine .C hpk ?_;refine .M ?_;refine J.io Y Y Y Y Y Y Y Y Y hvk.1 (by rw[EB,hol];exact hvk.2) Y ?_;refine .M ?_;refine J.w1 Y Y Y Y Y Y Y Y Y Y Y (z:=bX (fF d c.vars v)) (λ_=>rfl) (by rw[hol];exact hvk.2) ?_;refine .B ?_;rw[hw1];exact T.K (ih (k+1,out.set v.toNat (bX (fF d c.vars v))) ⟨by omega,by rw[FA];exact hol,hst⟩ (by show _-_<_-_;omega))
def Ax (vars:List Int):Con:=⟨1,vars,[],0,0,[],0⟩
theorem xw {l:List Int}(h:Up l):packG l=bX l:=by
 have key: ∀(l:List Int) (o:List (Int×Int)) (lo x:Int),Up (x::l)->l.foldl gN (o++[(lo,x)])=o++dn lo x l:=by
  intro l
  induction l with
  |nil=>intro o lo x _;rfl
  |cons y l ih=>
   intro o lo x hu;have h1:=Ei.1 hu;have hxy:=h1.1 y (.head _);rw[En,iJ,E4 (by omega),dn];by_cases e:y=x+1;·rw[E6 (by omega),E6 e,ih _ _ _ h1.2]
   ·rw[E4 (by omega),E4 e,ih _ _ _ h1.2,F5];rfl
 cases l with
 |nil=>rfl
 |cons x l=>
  show l.foldl gN (gN [] x)=_;rw[rJ];exact key l [] x x h
theorem AU {l:List Int}(h:Up l):c8 l=l:=List.mergeSort_of_pairwise (h.imp λh=>by simp;omega)
theorem po {d:List (Int×Int)}(h:Fine d):gp d=((vals d).length:Nat):=by
 have hb:=h.domB.1;have hf:=h.few;have hok:=h.ok;have key: ∀(d:List (Int×Int)) (n:Nat),InB d->(∀r∈d,r.1<=r.2)->n+(vals d).length<=1000000000000000->d.foldl (λn r=>wr (n+wr (wr (r.2-r.1)+1))) (n:Int)=((n+(vals d).length:Nat):Int):=by
  intro d
  induction d with
  |nil=>intro n _ _ _;simp[vals]
  |cons r d ih=>
   intro n hb ho hl;have h1:=hb r (.head _);have h2:=ho r (.head _);rw[bD,EZ,show(rng r.1 r.2).length=(r.2+1-r.1).toNat by simp[rng]]at hl⊢;rw[En];have e:wr ((n:Int)+wr (wr (r.2-r.1)+1))=((n+(r.2+1-r.1).toNat:Nat):Int):=by
    simp only[wr];rw[af (n:=r.2-r.1) (by omega) (by omega),af (n:=r.2-r.1+1) (by omega) (by omega),af (by omega) (by omega)];omega
   rw[e,ih _ (λr hr=>hb r (.tail _ hr)) (λr hr=>ho r (.tail _ hr)) (by omega)];congr 1;omega
 have:=key d 0 hb hok.1 (by omega);simpa[gp]using this
theorem lq {l:List Int}(h:Up l)(hv: ∀v∈l,-1048576<=v/\v<=1048576)(hn:l.length<=4096):Fine (bX l):=by
 refine⟨fR h,?_,?_⟩;·rw[bH h];exact hv
 ·rw[bH h];omega
theorem sK {l:List Int}(h:Up l)(hv: ∀v∈l,-1048576<=v/\v<=1048576)(hn:l.length<=4096):domOfP l=(bX l,0):=by
 unfold domOfP;rw[AU h,xw h,po (lq h hv hn),bH h,E6 (EN.2 λv hm=>by simpa[aN]using hv v hm),E4 (by omega)]
structure FewD (d:aa):Prop where
 small:d.length*24<=140737488355328
 fine: ∀x∈d,Fine x
 few: ∀x∈d,(vals x).length<=4096
theorem FewD.valD {d:aa}(h:FewD d):ValD d:=⟨h.small,λx hx=>(h.fine x hx).domB.1,λx hx=>by have:=(h.fine x hx).len;omega,λx hx=>by have:=h.few x hx;omega⟩
theorem AK {x:List (Int×Int)}(h:(vals x).length<=4096):rg x=vals x:=EY (by omega)
theorem FewD.at {d:aa}(h:FewD d)(v:Int):(vals (domAt d v)).length<=4096/\Up (vals (domAt d v))/\∀x∈vals (domAt d v),-1048576<=x/\x<=1048576:=by
 unfold domAt;by_cases hv:v.toNat<d.length
 ·rw[E0,E5 hv];have hm:d[v.toNat]∈d:=EA hv;exact⟨h.few _ hm,aG (h.fine _ hm).ok,(h.fine _ hm).val⟩
 ·rw[E0,FD (by omega)];exact⟨by simp[vals],.nil,λx hx=>by cases hx⟩
theorem fm {d:aa}(h:FewD d)(vs:List Int):listsP d vs=vs.map λv=>vals (domAt d v):=
 F6 λv _=>AK (h.at v).1
theorem qz (d:aa)(vars:List Int): ∀(n:Nat) (had:List Int),had.Nodup->(kB d vars n had=true↔∃rest:List Int,rest.length=n/\(∀k,k<n->rest.getD k 0∈vals (domAt d (vars.getD (had.length+k) 0)))/\(had++rest).Nodup)
 |0,had,hn=>by
  rw[kB];exact⟨λ_=>⟨[],rfl,λk hk=>by omega,by simpa using hn⟩,λ_=>rfl⟩
 |n+1,had,hn=>by
  rw[kB,Fa];constructor
  ·rintro⟨x,hx,h⟩;simp only[EL,FZ,decide_eq_false_iff_not]at h;have hn2:(had++[x]).Nodup:=H5.2 ⟨hn,by simp,λa ha b hb=>by
    obtain rfl:=EI.1 hb;exact λe=>h.1 (e▸ha)⟩
   obtain⟨rest,h1,h2,h3⟩:=(qz d vars n (had++[x]) hn2).1 h.2;refine⟨x::rest,by simp[h1],λk hk=> ?_,by simpa using h3⟩;cases k with
   |zero=>exact hx
   |succ k=>
    have:=h2 k (by omega);rw[EZ,show had.length+ [x].length+k=had.length+(k+1)by simp;omega]at this;exact this
  ·rintro⟨rest,h1,h2,h3⟩;cases rest with
   |nil=>cases h1
   |cons x rest=>
    have hx:x∉had:=λhm=>by
     have:=(H5.1 h3).2.2 x hm x (.head _);exact this Y
    have h4:((had++[x])++rest).Nodup:=(by simpa using h3);refine⟨x,h2 0 (by omega),?_⟩;simp only[EL,FZ,decide_eq_false_iff_not];refine⟨hx,(qz d vars n (had++[x]) (H5.1 h4).1).2 ⟨rest,by simpa using h1,λk hk=> ?_,h4⟩⟩;have:=h2 (k+1) (by omega);rw[EZ,show had.length+ [x].length+k=had.length+(k+1)by simp;omega];exact this
theorem xx {d:aa}(h:FewD d)(vars:List Int):kB d vars vars.length []=(dK (listsP d vars)).2:=by
 have key:kB d vars vars.length []=true↔∃g,Others (listsP d vars) g:=by
  rw[qz d vars vars.length [] .nil,fm h];have hg: ∀j,j<vars.length->(vars.map λv=>vals (domAt d v)).getD j []=vals (domAt d (vars.getD j 0)):=λj hj=>(by simp[hj]);constructor
  ·rintro⟨rest,h1,h2,h3⟩;rw[Ff]at h3;refine⟨λj=>rest.getD j 0,λj hj=> ?_,λj k hj hk e=> ?_⟩
   ·rw[EB]at hj;rw[hg j hj];have:=h2 j hj;simpa using this
   ·rw[EB]at hj hk;have e:rest.getD j 0=rest.getD k 0:=e;rw[E0,E0,E5 (by omega),E5 (by omega)]at e;exact(Ga h3).1 e
  ·rintro⟨g,h1,h2⟩;rw[EB]at h1 h2;refine⟨(List.range vars.length).map g,by simp,λk hk=> ?_,?_⟩
   ·have:=h1 k hk;rw[hg k hk]at this;simpa[hk]using this
   ·rw[Ff];exact f8 List.nodup_range λx hx y hy e=>h2 x y (ES.1 hx) (ES.1 hy) e
 rw[GQ,key,gy]
theorem FewD.one {d:aa}(h:FewD d)(i:Nat){x:Int}(hx: -1048576<=x/\x<=1048576):FewD (d.set i [(x,x)]):=by
 have key: ∀y∈d.set i [(x,x)],y∈d∨y=[(x,x)]:=λy hy=>EV hy;have hv:vals [(x,x)]=[x]:=by
  show rng x x++[]=_;rw[cH];rfl
 refine⟨by rw[FA];exact h.small,λy hy=> ?_,λy hy=> ?_⟩
 ·rcases key y hy with hy|rfl;·exact h.fine y hy
  ·refine⟨⟨λr hr=> ?_,by simp⟩,?_,?_⟩
   ·obtain rfl:=EI.1 hr;exact FS _
   ·rw[hv];intro v hm;obtain rfl:=EI.1 hm;exact hx
   ·rw[hv];simp
 ·rcases key y hy with hy|rfl;·exact h.few y hy
  ·rw[hv];simp
theorem Up.filter {l:List Int}(h:Up l)(p:Int->Bool):Up (l.filter p):=List.Pairwise.filter p h
def jk (d:aa)(vars:List Int):Prop:=vars.Nodup/\∀v∈vars,0<=v/\v.toNat<d.length
theorem lx {d:aa}(h:FewD d){vars:List Int}(hv:jk d vars){i:Nat}(hi:i<vars.length){x:Int}(hx: -1048576<=x/\x<=1048576):listsP (d.set vars[i].toNat [(x,x)]) vars=(listsP d vars).set i [x]:=by
 rw[fm h,fm (h.one _ hx)];apply GT (by simp);intro j h1 h2;have hj:j<vars.length:=(by simpa using h1);rw[GX,List.getElem_set,GX];unfold domAt;rw[E0,FP];by_cases e:i=j
 ·subst e;rw[E6 Y,E6 Y,E6 (hv.2 _ (EA hi)).2];show rng x x++[]=_;rw[cH];rfl
 ·have e2: ¬vars[i].toNat=vars[j].toNat:=λe2=>by
   have h3:=(hv.2 _ (EA hi)).1;have h4:=(hv.2 _ (EA hj)).1;exact e ((Ga hv.1).1 (by omega:vars[i]=vars[j]))
  rw[E4 e,E4 e2,<-E0]
theorem Cx {d:aa}(h:FewD d){vars:List Int}(hv:jk d vars){i:Nat}(hi:i<vars.length):nX (listsP d vars) i=fF d vars vars[i]:=by
 unfold nX fF;have e:(listsP d vars).getD i []=vals (domAt d vars[i]):=(by rw[fm h];simp[hi]);rw[e];refine List.filter_congr λx hx=> ?_;have hxr:=(h.at vars[i]).2.2 x hx;rw[<-lx h hv hi hxr,xx (h.one _ hxr)]
theorem mi {d:aa}(h:FewD d)(vars:List Int)(v:Int):Up (fF d vars v)/\(fF d vars v).length<=4096/\(∀x∈fF d vars v,-1048576<=x/\x<=1048576):=by
 obtain⟨h1,h2,h3⟩:=h.at v;exact⟨h2.filter _,Em (Ez ..) h1,λx hx=>h3 x (FB.1 hx).1⟩
theorem yA {d:aa}(h:FewD d){vars:List Int}(hv:jk d vars): ∀(n i:Nat) (out:aa),n+i=vars.length->lL (listsP d vars) (vars.drop i) i out=step8 d vars (vars.drop i) out
 |0,i,out,hi=>by
  rw[Fb (by omega)];rfl
 |n+1,i,out,hi=>by
  have hil:i<vars.length:=(by omega);rw[EP hil,lL,step8,Cx h hv hil];obtain⟨h1,h2,h3⟩:=mi h vars vars[i];rw[sK h1 h3 h2];exact yA h hv n (i+1) _ (by omega)
theorem jU (d:aa)(vars:List Int): ∀(vs:List Int) (out:aa),(step8 d vars vs out).length=out.length
 | [],out=>rfl
 |v::vs,out=>by rw[step8,jU d vars vs,FA]
theorem lN {d:aa}{vars:List Int}: ∀{vs:List Int} {out:aa} (j:Nat),vs.Nodup->(∀v∈vs,0<=v/\v.toNat<out.length)->(step8 d vars vs out)[j]? =if(j:Int)∈vs then some (bX (fF d vars j))else out[j]?
 | [],out,j,_,_=>by simp[step8]
 |v::vs,out,j,hn,hv=>by
  obtain⟨h1,h2⟩:=FH.1 hn;have hv0:=hv v (.head _);rw[step8,lN j h2 (λu hu=>by rw[FA];exact hv u (.tail _ hu)),FP];by_cases e:v.toNat=j
  ·have e2:v=(j:Int):=(by omega);subst e2;rw[E4 h1,E6 (List.mem_cons_self ..),E6 e,E6 hv0.2]
  ·by_cases hm:(j:Int)∈vs;·rw[E6 hm,E6 (.tail _ hm)]
   ·have hn2: ¬(j:Int)∈v::vs:=λh=>by
     rcases ET.1 h with h|h;·exact e (by omega)
     ·exact hm h
    rw[E4 hm,E4 hn2,E4 e]
theorem j9 {d:aa}(h:FewD d){vars:List Int}(hv:jk d vars){i:Nat}(hi:i<vars.length)(x:Int):x∈fF d vars vars[i]↔∃g,Others (listsP d vars) g/\g i=x:=by
 have hL:(listsP d vars).getD i []=vals (domAt d vars[i]):=(by rw[fm h];simp[hi]);have hlen:(listsP d vars).length=vars.length:=EB ..;unfold fF;rw[FB];constructor
 ·rintro⟨hx,he⟩;have hxr:=(h.at vars[i]).2.2 x hx;rw[xx (h.one _ hxr),gy,lx h hv hi hxr]at he;obtain⟨g,h1,h2⟩:=he;rw[FA]at h1 h2;have hgi:g i=x:=by
   have:=h1 i (by omega);rw[E0,FP,E6 Y,E6 (by omega)]at this;simpa using this
  refine⟨g,⟨λj hj=> ?_,h2⟩,hgi⟩;by_cases e:j=i;·subst e;rw[hL,hgi];exact hx
  ·have:=h1 j hj;rw[E0,FP,E4 (Ne.symm e),<-E0]at this;exact this
 ·rintro⟨g,⟨h1,h2⟩,rfl⟩;have hx:=h1 i (by omega);rw[hL]at hx;have hxr:=(h.at vars[i]).2.2 _ hx;refine⟨hx,?_⟩;rw[xx (h.one _ hxr),gy,lx h hv hi hxr];refine⟨g,λj hj=> ?_,λj k hj hk=> ?_⟩
  ·rw[FA]at hj;rw[E0,FP];by_cases e:i=j;·subst e;rw[E6 Y,E6 hj];simp
   ·rw[E4 e,<-E0];exact h1 j hj
  ·rw[FA]at hj hk;exact h2 j k hj hk
theorem yJ {l:List Int}(h:l≠[]):bX l≠[]:=by
 cases l with
 |nil=>exact EX rfl h
 |cons x l=>
  have: ∀(l:List Int) (lo x:Int),dn lo x l≠[]:=by
   intro l
   induction l with
   |nil=>intro lo x;simp[dn]
   |cons y l ih=>intro lo x;rw[dn];split;exact ih _ _;simp
  exact this l x x
theorem A9 {d:aa}(h:FewD d){vars:List Int}(hv:jk d vars)(hne:vars≠[]):pJ d vars=dz d vars:=by
 unfold pJ dz;by_cases he: []∈d;·rw[E6 he,E6 he]
 rw[E4 he,E4 he];have hst:=yA h hv vars.length 0 d (by omega);rw[List.drop_zero]at hst;rw[hst];have hat:=λj=>lN (d:=d) (vars:=vars) (out:=d) j hv.1 hv.2;by_cases hm:(dK (listsP d vars)).2=true
 ·rw[E6 hm,E4];intro hem;obtain⟨j,hj⟩:=EK hem;rw[hat j]at hj;split at hj
  ·rename_i hjm;obtain⟨i,hi,e⟩:=G8 hjm;obtain⟨g,hg⟩:=(gy _).1 hm;have hl:=(j9 h hv hi (g i)).2 ⟨g,hg,rfl⟩;rw[e]at hl;exact yJ (λe2=>by rw[e2]at hl;cases hl) (E7 hj)
  ·exact he (EC hj)
 ·rw[E4 hm,E6];cases hvs:vars with
  |nil=>exact EX hvs hne
  |cons v vs=>
   have hi:0<vars.length:=(by rw[hvs];simp);have hv0:=hv.2 _ (EA hi);have hl:fF d vars vars[0]=[]:=by
    cases hl:fF d vars vars[0]with
    |nil=>rfl
    |cons x l=>
     obtain⟨g,hg,_⟩:=(j9 h hv hi x).1 (by rw[hl];exact .head _);exact EX ((gy _).2 ⟨g,hg⟩) hm
   have:=hat vars[0].toNat;have e:((vars[0].toNat:Nat):Int)=vars[0]:=(by omega);rw[e,E6 (EA hi),hl]at this;rw[<-hvs];exact EC this
def badR (d:List (Int×Int))(i:Nat):Bool:= !aN (d.getD i (0,0)).1||(!aN (d.getD i (0,0)).2||(decide ((d.getD i (0,0)).1 > (d.getD i (0,0)).2)||(decide ((i:Int) > 0)&&decide ((d.getD i (0,0)).1-(d.getD (i-1) (0,0)).2<2))))
def sizeI (d:List (Int×Int)):Int:=(d.map λr=>r.2-r.1+1).sum
def chkR (d:List (Int×Int)):Int:=if(List.range d.length).any (badR d)then 20 else if sizeI d > 4096 then 2 else 0
theorem u4 (d:List (Int×Int))(hl:d.length<=1048576):Spec Tryz.prog 31 false [dm d] [.val (.int .i64 (chkR d))]:=by
 refine Spec.body Tryz.func31 Y Y Y λw0 Z0=> ?_;generalize hR:chkR d=R;refine .B ?_;refine T.K (T.ind (λi:Nat=>⟨[(0,.val false (dm d)),(3,.val true (.int .i64 (sizeI (d.take i)))),(4,.val true (.int .i64 i))],[],0⟩) (λi=>i<=d.length/\(0<=sizeI (d.take i)/\sizeI (d.take i)<=i*4194304)/\∀j,j<i->badR d j=false) (λi=>d.length-i) 0 ⟨Er _,by simp[sizeI],λj hj=>EX hj (FK j)⟩ (λ_ _ h=>h) ?_);rintro i ⟨hi,hn,hb⟩ ih;refine .B ?_;refine T.cd Y (λh1=> ?_) (λh1=> ?_)
 ·have h1:i<d.length:=(by simpa using h1);have hrow:(d.map cR)[((i:Nat):Int).toNat]? =some (cR (d.getD i (0,0))):=(by simp[h1,E0]);have hprev:0<i->(d.map cR)[(((i-1:Nat)):Int).toNat]? =some (cR (d.getD (i-1) (0,0)))/\aN (d.getD (i-1) (0,0)).2=true:=λh=>by
   refine⟨by rw[Eo,EJ,E5 (show i-1<d.length by omega),E0,E5 (show i-1<d.length by omega)];rfl,?_⟩;have:=hb (i-1) (by omega);unfold badR at this;simp only[HF,GW]at this;exact this.2.1
  have htk:sizeI (d.take (i+1))=sizeI (d.take i)+((d.getD i (0,0)).2-(d.getD i (0,0)).1+1):=by
   unfold sizeI;rw[ED h1,F4,List.sum_append,E0,E5 h1];simp
  have hno:badR d i=true->R=20:=λh=>by
   rw[<-hR];unfold chkR;rw[E6 (Fa.2 ⟨i,ES.2 h1,h⟩)]
  have hbd:badR d i=(!aN (d.getD i (0,0)).1||(!aN (d.getD i (0,0)).2||(decide ((d.getD i (0,0)).1 > (d.getD i (0,0)).2)||(decide ((i:Int) > 0)&&decide ((d.getD i (0,0)).1-(d.getD (i-1) (0,0)).2<2))))):=rfl;have ih1:=λhbi:badR d i=false=>λhs=>ih (i+1) ⟨by omega,hs,λj hj=>by
   by_cases e:j=i;·rw[e];exact hbi
   ·exact hb j (by omega)⟩ (by omega)
  have hw1:IntKind.i64.wrap ((i:Int)+1)=((i+1:Nat):Int):=(by rw[af (by omega) (by omega)];omega);have hw2:0<i->IntKind.i64.wrap ((i:Int)-1)=((i-1:Nat):Int):=λh=>(by rw[af (by omega) (by omega)];omega);generalize badR d i=bad at*;rw[htk]at ih1;generalize sizeI (d.take i)=n at*;generalize d.getD i (0,0)=r at*;generalize d.getD (i-1) (0,0)=p at*;obtain⟨lo,hi2⟩:=r;simp only at*;refine .B ?_;refine .F (r:=cR (lo,hi2)) hrow ?_;refine .C (kZ lo) ?_;cases a1:aN lo
  ·refine .B ?_;refine T.ct Y ?_;refine .B ?_;rw[hno (by rw[hbd,a1];rfl)];exact r1
  ·refine .B ?_;refine .F (r:=cR (lo,hi2)) hrow ?_;refine .C (kZ hi2) ?_;cases a2:aN hi2
   ·refine .B ?_;refine T.ct Y ?_;refine .B ?_;rw[hno (by rw[hbd,a1,a2];rfl)];exact r1
   ·have v1:=a1;have v2:=a2;simp only[aN,ER]at v1 v2;refine .B ?_;refine .F (r:=cR (lo,hi2)) hrow ?_;refine .F (r:=cR (lo,hi2)) hrow ?_;refine J.g Y Y Y (λh3=> ?_) (λh3=> ?_)
    ·refine .B ?_;refine T.ct Y ?_;refine .B ?_;rw[hno (by rw[hbd,a1,a2,EF h3];rfl)];exact r1
    ·have h3: ¬lo > hi2:=h3;refine .B ?_;refine J.g Y Y Y (λh4=> ?_) (λh4=> ?_)
     ·refine .B ?_;refine .F (r:=cR (lo,hi2)) hrow ?_;rw[hw2 (by omega)];refine .F (r:=cR p) (hprev (by omega)).1 ?_;have hpv:=(hprev (by omega)).2;simp only[aN,ER]at hpv;rw[af (n:=lo-p.2) (by omega) (by omega)];refine T.cd Y (λh5=> ?_) (λh5=> ?_)
      ·refine .B ?_;rw[hno (by rw[hbd,a1,a2,EE h3,EF h4,EF h5];rfl)];exact r1
      ·refine .B ?_;refine .F (r:=cR (lo,hi2)) hrow ?_;refine .F (r:=cR (lo,hi2)) hrow ?_;have e1:IntKind.i64.wrap (hi2-lo)=hi2-lo:=af (by omega) (by omega);have e2:IntKind.i64.wrap (hi2-lo+1)=hi2-lo+1:=af (by omega) (by omega);have e3:IntKind.i64.wrap (n+(hi2-lo+1))=n+(hi2-lo+1):=af (by omega) (by omega);rw[e1,e2,e3,hw1];exact T.K (ih1 (by rw[hbd,a1,a2,EE h3,EF h4,EE h5];rfl) (by omega))
     ·refine .B ?_;refine T.cf Y ?_;refine .B ?_;refine .F (r:=cR (lo,hi2)) hrow ?_;refine .F (r:=cR (lo,hi2)) hrow ?_;have e1:IntKind.i64.wrap (hi2-lo)=hi2-lo:=af (by omega) (by omega);have e2:IntKind.i64.wrap (hi2-lo+1)=hi2-lo+1:=af (by omega) (by omega);have e3:IntKind.i64.wrap (n+(hi2-lo+1))=n+(hi2-lo+1):=af (by omega) (by omega);rw[e1,e2,e3,hw1];exact T.K (ih1 (by rw[hbd,a1,a2,EE h3,EE h4];rfl) (by omega))
 ·have h1:i=d.length:=(by simp at h1;omega);subst h1;rw[Ep]at hn⊢;have hany:(List.range d.length).any (badR d)=false:=by
   rw[Gl];intro j hj;rw[hb j (ES.1 hj)];simp
  unfold chkR at hR;rw[hany]at hR;simp only[FC,if_false]at hR;generalize sizeI d=n at*;refine .B ?_;refine T.cd Y (λh2=> ?_) (λh2=> ?_)
  ·rw[E6 h2]at hR;subst hR;refine .B ?_;exact r1
  ·rw[E4 h2]at hR;subst hR;refine .B ?_;exact r1
structure Takes {α:Type}(le:α->α->Prop)(good:α->Prop)(f:α->Option α):Prop where
 less: ∀a a',good a->f a=some a'->good a'/\le a' a
 mono: ∀a a' b,good a->good b->le a b->f a=some a'->∃b',f b=some b'/\le a' b'
structure Order (α:Type)(le:α->α->Prop)(good:α->Prop):Prop where
 refl: ∀a,le a a
 trans: ∀a b c,le a b->le b c->le a c
 anti: ∀a b,good a->good b->le a b->le b a->a=b
section
variable {α γ:Type}{le:α->α->Prop}{good:α->Prop}(O:Order α le good){f:γ->α->Option α}
def fN (f:γ->α->Option α)(l:List γ)(a:α):Prop:= ∀c∈l,f c a=some a
structure Come (le:α->α->Prop)(good:α->Prop)(f:γ->α->Option α)(l:List γ)(d a:α):Prop where
 fine:good a
 less:le a d
 keep: ∀e,good e->le e d->fN f l e->le e a
include O in
theorem Come.refl {l:List γ}{d:α}(hd:good d):Come le good f l d d:=⟨hd,O.refl d,λ_ _ h _=>h⟩
include O in
theorem Come.step {l:List γ}{d a a':α}{c:γ}(h:Come le good f l d a)(hc:c∈l)(ht:Takes le good (f c))(he:f c a=some a'):Come le good f l d a':=by
 obtain⟨h1,h2⟩:=ht.less a a' h.fine he;refine⟨h1,O.trans _ _ _ h2 h.less,λe ge le_ hs=> ?_⟩;obtain⟨b',hb,hle⟩:=ht.mono e e a ge h.fine (h.keep e ge le_ hs) (hs c hc);rw[he]at hb;exact E7 hb▸hle
theorem Come.none {l:List γ}{d a:α}{c:γ}(h:Come le good f l d a)(hc:c∈l)(ht:Takes le good (f c))(he:f c a=none): ¬∃e,good e/\le e d/\fN f l e:=by
 rintro⟨e,ge,hle,hs⟩;obtain⟨b',hb,_⟩:=ht.mono e e a ge h.fine (h.keep e ge hle hs) (hs c hc);rw[he]at hb;cases hb
def eV (le:α->α->Prop)(good:α->Prop)(f:γ->α->Option α)(l:List γ)(d:α):Option α->Prop
 |some a=>Come le good f l d a/\fN f l a
 |none=> ¬∃e,good e/\le e d/\fN f l e
include O in
theorem eV.one {l l':List γ}{d:α}{R R':Option α}(hl: ∀c,c∈l↔c∈l')(h:eV le good f l d R)(h':eV le good f l' d R'):R=R':=by
 have hst: ∀e,fN f l e↔fN f l' e:=λe=>⟨λh c hc=>h c ((hl c).2 hc),λh c hc=>h c ((hl c).1 hc)⟩;cases R with
 |none=>
  cases R' with
  |none=>rfl
  |some b=>exact EX ⟨b,h'.1.fine,h'.1.less,(hst b).2 h'.2⟩ h
 |some a=>
  cases R' with
  |none=>exact EX ⟨a,h.1.fine,h.1.less,(hst a).1 h.2⟩ h'
  |some b=>
   exact congrArg some (O.anti a b h.1.fine h'.1.fine (h'.1.keep a h.1.fine h.1.less ((hst a).1 h.2)) (h.1.keep b h'.1.fine h'.1.less ((hst b).2 h'.2)))
include O in
theorem eV.less {l l':List γ}{d d' a':α}{R:Option α}(hl: ∀c,c∈l->c∈l')(hd:le d' d)(h:eV le good f l d R)(h':eV le good f l' d' (some a')): ∃a,R=some a/\le a' a:=by
 have hs:fN f l a':=λc hc=>h'.2 c (hl c hc);have hle:=O.trans _ _ _ h'.1.less hd;cases R with
 |none=>exact EX ⟨a',h'.1.fine,hle,hs⟩ h
 |some a=>exact⟨a,rfl,h.1.keep a' h'.1.fine hle hs⟩
theorem eV.keeps {l:List γ}{d e:α}{R:Option α}(h:eV le good f l d R)(ge:good e)(hle:le e d)(hs:fN f l e): ∃a,R=some a/\le e a:=by
 cases R with
 |none=>exact EX ⟨e,ge,hle,hs⟩ h
 |some a=>exact⟨a,rfl,h.1.keep e ge hle hs⟩
theorem eV.takes {l:List γ}{F:α->Option α}(O:Order α le good)(h: ∀d,good d->eV le good f l d (F d)):Takes le good F:=by
 refine⟨λa a' ga he=> ?_,λa a' b ga gb hle he=> ?_⟩
 ·have:=h a ga;rw[he]at this;exact⟨this.1.fine,this.1.less⟩
 ·have h1:=h a ga;rw[he]at h1;exact eV.less O (λ_ h=>h) hle (h b gb) h1
theorem eV.fix {l:List γ}{F:α->Option α}(O:Order α le good)(h: ∀d,good d->eV le good f l d (F d)){a:α}(ga:good a):F a=some a↔fN f l a:=by
 constructor
 ·intro he;have:=h a ga;rw[he]at this;exact this.2
 ·intro hs;obtain⟨b,hb,hle⟩:=eV.keeps (h a ga) ga (O.refl a) hs;have:=h a ga;rw[hb]at this;rw[hb,O.anti b a this.1.fine ga this.1.less hle]
end
def leD (a b:aa):Prop:=a.length=b.length/\∀v x:Int,0<=v->x∈vals (domAt a v)->x∈vals (domAt b v)
structure GoodD (n:Nat)(d:aa):Prop where
 few:FewD d
 len:d.length=n
 some': []∉d
theorem qG {d:aa}{j:Nat}(h:j<d.length):domAt d (j:Int)=d[j]:=by
 unfold domAt;rw[E0,Eo,E5 h];rfl
theorem qR.mono {a b:aa}(h:leD a b){us:List Int}(h0: ∀u∈us,0<=u){P:List Int->Bool}{v x:Int}(hs: ∃f:Int->Int,(∀u∈us,f u∈vals (domAt a u))/\P (us.map f)=true/\f v=x): ∃f:Int->Int,(∀u∈us,f u∈vals (domAt b u))/\P (us.map f)=true/\f v=x:=by
 obtain⟨f,h1,h2,h3⟩:=hs;exact⟨f,λu hu=>h.2 u _ (h0 u hu) (h1 u hu),h2,h3⟩
structure SuppS (n:Nat)(us:List Int)(P:List Int->Bool)(f:aa->Option aa):Prop where
 ok: ∀d out,GoodD n d->f d=some out->GoodD n out/\(∀v∈us,∀x,x∈vals (domAt out v)↔∃g:Int->Int,(∀u∈us,g u∈vals (domAt d u))/\P (us.map g)=true/\g v=x)/\∀v,0<=v->v∉us->domAt out v=domAt d v
 no: ∀d,GoodD n d->f d=none->∀g:Int->Int,(∀u∈us,g u∈vals (domAt d u))->P (us.map g)=false
 in': ∀u∈us,0<=u/\u.toNat<n
 ne:us≠[]
theorem GoodD.ne {n:Nat}{d:aa}(h:GoodD n d){v:Int}(hv:v.toNat<n): ∃x,x∈vals (domAt d v):=by
 have hm:domAt d v∈d:=by
  unfold domAt;rw[E0,E5 (by rw[h.len];exact hv)];exact EA _
 have hok:=(h.few.fine _ hm).ok;cases hd:domAt d v with
 |nil=>rw[hd]at hm;exact EX hm h.some'
 |cons r rest=>
  rw[hd]at hok;exact⟨r.1,be.2 ⟨r,.head _,FS _,hok.1 r (.head _)⟩⟩
theorem SuppS.takes {n:Nat}{us:List Int}{P:List Int->Bool}{f:aa->Option aa}(h:SuppS n us P f):Takes leD (GoodD n) f:=by
 refine⟨λa a' ga he=> ?_,λa a' b ga gb hle he=> ?_⟩
 ·obtain⟨g1,h1,h2⟩:=h.ok a a' ga he;refine⟨g1,by rw[g1.len,ga.len],λv x h0 hx=> ?_⟩;by_cases hv:v∈us
  ·obtain⟨g,h3,_,rfl⟩:=(h1 v hv x).1 hx;exact h3 v hv
  ·rw[h2 v h0 hv]at hx;exact hx
 ·obtain⟨g1,h1,h2⟩:=h.ok a a' ga he;cases hb:f b with
  |none=>
   obtain⟨u,hu⟩:=Fw _ h.ne;have hun:=(h.in' u hu).2;obtain⟨x,hx⟩:=g1.ne hun;obtain⟨g,h3,h4,_⟩:=(h1 u hu x).1 hx;have:=h.no b gb hb g λw hw=>hle.2 w _ (h.in' w hw).1 (h3 w hw);rw[h4]at this;cases this
  |some b'=>
   obtain⟨g2,h3,h4⟩:=h.ok b b' gb hb;refine⟨b',rfl,by rw[g1.len,g2.len],λv x h0 hx=> ?_⟩;by_cases hv:v∈us;·exact(h3 v hv x).2 (qR.mono hle (λu hu=>(h.in' u hu).1) ((h1 v hv x).1 hx))
   ·rw[h2 v h0 hv]at hx;rw[h4 v h0 hv];exact hle.2 v x h0 hx
theorem Dz {n:Nat}{vars:List Int}(hv:vars.Nodup/\∀v∈vars,0<=v/\v.toNat<n)(hne:vars≠[]):SuppS n vars (λl=>decide l.Nodup) λd=>dz d vars:=by
 have hV: ∀d,GoodD n d->jk d vars:=λd hd=>⟨hv.1,λv hm=>by rw[hd.len];exact hv.2 v hm⟩;have ho: ∀d,GoodD n d->∀g:Int->Int,(∀u∈vars,g u∈vals (domAt d u))->(vars.map g).Nodup->Others (listsP d vars) λj=>g (vars.getD j 0):=λd hd g h1 h2=>by
  rw[fm hd.few];refine⟨λj hj=> ?_,λj k hj hk e=> ?_⟩
  ·rw[EB]at hj;have:=h1 _ (EA hj);simpa[hj]using this
  ·rw[EB]at hj hk;have e:g (vars.getD j 0)=g (vars.getD k 0):=e;have e2:(vars.map g)[j]'(by simpa using hj)=(vars.map g)[k]'(by simpa using hk):=(by simpa[hj,hk]using e);exact(Ga h2).1 e2
 refine⟨λd out hd he=> ?_,λd hd he g hg=> ?_,?_,?_⟩
 ·unfold dz at he;split at he;·cases he
  ·split at he;·cases he
   ·rename_i hno;obtain rfl:=E7 he;have hat:=λj=>lN (d:=d) (vars:=vars) (out:=d) j hv.1 (hV d hd).2;have hdat: ∀v,v∈vars->domAt (step8 d vars vars d) v=bX (fF d vars v):=λv hm=>by
     have h0:=hv.2 v hm;have:=hat v.toNat;rw[show((v.toNat:Nat):Int)=v by omega,E6 hm]at this;unfold domAt;rw[E0,this];rfl
    refine⟨⟨⟨by rw[jU];exact hd.few.small,λx hx=> ?_,λx hx=> ?_⟩,by rw[jU,hd.len],hno⟩,λv hm x=> ?_,λv h0 hm=> ?_⟩
    ·obtain⟨j,hj⟩:=EK hx;rw[hat j]at hj;split at hj
     ·obtain⟨h1,h2,h3⟩:=mi hd.few vars (j:Int);exact E7 hj▸lq h1 h3 h2
     ·exact hd.few.fine x (EC hj)
    ·obtain⟨j,hj⟩:=EK hx;rw[hat j]at hj;split at hj
     ·obtain⟨h1,h2,h3⟩:=mi hd.few vars (j:Int);rw[<-E7 hj,bH h1];exact h2
     ·exact hd.few.few x (EC hj)
    ·rw[hdat v hm,bH (mi hd.few vars v).1];obtain⟨i,hi,rfl⟩:=G8 hm;rw[j9 hd.few (hV d hd) hi];have hlen:(listsP d vars).length=vars.length:=EB ..;constructor
     ·rintro⟨g,⟨h1,h2⟩,rfl⟩;refine⟨λu=>g (vars.idxOf u),λu hu=> ?_,?_,?_⟩
      ·have hx:=HA hu;have:=h1 (vars.idxOf u) (by omega);rw[fm hd.few]at this;simpa[hx]using this
      ·refine EF (f8 hv.1 λa ha b hb e=> ?_);have hxa:=HA ha;have hxb:=HA hb;have e2:=h2 _ _ (by omega) (by omega) e;have e3:vars[vars.idxOf a]=vars[vars.idxOf b]:=(by simp only[e2]);simpa using e3
      ·show g (vars.idxOf vars[i])=g i;congr 1;exact hv.1.idxOf_getElem i hi
     ·rintro⟨g,h1,h2,rfl⟩;refine⟨_,ho d hd g h1 (FV h2),?_⟩;show g (vars.getD i 0)=_;rw[E0,E5 hi];rfl
    ·by_cases hl:v.toNat<d.length
     ·have:=hat v.toNat;rw[show((v.toNat:Nat):Int)=v by omega,E4 hm]at this;unfold domAt;rw[E0,E0,this]
     ·unfold domAt;rw[E0,E0,FD (by rw[jU];omega),FD (by omega)]
 ·refine EE λhn=> ?_;have hoo:=ho d hd g hg hn;unfold dz at he;rw[E4 hd.some']at he;split at he
  ·rename_i hem;obtain⟨j,hj⟩:=EK hem;rw[lN j hv.1 (hV d hd).2]at hj;split at hj
   ·rename_i hm;obtain⟨i,hi,e⟩:=G8 hm;have:=(j9 hd.few (hV d hd) hi _).2 ⟨_,hoo,rfl⟩;rw[e]at this;exact yJ (λe2=>by rw[e2]at this;cases this) (E7 hj)
   ·exact hd.some' (EC hj)
  ·cases he
 ·exact hv.2
 ·exact hne
theorem jM {n:Nat}{a b:aa}(ga:GoodD n a)(gb:GoodD n b)(h: ∀v x:Int,0<=v->(x∈vals (domAt a v)↔x∈vals (domAt b v))):a=b:=by
 refine GT (by rw[ga.len,gb.len]) λj h1 h2=> ?_;have h3:=h (j:Int);rw[qG h1,qG h2]at h3;have f1:=(ga.few.fine _ (EA h1)).ok;have f2:=(gb.few.fine _ (EA h2)).ok;rw[<-e9 f1,<-e9 f2,dX (aG f1) (aG f2) λx=>h3 x (by omega)]
theorem aW (n:Nat):Order aa leD (GoodD n):=by
 refine⟨λa=>⟨rfl,λ_ _ _ h=>h⟩,λa b c h1 h2=>⟨h1.1.trans h2.1,λv x h0 h=>h2.2 v x h0 (h1.2 v x h0 h)⟩,λa b ga gb h1 h2=> ?_⟩;exact jM ga gb λv x h0=>⟨h1.2 v x h0,h2.2 v x h0⟩
theorem SuppS.stays {n:Nat}{us:List Int}{P:List Int->Bool}{f:aa->Option aa}(h:SuppS n us P f){a b:aa}(ga:GoodD n a)(gb:GoodD n b)(ha:f a=some a)(hab: ∀u∈us,domAt a u=domAt b u):f b=some b:=by
 obtain⟨_,h1,_⟩:=h.ok a a ga ha;have hsupp: ∀v∈us,∀x,x∈vals (domAt b v)↔∃g:Int->Int,(∀u∈us,g u∈vals (domAt b u))/\P (us.map g)=true/\g v=x:=λv hv x=>by
  rw[<-hab v hv,h1 v hv x];constructor
  ·rintro⟨g,h2,h3,h4⟩;exact⟨g,λu hu=>by rw[<-hab u hu];exact h2 u hu,h3,h4⟩
  ·rintro⟨g,h2,h3,h4⟩;exact⟨g,λu hu=>by rw[hab u hu];exact h2 u hu,h3,h4⟩
 cases hb:f b with
 |none=>
  obtain⟨u,hu⟩:=Fw _ h.ne;obtain⟨x,hx⟩:=gb.ne (h.in' u hu).2;obtain⟨g,h2,h3,_⟩:=(hsupp u hu x).1 hx;have:=h.no b gb hb g h2;rw[h3]at this;cases this
 |some b'=>
  obtain⟨g',h2,h3⟩:=h.ok b b' gb hb;congr 1;refine jM g' gb λv x h0=> ?_;by_cases hv:v∈us;·rw[h2 v hv x,hsupp v hv x]
  ·rw[h3 v h0 hv]
theorem SuppS.point {n:Nat}{us:List Int}{P:List Int->Bool}{f:aa->Option aa}(h:SuppS n us P f){e:aa}(ge:GoodD n e)(g:Int->Int)(he: ∀u∈us,vals (domAt e u)=[g u]):f e=(if P (us.map g)=true then some e else none):=by
 have huniq: ∀g':Int->Int,(∀u∈us,g' u∈vals (domAt e u))->us.map g'=us.map g:=λg' hg'=>F6 λu hu=>by
  have:=hg' u hu;rw[he u hu]at this;exact EI.1 this
 cases hf:f e with
 |none=>
  have:=h.no e ge hf g λu hu=>(by rw[he u hu];exact .head _);rw[this];rfl
 |some e'=>
  obtain⟨g',h2,h3⟩:=h.ok e e' ge hf;have hp:P (us.map g)=true:=by
   obtain⟨u,hu⟩:=Fw _ h.ne;obtain⟨x,hx⟩:=g'.ne (h.in' u hu).2;obtain⟨q,h4,h5,_⟩:=(h2 u hu x).1 hx;rw[<-huniq q h4];exact h5
  rw[E6 hp];congr 1;refine jM g' ge λv x h0=> ?_;by_cases hv:v∈us
  ·rw[h2 v hv x,he v hv,EI];constructor
   ·rintro⟨q,h4,_,rfl⟩;have:=h4 v hv;rw[he v hv]at this;exact EI.1 this
   ·rintro rfl;exact⟨g,λu hu=>by rw[he u hu];exact .head _,hp,rfl⟩
  ·rw[h3 v h0 hv]
def atR (a:List Int)(v:Int):Int:=if v<0 then 0 else a.getD v.toNat 0
theorem t8 (a:List Int)(v:Int)(hl:a.length*8<=140737488355328):Spec Tryz.prog 53 false [aq a,.int .i64 v] [.val (.int .i64 (atR a v))]:=by
 refine Spec.body Tryz.func53 Y Y Y λw0 Z0=> ?_;unfold atR;refine .B ?_;refine J.g Y Y Y (λh=> ?_) (λh=> ?_)
 ·refine .B ?_;refine T.ct Y ?_;refine .B ?_;exact⟨_,.v Y Y (by rw[E6 h]) (λ_=>rfl) .nil⟩
 ·refine .B ?_;refine T.cd Y (λh2=> ?_) (λh2=> ?_)
  ·refine .B ?_;refine⟨_,.v Y Y ?_ (λ_=>rfl) .nil⟩;rw[E4 h,E0,FD (by simp at h2;omega)];rfl
  ·have h2:v.toNat<a.length:=(by simp at h2;omega);refine .B ?_;refine J.i Y Y Y Y Y Y Y Y Y (r:=cI a[v.toNat]) (by omega) (ax h2) Y ?_;refine .B ?_;refine⟨_,.v Y Y ?_ (λ_=>rfl) .nil⟩;rw[E4 h,E0,E5 h2];rfl
def pickedR (vars a:List Int):List Int:=vars.map (atR a)
theorem vj (vars a:List Int)(hv:vars.length*8<=140737488355328)(hl:a.length*8<=140737488355328):Spec Tryz.prog 50 false [aq vars,aq a] [.own 3 1 ((pickedR vars a).map cI)]:=by
 refine Spec.body Tryz.func50 Y Y Y λw0 Z0=> ?_;refine .B ?_;refine .Q ?_;refine T.K (T.ind (λi:Nat=>⟨[(0,.val false (aq vars)),(1,.val false (aq a)),(4,.nilsl),(5,.ref 0),(6,.val true (.int .i64 i))],[(0,some (.sl 3 1 true ((pickedR (vars.take i) a).map cI)))],1⟩) (λi=>i<=vars.length) (λi=>vars.length-i) 0 (by simp) (λ_ _ h=>h) ?_);rintro i hi ih;refine .B ?_;refine T.cd Y (λh1=> ?_) (λh1=> ?_)
 ·have h1:i<vars.length:=(by simpa using h1);refine .B ?_;refine .F (r:=cI vars[i]) (ax h1) ?_;refine .D (t8 a vars[i] hl) ?_;refine .V ?_;refine J.aI Y Y Y Y Y Y Y Y Y Y Y Y Y Y Y Y Y Y Y (by simp[pickedR];omega) ?_;refine .B ?_;rw[ai (l:=vars.length) (by omega) (by omega)];have e:pickedR (vars.take i) a++[atR a vars[i]]=pickedR (vars.take (i+1)) a:=by
   rw[ED h1];unfold pickedR;rw[F4];rfl
  rw[e];exact T.K (ih (i+1) (by omega) (by omega))
 ·have h1:i=vars.length:=(by simp at h1;omega);subst h1;refine .B ?_;refine⟨_,.o Y Y (by rw[Ep]) (λ_=> .inl Y) (by simp) .nil⟩
def dM (op n rhs:Int):Bool:=if op=0 then decide (n<=rhs)else(decide (n=rhs)==decide (op=1))
theorem Af (op n rhs:Int):Spec Tryz.prog 51 false [.int .i64 op,.int .i64 n,.int .i64 rhs] [.val (.bool (dM op n rhs))]:=by
 refine Spec.body Tryz.func51 Y Y Y λw0 Z0=> ?_;unfold dM;refine .B ?_;refine T.cd Y (λh=> ?_) (λh=> ?_)
 ·refine .B ?_;exact⟨_,.v Y Y (by rw[E6 h]) (λ_=>rfl) .nil⟩
 ·refine .B ?_;exact⟨_,.v Y Y (by rw[E4 h]) (λ_=>rfl) .nil⟩
def sumW (vars coefs a:List Int):Int:=(vars.zip coefs).foldl (λn p=>IntKind.i64.wrap (n+IntKind.i64.wrap (p.2*atR a p.1))) 0
theorem ry (vars coefs a:List Int)(hv:vars.length*8<=140737488355328)(hc:coefs.length*8<=140737488355328)(hl:a.length*8<=140737488355328):Spec Tryz.prog 49 false [aq vars,aq coefs,aq a] [.val (.int .i64 (sumW vars coefs a))]:=by
 refine Spec.body Tryz.func49 Y Y Y λw0 Z0=> ?_;refine .B ?_;refine T.K (T.ind (λi:Nat=>⟨[(0,.val false (aq vars)),(1,.val false (aq coefs)),(2,.val false (aq a)),(7,.val true (.int .i64 (sumW (vars.take i) (coefs.take i) a))),(8,.val true (.int .i64 i))],[],0⟩) (λi=>i<=vars.length/\i<=coefs.length) (λi=>vars.length-i) 0 (by simp) (λ_ _ h=>h) ?_);rintro i ⟨hi,hi2⟩ ih;have fin: ∀(h:i=vars.length∨i=coefs.length),sumW (vars.take i) (coefs.take i) a=sumW vars coefs a:=by
  intro h;unfold sumW;rw[List.zip_eq_zipWith,List.zip_eq_zipWith,<-List.take_zipWith,EY];simp;omega
 refine .B ?_;refine J.g Y Y Y (λh=> ?_) (λh=> ?_)
 ·have h:i<vars.length:=(by simpa using h);refine .B ?_;refine T.cd Y (λh1=> ?_) (λh1=> ?_)
  ·have h1:i<coefs.length:=(by simpa using h1);refine .B ?_;refine .F (r:=cI coefs[i]) (ax h1) ?_;refine .F (r:=cI vars[i]) (ax h) ?_;refine .D (t8 a vars[i] hl) ?_;have e:IntKind.i64.wrap (sumW (vars.take i) (coefs.take i) a+IntKind.i64.wrap (coefs[i]*atR a vars[i]))=sumW (vars.take (i+1)) (coefs.take (i+1)) a:=by
    unfold sumW;rw[ED h,ED h1,List.zip_append (by simp;omega),H7];rfl
   rw[e,ai (l:=vars.length) (by omega) (by omega)];exact T.K (ih (i+1) ⟨by omega,by omega⟩ (by omega))
  ·refine .B ?_;refine⟨_,.v Y Y (by rw[fin];simp at h1;omega) (λ_=>rfl) .nil⟩
 ·refine .B ?_;refine T.cf Y ?_;refine .B ?_;refine⟨_,.v Y Y (by rw[fin];simp at h;omega) (λ_=>rfl) .nil⟩
def dS:List Int->List Int->Int
 | [],[]=>0
 | [],_::_=> -1
 |_::_,[]=>1
 |x::xs,y::ys=>if x<y then -1 else if y<x then 1 else dS xs ys
theorem xy (a b:List Int)(ha:a.length*8<=140737488355328)(hb:b.length*8<=140737488355328):Spec Tryz.prog 54 false [aq a,aq b] [.val (.int .i64 (dS a b))]:=by
 refine Spec.body Tryz.func54 Y Y Y λw0 Z0=> ?_;refine .B ?_;refine T.K (T.ind (λi:Nat=>⟨[(0,.val false (aq a)),(1,.val false (aq b)),(5,.val true (.int .i64 i))],[],0⟩) (λi=>i<=a.length/\i<=b.length/\dS (a.drop i) (b.drop i)=dS a b) (λi=>a.length-i) 0 (by simp) (λ_ _ h=>h) ?_);rintro i ⟨hi,hi2,he⟩ ih;refine .B ?_;refine J.g Y Y Y (λh=> ?_) (λh=> ?_)
 ·have h:i<a.length:=(by simpa using h);refine .B ?_;refine T.cd Y (λh1=> ?_) (λh1=> ?_)
  ·have h1:i<b.length:=(by simpa using h1);have ed:dS (a.drop i) (b.drop i)=if a[i]<b[i]then -1 else if b[i]<a[i]then 1 else dS (a.drop (i+1)) (b.drop (i+1)):=by
    rw[EP h,EP h1,dS]
   refine .B ?_;refine .F (r:=cI a[i]) (ax h) ?_;refine .F (r:=cI b[i]) (ax h1) ?_;refine T.cd Y (λh2=> ?_) (λh2=> ?_)
   ·refine .B ?_;refine⟨_,.v Y Y ?_ (λ_=>rfl) .nil⟩;rw[<-he,ed,E6 h2]
   ·refine .B ?_;refine .F (r:=cI a[i]) (ax h) ?_;refine .F (r:=cI b[i]) (ax h1) ?_;refine T.cd Y (λh3=> ?_) (λh3=> ?_)
    ·refine .B ?_;refine⟨_,.v Y Y ?_ (λ_=>rfl) .nil⟩;rw[<-he,ed,E4 h2,E6 h3]
    ·refine .B ?_;rw[ai (l:=a.length) (by omega) (by omega)];refine T.K (ih (i+1) ⟨by omega,by omega,?_⟩ (by omega));rw[<-he,ed,E4 h2,E4 h3]
  ·have h1:i=b.length:=(by simp at h1;omega);refine .B ?_;refine T.cd Y (λh2=> ?_) (λh2=> ?_);·exact EX h2 (by simp;omega)
   ·refine .B ?_;refine T.cd Y (λh3=> ?_) (λh3=> ?_)
    ·refine .B ?_;refine⟨_,.v Y Y ?_ (λ_=>rfl) .nil⟩;rw[<-he,h1,FR,EP (by omega),dS]
    ·exact EX (by simp;omega) h3
 ·have h:i=a.length:=(by simp at h;omega);refine .B ?_;refine T.cf Y ?_;refine .B ?_;refine T.cd Y (λh2=> ?_) (λh2=> ?_)
  ·have h2:a.length<b.length:=(by simpa using h2);refine .B ?_;refine⟨_,.v Y Y ?_ (λ_=>rfl) .nil⟩;rw[<-he,h,FR,EP h2,dS]
  ·have h2: ¬a.length<b.length:=(by simpa using h2);refine .B ?_;refine T.cd Y (λh3=> ?_) (λh3=> ?_);·exact EX h3 (by simp;omega)
   ·refine .B ?_;refine⟨_,.v Y Y ?_ (λ_=>rfl) .nil⟩;rw[<-he,h,FR,HV (by omega),dS]
def holds6 (vars a:List Int):Bool:=decide (dS ((pickedR vars a).take (vars.length / 2)) ((pickedR vars a).drop (vars.length / 2))<=0)
def litH (p:Int×Int):Bool:=(decide (p.2=1)&&decide (p.1=1))||(decide (p.2= -1)&&decide (p.1=0))
def y3 (l:List Int):Bool:=decide (2<=l.length)&&decide (0<=l.getD 0 0)&&decide (l.getD 0 0+2<l.length)&&decide (l.getD (l.getD 0 0+2).toNat 0=l.getD 1 0)
def soR (c:Con)(a:List Int):Bool:=dM c.op (sumW c.vars c.coefs a) c.rhs
def bL (c:Con)(a:List Int):Bool:=
 if c.kind=0 then soR c a else
 if c.kind=1 then decide ((aT (pickedR c.vars a)).length=(pickedR c.vars a).length)else
 if c.kind=2 then c.rows.any λr=>decide (r=pickedR c.vars a)else
 if c.kind=3 then y3 (pickedR c.vars a)else
 if c.kind=4 then(soR c a&&decide (atR a c.b=1))||(!soR c a&&decide (atR a c.b=0))else
 if c.kind=5 then((pickedR c.vars a).zip c.coefs).any litH else
 holds6 c.vars a
theorem xV (c:Con)(a:List Int)(hc:ConB c)(hl:a.length*8<=140737488355328)(hk5:c.kind=5->c.vars.length<=c.coefs.length)(hk3:c.kind=3->∀x∈a,x<=4611686018427387904):
  Spec Tryz.prog 25 false [.agg (cC c),aq a] [.val (.bool (bL c a))]:=by
 obtain⟨h1,h2,h3,h4⟩:=hc;refine Spec.body Tryz.func25 Y Y Y λw0 Z0=> ?_;have hpl:(pickedR c.vars a).length=c.vars.length:=(by simp[pickedR]);have hheld:=Af c.op (sumW c.vars c.coefs a) c.rhs;have hso:dM c.op (sumW c.vars c.coefs a) c.rhs=soR c a:=rfl;rw[hso]at hheld;have hsort:=dI (pickedR c.vars a) (by omega);have hat:=t8 a c.b hl;have ho6:holds6 c.vars a=decide (dS ((pickedR c.vars a).take (c.vars.length / 2)) ((pickedR c.vars a).drop (c.vars.length / 2))<=0):=rfl;have hord:=xy ((pickedR c.vars a).take (c.vars.length / 2)) ((pickedR c.vars a).drop (c.vars.length / 2)) (by simp;omega) (by simp;omega);have hpk:=vj c.vars a (by omega) hl;have hsm:=ry c.vars c.coefs a (by omega) h2 hl;have hpin:c.kind=3->∀x∈pickedR c.vars a,x<=4611686018427387904:=by
  intro hk x hx;obtain⟨v,_,rfl⟩:=EH.1 hx;unfold atR;split;·omega
  ·rw[E0];cases hg:a[v.toNat]? with
   |none=>simp
   |some y=>simpa using hk3 hk y (EC hg)
 clear hso;unfold bL;generalize holds6 c.vars a=h6 at*;generalize sumW c.vars c.coefs a=sm at*;generalize soR c a=so at*;generalize pickedR c.vars a=l at*;refine .B ?_;refine .D hpk ?_;refine .D hsm ?_;refine .D hheld ?_;refine T.cd Y (λk0=> ?_) (λk0=> ?_)
 ·have k0:c.kind=0:=k0;rw[E6 k0];refine .B ?_;exact r1
 have k0: ¬c.kind=0:=k0;rw[E4 k0];refine .B ?_;refine T.cd Y (λk1=> ?_) (λk1=> ?_)
 ·have k1:c.kind=1:=k1;rw[E6 k1];refine .B ?_;refine .D hsort ?_;exact⟨_,.v Y Y (by simp;omega) (λ_=>rfl) .nil⟩
 have k1: ¬c.kind=1:=k1;rw[E4 k1];refine .B ?_;refine T.cd Y (λk2=> ?_) (λk2=> ?_)
 ·have k2:c.kind=2:=k2;rw[E6 k2];refine .B ?_;refine T.sub (Rel.frz (s:=5) (λ_ h=>h) Y Y) ?_;refine T.K (T.ind (λi:Nat=>⟨[(2,.optr 0 0 0 0),(5,.val true (aq l)),(7,.val true (.int .i64 i))],[(0,some (.box false (cC c)))],1⟩) (λi=>i<=c.rows.length/\((c.rows.take i).any λr=>decide (r=l))=false) (λi=>c.rows.length-i) 0 (by simp) (λ_ _ h=>h) ?_);rintro i ⟨hi,he⟩ ih;refine .B ?_;refine T.cd Y (λh5=> ?_) (λh5=> ?_)
  ·have h5:i<c.rows.length:=(by simpa using h5);have hrl:=h4 _ (EA h5);have hn:=du c.rows[i] l hrl;refine .B ?_;refine .F (r:=cL c.rows[i]) (ax h5) ?_;refine .C hn ?_;by_cases e:c.rows[i]=l
   ·have hany:(c.rows.any λr=>decide (r=l))=true:=Fa.2 ⟨_,EA h5,by simp[e]⟩;rw[EF e,hany];refine .B ?_;refine T.ct Y ?_;refine .B ?_;exact r1
   ·rw[EE e];refine .B ?_;refine T.cf Y ?_;refine .B ?_;rw[ai (l:=c.rows.length) (by omega) (by omega)];exact T.K (ih (i+1) ⟨by omega,by rw[ED h5,Hj,he];simp[e]⟩ (by omega))
  ·have h5:i=c.rows.length:=(by simp at h5;omega);subst h5;rw[Ep]at he;rw[he];refine .B ?_;exact r1
 have k2: ¬c.kind=2:=k2;rw[E4 k2];refine .B ?_;refine T.cd Y (λk3=> ?_) (λk3=> ?_)
 ·have k3:c.kind=3:=k3;rw[E6 k3];have hpin:=hpin k3;unfold y3;refine .M ?_;refine T.sub (Rel.frz (s:=5) (λ_ h=>h) Y Y) ?_;refine .B ?_;refine J.g Y Y Y (λg1=> ?_) (λg1=> ?_)
  ·have g1:2<=l.length:=by
    have g1:((l.map cI).length:Int)>=2:=g1;simp only[EB]at g1;omega
   obtain⟨x0,hx0⟩: ∃x,l[0]? =some x:=⟨_,E5 (by omega)⟩;obtain⟨x1,hx1⟩: ∃x,l[1]? =some x:=⟨_,E5 (by omega)⟩;have e0:l.getD 0 0=x0:=(by rw[E0,hx0];rfl);have e1:l.getD 1 0=x1:=(by rw[E0,hx1];rfl);have hr0:(l.map cI)[(0:Int).toNat]? =some (cI x0):=(by simp[hx0]);have hr1:(l.map cI)[(1:Int).toNat]? =some (cI x1):=(by simp[hx1]);have hp0:=hpin x0 (EC hx0);rw[EF g1,e0,e1];refine .B ?_;refine J.i Y Y Y Y Y Y Y Y Y (r:=cI x0) (by decide) hr0 Y ?_;refine .B ?_;refine J.g Y Y Y (λg2=> ?_) (λg2=> ?_)
   ·have g2:0<=x0:=g2;have ew:IntKind.i64.wrap (x0+2)=x0+2:=af (by omega) (by omega);rw[EF g2];refine .B ?_;refine J.i Y Y Y Y Y Y Y Y Y (r:=cI x0) (by decide) hr0 Y ?_
    repeat' first|refine J.e Y Y Y Y ?_|refine J.skip Y Y Y ?_|refine J.bx Y Y Y Y Y Y ?_
    rw[ew]
    repeat' first|refine J.e Y Y Y Y ?_|refine J.skip Y Y Y ?_|refine J.bx Y Y Y Y Y Y ?_
    refine J.g Y Y Y (λg3=> ?_) (λg3=> ?_)
    ·have g3:x0+2<l.length:=(by simpa using g3);have g4:(x0+2).toNat<l.length:=(by omega);obtain⟨x2,hx2⟩: ∃x,l[(x0+2).toNat]? =some x:=⟨_,E5 g4⟩;have e2:l.getD (x0+2).toNat 0=x2:=(by rw[E0,hx2];rfl);have hr2:(l.map cI)[(x0+2).toNat]? =some (cI x2):=(by simp[hx2]);rw[EF g3,e2];refine .B ?_;refine J.i Y Y Y Y Y Y Y Y Y (r:=cI x0) (by decide) hr0 Y ?_
     repeat' first|refine J.e Y Y Y Y ?_|refine J.skip Y Y Y ?_|refine J.bx Y Y Y Y Y Y ?_
     rw[ew];refine .F (r:=cI x2) hr2 ?_;refine J.i Y Y Y Y Y Y Y Y Y (r:=cI x1) (by decide) hr1 Y ?_;refine .B ?_;exact⟨_,.v Y Y (by simp) (λ_=>rfl) .nil⟩
    ·have g3: ¬x0+2<l.length:=(by simpa using g3);rw[EE g3];refine .B ?_;exact⟨_,.v Y Y (by simp) (λ_=>rfl) .nil⟩
   ·have g2: ¬0<=x0:=g2;rw[EE g2];refine .B ?_;exact⟨_,.v Y Y (by simp) (λ_=>rfl) .nil⟩
  ·have g1: ¬2<=l.length:=by
    have g1: ¬((l.map cI).length:Int)>=2:=g1;simp only[EB]at g1;omega
   rw[EE g1];refine .B ?_;exact⟨_,.v Y Y (by simp) (λ_=>rfl) .nil⟩
 have k3: ¬c.kind=3:=k3;rw[E4 k3];refine .B ?_;refine T.cd Y (λk4=> ?_) (λk4=> ?_)
 ·have k4:c.kind=4:=k4;rw[E6 k4];cases so
  ·refine .B ?_;refine .D hat ?_;exact⟨_,.v Y Y (by simp) (λ_=>rfl) .nil⟩
  ·refine .B ?_;refine .C hat ?_;generalize atR a c.b=ab at*;refine .B ?_;refine J.g Y Y Y (λh=> ?_) (λh=> ?_)
   ·have h:ab=1:=h;rw[EF h];refine .B ?_;exact⟨_,.v Y Y (by simp) (λ_=>rfl) .nil⟩
   ·have h: ¬ab=1:=h;rw[EE h];refine .B ?_;exact⟨_,.v Y Y (by simp) (λ_=>rfl) .nil⟩
 have k4: ¬c.kind=4:=k4;rw[E4 k4];refine .B ?_;refine T.cd Y (λk5=> ?_) (λk5=> ?_)
 ·have k5:c.kind=5:=k5;rw[E6 k5];have hk5:=hk5 k5;refine .M ?_;refine T.sub (Rel.frz (s:=5) (λ_ h=>h) Y Y) ?_;refine T.K (T.ind (λi:Nat=>⟨[(2,.optr 0 0 0 0),(5,.val true (aq l)),(8,.val true (.int .i64 i))],[(0,some (.box false (cC c)))],1⟩) (λi=>i<=l.length/\((l.zip c.coefs).take i).any litH=false) (λi=>l.length-i) 0 (by simp) (λ_ _ h=>h) ?_);rintro i ⟨hi,he⟩ ih;refine .B ?_;refine T.cd Y (λh5=> ?_) (λh5=> ?_)
  ·have h5:i<l.length:=(by simpa using h5);have h6:i<c.coefs.length:=(by omega);have hz:i<(l.zip c.coefs).length:=(by simp;omega);have eyes:litH (l[i],c.coefs[i])=true->(l.zip c.coefs).any litH=true:=λh=>Fa.2 ⟨(l[i],c.coefs[i]),by rw[<-Gb (h:=hz)];exact EA hz,h⟩;have eno:litH (l[i],c.coefs[i])=false->((l.zip c.coefs).take (i+1)).any litH=false:=λh=>by
    rw[ED hz,Hj,he,Gb];simp[h]
   have edef:litH (l[i],c.coefs[i])=((decide (c.coefs[i]=1)&&decide (l[i]=1))||(decide (c.coefs[i]= -1)&&decide (l[i]=0))):=rfl;have hrl:=ax (enc:=cI) h5;have hrk:=ax (enc:=cI) h6;generalize litH (l[i],c.coefs[i])=lb at*;generalize l[i]=x at*;generalize c.coefs[i]=k at*;refine .B ?_;refine .F (r:=cI k) hrk ?_;refine J.g Y Y Y (λg1=> ?_) (λg1=> ?_)
   ·have g1:k=1:=g1;have g9: ¬k= -1:=(by omega);rw[EF g1,EE g9]at edef;refine .B ?_;refine .F (r:=cI x) hrl ?_;refine J.g Y Y Y (λg2=> ?_) (λg2=> ?_)
    ·have g2:x=1:=g2;rw[EF g2]at edef;refine .B ?_;have hb:lb=true:=(by rw[edef];rfl);rw[eyes hb];refine T.ct Y ?_;refine .B ?_;exact r1
    ·have g2: ¬x=1:=g2;rw[EE g2]at edef;refine .B ?_;refine .F (r:=cI k) hrk ?_;refine J.g Y Y Y (λg3=>EX g3 g9) (λ_=> ?_);refine .B ?_;have hb:lb=false:=(by rw[edef];rfl);refine T.cf Y ?_;refine .B ?_;rw[ai (l:=l.length) (by omega) (by omega)];exact T.K (ih (i+1) ⟨by omega,eno hb⟩ (by omega))
   ·have g1: ¬k=1:=g1;rw[EE g1]at edef;refine .B ?_;refine .F (r:=cI k) hrk ?_;refine J.g Y Y Y (λg3=> ?_) (λg3=> ?_)
    ·have g3:k= -1:=g3;rw[EF g3]at edef;refine .B ?_;refine .F (r:=cI x) hrl ?_;by_cases g4:x=0
     ·rw[EF g4]at edef⊢;have hb:lb=true:=(by rw[edef];rfl);rw[eyes hb];refine T.ct Y ?_;refine .B ?_;exact r1
     ·rw[EE g4]at edef⊢;have hb:lb=false:=(by rw[edef];rfl);refine T.cf Y ?_;refine .B ?_;rw[ai (l:=l.length) (by omega) (by omega)];exact T.K (ih (i+1) ⟨by omega,eno hb⟩ (by omega))
    ·have g3: ¬k= -1:=g3;rw[EE g3]at edef;refine .B ?_;have hb:lb=false:=(by rw[edef];rfl);refine T.cf Y ?_;refine .B ?_;rw[ai (l:=l.length) (by omega) (by omega)];exact T.K (ih (i+1) ⟨by omega,eno hb⟩ (by omega))
  ·have h5:i=l.length:=(by simp at h5;omega);subst h5;rw[EY (by simp;omega)]at he;rw[he];refine .B ?_;exact r1
 have k5: ¬c.kind=5:=k5;rw[E4 k5];refine .M ?_;have e1:IntKind.i64.wrap (((l.map cI).length:Int).tdiv 2)=((c.vars.length / 2:Nat):Int):=by
  rw[EB,hpl,GL (by omega),af (by omega) (by omega)];simp
 rw[e1];refine T.sub (Rel.frz (s:=5) (λ_ h=>h) Y Y) ?_;refine .B ?_;refine J.s1 (enc:=cI) (c.vars.length / 2) Y Y Y Y Y Y Y Y Y (λ_=>rfl) Y (by omega) ?_;refine .B ?_;refine J.s3 (enc:=cI) (c.vars.length / 2) Y Y Y Y Y Y Y Y Y (λ_=>rfl) Y (by omega) ?_;refine .B ?_;refine .D hord ?_;exact⟨_,.v Y Y (by rw[ho6]) (λ_=>rfl) .nil⟩
def growR (d:aa):Nat->List (List Int)
 |0=>[[]]
 |n+1=>(growR d n).flatMap λa=>(vals (d.getD n [])).map λv=>a++[v]
theorem nq (d:aa): ∀(n:Nat) (a:List Int),a∈growR d n->a.length=n
 |0,a,h=>by simp[growR]at h;simp[h]
 |n+1,a,h=>by
  simp only[growR,GH,EH]at h;obtain⟨b,hb,v,_,rfl⟩:=h;simp[nq d n b hb]
theorem Ah (d:aa)(hd: ∀x∈d,DomB x)(hdl:d.length*8<=140737488355328): ∀n,n<=d.length->(∀m,m<=n->(growR d m).length*24<=140737488355328)->
  Spec Tryz.prog 46 false [ao d,.int .i64 n] [.own 24 1 ((growR d n).map cL)]:=by
 intro n
 induction n with
 |zero=>
  intro _ _;refine Spec.body Tryz.func46 Y Y Y λw0 Z0=> ?_;refine .B ?_;refine T.ct Y ?_;refine .B ?_;refine .V ?_;refine .Q ?_;exact⟨_,.o Y Y Y (λ_=> .inl Y) (by simp) .nil⟩
 |succ n ih=>
  intro hn hm;have hrec:=ih (by omega) (λm h=>hm m (by omega));have hx:=hd _ (EA (show n<d.length by omega));have hval:=bB d[n] hx.1 (by have:=hx.2.1;omega) hx.2.2;have hg:d.getD n []=d[n]:=(by rw[E0,E5 (by omega)];rfl);have hgl:=nq d n;have hG:growR d (n+1)=(growR d n).flatMap λa=>(vals d[n]).map λv=>a++[v]:=(by rw[<-hg];rfl);have h1:=hm n (by omega);have h2:=hm (n+1) (EO _);have hsub:IntKind.i64.wrap (((n+1:Nat):Int)-1)=(n:Nat):=(by rw[af (by omega) (by omega)];omega);have hrow:(d.map cD)[((n:Nat):Int).toNat]? =some (cD d[n]):=ax (by omega);have hvl:(vals d[n]).length*16<=140737488355328:=hx.2.1;rw[hG]at h2⊢;clear hm ih hG hg;generalize growR d n=l at*;generalize vals d[n]=v at*;refine Spec.body Tryz.func46 Y Y Y λw0 Z0=> ?_;refine .B ?_;refine T.cd Y (λh=>EX h (by show¬((n+1:Nat):Int)=0;omega)) (λ_=> ?_);refine .B ?_;rw[hsub];refine .D hrec ?_;rw[hsub];refine .F (r:=cD d[n]) hrow ?_;refine .D hval ?_;refine .Q ?_;refine T.sub (Rel.frz (s:=5) (λ_ h=>h) Y Y) ?_;refine T.sub (Rel.frz (s:=6) (λ_ h=>h) Y Y) ?_;have hsum: ∀(l:List (List Int)),(l.flatMap λa=>v.map λv=>a++[v]).length=l.length*v.length:=by
   intro l
   induction l with
   |nil=>simp
   |cons a l ih=>rw[H6,EZ,ih,EB,El,GJ];omega
  rw[hsum]at h2;refine T.K (T.ind (λi:Nat=>⟨[(5,.val true (bC l)),(6,.val true (aq v)),(7,.ref 0),(8,.val true (.int .i64 i))],[(0,some (.sl 24 1 true (((l.take i).flatMap λa=>v.map λv=>a++[v]).map cL)))],1⟩) (λi=>i<=l.length) (λi=>l.length-i) 0 (by simp) (λ_ _ h=>h) ?_);rintro i hi ih;refine .B ?_;refine T.cd Y (λh3=> ?_) (λh3=> ?_)
  ·have h3:i<l.length:=(by simpa using h3);have hil:l[i].length=n:=hgl _ (EA h3);refine .B ?_;have e0:(l.take i).flatMap (λa=>v.map λv=>a++[v])=(l.take i).flatMap (λa=>v.map λv=>a++[v])++(v.take 0).map λv=>l[i]++[v]:=(by simp);rw[e0];refine T.K (T.ind (λk:Nat=>⟨[(5,.val true (bC l)),(6,.val true (aq v)),(7,.ref 0),(8,.val true (.int .i64 i)),(9,.val true (.int .i64 k))],[(0,some (.sl 24 1 true (((l.take i).flatMap (λa=>v.map λv=>a++[v])++(v.take k).map λv=>l[i]++[v]).map cL)))],1⟩) (λk=>k<=v.length) (λk=>v.length-k) 0 (by simp) (λ_ _ h=>h) ?_);rintro k hk ih2;refine .B ?_;refine T.cd Y (λh4=> ?_) (λh4=> ?_)
   ·have h4:k<v.length:=(by simpa using h4);refine .B ?_;refine .Q ?_;refine .F (r:=cL l[i]) (ax h3) ?_;refine J.a Y Y Y Y Y Y Y Y Y Y Y Y Y Y Y Y Y jE (by show(0+List.length _)*8<=_;simp;omega) ?_;refine .B ?_;refine .F (r:=cI v[k]) (ax h4) ?_;refine .V ?_;refine J.aI Y Y Y Y Y Y Y Y Y Y Y Y Y Y Y Y Y Y Y (by omega) ?_;refine .B ?_;refine J.sub (Rel.frz (s:=52) (λ_ h=>h) Y Y) ?_;refine .B ?_;refine .V ?_;have hb:((l.take i).flatMap (λa=>v.map λv=>a++[v])++(v.take k).map λv=>l[i]++[v]).length+1<=l.length*v.length:=by
     rw[EZ,hsum,EB,F0,F0,FO (by omega),FO (by omega)];have:i*v.length+v.length<=l.length*v.length:=by
      rw[<-GJ];exact F7 _ h3
     omega
    refine J.a1 (enc:=cL) (x:=l[i]++[v[k]]) (B:=24) Y Y Y Y Y Y Y Y Y Y Y Y Y Y Y Y Y Y Y Y (by omega) ?_;refine .B ?_;have e:(l.take i).flatMap (λa=>v.map λv=>a++[v])++((v.take k).map λv=>l[i]++[v])++[l[i]++[v[k]]]=(l.take i).flatMap (λa=>v.map λv=>a++[v])++(v.take (k+1)).map λv=>l[i]++[v]:=by
     rw[ED h4,F4,F5];rfl
    rw[e,ai (l:=v.length) (by omega) (by omega)];exact T.K (ih2 (k+1) (by omega) (by omega))
   ·have h4:k=v.length:=(by simp at h4;omega);subst h4;rw[Ep];refine .B ?_;have e:(l.take i).flatMap (λa=>v.map λv=>a++[v])++(v.map λv=>l[i]++[v])=(l.take (i+1)).flatMap λa=>v.map λv=>a++[v]:=by
     rw[ED h3,Hn];simp
    rw[e,ai (l:=l.length) (by omega) (by omega)];exact T.K (ih (i+1) (by omega) (by omega))
  ·have h3:i=l.length:=(by simp at h3;omega);subst h3;rw[Ep];refine .B ?_;exact⟨_,.o Y Y Y (λ_=> .inl Y) (by simp) .nil⟩
end Go.Proofs.YtopcjbahjjhdmaaGreat
