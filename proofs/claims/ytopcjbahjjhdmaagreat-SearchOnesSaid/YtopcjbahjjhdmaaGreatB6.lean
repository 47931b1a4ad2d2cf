/- The texts PuC, LiA, FnR, FnS, FuE, FuF, FuG, FuH, FuI, PuM, FvR, PuQ, PuR, FnP, FnQ, FgH, FgK, FnT, FnU, FnV, FnW, FnX, FnY, FnZ, FgA, FgB, FgL, LiB of the workplace, joined. -/
import Derived.Test.YtopcjbahjjhdmaaGreatB5
import Derived.Lib.Mul64
import Derived.Sort.OwnSortedInts
namespace Go.Proofs.YtopcjbahjjhdmaaGreat
open Go Go.RowKit
set_option linter.unusedVariables false
theorem xN {α β:Type}{step:α->β ⊕ α}(Inv:α->Prop)(μ:α->Nat)(h: ∀x y,Inv x->step x= .inr y->Inv y/\μ y<μ x): ∀x,Inv x->∃N R,cH step N x=some R:=by
 have key: ∀n x,μ x=n->Inv x->∃N R,cH step N x=some R:=by
  intro n
  induction n using Nat.strongRecOn with
  |_ n ih=>
   intro x hx hi;cases e:step x with
   |inl b=>exact⟨1,b,by simp[cH,e]⟩
   |inr y=>
    obtain⟨h1,h2⟩:=h x y hi e;obtain⟨N,R,hR⟩:=ih (μ y) (hx▸h2) y Y h1;exact⟨N+1,R,by simp[cH,e,hR]⟩
 exact λx hi=>key _ x Y hi
theorem o8 {α β:Type}{step:α->β ⊕ α}(Inv:α->Prop)(h: ∀x y,Inv x->step x= .inr y->Inv y): ∀(N:Nat) (x:α) (R:β),Inv x->cH step N x=some R->∃z,Inv z/\step z= .inl R
 |0,x,R,_,e=>by cases e
 |n+1,x,R,hi,e=>by
  cases hs:step x with
  |inl b=>simp only[cH,hs,D6]at e;exact⟨x,hi,by rw[hs,e]⟩
  |inr y=>simp only[cH,hs]at e;exact o8 Inv h n y R (h x y hi hs) e
def weight (d:aa):Nat:=(d.map λx=>(vals x).length).sum
theorem gY: ∀{d:aa} {i:Nat} {y:List (Int×Int)} (x:List (Int×Int)),d[i]? =some y->weight (d.set i x)+(vals y).length=weight d+(vals x).length
 | [],i,y,x,h=>by simp at h
 |z::d,0,y,x,h=>by
  simp at h;subst h;simp only[GO,weight,DZ,Eb];omega
 |z::d,i+1,y,x,h=>by
  have:=gY (d:=d) (i:=i) x (by simpa using h);simp only[List.set_cons_succ,weight,DZ,Eb]at this⊢;omega
theorem vF {d d':List (Int×Int)}(h:aA d)(h':aA d')(hs: ∀v∈vals d',v∈vals d):(vals d').length<=(vals d).length/\(d'≠d->(vals d').length<(vals d).length):=by
 have hle:=bS (aF h') hs;refine⟨hle,λhne=>Nat.lt_of_le_of_ne hle λe=>hne ?_⟩;refine iC h' h (dG (aF h') (aF h) λv=>⟨hs v,λhv=> ?_⟩);refine E0 λhn=> ?_;have h1:(v::vals d').Nodup:=ED.2 ⟨hn,dA (aF h')⟩;have h2:(v::vals d').length<=(vals d).length:=h1.length_le_of_subset λw hw=>by
  rcases DO.1 hw with rfl|hw;·exact hv
  ·exact hs w hw
 simp at h2;omega
structure Cutd (d out:aa):Prop where
 len:out.length=d.length
 fine: ∀x∈out,Fine x
 ne: ∀x∈out,x≠[]
 sub: ∀(i:Nat) x y,out[i]? =some x->d[i]? =some y->∀v∈vals x,v∈vals y
theorem Cutd.set {d out:aa}(h:Cutd d out){i:Nat}{x y:List (Int×Int)}(hy:out[i]? =some y)(hx:aA x)(hne:x≠[])(hs: ∀v∈vals x,v∈vals y):Cutd d (out.set i x):=by
 have hym:=D7 hy;refine⟨by simp[h.len],λz hz=> ?_,λz hz=> ?_,λj z w hz hw v hv=> ?_⟩
 ·rcases DV hz with hz|rfl;·exact h.fine z hz
  ·exact(h.fine y hym).cut hx hs
 ·rcases DV hz with hz|rfl;·exact h.ne z hz
  ·exact hne
 ·by_cases e:i=j
  ·subst e;have hlt:=(D5.1 hy).1;rw[E6 hlt]at hz;obtain rfl:=D3 hz;exact h.sub i y w hy hw v (hs v hv)
  ·rw[Ds e]at hz;exact h.sub j z w hz hw v hv
theorem yi {c:Con}{d out next:aa}(hv:cN out c)(h:Cutd d out)(hs:dK c out= .inr next):Cutd d next/\cN next c/\weight next<weight out:=by
 have hh:=jC c;unfold dK at hs;split at hs;·cases hs
 ·rename_i hk;have hkl:placeO out c<halfOf c:=(by have:=mg (dY out c) (halfOf c);unfold placeO at hk⊢;omega);have hp:dY out c (placeO out c)=false:=mY hkl;have hv1:=hv.2 _ (aK (c:=c) (k:=placeO out c) (by omega));have hv2:=hv.2 _ (aK (c:=c) (k:=halfOf c+placeO out c) (by omega));have hab:varAt c (placeO out c)≠varAt c (halfOf c+placeO out c):=λe=>(by rw[dY,e]at hp;simp[gB]at hp);simp only at hs;generalize varAt c (placeO out c)=a at*;generalize varAt c (halfOf c+placeO out c)=b at*;have ha:=aq hv1.2;have hb:=aq hv2.2;have fa:=h.fine _ (ah hv1.2);have fb:=h.fine _ (ah hv2.2);generalize domAt out a=da at*;generalize domAt out b=db at*;obtain⟨x1,x2⟩:=bQ fa.ok (-1048576) (aN db);obtain⟨y1,y2⟩:=bQ fb.ok (az da) 1048576;generalize domCut da (-1048576) (aN db)=x at*;generalize domCut db (az da) 1048576=y at*;split at hs;·cases hs
  ·rename_i hne;split at hs;·cases hs
   ·rename_i hns;obtain rfl:=Sum.inr.inj hs;have hsx: ∀v∈vals x,v∈vals da:=λv hv=>((x2 v).1 hv).1;have hsy: ∀v∈vals y,v∈vals db:=λv hv=>((y2 v).1 hv).1;have hne':a.toNat≠b.toNat:=(by omega);have hb':(out.set a.toNat x)[b.toNat]? =some db:=(by rw[Ds hne'];exact hb);refine⟨(h.set ha x1 (λe=>hne (.inl e)) hsx).set hb' y1 (λe=>hne (.inr e)) hsy,(hv.set _ _).set _ _,?_⟩;have w1:=gY x ha;have w2:=gY y hb';have l1:=vF fa.ok x1 hsx;have l2:=vF fb.ok y1 hsy;by_cases e1:x=da
    ·have e2:y≠db:=λe=>hns ⟨e1,e⟩;have:=l2.2 e2;subst e1;omega
    ·have:=l1.2 e1;omega
theorem qn {c:Con}{d:aa}(hv:cN d c)(hf: ∀x∈d,Fine x): ∃R N,(if []∈d then R=none else cH (dK c) N d=some R)/\(∀out,R=some out->Cutd d out/\dK c out= .inl (some out)):=by
 by_cases he: []∈d;·exact⟨none,0,by rw[D4 he],λout h=>by cases h⟩
 ·have h0:Cutd d d:=⟨rfl,hf,λx hx e=>he (e▸hx),λi x y hx hy v hv=>by rw[hx]at hy;exact D3 hy▸hv⟩;have hst: ∀x y,(Cutd d x/\cN x c)->dK c x= .inr y->(Cutd d y/\cN y c)/\weight y<weight x:=λx y hi hs=>by
   have:=yi hi.2 hi.1 hs;exact⟨⟨this.1,this.2.1⟩,this.2.2⟩
  obtain⟨N,R,hR⟩:=xN (step:=dK c) (λx=>Cutd d x/\cN x c) weight hst d ⟨h0,hv⟩;refine⟨R,N,by rw[D2 he];exact hR,λout h=> ?_⟩;obtain⟨z,hz,hs⟩:=o8 (λx=>Cutd d x/\cN x c) (λx y hi hs=>(hst x y hi hs).1) N d R ⟨h0,hv⟩ hR;have:z=out:=by
   subst h;unfold dK at hs;split at hs;·simpa using hs
   ·simp only at hs;split at hs;·simp at hs
    ·split at hs;·simpa using hs
     ·cases hs
  subst this;rw[h]at hs;exact⟨hz.1,hs⟩
set_option linter.unusedSimpArgs false
abbrev wr (n:Int):Int:=IntKind.i64.wrap n
def smallI (n:Int):Bool:=decide (-4611686018427387904<=n)&&decide (n<=4611686018427387904)
def mulI (a b:Int):Int×Bool:=if smallI a&&smallI b&&smallI (a*b)then(a*b,true)else(0,false)
def endW (d:List (Int×Int))(k:Int)(high:Bool):Int×Bool:=((mulI k (if decide (0<k)==high then aN d else az d)).1,!d.isEmpty&&(mulI k (if decide (0<k)==high then aN d else az d)).2)
def kB:List (List (Int×Int)×Int)->Int->Int->Int×Int×Bool
 | [],lo,hi=>(lo,hi,true)
 |(x,k)::ts,lo,hi=>if(endW x k false).2 then kB ts (wr (lo+(endW x k false).1)) (wr (hi+(endW x k true).1))else(0,0,false)
def ac (d:aa)(vars coefs:List Int):List (List (Int×Int)×Int):=(vars.zip coefs).map λp=>(domAt d p.1,p.2)
def endsW (d:aa)(vars coefs:List Int):Int×Int×Bool:=kB (ac d vars coefs) 0 0
def Ct (d:List (Int×Int))(k:Int):Int×Int×Bool:=(min (wr (k*(pw d).1)) (wr (k*(pw d).2.1)),max (wr (k*(pw d).1)) (wr (k*(pw d).2.1)),(pw d).2.2)
def cy (d:List (Int×Int))(k:Int):Int:=if 0<k then k*az d else k*aN d
def fW (d:List (Int×Int))(k:Int):Int:=if 0<k then k*aN d else k*az d
def bi (ts:List (List (Int×Int)×Int)):Int:=(ts.map λt=>cy t.1 t.2).sum
def fV (ts:List (List (Int×Int)×Int)):Int:=(ts.map λt=>fW t.1 t.2).sum
def aG (k:Int):Int:=max k (-k)
def aj (coefs:List Int):Int:=(coefs.map λk=>aG k*1048576).sum
theorem bE (k:Int):0<=aG k:=by unfold aG;omega
theorem d3 (k x:Int)(h1: -1048576<=x)(h2:x<=1048576): -(aG k*1048576)<=k*x/\k*x<=aG k*1048576:=by
 unfold aG;by_cases hk:0<=k
 ·have e1:=EM h2 hk;have e2:=EM h1 hk;rw[show max k (-k)=k by omega];omega
 ·have hk':0<=-k:=(by omega);have e1:=EM h2 hk';have e2:=EM h1 hk';rw[Ge]at e1 e2;rw[show max k (-k)= -k by omega];rw[Ge]at e1 e2⊢;omega
theorem sh {d:List (Int×Int)}(h:Fine d)(hne:d≠[]): -1048576<=az d/\az d<=aN d/\aN d<=1048576:=by
 have h1:=fH h.ok hne;have h2:=o6 h.ok hne;have:=h.val _ h1;have:=h.val _ h2;have:=nM h.ok h1;omega
theorem lu {d:List (Int×Int)}(h:Fine d)(hne:d≠[])(k:Int): -(aG k*1048576)<=cy d k/\cy d k<=fW d k/\fW d k<=aG k*1048576:=by
 obtain⟨h1,h2,h3⟩:=sh h hne;have m1:=d3 k (az d) h1 (by omega);have m2:=d3 k (aN d) (by omega) h3;unfold cy fW;by_cases hk:0<k
 ·rw[D4 hk,D4 hk];have:=EM h2 (show 0<=k by omega);omega
 ·rw[D2 hk,D2 hk];have:=FX (show k<=0 by omega) h2;omega
def CoefOk (k:Int):Prop:=k≠0/\aG k<=4398046511104
theorem lh {k x:Int}(hk:CoefOk k)(h1: -1048576<=x)(h2:x<=1048576):mulI k x=(k*x,true):=by
 have m:=d3 k x h1 h2;have h3:=hk.2;unfold mulI smallI;have e:aG k=max k (-k):=rfl;rw[D4];simp only[DJ,DN];omega
theorem sj {d:List (Int×Int)}{k:Int}(h:Fine d)(hne:d≠[])(hk:CoefOk k):endW d k false=(cy d k,true)/\endW d k true=(fW d k,true):=by
 obtain⟨h1,h2,h3⟩:=sh h hne;have hb:d.isEmpty=false:=by cases d with
  |nil=>exact DU Y hne
  |cons r d=>rfl
 unfold endW cy fW;rw[hb];by_cases hp:0<k
 ·rw[DD hp,D4 hp,D4 hp];simp only[Bool.not_false,EU,beq_self_eq_true,if_true];rw[D2 (by decide),lh hk h1 (by omega),lh hk (by omega) h3];exact⟨rfl,rfl⟩
 ·rw[DC hp,D2 hp,D2 hp];simp only[Bool.not_false,EU,beq_self_eq_true,if_true];rw[D2 (by decide),lh hk h1 (by omega),lh hk (by omega) h3];exact⟨rfl,rfl⟩
theorem xU {d:List (Int×Int)}{k:Int}(h:Fine d)(hne:d≠[])(hk:CoefOk k):Ct d k=(cy d k,fW d k,true):=by
 obtain⟨h1,h2,h3⟩:=sh h hne;have m1:=d3 k (az d) h1 (by omega);have m2:=d3 k (aN d) (by omega) h3;have h4:=hk.2;unfold Ct wr;rw[AN h.ok hne];simp only;rw[af (by omega) (by omega),af (by omega) (by omega)];unfold cy fW;by_cases hp:0<k
 ·rw[D4 hp,D4 hp];have:=EM h2 (show 0<=k by omega);rw[show min (k*az d) (k*aN d)=k*az d by omega,show max (k*az d) (k*aN d)=k*aN d by omega]
 ·rw[D2 hp,D2 hp];have:=FX (show k<=0 by omega) h2;rw[show min (k*az d) (k*aN d)=k*aN d by omega,show max (k*az d) (k*aN d)=k*az d by omega]
def gw (ts:List (List (Int×Int)×Int)):Prop:= ∀t∈ts,Fine t.1/\CoefOk t.2
def aZ (ts:List (List (Int×Int)×Int)):Int:=aj (ts.map (·.2))
theorem cz (t:List (Int×Int)×Int)(ts):aZ (t::ts)=aG t.2*1048576+aZ ts:=by simp[aZ,aj]
theorem de: ∀ts,0<=aZ ts
 | []=>by simp[aZ,aj]
 |t::ts=>by
  rw[cz];have:=de ts;have:=bE t.2;omega
theorem kL: ∀{ts:List (List (Int×Int)×Int)},gw ts->(∀t∈ts,t.1≠[])->-aZ ts<=bi ts/\bi ts<=fV ts/\fV ts<=aZ ts
 | [],_,_=>by simp[aZ,aj,bi,fV]
 |t::ts,h,hne=>by
  obtain⟨h1,h2,h3⟩:=kL (ts:=ts) (λt ht=>h t (.tail _ ht)) (λt ht=>hne t (.tail _ ht));obtain⟨h4,h5,h6⟩:=lu (h t (.head _)).1 (hne t (.head _)) t.2;rw[cz];simp only[bi,fV,DZ,Eb]at h1 h2 h3⊢;omega
theorem jH: ∀{ts:List (List (Int×Int)×Int)} (lo hi:Int),gw ts->(∀t∈ts,t.1≠[])->-4611686018427388928<=lo-aZ ts->lo+aZ ts<=4611686018427388928->-4611686018427388928<=hi-aZ ts->hi+aZ ts<=4611686018427388928->kB ts lo hi=(lo+bi ts,hi+fV ts,true)
 | [],lo,hi,_,_,_,_,_,_=>by simp[kB,bi,fV]
 |(x,k)::ts,lo,hi,h,hne,h1,h2,h3,h4=>by
  obtain⟨hf,hk⟩:=h _ (.head _);have hx:=hne _ (.head _);obtain⟨e1,e2⟩:=sj hf hx hk;obtain⟨b1,b2,b3⟩:=lu hf hx k;have hp:=de ts;rw[cz]at h1 h2 h3 h4;simp only at h1 h2 h3 h4 e1 e2 b1 b2 b3;rw[kB,e1,e2,D4 Y];simp only[wr];rw[af (by omega) (by omega),af (by omega) (by omega),jH _ _ (λt ht=>h t (.tail _ ht)) (λt ht=>hne t (.tail _ ht)) (by omega) (by omega) (by omega) (by omega)];simp only[bi,fV,DZ,Eb,Prod.mk.injEq,and_true];omega
set_option maxRecDepth 8000
theorem gu (l:List Int)(hl:l.length*8<=140737488355328):Spec Tryz.prog 152 false [ao l] [.val (.bool (l.all smallI))]:=by
 refine Spec.body Tryz.func152 Y Y Y λw0 Z0=> ?_;refine .B ?_;refine T.K (T.ind (λi:Nat=>⟨[(5,.val false (ao l)),(6,.val true (.int .i64 (l.map cI).length)),(7,.val true (.int .i64 i))],[],0⟩) (λi=>i<=l.length/\(l.take i).all smallI=true) (λi=>l.length-i) 0 (by simp) (λ_ _ h=>h) ?_);rintro i ⟨hi,hd⟩ ih;refine .B ?_;refine T.cd Y (λh1=> ?_) (λh1=> ?_)
 ·have h1:i<l.length:=(by simpa using h1);have hno:smallI l[i]=false->l.all smallI=false:=λh=>by
   cases h2:l.all smallI with
   |false=>rfl
   |true=>rw[DI.1 h2 _ (D8 h1)]at h;cases h
  refine .B ?_;refine .F (r:=cI l[i]) (aO h1) ?_;refine J.g Y Y Y (λh2=> ?_) (λh2=> ?_)
  ·refine .B ?_;refine T.ct Y ?_;refine .B ?_;exact⟨_,.v Y Y (by rw[hno];simp[smallI];omega) (λ_=>rfl) .nil⟩
  ·refine .B ?_;refine T.cd Y (λh3=> ?_) (λh3=> ?_)
   ·refine .B ?_;exact⟨_,.v Y Y (by rw[hno];simp[smallI];omega) (λ_=>rfl) .nil⟩
   ·refine .B ?_;rw[ak (l:=l.length) (by omega) (by omega)];refine T.K (ih (i+1) ⟨by omega,?_⟩ (by omega));rw[DB h1,Er,hd];simp[smallI];omega
 ·have h1:i=l.length:=(by simp at h1;omega);subst h1;rw[E8]at hd;refine .B ?_;exact⟨_,.v Y Y (by rw[hd]) (λ_=>rfl) .nil⟩
theorem pW (n:Int):IntKind.u64.wrap n=n % 18446744073709551616:=by simp[IntKind.wrap,IntKind.bits,IntKind.signed]
theorem pa (n:Int)(h: -9223372036854775808<=n)(h2:n<=9223372036854775807):Spec Tryz.prog 154 false [.int .i64 n] [.val (.int .u64 ((n.natAbs:Nat):Int))]:=by
 refine Spec.body Tryz.func154 Y Y Y λw0 Z0=> ?_;refine .B ?_;refine T.cd Y (λh3=> ?_) (λh3=> ?_)
 ·have h3:n<0:=h3;refine .B ?_;exact⟨_,.v Y Y (by rw[pW,pW];congr 1;omega) (λ_=>rfl) .nil⟩
 ·have h3: ¬n<0:=h3;refine .B ?_;exact⟨_,.v Y Y (by rw[pW];congr 1;omega) (λ_=>rfl) .nil⟩
theorem Ar (a:Nat)(ha:a<18446744073709551616):IntKind.u64.wrap (BitVec.ofInt IntKind.u64.bits (a:Int) &&& BitVec.ofInt IntKind.u64.bits 4294967295).toNat=((a % 4294967296:Nat):Int):=by
 have e:(BitVec.ofInt IntKind.u64.bits (a:Int) &&& BitVec.ofInt IntKind.u64.bits 4294967295).toNat=a % 4294967296:=by
  rw[BitVec.toNat_and];have e1:(BitVec.ofInt IntKind.u64.bits (a:Int)).toNat=a:=by
   rw[BitVec.toNat_ofInt];have:((2 ^ IntKind.u64.bits:Nat):Int)=18446744073709551616:=rfl;rw[this];omega
  have e2:(BitVec.ofInt IntKind.u64.bits 4294967295).toNat=2 ^ 32-1:=rfl;rw[e1,e2,Nat.and_two_pow_sub_one_eq_mod]
 rw[e,pW];omega
theorem Df (a:Nat):((a:Int)).fdiv (2 ^ (min (32:Int).toNat IntKind.u64.bits))=((a / 4294967296:Nat):Int):=by
 have:(2:Int) ^ (min (32:Int).toNat IntKind.u64.bits)=4294967296:=rfl;rw[this,Int.fdiv_eq_ediv_of_nonneg _ (by decide)];omega
theorem CT (a b:Nat):(a:Int)*(b:Int)=((a*b:Nat):Int):=(HE a b).symm
theorem De (a b:Nat):(a:Int)+(b:Int)=((a+b:Nat):Int):=(Int.natCast_add a b).symm
theorem mL (a:Nat)(ha:a<18446744073709551616):IntKind.u64.wrap (a:Int)=(a:Int):=by rw[pW];omega
theorem Cy (a:Nat):IntKind.u64.wrap (a:Int)=((a % 18446744073709551616:Nat):Int):=by rw[pW];omega
theorem ww (x y:Nat)(hx:x<18446744073709551616)(hy:y<18446744073709551616):Spec Tryz.prog 153 false [.int .u64 (x:Int),.int .u64 (y:Int)] [.val (.int .u64 ((x*y / 18446744073709551616:Nat):Int)),.val (.int .u64 ((x*y % 18446744073709551616:Nat):Int))]:=by
 obtain⟨bd,bt,bw,hhi⟩:=Lib.mul64_hi x y hx hy;have ba:=Lib.half_mul_le (a:=x / 4294967296) (b:=y / 4294967296) (by omega) (by omega);have bb:=Lib.half_mul_le (a:=x / 4294967296) (b:=y % 4294967296) (by omega) (by omega);have bc:=Lib.half_mul_le (a:=x % 4294967296) (b:=y / 4294967296) (by omega) (by omega);have ba':x / 4294967296*(y / 4294967296)<18446744073709551616:=(by omega);have bb':x / 4294967296*(y % 4294967296)<18446744073709551616:=(by omega);have bc':x % 4294967296*(y / 4294967296)<18446744073709551616:=(by omega);have bh1:x / 4294967296*(y / 4294967296)+(x / 4294967296*(y % 4294967296)+x % 4294967296*(y % 4294967296) / 4294967296) / 4294967296<18446744073709551616:=(by omega);have bh:x / 4294967296*(y / 4294967296)+(x / 4294967296*(y % 4294967296)+x % 4294967296*(y % 4294967296) / 4294967296) / 4294967296+((x / 4294967296*(y % 4294967296)+x % 4294967296*(y % 4294967296) / 4294967296) % 4294967296+x % 4294967296*(y / 4294967296)) / 4294967296<18446744073709551616:=by
  generalize (x / 4294967296)*(y / 4294967296)=a at*;generalize (x / 4294967296)*(y % 4294967296)=b at*;generalize (x % 4294967296)*(y / 4294967296)=c at*;generalize (x % 4294967296)*(y % 4294967296)=d at*;omega
 refine Spec.body Tryz.func153 Y Y Y λw0 Z0=> ?_;refine .B ?_;refine⟨_,.v Y Y ?_ (λ_=>rfl) (.v Y Y ?_ (λ_=>rfl) .nil)⟩
 ·simp only[Ar x hx,Ar y hy,Df,CT,De,mL _ bd,mL _ bb',mL _ bt,Ar _ bt,mL _ bc',mL _ bw,mL _ ba',mL _ bh1,mL _ bh];rw[hhi]
 ·rw[CT,Cy]
theorem mC (a b:Int)(ha1: -9223372036854775808<=a)(ha2:a<=9223372036854775807)(hb1: -9223372036854775808<=b)(hb2:b<=9223372036854775807):
  Spec Tryz.prog 120 false [.int .i64 a,.int .i64 b] [.val (.int .i64 (mulI a b).1),.val (.bool (mulI a b).2)]:=by
 refine Spec.body Tryz.func120 Y Y Y λw0 Z0=> ?_;have hs:=gu [a,b] (by simp);refine .B ?_;refine .V ?_;refine .D hs ?_;refine T.cond Y (λh=> ?_) (λh=> ?_)
 ·have e:mulI a b=(0,false):=by
   unfold mulI;rw[D2];intro h2;simp at h h2;rcases h with h|h;·rw[h2.1.1]at h;cases h
   ·rw[h2.1.2]at h;cases h
  rw[e];refine .B ?_;exact r2
 ·have hsa:smallI a=true/\smallI b=true:=(by simpa using h);obtain⟨hsa,hsb⟩:=hsa;have ha: -4611686018427387904<=a/\a<=4611686018427387904:=(by simpa[smallI]using hsa);have hb: -4611686018427387904<=b/\b<=4611686018427387904:=(by simpa[smallI]using hsb);have hm:=ww a.natAbs b.natAbs (by omega) (by omega);have hab:(a*b).natAbs=a.natAbs*b.natAbs:=Int.natAbs_mul a b;have hp1:(a<0)≠(b<0)->a*b<=0:=by
   intro hne;by_cases h1:a<0
   ·have h2: ¬b<0:=λh2=>hne (by simp[h1,h2]);exact Int.mul_nonpos_of_nonpos_of_nonneg (by omega) (by omega)
   ·have h2:b<0:=by
     by_cases h2:b<0;·exact h2
     ·exact DU (by simp[h1,h2]) hne
    exact Int.mul_nonpos_of_nonneg_of_nonpos (by omega) (by omega)
  have hp2:(a<0)=(b<0)->0<=a*b:=by
   intro heq;by_cases h1:a<0
   ·have h2:b<0:=(by rw[<-heq];exact h1);exact Int.mul_nonneg_of_nonpos_of_nonpos (by omega) (by omega)
   ·have h2: ¬b<0:=(by rw[<-heq];exact h1);exact Int.mul_nonneg (by omega) (by omega)
  have hmi:mulI a b=if smallI (a*b)then(a*b,true)else(0,false):=by simp[mulI,hsa,hsb]
  rw[hmi];rw[<-hab]at hm;clear hab hmi;generalize a*b=p at*;refine .B ?_;refine .D (pa a ha1 ha2) ?_;refine .C (pa b hb1 hb2) ?_;refine .D hm ?_;refine J.g Y Y Y (λh4=> ?_) (λh4=> ?_)
  ·have h4:((p.natAbs / 18446744073709551616:Nat):Int)≠0:=h4;refine .B ?_;refine T.ct Y ?_;have e:smallI p=false:=(by simp[smallI];omega);rw[e];refine .B ?_;exact r2
  ·have h4: ¬((p.natAbs / 18446744073709551616:Nat):Int)≠0:=h4;refine .B ?_;refine T.cd Y (λh5=> ?_) (λh5=> ?_)
   ·have h5:((p.natAbs % 18446744073709551616:Nat):Int) > 4611686018427387904:=h5;have e:smallI p=false:=(by simp[smallI];omega);rw[e];refine .B ?_;exact r2
   ·have h5: ¬((p.natAbs % 18446744073709551616:Nat):Int) > 4611686018427387904:=h5;have e:smallI p=true:=(by simp[smallI];omega);rw[e];refine .B ?_;refine T.cond Y (λh6=> ?_) (λh6=> ?_)
    ·have h7:=hp1 (by intro e;simp[e]at h6);refine .B ?_;exact⟨_,.v Y Y (by simp only[if_true];rw[af (n:=((p.natAbs % 18446744073709551616:Nat):Int)) (by omega) (by omega),af (by omega) (by omega)];congr 1;omega) (λ_=>rfl) (.v Y Y Y (λ_=>rfl) .nil)⟩
    ·have h7:=hp2 (by
      by_cases h1:a<0<;>by_cases h2:b<0<;>simp[h1,h2]at h6⊢)
     refine .B ?_;exact⟨_,.v Y Y (by simp only[if_true];rw[af (by omega) (by omega)];congr 1;omega) (λ_=>rfl) (.v Y Y Y (λ_=>rfl) .nil)⟩
theorem AM {d:List (Int×Int)}(h:InB d): -1048576<=az d/\az d<=1048576/\-1048576<=aN d/\aN d<=1048576:=by
 constructor
 ·cases d with
  |nil=>simp[az]
  |cons r d=>exact(h r (.head _)).1
 ·constructor
  ·cases d with
   |nil=>simp[az]
   |cons r d=>exact(h r (.head _)).2.1
  ·unfold aN;cases hl:d.getLast? with
   |none=>simp
   |some r=>
    have:=h r (List.mem_of_getLast? hl);exact⟨this.2.2.1,this.2.2.2⟩
theorem f4 {k:Int}(h:CoefOk k): -4398046511104<=k/\k<=4398046511104:=by
 have:=h.2;unfold aG at this;omega
theorem jx (d:List (Int×Int))(k:Int)(high:Bool)(hd:DomB d)(hk:CoefOk k):Spec Tryz.prog 233 false [dm d,.int .i64 k,.bool high] [.val (.int .i64 (endW d k high).1),.val (.bool (endW d k high).2)]:=by
 refine Spec.body Tryz.func233 Y Y Y λw0 Z0=> ?_;obtain⟨h1,h2,h3,h4⟩:=AM hd.1;have hk2:=f4 hk;refine T.seq ?_;refine T.r ?_
 repeat' first|refine J.e Y Y Y Y ?_|refine J.skip Y Y Y ?_|refine J.bx Y Y Y Y Y Y ?_
 refine J.nil ?_;refine T.seq ?_;refine T.r ?_
 repeat' first|refine J.e Y Y Y Y ?_|refine J.skip Y Y Y ?_|refine J.bx Y Y Y Y Y Y ?_
 refine .C (kz d) ?_
 repeat' first|refine J.e Y Y Y Y ?_|refine J.skip Y Y Y ?_|refine J.bx Y Y Y Y Y Y ?_
 refine J.nil ?_;refine T.mid ⟨[(1,.val false (.int .i64 k)),(8,.val true (.int .i64 (if decide (0<k)==high then aN d else az d))),(9,.val true (.bool (!d.isEmpty)))],[],0⟩ ?_ ?_
 ·refine .B ?_;refine T.cond Y (λh=> ?_) (λh=> ?_)
  ·have h:(decide (0<k)==high)=true:=h;rw[D4 h];refine .B ?_;refine .D (qB d (by have:=hd.2.2;omega)) ?_;exact⟨rfl,[1,8,9],[],rfl,rfl⟩
  ·have h:(decide (0<k)==high)=false:=h;rw[h];refine .B ?_;exact⟨rfl,[1,8,9],[],rfl,rfl⟩
 ·have hm:=mC k (if decide (0<k)==high then aN d else az d) (by omega) (by omega) (by split<;>omega) (by split<;>omega);unfold endW;generalize (if decide (0<k)==high then aN d else az d)=x at*;generalize mulI k x=m at*;refine .B ?_;refine .D hm ?_;refine J.gb Y Y Y (λh=> ?_) (λh=> ?_)
  ·rw[h];refine .B ?_;exact⟨_,.v Y Y Y (λ_=>rfl) (.v Y Y (by simp) (λ_=>rfl) .nil)⟩
  ·rw[h];refine .B ?_;exact r2
structure SumIn (d:aa)(vars coefs:List Int):Prop where
 len:vars.length=coefs.length
 vl:vars.length*8<=140737488355328
 vin: ∀v∈vars,0<=v/\v.toNat<d.length
 ck: ∀k∈coefs,CoefOk k
 dom: ∀x∈d,DomB x
 dl:d.length*24<=140737488355328
theorem n3 {d:aa}{vars coefs:List Int}{i:Nat}(h1:i<vars.length)(h2:i<coefs.length):(ac d vars coefs).drop i=(domAt d vars[i],coefs[i])::(ac d vars coefs).drop (i+1):=by
 have hl:i<(ac d vars coefs).length:=(by simp[ac];omega);rw[DQ hl];simp[ac]
theorem p9 {d:aa}{vars coefs:List Int}(h:vars.length=coefs.length):(ac d vars coefs).drop vars.length=[]:=by
 refine Ef ?_;simp[ac];omega
theorem o4 (d:aa)(vars coefs:List Int)(h:SumIn d vars coefs):Spec Tryz.prog 234 false [aJ d,ao vars,ao coefs] [.val (.int .i64 (endsW d vars coefs).1),.val (.int .i64 (endsW d vars coefs).2.1),.val (.bool (endsW d vars coefs).2.2)]:=by
 refine Spec.body Tryz.func234 Y Y Y λw0 Z0=> ?_;obtain⟨hlen,hvl,hvin,hck,hdom,hdl⟩:=h;refine .B ?_;refine T.K (T.ind (λs:Nat×Int×Int=>⟨[(0,.val false (aJ d)),(2,.val false (ao coefs)),(9,.val true (.int .i64 s.2.1)),(10,.val true (.int .i64 s.2.2)),(17,.val false (ao vars)),(18,.val true (.int .i64 (vars.map cI).length)),(19,.val true (.int .i64 s.1))],[],0⟩)
  (λs=>s.1<=vars.length/\kB ((ac d vars coefs).drop s.1) s.2.1 s.2.2=endsW d vars coefs) (λs=>vars.length-s.1) (0,0,0) ⟨by simp,rfl⟩ (λ_ _ h=>h) ?_)
 rintro⟨i,lo,hi⟩ ⟨hil,he⟩ ih;simp only at hil he;dsimp only;refine .B ?_;refine T.cd Y (λh1=> ?_) (λh1=> ?_)
 ·have h1:i<vars.length:=(by simpa using h1);have h2:i<coefs.length:=(by omega);have hv:=hvin _ (D8 h1);have hk:=hck _ (D8 h2);have hx:=hdom _ (ah hv.2);have hrow:(d.map cD)[vars[i].toNat]? =some (cD (domAt d vars[i])):=(by simp[aq hv.2]);rw[n3 h1 h2,kB]at he;refine .B ?_;refine .F (r:=cI vars[i]) (aO h1) ?_;refine J.i Y Y Y Y Y Y Y Y Y (r:=cD (domAt d vars[i])) hv.1 hrow Y ?_;refine .B ?_;refine .F (r:=cI coefs[i]) (aO h2) ?_;refine J.cc Y Y Y Y Y (jx _ _ false hx hk) Y Y ?_;refine .B ?_;refine J.i Y Y Y Y Y Y Y Y Y (r:=cD (domAt d vars[i])) hv.1 hrow Y ?_;refine .B ?_;refine .F (r:=cI coefs[i]) (aO h2) ?_;refine J.cc Y Y Y Y Y (jx _ _ true hx hk) Y Y ?_;generalize endW (domAt d vars[i]) coefs[i] false=e1 at*;generalize endW (domAt d vars[i]) coefs[i] true=e2 at*;obtain⟨n1,b1⟩:=e1;refine .B ?_;cases b1
  ·simp only[EF,if_false]at he;refine .B ?_;refine T.ct Y ?_;refine .B ?_;exact⟨_,.v Y Y (by rw[<-he]) (λ_=>rfl) (.v Y Y (by rw[<-he]) (λ_=>rfl) (.v Y Y (by rw[<-he]) (λ_=>rfl) .nil))⟩
  ·simp only[if_true]at he;refine .B ?_;refine T.cf Y ?_;refine .B ?_;rw[ak (l:=vars.length) (by omega) (by omega)];exact T.K (ih (i+1,wr (lo+n1),wr (hi+e2.1)) ⟨by simp only;omega,he⟩ (by simp only;omega))
 ·have h1:i=vars.length:=(by simp at h1;omega);subst h1;rw[p9 hlen]at he;refine .B ?_;exact⟨_,.v Y Y (by rw[<-he];rfl) (λ_=>rfl) (.v Y Y (by rw[<-he];rfl) (λ_=>rfl) (.v Y Y (by rw[<-he];rfl) (λ_=>rfl) .nil))⟩
theorem yR (d:aa)(hl:d.length*24<=140737488355328)(hx: ∀x∈d,x.length*16<=140737488355328):Spec Tryz.prog 199 false [aJ d] [.own 54 1 ((if []∈d then []else d).map cD),.val (.bool (!decide ([]∈d)))]:=by
 refine Spec.body Tryz.func199 Y Y Y λw0 Z0=> ?_;refine .B ?_;refine T.sub (Rel.own0 (s:=4) 54 1 Y) ?_;refine T.K (T.listI d (λpre=>[]∉pre) (λn pre post=>⟨[(4,.ref 0),(7,.val false (aJ d)),(8,.val true (.int .i64 (d.map cD).length)),(9,.val true (.int .i64 n))],[(0,some (.sl 54 1 true (pre.map cD)))],1⟩) (λ_ _ h=>h) (by simp) ?_ ?_)
 ·rintro n pre x post h hn hi ih;have hlt:=cg h hn;have hxl:=hx x (by rw[h];simp);refine .B ?_;refine T.ct2 Y (ce h hn) ?_;refine .B ?_;refine .F (r:=cD x) (aS h hn) ?_;refine T.cd Y (λh1=> ?_) (λh1=> ?_)
  ·have hx:x=[]:=(by simp at h1;exact h1);have hm: []∈d:=(by rw[h,hx];simp);rw[D4 hm,DD hm];refine .B ?_;exact⟨_,.ownN Y (.v Y Y Y (λ_=>rfl) .nil)⟩
  ·have hx:x≠[]:=λe=>h1 (by rw[e];rfl);refine .B ?_;refine .D (bR x (by omega)).frz ?_;refine .Z ?_;refine J.aD Y Y Y Y Y Y Y Y Y Y Y Y Y Y Y Y Y Y Y (by omega) ?_;refine .B ?_;rw[ak hlt (by omega)];exact T.K (ih (by simp[hi,Ne.symm hx]))
 ·intro hi;refine .B ?_;refine T.cf2 Y bA ?_;refine .B ?_;exact⟨_,.o Y Y (by rw[D2 hi]) (λ_=> .inl Y) (by simp) (.v rfl rfl (by simp[hi]) (λ_=>rfl) .nil)⟩
def gD (a b:Int):Int:=if a.tmod b<0 then wr (wr (a.tdiv b)-1)else wr (a.tdiv b)
theorem pk (a b:Int)(hb:b≠0):Spec Tryz.prog 235 false [.int .i64 a,.int .i64 b] [.val (.int .i64 (gD a b))]:=by
 refine Spec.body Tryz.func235 Y Y Y λw0 Z0=> ?_;unfold gD;refine .B ?_;refine J.qu Y Y Y Y Y Y hb ?_;refine .B ?_;refine J.rm Y Y Y Y Y Y hb ?_;refine .B ?_;refine T.cd Y (λh=> ?_) (λh=> ?_)
 ·have h:a.tmod b<0:=h;refine .B ?_;exact⟨_,.v Y Y (by rw[D4 h]) (λ_=>rfl) .nil⟩
 ·have h: ¬a.tmod b<0:=h;refine .B ?_;exact⟨_,.v Y Y (by rw[D2 h]) (λ_=>rfl) .nil⟩
def aB (l:List Int):List Int:=l.map λk=>wr (0-k)
theorem lq (l:List Int)(hl:l.length*8<=140737488355328):Spec Tryz.prog 201 false [ao l] [.own 3 1 ((aB l).map cI)]:=by
 refine Spec.body Tryz.func201 Y Y Y λw0 Z0=> ?_;refine .B ?_;refine T.sub (Rel.own0 (s:=3) 3 1 Y) ?_;refine T.K (T.list l (λn pre post=>⟨[(3,.ref 0),(6,.val false (ao l)),(7,.val true (.int .i64 (l.map cI).length)),(8,.val true (.int .i64 n))],[(0,some (.sl 3 1 true ((aB pre).map cI)))],1⟩) (λ_ _ h=>h) ?_ ?_)
 ·rintro n pre x post h hn ih;have hlt:=cg h hn;refine .B ?_;refine T.ct2 Y (ce h hn) ?_;refine .B ?_;refine .F (r:=cI x) (aS h hn) ?_;refine .V ?_;refine J.aI Y Y Y Y Y Y Y Y Y Y Y Y Y Y Y Y Y Y Y (by simp[aB];omega) ?_;refine .B ?_;rw[ak hlt (by omega),show aB pre++[IntKind.i64.wrap (0-x)]=aB (pre++[x])by simp[aB]];exact T.K ih
 ·refine .B ?_;refine T.cf2 Y bA ?_;refine .B ?_;exact⟨_,.o Y Y Y (λ_=> .inl Y) (by simp) .nil⟩
theorem dU (l:List Int)(hl:l.length*8<=140737488355328):Spec Tryz.prog 79 false [ao l] [.own 3 1 (l.map cI)]:=by
 refine Spec.body Tryz.func79 Y Y Y λw0 Z0=> ?_;refine .B ?_;refine J.nc Y Y Y Y Y Y Y λb hb=> ?_;refine .B ?_;cases b
 ·refine T.cf Y ?_;refine .B ?_;refine .Q ?_;refine J.a Y Y Y Y Y Y Y Y Y Y Y Y Y Y Y Y Y uv (by show(0+List.length _)*8<=_;simp;omega) ?_;refine .B ?_;exact⟨_,.o Y Y Y (λ_=> .inr wO) (by simp) .nil⟩
 ·have:l=[]:=(by simpa using hb Y);subst this;refine T.ct Y ?_;refine .B ?_;exact⟨_,.ownN Y .nil⟩
def fM (d:List (Int×Int)):Int:=d.foldl (λn r=>wr (n+wr (wr (r.2-r.1)+1))) 0
theorem gI (d:List (Int×Int))(hl:d.length*8<=140737488355328):Spec Tryz.prog 109 false [dm d] [.val (.int .i64 (fM d))]:=by
 refine Spec.body Tryz.func109 Y Y Y λw0 Z0=> ?_;refine .B ?_;refine T.K (T.list d (λn pre post=>⟨[(3,.val true (.int .i64 (fM pre))),(6,.val false (dm d)),(7,.val true (.int .i64 (d.map cR).length)),(8,.val true (.int .i64 n))],[],0⟩) (λ_ _ h=>h) ?_ ?_)
 ·rintro n pre x post h hn ih;have hlt:=cg h hn;refine .B ?_;refine T.ct2 Y (ce h hn) ?_;refine .B ?_;refine .F (r:=cR x) (aS h hn) ?_;refine .L ?_;refine .B ?_;refine .X ?_;rw[ak hlt (by omega),show IntKind.i64.wrap (fM pre+IntKind.i64.wrap (IntKind.i64.wrap (x.2-x.1)+1))=fM (pre++[x])by simp[fM]];exact T.K ih
 ·refine .B ?_;refine T.cf2 Y bA ?_;refine .B ?_;exact r1
def cO (l:List Int):List Int:=l.mergeSort λx y=>decide (x<=y)
theorem pc {w:World}{Z:Nat->Prop}: ∀{xs:List Int} {vs:List Value},L2 (Rep w Z) vs (xs.map (PV.int .i64))->vs=xs.map (Value.int .i64)
 | [],_,.nil=>rfl
 |x::xs,_,.cons h h2=>by
  cases h;rw[pc h2];rfl
theorem l9 {w:World}{Z:Nat->Prop}: ∀(xs:List Int),L2 (Rep w Z) (xs.map (Value.int .i64)) (xs.map (PV.int .i64))
 | []=> .nil
 |x::xs=> .cons (.int _ _) (l9 xs)
theorem km (l:List Int)(hl:l.length*8<=140737488355328):SpecM Tryz.prog 86 3 1 (l.map cI) [] ((cO l).map cI) []:=by
 have hsl:(cO l).length=l.length:=G3 ..;refine⟨⟨_,Tryz.func86,rfl,rfl⟩,λp hp=>(by cases hp),λw Z1 v0 vs ho hz hvs=> ?_⟩;cases hvs;obtain⟨xs,hrow,hx,h1,h2⟩:=ho;rw[show(l.map cI).flatten=l.map (PV.int .i64)from re _ l]at hx;obtain rfl:=pc hx;rw[D9]at hrow;obtain⟨hln,hrow⟩:=hrow;rcases hrow with ⟨rfl,hnil⟩|⟨g,cap,cur,rfl,_,hb,hcap,hmax,hsz,htk⟩
 ·obtain rfl:l=[]:=(by simpa using hnil);refine(nq none 0 w).mono ?_;rintro e w' ⟨rfl,rfl⟩;refine⟨[],rfl,rfl,rfl,rfl,DL _,λ_ _ _=>rfl,?_,.nil⟩;rw[show cO []=[]from List.mergeSort_nil ..];refine⟨[],⟨rfl,.inl ⟨rfl,rfl⟩⟩,.nil,?_,?_⟩<;>(intro r hr;cases hr)
 ·have hg:g<w.heap.size:=(DR.1 hb).1;rw[GS]at htk;refine(vG g 0 cap l w (holds_of_blockI hb htk) hg (by omega)).mono ?_;rintro e w' ⟨rfl,n,os,rfl⟩;have hgr:=grownBy_sortedI (n:=n) (os:=os) (w:=w) (g:=g) (cO l).toArray;refine⟨[],rfl,hgr.os,hgr.tape,hgr.output,hgr.size,λb hb1 hb2=>hgr.block b hb1 (λe=>hb2 (by simpa[VB,ax]using e.symm)),?_,.nil⟩;have hr:=ownsRow_sortedI (base:=0) (n:=n) (os:=os) (ts:=cO l) hsl (Dz _) hb hcap hmax hsz;refine⟨(cO l).map (Value.int .i64),?_,?_,λr hr=>by obtain⟨x,_,rfl⟩:=DF.1 hr;rfl,λr hr p hp=>by obtain⟨x,_,rfl⟩:=DF.1 hr;simp[cI]at hp;rw[hp];rfl⟩;·rw[D9,hsl];exact hr
  ·rw[show((cO l).map cI).flatten=(cO l).map (PV.int .i64)from re _ _];exact l9 _
theorem kQ (l:List Int)(hl:l.length*8<=140737488351232):Spec Tryz.prog 220 false [.fn (.func 240) [] [.ptr [ao l]]] [.own 3 1 ((cO l).map cI)]:=by
 refine Spec.body Tryz.func220 Y Y Y λw0 Z0=> ?_;have hc:=lR (g:=240) (caps:=[.ptr [ao l]]) (xs:=l) (enters_of Tryz.func240 (by kernel_rfl) Y) (λw Z us h=>by
  cases h with
  |cons h1 h2=>cases h2;exact pM 0 0 l hl w _ h1) (by omega)
 refine .B ?_;refine .D hc ?_;refine J.cm Y Y Y Y Y Y Y Y Y (km l (by omega)) Y Y Y ?_;refine .B ?_;exact⟨_,.o Y Y Y (λ_=> .inl Y) (by simp) .nil⟩
def domOfP (l:List Int):List (Int×Int)×Int:=if l.all aH=true then(if fM (packG (cO l)) > 4096 then([],2)else(packG (cO l),0))else([],20)
theorem kC (l:List Int)(hl:l.length*16<=140737488351232):Spec Tryz.prog 185 false [ao l] [.own 53 2 ((domOfP l).1.map cR),.val (.int .i64 (domOfP l).2)]:=by
 refine Spec.body Tryz.func185 Y Y Y λw0 Z0=> ?_;have hc:=pE (p:=λv=> !aH v) (f:=226) l (λv _=>Aj v) (by omega);have hsl:(cO l).length=l.length:=G3 ..;have hpg:=qt (cO l);refine .B ?_;refine .D hc ?_;have hany:(l.any λv=> !aH v)= !l.all aH:=by
  rw[FI]
 rw[hany];unfold domOfP;cases ha:l.all aH with
 |false=>
  refine T.ct Y ?_;refine .B ?_;exact⟨_,.ownN Y (.v Y Y Y (λ_=>rfl) .nil)⟩
 |true=>
  refine T.cf Y ?_;have hvs: ∀v∈cO l,aH v=true:=λv hv=>DI.1 ha v ((Gm l _).mem_iff.1 hv);refine .B ?_;refine .D (n5 l) ?_;refine .D (kQ l (by omega)).frz ?_;refine .D (tL (cO l) hvs (by omega)) ?_;refine .D (gI (packG (cO l)) (by omega)) ?_;refine T.cd Y (λh=> ?_) (λh=> ?_)
  ·rw[D4 Y,D4 h];refine .B ?_;exact⟨_,.ownN Y (.v Y Y Y (λ_=>rfl) .nil)⟩
  ·rw[D4 Y,D2 h];refine .B ?_;exact⟨_,.o Y Y Y (λ_=> .inl Y) (by simp) (.v rfl rfl rfl (λ_=>rfl) .nil)⟩
theorem yS (d:aa)(vs:List Int)(hl:vs.length*24<=140737488355328):(listsP d vs).length*24<=140737488355328/\∀x∈listsP d vs,x.length*8<=140737488355328:=by
 refine⟨by rw[listsP,D9];exact hl,λx hx=> ?_⟩;obtain⟨v,_,rfl⟩:=DF.1 hx;have:=pX (d.getD v.toNat []);omega
def m7 (L:List (List Int))(i:Nat):List Int:=(L.getD i []).filter λx=>(dp (L.set i [x])).2
def kN (L:List (List Int)):List Int->Nat->aa->aa
 | [],_,out=>out
 |v::vs,i,out=>kN L vs (i+1) (out.set v.toNat (domOfP (m7 L i)).1)
def oE (d:aa)(vs:List Int):Option aa:=if []∈d then none else if(dp (listsP d vs)).2=true then some (kN (listsP d vs) vs 0 d)else none
theorem s4 (d:aa)(c:Con)(hd:jo d)(hb: ∀x∈d,InB x)(hx: ∀x∈d,x.length*16<=140737488351232)(hv: ∀v∈c.vars,0<=v/\v.toNat<d.length)(hl:c.vars.length*24<=140737488355328):Spec Tryz.prog 133 false [aJ d,.agg (cC c)] (aX (oE d c.vars)):=by
 refine Spec.body Tryz.func133 Y Y Y λw0 Z0=> ?_;obtain⟨hd1,hd2⟩:=hd;generalize hR:oE d c.vars=R;unfold oE at hR;refine .B ?_;refine T.sub (Rel.own0 (s:=6) 54 1 Y) ?_;refine T.K (T.listI d (λpre=>[]∉pre) (λn pre post=>⟨[(0,.val false (aJ d)),(3,.optr 0 0 0 0),(6,.ref 1),(20,.val false (aJ d)),(21,.val true (.int .i64 (d.map cD).length)),(22,.val true (.int .i64 n))],[(0,some (.box false (cC c))),(1,some (.sl 54 1 true (pre.map cD)))],2⟩) (λ_ _ h=>h) (by simp) ?_ ?_)
 ·rintro n pre x post h hn hi ih;have hlt:=cg h hn;have hxl:=hd2 x (by rw[h];simp);refine .B ?_;refine T.ct2 Y (ce h hn) ?_;refine .B ?_;refine .F (r:=cD x) (aS h hn) ?_;refine T.cd Y (λh1=> ?_) (λh1=> ?_)
  ·have hx:x=[]:=(by simp at h1;exact h1);have:R=none:=(by rw[D4 (by rw[h,hx];simp)]at hR;exact hR.symm);subst this;refine .B ?_;exact⟨_,.ownN Y (.v Y Y Y (λ_=>rfl) .nil)⟩
  ·have hx:x≠[]:=λe=>h1 (by rw[e];rfl);refine .B ?_;refine .D (bR x (by omega)).frz ?_;refine .Z ?_;refine J.aD Y Y Y Y Y Y Y Y Y Y Y Y Y Y Y Y Y Y Y (by omega) ?_;refine .B ?_;rw[ak hlt (by omega)];exact T.K (ih (by simp[hi,Ne.symm hx]))
 ·intro hi;rw[D2 hi]at hR;have hlo:=yS d c.vars hl;have hlen:(listsP d c.vars).length=c.vars.length:=D9 ..;have hL4: ∀x∈listsP d c.vars,x.length<=4097:=λx hx=>by
   obtain⟨v,_,rfl⟩:=DF.1 hx;exact pX _
  have hsl:=(s5 d c.vars ⟨hd1,hd2⟩ hb hx hv hl).frz;generalize listsP d c.vars=L at*;have hsp:=ll L hlo.1 hlo.2;refine .B ?_;refine T.cf2 Y bA ?_;refine .B ?_;refine .D hsl ?_;have hR2:(dp L).2=(c6 L).isSome:=(by unfold dp;cases c6 L<;>rfl);rw[hR2]at hR;cases hm:c6 L with
  |none=>
   rw[hm]at hsp hR;dsimp only at hsp;obtain rfl:R=none:=(by simpa using hR.symm);refine J.co (qs:=[]) (cs2:=[]) false [] [] Y Y Y Y Y Y hsp trivial Y Y Y Y Y Y Y λns hns=> ?_;obtain rfl:ns=[]:=DP hns;refine .B ?_;refine T.ct Y ?_;refine .B ?_;exact⟨_,.ownN Y (.v Y Y Y (λ_=>rfl) .nil)⟩
  |some b0=>
  rw[hm]at hsp hR;dsimp only at hsp;obtain rfl:R=some (kN L c.vars 0 d):=(by simpa using hR.symm);refine J.co (qs:=[]) (cs2:=[]) false [] [1001,1002] Y Y Y Y Y Y hsp trivial Y Y Y Y Y Y Y λns hns=> ?_;obtain⟨pm,pb,rfl⟩: ∃pm pb,ns=[pm,pb]:=by
   match ns,hns with
   | [a,b],_=>exact⟨a,b,rfl⟩
  refine .B ?_;refine T.cf Y ?_;refine .B ?_;refine T.K (T.ind (λx:Nat×aa=>⟨[(3,.optr 0 0 0 0),(6,.ref 1),(9,.val true (bT L)),(47,.val false (ao c.vars)),(48,.val true (.int .i64 (c.vars.map cI).length)),(49,.val true (.int .i64 x.1))],[(0,some (.box false (cC c))),(1,some (.sl 54 1 true (x.2.map cD)))],2⟩)
   (λx=>x.1<=c.vars.length/\x.2.length=d.length/\kN L (c.vars.drop x.1) x.1 x.2=kN L c.vars 0 d) (λx=>c.vars.length-x.1) (0,d) ⟨by simp,rfl,rfl⟩ (λ_ _ h=>h) ?_)
  rintro⟨k,out⟩ ⟨hk,hol,hst⟩ ih;simp only at hk hol hst;dsimp only;refine .B ?_;refine T.cd Y (λh1=> ?_) (λh1=> ?_)
  rotate_left
  ·have h1:k=c.vars.length:=(by simp at h1;omega);subst h1;rw[EY,kN]at hst;subst hst;refine .B ?_;exact⟨_,.o Y Y Y (λ_=> .inl Y) (by simp) (.v rfl rfl rfl (λ_=>rfl) .nil)⟩
  have h1:k<c.vars.length:=(by simpa using h1);rw[DQ h1,kN]at hst;have hvk:=hv _ (D8 h1);have hvr:(c.vars.map cI)[((k:Nat):Int).toNat]? =some (cI c.vars[k]):=aO h1;have hkL:k<L.length:=(by omega);have hrow:(L.map cL)[((k:Nat):Int).toNat]? =some (cL (L.getD k [])):=(by simp[hkL]);have hml:(L.getD k []).length<=4097:=by
   rw[D0,D1 hkL];exact hL4 _ (D8 hkL)
  have hw1:IntKind.i64.wrap ((k:Int)+1)=((k+1:Nat):Int):=ak (l:=c.vars.length) h1 (by omega);refine .B ?_;refine .I (r:=cI c.vars[k]) hvr ?_;generalize c.vars[k]=v at*;refine .B ?_;refine J.sub (Rel.own0 (s:=14) 3 1 Y) ?_;refine .F (r:=cL (L.getD k [])) hrow ?_;have hlf:m7 L k=(L.getD k []).filter λx=>(dp (L.set k [x])).2:=rfl;generalize L.getD k []=Lk at*;have hlL:(m7 L k).length<=Lk.length:=(by rw[hlf];exact EX ..);refine T.K (T.list Lk (λn pre post=>⟨[(3,.optr 0 0 0 0),(6,.ref 1),(9,.val true (bT L)),(12,.val true (.int .i64 k)),(13,.val true (.int .i64 v)),(14,.ref 2),(47,.val false (ao c.vars)),(48,.val true (.int .i64 (c.vars.map cI).length)),(49,.val true (.int .i64 k)),(57,.val true (ao Lk)),(58,.val true (.int .i64 (Lk.map cI).length)),(59,.val true (.int .i64 n))],
    [(0,some (.box false (cC c))),(1,some (.sl 54 1 true (out.map cD))),(2,some (.sl 3 1 true ((pre.filter λx=>(dp (L.set k [x])).2).map cI)))],3⟩) (λ_ _ h=>h) ?_ ?_)
  ·rintro n pre x post h hn ih2;have hlt:=cg h hn;have hfl:(pre.filter λx=>(dp (L.set k [x])).2).length<=pre.length:=EX ..;have hwn:IntKind.i64.wrap ((n:Int)+1)=((n+1:Nat):Int):=ak hlt (by omega);have hset: ∀y∈L.set k [x],y.length*8<=140737488355328:=λy hy=>by
    rcases DV hy with hy|rfl;·exact hlo.2 y hy
    ·simp
   have hsp2:=ll (L.set k [x]) (by rw[E7];exact hlo.1) hset;have hR3:(dp (L.set k [x])).2=(c6 (L.set k [x])).isSome:=(by unfold dp;cases c6 (L.set k [x])<;>rfl);refine .B ?_;refine T.ct2 Y (ce h hn) ?_;refine .B ?_;refine .F (r:=cI x) (aS h hn) ?_;refine .D (u4 L hlo.1) ?_;refine .Z ?_;refine J.io Y Y Y Y Y Y Y Y Y (by omega) (by rw[D9];omega) Y ?_;refine .B ?_;refine J.w1 Y Y Y Y Y Y Y Y Y Y Y (z:=[x]) (λ_=>rfl) (by omega) ?_;refine .B ?_;refine J.sub (Rel.frz (s:=71) (λ_ h=>h) Y Y) ?_;cases hm2:c6 (L.set k [x])with
   |none=>
    rw[hm2]at hsp2 hR3;dsimp only at hsp2;have hx2:(pre++[x]).filter (λx=>(dp (L.set k [x])).2)=pre.filter λx=>(dp (L.set k [x])).2:=by
     rw[Fi,FZ (by rw[hR3];simp)];simp
    rw[hx2]at ih2;refine J.co (qs:=[]) (cs2:=[]) false [] [] Y Y Y Y Y Y hsp2 trivial Y Y Y Y Y Y Y λns hns=> ?_;obtain rfl:ns=[]:=DP hns;refine .B ?_;refine T.cf Y ?_;refine .B ?_;rw[hwn];exact T.K ih2
   |some b2=>
    rw[hm2]at hsp2 hR3;dsimp only at hsp2;have hx2:(pre++[x]).filter (λx=>(dp (L.set k [x])).2)=pre.filter (λx=>(dp (L.set k [x])).2)++[x]:=by
     rw[Fi,FH (by rw[hR3];simp)];simp
    rw[hx2]at ih2;refine J.co (qs:=[]) (cs2:=[]) false [] [1003,1004] Y Y Y Y Y Y hsp2 trivial Y Y Y Y Y Y Y λns hns=> ?_;obtain⟨pm2,pb2,rfl⟩: ∃pm2 pb2,ns=[pm2,pb2]:=by
     match ns,hns with
     | [a,b],_=>exact⟨a,b,rfl⟩
    refine .B ?_;refine T.ct Y ?_;refine .B ?_;refine .Z ?_;refine J.aI Y Y Y Y Y Y Y Y Y Y Y Y Y Y Y Y Y Y Y (by omega) ?_;refine .B ?_;rw[hwn];exact T.K ih2
  ·rw[<-hlf];refine .B ?_;refine T.cf2 Y bA ?_;refine .B ?_;refine .D (kC (m7 L k) (by omega)).frz ?_;refine J.io Y Y Y Y Y Y Y Y Y hvk.1 (by rw[D9,hol];exact hvk.2) Y ?_;refine .B ?_;refine J.w1 Y Y Y Y Y Y Y Y Y Y Y (z:=(domOfP (m7 L k)).1) (λ_=>rfl) (by rw[hol];exact hvk.2) ?_;refine .B ?_;rw[hw1];exact T.K (ih (k+1,out.set v.toNat (domOfP (m7 L k)).1) ⟨by omega,by rw[E7];exact hol,hst⟩ (by show _-_<_-_;omega))
structure ValD (d:aa):Prop where
 small:d.length*24<=140737488355328
 inb: ∀x∈d,InB x
 len: ∀x∈d,x.length*16<=140737488351232
 vals: ∀x∈d,(vals x).length<=4097
theorem ValD.dom {d:aa}(h:ValD d){v:Int}(hv:v.toNat<d.length):domAt d v∈d:=by
 unfold domAt;rw[D0,D1 hv];exact D8 hv
def wR (d:aa)(vars:List Int):Nat->List Int->Bool
 |0,_=>true
 |n+1,had=>(vals (domAt d (vars.getD had.length 0))).any λx=> !decide (x∈had)&&wR d vars n (had++[x])
def iQ (d:aa)(vars:List Int)(v:Int):List Int:=(vals (domAt d v)).filter λx=>wR (d.set v.toNat [(x,x)]) vars vars.length []
def iY (d:aa)(vars:List Int):List Int->aa->aa
 | [],out=>out
 |v::vs,out=>iY d vars vs (out.set v.toNat (cX (iQ d vars v)))
def ig (d:aa)(vars:List Int):Option aa:=if []∈d then none else if []∈iY d vars vars d then none else some (iY d vars vars d)
theorem ValD.one {d:aa}(h:ValD d)(i:Nat){x:Int}(hx: -1048576<=x/\x<=1048576):ValD (d.set i [(x,x)]):=by
 have key: ∀y∈d.set i [(x,x)],y∈d∨y=[(x,x)]:=λy hy=>DV hy;refine⟨by rw[E7];exact h.small,λy hy=> ?_,λy hy=> ?_,λy hy=> ?_⟩
 ·rcases key y hy with hy|rfl;·exact h.inb y hy
  ·intro r hr;obtain rfl:=DG.1 hr;exact⟨hx.1,hx.2,hx.1,hx.2⟩
 ·rcases key y hy with hy|rfl;·exact h.len y hy
  ·simp
 ·rcases key y hy with hy|rfl;·exact h.vals y hy
  ·have:Go.Proofs.YtopcjbahjjhdmaaGreat.vals [(x,x)]=[x]:=by
    show rng x x++[]=_;rw[bl];rfl
   rw[this];simp
def BO (vars:List Int):Con:=⟨1,vars,[],0,0,[],0⟩
theorem v6 {l:List Int}(h:Up l):packG l=cX l:=by
 have key: ∀(l:List Int) (o:List (Int×Int)) (lo x:Int),Up (x::l)->l.foldl gq (o++[(lo,x)])=o++dO lo x l:=by
  intro l
  induction l with
  |nil=>intro o lo x _;rfl
  |cons y l ih=>
   intro o lo x hu;have h1:=Dm.1 hu;have hxy:=h1.1 y (.head _);rw[Dn,ii,D2 (by omega),dO];by_cases e:y=x+1;·rw[D4 (by omega),D4 e,ih _ _ _ h1.2]
   ·rw[D2 (by omega),D2 e,ih _ _ _ h1.2,E4];rfl
 cases l with
 |nil=>rfl
 |cons x l=>
  show l.foldl gq (gq [] x)=_;rw[qr];exact key l [] x x h
theorem zK {l:List Int}(h:Up l):cO l=l:=List.mergeSort_of_pairwise (h.imp λh=>by simp;omega)
theorem od {d:List (Int×Int)}(h:Fine d):fM d=((vals d).length:Nat):=by
 have hb:=h.domB.1;have hf:=h.few;have hok:=h.ok;have key: ∀(d:List (Int×Int)) (n:Nat),InB d->(∀r∈d,r.1<=r.2)->n+(vals d).length<=1000000000000000->d.foldl (λn r=>wr (n+wr (wr (r.2-r.1)+1))) (n:Int)=((n+(vals d).length:Nat):Int):=by
  intro d
  induction d with
  |nil=>intro n _ _ _;simp[vals]
  |cons r d ih=>
   intro n hb ho hl;have h1:=hb r (.head _);have h2:=ho r (.head _);rw[bj,DX,show(rng r.1 r.2).length=(r.2+1-r.1).toNat by simp[rng]]at hl⊢;rw[Dn];have e:wr ((n:Int)+wr (wr (r.2-r.1)+1))=((n+(r.2+1-r.1).toNat:Nat):Int):=by
    simp only[wr];rw[af (n:=r.2-r.1) (by omega) (by omega),af (n:=r.2-r.1+1) (by omega) (by omega),af (by omega) (by omega)];omega
   rw[e,ih _ (λr hr=>hb r (.tail _ hr)) (λr hr=>ho r (.tail _ hr)) (by omega)];congr 1;omega
 have:=key d 0 hb hok.1 (by omega);simpa[fM]using this
theorem kr {l:List Int}(h:Up l)(hv: ∀v∈l,-1048576<=v/\v<=1048576)(hn:l.length<=4096):Fine (cX l):=by
 refine⟨gp h,?_,?_⟩;·rw[bJ h];exact hv
 ·rw[bJ h];omega
theorem rk {l:List Int}(h:Up l)(hv: ∀v∈l,-1048576<=v/\v<=1048576)(hn:l.length<=4096):domOfP l=(cX l,0):=by
 unfold domOfP;rw[zK h,v6 h,od (kr h hv hn),bJ h,D4 (DI.2 λv hm=>by simpa[aH]using hv v hm),D2 (by omega)]
structure FewD (d:aa):Prop where
 small:d.length*24<=140737488355328
 fine: ∀x∈d,Fine x
 few: ∀x∈d,(vals x).length<=4096
theorem FewD.valD {d:aa}(h:FewD d):ValD d:=⟨h.small,λx hx=>(h.fine x hx).domB.1,λx hx=>by have:=(h.fine x hx).len;omega,λx hx=>by have:=h.few x hx;omega⟩
theorem zz {x:List (Int×Int)}(h:(vals x).length<=4096):pY x=vals x:=DS (by omega)
theorem FewD.at {d:aa}(h:FewD d)(v:Int):(vals (domAt d v)).length<=4096/\Up (vals (domAt d v))/\∀x∈vals (domAt d v),-1048576<=x/\x<=1048576:=by
 unfold domAt;by_cases hv:v.toNat<d.length
 ·rw[D0,D1 hv];have hm:d[v.toNat]∈d:=D8 hv;exact⟨h.few _ hm,aF (h.fine _ hm).ok,(h.fine _ hm).val⟩
 ·rw[D0,EB (by omega)];exact⟨by simp[vals],.nil,λx hx=>by cases hx⟩
theorem eQ {d:aa}(h:FewD d)(vs:List Int):listsP d vs=vs.map λv=>vals (domAt d v):=
 EJ λv _=>zz (h.at v).1
theorem pq (d:aa)(vars:List Int): ∀(n:Nat) (had:List Int),had.Nodup->(wR d vars n had=true↔∃rest:List Int,rest.length=n/\(∀k,k<n->rest.getD k 0∈vals (domAt d (vars.getD (had.length+k) 0)))/\(had++rest).Nodup)
 |0,had,hn=>by
  rw[wR];exact⟨λ_=>⟨[],rfl,λk hk=>by omega,by simpa using hn⟩,λ_=>rfl⟩
 |n+1,had,hn=>by
  rw[wR,EZ];constructor
  ·rintro⟨x,hx,h⟩;simp only[DJ,ER,decide_eq_false_iff_not]at h;have hn2:(had++[x]).Nodup:=G7.2 ⟨hn,by simp,λa ha b hb=>by
    obtain rfl:=DG.1 hb;exact λe=>h.1 (e▸ha)⟩
   obtain⟨rest,h1,h2,h3⟩:=(pq d vars n (had++[x]) hn2).1 h.2;refine⟨x::rest,by simp[h1],λk hk=> ?_,by simpa using h3⟩;cases k with
   |zero=>exact hx
   |succ k=>
    have:=h2 k (by omega);rw[DX,show had.length+ [x].length+k=had.length+(k+1)by simp;omega]at this;exact this
  ·rintro⟨rest,h1,h2,h3⟩;cases rest with
   |nil=>cases h1
   |cons x rest=>
    have hx:x∉had:=λhm=>by
     have:=(G7.1 h3).2.2 x hm x (.head _);exact this Y
    have h4:((had++[x])++rest).Nodup:=(by simpa using h3);refine⟨x,h2 0 (by omega),?_⟩;simp only[DJ,ER,decide_eq_false_iff_not];refine⟨hx,(pq d vars n (had++[x]) (G7.1 h4).1).2 ⟨rest,by simpa using h1,λk hk=> ?_,h4⟩⟩;have:=h2 (k+1) (by omega);rw[DX,show had.length+ [x].length+k=had.length+(k+1)by simp;omega];exact this
theorem v7 {d:aa}(h:FewD d)(vars:List Int):wR d vars vars.length []=(dp (listsP d vars)).2:=by
 have key:wR d vars vars.length []=true↔∃g,Others (listsP d vars) g:=by
  rw[pq d vars vars.length [] .nil,eQ h];have hg: ∀j,j<vars.length->(vars.map λv=>vals (domAt d v)).getD j []=vals (domAt d (vars.getD j 0)):=λj hj=>(by simp[hj]);constructor
  ·rintro⟨rest,h1,h2,h3⟩;rw[Ea]at h3;refine⟨λj=>rest.getD j 0,λj hj=> ?_,λj k hj hk e=> ?_⟩
   ·rw[D9]at hj;rw[hg j hj];have:=h2 j hj;simpa using this
   ·rw[D9]at hj hk;have e:rest.getD j 0=rest.getD k 0:=e;rw[D0,D0,D1 (by omega),D1 (by omega)]at e;exact(Fc h3).1 e
  ·rintro⟨g,h1,h2⟩;rw[D9]at h1 h2;refine⟨(List.range vars.length).map g,by simp,λk hk=> ?_,?_⟩
   ·have:=h1 k hk;rw[hg k hk]at this;simpa[hk]using this
   ·rw[Ea];exact fF List.nodup_range λx hx y hy e=>h2 x y (DM.1 hx) (DM.1 hy) e
 rw[FD,key,fR]
theorem FewD.one {d:aa}(h:FewD d)(i:Nat){x:Int}(hx: -1048576<=x/\x<=1048576):FewD (d.set i [(x,x)]):=by
 have key: ∀y∈d.set i [(x,x)],y∈d∨y=[(x,x)]:=λy hy=>DV hy;have hv:vals [(x,x)]=[x]:=by
  show rng x x++[]=_;rw[bl];rfl
 refine⟨by rw[E7];exact h.small,λy hy=> ?_,λy hy=> ?_⟩
 ·rcases key y hy with hy|rfl;·exact h.fine y hy
  ·refine⟨⟨λr hr=> ?_,by simp⟩,?_,?_⟩
   ·obtain rfl:=DG.1 hr;exact EN _
   ·rw[hv];intro v hm;obtain rfl:=DG.1 hm;exact hx
   ·rw[hv];simp
 ·rcases key y hy with hy|rfl;·exact h.few y hy
  ·rw[hv];simp
theorem Up.filter {l:List Int}(h:Up l)(p:Int->Bool):Up (l.filter p):=List.Pairwise.filter p h
def j4 (d:aa)(vars:List Int):Prop:=vars.Nodup/\∀v∈vars,0<=v/\v.toNat<d.length
theorem kx {d:aa}(h:FewD d){vars:List Int}(hv:j4 d vars){i:Nat}(hi:i<vars.length){x:Int}(hx: -1048576<=x/\x<=1048576):listsP (d.set vars[i].toNat [(x,x)]) vars=(listsP d vars).set i [x]:=by
 rw[eQ h,eQ (h.one _ hx)];apply FU (by simp);intro j h1 h2;have hj:j<vars.length:=(by simpa using h1);rw[FV,List.getElem_set,FV];unfold domAt;rw[D0,EK];by_cases e:i=j
 ·subst e;rw[D4 Y,D4 Y,D4 (hv.2 _ (D8 hi)).2];show rng x x++[]=_;rw[bl];rfl
 ·have e2: ¬vars[i].toNat=vars[j].toNat:=λe2=>by
   have h3:=(hv.2 _ (D8 hi)).1;have h4:=(hv.2 _ (D8 hj)).1;exact e ((Fc hv.1).1 (by omega:vars[i]=vars[j]))
  rw[D2 e,D2 e2,<-D0]
theorem Bx {d:aa}(h:FewD d){vars:List Int}(hv:j4 d vars){i:Nat}(hi:i<vars.length):m7 (listsP d vars) i=iQ d vars vars[i]:=by
 unfold m7 iQ;have e:(listsP d vars).getD i []=vals (domAt d vars[i]):=(by rw[eQ h];simp[hi]);rw[e];refine H1 λx hx=> ?_;have hxr:=(h.at vars[i]).2.2 x hx;rw[<-kx h hv hi hxr,v7 (h.one _ hxr)]
theorem lB {d:aa}(h:FewD d)(vars:List Int)(v:Int):Up (iQ d vars v)/\(iQ d vars v).length<=4096/\(∀x∈iQ d vars v,-1048576<=x/\x<=1048576):=by
 obtain⟨h1,h2,h3⟩:=h.at v;exact⟨h2.filter _,Du (EX ..) h1,λx hx=>h3 x (EH.1 hx).1⟩
theorem xo {d:aa}(h:FewD d){vars:List Int}(hv:j4 d vars): ∀(n i:Nat) (out:aa),n+i=vars.length->kN (listsP d vars) (vars.drop i) i out=iY d vars (vars.drop i) out
 |0,i,out,hi=>by
  rw[Ef (by omega)];rfl
 |n+1,i,out,hi=>by
  have hil:i<vars.length:=(by omega);rw[DQ hil,kN,iY,Bx h hv hil];obtain⟨h1,h2,h3⟩:=lB h vars vars[i];rw[rk h1 h3 h2];exact xo h hv n (i+1) _ (by omega)
theorem jr (d:aa)(vars:List Int): ∀(vs:List Int) (out:aa),(iY d vars vs out).length=out.length
 | [],out=>rfl
 |v::vs,out=>by rw[iY,jr d vars vs,E7]
theorem kP {d:aa}{vars:List Int}: ∀{vs:List Int} {out:aa} (j:Nat),vs.Nodup->(∀v∈vs,0<=v/\v.toNat<out.length)->(iY d vars vs out)[j]? =if(j:Int)∈vs then some (cX (iQ d vars j))else out[j]?
 | [],out,j,_,_=>by simp[iY]
 |v::vs,out,j,hn,hv=>by
  obtain⟨h1,h2⟩:=ED.1 hn;have hv0:=hv v (.head _);rw[iY,kP j h2 (λu hu=>by rw[E7];exact hv u (.tail _ hu)),EK];by_cases e:v.toNat=j
  ·have e2:v=(j:Int):=(by omega);subst e2;rw[D2 h1,D4 (List.mem_cons_self ..),D4 e,D4 hv0.2]
  ·by_cases hm:(j:Int)∈vs;·rw[D4 hm,D4 (.tail _ hm)]
   ·have hn2: ¬(j:Int)∈v::vs:=λh=>by
     rcases DO.1 h with h|h;·exact e (by omega)
     ·exact hm h
    rw[D2 hm,D2 hn2,D2 e]
theorem jy {d:aa}(h:FewD d){vars:List Int}(hv:j4 d vars){i:Nat}(hi:i<vars.length)(x:Int):x∈iQ d vars vars[i]↔∃g,Others (listsP d vars) g/\g i=x:=by
 have hL:(listsP d vars).getD i []=vals (domAt d vars[i]):=(by rw[eQ h];simp[hi]);have hlen:(listsP d vars).length=vars.length:=D9 ..;unfold iQ;rw[EH];constructor
 ·rintro⟨hx,he⟩;have hxr:=(h.at vars[i]).2.2 x hx;rw[v7 (h.one _ hxr),fR,kx h hv hi hxr]at he;obtain⟨g,h1,h2⟩:=he;rw[E7]at h1 h2;have hgi:g i=x:=by
   have:=h1 i (by omega);rw[D0,EK,D4 Y,D4 (by omega)]at this;simpa using this
  refine⟨g,⟨λj hj=> ?_,h2⟩,hgi⟩;by_cases e:j=i;·subst e;rw[hL,hgi];exact hx
  ·have:=h1 j hj;rw[D0,EK,D2 (Ne.symm e),<-D0]at this;exact this
 ·rintro⟨g,⟨h1,h2⟩,rfl⟩;have hx:=h1 i (by omega);rw[hL]at hx;have hxr:=(h.at vars[i]).2.2 _ hx;refine⟨hx,?_⟩;rw[v7 (h.one _ hxr),fR,kx h hv hi hxr];refine⟨g,λj hj=> ?_,λj k hj hk=> ?_⟩
  ·rw[E7]at hj;rw[D0,EK];by_cases e:i=j;·subst e;rw[D4 Y,D4 hj];simp
   ·rw[D2 e,<-D0];exact h1 j hj
  ·rw[E7]at hj hk;exact h2 j k hj hk
theorem xA {l:List Int}(h:l≠[]):cX l≠[]:=by
 cases l with
 |nil=>exact DU rfl h
 |cons x l=>
  have: ∀(l:List Int) (lo x:Int),dO lo x l≠[]:=by
   intro l
   induction l with
   |nil=>intro lo x;simp[dO]
   |cons y l ih=>intro lo x;rw[dO];split;exact ih _ _;simp
  exact this l x x
theorem zY {d:aa}(h:FewD d){vars:List Int}(hv:j4 d vars)(hne:vars≠[]):oE d vars=ig d vars:=by
 unfold oE ig;by_cases he: []∈d;·rw[D4 he,D4 he]
 rw[D2 he,D2 he];have hst:=xo h hv vars.length 0 d (by omega);rw[List.drop_zero]at hst;rw[hst];have hat:=λj=>kP (d:=d) (vars:=vars) (out:=d) j hv.1 hv.2;by_cases hm:(dp (listsP d vars)).2=true
 ·rw[D4 hm,D2];intro hem;obtain⟨j,hj⟩:=DH hem;rw[hat j]at hj;split at hj
  ·rename_i hjm;obtain⟨i,hi,e⟩:=F7 hjm;obtain⟨g,hg⟩:=(fR _).1 hm;have hl:=(jy h hv hi (g i)).2 ⟨g,hg,rfl⟩;rw[e]at hl;exact xA (λe2=>by rw[e2]at hl;cases hl) (D3 hj)
  ·exact he (D7 hj)
 ·rw[D2 hm,D4];cases hvs:vars with
  |nil=>exact DU hvs hne
  |cons v vs=>
   have hi:0<vars.length:=(by rw[hvs];simp);have hv0:=hv.2 _ (D8 hi);have hl:iQ d vars vars[0]=[]:=by
    cases hl:iQ d vars vars[0]with
    |nil=>rfl
    |cons x l=>
     obtain⟨g,hg,_⟩:=(jy h hv hi x).1 (by rw[hl];exact .head _);exact DU ((fR _).2 ⟨g,hg⟩) hm
   have:=hat vars[0].toNat;have e:((vars[0].toNat:Nat):Int)=vars[0]:=(by omega);rw[e,D4 (D8 hi),hl]at this;rw[<-hvs];exact D7 this
def badR (d:List (Int×Int))(i:Nat):Bool:= !aH (d.getD i (0,0)).1||(!aH (d.getD i (0,0)).2||(decide ((d.getD i (0,0)).1 > (d.getD i (0,0)).2)||(decide ((i:Int) > 0)&&decide ((d.getD i (0,0)).1-(d.getD (i-1) (0,0)).2<2))))
def sizeI (d:List (Int×Int)):Int:=(d.map λr=>r.2-r.1+1).sum
def chkR (d:List (Int×Int)):Int:=if(List.range d.length).any (badR d)then 20 else if sizeI d > 4096 then 2 else 0
theorem tE (d:List (Int×Int))(hl:d.length<=1048576):Spec Tryz.prog 31 false [dm d] [.val (.int .i64 (chkR d))]:=by
 refine Spec.body Tryz.func31 Y Y Y λw0 Z0=> ?_;generalize hR:chkR d=R;refine .B ?_;refine T.K (T.ind (λi:Nat=>⟨[(0,.val false (dm d)),(3,.val true (.int .i64 (sizeI (d.take i)))),(4,.val true (.int .i64 i))],[],0⟩) (λi=>i<=d.length/\(0<=sizeI (d.take i)/\sizeI (d.take i)<=i*4194304)/\∀j,j<i->badR d j=false) (λi=>d.length-i) 0 ⟨Dz _,by simp[sizeI],λj hj=>DU hj (EO j)⟩ (λ_ _ h=>h) ?_);rintro i ⟨hi,hn,hb⟩ ih;refine .B ?_;refine T.cd Y (λh1=> ?_) (λh1=> ?_)
 ·have h1:i<d.length:=(by simpa using h1);have hrow:(d.map cR)[((i:Nat):Int).toNat]? =some (cR (d.getD i (0,0))):=(by simp[h1,D0]);have hprev:0<i->(d.map cR)[(((i-1:Nat)):Int).toNat]? =some (cR (d.getD (i-1) (0,0)))/\aH (d.getD (i-1) (0,0)).2=true:=λh=>by
   refine⟨by rw[DW,DE,D1 (show i-1<d.length by omega),D0,D1 (show i-1<d.length by omega)];rfl,?_⟩;have:=hb (i-1) (by omega);unfold badR at this;simp only[GE,FT]at this;exact this.2.1
  have htk:sizeI (d.take (i+1))=sizeI (d.take i)+((d.getD i (0,0)).2-(d.getD i (0,0)).1+1):=by
   unfold sizeI;rw[DB h1,EC,List.sum_append,D0,D1 h1];simp
  have hno:badR d i=true->R=20:=λh=>by
   rw[<-hR];unfold chkR;rw[D4 (EZ.2 ⟨i,DM.2 h1,h⟩)]
  have hbd:badR d i=(!aH (d.getD i (0,0)).1||(!aH (d.getD i (0,0)).2||(decide ((d.getD i (0,0)).1 > (d.getD i (0,0)).2)||(decide ((i:Int) > 0)&&decide ((d.getD i (0,0)).1-(d.getD (i-1) (0,0)).2<2))))):=rfl;have ih1:=λhbi:badR d i=false=>λhs=>ih (i+1) ⟨by omega,hs,λj hj=>by
   by_cases e:j=i;·rw[e];exact hbi
   ·exact hb j (by omega)⟩ (by omega)
  have hw1:IntKind.i64.wrap ((i:Int)+1)=((i+1:Nat):Int):=(by rw[af (by omega) (by omega)];omega);have hw2:0<i->IntKind.i64.wrap ((i:Int)-1)=((i-1:Nat):Int):=λh=>(by rw[af (by omega) (by omega)];omega);generalize badR d i=bad at*;rw[htk]at ih1;generalize sizeI (d.take i)=n at*;generalize d.getD i (0,0)=r at*;generalize d.getD (i-1) (0,0)=p at*;obtain⟨lo,hi2⟩:=r;simp only at*;refine .B ?_;refine .F (r:=cR (lo,hi2)) hrow ?_;refine .C (j9 lo) ?_;cases a1:aH lo
  ·refine .B ?_;refine T.ct Y ?_;refine .B ?_;rw[hno (by rw[hbd,a1];rfl)];exact r1
  ·refine .B ?_;refine .F (r:=cR (lo,hi2)) hrow ?_;refine .C (j9 hi2) ?_;cases a2:aH hi2
   ·refine .B ?_;refine T.ct Y ?_;refine .B ?_;rw[hno (by rw[hbd,a1,a2];rfl)];exact r1
   ·have v1:=a1;have v2:=a2;simp only[aH,DN]at v1 v2;refine .B ?_;refine .F (r:=cR (lo,hi2)) hrow ?_;refine .F (r:=cR (lo,hi2)) hrow ?_;refine J.g Y Y Y (λh3=> ?_) (λh3=> ?_)
    ·refine .B ?_;refine T.ct Y ?_;refine .B ?_;rw[hno (by rw[hbd,a1,a2,DD h3];rfl)];exact r1
    ·have h3: ¬lo > hi2:=h3;refine .B ?_;refine J.g Y Y Y (λh4=> ?_) (λh4=> ?_)
     ·refine .B ?_;refine .F (r:=cR (lo,hi2)) hrow ?_;rw[hw2 (by omega)];refine .F (r:=cR p) (hprev (by omega)).1 ?_;have hpv:=(hprev (by omega)).2;simp only[aH,DN]at hpv;rw[af (n:=lo-p.2) (by omega) (by omega)];refine T.cd Y (λh5=> ?_) (λh5=> ?_)
      ·refine .B ?_;rw[hno (by rw[hbd,a1,a2,DC h3,DD h4,DD h5];rfl)];exact r1
      ·refine .B ?_;refine .F (r:=cR (lo,hi2)) hrow ?_;refine .F (r:=cR (lo,hi2)) hrow ?_;have e1:IntKind.i64.wrap (hi2-lo)=hi2-lo:=af (by omega) (by omega);have e2:IntKind.i64.wrap (hi2-lo+1)=hi2-lo+1:=af (by omega) (by omega);have e3:IntKind.i64.wrap (n+(hi2-lo+1))=n+(hi2-lo+1):=af (by omega) (by omega);rw[e1,e2,e3,hw1];exact T.K (ih1 (by rw[hbd,a1,a2,DC h3,DD h4,DC h5];rfl) (by omega))
     ·refine .B ?_;refine T.cf Y ?_;refine .B ?_;refine .F (r:=cR (lo,hi2)) hrow ?_;refine .F (r:=cR (lo,hi2)) hrow ?_;have e1:IntKind.i64.wrap (hi2-lo)=hi2-lo:=af (by omega) (by omega);have e2:IntKind.i64.wrap (hi2-lo+1)=hi2-lo+1:=af (by omega) (by omega);have e3:IntKind.i64.wrap (n+(hi2-lo+1))=n+(hi2-lo+1):=af (by omega) (by omega);rw[e1,e2,e3,hw1];exact T.K (ih1 (by rw[hbd,a1,a2,DC h3,DC h4];rfl) (by omega))
 ·have h1:i=d.length:=(by simp at h1;omega);subst h1;rw[E8]at hn⊢;have hany:(List.range d.length).any (badR d)=false:=by
   rw[Fq];intro j hj;rw[hb j (DM.1 hj)];simp
  unfold chkR at hR;rw[hany]at hR;simp only[EF,if_false]at hR;generalize sizeI d=n at*;refine .B ?_;refine T.cd Y (λh2=> ?_) (λh2=> ?_)
  ·rw[D4 h2]at hR;subst hR;refine .B ?_;exact r1
  ·rw[D2 h2]at hR;subst hR;refine .B ?_;exact r1
structure Takes {α:Type}(le:α->α->Prop)(good:α->Prop)(f:α->Option α):Prop where
 less: ∀a a',good a->f a=some a'->good a'/\le a' a
 mono: ∀a a' b,good a->good b->le a b->f a=some a'->∃b',f b=some b'/\le a' b'
structure Order (α:Type)(le:α->α->Prop)(good:α->Prop):Prop where
 refl: ∀a,le a a
 trans: ∀a b c,le a b->le b c->le a c
 anti: ∀a b,good a->good b->le a b->le b a->a=b
section
variable {α γ:Type}{le:α->α->Prop}{good:α->Prop}(O:Order α le good){f:γ->α->Option α}
def eE (f:γ->α->Option α)(l:List γ)(a:α):Prop:= ∀c∈l,f c a=some a
structure Come (le:α->α->Prop)(good:α->Prop)(f:γ->α->Option α)(l:List γ)(d a:α):Prop where
 fine:good a
 less:le a d
 keep: ∀e,good e->le e d->eE f l e->le e a
include O in
theorem Come.refl {l:List γ}{d:α}(hd:good d):Come le good f l d d:=⟨hd,O.refl d,λ_ _ h _=>h⟩
include O in
theorem Come.step {l:List γ}{d a a':α}{c:γ}(h:Come le good f l d a)(hc:c∈l)(ht:Takes le good (f c))(he:f c a=some a'):Come le good f l d a':=by
 obtain⟨h1,h2⟩:=ht.less a a' h.fine he;refine⟨h1,O.trans _ _ _ h2 h.less,λe ge le_ hs=> ?_⟩;obtain⟨b',hb,hle⟩:=ht.mono e e a ge h.fine (h.keep e ge le_ hs) (hs c hc);rw[he]at hb;exact D3 hb▸hle
theorem Come.none {l:List γ}{d a:α}{c:γ}(h:Come le good f l d a)(hc:c∈l)(ht:Takes le good (f c))(he:f c a=none): ¬∃e,good e/\le e d/\eE f l e:=by
 rintro⟨e,ge,hle,hs⟩;obtain⟨b',hb,_⟩:=ht.mono e e a ge h.fine (h.keep e ge hle hs) (hs c hc);rw[he]at hb;cases hb
def ex (le:α->α->Prop)(good:α->Prop)(f:γ->α->Option α)(l:List γ)(d:α):Option α->Prop
 |some a=>Come le good f l d a/\eE f l a
 |none=> ¬∃e,good e/\le e d/\eE f l e
include O in
theorem ex.one {l l':List γ}{d:α}{R R':Option α}(hl: ∀c,c∈l↔c∈l')(h:ex le good f l d R)(h':ex le good f l' d R'):R=R':=by
 have hst: ∀e,eE f l e↔eE f l' e:=λe=>⟨λh c hc=>h c ((hl c).2 hc),λh c hc=>h c ((hl c).1 hc)⟩;cases R with
 |none=>
  cases R' with
  |none=>rfl
  |some b=>exact DU ⟨b,h'.1.fine,h'.1.less,(hst b).2 h'.2⟩ h
 |some a=>
  cases R' with
  |none=>exact DU ⟨a,h.1.fine,h.1.less,(hst a).1 h.2⟩ h'
  |some b=>
   exact congrArg some (O.anti a b h.1.fine h'.1.fine (h'.1.keep a h.1.fine h.1.less ((hst a).1 h.2)) (h.1.keep b h'.1.fine h'.1.less ((hst b).2 h'.2)))
include O in
theorem ex.less {l l':List γ}{d d' a':α}{R:Option α}(hl: ∀c,c∈l->c∈l')(hd:le d' d)(h:ex le good f l d R)(h':ex le good f l' d' (some a')): ∃a,R=some a/\le a' a:=by
 have hs:eE f l a':=λc hc=>h'.2 c (hl c hc);have hle:=O.trans _ _ _ h'.1.less hd;cases R with
 |none=>exact DU ⟨a',h'.1.fine,hle,hs⟩ h
 |some a=>exact⟨a,rfl,h.1.keep a' h'.1.fine hle hs⟩
theorem ex.keeps {l:List γ}{d e:α}{R:Option α}(h:ex le good f l d R)(ge:good e)(hle:le e d)(hs:eE f l e): ∃a,R=some a/\le e a:=by
 cases R with
 |none=>exact DU ⟨e,ge,hle,hs⟩ h
 |some a=>exact⟨a,rfl,h.1.keep e ge hle hs⟩
theorem ex.takes {l:List γ}{F:α->Option α}(O:Order α le good)(h: ∀d,good d->ex le good f l d (F d)):Takes le good F:=by
 refine⟨λa a' ga he=> ?_,λa a' b ga gb hle he=> ?_⟩
 ·have:=h a ga;rw[he]at this;exact⟨this.1.fine,this.1.less⟩
 ·have h1:=h a ga;rw[he]at h1;exact ex.less O (λ_ h=>h) hle (h b gb) h1
theorem ex.fix {l:List γ}{F:α->Option α}(O:Order α le good)(h: ∀d,good d->ex le good f l d (F d)){a:α}(ga:good a):F a=some a↔eE f l a:=by
 constructor
 ·intro he;have:=h a ga;rw[he]at this;exact this.2
 ·intro hs;obtain⟨b,hb,hle⟩:=ex.keeps (h a ga) ga (O.refl a) hs;have:=h a ga;rw[hb]at this;rw[hb,O.anti b a this.1.fine ga this.1.less hle]
end
def leD (a b:aa):Prop:=a.length=b.length/\∀v x:Int,0<=v->x∈vals (domAt a v)->x∈vals (domAt b v)
structure GoodD (n:Nat)(d:aa):Prop where
 few:FewD d
 len:d.length=n
 some': []∉d
theorem pA {d:aa}{j:Nat}(h:j<d.length):domAt d (j:Int)=d[j]:=by
 unfold domAt;rw[D0,DW,D1 h];rfl
theorem pJ.mono {a b:aa}(h:leD a b){us:List Int}(h0: ∀u∈us,0<=u){P:List Int->Bool}{v x:Int}(hs: ∃f:Int->Int,(∀u∈us,f u∈vals (domAt a u))/\P (us.map f)=true/\f v=x): ∃f:Int->Int,(∀u∈us,f u∈vals (domAt b u))/\P (us.map f)=true/\f v=x:=by
 obtain⟨f,h1,h2,h3⟩:=hs;exact⟨f,λu hu=>h.2 u _ (h0 u hu) (h1 u hu),h2,h3⟩
structure SuppS (n:Nat)(us:List Int)(P:List Int->Bool)(f:aa->Option aa):Prop where
 ok: ∀d out,GoodD n d->f d=some out->GoodD n out/\(∀v∈us,∀x,x∈vals (domAt out v)↔∃g:Int->Int,(∀u∈us,g u∈vals (domAt d u))/\P (us.map g)=true/\g v=x)/\∀v,0<=v->v∉us->domAt out v=domAt d v
 no: ∀d,GoodD n d->f d=none->∀g:Int->Int,(∀u∈us,g u∈vals (domAt d u))->P (us.map g)=false
 in': ∀u∈us,0<=u/\u.toNat<n
 ne:us≠[]
theorem GoodD.ne {n:Nat}{d:aa}(h:GoodD n d){v:Int}(hv:v.toNat<n): ∃x,x∈vals (domAt d v):=by
 have hm:domAt d v∈d:=by
  unfold domAt;rw[D0,D1 (by rw[h.len];exact hv)];exact D8 _
 have hok:=(h.few.fine _ hm).ok;cases hd:domAt d v with
 |nil=>rw[hd]at hm;exact DU hm h.some'
 |cons r rest=>
  rw[hd]at hok;exact⟨r.1,aT.2 ⟨r,.head _,EN _,hok.1 r (.head _)⟩⟩
theorem SuppS.takes {n:Nat}{us:List Int}{P:List Int->Bool}{f:aa->Option aa}(h:SuppS n us P f):Takes leD (GoodD n) f:=by
 refine⟨λa a' ga he=> ?_,λa a' b ga gb hle he=> ?_⟩
 ·obtain⟨g1,h1,h2⟩:=h.ok a a' ga he;refine⟨g1,by rw[g1.len,ga.len],λv x h0 hx=> ?_⟩;by_cases hv:v∈us
  ·obtain⟨g,h3,_,rfl⟩:=(h1 v hv x).1 hx;exact h3 v hv
  ·rw[h2 v h0 hv]at hx;exact hx
 ·obtain⟨g1,h1,h2⟩:=h.ok a a' ga he;cases hb:f b with
  |none=>
   obtain⟨u,hu⟩:=Eu _ h.ne;have hun:=(h.in' u hu).2;obtain⟨x,hx⟩:=g1.ne hun;obtain⟨g,h3,h4,_⟩:=(h1 u hu x).1 hx;have:=h.no b gb hb g λw hw=>hle.2 w _ (h.in' w hw).1 (h3 w hw);rw[h4]at this;cases this
  |some b'=>
   obtain⟨g2,h3,h4⟩:=h.ok b b' gb hb;refine⟨b',rfl,by rw[g1.len,g2.len],λv x h0 hx=> ?_⟩;by_cases hv:v∈us;·exact(h3 v hv x).2 (pJ.mono hle (λu hu=>(h.in' u hu).1) ((h1 v hv x).1 hx))
   ·rw[h2 v h0 hv]at hx;rw[h4 v h0 hv];exact hle.2 v x h0 hx
theorem CE {n:Nat}{vars:List Int}(hv:vars.Nodup/\∀v∈vars,0<=v/\v.toNat<n)(hne:vars≠[]):SuppS n vars (λl=>decide l.Nodup) λd=>ig d vars:=by
 have hV: ∀d,GoodD n d->j4 d vars:=λd hd=>⟨hv.1,λv hm=>by rw[hd.len];exact hv.2 v hm⟩;have ho: ∀d,GoodD n d->∀g:Int->Int,(∀u∈vars,g u∈vals (domAt d u))->(vars.map g).Nodup->Others (listsP d vars) λj=>g (vars.getD j 0):=λd hd g h1 h2=>by
  rw[eQ hd.few];refine⟨λj hj=> ?_,λj k hj hk e=> ?_⟩
  ·rw[D9]at hj;have:=h1 _ (D8 hj);simpa[hj]using this
  ·rw[D9]at hj hk;have e:g (vars.getD j 0)=g (vars.getD k 0):=e;have e2:(vars.map g)[j]'(by simpa using hj)=(vars.map g)[k]'(by simpa using hk):=(by simpa[hj,hk]using e);exact(Fc h2).1 e2
 refine⟨λd out hd he=> ?_,λd hd he g hg=> ?_,?_,?_⟩
 ·unfold ig at he;split at he;·cases he
  ·split at he;·cases he
   ·rename_i hno;obtain rfl:=D3 he;have hat:=λj=>kP (d:=d) (vars:=vars) (out:=d) j hv.1 (hV d hd).2;have hdat: ∀v,v∈vars->domAt (iY d vars vars d) v=cX (iQ d vars v):=λv hm=>by
     have h0:=hv.2 v hm;have:=hat v.toNat;rw[show((v.toNat:Nat):Int)=v by omega,D4 hm]at this;unfold domAt;rw[D0,this];rfl
    refine⟨⟨⟨by rw[jr];exact hd.few.small,λx hx=> ?_,λx hx=> ?_⟩,by rw[jr,hd.len],hno⟩,λv hm x=> ?_,λv h0 hm=> ?_⟩
    ·obtain⟨j,hj⟩:=DH hx;rw[hat j]at hj;split at hj
     ·obtain⟨h1,h2,h3⟩:=lB hd.few vars (j:Int);exact D3 hj▸kr h1 h3 h2
     ·exact hd.few.fine x (D7 hj)
    ·obtain⟨j,hj⟩:=DH hx;rw[hat j]at hj;split at hj
     ·obtain⟨h1,h2,h3⟩:=lB hd.few vars (j:Int);rw[<-D3 hj,bJ h1];exact h2
     ·exact hd.few.few x (D7 hj)
    ·rw[hdat v hm,bJ (lB hd.few vars v).1];obtain⟨i,hi,rfl⟩:=F7 hm;rw[jy hd.few (hV d hd) hi];have hlen:(listsP d vars).length=vars.length:=D9 ..;constructor
     ·rintro⟨g,⟨h1,h2⟩,rfl⟩;refine⟨λu=>g (vars.idxOf u),λu hu=> ?_,?_,?_⟩
      ·have hx:=G8 hu;have:=h1 (vars.idxOf u) (by omega);rw[eQ hd.few]at this;simpa[hx]using this
      ·refine DD (fF hv.1 λa ha b hb e=> ?_);have hxa:=G8 ha;have hxb:=G8 hb;have e2:=h2 _ _ (by omega) (by omega) e;have e3:vars[vars.idxOf a]=vars[vars.idxOf b]:=(by simp only[e2]);simpa using e3
      ·show g (vars.idxOf vars[i])=g i;congr 1;exact hv.1.idxOf_getElem i hi
     ·rintro⟨g,h1,h2,rfl⟩;refine⟨_,ho d hd g h1 (EL h2),?_⟩;show g (vars.getD i 0)=_;rw[D0,D1 hi];rfl
    ·by_cases hl:v.toNat<d.length
     ·have:=hat v.toNat;rw[show((v.toNat:Nat):Int)=v by omega,D2 hm]at this;unfold domAt;rw[D0,D0,this]
     ·unfold domAt;rw[D0,D0,EB (by rw[jr];omega),EB (by omega)]
 ·refine DC λhn=> ?_;have hoo:=ho d hd g hg hn;unfold ig at he;rw[D2 hd.some']at he;split at he
  ·rename_i hem;obtain⟨j,hj⟩:=DH hem;rw[kP j hv.1 (hV d hd).2]at hj;split at hj
   ·rename_i hm;obtain⟨i,hi,e⟩:=F7 hm;have:=(jy hd.few (hV d hd) hi _).2 ⟨_,hoo,rfl⟩;rw[e]at this;exact xA (λe2=>by rw[e2]at this;cases this) (D3 hj)
   ·exact hd.some' (D7 hj)
  ·cases he
 ·exact hv.2
 ·exact hne
theorem jj {n:Nat}{a b:aa}(ga:GoodD n a)(gb:GoodD n b)(h: ∀v x:Int,0<=v->(x∈vals (domAt a v)↔x∈vals (domAt b v))):a=b:=by
 refine FU (by rw[ga.len,gb.len]) λj h1 h2=> ?_;have h3:=h (j:Int);rw[pA h1,pA h2]at h3;have f1:=(ga.few.fine _ (D8 h1)).ok;have f2:=(gb.few.fine _ (D8 h2)).ok;rw[<-eK f1,<-eK f2,dG (aF f1) (aF f2) λx=>h3 x (by omega)]
theorem aY (n:Nat):Order aa leD (GoodD n):=by
 refine⟨λa=>⟨rfl,λ_ _ _ h=>h⟩,λa b c h1 h2=>⟨h1.1.trans h2.1,λv x h0 h=>h2.2 v x h0 (h1.2 v x h0 h)⟩,λa b ga gb h1 h2=> ?_⟩;exact jj ga gb λv x h0=>⟨h1.2 v x h0,h2.2 v x h0⟩
theorem SuppS.stays {n:Nat}{us:List Int}{P:List Int->Bool}{f:aa->Option aa}(h:SuppS n us P f){a b:aa}(ga:GoodD n a)(gb:GoodD n b)(ha:f a=some a)(hab: ∀u∈us,domAt a u=domAt b u):f b=some b:=by
 obtain⟨_,h1,_⟩:=h.ok a a ga ha;have hsupp: ∀v∈us,∀x,x∈vals (domAt b v)↔∃g:Int->Int,(∀u∈us,g u∈vals (domAt b u))/\P (us.map g)=true/\g v=x:=λv hv x=>by
  rw[<-hab v hv,h1 v hv x];constructor
  ·rintro⟨g,h2,h3,h4⟩;exact⟨g,λu hu=>by rw[<-hab u hu];exact h2 u hu,h3,h4⟩
  ·rintro⟨g,h2,h3,h4⟩;exact⟨g,λu hu=>by rw[hab u hu];exact h2 u hu,h3,h4⟩
 cases hb:f b with
 |none=>
  obtain⟨u,hu⟩:=Eu _ h.ne;obtain⟨x,hx⟩:=gb.ne (h.in' u hu).2;obtain⟨g,h2,h3,_⟩:=(hsupp u hu x).1 hx;have:=h.no b gb hb g h2;rw[h3]at this;cases this
 |some b'=>
  obtain⟨g',h2,h3⟩:=h.ok b b' gb hb;congr 1;refine jj g' gb λv x h0=> ?_;by_cases hv:v∈us;·rw[h2 v hv x,hsupp v hv x]
  ·rw[h3 v h0 hv]
theorem SuppS.point {n:Nat}{us:List Int}{P:List Int->Bool}{f:aa->Option aa}(h:SuppS n us P f){e:aa}(ge:GoodD n e)(g:Int->Int)(he: ∀u∈us,vals (domAt e u)=[g u]):f e=(if P (us.map g)=true then some e else none):=by
 have huniq: ∀g':Int->Int,(∀u∈us,g' u∈vals (domAt e u))->us.map g'=us.map g:=λg' hg'=>EJ λu hu=>by
  have:=hg' u hu;rw[he u hu]at this;exact DG.1 this
 cases hf:f e with
 |none=>
  have:=h.no e ge hf g λu hu=>(by rw[he u hu];exact .head _);rw[this];rfl
 |some e'=>
  obtain⟨g',h2,h3⟩:=h.ok e e' ge hf;have hp:P (us.map g)=true:=by
   obtain⟨u,hu⟩:=Eu _ h.ne;obtain⟨x,hx⟩:=g'.ne (h.in' u hu).2;obtain⟨q,h4,h5,_⟩:=(h2 u hu x).1 hx;rw[<-huniq q h4];exact h5
  rw[D4 hp];congr 1;refine jj g' ge λv x h0=> ?_;by_cases hv:v∈us
  ·rw[h2 v hv x,he v hv,DG];constructor
   ·rintro⟨q,h4,_,rfl⟩;have:=h4 v hv;rw[he v hv]at this;exact DG.1 this
   ·rintro rfl;exact⟨g,λu hu=>by rw[he u hu];exact .head _,hp,rfl⟩
  ·rw[h3 v h0 hv]
def atR (a:List Int)(v:Int):Int:=if v<0 then 0 else a.getD v.toNat 0
theorem sJ (a:List Int)(v:Int)(hl:a.length*8<=140737488355328):Spec Tryz.prog 53 false [ao a,.int .i64 v] [.val (.int .i64 (atR a v))]:=by
 refine Spec.body Tryz.func53 Y Y Y λw0 Z0=> ?_;unfold atR;refine .B ?_;refine J.g Y Y Y (λh=> ?_) (λh=> ?_)
 ·refine .B ?_;refine T.ct Y ?_;refine .B ?_;exact⟨_,.v Y Y (by rw[D4 h]) (λ_=>rfl) .nil⟩
 ·refine .B ?_;refine T.cd Y (λh2=> ?_) (λh2=> ?_)
  ·refine .B ?_;refine⟨_,.v Y Y ?_ (λ_=>rfl) .nil⟩;rw[D2 h,D0,EB (by simp at h2;omega)];rfl
  ·have h2:v.toNat<a.length:=(by simp at h2;omega);refine .B ?_;refine J.i Y Y Y Y Y Y Y Y Y (r:=cI a[v.toNat]) (by omega) (aO h2) Y ?_;refine .B ?_;refine⟨_,.v Y Y ?_ (λ_=>rfl) .nil⟩;rw[D2 h,D0,D1 h2];rfl
def pickedR (vars a:List Int):List Int:=vars.map (atR a)
theorem tK (vars a:List Int)(hv:vars.length*8<=140737488355328)(hl:a.length*8<=140737488355328):Spec Tryz.prog 50 false [ao vars,ao a] [.own 3 1 ((pickedR vars a).map cI)]:=by
 refine Spec.body Tryz.func50 Y Y Y λw0 Z0=> ?_;refine .B ?_;refine .Q ?_;refine T.K (T.ind (λi:Nat=>⟨[(0,.val false (ao vars)),(1,.val false (ao a)),(4,.nilsl),(5,.ref 0),(6,.val true (.int .i64 i))],[(0,some (.sl 3 1 true ((pickedR (vars.take i) a).map cI)))],1⟩) (λi=>i<=vars.length) (λi=>vars.length-i) 0 (by simp) (λ_ _ h=>h) ?_);rintro i hi ih;refine .B ?_;refine T.cd Y (λh1=> ?_) (λh1=> ?_)
 ·have h1:i<vars.length:=(by simpa using h1);refine .B ?_;refine .F (r:=cI vars[i]) (aO h1) ?_;refine .D (sJ a vars[i] hl) ?_;refine .V ?_;refine J.aI Y Y Y Y Y Y Y Y Y Y Y Y Y Y Y Y Y Y Y (by simp[pickedR];omega) ?_;refine .B ?_;rw[ak (l:=vars.length) (by omega) (by omega)];have e:pickedR (vars.take i) a++[atR a vars[i]]=pickedR (vars.take (i+1)) a:=by
   rw[DB h1];unfold pickedR;rw[EC];rfl
  rw[e];exact T.K (ih (i+1) (by omega) (by omega))
 ·have h1:i=vars.length:=(by simp at h1;omega);subst h1;refine .B ?_;refine⟨_,.o Y Y (by rw[E8]) (λ_=> .inl Y) (by simp) .nil⟩
def dq (op n rhs:Int):Bool:=if op=0 then decide (n<=rhs)else(decide (n=rhs)==decide (op=1))
theorem y6 (op n rhs:Int):Spec Tryz.prog 51 false [.int .i64 op,.int .i64 n,.int .i64 rhs] [.val (.bool (dq op n rhs))]:=by
 refine Spec.body Tryz.func51 Y Y Y λw0 Z0=> ?_;unfold dq;refine .B ?_;refine T.cd Y (λh=> ?_) (λh=> ?_)
 ·refine .B ?_;exact⟨_,.v Y Y (by rw[D4 h]) (λ_=>rfl) .nil⟩
 ·refine .B ?_;exact⟨_,.v Y Y (by rw[D2 h]) (λ_=>rfl) .nil⟩
def sumW (vars coefs a:List Int):Int:=(vars.zip coefs).foldl (λn p=>IntKind.i64.wrap (n+IntKind.i64.wrap (p.2*atR a p.1))) 0
theorem yo (vars coefs a:List Int)(hv:vars.length*8<=140737488355328)(hc:coefs.length*8<=140737488355328)(hl:a.length*8<=140737488355328):Spec Tryz.prog 49 false [ao vars,ao coefs,ao a] [.val (.int .i64 (sumW vars coefs a))]:=by
 refine Spec.body Tryz.func49 Y Y Y λw0 Z0=> ?_;refine .B ?_;refine T.K (T.ind (λi:Nat=>⟨[(0,.val false (ao vars)),(1,.val false (ao coefs)),(2,.val false (ao a)),(7,.val true (.int .i64 (sumW (vars.take i) (coefs.take i) a))),(8,.val true (.int .i64 i))],[],0⟩) (λi=>i<=vars.length/\i<=coefs.length) (λi=>vars.length-i) 0 (by simp) (λ_ _ h=>h) ?_);rintro i ⟨hi,hi2⟩ ih;have fin: ∀(h:i=vars.length∨i=coefs.length),sumW (vars.take i) (coefs.take i) a=sumW vars coefs a:=by
  intro h;unfold sumW;rw[List.zip_eq_zipWith,List.zip_eq_zipWith,<-List.take_zipWith,DS];simp;omega
 refine .B ?_;refine J.g Y Y Y (λh=> ?_) (λh=> ?_)
 ·have h:i<vars.length:=(by simpa using h);refine .B ?_;refine T.cd Y (λh1=> ?_) (λh1=> ?_)
  ·have h1:i<coefs.length:=(by simpa using h1);refine .B ?_;refine .F (r:=cI coefs[i]) (aO h1) ?_;refine .F (r:=cI vars[i]) (aO h) ?_;refine .D (sJ a vars[i] hl) ?_;have e:IntKind.i64.wrap (sumW (vars.take i) (coefs.take i) a+IntKind.i64.wrap (coefs[i]*atR a vars[i]))=sumW (vars.take (i+1)) (coefs.take (i+1)) a:=by
    unfold sumW;rw[DB h,DB h1,List.zip_append (by simp;omega),Gz];rfl
   rw[e,ak (l:=vars.length) (by omega) (by omega)];exact T.K (ih (i+1) ⟨by omega,by omega⟩ (by omega))
  ·refine .B ?_;refine⟨_,.v Y Y (by rw[fin];simp at h1;omega) (λ_=>rfl) .nil⟩
 ·refine .B ?_;refine T.cf Y ?_;refine .B ?_;refine⟨_,.v Y Y (by rw[fin];simp at h;omega) (λ_=>rfl) .nil⟩
def dz:List Int->List Int->Int
 | [],[]=>0
 | [],_::_=> -1
 |_::_,[]=>1
 |x::xs,y::ys=>if x<y then -1 else if y<x then 1 else dz xs ys
theorem v8 (a b:List Int)(ha:a.length*8<=140737488355328)(hb:b.length*8<=140737488355328):Spec Tryz.prog 54 false [ao a,ao b] [.val (.int .i64 (dz a b))]:=by
 refine Spec.body Tryz.func54 Y Y Y λw0 Z0=> ?_;refine .B ?_;refine T.K (T.ind (λi:Nat=>⟨[(0,.val false (ao a)),(1,.val false (ao b)),(5,.val true (.int .i64 i))],[],0⟩) (λi=>i<=a.length/\i<=b.length/\dz (a.drop i) (b.drop i)=dz a b) (λi=>a.length-i) 0 (by simp) (λ_ _ h=>h) ?_);rintro i ⟨hi,hi2,he⟩ ih;refine .B ?_;refine J.g Y Y Y (λh=> ?_) (λh=> ?_)
 ·have h:i<a.length:=(by simpa using h);refine .B ?_;refine T.cd Y (λh1=> ?_) (λh1=> ?_)
  ·have h1:i<b.length:=(by simpa using h1);have ed:dz (a.drop i) (b.drop i)=if a[i]<b[i]then -1 else if b[i]<a[i]then 1 else dz (a.drop (i+1)) (b.drop (i+1)):=by
    rw[DQ h,DQ h1,dz]
   refine .B ?_;refine .F (r:=cI a[i]) (aO h) ?_;refine .F (r:=cI b[i]) (aO h1) ?_;refine T.cd Y (λh2=> ?_) (λh2=> ?_)
   ·refine .B ?_;refine⟨_,.v Y Y ?_ (λ_=>rfl) .nil⟩;rw[<-he,ed,D4 h2]
   ·refine .B ?_;refine .F (r:=cI a[i]) (aO h) ?_;refine .F (r:=cI b[i]) (aO h1) ?_;refine T.cd Y (λh3=> ?_) (λh3=> ?_)
    ·refine .B ?_;refine⟨_,.v Y Y ?_ (λ_=>rfl) .nil⟩;rw[<-he,ed,D2 h2,D4 h3]
    ·refine .B ?_;rw[ak (l:=a.length) (by omega) (by omega)];refine T.K (ih (i+1) ⟨by omega,by omega,?_⟩ (by omega));rw[<-he,ed,D2 h2,D2 h3]
  ·have h1:i=b.length:=(by simp at h1;omega);refine .B ?_;refine T.cd Y (λh2=> ?_) (λh2=> ?_);·exact DU h2 (by simp;omega)
   ·refine .B ?_;refine T.cd Y (λh3=> ?_) (λh3=> ?_)
    ·refine .B ?_;refine⟨_,.v Y Y ?_ (λ_=>rfl) .nil⟩;rw[<-he,h1,EY,DQ (by omega),dz]
    ·exact DU (by simp;omega) h3
 ·have h:i=a.length:=(by simp at h;omega);refine .B ?_;refine T.cf Y ?_;refine .B ?_;refine T.cd Y (λh2=> ?_) (λh2=> ?_)
  ·have h2:a.length<b.length:=(by simpa using h2);refine .B ?_;refine⟨_,.v Y Y ?_ (λ_=>rfl) .nil⟩;rw[<-he,h,EY,DQ h2,dz]
  ·have h2: ¬a.length<b.length:=(by simpa using h2);refine .B ?_;refine T.cd Y (λh3=> ?_) (λh3=> ?_);·exact DU h3 (by simp;omega)
   ·refine .B ?_;refine⟨_,.v Y Y ?_ (λ_=>rfl) .nil⟩;rw[<-he,h,EY,GT (by omega),dz]
def holds6 (vars a:List Int):Bool:=decide (dz ((pickedR vars a).take (vars.length / 2)) ((pickedR vars a).drop (vars.length / 2))<=0)
def litH (p:Int×Int):Bool:=(decide (p.2=1)&&decide (p.1=1))||(decide (p.2= -1)&&decide (p.1=0))
def xV (l:List Int):Bool:=decide (2<=l.length)&&decide (0<=l.getD 0 0)&&decide (l.getD 0 0+2<l.length)&&decide (l.getD (l.getD 0 0+2).toNat 0=l.getD 1 0)
def soR (c:Con)(a:List Int):Bool:=dq c.op (sumW c.vars c.coefs a) c.rhs
def holdsR (c:Con)(a:List Int):Bool:=
 if c.kind=0 then soR c a else
 if c.kind=1 then decide ((aW (pickedR c.vars a)).length=(pickedR c.vars a).length)else
 if c.kind=2 then c.rows.any λr=>decide (r=pickedR c.vars a)else
 if c.kind=3 then xV (pickedR c.vars a)else
 if c.kind=4 then(soR c a&&decide (atR a c.b=1))||(!soR c a&&decide (atR a c.b=0))else
 if c.kind=5 then((pickedR c.vars a).zip c.coefs).any litH else
 holds6 c.vars a
theorem wK (c:Con)(a:List Int)(hc:ConB c)(hl:a.length*8<=140737488355328)(hk5:c.kind=5->c.vars.length<=c.coefs.length)(hk3:c.kind=3->∀x∈a,x<=4611686018427387904):
  Spec Tryz.prog 25 false [.agg (cC c),ao a] [.val (.bool (holdsR c a))]:=by
 obtain⟨h1,h2,h3,h4⟩:=hc;refine Spec.body Tryz.func25 Y Y Y λw0 Z0=> ?_;have hpl:(pickedR c.vars a).length=c.vars.length:=(by simp[pickedR]);have hheld:=y6 c.op (sumW c.vars c.coefs a) c.rhs;have hso:dq c.op (sumW c.vars c.coefs a) c.rhs=soR c a:=rfl;rw[hso]at hheld;have hsort:=i4 (pickedR c.vars a) (by omega);have hat:=sJ a c.b hl;have ho6:holds6 c.vars a=decide (dz ((pickedR c.vars a).take (c.vars.length / 2)) ((pickedR c.vars a).drop (c.vars.length / 2))<=0):=rfl;have hord:=v8 ((pickedR c.vars a).take (c.vars.length / 2)) ((pickedR c.vars a).drop (c.vars.length / 2)) (by simp;omega) (by simp;omega);have hpk:=tK c.vars a (by omega) hl;have hsm:=yo c.vars c.coefs a (by omega) h2 hl;have hpin:c.kind=3->∀x∈pickedR c.vars a,x<=4611686018427387904:=by
  intro hk x hx;obtain⟨v,_,rfl⟩:=DF.1 hx;unfold atR;split;·omega
  ·rw[D0];cases hg:a[v.toNat]? with
   |none=>simp
   |some y=>simpa using hk3 hk y (D7 hg)
 clear hso;unfold holdsR;generalize holds6 c.vars a=h6 at*;generalize sumW c.vars c.coefs a=sm at*;generalize soR c a=so at*;generalize pickedR c.vars a=l at*;refine .B ?_;refine .D hpk ?_;refine .D hsm ?_;refine .D hheld ?_;refine T.cd Y (λk0=> ?_) (λk0=> ?_)
 ·have k0:c.kind=0:=k0;rw[D4 k0];refine .B ?_;exact r1
 have k0: ¬c.kind=0:=k0;rw[D2 k0];refine .B ?_;refine T.cd Y (λk1=> ?_) (λk1=> ?_)
 ·have k1:c.kind=1:=k1;rw[D4 k1];refine .B ?_;refine .D hsort ?_;exact⟨_,.v Y Y (by simp;omega) (λ_=>rfl) .nil⟩
 have k1: ¬c.kind=1:=k1;rw[D2 k1];refine .B ?_;refine T.cd Y (λk2=> ?_) (λk2=> ?_)
 ·have k2:c.kind=2:=k2;rw[D4 k2];refine .B ?_;refine T.sub (Rel.frz (s:=5) (λ_ h=>h) Y Y) ?_;refine T.K (T.ind (λi:Nat=>⟨[(2,.optr 0 0 0 0),(5,.val true (ao l)),(7,.val true (.int .i64 i))],[(0,some (.box false (cC c)))],1⟩) (λi=>i<=c.rows.length/\((c.rows.take i).any λr=>decide (r=l))=false) (λi=>c.rows.length-i) 0 (by simp) (λ_ _ h=>h) ?_);rintro i ⟨hi,he⟩ ih;refine .B ?_;refine T.cd Y (λh5=> ?_) (λh5=> ?_)
  ·have h5:i<c.rows.length:=(by simpa using h5);have hrl:=h4 _ (D8 h5);have hn:=mi c.rows[i] l hrl;refine .B ?_;refine .F (r:=cL c.rows[i]) (aO h5) ?_;refine .C hn ?_;by_cases e:c.rows[i]=l
   ·have hany:(c.rows.any λr=>decide (r=l))=true:=EZ.2 ⟨_,D8 h5,by simp[e]⟩;rw[DD e,hany];refine .B ?_;refine T.ct Y ?_;refine .B ?_;exact r1
   ·rw[DC e];refine .B ?_;refine T.cf Y ?_;refine .B ?_;rw[ak (l:=c.rows.length) (by omega) (by omega)];exact T.K (ih (i+1) ⟨by omega,by rw[DB h5,List.any_append,he];simp[e]⟩ (by omega))
  ·have h5:i=c.rows.length:=(by simp at h5;omega);subst h5;rw[E8]at he;rw[he];refine .B ?_;exact r1
 have k2: ¬c.kind=2:=k2;rw[D2 k2];refine .B ?_;refine T.cd Y (λk3=> ?_) (λk3=> ?_)
 ·have k3:c.kind=3:=k3;rw[D4 k3];have hpin:=hpin k3;unfold xV;refine .M ?_;refine T.sub (Rel.frz (s:=5) (λ_ h=>h) Y Y) ?_;refine .B ?_;refine J.g Y Y Y (λg1=> ?_) (λg1=> ?_)
  ·have g1:2<=l.length:=by
    have g1:((l.map cI).length:Int)>=2:=g1;simp only[D9]at g1;omega
   obtain⟨x0,hx0⟩: ∃x,l[0]? =some x:=⟨_,D1 (by omega)⟩;obtain⟨x1,hx1⟩: ∃x,l[1]? =some x:=⟨_,D1 (by omega)⟩;have e0:l.getD 0 0=x0:=(by rw[D0,hx0];rfl);have e1:l.getD 1 0=x1:=(by rw[D0,hx1];rfl);have hr0:(l.map cI)[(0:Int).toNat]? =some (cI x0):=(by simp[hx0]);have hr1:(l.map cI)[(1:Int).toNat]? =some (cI x1):=(by simp[hx1]);have hp0:=hpin x0 (D7 hx0);rw[DD g1,e0,e1];refine .B ?_;refine J.i Y Y Y Y Y Y Y Y Y (r:=cI x0) (by decide) hr0 Y ?_;refine .B ?_;refine J.g Y Y Y (λg2=> ?_) (λg2=> ?_)
   ·have g2:0<=x0:=g2;have ew:IntKind.i64.wrap (x0+2)=x0+2:=af (by omega) (by omega);rw[DD g2];refine .B ?_;refine J.i Y Y Y Y Y Y Y Y Y (r:=cI x0) (by decide) hr0 Y ?_
    repeat' first|refine J.e Y Y Y Y ?_|refine J.skip Y Y Y ?_|refine J.bx Y Y Y Y Y Y ?_
    rw[ew]
    repeat' first|refine J.e Y Y Y Y ?_|refine J.skip Y Y Y ?_|refine J.bx Y Y Y Y Y Y ?_
    refine J.g Y Y Y (λg3=> ?_) (λg3=> ?_)
    ·have g3:x0+2<l.length:=(by simpa using g3);have g4:(x0+2).toNat<l.length:=(by omega);obtain⟨x2,hx2⟩: ∃x,l[(x0+2).toNat]? =some x:=⟨_,D1 g4⟩;have e2:l.getD (x0+2).toNat 0=x2:=(by rw[D0,hx2];rfl);have hr2:(l.map cI)[(x0+2).toNat]? =some (cI x2):=(by simp[hx2]);rw[DD g3,e2];refine .B ?_;refine J.i Y Y Y Y Y Y Y Y Y (r:=cI x0) (by decide) hr0 Y ?_
     repeat' first|refine J.e Y Y Y Y ?_|refine J.skip Y Y Y ?_|refine J.bx Y Y Y Y Y Y ?_
     rw[ew];refine .F (r:=cI x2) hr2 ?_;refine J.i Y Y Y Y Y Y Y Y Y (r:=cI x1) (by decide) hr1 Y ?_;refine .B ?_;exact⟨_,.v Y Y (by simp) (λ_=>rfl) .nil⟩
    ·have g3: ¬x0+2<l.length:=(by simpa using g3);rw[DC g3];refine .B ?_;exact⟨_,.v Y Y (by simp) (λ_=>rfl) .nil⟩
   ·have g2: ¬0<=x0:=g2;rw[DC g2];refine .B ?_;exact⟨_,.v Y Y (by simp) (λ_=>rfl) .nil⟩
  ·have g1: ¬2<=l.length:=by
    have g1: ¬((l.map cI).length:Int)>=2:=g1;simp only[D9]at g1;omega
   rw[DC g1];refine .B ?_;exact⟨_,.v Y Y (by simp) (λ_=>rfl) .nil⟩
 have k3: ¬c.kind=3:=k3;rw[D2 k3];refine .B ?_;refine T.cd Y (λk4=> ?_) (λk4=> ?_)
 ·have k4:c.kind=4:=k4;rw[D4 k4];cases so
  ·refine .B ?_;refine .D hat ?_;exact⟨_,.v Y Y (by simp) (λ_=>rfl) .nil⟩
  ·refine .B ?_;refine .C hat ?_;generalize atR a c.b=ab at*;refine .B ?_;refine J.g Y Y Y (λh=> ?_) (λh=> ?_)
   ·have h:ab=1:=h;rw[DD h];refine .B ?_;exact⟨_,.v Y Y (by simp) (λ_=>rfl) .nil⟩
   ·have h: ¬ab=1:=h;rw[DC h];refine .B ?_;exact⟨_,.v Y Y (by simp) (λ_=>rfl) .nil⟩
 have k4: ¬c.kind=4:=k4;rw[D2 k4];refine .B ?_;refine T.cd Y (λk5=> ?_) (λk5=> ?_)
 ·have k5:c.kind=5:=k5;rw[D4 k5];have hk5:=hk5 k5;refine .M ?_;refine T.sub (Rel.frz (s:=5) (λ_ h=>h) Y Y) ?_;refine T.K (T.ind (λi:Nat=>⟨[(2,.optr 0 0 0 0),(5,.val true (ao l)),(8,.val true (.int .i64 i))],[(0,some (.box false (cC c)))],1⟩) (λi=>i<=l.length/\((l.zip c.coefs).take i).any litH=false) (λi=>l.length-i) 0 (by simp) (λ_ _ h=>h) ?_);rintro i ⟨hi,he⟩ ih;refine .B ?_;refine T.cd Y (λh5=> ?_) (λh5=> ?_)
  ·have h5:i<l.length:=(by simpa using h5);have h6:i<c.coefs.length:=(by omega);have hz:i<(l.zip c.coefs).length:=(by simp;omega);have eyes:litH (l[i],c.coefs[i])=true->(l.zip c.coefs).any litH=true:=λh=>EZ.2 ⟨(l[i],c.coefs[i]),by rw[<-Fw (h:=hz)];exact D8 hz,h⟩;have eno:litH (l[i],c.coefs[i])=false->((l.zip c.coefs).take (i+1)).any litH=false:=λh=>by
    rw[DB hz,List.any_append,he,Fw];simp[h]
   have edef:litH (l[i],c.coefs[i])=((decide (c.coefs[i]=1)&&decide (l[i]=1))||(decide (c.coefs[i]= -1)&&decide (l[i]=0))):=rfl;have hrl:=aO (enc:=cI) h5;have hrk:=aO (enc:=cI) h6;generalize litH (l[i],c.coefs[i])=lb at*;generalize l[i]=x at*;generalize c.coefs[i]=k at*;refine .B ?_;refine .F (r:=cI k) hrk ?_;refine J.g Y Y Y (λg1=> ?_) (λg1=> ?_)
   ·have g1:k=1:=g1;have g9: ¬k= -1:=(by omega);rw[DD g1,DC g9]at edef;refine .B ?_;refine .F (r:=cI x) hrl ?_;refine J.g Y Y Y (λg2=> ?_) (λg2=> ?_)
    ·have g2:x=1:=g2;rw[DD g2]at edef;refine .B ?_;have hb:lb=true:=(by rw[edef];rfl);rw[eyes hb];refine T.ct Y ?_;refine .B ?_;exact r1
    ·have g2: ¬x=1:=g2;rw[DC g2]at edef;refine .B ?_;refine .F (r:=cI k) hrk ?_;refine J.g Y Y Y (λg3=>DU g3 g9) (λ_=> ?_);refine .B ?_;have hb:lb=false:=(by rw[edef];rfl);refine T.cf Y ?_;refine .B ?_;rw[ak (l:=l.length) (by omega) (by omega)];exact T.K (ih (i+1) ⟨by omega,eno hb⟩ (by omega))
   ·have g1: ¬k=1:=g1;rw[DC g1]at edef;refine .B ?_;refine .F (r:=cI k) hrk ?_;refine J.g Y Y Y (λg3=> ?_) (λg3=> ?_)
    ·have g3:k= -1:=g3;rw[DD g3]at edef;refine .B ?_;refine .F (r:=cI x) hrl ?_;by_cases g4:x=0
     ·rw[DD g4]at edef⊢;have hb:lb=true:=(by rw[edef];rfl);rw[eyes hb];refine T.ct Y ?_;refine .B ?_;exact r1
     ·rw[DC g4]at edef⊢;have hb:lb=false:=(by rw[edef];rfl);refine T.cf Y ?_;refine .B ?_;rw[ak (l:=l.length) (by omega) (by omega)];exact T.K (ih (i+1) ⟨by omega,eno hb⟩ (by omega))
    ·have g3: ¬k= -1:=g3;rw[DC g3]at edef;refine .B ?_;have hb:lb=false:=(by rw[edef];rfl);refine T.cf Y ?_;refine .B ?_;rw[ak (l:=l.length) (by omega) (by omega)];exact T.K (ih (i+1) ⟨by omega,eno hb⟩ (by omega))
  ·have h5:i=l.length:=(by simp at h5;omega);subst h5;rw[DS (by simp;omega)]at he;rw[he];refine .B ?_;exact r1
 have k5: ¬c.kind=5:=k5;rw[D2 k5];refine .M ?_;have e1:IntKind.i64.wrap (((l.map cI).length:Int).tdiv 2)=((c.vars.length / 2:Nat):Int):=by
  rw[D9,hpl,GC (by omega),af (by omega) (by omega)];simp
 rw[e1];refine T.sub (Rel.frz (s:=5) (λ_ h=>h) Y Y) ?_;refine .B ?_;refine J.s1 (enc:=cI) (c.vars.length / 2) Y Y Y Y Y Y Y Y Y (λ_=>rfl) Y (by omega) ?_;refine .B ?_;refine J.s3 (enc:=cI) (c.vars.length / 2) Y Y Y Y Y Y Y Y Y (λ_=>rfl) Y (by omega) ?_;refine .B ?_;refine .D hord ?_;exact⟨_,.v Y Y (by rw[ho6]) (λ_=>rfl) .nil⟩
def bq (d:aa):Nat->List (List Int)
 |0=>[[]]
 |n+1=>(bq d n).flatMap λa=>(vals (d.getD n [])).map λv=>a++[v]
theorem qZ (d:aa): ∀(n:Nat) (a:List Int),a∈bq d n->a.length=n
 |0,a,h=>by simp[bq]at h;simp[h]
 |n+1,a,h=>by
  simp only[bq,FG,DF]at h;obtain⟨b,hb,v,_,rfl⟩:=h;simp[qZ d n b hb]
def cutW (x:List (Int×Int))(k rest:Int):List (Int×Int):=if 0<k then domCut x (-1048576) (gD rest k)else domCut x (wr (0-gD rest (wr (0-k)))) 1048576
theorem sB {x:List (Int×Int)}(h:aA x)(k rest:Int):aA (cutW x k rest)/\∀v,v∈vals (cutW x k rest)->v∈vals x:=by
 unfold cutW;split;·exact⟨(bQ h _ _).1,λv hv=>(((bQ h _ _).2 v).1 hv).1⟩
 ·exact⟨(bQ h _ _).1,λv hv=>(((bQ h _ _).2 v).1 hv).1⟩
theorem rn {x:List (Int×Int)}(h:Fine x)(k rest:Int):Fine (cutW x k rest):=h.cut (sB h.ok k rest).1 (sB h.ok k rest).2
def gK (low rhs:Int)(x:List (Int×Int))(k:Int):Int:=wr (rhs-wr (low-(endW x k false).1))
def eO (low rhs:Int):List (Int×Int)->aa->Bool->aa×Bool×Bool
 | [],d,ch=>(d,ch,true)
 |(v,k)::l,d,ch=>
  if cutW (domAt d v) k (gK low rhs (domAt d v) k)=[]then(d,false,false)
  else eO low rhs l (d.set v.toNat (cutW (domAt d v) k (gK low rhs (domAt d v) k))) (ch|| !decide (cutW (domAt d v) k (gK low rhs (domAt d v) k)=domAt d v))
def mostW (d:aa)(vars coefs:List Int)(rhs:Int):aa×Bool×Bool:=eO (endsW d vars coefs).1 rhs (vars.zip coefs) d false
structure SumFine (d:aa)(vars coefs:List Int):Prop where
 len:vars.length=coefs.length
 vl:vars.length*8<=140737488355328
 vin: ∀v∈vars,0<=v/\v.toNat<d.length
 ck: ∀k∈coefs,CoefOk k
 dom: ∀x∈d,Fine x
 dl:d.length*24<=140737488355328
theorem SumFine.in_ {d:aa}{vars coefs:List Int}(h:SumFine d vars coefs):SumIn d vars coefs:=⟨h.len,h.vl,h.vin,h.ck,λx hx=>(h.dom x hx).domB,h.dl⟩
theorem il {d:aa}{i:Nat}{x:List (Int×Int)}{p:List (Int×Int)->Prop}(h: ∀z∈d,p z)(hx:p x): ∀z∈d.set i x,p z:=by
 intro z hz;rcases DV hz with hz|rfl;·exact h z hz
 ·exact hx
theorem oW (d:aa)(vars coefs:List Int)(rhs:Int)(h:SumFine d vars coefs):
  SpecM Tryz.prog 202 54 1 (d.map cD) [ao vars,ao coefs,.int .i64 rhs] ((mostW d vars coefs rhs).1.map cD) [.bool (mostW d vars coefs rhs).2.1,.bool (mostW d vars coefs rhs).2.2]:=by
 refine SpecM.body Tryz.func202 Y Y Y (by simp[PV.flat]) λw0 v0 Z1=> ?_;have hends:=o4 d vars coefs h.in_;obtain⟨hlen,hvl,hvin,hck,hdom,hdl⟩:=h;unfold mostW;generalize endsW d vars coefs=es at*;obtain⟨low,high,is⟩:=es;simp only at hends⊢;generalize hres:eO low rhs (vars.zip coefs) d false=res;refine .B ?_;refine .D hends ?_;refine T.K (T.ind (λs:Nat×aa×Bool=>⟨[(0,.ref 0),(2,.val false (ao coefs)),(3,.val false (.int .i64 rhs)),(10,.val true (.int .i64 low)),(13,.val true (.bool s.2.2)),(29,.val false (ao vars)),(30,.val true (.int .i64 (vars.map cI).length)),(31,.val true (.int .i64 s.1))],[(0,some (.sl 54 1 true (s.2.1.map cD)))],1⟩)
  (λs=>s.1<=vars.length/\eO low rhs ((vars.zip coefs).drop s.1) s.2.1 s.2.2=res/\s.2.1.length=d.length/\∀x∈s.2.1,Fine x) (λs=>vars.length-s.1) (0,d,false) ⟨by simp,hres,rfl,hdom⟩ (λ_ _ h=>h) ?_)
 rintro⟨i,d1,ch⟩ ⟨hil,he,hl1,hf1⟩ ih;simp only at hil he hl1 hf1;dsimp only;refine .B ?_;refine T.cd Y (λh1=> ?_) (λh1=> ?_)
 ·have h1:i<vars.length:=(by simpa using h1);have h2:i<coefs.length:=(by omega);have hv:=hvin _ (D8 h1);have hk:=hck _ (D8 h2);have hk2:=f4 hk;have hvd:vars[i].toNat<d1.length:=(by omega);have hx:=hf1 _ (ah hvd);have hrow:(d1.map cD)[vars[i].toNat]? =some (cD (domAt d1 vars[i])):=(by simp[aq hvd]);have hz:i<(vars.zip coefs).length:=(by simp;omega);rw[DQ hz,Fw,eO]at he;have hend:=jx (domAt d1 vars[i]) coefs[i] false hx.domB hk;have hfl:coefs[i]≠0:=hk.1;have hng:IntKind.i64.wrap (0-coefs[i])≠0:=(by rw[af (by omega) (by omega)];omega);have hfine:=rn hx coefs[i] (gK low rhs (domAt d1 vars[i]) coefs[i]);have hdc:=λlo hi=>(gv (domAt d1 vars[i]) lo hi (by have:=hx.len;omega)).frz;have hcw:cutW (domAt d1 vars[i]) coefs[i] (gK low rhs (domAt d1 vars[i]) coefs[i])=if 0<coefs[i]then domCut (domAt d1 vars[i]) (-1048576) (gD (gK low rhs (domAt d1 vars[i]) coefs[i]) coefs[i])else domCut (domAt d1 vars[i]) (wr (0-gD (gK low rhs (domAt d1 vars[i]) coefs[i]) (wr (0-coefs[i])))) 1048576:=rfl
  have hsame:=λx hxl=>ef x (domAt d1 vars[i]) hxl;generalize cutW (domAt d1 vars[i]) coefs[i] (gK low rhs (domAt d1 vars[i]) coefs[i])=cx at*;unfold gK at hcw;generalize endW (domAt d1 vars[i]) coefs[i] false=e1 at*;generalize hvi:vars[i]=v at*;generalize hki:coefs[i]=k at*;generalize domAt d1 v=dv at*;refine .B ?_;refine J.i Y Y Y Y Y Y Y Y Y (r:=cI v) (by omega) (by rw[<-hvi];exact aO h1) Y ?_;refine .B ?_;refine J.i Y Y Y Y Y Y Y Y Y (r:=cI k) (by omega) (by rw[<-hki];exact aO h2) Y ?_;refine .B ?_;refine J.io Y Y Y Y Y Y Y Y Y hv.1 (by simpa using hvd) Y ?_;refine J.lo Y Y Y Y Y Y (r:=cD dv) hrow Y ?_;refine .B ?_;refine .D hend ?_;refine J.io Y Y Y Y Y Y Y Y Y hv.1 (by simpa using hvd) Y ?_;refine J.lo Y Y Y Y Y Y (r:=cD dv) hrow Y ?_
  repeat' first|refine J.e Y Y Y Y ?_|refine J.skip Y Y Y ?_|refine J.bx Y Y Y Y Y Y ?_
  refine J.nil ?_;refine T.mid ⟨[(0,.ref 0),(2,.val false (ao coefs)),(3,.val false (.int .i64 rhs)),(10,.val true (.int .i64 low)),(13,.val true (.bool ch)),(29,.val false (ao vars)),(30,.val true (.int .i64 (vars.map cI).length)),(31,.val true (.int .i64 i)),(15,.val true (.int .i64 v)),(20,.val true (dm cx))],[(0,some (.sl 54 1 true (d1.map cD)))],1⟩ ?_ ?_
  ·refine .B ?_;refine T.cd Y (λh3=> ?_) (λh3=> ?_)
   ·have h3:0<k:=h3;rw[D4 h3]at hcw;refine .B ?_;refine J.cc Y Y Y Y Y (pk _ k hfl) Y Y ?_;refine J.cc Y Y Y Y Y (hdc _ _) Y Y ?_;rw[hcw];refine .B ?_;exact⟨rfl,[0,2,3,10,13,29,30,31,15,20],[0],rfl,rfl⟩
   ·have h3: ¬0<k:=h3;rw[D2 h3]at hcw;refine .B ?_;refine J.cc Y Y Y Y Y (pk _ _ hng) Y Y ?_;refine .B ?_;refine J.cc Y Y Y Y Y (hdc _ _) Y Y ?_;rw[hcw];refine .B ?_;exact⟨rfl,[0,2,3,10,13,29,30,31,15,20],[0],rfl,rfl⟩
  ·clear hcw;refine .B ?_;refine T.cd Y (λh4=> ?_) (λh4=> ?_)
   ·have h4:cx=[]:=(by simp at h4;exact h4);rw[D4 h4]at he;subst he;refine .B ?_;exact⟨.v Y Y Y (λh=>by cases h) (.v rfl rfl rfl (λh=>by cases h) .nil),_,rfl,rfl⟩
   ·have h4:cx≠[]:=λe=>h4 (by rw[e];rfl);rw[D2 h4]at he;have hset:=il (p:=Fine) (i:=v.toNat) hf1 hfine;cases ch
    ·refine .B ?_;refine J.io Y Y Y Y Y Y Y Y Y hv.1 (by simpa using hvd) Y ?_;refine J.lo Y Y Y Y Y Y (r:=cD dv) hrow Y ?_;refine .B ?_;refine .D (hsame cx (by have:=hfine.len;omega)) ?_;refine J.io Y Y Y Y Y Y Y Y Y hv.1 (by simpa using hvd) Y ?_;refine J.w1 Y Y Y Y Y Y Y Y Y Y Y (λ_=>rfl) hvd ?_;refine .B ?_;rw[ak (l:=vars.length) (by omega) (by omega)];exact T.K (ih (i+1,d1.set v.toNat cx,!decide (cx=dv)) ⟨by simp only;omega,he,by simp[hl1],hset⟩ (by simp only;omega))
    ·refine .B ?_;refine J.io Y Y Y Y Y Y Y Y Y hv.1 (by simpa using hvd) Y ?_;refine J.w1 Y Y Y Y Y Y Y Y Y Y Y (λ_=>rfl) hvd ?_;refine .B ?_;rw[ak (l:=vars.length) (by omega) (by omega)];exact T.K (ih (i+1,d1.set v.toNat cx,true) ⟨by simp only;omega,he,by simp[hl1],hset⟩ (by simp only;omega))
 ·have h1:i=vars.length:=(by simp at h1;omega);subst h1;rw[Ef (by simp;omega),eO]at he;subst he;refine .B ?_;exact⟨.v Y Y Y (λh=>by cases h) (.v rfl rfl rfl (λh=>by cases h) .nil),_,rfl,rfl⟩
def gj (i:Nat):Nat->List (List (Int×Int)×Int)->Int->Int
 |_,[],n=>n
 |k,t::ts,n=>gj i (k+1) ts (if k=i then n else wr (n+(Ct t.1 t.2).1))
def B4 (x:List Int)(k rhs rest:Int):List Int:=x.filter λv=>decide (wr (k*v)<=wr (rhs-rest))
def rX (d:aa)(vars coefs:List Int)(rhs:Int)(i:Nat):List (Int×Int):=cX (B4 (vals (domAt d (vars.getD i 0))) (coefs.getD i 0) rhs (gj i 0 (ac d vars coefs) 0))
def kv (d:aa)(vars coefs:List Int)(rhs:Int):Nat->aa
 |0=>d
 |n+1=>(kv d vars coefs rhs n).set (vars.getD n 0).toNat (rX d vars coefs rhs n)
theorem aL {l:List Int}{i:Nat}(h:i<l.length):l.getD i 0=l[i]:=by simp[D0,D1 h]
def bM:List (Int×Int)->Int->Int->List (Int×Int)->Int×List (Int×Int)
 | [],lo,hi,out=>(lo,out)
 |y::b,lo,hi,out=>if y.2<lo∨hi<y.1 then bM b lo hi out else bM b (wr (y.2+1)) hi (if lo<y.1 then out++[(lo,wr (y.1-1))]else out)
def cE (b:List (Int×Int))(out:List (Int×Int))(x:Int×Int):List (Int×Int):=if(bM b x.1 x.2 out).1<=x.2 then(bM b x.1 x.2 out).2++[((bM b x.1 x.2 out).1,x.2)]else(bM b x.1 x.2 out).2
def d4 (a b:List (Int×Int)):List (Int×Int):=a.foldl (cE b) []
theorem kw (a b:List (Int×Int))(hb:b.length*8<=140737488355328)(hl:(a.length+1)*(b.length+1)*16<=140737488355328):Spec Tryz.prog 142 false [dm a,dm b] [.own 53 2 ((d4 a b).map cR)]:=by
 refine Spec.body Tryz.func142 Y Y Y λw0 Z0=> ?_;have hal:a.length*8<=140737488355328:=by
  have:a.length+1<=(a.length+1)*(b.length+1):=GR _ (by omega);omega
 refine .B ?_;refine T.sub (Rel.own0 (s:=5) 53 2 Y) ?_;refine T.K (T.ind (λs:Nat×List (Int×Int)=>⟨[(1,.val false (dm b)),(5,.ref 0),(10,.val false (dm a)),(11,.val true (.int .i64 (a.map cR).length)),(12,.val true (.int .i64 s.1))],[(0,some (.sl 53 2 true (s.2.map cR)))],1⟩)
  (λs=>s.1<=a.length/\(a.drop s.1).foldl (cE b) s.2=d4 a b/\s.2.length<=s.1*(b.length+1)) (λs=>a.length-s.1) (0,[]) ⟨by simp,rfl,by simp⟩ (λ_ _ h=>h) ?_)
 rintro⟨n,out⟩ ⟨hn,he,hlo⟩ ih;simp only at hn he hlo;dsimp only;refine .B ?_;refine T.cd Y (λh1=> ?_) (λh1=> ?_)
 ·have h1:n<a.length:=(by simpa using h1);rw[DQ h1,Dn]at he;have hmul:(n+1)*(b.length+1)<=(a.length+1)*(b.length+1):=EA _ (by omega);have hmul2:(n+1)*(b.length+1)=n*(b.length+1)+(b.length+1):=(by rw[FM,Nat.one_mul]);have hr:(a.map cR)[((n:Nat):Int).toNat]? =some (cR a[n]):=aO h1;generalize a[n]=x at*;obtain⟨lo0,hi⟩:=x;refine .B ?_;refine .F (r:=cR (lo0,hi)) hr ?_;refine .L ?_;refine .B ?_;refine .X ?_;refine T.K (T.ind (λs:Nat×Int×List (Int×Int)=>⟨[(1,.val false (dm b)),(5,.ref 0),(7,.optr 1 0 0 0),(10,.val false (dm a)),(11,.val true (.int .i64 (a.map cR).length)),(12,.val true (.int .i64 n)),(16,.val false (dm b)),(17,.val true (.int .i64 (b.map cR).length)),(18,.val true (.int .i64 s.1))],[(0,some (.sl 53 2 true (s.2.2.map cR))),(1,some (.box false (cR (s.2.1,hi))))],2⟩)
   (λs=>s.1<=b.length/\bM (b.drop s.1) s.2.1 hi s.2.2=bM b lo0 hi out/\s.2.2.length<=out.length+s.1) (λs=>b.length-s.1) (0,lo0,out) ⟨by simp,rfl,by simp⟩ (λ_ _ h=>h) ?_)
  rintro⟨m,lo,out2⟩ ⟨hm,he2,hlo2⟩ ih2;simp only at hm he2 hlo2;dsimp only;refine .B ?_;refine T.cd Y (λh2=> ?_) (λh2=> ?_)
  ·have h2:m<b.length:=(by simpa using h2);rw[DQ h2,bM]at he2;have hr2:(b.map cR)[((m:Nat):Int).toNat]? =some (cR b[m]):=aO h2;generalize b[m]=y at*;obtain⟨y1,y2⟩:=y;simp only at he2;have skip:(y2<lo∨hi<y1)->bM (b.drop (m+1)) lo hi out2=bM b lo0 hi out:=λh=>(by rw[D4 h]at he2;exact he2);have keep: ¬(y2<lo∨hi<y1)->bM (b.drop (m+1)) (wr (y2+1)) hi (if lo<y1 then out2++[(lo,wr (y1-1))]else out2)=bM b lo0 hi out:=λh=>(by rw[D2 h]at he2;exact he2);refine .B ?_;refine .F (r:=cR (y1,y2)) hr2 ?_;refine .L ?_;refine .B ?_;refine .X ?_;refine J.g Y Y Y (λh3=> ?_) (λh3=> ?_)
   ·have h3:y2<lo:=h3;refine .B ?_;refine T.ct Y ?_;refine .B ?_;rw[ak (l:=b.length) (by omega) (by omega)];exact T.K (ih2 (m+1,lo,out2) ⟨by simp only;omega,skip (.inl h3),by simp only;omega⟩ (by simp only;omega))
   ·have h3: ¬y2<lo:=h3;refine .B ?_;refine T.cd Y (λh4=> ?_) (λh4=> ?_)
    ·have h4:hi<y1:=h4;refine .B ?_;rw[ak (l:=b.length) (by omega) (by omega)];exact T.K (ih2 (m+1,lo,out2) ⟨by simp only;omega,skip (.inr h4),by simp only;omega⟩ (by simp only;omega))
    ·have h4: ¬hi<y1:=h4;have keep:=keep (λh=>h.elim h3 h4);refine .B ?_;refine T.cd Y (λh5=> ?_) (λh5=> ?_)
     ·have h5:lo<y1:=h5;rw[D4 h5]at keep;refine .B ?_;refine .V ?_;refine J.aR Y Y Y Y Y Y Y Y Y Y Y Y Y Y Y Y Y Y Y (a:=lo) (b:=IntKind.i64.wrap (y1-1)) (by omega) ?_;refine .B ?_;refine .X ?_;rw[ak (l:=b.length) (by omega) (by omega)];exact T.K (ih2 (m+1,wr (y2+1),out2++[(lo,wr (y1-1))]) ⟨by simp only;omega,keep,by simp;omega⟩ (by simp only;omega))
     ·have h5: ¬lo<y1:=h5;rw[D2 h5]at keep;refine .B ?_;refine .X ?_;rw[ak (l:=b.length) (by omega) (by omega)];exact T.K (ih2 (m+1,wr (y2+1),out2) ⟨by simp only;omega,keep,by simp only;omega⟩ (by simp only;omega))
  ·have h2:m=b.length:=(by simp at h2;omega);subst h2;rw[EY,bM]at he2;clear ih2;have hmo:cE b out (lo0,hi)=if lo<=hi then out2++[(lo,hi)]else out2:=by
    unfold cE;simp only[<-he2]
   rw[hmo]at he;refine .B ?_;refine T.cd Y (λh5=> ?_) (λh5=> ?_)
   ·have h5:lo<=hi:=h5;rw[D4 h5]at he;refine .B ?_;refine .V ?_;refine J.aR Y Y Y Y Y Y Y Y Y Y Y Y Y Y Y Y Y Y Y (by omega) ?_;refine J.sub (Rel.flat (o:=2) Y sd) ?_;refine .B ?_;rw[ak (l:=a.length) (by omega) (by omega)];exact T.K (ih (n+1,out2++[(lo,hi)]) ⟨by simp only;omega,he,by simp;omega⟩ (by simp only;omega))
   ·have h5: ¬lo<=hi:=h5;rw[D2 h5]at he;refine .B ?_;rw[ak (l:=a.length) (by omega) (by omega)];exact T.K (ih (n+1,out2) ⟨by simp only;omega,he,by simp only;omega⟩ (by simp only;omega))
 ·have h1:n=a.length:=(by simp at h1;omega);subst h1;rw[EY,HG]at he;subst he;refine .B ?_;exact⟨_,.o Y Y Y (λ_=> .inl Y) (by simp) .nil⟩
def c8:Nat->List (List (Int×Int)×Int)->Int->Int->Option (Int×Int)
 |_,[],op,s=>some (op,s)
 |i,t::ts,op,s=>if 1<fM t.1 then(if 0<=op then none else c8 (i+1) ts i s)else c8 (i+1) ts op (wr (s+(endW t.1 t.2 false).1))
def otherW (d:aa)(c:Con):aa×Bool:=
 match c8 0 (ac d c.vars c.coefs) (-1) 0 with
 |none=>(d,true)
 |some (op,s)=>
  if op<0 then(d,decide (s≠c.rhs))else
  if(wr (c.rhs-s)).tmod (coefAt c op.toNat)=0 then
   (d.set (varAt c op.toNat).toNat (d4 (domAt d (varAt c op.toNat)) [(wr ((wr (c.rhs-s)).tdiv (coefAt c op.toNat)),wr ((wr (c.rhs-s)).tdiv (coefAt c op.toNat)))]),
    decide (0<(d4 (domAt d (varAt c op.toNat)) [(wr ((wr (c.rhs-s)).tdiv (coefAt c op.toNat)),wr ((wr (c.rhs-s)).tdiv (coefAt c op.toNat)))]).length))
  else(d,decide (0<(domAt d (varAt c op.toNat)).length))
theorem ku: ∀(ts:List (List (Int×Int)×Int)) (i:Nat) (op s op' s':Int) (n:Nat),op<n->i+ts.length<=n->c8 i ts op s=some (op',s')->op'<n
 | [],i,op,s,op',s',n,h,_,e=>by
  simp only[c8,D6,Prod.mk.injEq]at e;omega
 |t::ts,i,op,s,op',s',n,h,hn,e=>by
  simp only[Dp]at hn;rw[c8]at e;split at e
  ·split at e;·cases e
   ·exact ku ts (i+1) i s op' s' n (by omega) (by omega) e
  ·exact ku ts (i+1) op _ op' s' n h (by omega) e
theorem uf (d:aa)(c:Con)(h:SumFine d c.vars c.coefs)(hsm: ∀x∈d,x.length*64+1048576<=140737488355328):
  SpecM Tryz.prog 200 54 1 (d.map cD) [.agg (cC c)] ((otherW d c).1.map cD) [.bool (otherW d c).2]:=by
 refine SpecM.body Tryz.func200 Y Y Y (by simp[PV.flat]) λw0 v0 Z1=> ?_;obtain⟨hlen,hvl,hvin,hck,hdom,hdl⟩:=h;have hin:=ku (ac d c.vars c.coefs) 0 (-1) 0;generalize hgo:c8 0 (ac d c.vars c.coefs) (-1) 0=go at hin;refine .B ?_;refine T.K (T.ind (λs:Nat×Int×Int=>⟨[(0,.ref 0),(3,.optr 1 0 0 0),(5,.val true (.int .i64 s.2.1)),(6,.val true (.int .i64 s.2.2)),(15,.val false (ao c.vars)),(16,.val true (.int .i64 (c.vars.map cI).length)),(17,.val true (.int .i64 s.1))],[(0,some (.sl 54 1 true (d.map cD))),(1,some (.box false (cC c)))],2⟩)
  (λs=>s.1<=c.vars.length/\c8 s.1 ((ac d c.vars c.coefs).drop s.1) s.2.1 s.2.2=go) (λs=>c.vars.length-s.1) (0,-1,0) ⟨by simp,hgo⟩ (λ_ _ h=>h) ?_)
 rintro⟨i,op,s⟩ ⟨hil,he⟩ ih;simp only at hil he;dsimp only;refine .B ?_;refine T.cd Y (λh1=> ?_) (λh1=> ?_)
 ·have h1:i<c.vars.length:=(by simpa using h1);have h2:i<c.coefs.length:=(by omega);have hv:=hvin _ (D8 h1);have hk:=hck _ (D8 h2);have hx:=hdom _ (ah hv.2);have hrow:(d.map cD)[c.vars[i].toNat]? =some (cD (domAt d c.vars[i])):=(by simp[aq hv.2]);rw[n3 h1 h2,c8]at he;refine .B ?_;refine .F (r:=cI c.vars[i]) (aO h1) ?_;refine J.io Y Y Y Y Y Y Y Y Y hv.1 (by simpa using hv.2) Y ?_;refine J.lo Y Y Y Y Y Y (r:=cD (domAt d c.vars[i])) hrow Y ?_;refine .D (gI (domAt d c.vars[i]) (by have:=hx.len;omega)) ?_;refine T.cd Y (λh3=> ?_) (λh3=> ?_)
  ·have h3:1<fM (domAt d c.vars[i]):=h3;rw[D4 h3]at he;refine .B ?_;refine T.cd Y (λh4=> ?_) (λh4=> ?_)
   ·have h4:0<=op:=h4;rw[D4 h4]at he;subst he;have ho:otherW d c=(d,true):=(by unfold otherW;rw[hgo]);rw[ho];refine .B ?_;exact⟨.v Y Y Y (λh=>by cases h) .nil,_,rfl,rfl⟩
   ·have h4: ¬0<=op:=h4;rw[D2 h4]at he;refine .B ?_;rw[ak (l:=c.vars.length) (by omega) (by omega)];exact T.K (ih (i+1,i,s) ⟨by simp only;omega,he⟩ (by simp only;omega))
  ·have h3: ¬1<fM (domAt d c.vars[i]):=h3;rw[D2 h3]at he;refine .B ?_;refine J.io Y Y Y Y Y Y Y Y Y hv.1 (by simpa using hv.2) Y ?_;refine J.lo Y Y Y Y Y Y (r:=cD (domAt d c.vars[i])) hrow Y ?_;refine .B ?_;refine .F (r:=cI c.coefs[i]) (aO h2) ?_;refine J.cc Y Y Y Y Y (jx _ _ false hx.domB hk) Y Y ?_;refine .B ?_;rw[ak (l:=c.vars.length) (by omega) (by omega)];exact T.K (ih (i+1,op,wr (s+(endW (domAt d c.vars[i]) c.coefs[i] false).1)) ⟨by simp only;omega,he⟩ (by simp only;omega))
 ·have h1:i=c.vars.length:=(by simp at h1;omega);subst h1;rw[p9 hlen,c8]at he;subst he;clear ih;have hop:=hin op s c.vars.length (by omega) (by simp[ac];omega) Y;unfold otherW;rw[hgo];simp only;refine .B ?_;refine T.cd Y (λh3=> ?_) (λh3=> ?_)
  ·have h3:op<0:=h3;rw[D4 h3];refine .B ?_;exact⟨.v Y Y Y (λh=>by cases h) .nil,_,rfl,rfl⟩
  ·have h3: ¬op<0:=h3;rw[D2 h3];obtain⟨j,rfl⟩: ∃j:Nat,op=j:=⟨op.toNat,by omega⟩;rw[DW];have hj:j<c.vars.length:=(by omega);have hv:=hvin _ (aK hj);have hk:=hck _ (show coefAt c j∈c.coefs by unfold coefAt;rw[aL (by omega)];exact D8 _);have hx:=hdom _ (ah hv.2);have hrow:(d.map cD)[(varAt c j).toNat]? =some (cD (domAt d (varAt c j))):=(by simp[aq hv.2]);have hkr:=iH (c:=c) (k:=j) (by omega);have hvr:=eF (c:=c) (k:=j) hj;have hk0:=hk.1;have hln:=hx.len;have hls:=hsm _ (ah hv.2);have hm:=λx=>(kw (domAt d (varAt c j)) [(x,x)] (by simp) (by simp only[EW];omega)).frz;generalize varAt c j=v at*;generalize coefAt c j=k at*;generalize domAt d v=dv at*;refine .B ?_;refine .F (r:=cI v) hvr ?_;refine .F (r:=cI k) hkr ?_;refine J.rm Y Y Y Y Y Y hk0 ?_;refine .B ?_;refine T.cd Y (λh4=> ?_) (λh4=> ?_)
   ·have h4:(wr (c.rhs-s)).tmod k=0:=h4;rw[D4 h4];refine .B ?_;refine J.qu Y Y Y Y Y Y hk0 ?_;refine .B ?_;refine J.io Y Y Y Y Y Y Y Y Y hv.1 (by simpa using hv.2) Y ?_;refine J.lo Y Y Y Y Y Y (r:=cD dv) hrow Y ?_;refine .B ?_;refine .V ?_;refine J.cc Y Y Y Y Y (hm _) Y Y ?_;refine J.io Y Y Y Y Y Y Y Y Y hv.1 (by simpa using hv.2) Y ?_;refine J.w1 Y Y Y Y Y Y Y Y Y Y Y (λ_=>rfl) hv.2 ?_;refine .B ?_;refine J.io Y Y Y Y Y Y Y Y Y hv.1 (by simpa using hv.2) Y ?_;refine J.lo Y Y Y Y Y Y (r:=cD (d4 dv [(wr ((wr (c.rhs-s)).tdiv k),wr ((wr (c.rhs-s)).tdiv k))])) (by rw[DE,E6 hv.2];rfl) Y ?_;refine .B ?_;exact⟨.v Y Y (by simp only[D9];congr 1;simp) (λh=>by cases h) .nil,_,rfl,rfl⟩
   ·have h4: ¬(wr (c.rhs-s)).tmod k=0:=h4;rw[D2 h4];refine .B ?_;refine J.io Y Y Y Y Y Y Y Y Y hv.1 (by simpa using hv.2) Y ?_;refine J.lo Y Y Y Y Y Y (r:=cD dv) hrow Y ?_;refine .B ?_;exact⟨.v Y Y (by simp only[D9];congr 1;simp) (λh=>by cases h) .nil,_,rfl,rfl⟩
theorem m6 (low rhs:Int): ∀(l:List (Int×Int)) (d:aa) (ch:Bool),(∀p∈l,0<=p.1/\p.1.toNat<d.length)->(∀x∈d,Fine x)->(eO low rhs l d ch).1.length=d.length/\∀x∈(eO low rhs l d ch).1,Fine x
 | [],d,ch,_,hf=>⟨rfl,hf⟩
 |(v,k)::l,d,ch,hv,hf=>by
  rw[eO];split;·exact⟨rfl,hf⟩
  ·have hx:=hf _ (ah (hv _ (.head _)).2);obtain⟨h1,h2⟩:=m6 low rhs l (d.set v.toNat (cutW (domAt d v) k (gK low rhs (domAt d v) k))) (ch|| !decide (cutW (domAt d v) k (gK low rhs (domAt d v) k)=domAt d v)) (λp hp=>by rw[E7];exact hv p (.tail _ hp)) (il hf (rn hx k _));exact⟨by rw[h1,E7],h2⟩
theorem SumFine.most {d:aa}{vars coefs:List Int}(h:SumFine d vars coefs)(rhs:Int):SumFine (mostW d vars coefs rhs).1 vars coefs:=by
 obtain⟨h1,h2⟩:=m6 (endsW d vars coefs).1 rhs (vars.zip coefs) d false (λp hp=>h.vin _ (Dv hp).1) h.dom;have h1:(mostW d vars coefs rhs).1.length=d.length:=h1;exact⟨h.len,h.vl,λv hv=>by rw[h1];exact h.vin v hv,h.ck,h2,by rw[h1];exact h.dl⟩
theorem cZ {k:Int}(h:CoefOk k):wr (0-k)= -k/\CoefOk (wr (0-k)):=by
 have:=f4 h;have e:wr (0-k)= -k:=(by rw[wr,af (by omega) (by omega)];omega);refine⟨e,?_⟩;rw[e];unfold CoefOk aG at*;omega
theorem SumFine.back {d:aa}{vars coefs:List Int}(h:SumFine d vars coefs):SumFine d vars (aB coefs):=
 ⟨by simp[aB,h.len],h.vl,h.vin,λk hk=>by
  obtain⟨k0,hk0,rfl⟩:=DF.1 hk;exact(cZ (h.ck _ hk0)).2,h.dom,h.dl⟩
def fe (c:Con)(out:aa):Option aa ⊕ aa:=
 if(mostW out c.vars c.coefs c.rhs).2.2=false then .inl none else
 if c.op=0 then .inl (some (mostW out c.vars c.coefs c.rhs).1)else
 if(mostW (mostW out c.vars c.coefs c.rhs).1 c.vars (aB c.coefs) (wr (0-c.rhs))).2.2=false then .inl none else
 if(mostW out c.vars c.coefs c.rhs).2.1=false/\(mostW (mostW out c.vars c.coefs c.rhs).1 c.vars (aB c.coefs) (wr (0-c.rhs))).2.1=false then .inl (some (mostW (mostW out c.vars c.coefs c.rhs).1 c.vars (aB c.coefs) (wr (0-c.rhs))).1)
 else .inr (mostW (mostW out c.vars c.coefs c.rhs).1 c.vars (aB c.coefs) (wr (0-c.rhs))).1
def LinAns (d:aa)(c:Con)(R:Option aa)(N:Nat):Prop:=
 if []∈d then R=none else if c.op=2 then R=(if(otherW d c).2 then some (otherW d c).1 else none)else cH (fe c) N d=some R
theorem ub (d:aa)(c:Con)(h:SumFine d c.vars c.coefs)(hsm: ∀x∈d,x.length*64+1048576<=140737488355328)(R:Option aa)(N:Nat)(hR:LinAns d c R N):
  Spec Tryz.prog 139 false [aJ d,.agg (cC c)] (aX R):=by
 refine Spec.body Tryz.func139 Y Y Y λw0 Z0=> ?_;have hown:=yR d h.dl (λx hx=>by have:=(h.dom x hx).len;omega);unfold LinAns at hR;refine .B ?_;refine T.scope (λ_ _ h=>h) ?_;refine .B ?_;refine .D hown ?_;by_cases hm: []∈d
 ·rw[D4 hm]at hR;subst hR;rw[D4 hm,DD hm];refine T.ct Y ?_;refine .B ?_;exact⟨_,.ownN Y (.v Y Y Y (λ_=>rfl) .nil)⟩
 ·rw[D2 hm]at hR;rw[D2 hm,DC hm];refine T.cf Y ?_;refine .B ?_;refine T.cd Y (λh1=> ?_) (λh1=> ?_)
  ·have h1:c.op=2:=h1;rw[D4 h1]at hR;refine .B ?_;have ho:=uf d c h hsm;generalize otherW d c=ow at*;obtain⟨d2,b⟩:=ow;refine J.cm Y Y Y Y Y Y Y Y Y ho Y Y Y ?_;refine .B ?_;cases b
   ·subst hR;refine T.ct Y ?_;refine .B ?_;exact⟨_,.ownN Y (.v Y Y Y (λ_=>rfl) .nil)⟩
   ·subst hR;refine T.cf Y ?_;refine .B ?_;exact⟨_,.o Y Y Y (λ_=> .inl Y) (by simp) (.v rfl rfl rfl (λ_=>rfl) .nil)⟩
  ·have h1: ¬c.op=2:=h1;rw[D2 h1]at hR;refine .B ?_;refine .D (lq c.coefs (by have:=h.vl;have:=h.len;omega)) ?_;refine T.K (T.ind (λs:Nat×aa=>⟨[(3,.optr 0 0 0 0),(6,.ref 1),(8,.ref 2)],[(0,some (.box false (cC c))),(1,some (.sl 54 1 true (s.2.map cD))),(2,some (.sl 3 1 true ((aB c.coefs).map cI)))],3⟩)
    (λs=>cH (fe c) s.1 s.2=some R/\SumFine s.2 c.vars c.coefs) (λs=>s.1) (N,d) ⟨hR,h⟩ (λ_ _ h=>h) ?_)
   rintro⟨m,out⟩ ⟨hR,hs⟩ ih;simp only at hR hs;dsimp only;have hm1:=oW out c.vars c.coefs c.rhs hs;have hs1:=hs.most c.rhs;have hm2:=oW (mostW out c.vars c.coefs c.rhs).1 c.vars (aB c.coefs) (wr (0-c.rhs)) hs1.back;have hs2:=hs1.back.most (wr (0-c.rhs));have hs3:SumFine (mostW (mostW out c.vars c.coefs c.rhs).1 c.vars (aB c.coefs) (wr (0-c.rhs))).1 c.vars c.coefs:=⟨hs.len,hs2.vl,hs2.vin,hs.ck,hs2.dom,hs2.dl⟩;have hst:fe c out=fe c out:=rfl
   conv at hst=>rhs;unfold fe
   generalize mostW (mostW out c.vars c.coefs c.rhs).1 c.vars (aB c.coefs) (wr (0-c.rhs))=m2 at*;generalize mostW out c.vars c.coefs c.rhs=m1 at*;obtain⟨d1,ch1,ok1⟩:=m1;obtain⟨d2,ch2,ok2⟩:=m2;simp only at hm1 hm2 hst hs1 hs3;refine .B ?_;refine J.cm Y Y Y Y Y Y Y Y Y hm1 Y Y Y ?_;refine .B ?_;cases ok1
   ·rw[D4 Y]at hst;obtain rfl:=bf hR hst;refine T.ct Y ?_;refine .B ?_;exact⟨_,.ownN Y (.v Y Y Y (λ_=>rfl) .nil)⟩
   ·rw[D2 (by decide)]at hst;refine T.cf Y ?_;refine .B ?_;refine T.cd Y (λh2=> ?_) (λh2=> ?_)
    ·have h2:c.op=0:=h2;rw[D4 h2]at hst;obtain rfl:=bf hR hst;refine .B ?_;exact⟨_,.o Y Y Y (λ_=> .inl Y) (by simp) (.v rfl rfl rfl (λ_=>rfl) .nil)⟩
    ·have h2: ¬c.op=0:=h2;rw[D2 h2]at hst;refine .B ?_;refine J.cm Y Y Y Y Y Y Y Y Y hm2 Y Y Y ?_;refine .B ?_;cases ok2
     ·rw[D4 Y]at hst;obtain rfl:=bf hR hst;refine T.ct Y ?_;refine .B ?_;exact⟨_,.ownN Y (.v Y Y Y (λ_=>rfl) .nil)⟩
     ·rw[D2 (by decide)]at hst;refine T.cf Y ?_;refine .B ?_;cases ch1
      ·cases ch2
       ·rw[D4 ⟨rfl,rfl⟩]at hst;obtain rfl:=bf hR hst;refine .B ?_;refine T.ct Y ?_;refine .B ?_;exact⟨_,.o Y Y Y (λ_=> .inl Y) (by simp) (.v rfl rfl rfl (λ_=>rfl) .nil)⟩
       ·rw[D2 (by simp)]at hst;obtain⟨m',hlt,hR'⟩:=gU hR hst;refine .B ?_;refine T.cf Y ?_;refine .B ?_;exact T.K (ih (m',d2) ⟨hR',hs3⟩ hlt)
      ·rw[D2 (by simp)]at hst;obtain⟨m',hlt,hR'⟩:=gU hR hst;refine .B ?_;refine T.cf Y ?_;refine .B ?_;exact T.K (ih (m',d2) ⟨hR',hs3⟩ hlt)
def hd0 (l:List Int):Int:=l.getD 0 0
def av:Nat->List (List (Int×Int)×Int)->Nat->Int->Nat->Nat×Int×Nat
 |_,[],m,s,a=>(m,s,a)
 |i,t::ts,m,s,a=>if 1<(vals t.1).length then av (i+1) ts (m+1) s i else av (i+1) ts m (wr (s+wr (t.2*hd0 (vals t.1)))) a
def bU (d:aa)(c:Con):aa:=
 let r:=av 0 (ac d c.vars c.coefs) 0 0 0
 if 1<r.1 then d else
 if r.1=0 then(if r.2.1=c.rhs then d.set (varAt c 0).toNat []else d)else
 d.set (varAt c r.2.2).toNat (cX ((vals (domAt d (varAt c r.2.2))).filter λv=>decide (wr (r.2.1+wr (coefAt c r.2.2*v))≠c.rhs)))
theorem cP: ∀(ts:List (List (Int×Int)×Int)) (i m a:Nat) (s:Int) (n:Nat),a<n->i+ts.length<=n->m<=i->(av i ts m s a).2.2<n/\(av i ts m s a).1<=i+ts.length
 | [],i,m,a,s,n,h,_,hm=>by simp[av];omega
 |t::ts,i,m,a,s,n,h,hn,hm=>by
  simp only[Dp]at hn⊢;rw[av];split
  ·have:=cP ts (i+1) (m+1) i s n (by omega) (by omega) (by omega);omega
  ·have:=cP ts (i+1) m a (wr (s+wr (t.2*hd0 (vals t.1)))) n h (by omega) (by omega);omega
def tY (d:aa)(c:Con):aa:=kv d c.vars c.coefs c.rhs c.vars.length
def xF (d:aa)(c:Con):aa:=kv d c.vars (aB c.coefs) (wr (0-c.rhs)) c.vars.length
def xq (c:Con)(out:aa):Option aa ⊕ aa:=
 if c.op=1/\[]∉out then
  (if []∈xF out c then .inl none else if tY (xF out c) c=out then .inl (some out)else .inr (tY (xF out c) c))
 else .inl (if []∈out then none else some out)
def lT (d:aa)(c:Con)(R:Option aa)(N:Nat):Prop:=
 if []∈d then R=none else if c.op=2 then R=(if []∈bU d c then none else some (bU d c))else cH (xq c) N (tY d c)=some R
def soW (es:Int×Int×Bool)(c:Con):Bool:=
 if es.2.2=false then false else
 if c.op=0 then decide (es.2.1<=c.rhs)else
 if c.op=1 then decide (es.1=c.rhs)&&decide (es.2.1=c.rhs)else
 decide (c.rhs<es.1)||decide (es.2.1<c.rhs)
theorem t8 (d:aa)(c:Con)(h:SumIn d c.vars c.coefs):Spec Tryz.prog 230 false [aJ d,.agg (cC c)] [.val (.bool (soW (endsW d c.vars c.coefs) c))]:=by
 refine Spec.body Tryz.func230 Y Y Y λw0 Z0=> ?_;have he:=o4 d c.vars c.coefs h;generalize endsW d c.vars c.coefs=es at*;obtain⟨lo,hi,b⟩:=es;unfold soW;simp only;refine .B ?_;refine .C he ?_;cases b
 ·refine .B ?_;refine T.ct Y ?_;refine .B ?_;exact r1
 ·rw[D2 (by decide)];refine .B ?_;refine T.cf Y ?_;refine .B ?_;refine T.cd Y (λh1=> ?_) (λh1=> ?_)
  ·have h1:c.op=0:=h1;rw[D4 h1];refine .B ?_;exact r1
  ·have h1: ¬c.op=0:=h1;rw[D2 h1];refine .B ?_;refine T.cd Y (λh2=> ?_) (λh2=> ?_)
   ·have h2:c.op=1:=h2;rw[D4 h2];refine .B ?_;refine J.g Y Y Y (λh3=> ?_) (λh3=> ?_)
    ·have h3:lo=c.rhs:=h3;rw[DD h3];refine .B ?_;exact⟨_,.v Y Y (by simp) (λ_=>rfl) .nil⟩
    ·have h3: ¬lo=c.rhs:=h3;rw[DC h3];refine .B ?_;exact r1
   ·have h2: ¬c.op=1:=h2;rw[D2 h2];refine .B ?_;refine J.g Y Y Y (λh3=> ?_) (λh3=> ?_)
    ·have h3:c.rhs<lo:=h3;rw[DD h3];refine .B ?_;exact r1
    ·have h3: ¬c.rhs<lo:=h3;rw[DC h3];refine .B ?_;exact⟨_,.v Y Y (by simp) (λ_=>rfl) .nil⟩
def bP (c:Con):Con:=
 if c.op=0 then { c with coefs:=aB c.coefs,rhs:=wr (wr (0-c.rhs)-1) } else
 if c.op=1 then { c with op:=2 } else
 if c.op=2 then { c with op:=1 } else c
theorem qK (c:Con)(hc:ConB c):Spec Tryz.prog 194 true [.agg (cC c)] [.val (.agg (cC (bP c)))]:=by
 refine Spec.body Tryz.func194 Y Y Y λw0 Z0=> ?_;obtain⟨kind,vars,coefs,op,rhs,rows,b⟩:=c;obtain⟨h1,h2,h3,h4⟩:=hc;simp only at h1 h2 h3 h4;unfold bP;simp only;have hcv:=(dU vars (by omega)).frz;have hcc:=(dU coefs h2).frz;have htc:=(lq coefs h2).frz;refine .B ?_;refine .L ?_;refine .B ?_;refine .D hcv ?_;refine .X ?_;refine T.cd Y (λh5=> ?_) (λh5=> ?_)
 ·have h5:op=0:=h5;rw[D4 h5];refine T.seq ?_;refine T.K (?_:T _ _ ⟨[(1,.optr 0 0 0 0),(2,.optr 1 0 0 0)],[(0,some (.box false (cC ⟨kind,vars,coefs,op,rhs,rows,b⟩))),(1,some (.box true (cC ⟨0,[],[],0,0,[],0⟩)))],2⟩ _);refine T.rdw 11 Y (by kernel_rfl) Y ?_;refine .B ?_;refine .D htc ?_;refine J.wd Y Y Y Y Y Y Y Y Y Y ?_;refine .B ?_;refine J.wd Y Y Y Y Y Y Y Y Y Y ?_;refine J.nil ?_;refine⟨rfl,?_⟩;refine .B ?_;refine .X ?_;exact⟨_,.c Y Y Y Y (λh=>by cases h) .nil⟩
 ·have h5: ¬op=0:=h5;rw[D2 h5];refine .B ?_;refine T.cd Y (λh6=> ?_) (λh6=> ?_)
  ·have h6:op=1:=h6;rw[D4 h6];refine .B ?_;refine .X ?_;refine .D hcc ?_;refine .X ?_;refine .X ?_;exact⟨_,.c Y Y Y Y (λh=>by cases h) .nil⟩
  ·have h6: ¬op=1:=h6;rw[D2 h6];refine .B ?_;refine T.cd Y (λh7=> ?_) (λh7=> ?_)
   ·have h7:op=2:=h7;rw[D4 h7];refine .B ?_;refine .X ?_;refine .D hcc ?_;refine .X ?_;refine .X ?_;exact⟨_,.c Y Y Y Y (λh=>by cases h) .nil⟩
   ·have h7: ¬op=2:=h7;rw[D2 h7];refine .B ?_;refine .D hcc ?_;refine .X ?_;refine .X ?_;exact⟨_,.c Y Y Y Y (λh=>by cases h) .nil⟩
theorem Bq {d:aa}{c:Con}(h:SumIn d c.vars c.coefs):SumIn d (bP c).vars (bP c).coefs:=by
 unfold bP;split
 ·obtain⟨a1,a2,a3,a4,a5,a6⟩:=h;exact⟨by simp[aB,a1],a2,a3,λk hk=>by
   obtain⟨k0,hk0,rfl⟩:=DF.1 hk;exact(cZ (a4 _ hk0)).2,a5,a6⟩
 ·split;·exact h
  ·split<;>exact h
theorem ui (d:aa)(c:Con)(hc:ConB c)(h:SumIn d c.vars c.coefs):Spec Tryz.prog 193 false [aJ d,.agg (cC c)]
  [.val (.bool (soW (endsW d c.vars c.coefs) c)),.val (.bool (soW (endsW d c.vars c.coefs) c||soW (endsW d (bP c).vars (bP c).coefs) (bP c)))]:=by
 refine Spec.body Tryz.func193 Y Y Y λw0 Z0=> ?_;have h1:=t8 d c h;have h2:=t8 d (bP c) (Bq h);have hn:=qK c hc;generalize soW (endsW d c.vars c.coefs) c=b1 at*;generalize soW (endsW d (bP c).vars (bP c).coefs) (bP c)=b2 at*;refine .B ?_;refine .C h1 ?_;cases b1
 ·refine J.nil ?_;refine T.cf Y ?_;refine .B ?_;refine .C hn ?_;refine .D h2 ?_;exact⟨_,.v Y Y Y (λ_=>rfl) (.v Y Y (by simp) (λ_=>rfl) .nil)⟩
 ·refine J.nil ?_;refine T.ct Y ?_;refine .B ?_;exact r2
theorem jb (a b:List (List Int))(hl:a.length*8<=140737488355328)(hx: ∀x∈a,x.length*8<=140737488355328):Spec Tryz.prog 16 false [bT a,bT b] [.val (.bool (decide (a=b)))]:=by
 refine Spec.body Tryz.func16 Y Y Y λw0 Z0=> ?_;refine .B ?_;refine T.cd Y (λh=> ?_) (λh=> ?_)
 ·refine .B ?_;refine⟨_,.v Y Y ?_ (λ_=>rfl) .nil⟩;rw[DC];intro e;subst e;exact h Y
 ·have h:a.length=b.length:=by
   have h: ¬(((a.map cL).length:Int)≠(b.map cL).length):=h;simp at h;omega
  refine .B ?_;refine T.K (T.ind (λi:Nat=>⟨[(0,.val false (bT a)),(1,.val false (bT b)),(5,.val true (.int .i64 i))],[],0⟩) (λi=>i<=a.length/\a.take i=b.take i) (λi=>a.length-i) 0 (by simp) (λ_ _ h=>h) ?_);rintro i ⟨hi,ht⟩ ih;refine .B ?_;refine T.cd Y (λh1=> ?_) (λh1=> ?_)
  ·have h1:i<a.length:=(by simpa using h1);have h2:i<b.length:=(by omega);refine .B ?_;refine .F (r:=cL a[i]) (aO h1) ?_;refine .F (r:=cL b[i]) (aO h2) ?_;refine J.cc Y Y Y Y Y (mi a[i] b[i] (hx _ (D8 h1))) Y Y ?_;refine .B ?_;by_cases e:a[i]=b[i]
   ·rw[DD e];refine T.cf Y ?_;refine .B ?_;rw[ak (l:=a.length) (by omega) (by omega)];exact T.K (ih (i+1) ⟨by omega,l0 ht h1 h2 e⟩ (by omega))
   ·rw[DC e];refine T.ct Y ?_;refine .B ?_;refine⟨_,.v Y Y ?_ (λ_=>rfl) .nil⟩;rw[DC];intro e2;subst e2;exact e Y
  ·have h1:i=a.length:=(by simp at h1;omega);subst h1;refine .B ?_;refine⟨_,.v Y Y ?_ (λ_=>rfl) .nil⟩;rw[E8,h,E8]at ht;rw[DD ht]
theorem q6 (d:aa)(hl:d.length*24<=140737488355328)(hx: ∀x∈d,x.length*16<=140737488355328):Spec Tryz.prog 191 false [aJ d] [.own 54 1 ((if []∈d then []else d).map cD),.val (.bool (!decide ([]∈d)))]:=by
 refine Spec.body Tryz.func191 Y Y Y λw0 Z0=> ?_;refine .B ?_;refine T.sub (Rel.own0 (s:=4) 54 1 Y) ?_;refine T.K (T.listI d (λpre=>[]∉pre) (λn pre post=>⟨[(4,.ref 0),(7,.val false (aJ d)),(8,.val true (.int .i64 (d.map cD).length)),(9,.val true (.int .i64 n))],[(0,some (.sl 54 1 true (pre.map cD)))],1⟩) (λ_ _ h=>h) (by simp) ?_ ?_)
 ·rintro n pre x post h hn hi ih;have hlt:=cg h hn;have hxl:=hx x (by rw[h];simp);refine .B ?_;refine T.ct2 Y (ce h hn) ?_;refine .B ?_;refine .F (r:=cD x) (aS h hn) ?_;refine T.cd Y (λh1=> ?_) (λh1=> ?_)
  ·have hx:x=[]:=(by simp at h1;exact h1);have hm: []∈d:=(by rw[h,hx];simp);rw[D4 hm,DD hm];refine .B ?_;exact⟨_,.ownN Y (.v Y Y Y (λ_=>rfl) .nil)⟩
  ·have hx:x≠[]:=λe=>h1 (by rw[e];rfl);refine .B ?_;refine .D (bR x (by omega)).frz ?_;refine .Z ?_;refine J.aD Y Y Y Y Y Y Y Y Y Y Y Y Y Y Y Y Y Y Y (by omega) ?_;refine .B ?_;rw[ak hlt (by omega)];exact T.K (ih (by simp[hi,Ne.symm hx]))
 ·intro hi;refine .B ?_;refine T.cf2 Y bA ?_;refine .B ?_;exact⟨_,.o Y Y (by rw[D2 hi]) (λ_=> .inl Y) (by simp) (.v rfl rfl (by simp[hi]) (λ_=>rfl) .nil)⟩
theorem mz (d:aa)(v value:Int)(hv:0<=v/\v.toNat<d.length)(hl:((domAt d v).length+1)*16<=140737488355328):
  SpecM Tryz.prog 192 54 1 (d.map cD) [.int .i64 v,.int .i64 value] ((d.set v.toNat (domCut (domAt d v) value value)).map cD) [.bool (!decide (domCut (domAt d v) value value=[]))]:=by
 refine SpecM.body Tryz.func192 Y Y Y (by simp[PV.flat]) λw0 v0 Z1=> ?_;have hrow:(d.map cD)[v.toNat]? =some (cD (domAt d v)):=(by simp[aq hv.2]);have hc:=(gv (domAt d v) value value hl).frz;have hrow2:((d.set v.toNat (domCut (domAt d v) value value)).map cD)[v.toNat]? =some (cD (domCut (domAt d v) value value)):=(by simp[hv.2]);have hb:decide ((((domCut (domAt d v) value value).map cR).length:Int) > 0)= !decide (domCut (domAt d v) value value=[]):=by
  cases domCut (domAt d v) value value<;>simp
 generalize domCut (domAt d v) value value=cx at*;generalize domAt d v=x at*;refine .B ?_;refine J.io Y Y Y Y Y Y Y Y Y hv.1 (by simpa using hv.2) Y ?_;refine J.lo Y Y Y Y Y Y (r:=cD x) hrow Y ?_;refine .B ?_;refine .C hc ?_;refine J.io Y Y Y Y Y Y Y Y Y hv.1 (by simpa using hv.2) Y ?_;refine J.w1 Y Y Y Y Y Y Y Y Y Y Y (λ_=>rfl) hv.2 ?_;refine .B ?_;refine J.io Y Y Y Y Y Y Y Y Y hv.1 (by simpa using hv.2) Y ?_;refine J.lo Y Y Y Y Y Y (r:=cD cx) hrow2 Y ?_;refine .B ?_;exact⟨.v Y Y (by rw[<-hb]) (λh=>by cases h) .nil,_,rfl,rfl⟩
def dD (k:Int):Int:=wr ((wr (k+1)).tdiv 2)
theorem ul (k:Int):Spec Tryz.prog 195 false [.int .i64 k] [.val (.int .i64 (dD k))]:=by
 refine Spec.body Tryz.func195 Y Y Y λw0 Z0=> ?_;refine .B ?_;exact r1
theorem y7 (r:Int×Int)(v:Int):Spec Tryz.prog 83 false [.agg (cR r),.ptr [.int .i64 v]] [.val (.bool (decide (r.1<=v)&&decide (v<=r.2)))]:=by
 refine Spec.body Tryz.func83 Y Y Y λw0 Z0=> ?_;refine .B ?_;refine J.g Y Y Y (λh=> ?_) (λh=> ?_)
 ·have h:r.1<=v:=(by simpa using h);rw[DD h];refine .B ?_;exact r1
 ·have h: ¬r.1<=v:=(by simpa using h);rw[DC h];refine .B ?_;exact r1
theorem BK {α:Type}{p:α->Bool}{d pre post:List α}{x:α}{n:Nat}(h:d=pre++x::post)(hn:n=pre.length)(hi: ∀r∈pre,p r=false)(hx:p x=true):(if d.any p then(d.findIdx p:Int)else -1)=n:=by
 subst h hn;have h1:(pre++x::post).any p=true:=(by simp[hx]);rw[D4 h1,List.findIdx_append];have h2:pre.findIdx p=pre.length:=List.findIdx_eq_length.2 hi;rw[h2,D2 (by omega),List.findIdx_cons,hx];simp
theorem wJ (f:FuncId)(caps:List PV)(p:Int×Int->Bool)(d:List (Int×Int))(hl:d.length*16<=140737488355328)(hf: ∀r,Spec Tryz.prog f false (.agg (cR r)::caps) [.val (.bool (p r))]):
  Spec Tryz.prog 122 false [dm d,.fn (.func f) [] caps] [.val (.int .i64 (if d.any p then d.findIdx p else -1))]:=by
 refine Spec.body Tryz.func122 Y Y Y λw0 Z0=> ?_;refine .B ?_;refine T.K (T.listI d (λpre=> ∀r∈pre,p r=false) (λn pre post=>⟨[(0,.val false (dm d)),(1,.val false (.fn (.func f) [] caps)),(6,.val false (dm d)),(7,.val true (.int .i64 (d.map cR).length)),(8,.val true (.int .i64 n))],[],0⟩) (λ_ _ h=>h) (by simp) ?_ ?_)
 ·rintro n pre x post h hn hi ih;have hlt:=cg h hn;have hfx:=hf x;refine .B ?_;refine T.ct2 Y (ce h hn) ?_;refine .B ?_;refine .F (r:=cR x) (aS h hn) ?_;refine .D hfx ?_;cases hp:p x
  ·refine T.cf Y ?_;refine .B ?_;rw[ak hlt (by omega)];exact T.K (ih (λr hr=>by
    rcases DT.1 hr with h|h;·exact hi r h
    ·simp at h;subst h;exact hp))
  ·refine T.ct Y ?_;refine .B ?_;exact⟨_,.v Y Y (by rw[BK h hn hi hp]) (λ_=>rfl) .nil⟩
 ·intro hi;refine .B ?_;refine T.cf2 Y bA ?_;refine .B ?_;exact⟨_,.v Y Y (by rw[D2 (by simpa using hi)]) (λ_=>rfl) .nil⟩
def hasV (d:List (Int×Int))(v:Int):Bool:=d.any λr=>decide (r.1<=v)&&decide (v<=r.2)
theorem pP (f:FuncId)(caps:List PV)(p:Int×Int->Bool)(d:List (Int×Int))(hl:d.length*16<=140737488355328)(hf: ∀r,Spec Tryz.prog f false (.agg (cR r)::caps) [.val (.bool (p r))]):
  Spec Tryz.prog 82 false [dm d,.fn (.func f) [] caps] [.val (.bool (d.any p))]:=by
 refine Spec.body Tryz.func82 Y Y Y λw0 Z0=> ?_;refine .B ?_;refine .D (wJ f caps p d hl hf) ?_;refine⟨_,.v Y Y ?_ (λ_=>rfl) .nil⟩;cases d.any p;·rfl
 ·show PV.bool (decide ((d.findIdx p:Int)>=0))=_;rw[DD (by omega)]
theorem jJ (d:List (Int×Int))(v:Int)(hl:d.length*16<=140737488355328):Spec Tryz.prog 55 false [dm d,.int .i64 v] [.val (.bool (hasV d v))]:=by
 refine Spec.body Tryz.func55 Y Y Y λw0 Z0=> ?_;refine .B ?_;refine J.sub (Rel.unbx (s:=3) (λ_ h=>h) Y Y) ?_;refine J.sub (Rel.fp (s:=3) Y) ?_;refine .B ?_;refine J.cc Y Y Y Y Y (pP _ _ _ d hl λr=>y7 r v) Y Y ?_;refine .B ?_;exact r1
def dE (d:aa)(b v:Int):Option aa:=if domCut (domAt d b) v v=[]then none else some (d.set b.toNat (domCut (domAt d b) v v))
def bN (c:Con):Con:=⟨0,c.vars,c.coefs,c.op,c.rhs,[],0⟩
def yesW (d:aa)(c:Con):Bool:=soW (endsW d c.vars c.coefs) (bN c)
def noW (d:aa)(c:Con):Bool:=soW (endsW d (bP (bN c)).vars (bP (bN c)).coefs) (bP (bN c))
def tz (d:aa)(c:Con)(RS RN:Option aa):Option aa:=
 if []∈d then none else
 if yesW d c then dE d c.b 1 else
 if noW d c then dE d c.b 0 else
 if hasV (domAt d c.b) 0=false then RS else
 if hasV (domAt d c.b) 1=false then RN else some d
theorem wA (d:aa)(c:Con)(h:SumIn d c.vars c.coefs)(hcb:ConB (bN c))(hb:0<=c.b/\c.b.toNat<d.length)(hx: ∀x∈d,(x.length+1)*16<=140737488355328)(RS RN:Option aa)
  (h1: []∉d->yesW d c=false->noW d c=false->hasV (domAt d c.b) 0=false->Spec Tryz.prog 139 false [aJ d,.agg (cC (bN c))] (aX RS)) (h2: []∉d->yesW d c=false->noW d c=false->hasV (domAt d c.b) 0=true->hasV (domAt d c.b) 1=false->Spec Tryz.prog 139 false [aJ d,.agg (cC (bP (bN c)))] (aX RN)):
  Spec Tryz.prog 136 false [aJ d,.agg (cC c)] (aX (tz d c RS RN)):=by
 refine Spec.body Tryz.func136 Y Y Y λw0 Z0=> ?_;have hown:=q6 d h.dl (λx hm=>by have:=hx x hm;omega);have hkn:Spec Tryz.prog 193 false [aJ d,.agg (cC (bN c))] [.val (.bool (yesW d c)),.val (.bool (yesW d c||noW d c))]:=ui d (bN c) hcb h;have hnot:=qK (bN c) hcb;have hrow:(d.map cD)[c.b.toNat]? =some (cD (domAt d c.b)):=(by simp[aq hb.2]);have hxb:=hx _ (ah hb.2);have hh0:=jJ (domAt d c.b) 0 (by omega);have hh1:=jJ (domAt d c.b) 1 (by omega);have hk0:=mz d c.b 0 hb hxb;have hk1:=mz d c.b 1 hb hxb;unfold tz;unfold dE;generalize yesW d c=y at*;generalize noW d c=z at*;refine .B ?_;refine .D hown ?_;by_cases hm: []∈d
 ·rw[D4 hm,D4 hm,DD hm];refine T.ct Y ?_;refine .B ?_;exact⟨_,.ownN Y (.v Y Y Y (λ_=>rfl) .nil)⟩
 ·rw[D2 hm,D2 hm,DC hm];have h1:=h1 hm;have h2:=h2 hm;refine T.cf Y ?_;refine .B ?_;refine .L ?_;refine .X ?_;refine J.mf Y Y Y Y Y Y Y ?_;refine .B ?_;refine .D hkn ?_;cases y
  ·rw[D2 (by decide)];cases z
   ·rw[D2 (by decide)];refine .B ?_;refine T.cf Y ?_;refine .B ?_;refine T.cf Y ?_;refine .B ?_;refine J.i Y Y Y Y Y Y Y Y Y (r:=cD (domAt d c.b)) hb.1 hrow Y ?_;refine .B ?_;refine .C hh0 ?_;generalize hasV (domAt d c.b) 0=e0 at*;cases e0
    ·rw[D4 Y];refine .B ?_;refine T.ct Y ?_;refine .B ?_;refine .D (h1 Y Y Y) ?_;exact⟨_,.o Y Y Y (λ_=> .inl Y) (by simp) (.v rfl rfl rfl (λ_=>rfl) .nil)⟩
    ·rw[D2 (by decide)];refine .B ?_;refine T.cf Y ?_;refine .B ?_;refine J.i Y Y Y Y Y Y Y Y Y (r:=cD (domAt d c.b)) hb.1 hrow Y ?_;refine .B ?_;refine .C hh1 ?_;generalize hasV (domAt d c.b) 1=e1 at*;cases e1
     ·rw[D4 Y];refine .B ?_;refine T.ct Y ?_;refine .B ?_;refine .D hnot ?_;refine .D (h2 Y Y Y Y) ?_;exact⟨_,.o Y Y Y (λ_=> .inl Y) (by simp) (.v rfl rfl rfl (λ_=>rfl) .nil)⟩
     ·rw[D2 (by decide)];refine .B ?_;refine T.cf Y ?_;refine .B ?_;refine T.cf Y ?_;refine .B ?_;exact⟨_,.o Y Y Y (λ_=> .inl Y) (by simp) (.v rfl rfl rfl (λ_=>rfl) .nil)⟩
   ·rw[D4 Y];refine .B ?_;refine T.cf Y ?_;refine .B ?_;refine T.ct Y ?_;refine .B ?_;refine J.cmf Y Y Y Y Y Y Y hk0 Y Y Y ?_;refine .B ?_;by_cases hk:domCut (domAt d c.b) 0 0=[]
    ·rw[D4 hk,DD hk];refine T.ct Y ?_;refine .B ?_;exact⟨_,.ownN Y (.v Y Y Y (λ_=>rfl) .nil)⟩
    ·rw[D2 hk,DC hk];refine T.cf Y ?_;refine .B ?_;exact⟨_,.o Y Y Y (λ_=> .inl Y) (by simp) (.v rfl rfl rfl (λ_=>rfl) .nil)⟩
  ·rw[D4 Y];refine .B ?_;refine T.ct Y ?_;refine .B ?_;refine J.cmf Y Y Y Y Y Y Y hk1 Y Y Y ?_;refine .B ?_;by_cases hk:domCut (domAt d c.b) 1 1=[]
   ·rw[D4 hk,DD hk];refine T.ct Y ?_;refine .B ?_;exact⟨_,.ownN Y (.v Y Y Y (λ_=>rfl) .nil)⟩
   ·rw[D2 hk,DC hk];refine T.cf Y ?_;refine .B ?_;exact⟨_,.o Y Y Y (λ_=> .inl Y) (by simp) (.v rfl rfl rfl (λ_=>rfl) .nil)⟩
def mP (d:aa):Option aa:=if []∈d then none else some d
def eC (n:Nat)(us t:List Int)(k:Nat):List Int:=((us.zip t).take k).foldl (λa p=>a.set p.1.toNat p.2) (List.replicate n 0)
def fU (P:List Int->Bool)(m:Nat)(all:List (List Int)):List (List Int):=(List.range m).map λk=>(all.filter P).map (·.getD k 0)
def putsW (d:aa)(us:List Int)(ks:List (List Int))(k:Nat):aa:=((us.zip ks).take k).foldl (λo p=>o.set p.1.toNat (cX (aW p.2))) d
def lC (d:aa)(us:List Int)(P:List Int->Bool):Option aa:=
 if []∈d then none else mP (putsW d us (fU P us.length (bq (us.map (domAt d)) us.length)) us.length)
theorem zd (n:Nat)(us t:List Int)(k:Nat):(eC n us t k).length=n:=by
 unfold eC;generalize (us.zip t).take k=l;have: ∀(l:List (Int×Int)) (a:List Int),(l.foldl (λa p=>a.set p.1.toNat p.2) a).length=a.length:=by
  intro l
  induction l with
  |nil=>simp
  |cons p l ih=>intro a;rw[Dn,ih];simp
 rw[this];simp
theorem yx (d:aa)(us:List Int)(ks:List (List Int))(k:Nat):(putsW d us ks k).length=d.length:=by
 unfold putsW;generalize (us.zip ks).take k=l;have: ∀(l:List (Int×List Int)) (a:aa),(l.foldl (λo p=>o.set p.1.toNat (cX (aW p.2))) a).length=a.length:=by
  intro l
  induction l with
  |nil=>simp
  |cons p l ih=>intro a;rw[Dn,ih];simp
 rw[this]
theorem yv {α:Type}{m k:Nat}(f:Nat->α)(x:α):((List.range m).map f).set k x=(List.range m).map λj=>if j=k then x else f j:=by
 apply Ej;intro i;rw[EK,DE,DE];by_cases hi:i<m
 ·have hr:(List.range m)[i]? =some i:=(by simp[hi]);rw[hr];by_cases e:k=i
  ·subst e;rw[D4 Y,D4 (by simpa using hi)];simp
  ·rw[D2 e];simp only[EG];rw[D2 (Ne.symm e)]
 ·have hr:(List.range m)[i]? =none:=(by simp;omega);rw[hr];by_cases e:k=i
  ·subst e;rw[D4 Y,D2 (by simpa using hi)];rfl
  ·rw[D2 e];rfl
abbrev xi:=List (Value×List (List PV))
theorem vg: ∀(l:List Int) (room:Int),eD room l=false->(∀k∈l,aG k<=4398046511104)/\(0<=room->aj l<=room)
 | [],room,h=>by simp[aj]
 |x::l,room,h=>by
  rw[eD]at h;split at h;·cases h
  ·rename_i h1;split at h;·cases h
   ·rename_i h2;obtain⟨h3,h4⟩:=vg l _ h;have e:aj (x::l)=aG x*1048576+aj l:=(by simp[aj]);have e2:max x (-x)=aG x:=rfl;rw[e2]at h2 h4;refine⟨λk hk=> ?_,λh0=> ?_⟩
    ·rcases DO.1 hk with rfl|hk;·unfold aG;omega
     ·exact h3 k hk
    ·rw[e];have:=h4 (by omega);omega
structure SumOk (d:aa)(c:Con):Prop where
 fine:SumFine d c.vars c.coefs
 nod:c.vars.Nodup
 pos:0<c.vars.length
 op:0<=c.op/\c.op<=2
 big:aj c.coefs<=4611686018427388928/\aG c.rhs<=4611686018427388928
theorem pF {c:Con}(h:ei c.coefs c.rhs=false):(∀k∈c.coefs,aG k<=4398046511104)/\aj c.coefs+aG c.rhs<=4611686018427387904:=by
 unfold ei at h;split at h;·cases h
 ·rename_i h1;obtain⟨h2,h3⟩:=vg _ _ h;have e:max c.rhs (-c.rhs)=aG c.rhs:=rfl;rw[e]at h3;refine⟨h2,?_⟩;have:aG c.rhs<=4611686018427387904:=(by unfold aG;omega);have:=h3 (by omega);omega
theorem jK {d:aa}{c:Con}(h:conR d c=0):ei c.coefs c.rhs=false:=by
 unfold conR at h;cases hb:ei c.coefs c.rhs with
 |false=>rfl
 |true=>
  rw[hb]at h;split at h;·cases h
  ·split at h;·cases h
   ·split at h<;>cases h
theorem aV: ∀l:List Int,0<=aj l
 | []=>by simp[aj]
 |k::l=>by
  have:=aV l;have:=bE k;have e:aj (k::l)=aG k*1048576+aj l:=(by simp[aj]);omega
theorem rM {d:aa}{c:Con}(hc:ConB c)(h:conR d c=0)(hk:c.kind=0)(hf: ∀x∈d,Fine x)(hdl:d.length*24<=140737488355328):SumOk d c:=by
 obtain⟨hv,hr⟩:=sC hc h;obtain⟨h1,h2⟩:=pF (jK h);have hra:=bE c.rhs;have hwk:=aV c.coefs;unfold rightR at hr;rw[D4 hk]at hr;simp only[sumR,opR,DJ,DN,ER,decide_eq_false_iff_not]at hr;obtain⟨⟨⟨_,⟨⟨h4,h5⟩,h6⟩,h7⟩,h8⟩,_⟩:=hr;exact⟨⟨h6,hv.1,hv.2,λk hk=>⟨λe=>h7 (e▸hk),h1 k hk⟩,hf,hdl⟩,h4,h5,h8,by omega⟩
theorem di {d:aa}{vars coefs:List Int}(h:SumFine d vars coefs):gw (ac d vars coefs):=by
 intro t ht;obtain⟨p,hp,rfl⟩:=DF.1 ht;obtain⟨h1,h2⟩:=Dv hp;exact⟨h.dom _ (ah (h.vin _ h1).2),h.ck _ h2⟩
theorem cA {d:aa}{vars coefs:List Int}(h:vars.length=coefs.length):aZ (ac d vars coefs)=aj coefs:=by
 unfold aZ ac;rw[F3];congr 1;have:((λx:List (Int×Int)×Int=>x.2)∘λp:Int×Int=>(domAt d p.1,p.2))=λp:Int×Int=>p.2:=rfl;rw[this,List.map_snd_zip];omega
theorem dh: ∀(l:List Int),(∀k∈l,CoefOk k)->aj (aB l)=aj l
 | [],_=>rfl
 |k::l,h=>by
  have e:=(cZ (h k (.head _))).1;have ih:=dh l λk hk=>h k (.tail _ hk);have e1:aj (k::l)=aG k*1048576+aj l:=(by simp[aj]);have e2:aj (aB (k::l))=aG (wr (0-k))*1048576+aj (aB l):=(by simp[aj,aB]);rw[e1,e2,ih,e];unfold aG;omega
theorem rc {a b v:Int}(hb:0<b)(h1: -9223372036854775000<=a)(h2:a<=9223372036854775000):(v<=gD a b↔b*v<=a)/\-9223372036854775002<=gD a b/\gD a b<=9223372036854775002:=by
 have e:=Int.mul_tdiv_add_tmod a b;have r1:=Int.tmod_lt_of_pos a hb;have r2:=Int.lt_tmod_of_pos a hb;have hq: -9223372036854775000<=a.tdiv b/\a.tdiv b<=9223372036854775000:=by
  have:=Gu a b;omega
 unfold gD;generalize a.tdiv b=q at*;generalize a.tmod b=r at*;have key: ∀w:Int,v<=w->b*v<=b*w:=λw h=>EM h (by omega);have key2: ∀w:Int,w<=v->b*w<=b*v:=λw h=>EM h (by omega);by_cases hr:r<0
 ·rw[D4 hr];simp only[wr];rw[af (n:=q) (by omega) (by omega),af (n:=q-1) (by omega) (by omega)];refine⟨⟨λh=> ?_,λh=> ?_⟩,by omega,by omega⟩
  ·have:=key _ h;rw[Int.mul_sub,Int.mul_one]at this;omega
  ·by_cases hv:v<=q-1;·exact hv
   ·have:=key2 q (by omega);omega
 ·rw[D2 hr];simp only[wr];rw[af (n:=q) (by omega) (by omega)];refine⟨⟨λh=> ?_,λh=> ?_⟩,by omega,by omega⟩
  ·have:=key _ h;omega
  ·by_cases hv:v<=q;·exact hv
   ·have:=key2 (q+1) (by omega);rw[Int.mul_add,Int.mul_one]at this;omega
def zm (x:List (Int×Int))(k rest:Int):List (Int×Int):=cX ((vals x).filter λv=>decide (k*v<=rest))
theorem xY {x:List (Int×Int)}(h:aA x)(k rest:Int):aA (zm x k rest)/\∀v,v∈vals (zm x k rest)↔v∈vals x/\k*v<=rest:=by
 have hu:=fJ (p:=λv=>decide (k*v<=rest)) (aF h);refine⟨gp hu,λv=> ?_⟩;unfold zm;rw[bJ hu,EH];simp
theorem BM {x:List (Int×Int)}{k rest:Int}(h:Fine x)(hk:CoefOk k)(h1: -9223372036854775000<=rest)(h2:rest<=9223372036854775000):cutW x k rest=zm x k rest:=by
 have hc:=f4 hk;obtain⟨p1,p2⟩:=xY h.ok k rest;have q1:=(sB h.ok k rest).1;refine iC q1 p1 (dG (aF q1) (aF p1) λv=> ?_);rw[p2];unfold cutW;by_cases hp:0<k
 ·rw[D4 hp,(bQ h.ok _ _).2,(rc hp h1 h2).1];constructor;·rintro⟨a,_,b⟩;exact⟨a,b⟩
  ·rintro⟨a,b⟩;exact⟨a,(h.val v a).1,b⟩
 ·rw[D2 hp];have hn:0< -k:=(by have:=hk.1;omega);rw[(cZ hk).1,(bQ h.ok _ _).2];obtain⟨f1,f2,f3⟩:=rc (v:= -v) hn h1 h2;rw[Int.neg_mul_neg]at f1;simp only[wr];rw[af (by omega) (by omega),<-f1];constructor;·rintro⟨a,b,_⟩;exact⟨a,by omega⟩
  ·rintro⟨a,b⟩;exact⟨a,by omega,(h.val v a).2⟩
end Go.Proofs.YtopcjbahjjhdmaaGreat
