/- The texts PuC, LiA, FnR, FnS, FuE, FuF, FuG, FuH, FuI, PuM, FvR, PuQ, PuR, FnP, FnQ, FgH, FgK, FnT, FnU, FnV, FnW, FnX, FnY, FnZ, FgA, FgB, FgL, LiB, LiC, LiD of the workplace, joined. -/
import Derived.Test.YtopcjbahjjhdmaaGreatB5
import Derived.Lib.Mul64
import Derived.Sort.OwnSortedInts
namespace Go.Proofs.YtopcjbahjjhdmaaGreat
open Go Go.RowKit
set_option linter.unusedVariables false
theorem x5 {α β:Type}{step:α->β ⊕ α}(Inv:α->Prop)(μ:α->Nat)(h: ∀x y,Inv x->step x= .inr y->Inv y/\μ y<μ x): ∀x,Inv x->∃N R,cE step N x=some R:=by
 have key: ∀n x,μ x=n->Inv x->∃N R,cE step N x=some R:=by
  intro n
  induction n using Nat.strongRecOn with
  |_ n ih=>
   intro x hx hi;cases e:step x with
   |inl b=>exact⟨1,b,by simp[cE,e]⟩
   |inr y=>
    obtain⟨h1,h2⟩:=h x y hi e;obtain⟨N,R,hR⟩:=ih (μ y) (hx▸h2) y Y h1;exact⟨N+1,R,by simp[cE,e,hR]⟩
 exact λx hi=>key _ x Y hi
theorem po {α β:Type}{step:α->β ⊕ α}(Inv:α->Prop)(h: ∀x y,Inv x->step x= .inr y->Inv y): ∀(N:Nat) (x:α) (R:β),Inv x->cE step N x=some R->∃z,Inv z/\step z= .inl R
 |0,x,R,_,e=>by cases e
 |n+1,x,R,hi,e=>by
  cases hs:step x with
  |inl b=>simp only[cE,hs,D6]at e;exact⟨x,hi,by rw[hs,e]⟩
  |inr y=>simp only[cE,hs]at e;exact po Inv h n y R (h x y hi hs) e
def weight (d:aa):Nat:=(d.map λx=>(vals x).length).sum
theorem gX: ∀{d:aa} {i:Nat} {y:List (Int×Int)} (x:List (Int×Int)),d[i]? =some y->weight (d.set i x)+(vals y).length=weight d+(vals x).length
 | [],i,y,x,h=>by simp at h
 |z::d,0,y,x,h=>by
  simp at h;subst h;simp only[GY,weight,DZ,Ej];omega
 |z::d,i+1,y,x,h=>by
  have:=gX (d:=d) (i:=i) x (by simpa using h);simp only[List.set_cons_succ,weight,DZ,Ej]at this⊢;omega
theorem v7 {d d':List (Int×Int)}(h:ay d)(h':ay d')(hs: ∀v∈vals d',v∈vals d):(vals d').length<=(vals d).length/\(d'≠d->(vals d').length<(vals d).length):=by
 have hle:=bV (aE h') hs;refine⟨hle,λhne=>Nat.lt_of_le_of_ne hle λe=>hne ?_⟩;refine iE h' h (dD (aE h') (aE h) λv=>⟨hs v,λhv=> ?_⟩);refine EB λhn=> ?_;have h1:(v::vals d').Nodup:=EN.2 ⟨hn,dy (aE h')⟩;have h2:(v::vals d').length<=(vals d).length:=h1.length_le_of_subset λw hw=>by
  rcases DQ.1 hw with rfl|hw;·exact hv
  ·exact hs w hw
 simp at h2;omega
structure Cutd (d out:aa):Prop where
 len:out.length=d.length
 fine: ∀x∈out,Fine x
 ne: ∀x∈out,x≠[]
 sub: ∀(i:Nat) x y,out[i]? =some x->d[i]? =some y->∀v∈vals x,v∈vals y
theorem Cutd.set {d out:aa}(h:Cutd d out){i:Nat}{x y:List (Int×Int)}(hy:out[i]? =some y)(hx:ay x)(hne:x≠[])(hs: ∀v∈vals x,v∈vals y):Cutd d (out.set i x):=by
 have hym:=D7 hy;refine⟨by simp[h.len],λz hz=> ?_,λz hz=> ?_,λj z w hz hw v hv=> ?_⟩
 ·rcases DV hz with hz|rfl;·exact h.fine z hz
  ·exact(h.fine y hym).cut hx hs
 ·rcases DV hz with hz|rfl;·exact h.ne z hz
  ·exact hne
 ·by_cases e:i=j
  ·subst e;have hlt:=(D5.1 hy).1;rw[EJ hlt]at hz;obtain rfl:=D4 hz;exact h.sub i y w hy hw v (hs v hv)
  ·rw[E4 e]at hz;exact h.sub j z w hz hw v hv
theorem yB {c:Con}{d out next:aa}(hv:cK out c)(h:Cutd d out)(hs:dH c out= .inr next):Cutd d next/\cK next c/\weight next<weight out:=by
 have hh:=jG c;unfold dH at hs;split at hs;·cases hs
 ·rename_i hk;have hkl:placeO out c<halfOf c:=(by have:=mj (dT out c) (halfOf c);unfold placeO at hk⊢;omega);have hp:dT out c (placeO out c)=false:=m8 hkl;have hv1:=hv.2 _ (aJ (c:=c) (k:=placeO out c) (by omega));have hv2:=hv.2 _ (aJ (c:=c) (k:=halfOf c+placeO out c) (by omega));have hab:varAt c (placeO out c)≠varAt c (halfOf c+placeO out c):=λe=>(by rw[dT,e]at hp;simp[gA]at hp);simp only at hs;generalize varAt c (placeO out c)=a at*;generalize varAt c (halfOf c+placeO out c)=b at*;have ha:=ak hv1.2;have hb:=ak hv2.2;have fa:=h.fine _ (af hv1.2);have fb:=h.fine _ (af hv2.2);generalize domAt out a=da at*;generalize domAt out b=db at*;obtain⟨x1,x2⟩:=bQ fa.ok (-1048576) (aM db);obtain⟨y1,y2⟩:=bQ fb.ok (ax da) 1048576;generalize domCut da (-1048576) (aM db)=x at*;generalize domCut db (ax da) 1048576=y at*;split at hs;·cases hs
  ·rename_i hne;split at hs;·cases hs
   ·rename_i hns;obtain rfl:=Sum.inr.inj hs;have hsx: ∀v∈vals x,v∈vals da:=λv hv=>((x2 v).1 hv).1;have hsy: ∀v∈vals y,v∈vals db:=λv hv=>((y2 v).1 hv).1;have hne':a.toNat≠b.toNat:=(by omega);have hb':(out.set a.toNat x)[b.toNat]? =some db:=(by rw[E4 hne'];exact hb);refine⟨(h.set ha x1 (λe=>hne (.inl e)) hsx).set hb' y1 (λe=>hne (.inr e)) hsy,(hv.set _ _).set _ _,?_⟩;have w1:=gX x ha;have w2:=gX y hb';have l1:=v7 fa.ok x1 hsx;have l2:=v7 fb.ok y1 hsy;by_cases e1:x=da
    ·have e2:y≠db:=λe=>hns ⟨e1,e⟩;have:=l2.2 e2;subst e1;omega
    ·have:=l1.2 e1;omega
theorem qC {c:Con}{d:aa}(hv:cK d c)(hf: ∀x∈d,Fine x): ∃R N,(if []∈d then R=none else cE (dH c) N d=some R)/\(∀out,R=some out->Cutd d out/\dH c out= .inl (some out)):=by
 by_cases he: []∈d;·exact⟨none,0,by rw[D3 he],λout h=>by cases h⟩
 ·have h0:Cutd d d:=⟨rfl,hf,λx hx e=>he (e▸hx),λi x y hx hy v hv=>by rw[hx]at hy;exact D4 hy▸hv⟩;have hst: ∀x y,(Cutd d x/\cK x c)->dH c x= .inr y->(Cutd d y/\cK y c)/\weight y<weight x:=λx y hi hs=>by
   have:=yB hi.2 hi.1 hs;exact⟨⟨this.1,this.2.1⟩,this.2.2⟩
  obtain⟨N,R,hR⟩:=x5 (step:=dH c) (λx=>Cutd d x/\cK x c) weight hst d ⟨h0,hv⟩;refine⟨R,N,by rw[D2 he];exact hR,λout h=> ?_⟩;obtain⟨z,hz,hs⟩:=po (λx=>Cutd d x/\cK x c) (λx y hi hs=>(hst x y hi hs).1) N d R ⟨h0,hv⟩ hR;have:z=out:=by
   subst h;unfold dH at hs;split at hs;·simpa using hs
   ·simp only at hs;split at hs;·simp at hs
    ·split at hs;·simpa using hs
     ·cases hs
  subst this;rw[h]at hs;exact⟨hz.1,hs⟩
set_option linter.unusedSimpArgs false
abbrev wr (n:Int):Int:=IntKind.i64.wrap n
def smallI (n:Int):Bool:=decide (-4611686018427387904<=n)&&decide (n<=4611686018427387904)
def mulI (a b:Int):Int×Bool:=if smallI a&&smallI b&&smallI (a*b)then(a*b,true)else(0,false)
def endW (d:List (Int×Int))(k:Int)(high:Bool):Int×Bool:=((mulI k (if decide (0<k)==high then aM d else ax d)).1,!d.isEmpty&&(mulI k (if decide (0<k)==high then aM d else ax d)).2)
def kE:List (List (Int×Int)×Int)->Int->Int->Int×Int×Bool
 | [],lo,hi=>(lo,hi,true)
 |(x,k)::ts,lo,hi=>if(endW x k false).2 then kE ts (wr (lo+(endW x k false).1)) (wr (hi+(endW x k true).1))else(0,0,false)
def ab (d:aa)(vars coefs:List Int):List (List (Int×Int)×Int):=(vars.zip coefs).map λp=>(domAt d p.1,p.2)
def endsW (d:aa)(vars coefs:List Int):Int×Int×Bool:=kE (ab d vars coefs) 0 0
def CD (d:List (Int×Int))(k:Int):Int×Int×Bool:=(min (wr (k*(pH d).1)) (wr (k*(pH d).2.1)),max (wr (k*(pH d).1)) (wr (k*(pH d).2.1)),(pH d).2.2)
def cq (d:List (Int×Int))(k:Int):Int:=if 0<k then k*ax d else k*aM d
def fQ (d:List (Int×Int))(k:Int):Int:=if 0<k then k*aM d else k*ax d
def bi (ts:List (List (Int×Int)×Int)):Int:=(ts.map λt=>cq t.1 t.2).sum
def fP (ts:List (List (Int×Int)×Int)):Int:=(ts.map λt=>fQ t.1 t.2).sum
def aF (k:Int):Int:=max k (-k)
def ai (coefs:List Int):Int:=(coefs.map λk=>aF k*1048576).sum
theorem bu (k:Int):0<=aF k:=by unfold aF;omega
theorem dW (k x:Int)(h1: -1048576<=x)(h2:x<=1048576): -(aF k*1048576)<=k*x/\k*x<=aF k*1048576:=by
 unfold aF;by_cases hk:0<=k
 ·have e1:=EX h2 hk;have e2:=EX h1 hk;rw[show max k (-k)=k by omega];omega
 ·have hk':0<=-k:=(by omega);have e1:=EX h2 hk';have e2:=EX h1 hk';rw[Gd]at e1 e2;rw[show max k (-k)= -k by omega];rw[Gd]at e1 e2⊢;omega
theorem sM {d:List (Int×Int)}(h:Fine d)(hne:d≠[]): -1048576<=ax d/\ax d<=aM d/\aM d<=1048576:=by
 have h1:=fC h.ok hne;have h2:=pj h.ok hne;have:=h.val _ h1;have:=h.val _ h2;have:=nT h.ok h1;omega
theorem lz {d:List (Int×Int)}(h:Fine d)(hne:d≠[])(k:Int): -(aF k*1048576)<=cq d k/\cq d k<=fQ d k/\fQ d k<=aF k*1048576:=by
 obtain⟨h1,h2,h3⟩:=sM h hne;have m1:=dW k (ax d) h1 (by omega);have m2:=dW k (aM d) (by omega) h3;unfold cq fQ;by_cases hk:0<k
 ·rw[D3 hk,D3 hk];have:=EX h2 (show 0<=k by omega);omega
 ·rw[D2 hk,D2 hk];have:=Fi (show k<=0 by omega) h2;omega
def CoefOk (k:Int):Prop:=k≠0/\aF k<=4398046511104
theorem ln {k x:Int}(hk:CoefOk k)(h1: -1048576<=x)(h2:x<=1048576):mulI k x=(k*x,true):=by
 have m:=dW k x h1 h2;have h3:=hk.2;unfold mulI smallI;have e:aF k=max k (-k):=rfl;rw[D3];simp only[DH,DM];omega
theorem sN {d:List (Int×Int)}{k:Int}(h:Fine d)(hne:d≠[])(hk:CoefOk k):endW d k false=(cq d k,true)/\endW d k true=(fQ d k,true):=by
 obtain⟨h1,h2,h3⟩:=sM h hne;have hb:d.isEmpty=false:=by cases d with
  |nil=>exact DS Y hne
  |cons r d=>rfl
 unfold endW cq fQ;rw[hb];by_cases hp:0<k
 ·rw[DE hp,D3 hp,D3 hp];simp only[Bool.not_false,Ei,beq_self_eq_true,if_true];rw[D2 (by decide),ln hk h1 (by omega),ln hk (by omega) h3];exact⟨rfl,rfl⟩
 ·rw[DC hp,D2 hp,D2 hp];simp only[Bool.not_false,Ei,beq_self_eq_true,if_true];rw[D2 (by decide),ln hk h1 (by omega),ln hk (by omega) h3];exact⟨rfl,rfl⟩
theorem yd {d:List (Int×Int)}{k:Int}(h:Fine d)(hne:d≠[])(hk:CoefOk k):CD d k=(cq d k,fQ d k,true):=by
 obtain⟨h1,h2,h3⟩:=sM h hne;have m1:=dW k (ax d) h1 (by omega);have m2:=dW k (aM d) (by omega) h3;have h4:=hk.2;unfold CD wr;rw[AV h.ok hne];simp only;rw[ac (by omega) (by omega),ac (by omega) (by omega)];unfold cq fQ;by_cases hp:0<k
 ·rw[D3 hp,D3 hp];have:=EX h2 (show 0<=k by omega);rw[show min (k*ax d) (k*aM d)=k*ax d by omega,show max (k*ax d) (k*aM d)=k*aM d by omega]
 ·rw[D2 hp,D2 hp];have:=Fi (show k<=0 by omega) h2;rw[show min (k*ax d) (k*aM d)=k*aM d by omega,show max (k*ax d) (k*aM d)=k*ax d by omega]
def gr (ts:List (List (Int×Int)×Int)):Prop:= ∀t∈ts,Fine t.1/\CoefOk t.2
def aZ (ts:List (List (Int×Int)×Int)):Int:=ai (ts.map (·.2))
theorem cw (t:List (Int×Int)×Int)(ts):aZ (t::ts)=aF t.2*1048576+aZ ts:=by simp[aZ,ai]
theorem dc: ∀ts,0<=aZ ts
 | []=>by simp[aZ,ai]
 |t::ts=>by
  rw[cw];have:=dc ts;have:=bu t.2;omega
theorem kN: ∀{ts:List (List (Int×Int)×Int)},gr ts->(∀t∈ts,t.1≠[])->-aZ ts<=bi ts/\bi ts<=fP ts/\fP ts<=aZ ts
 | [],_,_=>by simp[aZ,ai,bi,fP]
 |t::ts,h,hne=>by
  obtain⟨h1,h2,h3⟩:=kN (ts:=ts) (λt ht=>h t (.tail _ ht)) (λt ht=>hne t (.tail _ ht));obtain⟨h4,h5,h6⟩:=lz (h t (.head _)).1 (hne t (.head _)) t.2;rw[cw];simp only[bi,fP,DZ,Ej]at h1 h2 h3⊢;omega
theorem jL: ∀{ts:List (List (Int×Int)×Int)} (lo hi:Int),gr ts->(∀t∈ts,t.1≠[])->-4611686018427388928<=lo-aZ ts->lo+aZ ts<=4611686018427388928->-4611686018427388928<=hi-aZ ts->hi+aZ ts<=4611686018427388928->kE ts lo hi=(lo+bi ts,hi+fP ts,true)
 | [],lo,hi,_,_,_,_,_,_=>by simp[kE,bi,fP]
 |(x,k)::ts,lo,hi,h,hne,h1,h2,h3,h4=>by
  obtain⟨hf,hk⟩:=h _ (.head _);have hx:=hne _ (.head _);obtain⟨e1,e2⟩:=sN hf hx hk;obtain⟨b1,b2,b3⟩:=lz hf hx k;have hp:=dc ts;rw[cw]at h1 h2 h3 h4;simp only at h1 h2 h3 h4 e1 e2 b1 b2 b3;rw[kE,e1,e2,D3 Y];simp only[wr];rw[ac (by omega) (by omega),ac (by omega) (by omega),jL _ _ (λt ht=>h t (.tail _ ht)) (λt ht=>hne t (.tail _ ht)) (by omega) (by omega) (by omega) (by omega)];simp only[bi,fP,DZ,Ej,Prod.mk.injEq,and_true];omega
set_option maxRecDepth 8000
theorem gp (l:List Int)(hl:l.length*8<=140737488355328):Spec Tryz.prog 152 false [ao l] [.val (.bool (l.all smallI))]:=by
 refine Spec.body Tryz.func152 Y Y Y λw0 Z0=> ?_;refine .B ?_;refine T.K (T.ind (λi:Nat=>⟨[(5,.val false (ao l)),(6,.val true (.int .i64 (l.map cI).length)),(7,.val true (.int .i64 i))],[],0⟩) (λi=>i<=l.length/\(l.take i).all smallI=true) (λi=>l.length-i) 0 (by simp) (λ_ _ h=>h) ?_);rintro i ⟨hi,hd⟩ ih;refine .B ?_;refine T.cd Y (λh1=> ?_) (λh1=> ?_)
 ·have h1:i<l.length:=(by simpa using h1);have hno:smallI l[i]=false->l.all smallI=false:=λh=>by
   cases h2:l.all smallI with
   |false=>rfl
   |true=>rw[DJ.1 h2 _ (D8 h1)]at h;cases h
  refine .B ?_;refine .F (r:=cI l[i]) (aK h1) ?_;refine J.g Y Y Y (λh2=> ?_) (λh2=> ?_)
  ·refine .B ?_;refine T.ct Y ?_;refine .B ?_;exact⟨_,.v Y Y (by rw[hno];simp[smallI];omega) (λ_=>rfl) .nil⟩
  ·refine .B ?_;refine T.cd Y (λh3=> ?_) (λh3=> ?_)
   ·refine .B ?_;exact⟨_,.v Y Y (by rw[hno];simp[smallI];omega) (λ_=>rfl) .nil⟩
   ·refine .B ?_;rw[aj (l:=l.length) (by omega) (by omega)];refine T.K (ih (i+1) ⟨by omega,?_⟩ (by omega));rw[DB h1,F0,hd];simp[smallI];omega
 ·have h1:i=l.length:=(by simp at h1;omega);subst h1;rw[EI]at hd;refine .B ?_;exact⟨_,.v Y Y (by rw[hd]) (λ_=>rfl) .nil⟩
theorem qk (n:Int):IntKind.u64.wrap n=n % 18446744073709551616:=by simp[IntKind.wrap,IntKind.bits,IntKind.signed]
theorem pt (n:Int)(h: -9223372036854775808<=n)(h2:n<=9223372036854775807):Spec Tryz.prog 154 false [.int .i64 n] [.val (.int .u64 ((n.natAbs:Nat):Int))]:=by
 refine Spec.body Tryz.func154 Y Y Y λw0 Z0=> ?_;refine .B ?_;refine T.cd Y (λh3=> ?_) (λh3=> ?_)
 ·have h3:n<0:=h3;refine .B ?_;exact⟨_,.v Y Y (by rw[qk,qk];congr 1;omega) (λ_=>rfl) .nil⟩
 ·have h3: ¬n<0:=h3;refine .B ?_;exact⟨_,.v Y Y (by rw[qk];congr 1;omega) (λ_=>rfl) .nil⟩
theorem AC (a:Nat)(ha:a<18446744073709551616):IntKind.u64.wrap (BitVec.ofInt IntKind.u64.bits (a:Int) &&& BitVec.ofInt IntKind.u64.bits 4294967295).toNat=((a % 4294967296:Nat):Int):=by
 have e:(BitVec.ofInt IntKind.u64.bits (a:Int) &&& BitVec.ofInt IntKind.u64.bits 4294967295).toNat=a % 4294967296:=by
  rw[BitVec.toNat_and];have e1:(BitVec.ofInt IntKind.u64.bits (a:Int)).toNat=a:=by
   rw[BitVec.toNat_ofInt];have:((2 ^ IntKind.u64.bits:Nat):Int)=18446744073709551616:=rfl;rw[this];omega
  have e2:(BitVec.ofInt IntKind.u64.bits 4294967295).toNat=2 ^ 32-1:=rfl;rw[e1,e2,Nat.and_two_pow_sub_one_eq_mod]
 rw[e,qk];omega
theorem Ds (a:Nat):((a:Int)).fdiv (2 ^ (min (32:Int).toNat IntKind.u64.bits))=((a / 4294967296:Nat):Int):=by
 have:(2:Int) ^ (min (32:Int).toNat IntKind.u64.bits)=4294967296:=rfl;rw[this,Int.fdiv_eq_ediv_of_nonneg _ (by decide)];omega
theorem C6 (a b:Nat):(a:Int)*(b:Int)=((a*b:Nat):Int):=(HP a b).symm
theorem Dr (a b:Nat):(a:Int)+(b:Int)=((a+b:Nat):Int):=(Int.natCast_add a b).symm
theorem mQ (a:Nat)(ha:a<18446744073709551616):IntKind.u64.wrap (a:Int)=(a:Int):=by rw[qk];omega
theorem CM (a:Nat):IntKind.u64.wrap (a:Int)=((a % 18446744073709551616:Nat):Int):=by rw[qk];omega
theorem wM (x y:Nat)(hx:x<18446744073709551616)(hy:y<18446744073709551616):Spec Tryz.prog 153 false [.int .u64 (x:Int),.int .u64 (y:Int)] [.val (.int .u64 ((x*y / 18446744073709551616:Nat):Int)),.val (.int .u64 ((x*y % 18446744073709551616:Nat):Int))]:=by
 obtain⟨bd,bt,bw,hhi⟩:=Lib.mul64_hi x y hx hy;have ba:=Lib.half_mul_le (a:=x / 4294967296) (b:=y / 4294967296) (by omega) (by omega);have bb:=Lib.half_mul_le (a:=x / 4294967296) (b:=y % 4294967296) (by omega) (by omega);have bc:=Lib.half_mul_le (a:=x % 4294967296) (b:=y / 4294967296) (by omega) (by omega);have ba':x / 4294967296*(y / 4294967296)<18446744073709551616:=(by omega);have bb':x / 4294967296*(y % 4294967296)<18446744073709551616:=(by omega);have bc':x % 4294967296*(y / 4294967296)<18446744073709551616:=(by omega);have bh1:x / 4294967296*(y / 4294967296)+(x / 4294967296*(y % 4294967296)+x % 4294967296*(y % 4294967296) / 4294967296) / 4294967296<18446744073709551616:=(by omega);have bh:x / 4294967296*(y / 4294967296)+(x / 4294967296*(y % 4294967296)+x % 4294967296*(y % 4294967296) / 4294967296) / 4294967296+((x / 4294967296*(y % 4294967296)+x % 4294967296*(y % 4294967296) / 4294967296) % 4294967296+x % 4294967296*(y / 4294967296)) / 4294967296<18446744073709551616:=by
  generalize (x / 4294967296)*(y / 4294967296)=a at*;generalize (x / 4294967296)*(y % 4294967296)=b at*;generalize (x % 4294967296)*(y / 4294967296)=c at*;generalize (x % 4294967296)*(y % 4294967296)=d at*;omega
 refine Spec.body Tryz.func153 Y Y Y λw0 Z0=> ?_;refine .B ?_;refine⟨_,.v Y Y ?_ (λ_=>rfl) (.v Y Y ?_ (λ_=>rfl) .nil)⟩
 ·simp only[AC x hx,AC y hy,Ds,C6,Dr,mQ _ bd,mQ _ bb',mQ _ bt,AC _ bt,mQ _ bc',mQ _ bw,mQ _ ba',mQ _ bh1,mQ _ bh];rw[hhi]
 ·rw[C6,CM]
theorem mH (a b:Int)(ha1: -9223372036854775808<=a)(ha2:a<=9223372036854775807)(hb1: -9223372036854775808<=b)(hb2:b<=9223372036854775807):
  Spec Tryz.prog 120 false [.int .i64 a,.int .i64 b] [.val (.int .i64 (mulI a b).1),.val (.bool (mulI a b).2)]:=by
 refine Spec.body Tryz.func120 Y Y Y λw0 Z0=> ?_;have hs:=gp [a,b] (by simp);refine .B ?_;refine .V ?_;refine .D hs ?_;refine T.cond Y (λh=> ?_) (λh=> ?_)
 ·have e:mulI a b=(0,false):=by
   unfold mulI;rw[D2];intro h2;simp at h h2;rcases h with h|h;·rw[h2.1.1]at h;cases h
   ·rw[h2.1.2]at h;cases h
  rw[e];refine .B ?_;exact r2
 ·have hsa:smallI a=true/\smallI b=true:=(by simpa using h);obtain⟨hsa,hsb⟩:=hsa;have ha: -4611686018427387904<=a/\a<=4611686018427387904:=(by simpa[smallI]using hsa);have hb: -4611686018427387904<=b/\b<=4611686018427387904:=(by simpa[smallI]using hsb);have hm:=wM a.natAbs b.natAbs (by omega) (by omega);have hab:(a*b).natAbs=a.natAbs*b.natAbs:=Int.natAbs_mul a b;have hp1:(a<0)≠(b<0)->a*b<=0:=by
   intro hne;by_cases h1:a<0
   ·have h2: ¬b<0:=λh2=>hne (by simp[h1,h2]);exact Int.mul_nonpos_of_nonpos_of_nonneg (by omega) (by omega)
   ·have h2:b<0:=by
     by_cases h2:b<0;·exact h2
     ·exact DS (by simp[h1,h2]) hne
    exact Int.mul_nonpos_of_nonneg_of_nonpos (by omega) (by omega)
  have hp2:(a<0)=(b<0)->0<=a*b:=by
   intro heq;by_cases h1:a<0
   ·have h2:b<0:=(by rw[<-heq];exact h1);exact Int.mul_nonneg_of_nonpos_of_nonpos (by omega) (by omega)
   ·have h2: ¬b<0:=(by rw[<-heq];exact h1);exact Int.mul_nonneg (by omega) (by omega)
  have hmi:mulI a b=if smallI (a*b)then(a*b,true)else(0,false):=by simp[mulI,hsa,hsb]
  rw[hmi];rw[<-hab]at hm;clear hab hmi;generalize a*b=p at*;refine .B ?_;refine .D (pt a ha1 ha2) ?_;refine .C (pt b hb1 hb2) ?_;refine .D hm ?_;refine J.g Y Y Y (λh4=> ?_) (λh4=> ?_)
  ·have h4:((p.natAbs / 18446744073709551616:Nat):Int)≠0:=h4;refine .B ?_;refine T.ct Y ?_;have e:smallI p=false:=(by simp[smallI];omega);rw[e];refine .B ?_;exact r2
  ·have h4: ¬((p.natAbs / 18446744073709551616:Nat):Int)≠0:=h4;refine .B ?_;refine T.cd Y (λh5=> ?_) (λh5=> ?_)
   ·have h5:((p.natAbs % 18446744073709551616:Nat):Int) > 4611686018427387904:=h5;have e:smallI p=false:=(by simp[smallI];omega);rw[e];refine .B ?_;exact r2
   ·have h5: ¬((p.natAbs % 18446744073709551616:Nat):Int) > 4611686018427387904:=h5;have e:smallI p=true:=(by simp[smallI];omega);rw[e];refine .B ?_;refine T.cond Y (λh6=> ?_) (λh6=> ?_)
    ·have h7:=hp1 (by intro e;simp[e]at h6);refine .B ?_;exact⟨_,.v Y Y (by simp only[if_true];rw[ac (n:=((p.natAbs % 18446744073709551616:Nat):Int)) (by omega) (by omega),ac (by omega) (by omega)];congr 1;omega) (λ_=>rfl) (.v Y Y Y (λ_=>rfl) .nil)⟩
    ·have h7:=hp2 (by
      by_cases h1:a<0<;>by_cases h2:b<0<;>simp[h1,h2]at h6⊢)
     refine .B ?_;exact⟨_,.v Y Y (by simp only[if_true];rw[ac (by omega) (by omega)];congr 1;omega) (λ_=>rfl) (.v Y Y Y (λ_=>rfl) .nil)⟩
theorem AU {d:List (Int×Int)}(h:InB d): -1048576<=ax d/\ax d<=1048576/\-1048576<=aM d/\aM d<=1048576:=by
 constructor
 ·cases d with
  |nil=>simp[ax]
  |cons r d=>exact(h r (.head _)).1
 ·constructor
  ·cases d with
   |nil=>simp[ax]
   |cons r d=>exact(h r (.head _)).2.1
  ·unfold aM;cases hl:d.getLast? with
   |none=>simp
   |some r=>
    have:=h r (List.mem_of_getLast? hl);exact⟨this.2.2.1,this.2.2.2⟩
theorem fV {k:Int}(h:CoefOk k): -4398046511104<=k/\k<=4398046511104:=by
 have:=h.2;unfold aF at this;omega
theorem jB (d:List (Int×Int))(k:Int)(high:Bool)(hd:DomB d)(hk:CoefOk k):Spec Tryz.prog 233 false [dm d,.int .i64 k,.bool high] [.val (.int .i64 (endW d k high).1),.val (.bool (endW d k high).2)]:=by
 refine Spec.body Tryz.func233 Y Y Y λw0 Z0=> ?_;obtain⟨h1,h2,h3,h4⟩:=AU hd.1;have hk2:=fV hk;refine T.seq ?_;refine T.r ?_
 repeat' first|refine J.e Y Y Y Y ?_|refine J.skip Y Y Y ?_|refine J.bx Y Y Y Y Y Y ?_
 refine J.nil ?_;refine T.seq ?_;refine T.r ?_
 repeat' first|refine J.e Y Y Y Y ?_|refine J.skip Y Y Y ?_|refine J.bx Y Y Y Y Y Y ?_
 refine .C (kB d) ?_
 repeat' first|refine J.e Y Y Y Y ?_|refine J.skip Y Y Y ?_|refine J.bx Y Y Y Y Y Y ?_
 refine J.nil ?_;refine T.mid ⟨[(1,.val false (.int .i64 k)),(8,.val true (.int .i64 (if decide (0<k)==high then aM d else ax d))),(9,.val true (.bool (!d.isEmpty)))],[],0⟩ ?_ ?_
 ·refine .B ?_;refine T.cond Y (λh=> ?_) (λh=> ?_)
  ·have h:(decide (0<k)==high)=true:=h;rw[D3 h];refine .B ?_;refine .D (qO d (by have:=hd.2.2;omega)) ?_;exact⟨rfl,[1,8,9],[],rfl,rfl⟩
  ·have h:(decide (0<k)==high)=false:=h;rw[h];refine .B ?_;exact⟨rfl,[1,8,9],[],rfl,rfl⟩
 ·have hm:=mH k (if decide (0<k)==high then aM d else ax d) (by omega) (by omega) (by split<;>omega) (by split<;>omega);unfold endW;generalize (if decide (0<k)==high then aM d else ax d)=x at*;generalize mulI k x=m at*;refine .B ?_;refine .D hm ?_;refine J.gb Y Y Y (λh=> ?_) (λh=> ?_)
  ·rw[h];refine .B ?_;exact⟨_,.v Y Y Y (λ_=>rfl) (.v Y Y (by simp) (λ_=>rfl) .nil)⟩
  ·rw[h];refine .B ?_;exact r2
structure SumIn (d:aa)(vars coefs:List Int):Prop where
 len:vars.length=coefs.length
 vl:vars.length*8<=140737488355328
 vin: ∀v∈vars,0<=v/\v.toNat<d.length
 ck: ∀k∈coefs,CoefOk k
 dom: ∀x∈d,DomB x
 dl:d.length*24<=140737488355328
theorem oe {d:aa}{vars coefs:List Int}{i:Nat}(h1:i<vars.length)(h2:i<coefs.length):(ab d vars coefs).drop i=(domAt d vars[i],coefs[i])::(ab d vars coefs).drop (i+1):=by
 have hl:i<(ab d vars coefs).length:=(by simp[ab];omega);rw[DP hl];simp[ab]
theorem qr {d:aa}{vars coefs:List Int}(h:vars.length=coefs.length):(ab d vars coefs).drop vars.length=[]:=by
 refine Et ?_;simp[ab];omega
theorem pg (d:aa)(vars coefs:List Int)(h:SumIn d vars coefs):Spec Tryz.prog 234 false [aH d,ao vars,ao coefs] [.val (.int .i64 (endsW d vars coefs).1),.val (.int .i64 (endsW d vars coefs).2.1),.val (.bool (endsW d vars coefs).2.2)]:=by
 refine Spec.body Tryz.func234 Y Y Y λw0 Z0=> ?_;obtain⟨hlen,hvl,hvin,hck,hdom,hdl⟩:=h;refine .B ?_;refine T.K (T.ind (λs:Nat×Int×Int=>⟨[(0,.val false (aH d)),(2,.val false (ao coefs)),(9,.val true (.int .i64 s.2.1)),(10,.val true (.int .i64 s.2.2)),(17,.val false (ao vars)),(18,.val true (.int .i64 (vars.map cI).length)),(19,.val true (.int .i64 s.1))],[],0⟩)
  (λs=>s.1<=vars.length/\kE ((ab d vars coefs).drop s.1) s.2.1 s.2.2=endsW d vars coefs) (λs=>vars.length-s.1) (0,0,0) ⟨by simp,rfl⟩ (λ_ _ h=>h) ?_)
 rintro⟨i,lo,hi⟩ ⟨hil,he⟩ ih;simp only at hil he;dsimp only;refine .B ?_;refine T.cd Y (λh1=> ?_) (λh1=> ?_)
 ·have h1:i<vars.length:=(by simpa using h1);have h2:i<coefs.length:=(by omega);have hv:=hvin _ (D8 h1);have hk:=hck _ (D8 h2);have hx:=hdom _ (af hv.2);have hrow:(d.map cD)[vars[i].toNat]? =some (cD (domAt d vars[i])):=(by simp[ak hv.2]);rw[oe h1 h2,kE]at he;refine .B ?_;refine .F (r:=cI vars[i]) (aK h1) ?_;refine J.i Y Y Y Y Y Y Y Y Y (r:=cD (domAt d vars[i])) hv.1 hrow Y ?_;refine .B ?_;refine .F (r:=cI coefs[i]) (aK h2) ?_;refine J.cc Y Y Y Y Y (jB _ _ false hx hk) Y Y ?_;refine .B ?_;refine J.i Y Y Y Y Y Y Y Y Y (r:=cD (domAt d vars[i])) hv.1 hrow Y ?_;refine .B ?_;refine .F (r:=cI coefs[i]) (aK h2) ?_;refine J.cc Y Y Y Y Y (jB _ _ true hx hk) Y Y ?_;generalize endW (domAt d vars[i]) coefs[i] false=e1 at*;generalize endW (domAt d vars[i]) coefs[i] true=e2 at*;obtain⟨n1,b1⟩:=e1;refine .B ?_;cases b1
  ·simp only[EU,if_false]at he;refine .B ?_;refine T.ct Y ?_;refine .B ?_;exact⟨_,.v Y Y (by rw[<-he]) (λ_=>rfl) (.v Y Y (by rw[<-he]) (λ_=>rfl) (.v Y Y (by rw[<-he]) (λ_=>rfl) .nil))⟩
  ·simp only[if_true]at he;refine .B ?_;refine T.cf Y ?_;refine .B ?_;rw[aj (l:=vars.length) (by omega) (by omega)];exact T.K (ih (i+1,wr (lo+n1),wr (hi+e2.1)) ⟨by simp only;omega,he⟩ (by simp only;omega))
 ·have h1:i=vars.length:=(by simp at h1;omega);subst h1;rw[qr hlen]at he;refine .B ?_;exact⟨_,.v Y Y (by rw[<-he];rfl) (λ_=>rfl) (.v Y Y (by rw[<-he];rfl) (λ_=>rfl) (.v Y Y (by rw[<-he];rfl) (λ_=>rfl) .nil))⟩
theorem za (d:aa)(hl:d.length*24<=140737488355328)(hx: ∀x∈d,x.length*16<=140737488355328):Spec Tryz.prog 199 false [aH d] [.own 54 1 ((if []∈d then []else d).map cD),.val (.bool (!decide ([]∈d)))]:=by
 refine Spec.body Tryz.func199 Y Y Y λw0 Z0=> ?_;refine .B ?_;refine T.sub (Rel.own0 (s:=4) 54 1 Y) ?_;refine T.K (T.listI d (λpre=>[]∉pre) (λn pre post=>⟨[(4,.ref 0),(7,.val false (aH d)),(8,.val true (.int .i64 (d.map cD).length)),(9,.val true (.int .i64 n))],[(0,some (.sl 54 1 true (pre.map cD)))],1⟩) (λ_ _ h=>h) (by simp) ?_ ?_)
 ·rintro n pre x post h hn hi ih;have hlt:=bZ h hn;have hxl:=hx x (by rw[h];simp);refine .B ?_;refine T.ct2 Y (bY h hn) ?_;refine .B ?_;refine .F (r:=cD x) (aQ h hn) ?_;refine T.cd Y (λh1=> ?_) (λh1=> ?_)
  ·have hx:x=[]:=(by simp at h1;exact h1);have hm: []∈d:=(by rw[h,hx];simp);rw[D3 hm,DE hm];refine .B ?_;exact⟨_,.ownN Y (.v Y Y Y (λ_=>rfl) .nil)⟩
  ·have hx:x≠[]:=λe=>h1 (by rw[e];rfl);refine .B ?_;refine .D (bR x (by omega)).frz ?_;refine .Z ?_;refine J.aD Y Y Y Y Y Y Y Y Y Y Y Y Y Y Y Y Y Y Y (by omega) ?_;refine .B ?_;rw[aj hlt (by omega)];exact T.K (ih (by simp[hi,Ne.symm hx]))
 ·intro hi;refine .B ?_;refine T.cf2 Y bq ?_;refine .B ?_;exact⟨_,.o Y Y (by rw[D2 hi]) (λ_=> .inl Y) (by simp) (.v rfl rfl (by simp[hi]) (λ_=>rfl) .nil)⟩
def gB (a b:Int):Int:=if a.tmod b<0 then wr (wr (a.tdiv b)-1)else wr (a.tdiv b)
theorem pC (a b:Int)(hb:b≠0):Spec Tryz.prog 235 false [.int .i64 a,.int .i64 b] [.val (.int .i64 (gB a b))]:=by
 refine Spec.body Tryz.func235 Y Y Y λw0 Z0=> ?_;unfold gB;refine .B ?_;refine J.qu Y Y Y Y Y Y hb ?_;refine .B ?_;refine J.rm Y Y Y Y Y Y hb ?_;refine .B ?_;refine T.cd Y (λh=> ?_) (λh=> ?_)
 ·have h:a.tmod b<0:=h;refine .B ?_;exact⟨_,.v Y Y (by rw[D3 h]) (λ_=>rfl) .nil⟩
 ·have h: ¬a.tmod b<0:=h;refine .B ?_;exact⟨_,.v Y Y (by rw[D2 h]) (λ_=>rfl) .nil⟩
def az (l:List Int):List Int:=l.map λk=>wr (0-k)
theorem ly (l:List Int)(hl:l.length*8<=140737488355328):Spec Tryz.prog 201 false [ao l] [.own 3 1 ((az l).map cI)]:=by
 refine Spec.body Tryz.func201 Y Y Y λw0 Z0=> ?_;refine .B ?_;refine T.sub (Rel.own0 (s:=3) 3 1 Y) ?_;refine T.K (T.list l (λn pre post=>⟨[(3,.ref 0),(6,.val false (ao l)),(7,.val true (.int .i64 (l.map cI).length)),(8,.val true (.int .i64 n))],[(0,some (.sl 3 1 true ((az pre).map cI)))],1⟩) (λ_ _ h=>h) ?_ ?_)
 ·rintro n pre x post h hn ih;have hlt:=bZ h hn;refine .B ?_;refine T.ct2 Y (bY h hn) ?_;refine .B ?_;refine .F (r:=cI x) (aQ h hn) ?_;refine .V ?_;refine J.aI Y Y Y Y Y Y Y Y Y Y Y Y Y Y Y Y Y Y Y (by simp[az];omega) ?_;refine .B ?_;rw[aj hlt (by omega),show az pre++[IntKind.i64.wrap (0-x)]=az (pre++[x])by simp[az]];exact T.K ih
 ·refine .B ?_;refine T.cf2 Y bq ?_;refine .B ?_;exact⟨_,.o Y Y Y (λ_=> .inl Y) (by simp) .nil⟩
theorem dQ (l:List Int)(hl:l.length*8<=140737488355328):Spec Tryz.prog 79 false [ao l] [.own 3 1 (l.map cI)]:=by
 refine Spec.body Tryz.func79 Y Y Y λw0 Z0=> ?_;refine .B ?_;refine J.nc Y Y Y Y Y Y Y λb hb=> ?_;refine .B ?_;cases b
 ·refine T.cf Y ?_;refine .B ?_;refine .Q ?_;refine J.a Y Y Y Y Y Y Y Y Y Y Y Y Y Y Y Y Y uQ (by show(0+List.length _)*8<=_;simp;omega) ?_;refine .B ?_;exact⟨_,.o Y Y Y (λ_=> .inr w8) (by simp) .nil⟩
 ·have:l=[]:=(by simpa using hb Y);subst this;refine T.ct Y ?_;refine .B ?_;exact⟨_,.ownN Y .nil⟩
def fG (d:List (Int×Int)):Int:=d.foldl (λn r=>wr (n+wr (wr (r.2-r.1)+1))) 0
theorem gF (d:List (Int×Int))(hl:d.length*8<=140737488355328):Spec Tryz.prog 109 false [dm d] [.val (.int .i64 (fG d))]:=by
 refine Spec.body Tryz.func109 Y Y Y λw0 Z0=> ?_;refine .B ?_;refine T.K (T.list d (λn pre post=>⟨[(3,.val true (.int .i64 (fG pre))),(6,.val false (dm d)),(7,.val true (.int .i64 (d.map cR).length)),(8,.val true (.int .i64 n))],[],0⟩) (λ_ _ h=>h) ?_ ?_)
 ·rintro n pre x post h hn ih;have hlt:=bZ h hn;refine .B ?_;refine T.ct2 Y (bY h hn) ?_;refine .B ?_;refine .F (r:=cR x) (aQ h hn) ?_;refine .L ?_;refine .B ?_;refine .X ?_;rw[aj hlt (by omega),show IntKind.i64.wrap (fG pre+IntKind.i64.wrap (IntKind.i64.wrap (x.2-x.1)+1))=fG (pre++[x])by simp[fG]];exact T.K ih
 ·refine .B ?_;refine T.cf2 Y bq ?_;refine .B ?_;exact r1
def sortI (l:List Int):List Int:=l.mergeSort λx y=>decide (x<=y)
theorem pu {w:World}{Z:Nat->Prop}: ∀{xs:List Int} {vs:List Value},L2 (Rep w Z) vs (xs.map (PV.int .i64))->vs=xs.map (Value.int .i64)
 | [],_,.nil=>rfl
 |x::xs,_,.cons h h2=>by
  cases h;rw[pu h2];rfl
theorem mg {w:World}{Z:Nat->Prop}: ∀(xs:List Int),L2 (Rep w Z) (xs.map (Value.int .i64)) (xs.map (PV.int .i64))
 | []=> .nil
 |x::xs=> .cons (.int _ _) (mg xs)
theorem ic (l:List Int)(hl:l.length*8<=140737488355328):SpecM Tryz.prog 86 3 1 (l.map cI) [] ((sortI l).map cI) []:=by
 have hsl:(sortI l).length=l.length:=Fz ..;refine⟨⟨_,Tryz.func86,rfl,rfl⟩,λp hp=>(by cases hp),λw Z1 v0 vs ho hz hvs=> ?_⟩;cases hvs;obtain⟨xs,hrow,hx,h1,h2⟩:=ho;rw[show(l.map cI).flatten=l.map (PV.int .i64)from rA _ l]at hx;obtain rfl:=pu hx;rw[D9]at hrow;obtain⟨hln,hrow⟩:=hrow;rcases hrow with ⟨rfl,hnil⟩|⟨g,cap,cur,rfl,_,hb,hcap,hmax,hsz,htk⟩
 ·obtain rfl:l=[]:=(by simpa using hnil);refine(nC none 0 w).mono ?_;rintro e w' ⟨rfl,rfl⟩;refine⟨[],rfl,rfl,rfl,rfl,DL _,λ_ _ _=>rfl,?_,.nil⟩;rw[show sortI []=[]from List.mergeSort_nil ..];refine⟨[],⟨rfl,.inl ⟨rfl,rfl⟩⟩,.nil,?_,?_⟩<;>(intro r hr;cases hr)
 ·have hg:g<w.heap.size:=(DR.1 hb).1;rw[Gc]at htk;refine(v8 g 0 cap l w (holds_of_blockI hb htk) hg (by omega)).mono ?_;rintro e w' ⟨rfl,n,os,rfl⟩;have hgr:=grownBy_sortedI (n:=n) (os:=os) (w:=w) (g:=g) (sortI l).toArray;refine⟨[],rfl,hgr.os,hgr.tape,hgr.output,hgr.size,λb hb1 hb2=>hgr.block b hb1 (λe=>hb2 (by simpa[VB,av]using e.symm)),?_,.nil⟩;have hr:=ownsRow_sortedI (base:=0) (n:=n) (os:=os) (ts:=sortI l) hsl (EG _) hb hcap hmax hsz;refine⟨(sortI l).map (Value.int .i64),?_,?_,λr hr=>by obtain⟨x,_,rfl⟩:=DD.1 hr;rfl,λr hr p hp=>by obtain⟨x,_,rfl⟩:=DD.1 hr;simp[cI]at hp;rw[hp];rfl⟩;·rw[D9,hsl];exact hr
  ·rw[show((sortI l).map cI).flatten=(sortI l).map (PV.int .i64)from rA _ _];exact mg _
theorem kU (l:List Int)(hl:l.length*8<=140737488351232):Spec Tryz.prog 220 false [.fn (.func 240) [] [.ptr [ao l]]] [.own 3 1 ((sortI l).map cI)]:=by
 refine Spec.body Tryz.func220 Y Y Y λw0 Z0=> ?_;have hc:=lT (g:=240) (caps:=[.ptr [ao l]]) (xs:=l) (enters_of Tryz.func240 (by kernel_rfl) Y) (λw Z us h=>by
  cases h with
  |cons h1 h2=>cases h2;exact p4 0 0 l hl w _ h1) (by omega)
 refine .B ?_;refine .D hc ?_;refine J.cm Y Y Y Y Y Y Y Y Y (ic l (by omega)) Y Y Y ?_;refine .B ?_;exact⟨_,.o Y Y Y (λ_=> .inl Y) (by simp) .nil⟩
def domOfP (l:List Int):List (Int×Int)×Int:=if l.all aG=true then(if fG (packG (sortI l)) > 4096 then([],2)else(packG (sortI l),0))else([],20)
theorem kF (l:List Int)(hl:l.length*16<=140737488351232):Spec Tryz.prog 185 false [ao l] [.own 53 2 ((domOfP l).1.map cR),.val (.int .i64 (domOfP l).2)]:=by
 refine Spec.body Tryz.func185 Y Y Y λw0 Z0=> ?_;have hc:=pN (p:=λv=> !aG v) (f:=226) l (λv _=>At v) (by omega);have hsl:(sortI l).length=l.length:=Fz ..;have hpg:=qH (sortI l);refine .B ?_;refine .D hc ?_;have hany:(l.any λv=> !aG v)= !l.all aG:=by
  rw[FT]
 rw[hany];unfold domOfP;cases ha:l.all aG with
 |false=>
  refine T.ct Y ?_;refine .B ?_;exact⟨_,.ownN Y (.v Y Y Y (λ_=>rfl) .nil)⟩
 |true=>
  refine T.cf Y ?_;have hvs: ∀v∈sortI l,aG v=true:=λv hv=>DJ.1 ha v ((GU l _).mem_iff.1 hv);refine .B ?_;refine .D (oh l) ?_;refine .D (kU l (by omega)).frz ?_;refine .D (ub (sortI l) hvs (by omega)) ?_;refine .D (gF (packG (sortI l)) (by omega)) ?_;refine T.cd Y (λh=> ?_) (λh=> ?_)
  ·rw[D3 Y,D3 h];refine .B ?_;exact⟨_,.ownN Y (.v Y Y Y (λ_=>rfl) .nil)⟩
  ·rw[D3 Y,D2 h];refine .B ?_;exact⟨_,.o Y Y Y (λ_=> .inl Y) (by simp) (.v rfl rfl rfl (λ_=>rfl) .nil)⟩
theorem zb (d:aa)(vs:List Int)(hl:vs.length*24<=140737488355328):(listsP d vs).length*24<=140737488355328/\∀x∈listsP d vs,x.length*8<=140737488355328:=by
 refine⟨by rw[listsP,D9];exact hl,λx hx=> ?_⟩;obtain⟨v,_,rfl⟩:=DD.1 hx;have:=ql (d.getD v.toNat []);omega
def nj (L:List (List Int))(i:Nat):List Int:=(L.getD i []).filter λx=>(dn (L.set i [x])).2
def kP (L:List (List Int)):List Int->Nat->aa->aa
 | [],_,out=>out
 |v::vs,i,out=>kP L vs (i+1) (out.set v.toNat (domOfP (nj L i)).1)
def oP (d:aa)(vs:List Int):Option aa:=if []∈d then none else if(dn (listsP d vs)).2=true then some (kP (listsP d vs) vs 0 d)else none
theorem tt (d:aa)(c:Con)(hd:ju d)(hb: ∀x∈d,InB x)(hx: ∀x∈d,x.length*16<=140737488351232)(hv: ∀v∈c.vars,0<=v/\v.toNat<d.length)(hl:c.vars.length*24<=140737488355328):Spec Tryz.prog 133 false [aH d,.agg (cC c)] (aX (oP d c.vars)):=by
 refine Spec.body Tryz.func133 Y Y Y λw0 Z0=> ?_;obtain⟨hd1,hd2⟩:=hd;generalize hR:oP d c.vars=R;unfold oP at hR;refine .B ?_;refine T.sub (Rel.own0 (s:=6) 54 1 Y) ?_;refine T.K (T.listI d (λpre=>[]∉pre) (λn pre post=>⟨[(0,.val false (aH d)),(3,.optr 0 0 0 0),(6,.ref 1),(20,.val false (aH d)),(21,.val true (.int .i64 (d.map cD).length)),(22,.val true (.int .i64 n))],[(0,some (.box false (cC c))),(1,some (.sl 54 1 true (pre.map cD)))],2⟩) (λ_ _ h=>h) (by simp) ?_ ?_)
 ·rintro n pre x post h hn hi ih;have hlt:=bZ h hn;have hxl:=hd2 x (by rw[h];simp);refine .B ?_;refine T.ct2 Y (bY h hn) ?_;refine .B ?_;refine .F (r:=cD x) (aQ h hn) ?_;refine T.cd Y (λh1=> ?_) (λh1=> ?_)
  ·have hx:x=[]:=(by simp at h1;exact h1);have:R=none:=(by rw[D3 (by rw[h,hx];simp)]at hR;exact hR.symm);subst this;refine .B ?_;exact⟨_,.ownN Y (.v Y Y Y (λ_=>rfl) .nil)⟩
  ·have hx:x≠[]:=λe=>h1 (by rw[e];rfl);refine .B ?_;refine .D (bR x (by omega)).frz ?_;refine .Z ?_;refine J.aD Y Y Y Y Y Y Y Y Y Y Y Y Y Y Y Y Y Y Y (by omega) ?_;refine .B ?_;rw[aj hlt (by omega)];exact T.K (ih (by simp[hi,Ne.symm hx]))
 ·intro hi;rw[D2 hi]at hR;have hlo:=zb d c.vars hl;have hlen:(listsP d c.vars).length=c.vars.length:=D9 ..;have hL4: ∀x∈listsP d c.vars,x.length<=4097:=λx hx=>by
   obtain⟨v,_,rfl⟩:=DD.1 hx;exact ql _
  have hsl:=(tu d c.vars ⟨hd1,hd2⟩ hb hx hv hl).frz;generalize listsP d c.vars=L at*;have hsp:=lw L hlo.1 hlo.2;refine .B ?_;refine T.cf2 Y bq ?_;refine .B ?_;refine .D hsl ?_;have hR2:(dn L).2=(c6 L).isSome:=(by unfold dn;cases c6 L<;>rfl);rw[hR2]at hR;cases hm:c6 L with
  |none=>
   rw[hm]at hsp hR;dsimp only at hsp;obtain rfl:R=none:=(by simpa using hR.symm);refine J.co (qs:=[]) (cs2:=[]) false [] [] Y Y Y Y Y Y hsp trivial Y Y Y Y Y Y Y λns hns=> ?_;obtain rfl:ns=[]:=DN hns;refine .B ?_;refine T.ct Y ?_;refine .B ?_;exact⟨_,.ownN Y (.v Y Y Y (λ_=>rfl) .nil)⟩
  |some b0=>
  rw[hm]at hsp hR;dsimp only at hsp;obtain rfl:R=some (kP L c.vars 0 d):=(by simpa using hR.symm);refine J.co (qs:=[]) (cs2:=[]) false [] [1001,1002] Y Y Y Y Y Y hsp trivial Y Y Y Y Y Y Y λns hns=> ?_;obtain⟨pm,pb,rfl⟩: ∃pm pb,ns=[pm,pb]:=by
   match ns,hns with
   | [a,b],_=>exact⟨a,b,rfl⟩
  refine .B ?_;refine T.cf Y ?_;refine .B ?_;refine T.K (T.ind (λx:Nat×aa=>⟨[(3,.optr 0 0 0 0),(6,.ref 1),(9,.val true (bL L)),(47,.val false (ao c.vars)),(48,.val true (.int .i64 (c.vars.map cI).length)),(49,.val true (.int .i64 x.1))],[(0,some (.box false (cC c))),(1,some (.sl 54 1 true (x.2.map cD)))],2⟩)
   (λx=>x.1<=c.vars.length/\x.2.length=d.length/\kP L (c.vars.drop x.1) x.1 x.2=kP L c.vars 0 d) (λx=>c.vars.length-x.1) (0,d) ⟨by simp,rfl,rfl⟩ (λ_ _ h=>h) ?_)
  rintro⟨k,out⟩ ⟨hk,hol,hst⟩ ih;simp only at hk hol hst;dsimp only;refine .B ?_;refine T.cd Y (λh1=> ?_) (λh1=> ?_)
  rotate_left
  ·have h1:k=c.vars.length:=(by simp at h1;omega);subst h1;rw[En,kP]at hst;subst hst;refine .B ?_;exact⟨_,.o Y Y Y (λ_=> .inl Y) (by simp) (.v rfl rfl rfl (λ_=>rfl) .nil)⟩
  have h1:k<c.vars.length:=(by simpa using h1);rw[DP h1,kP]at hst;have hvk:=hv _ (D8 h1);have hvr:(c.vars.map cI)[((k:Nat):Int).toNat]? =some (cI c.vars[k]):=aK h1;have hkL:k<L.length:=(by omega);have hrow:(L.map cL)[((k:Nat):Int).toNat]? =some (cL (L.getD k [])):=(by simp[hkL]);have hml:(L.getD k []).length<=4097:=by
   rw[D0,D1 hkL];exact hL4 _ (D8 hkL)
  have hw1:IntKind.i64.wrap ((k:Int)+1)=((k+1:Nat):Int):=aj (l:=c.vars.length) h1 (by omega);refine .B ?_;refine .I (r:=cI c.vars[k]) hvr ?_;generalize c.vars[k]=v at*;refine .B ?_;refine J.sub (Rel.own0 (s:=14) 3 1 Y) ?_;refine .F (r:=cL (L.getD k [])) hrow ?_;have hlf:nj L k=(L.getD k []).filter λx=>(dn (L.set k [x])).2:=rfl;generalize L.getD k []=Lk at*;have hlL:(nj L k).length<=Lk.length:=(by rw[hlf];exact Ec ..);refine T.K (T.list Lk (λn pre post=>⟨[(3,.optr 0 0 0 0),(6,.ref 1),(9,.val true (bL L)),(12,.val true (.int .i64 k)),(13,.val true (.int .i64 v)),(14,.ref 2),(47,.val false (ao c.vars)),(48,.val true (.int .i64 (c.vars.map cI).length)),(49,.val true (.int .i64 k)),(57,.val true (ao Lk)),(58,.val true (.int .i64 (Lk.map cI).length)),(59,.val true (.int .i64 n))],
    [(0,some (.box false (cC c))),(1,some (.sl 54 1 true (out.map cD))),(2,some (.sl 3 1 true ((pre.filter λx=>(dn (L.set k [x])).2).map cI)))],3⟩) (λ_ _ h=>h) ?_ ?_)
  ·rintro n pre x post h hn ih2;have hlt:=bZ h hn;have hfl:(pre.filter λx=>(dn (L.set k [x])).2).length<=pre.length:=Ec ..;have hwn:IntKind.i64.wrap ((n:Int)+1)=((n+1:Nat):Int):=aj hlt (by omega);have hset: ∀y∈L.set k [x],y.length*8<=140737488355328:=λy hy=>by
    rcases DV hy with hy|rfl;·exact hlo.2 y hy
    ·simp
   have hsp2:=lw (L.set k [x]) (by rw[EL];exact hlo.1) hset;have hR3:(dn (L.set k [x])).2=(c6 (L.set k [x])).isSome:=(by unfold dn;cases c6 (L.set k [x])<;>rfl);refine .B ?_;refine T.ct2 Y (bY h hn) ?_;refine .B ?_;refine .F (r:=cI x) (aQ h hn) ?_;refine .D (vF L hlo.1) ?_;refine .Z ?_;refine J.io Y Y Y Y Y Y Y Y Y (by omega) (by rw[D9];omega) Y ?_;refine .B ?_;refine J.w1 Y Y Y Y Y Y Y Y Y Y Y (z:=[x]) (λ_=>rfl) (by omega) ?_;refine .B ?_;refine J.sub (Rel.frz (s:=71) (λ_ h=>h) Y Y) ?_;cases hm2:c6 (L.set k [x])with
   |none=>
    rw[hm2]at hsp2 hR3;dsimp only at hsp2;have hx2:(pre++[x]).filter (λx=>(dn (L.set k [x])).2)=pre.filter λx=>(dn (L.set k [x])).2:=by
     rw[Fx,Fk (by rw[hR3];simp)];simp
    rw[hx2]at ih2;refine J.co (qs:=[]) (cs2:=[]) false [] [] Y Y Y Y Y Y hsp2 trivial Y Y Y Y Y Y Y λns hns=> ?_;obtain rfl:ns=[]:=DN hns;refine .B ?_;refine T.cf Y ?_;refine .B ?_;rw[hwn];exact T.K ih2
   |some b2=>
    rw[hm2]at hsp2 hR3;dsimp only at hsp2;have hx2:(pre++[x]).filter (λx=>(dn (L.set k [x])).2)=pre.filter (λx=>(dn (L.set k [x])).2)++[x]:=by
     rw[Fx,FS (by rw[hR3];simp)];simp
    rw[hx2]at ih2;refine J.co (qs:=[]) (cs2:=[]) false [] [1003,1004] Y Y Y Y Y Y hsp2 trivial Y Y Y Y Y Y Y λns hns=> ?_;obtain⟨pm2,pb2,rfl⟩: ∃pm2 pb2,ns=[pm2,pb2]:=by
     match ns,hns with
     | [a,b],_=>exact⟨a,b,rfl⟩
    refine .B ?_;refine T.ct Y ?_;refine .B ?_;refine .Z ?_;refine J.aI Y Y Y Y Y Y Y Y Y Y Y Y Y Y Y Y Y Y Y (by omega) ?_;refine .B ?_;rw[hwn];exact T.K ih2
  ·rw[<-hlf];refine .B ?_;refine T.cf2 Y bq ?_;refine .B ?_;refine .D (kF (nj L k) (by omega)).frz ?_;refine J.io Y Y Y Y Y Y Y Y Y hvk.1 (by rw[D9,hol];exact hvk.2) Y ?_;refine .B ?_;refine J.w1 Y Y Y Y Y Y Y Y Y Y Y (z:=(domOfP (nj L k)).1) (λ_=>rfl) (by rw[hol];exact hvk.2) ?_;refine .B ?_;rw[hw1];exact T.K (ih (k+1,out.set v.toNat (domOfP (nj L k)).1) ⟨by omega,by rw[EL];exact hol,hst⟩ (by show _-_<_-_;omega))
structure ValD (d:aa):Prop where
 small:d.length*24<=140737488355328
 inb: ∀x∈d,InB x
 len: ∀x∈d,x.length*16<=140737488351232
 vals: ∀x∈d,(vals x).length<=4097
theorem ValD.dom {d:aa}(h:ValD d){v:Int}(hv:v.toNat<d.length):domAt d v∈d:=by
 unfold domAt;rw[D0,D1 hv];exact D8 hv
def w9 (d:aa)(vars:List Int):Nat->List Int->Bool
 |0,_=>true
 |n+1,had=>(vals (domAt d (vars.getD had.length 0))).any λx=> !decide (x∈had)&&w9 d vars n (had++[x])
def iU (d:aa)(vars:List Int)(v:Int):List Int:=(vals (domAt d v)).filter λx=>w9 (d.set v.toNat [(x,x)]) vars vars.length []
def i6 (d:aa)(vars:List Int):List Int->aa->aa
 | [],out=>out
 |v::vs,out=>i6 d vars vs (out.set v.toNat (cX (iU d vars v)))
def ij (d:aa)(vars:List Int):Option aa:=if []∈d then none else if []∈i6 d vars vars d then none else some (i6 d vars vars d)
theorem ValD.one {d:aa}(h:ValD d)(i:Nat){x:Int}(hx: -1048576<=x/\x<=1048576):ValD (d.set i [(x,x)]):=by
 have key: ∀y∈d.set i [(x,x)],y∈d∨y=[(x,x)]:=λy hy=>DV hy;refine⟨by rw[EL];exact h.small,λy hy=> ?_,λy hy=> ?_,λy hy=> ?_⟩
 ·rcases key y hy with hy|rfl;·exact h.inb y hy
  ·intro r hr;obtain rfl:=DF.1 hr;exact⟨hx.1,hx.2,hx.1,hx.2⟩
 ·rcases key y hy with hy|rfl;·exact h.len y hy
  ·simp
 ·rcases key y hy with hy|rfl;·exact h.vals y hy
  ·have:Go.Proofs.YtopcjbahjjhdmaaGreat.vals [(x,x)]=[x]:=by
    show rng x x++[]=_;rw[bS];rfl
   rw[this];simp
def BU (vars:List Int):Con:=⟨1,vars,[],0,0,[],0⟩
theorem wA {l:List Int}(h:Up l):packG l=cX l:=by
 have key: ∀(l:List Int) (o:List (Int×Int)) (lo x:Int),Up (x::l)->l.foldl gh (o++[(lo,x)])=o++dL lo x l:=by
  intro l
  induction l with
  |nil=>intro o lo x _;rfl
  |cons y l ih=>
   intro o lo x hu;have h1:=DY.1 hu;have hxy:=h1.1 y (.head _);rw[DX,ik,D2 (by omega),dL];by_cases e:y=x+1;·rw[D3 (by omega),D3 e,ih _ _ _ h1.2]
   ·rw[D2 (by omega),D2 e,ih _ _ _ h1.2,EF];rfl
 cases l with
 |nil=>rfl
 |cons x l=>
  show l.foldl gh (gh [] x)=_;rw[qG];exact key l [] x x h
theorem zY {l:List Int}(h:Up l):sortI l=l:=List.mergeSort_of_pairwise (h.imp λh=>by simp;omega)
theorem ox {d:List (Int×Int)}(h:Fine d):fG d=((vals d).length:Nat):=by
 have hb:=h.domB.1;have hf:=h.few;have hok:=h.ok;have key: ∀(d:List (Int×Int)) (n:Nat),InB d->(∀r∈d,r.1<=r.2)->n+(vals d).length<=1000000000000000->d.foldl (λn r=>wr (n+wr (wr (r.2-r.1)+1))) (n:Int)=((n+(vals d).length:Nat):Int):=by
  intro d
  induction d with
  |nil=>intro n _ _ _;simp[vals]
  |cons r d ih=>
   intro n hb ho hl;have h1:=hb r (.head _);have h2:=ho r (.head _);rw[bl,DW,show(rng r.1 r.2).length=(r.2+1-r.1).toNat by simp[rng]]at hl⊢;rw[DX];have e:wr ((n:Int)+wr (wr (r.2-r.1)+1))=((n+(r.2+1-r.1).toNat:Nat):Int):=by
    simp only[wr];rw[ac (n:=r.2-r.1) (by omega) (by omega),ac (n:=r.2-r.1+1) (by omega) (by omega),ac (by omega) (by omega)];omega
   rw[e,ih _ (λr hr=>hb r (.tail _ hr)) (λr hr=>ho r (.tail _ hr)) (by omega)];congr 1;omega
 have:=key d 0 hb hok.1 (by omega);simpa[fG]using this
theorem ku {l:List Int}(h:Up l)(hv: ∀v∈l,-1048576<=v/\v<=1048576)(hn:l.length<=4096):Fine (cX l):=by
 refine⟨gg h,?_,?_⟩;·rw[bI h];exact hv
 ·rw[bI h];omega
theorem rG {l:List Int}(h:Up l)(hv: ∀v∈l,-1048576<=v/\v<=1048576)(hn:l.length<=4096):domOfP l=(cX l,0):=by
 unfold domOfP;rw[zY h,wA h,ox (ku h hv hn),bI h,D3 (DJ.2 λv hm=>by simpa[aG]using hv v hm),D2 (by omega)]
structure FewD (d:aa):Prop where
 small:d.length*24<=140737488355328
 fine: ∀x∈d,Fine x
 few: ∀x∈d,(vals x).length<=4096
theorem FewD.valD {d:aa}(h:FewD d):ValD d:=⟨h.small,λx hx=>(h.fine x hx).domB.1,λx hx=>by have:=(h.fine x hx).len;omega,λx hx=>by have:=h.few x hx;omega⟩
theorem zN {x:List (Int×Int)}(h:(vals x).length<=4096):qm x=vals x:=DU (by omega)
theorem FewD.at {d:aa}(h:FewD d)(v:Int):(vals (domAt d v)).length<=4096/\Up (vals (domAt d v))/\∀x∈vals (domAt d v),-1048576<=x/\x<=1048576:=by
 unfold domAt;by_cases hv:v.toNat<d.length
 ·rw[D0,D1 hv];have hm:d[v.toNat]∈d:=D8 hv;exact⟨h.few _ hm,aE (h.fine _ hm).ok,(h.fine _ hm).val⟩
 ·rw[D0,EQ (by omega)];exact⟨by simp[vals],.nil,λx hx=>by cases hx⟩
theorem eN {d:aa}(h:FewD d)(vs:List Int):listsP d vs=vs.map λv=>vals (domAt d v):=
 EV λv _=>zN (h.at v).1
theorem pE (d:aa)(vars:List Int): ∀(n:Nat) (had:List Int),had.Nodup->(w9 d vars n had=true↔∃rest:List Int,rest.length=n/\(∀k,k<n->rest.getD k 0∈vals (domAt d (vars.getD (had.length+k) 0)))/\(had++rest).Nodup)
 |0,had,hn=>by
  rw[w9];exact⟨λ_=>⟨[],rfl,λk hk=>by omega,by simpa using hn⟩,λ_=>rfl⟩
 |n+1,had,hn=>by
  rw[w9,Ev];constructor
  ·rintro⟨x,hx,h⟩;simp only[DH,Ed,decide_eq_false_iff_not]at h;have hn2:(had++[x]).Nodup:=GF.2 ⟨hn,by simp,λa ha b hb=>by
    obtain rfl:=DF.1 hb;exact λe=>h.1 (e▸ha)⟩
   obtain⟨rest,h1,h2,h3⟩:=(pE d vars n (had++[x]) hn2).1 h.2;refine⟨x::rest,by simp[h1],λk hk=> ?_,by simpa using h3⟩;cases k with
   |zero=>exact hx
   |succ k=>
    have:=h2 k (by omega);rw[DW,show had.length+ [x].length+k=had.length+(k+1)by simp;omega]at this;exact this
  ·rintro⟨rest,h1,h2,h3⟩;cases rest with
   |nil=>cases h1
   |cons x rest=>
    have hx:x∉had:=λhm=>by
     have:=(GF.1 h3).2.2 x hm x (.head _);exact this Y
    have h4:((had++[x])++rest).Nodup:=(by simpa using h3);refine⟨x,h2 0 (by omega),?_⟩;simp only[DH,Ed,decide_eq_false_iff_not];refine⟨hx,(pE d vars n (had++[x]) (GF.1 h4).1).2 ⟨rest,by simpa using h1,λk hk=> ?_,h4⟩⟩;have:=h2 (k+1) (by omega);rw[DW,show had.length+ [x].length+k=had.length+(k+1)by simp;omega];exact this
theorem wB {d:aa}(h:FewD d)(vars:List Int):w9 d vars vars.length []=(dn (listsP d vars)).2:=by
 have key:w9 d vars vars.length []=true↔∃g,Others (listsP d vars) g:=by
  rw[pE d vars vars.length [] .nil,eN h];have hg: ∀j,j<vars.length->(vars.map λv=>vals (domAt d v)).getD j []=vals (domAt d (vars.getD j 0)):=λj hj=>(by simp[hj]);constructor
  ·rintro⟨rest,h1,h2,h3⟩;rw[Eo]at h3;refine⟨λj=>rest.getD j 0,λj hj=> ?_,λj k hj hk e=> ?_⟩
   ·rw[D9]at hj;rw[hg j hj];have:=h2 j hj;simpa using this
   ·rw[D9]at hj hk;have e:rest.getD j 0=rest.getD k 0:=e;rw[D0,D0,D1 (by omega),D1 (by omega)]at e;exact(Fp h3).1 e
  ·rintro⟨g,h1,h2⟩;rw[D9]at h1 h2;refine⟨(List.range vars.length).map g,by simp,λk hk=> ?_,?_⟩
   ·have:=h1 k hk;rw[hg k hk]at this;simpa[hk]using this
   ·rw[Eo];exact fB List.nodup_range λx hx y hy e=>h2 x y (DO.1 hx) (DO.1 hy) e
 rw[FZ,key,fK]
theorem FewD.one {d:aa}(h:FewD d)(i:Nat){x:Int}(hx: -1048576<=x/\x<=1048576):FewD (d.set i [(x,x)]):=by
 have key: ∀y∈d.set i [(x,x)],y∈d∨y=[(x,x)]:=λy hy=>DV hy;have hv:vals [(x,x)]=[x]:=by
  show rng x x++[]=_;rw[bS];rfl
 refine⟨by rw[EL];exact h.small,λy hy=> ?_,λy hy=> ?_⟩
 ·rcases key y hy with hy|rfl;·exact h.fine y hy
  ·refine⟨⟨λr hr=> ?_,by simp⟩,?_,?_⟩
   ·obtain rfl:=DF.1 hr;exact EW _
   ·rw[hv];intro v hm;obtain rfl:=DF.1 hm;exact hx
   ·rw[hv];simp
 ·rcases key y hy with hy|rfl;·exact h.few y hy
  ·rw[hv];simp
theorem Up.filter {l:List Int}(h:Up l)(p:Int->Bool):Up (l.filter p):=List.Pairwise.filter p h
def j4 (d:aa)(vars:List Int):Prop:=vars.Nodup/\∀v∈vars,0<=v/\v.toNat<d.length
theorem kA {d:aa}(h:FewD d){vars:List Int}(hv:j4 d vars){i:Nat}(hi:i<vars.length){x:Int}(hx: -1048576<=x/\x<=1048576):listsP (d.set vars[i].toNat [(x,x)]) vars=(listsP d vars).set i [x]:=by
 rw[eN h,eN (h.one _ hx)];apply Fq (by simp);intro j h1 h2;have hj:j<vars.length:=(by simpa using h1);rw[Fr,List.getElem_set,Fr];unfold domAt;rw[D0,Em];by_cases e:i=j
 ·subst e;rw[D3 Y,D3 Y,D3 (hv.2 _ (D8 hi)).2];show rng x x++[]=_;rw[bS];rfl
 ·have e2: ¬vars[i].toNat=vars[j].toNat:=λe2=>by
   have h3:=(hv.2 _ (D8 hi)).1;have h4:=(hv.2 _ (D8 hj)).1;exact e ((Fp hv.1).1 (by omega:vars[i]=vars[j]))
  rw[D2 e,D2 e2,<-D0]
theorem BF {d:aa}(h:FewD d){vars:List Int}(hv:j4 d vars){i:Nat}(hi:i<vars.length):nj (listsP d vars) i=iU d vars vars[i]:=by
 unfold nj iU;have e:(listsP d vars).getD i []=vals (domAt d vars[i]):=(by rw[eN h];simp[hi]);rw[e];refine HE λx hx=> ?_;have hxr:=(h.at vars[i]).2.2 x hx;rw[<-kA h hv hi hxr,wB (h.one _ hxr)]
theorem lF {d:aa}(h:FewD d)(vars:List Int)(v:Int):Up (iU d vars v)/\(iU d vars v).length<=4096/\(∀x∈iU d vars v,-1048576<=x/\x<=1048576):=by
 obtain⟨h1,h2,h3⟩:=h.at v;exact⟨h2.filter _,E9 (Ec ..) h1,λx hx=>h3 x (ES.1 hx).1⟩
theorem xF {d:aa}(h:FewD d){vars:List Int}(hv:j4 d vars): ∀(n i:Nat) (out:aa),n+i=vars.length->kP (listsP d vars) (vars.drop i) i out=i6 d vars (vars.drop i) out
 |0,i,out,hi=>by
  rw[Et (by omega)];rfl
 |n+1,i,out,hi=>by
  have hil:i<vars.length:=(by omega);rw[DP hil,kP,i6,BF h hv hil];obtain⟨h1,h2,h3⟩:=lF h vars vars[i];rw[rG h1 h3 h2];exact xF h hv n (i+1) _ (by omega)
theorem jx (d:aa)(vars:List Int): ∀(vs:List Int) (out:aa),(i6 d vars vs out).length=out.length
 | [],out=>rfl
 |v::vs,out=>by rw[i6,jx d vars vs,EL]
theorem kR {d:aa}{vars:List Int}: ∀{vs:List Int} {out:aa} (j:Nat),vs.Nodup->(∀v∈vs,0<=v/\v.toNat<out.length)->(i6 d vars vs out)[j]? =if(j:Int)∈vs then some (cX (iU d vars j))else out[j]?
 | [],out,j,_,_=>by simp[i6]
 |v::vs,out,j,hn,hv=>by
  obtain⟨h1,h2⟩:=EN.1 hn;have hv0:=hv v (.head _);rw[i6,kR j h2 (λu hu=>by rw[EL];exact hv u (.tail _ hu)),Em];by_cases e:v.toNat=j
  ·have e2:v=(j:Int):=(by omega);subst e2;rw[D2 h1,D3 (List.mem_cons_self ..),D3 e,D3 hv0.2]
  ·by_cases hm:(j:Int)∈vs;·rw[D3 hm,D3 (.tail _ hm)]
   ·have hn2: ¬(j:Int)∈v::vs:=λh=>by
     rcases DQ.1 h with h|h;·exact e (by omega)
     ·exact hm h
    rw[D2 hm,D2 hn2,D2 e]
theorem jC {d:aa}(h:FewD d){vars:List Int}(hv:j4 d vars){i:Nat}(hi:i<vars.length)(x:Int):x∈iU d vars vars[i]↔∃g,Others (listsP d vars) g/\g i=x:=by
 have hL:(listsP d vars).getD i []=vals (domAt d vars[i]):=(by rw[eN h];simp[hi]);have hlen:(listsP d vars).length=vars.length:=D9 ..;unfold iU;rw[ES];constructor
 ·rintro⟨hx,he⟩;have hxr:=(h.at vars[i]).2.2 x hx;rw[wB (h.one _ hxr),fK,kA h hv hi hxr]at he;obtain⟨g,h1,h2⟩:=he;rw[EL]at h1 h2;have hgi:g i=x:=by
   have:=h1 i (by omega);rw[D0,Em,D3 Y,D3 (by omega)]at this;simpa using this
  refine⟨g,⟨λj hj=> ?_,h2⟩,hgi⟩;by_cases e:j=i;·subst e;rw[hL,hgi];exact hx
  ·have:=h1 j hj;rw[D0,Em,D2 (Ne.symm e),<-D0]at this;exact this
 ·rintro⟨g,⟨h1,h2⟩,rfl⟩;have hx:=h1 i (by omega);rw[hL]at hx;have hxr:=(h.at vars[i]).2.2 _ hx;refine⟨hx,?_⟩;rw[wB (h.one _ hxr),fK,kA h hv hi hxr];refine⟨g,λj hj=> ?_,λj k hj hk=> ?_⟩
  ·rw[EL]at hj;rw[D0,Em];by_cases e:i=j;·subst e;rw[D3 Y,D3 hj];simp
   ·rw[D2 e,<-D0];exact h1 j hj
  ·rw[EL]at hj hk;exact h2 j k hj hk
theorem xQ {l:List Int}(h:l≠[]):cX l≠[]:=by
 cases l with
 |nil=>exact DS rfl h
 |cons x l=>
  have: ∀(l:List Int) (lo x:Int),dL lo x l≠[]:=by
   intro l
   induction l with
   |nil=>intro lo x;simp[dL]
   |cons y l ih=>intro lo x;rw[dL];split;exact ih _ _;simp
  exact this l x x
theorem Ag {d:aa}(h:FewD d){vars:List Int}(hv:j4 d vars)(hne:vars≠[]):oP d vars=ij d vars:=by
 unfold oP ij;by_cases he: []∈d;·rw[D3 he,D3 he]
 rw[D2 he,D2 he];have hst:=xF h hv vars.length 0 d (by omega);rw[List.drop_zero]at hst;rw[hst];have hat:=λj=>kR (d:=d) (vars:=vars) (out:=d) j hv.1 hv.2;by_cases hm:(dn (listsP d vars)).2=true
 ·rw[D3 hm,D2];intro hem;obtain⟨j,hj⟩:=DI hem;rw[hat j]at hj;split at hj
  ·rename_i hjm;obtain⟨i,hi,e⟩:=FK hjm;obtain⟨g,hg⟩:=(fK _).1 hm;have hl:=(jC h hv hi (g i)).2 ⟨g,hg,rfl⟩;rw[e]at hl;exact xQ (λe2=>by rw[e2]at hl;cases hl) (D4 hj)
  ·exact he (D7 hj)
 ·rw[D2 hm,D3];cases hvs:vars with
  |nil=>exact DS hvs hne
  |cons v vs=>
   have hi:0<vars.length:=(by rw[hvs];simp);have hv0:=hv.2 _ (D8 hi);have hl:iU d vars vars[0]=[]:=by
    cases hl:iU d vars vars[0]with
    |nil=>rfl
    |cons x l=>
     obtain⟨g,hg,_⟩:=(jC h hv hi x).1 (by rw[hl];exact .head _);exact DS ((fK _).2 ⟨g,hg⟩) hm
   have:=hat vars[0].toNat;have e:((vars[0].toNat:Nat):Int)=vars[0]:=(by omega);rw[e,D3 (D8 hi),hl]at this;rw[<-hvs];exact D7 this
def badR (d:List (Int×Int))(i:Nat):Bool:= !aG (d.getD i (0,0)).1||(!aG (d.getD i (0,0)).2||(decide ((d.getD i (0,0)).1 > (d.getD i (0,0)).2)||(decide ((i:Int) > 0)&&decide ((d.getD i (0,0)).1-(d.getD (i-1) (0,0)).2<2))))
def sizeI (d:List (Int×Int)):Int:=(d.map λr=>r.2-r.1+1).sum
def chkR (d:List (Int×Int)):Int:=if(List.range d.length).any (badR d)then 20 else if sizeI d > 4096 then 2 else 0
theorem tX (d:List (Int×Int))(hl:d.length<=1048576):Spec Tryz.prog 31 false [dm d] [.val (.int .i64 (chkR d))]:=by
 refine Spec.body Tryz.func31 Y Y Y λw0 Z0=> ?_;generalize hR:chkR d=R;refine .B ?_;refine T.K (T.ind (λi:Nat=>⟨[(0,.val false (dm d)),(3,.val true (.int .i64 (sizeI (d.take i)))),(4,.val true (.int .i64 i))],[],0⟩) (λi=>i<=d.length/\(0<=sizeI (d.take i)/\sizeI (d.take i)<=i*4194304)/\∀j,j<i->badR d j=false) (λi=>d.length-i) 0 ⟨EG _,by simp[sizeI],λj hj=>DS hj (Eg j)⟩ (λ_ _ h=>h) ?_);rintro i ⟨hi,hn,hb⟩ ih;refine .B ?_;refine T.cd Y (λh1=> ?_) (λh1=> ?_)
 ·have h1:i<d.length:=(by simpa using h1);have hrow:(d.map cR)[((i:Nat):Int).toNat]? =some (cR (d.getD i (0,0))):=(by simp[h1,D0]);have hprev:0<i->(d.map cR)[(((i-1:Nat)):Int).toNat]? =some (cR (d.getD (i-1) (0,0)))/\aG (d.getD (i-1) (0,0)).2=true:=λh=>by
   refine⟨by rw[Dz,DG,D1 (show i-1<d.length by omega),D0,D1 (show i-1<d.length by omega)];rfl,?_⟩;have:=hb (i-1) (by omega);unfold badR at this;simp only[GN,Fg]at this;exact this.2.1
  have htk:sizeI (d.take (i+1))=sizeI (d.take i)+((d.getD i (0,0)).2-(d.getD i (0,0)).1+1):=by
   unfold sizeI;rw[DB h1,EP,List.sum_append,D0,D1 h1];simp
  have hno:badR d i=true->R=20:=λh=>by
   rw[<-hR];unfold chkR;rw[D3 (Ev.2 ⟨i,DO.2 h1,h⟩)]
  have hbd:badR d i=(!aG (d.getD i (0,0)).1||(!aG (d.getD i (0,0)).2||(decide ((d.getD i (0,0)).1 > (d.getD i (0,0)).2)||(decide ((i:Int) > 0)&&decide ((d.getD i (0,0)).1-(d.getD (i-1) (0,0)).2<2))))):=rfl;have ih1:=λhbi:badR d i=false=>λhs=>ih (i+1) ⟨by omega,hs,λj hj=>by
   by_cases e:j=i;·rw[e];exact hbi
   ·exact hb j (by omega)⟩ (by omega)
  have hw1:IntKind.i64.wrap ((i:Int)+1)=((i+1:Nat):Int):=(by rw[ac (by omega) (by omega)];omega);have hw2:0<i->IntKind.i64.wrap ((i:Int)-1)=((i-1:Nat):Int):=λh=>(by rw[ac (by omega) (by omega)];omega);generalize badR d i=bad at*;rw[htk]at ih1;generalize sizeI (d.take i)=n at*;generalize d.getD i (0,0)=r at*;generalize d.getD (i-1) (0,0)=p at*;obtain⟨lo,hi2⟩:=r;simp only at*;refine .B ?_;refine .F (r:=cR (lo,hi2)) hrow ?_;refine .C (kd lo) ?_;cases a1:aG lo
  ·refine .B ?_;refine T.ct Y ?_;refine .B ?_;rw[hno (by rw[hbd,a1];rfl)];exact r1
  ·refine .B ?_;refine .F (r:=cR (lo,hi2)) hrow ?_;refine .C (kd hi2) ?_;cases a2:aG hi2
   ·refine .B ?_;refine T.ct Y ?_;refine .B ?_;rw[hno (by rw[hbd,a1,a2];rfl)];exact r1
   ·have v1:=a1;have v2:=a2;simp only[aG,DM]at v1 v2;refine .B ?_;refine .F (r:=cR (lo,hi2)) hrow ?_;refine .F (r:=cR (lo,hi2)) hrow ?_;refine J.g Y Y Y (λh3=> ?_) (λh3=> ?_)
    ·refine .B ?_;refine T.ct Y ?_;refine .B ?_;rw[hno (by rw[hbd,a1,a2,DE h3];rfl)];exact r1
    ·have h3: ¬lo > hi2:=h3;refine .B ?_;refine J.g Y Y Y (λh4=> ?_) (λh4=> ?_)
     ·refine .B ?_;refine .F (r:=cR (lo,hi2)) hrow ?_;rw[hw2 (by omega)];refine .F (r:=cR p) (hprev (by omega)).1 ?_;have hpv:=(hprev (by omega)).2;simp only[aG,DM]at hpv;rw[ac (n:=lo-p.2) (by omega) (by omega)];refine T.cd Y (λh5=> ?_) (λh5=> ?_)
      ·refine .B ?_;rw[hno (by rw[hbd,a1,a2,DC h3,DE h4,DE h5];rfl)];exact r1
      ·refine .B ?_;refine .F (r:=cR (lo,hi2)) hrow ?_;refine .F (r:=cR (lo,hi2)) hrow ?_;have e1:IntKind.i64.wrap (hi2-lo)=hi2-lo:=ac (by omega) (by omega);have e2:IntKind.i64.wrap (hi2-lo+1)=hi2-lo+1:=ac (by omega) (by omega);have e3:IntKind.i64.wrap (n+(hi2-lo+1))=n+(hi2-lo+1):=ac (by omega) (by omega);rw[e1,e2,e3,hw1];exact T.K (ih1 (by rw[hbd,a1,a2,DC h3,DE h4,DC h5];rfl) (by omega))
     ·refine .B ?_;refine T.cf Y ?_;refine .B ?_;refine .F (r:=cR (lo,hi2)) hrow ?_;refine .F (r:=cR (lo,hi2)) hrow ?_;have e1:IntKind.i64.wrap (hi2-lo)=hi2-lo:=ac (by omega) (by omega);have e2:IntKind.i64.wrap (hi2-lo+1)=hi2-lo+1:=ac (by omega) (by omega);have e3:IntKind.i64.wrap (n+(hi2-lo+1))=n+(hi2-lo+1):=ac (by omega) (by omega);rw[e1,e2,e3,hw1];exact T.K (ih1 (by rw[hbd,a1,a2,DC h3,DC h4];rfl) (by omega))
 ·have h1:i=d.length:=(by simp at h1;omega);subst h1;rw[EI]at hn⊢;have hany:(List.range d.length).any (badR d)=false:=by
   rw[G3];intro j hj;rw[hb j (DO.1 hj)];simp
  unfold chkR at hR;rw[hany]at hR;simp only[EU,if_false]at hR;generalize sizeI d=n at*;refine .B ?_;refine T.cd Y (λh2=> ?_) (λh2=> ?_)
  ·rw[D3 h2]at hR;subst hR;refine .B ?_;exact r1
  ·rw[D2 h2]at hR;subst hR;refine .B ?_;exact r1
structure Takes {α:Type}(le:α->α->Prop)(good:α->Prop)(f:α->Option α):Prop where
 less: ∀a a',good a->f a=some a'->good a'/\le a' a
 mono: ∀a a' b,good a->good b->le a b->f a=some a'->∃b',f b=some b'/\le a' b'
structure Order (α:Type)(le:α->α->Prop)(good:α->Prop):Prop where
 refl: ∀a,le a a
 trans: ∀a b c,le a b->le b c->le a c
 anti: ∀a b,good a->good b->le a b->le b a->a=b
section
variable {α γ:Type}{le:α->α->Prop}{good:α->Prop}(O:Order α le good){f:γ->α->Option α}
def eE (f:γ->α->Option α)(l:List γ)(a:α):Prop:= ∀c∈l,f c a=some a
structure Come (le:α->α->Prop)(good:α->Prop)(f:γ->α->Option α)(l:List γ)(d a:α):Prop where
 fine:good a
 less:le a d
 keep: ∀e,good e->le e d->eE f l e->le e a
include O in
theorem Come.refl {l:List γ}{d:α}(hd:good d):Come le good f l d d:=⟨hd,O.refl d,λ_ _ h _=>h⟩
include O in
theorem Come.step {l:List γ}{d a a':α}{c:γ}(h:Come le good f l d a)(hc:c∈l)(ht:Takes le good (f c))(he:f c a=some a'):Come le good f l d a':=by
 obtain⟨h1,h2⟩:=ht.less a a' h.fine he;refine⟨h1,O.trans _ _ _ h2 h.less,λe ge le_ hs=> ?_⟩;obtain⟨b',hb,hle⟩:=ht.mono e e a ge h.fine (h.keep e ge le_ hs) (hs c hc);rw[he]at hb;exact D4 hb▸hle
theorem Come.none {l:List γ}{d a:α}{c:γ}(h:Come le good f l d a)(hc:c∈l)(ht:Takes le good (f c))(he:f c a=none): ¬∃e,good e/\le e d/\eE f l e:=by
 rintro⟨e,ge,hle,hs⟩;obtain⟨b',hb,_⟩:=ht.mono e e a ge h.fine (h.keep e ge hle hs) (hs c hc);rw[he]at hb;cases hb
def ep (le:α->α->Prop)(good:α->Prop)(f:γ->α->Option α)(l:List γ)(d:α):Option α->Prop
 |some a=>Come le good f l d a/\eE f l a
 |none=> ¬∃e,good e/\le e d/\eE f l e
include O in
theorem ep.one {l l':List γ}{d:α}{R R':Option α}(hl: ∀c,c∈l↔c∈l')(h:ep le good f l d R)(h':ep le good f l' d R'):R=R':=by
 have hst: ∀e,eE f l e↔eE f l' e:=λe=>⟨λh c hc=>h c ((hl c).2 hc),λh c hc=>h c ((hl c).1 hc)⟩;cases R with
 |none=>
  cases R' with
  |none=>rfl
  |some b=>exact DS ⟨b,h'.1.fine,h'.1.less,(hst b).2 h'.2⟩ h
 |some a=>
  cases R' with
  |none=>exact DS ⟨a,h.1.fine,h.1.less,(hst a).1 h.2⟩ h'
  |some b=>
   exact congrArg some (O.anti a b h.1.fine h'.1.fine (h'.1.keep a h.1.fine h.1.less ((hst a).1 h.2)) (h.1.keep b h'.1.fine h'.1.less ((hst b).2 h'.2)))
include O in
theorem ep.less {l l':List γ}{d d' a':α}{R:Option α}(hl: ∀c,c∈l->c∈l')(hd:le d' d)(h:ep le good f l d R)(h':ep le good f l' d' (some a')): ∃a,R=some a/\le a' a:=by
 have hs:eE f l a':=λc hc=>h'.2 c (hl c hc);have hle:=O.trans _ _ _ h'.1.less hd;cases R with
 |none=>exact DS ⟨a',h'.1.fine,hle,hs⟩ h
 |some a=>exact⟨a,rfl,h.1.keep a' h'.1.fine hle hs⟩
theorem ep.keeps {l:List γ}{d e:α}{R:Option α}(h:ep le good f l d R)(ge:good e)(hle:le e d)(hs:eE f l e): ∃a,R=some a/\le e a:=by
 cases R with
 |none=>exact DS ⟨e,ge,hle,hs⟩ h
 |some a=>exact⟨a,rfl,h.1.keep e ge hle hs⟩
theorem ep.takes {l:List γ}{F:α->Option α}(O:Order α le good)(h: ∀d,good d->ep le good f l d (F d)):Takes le good F:=by
 refine⟨λa a' ga he=> ?_,λa a' b ga gb hle he=> ?_⟩
 ·have:=h a ga;rw[he]at this;exact⟨this.1.fine,this.1.less⟩
 ·have h1:=h a ga;rw[he]at h1;exact ep.less O (λ_ h=>h) hle (h b gb) h1
theorem ep.fix {l:List γ}{F:α->Option α}(O:Order α le good)(h: ∀d,good d->ep le good f l d (F d)){a:α}(ga:good a):F a=some a↔eE f l a:=by
 constructor
 ·intro he;have:=h a ga;rw[he]at this;exact this.2
 ·intro hs;obtain⟨b,hb,hle⟩:=ep.keeps (h a ga) ga (O.refl a) hs;have:=h a ga;rw[hb]at this;rw[hb,O.anti b a this.1.fine ga this.1.less hle]
end
def leD (a b:aa):Prop:=a.length=b.length/\∀v x:Int,0<=v->x∈vals (domAt a v)->x∈vals (domAt b v)
structure GoodD (n:Nat)(d:aa):Prop where
 few:FewD d
 len:d.length=n
 some': []∉d
theorem pK {d:aa}{j:Nat}(h:j<d.length):domAt d (j:Int)=d[j]:=by
 unfold domAt;rw[D0,Dz,D1 h];rfl
theorem pX.mono {a b:aa}(h:leD a b){us:List Int}(h0: ∀u∈us,0<=u){P:List Int->Bool}{v x:Int}(hs: ∃f:Int->Int,(∀u∈us,f u∈vals (domAt a u))/\P (us.map f)=true/\f v=x): ∃f:Int->Int,(∀u∈us,f u∈vals (domAt b u))/\P (us.map f)=true/\f v=x:=by
 obtain⟨f,h1,h2,h3⟩:=hs;exact⟨f,λu hu=>h.2 u _ (h0 u hu) (h1 u hu),h2,h3⟩
structure SuppS (n:Nat)(us:List Int)(P:List Int->Bool)(f:aa->Option aa):Prop where
 ok: ∀d out,GoodD n d->f d=some out->GoodD n out/\(∀v∈us,∀x,x∈vals (domAt out v)↔∃g:Int->Int,(∀u∈us,g u∈vals (domAt d u))/\P (us.map g)=true/\g v=x)/\∀v,0<=v->v∉us->domAt out v=domAt d v
 no: ∀d,GoodD n d->f d=none->∀g:Int->Int,(∀u∈us,g u∈vals (domAt d u))->P (us.map g)=false
 in': ∀u∈us,0<=u/\u.toNat<n
 ne:us≠[]
theorem GoodD.ne {n:Nat}{d:aa}(h:GoodD n d){v:Int}(hv:v.toNat<n): ∃x,x∈vals (domAt d v):=by
 have hm:domAt d v∈d:=by
  unfold domAt;rw[D0,D1 (by rw[h.len];exact hv)];exact D8 _
 have hok:=(h.few.fine _ hm).ok;cases hd:domAt d v with
 |nil=>rw[hd]at hm;exact DS hm h.some'
 |cons r rest=>
  rw[hd]at hok;exact⟨r.1,aS.2 ⟨r,.head _,EW _,hok.1 r (.head _)⟩⟩
theorem SuppS.takes {n:Nat}{us:List Int}{P:List Int->Bool}{f:aa->Option aa}(h:SuppS n us P f):Takes leD (GoodD n) f:=by
 refine⟨λa a' ga he=> ?_,λa a' b ga gb hle he=> ?_⟩
 ·obtain⟨g1,h1,h2⟩:=h.ok a a' ga he;refine⟨g1,by rw[g1.len,ga.len],λv x h0 hx=> ?_⟩;by_cases hv:v∈us
  ·obtain⟨g,h3,_,rfl⟩:=(h1 v hv x).1 hx;exact h3 v hv
  ·rw[h2 v h0 hv]at hx;exact hx
 ·obtain⟨g1,h1,h2⟩:=h.ok a a' ga he;cases hb:f b with
  |none=>
   obtain⟨u,hu⟩:=F7 _ h.ne;have hun:=(h.in' u hu).2;obtain⟨x,hx⟩:=g1.ne hun;obtain⟨g,h3,h4,_⟩:=(h1 u hu x).1 hx;have:=h.no b gb hb g λw hw=>hle.2 w _ (h.in' w hw).1 (h3 w hw);rw[h4]at this;cases this
  |some b'=>
   obtain⟨g2,h3,h4⟩:=h.ok b b' gb hb;refine⟨b',rfl,by rw[g1.len,g2.len],λv x h0 hx=> ?_⟩;by_cases hv:v∈us;·exact(h3 v hv x).2 (pX.mono hle (λu hu=>(h.in' u hu).1) ((h1 v hv x).1 hx))
   ·rw[h2 v h0 hv]at hx;rw[h4 v h0 hv];exact hle.2 v x h0 hx
theorem CS {n:Nat}{vars:List Int}(hv:vars.Nodup/\∀v∈vars,0<=v/\v.toNat<n)(hne:vars≠[]):SuppS n vars (λl=>decide l.Nodup) λd=>ij d vars:=by
 have hV: ∀d,GoodD n d->j4 d vars:=λd hd=>⟨hv.1,λv hm=>by rw[hd.len];exact hv.2 v hm⟩;have ho: ∀d,GoodD n d->∀g:Int->Int,(∀u∈vars,g u∈vals (domAt d u))->(vars.map g).Nodup->Others (listsP d vars) λj=>g (vars.getD j 0):=λd hd g h1 h2=>by
  rw[eN hd.few];refine⟨λj hj=> ?_,λj k hj hk e=> ?_⟩
  ·rw[D9]at hj;have:=h1 _ (D8 hj);simpa[hj]using this
  ·rw[D9]at hj hk;have e:g (vars.getD j 0)=g (vars.getD k 0):=e;have e2:(vars.map g)[j]'(by simpa using hj)=(vars.map g)[k]'(by simpa using hk):=(by simpa[hj,hk]using e);exact(Fp h2).1 e2
 refine⟨λd out hd he=> ?_,λd hd he g hg=> ?_,?_,?_⟩
 ·unfold ij at he;split at he;·cases he
  ·split at he;·cases he
   ·rename_i hno;obtain rfl:=D4 he;have hat:=λj=>kR (d:=d) (vars:=vars) (out:=d) j hv.1 (hV d hd).2;have hdat: ∀v,v∈vars->domAt (i6 d vars vars d) v=cX (iU d vars v):=λv hm=>by
     have h0:=hv.2 v hm;have:=hat v.toNat;rw[show((v.toNat:Nat):Int)=v by omega,D3 hm]at this;unfold domAt;rw[D0,this];rfl
    refine⟨⟨⟨by rw[jx];exact hd.few.small,λx hx=> ?_,λx hx=> ?_⟩,by rw[jx,hd.len],hno⟩,λv hm x=> ?_,λv h0 hm=> ?_⟩
    ·obtain⟨j,hj⟩:=DI hx;rw[hat j]at hj;split at hj
     ·obtain⟨h1,h2,h3⟩:=lF hd.few vars (j:Int);exact D4 hj▸ku h1 h3 h2
     ·exact hd.few.fine x (D7 hj)
    ·obtain⟨j,hj⟩:=DI hx;rw[hat j]at hj;split at hj
     ·obtain⟨h1,h2,h3⟩:=lF hd.few vars (j:Int);rw[<-D4 hj,bI h1];exact h2
     ·exact hd.few.few x (D7 hj)
    ·rw[hdat v hm,bI (lF hd.few vars v).1];obtain⟨i,hi,rfl⟩:=FK hm;rw[jC hd.few (hV d hd) hi];have hlen:(listsP d vars).length=vars.length:=D9 ..;constructor
     ·rintro⟨g,⟨h1,h2⟩,rfl⟩;refine⟨λu=>g (vars.idxOf u),λu hu=> ?_,?_,?_⟩
      ·have hx:=GH hu;have:=h1 (vars.idxOf u) (by omega);rw[eN hd.few]at this;simpa[hx]using this
      ·refine DE (fB hv.1 λa ha b hb e=> ?_);have hxa:=GH ha;have hxb:=GH hb;have e2:=h2 _ _ (by omega) (by omega) e;have e3:vars[vars.idxOf a]=vars[vars.idxOf b]:=(by simp only[e2]);simpa using e3
      ·show g (vars.idxOf vars[i])=g i;congr 1;exact hv.1.idxOf_getElem i hi
     ·rintro⟨g,h1,h2,rfl⟩;refine⟨_,ho d hd g h1 (EZ h2),?_⟩;show g (vars.getD i 0)=_;rw[D0,D1 hi];rfl
    ·by_cases hl:v.toNat<d.length
     ·have:=hat v.toNat;rw[show((v.toNat:Nat):Int)=v by omega,D2 hm]at this;unfold domAt;rw[D0,D0,this]
     ·unfold domAt;rw[D0,D0,EQ (by rw[jx];omega),EQ (by omega)]
 ·refine DC λhn=> ?_;have hoo:=ho d hd g hg hn;unfold ij at he;rw[D2 hd.some']at he;split at he
  ·rename_i hem;obtain⟨j,hj⟩:=DI hem;rw[kR j hv.1 (hV d hd).2]at hj;split at hj
   ·rename_i hm;obtain⟨i,hi,e⟩:=FK hm;have:=(jC hd.few (hV d hd) hi _).2 ⟨_,hoo,rfl⟩;rw[e]at this;exact xQ (λe2=>by rw[e2]at this;cases this) (D4 hj)
   ·exact hd.some' (D7 hj)
  ·cases he
 ·exact hv.2
 ·exact hne
theorem jn {n:Nat}{a b:aa}(ga:GoodD n a)(gb:GoodD n b)(h: ∀v x:Int,0<=v->(x∈vals (domAt a v)↔x∈vals (domAt b v))):a=b:=by
 refine Fq (by rw[ga.len,gb.len]) λj h1 h2=> ?_;have h3:=h (j:Int);rw[pK h1,pK h2]at h3;have f1:=(ga.few.fine _ (D8 h1)).ok;have f2:=(gb.few.fine _ (D8 h2)).ok;rw[<-eI f1,<-eI f2,dD (aE f1) (aE f2) λx=>h3 x (by omega)]
theorem aY (n:Nat):Order aa leD (GoodD n):=by
 refine⟨λa=>⟨rfl,λ_ _ _ h=>h⟩,λa b c h1 h2=>⟨h1.1.trans h2.1,λv x h0 h=>h2.2 v x h0 (h1.2 v x h0 h)⟩,λa b ga gb h1 h2=> ?_⟩;exact jn ga gb λv x h0=>⟨h1.2 v x h0,h2.2 v x h0⟩
theorem SuppS.stays {n:Nat}{us:List Int}{P:List Int->Bool}{f:aa->Option aa}(h:SuppS n us P f){a b:aa}(ga:GoodD n a)(gb:GoodD n b)(ha:f a=some a)(hab: ∀u∈us,domAt a u=domAt b u):f b=some b:=by
 obtain⟨_,h1,_⟩:=h.ok a a ga ha;have hsupp: ∀v∈us,∀x,x∈vals (domAt b v)↔∃g:Int->Int,(∀u∈us,g u∈vals (domAt b u))/\P (us.map g)=true/\g v=x:=λv hv x=>by
  rw[<-hab v hv,h1 v hv x];constructor
  ·rintro⟨g,h2,h3,h4⟩;exact⟨g,λu hu=>by rw[<-hab u hu];exact h2 u hu,h3,h4⟩
  ·rintro⟨g,h2,h3,h4⟩;exact⟨g,λu hu=>by rw[hab u hu];exact h2 u hu,h3,h4⟩
 cases hb:f b with
 |none=>
  obtain⟨u,hu⟩:=F7 _ h.ne;obtain⟨x,hx⟩:=gb.ne (h.in' u hu).2;obtain⟨g,h2,h3,_⟩:=(hsupp u hu x).1 hx;have:=h.no b gb hb g h2;rw[h3]at this;cases this
 |some b'=>
  obtain⟨g',h2,h3⟩:=h.ok b b' gb hb;congr 1;refine jn g' gb λv x h0=> ?_;by_cases hv:v∈us;·rw[h2 v hv x,hsupp v hv x]
  ·rw[h3 v h0 hv]
theorem SuppS.point {n:Nat}{us:List Int}{P:List Int->Bool}{f:aa->Option aa}(h:SuppS n us P f){e:aa}(ge:GoodD n e)(g:Int->Int)(he: ∀u∈us,vals (domAt e u)=[g u]):f e=(if P (us.map g)=true then some e else none):=by
 have huniq: ∀g':Int->Int,(∀u∈us,g' u∈vals (domAt e u))->us.map g'=us.map g:=λg' hg'=>EV λu hu=>by
  have:=hg' u hu;rw[he u hu]at this;exact DF.1 this
 cases hf:f e with
 |none=>
  have:=h.no e ge hf g λu hu=>(by rw[he u hu];exact .head _);rw[this];rfl
 |some e'=>
  obtain⟨g',h2,h3⟩:=h.ok e e' ge hf;have hp:P (us.map g)=true:=by
   obtain⟨u,hu⟩:=F7 _ h.ne;obtain⟨x,hx⟩:=g'.ne (h.in' u hu).2;obtain⟨q,h4,h5,_⟩:=(h2 u hu x).1 hx;rw[<-huniq q h4];exact h5
  rw[D3 hp];congr 1;refine jn g' ge λv x h0=> ?_;by_cases hv:v∈us
  ·rw[h2 v hv x,he v hv,DF];constructor
   ·rintro⟨q,h4,_,rfl⟩;have:=h4 v hv;rw[he v hv]at this;exact DF.1 this
   ·rintro rfl;exact⟨g,λu hu=>by rw[he u hu];exact .head _,hp,rfl⟩
  ·rw[h3 v h0 hv]
def atR (a:List Int)(v:Int):Int:=if v<0 then 0 else a.getD v.toNat 0
theorem B0 (a:List Int)(v:Int)(hl:a.length*8<=140737488355328):Spec Tryz.prog 53 false [ao a,.int .i64 v] [.val (.int .i64 (atR a v))]:=by
 refine Spec.body Tryz.func53 Y Y Y λw0 Z0=> ?_;unfold atR;refine .B ?_;refine J.g Y Y Y (λh=> ?_) (λh=> ?_)
 ·refine .B ?_;refine T.ct Y ?_;refine .B ?_;exact⟨_,.v Y Y (by rw[D3 h]) (λ_=>rfl) .nil⟩
 ·refine .B ?_;refine T.cd Y (λh2=> ?_) (λh2=> ?_)
  ·refine .B ?_;refine⟨_,.v Y Y ?_ (λ_=>rfl) .nil⟩;rw[D2 h,D0,EQ (by simp at h2;omega)];rfl
  ·have h2:v.toNat<a.length:=(by simp at h2;omega);refine .B ?_;refine J.i Y Y Y Y Y Y Y Y Y (r:=cI a[v.toNat]) (by omega) (aK h2) Y ?_;refine .B ?_;refine⟨_,.v Y Y ?_ (λ_=>rfl) .nil⟩;rw[D2 h,D0,D1 h2];rfl
def pickedR (vars a:List Int):List Int:=vars.map (atR a)
def du (op n rhs:Int):Bool:=if op=0 then decide (n<=rhs)else(decide (n=rhs)==decide (op=1))
def sumW (vars coefs a:List Int):Int:=(vars.zip coefs).foldl (λn p=>IntKind.i64.wrap (n+IntKind.i64.wrap (p.2*atR a p.1))) 0
theorem yG (vars coefs a:List Int)(hv:vars.length*8<=140737488355328)(hc:coefs.length*8<=140737488355328)(hl:a.length*8<=140737488355328):Spec Tryz.prog 49 false [ao vars,ao coefs,ao a] [.val (.int .i64 (sumW vars coefs a))]:=by
 refine Spec.body Tryz.func49 Y Y Y λw0 Z0=> ?_;refine .B ?_;refine T.K (T.ind (λi:Nat=>⟨[(0,.val false (ao vars)),(1,.val false (ao coefs)),(2,.val false (ao a)),(7,.val true (.int .i64 (sumW (vars.take i) (coefs.take i) a))),(8,.val true (.int .i64 i))],[],0⟩) (λi=>i<=vars.length/\i<=coefs.length) (λi=>vars.length-i) 0 (by simp) (λ_ _ h=>h) ?_);rintro i ⟨hi,hi2⟩ ih;have fin: ∀(h:i=vars.length∨i=coefs.length),sumW (vars.take i) (coefs.take i) a=sumW vars coefs a:=by
  intro h;unfold sumW;rw[List.zip_eq_zipWith,List.zip_eq_zipWith,<-List.take_zipWith,DU];simp;omega
 refine .B ?_;refine J.g Y Y Y (λh=> ?_) (λh=> ?_)
 ·have h:i<vars.length:=(by simpa using h);refine .B ?_;refine T.cd Y (λh1=> ?_) (λh1=> ?_)
  ·have h1:i<coefs.length:=(by simpa using h1);refine .B ?_;refine .F (r:=cI coefs[i]) (aK h1) ?_;refine .F (r:=cI vars[i]) (aK h) ?_;refine .D (B0 a vars[i] hl) ?_;have e:IntKind.i64.wrap (sumW (vars.take i) (coefs.take i) a+IntKind.i64.wrap (coefs[i]*atR a vars[i]))=sumW (vars.take (i+1)) (coefs.take (i+1)) a:=by
    unfold sumW;rw[DB h,DB h1,HQ (by simp;omega),HC];rfl
   rw[e,aj (l:=vars.length) (by omega) (by omega)];exact T.K (ih (i+1) ⟨by omega,by omega⟩ (by omega))
  ·refine .B ?_;refine⟨_,.v Y Y (by rw[fin];simp at h1;omega) (λ_=>rfl) .nil⟩
 ·refine .B ?_;refine T.cf Y ?_;refine .B ?_;refine⟨_,.v Y Y (by rw[fin];simp at h;omega) (λ_=>rfl) .nil⟩
def dx:List Int->List Int->Int
 | [],[]=>0
 | [],_::_=> -1
 |_::_,[]=>1
 |x::xs,y::ys=>if x<y then -1 else if y<x then 1 else dx xs ys
def w6 (vars a:List Int):Bool:=decide (dx ((pickedR vars a).take (vars.length / 2)) ((pickedR vars a).drop (vars.length / 2))<=0)
def sC (p:Int×Int):Bool:=(decide (p.2=1)&&decide (p.1=1))||(decide (p.2= -1)&&decide (p.1=0))
def rF (l:List Int):Bool:=decide (2<=l.length)&&decide (0<=l.getD 0 0)&&decide (l.getD 0 0+2<l.length)&&decide (l.getD (l.getD 0 0+2).toNat 0=l.getD 1 0)
def soR (c:Con)(a:List Int):Bool:=du c.op (sumW c.vars c.coefs a) c.rhs
def aV (c:Con)(a:List Int):Bool:=
 if c.kind=0 then soR c a else
 if c.kind=1 then decide ((aW (pickedR c.vars a)).length=(pickedR c.vars a).length)else
 if c.kind=2 then c.rows.any λr=>decide (r=pickedR c.vars a)else
 if c.kind=3 then rF (pickedR c.vars a)else
 if c.kind=4 then(soR c a&&decide (atR a c.b=1))||(!soR c a&&decide (atR a c.b=0))else
 if c.kind=5 then((pickedR c.vars a).zip c.coefs).any sC else
 w6 c.vars a
def bj (d:aa):Nat->List (List Int)
 |0=>[[]]
 |n+1=>(bj d n).flatMap λa=>(vals (d.getD n [])).map λv=>a++[v]
theorem ro (d:aa): ∀(n:Nat) (a:List Int),a∈bj d n->a.length=n
 |0,a,h=>by simp[bj]at h;simp[h]
 |n+1,a,h=>by
  simp only[bj,FR,DD]at h;obtain⟨b,hb,v,_,rfl⟩:=h;simp[ro d n b hb]
def cutW (x:List (Int×Int))(k rest:Int):List (Int×Int):=if 0<k then domCut x (-1048576) (gB rest k)else domCut x (wr (0-gB rest (wr (0-k)))) 1048576
theorem sS {x:List (Int×Int)}(h:ay x)(k rest:Int):ay (cutW x k rest)/\∀v,v∈vals (cutW x k rest)->v∈vals x:=by
 unfold cutW;split;·exact⟨(bQ h _ _).1,λv hv=>(((bQ h _ _).2 v).1 hv).1⟩
 ·exact⟨(bQ h _ _).1,λv hv=>(((bQ h _ _).2 v).1 hv).1⟩
theorem rH {x:List (Int×Int)}(h:Fine x)(k rest:Int):Fine (cutW x k rest):=h.cut (sS h.ok k rest).1 (sS h.ok k rest).2
def gG (low rhs:Int)(x:List (Int×Int))(k:Int):Int:=wr (rhs-wr (low-(endW x k false).1))
def eL (low rhs:Int):List (Int×Int)->aa->Bool->aa×Bool×Bool
 | [],d,ch=>(d,ch,true)
 |(v,k)::l,d,ch=>
  if cutW (domAt d v) k (gG low rhs (domAt d v) k)=[]then(d,false,false)
  else eL low rhs l (d.set v.toNat (cutW (domAt d v) k (gG low rhs (domAt d v) k))) (ch|| !decide (cutW (domAt d v) k (gG low rhs (domAt d v) k)=domAt d v))
def mostW (d:aa)(vars coefs:List Int)(rhs:Int):aa×Bool×Bool:=eL (endsW d vars coefs).1 rhs (vars.zip coefs) d false
structure SumFine (d:aa)(vars coefs:List Int):Prop where
 len:vars.length=coefs.length
 vl:vars.length*8<=140737488355328
 vin: ∀v∈vars,0<=v/\v.toNat<d.length
 ck: ∀k∈coefs,CoefOk k
 dom: ∀x∈d,Fine x
 dl:d.length*24<=140737488355328
theorem SumFine.in_ {d:aa}{vars coefs:List Int}(h:SumFine d vars coefs):SumIn d vars coefs:=⟨h.len,h.vl,h.vin,h.ck,λx hx=>(h.dom x hx).domB,h.dl⟩
theorem iq {d:aa}{i:Nat}{x:List (Int×Int)}{p:List (Int×Int)->Prop}(h: ∀z∈d,p z)(hx:p x): ∀z∈d.set i x,p z:=by
 intro z hz;rcases DV hz with hz|rfl;·exact h z hz
 ·exact hx
theorem pa (d:aa)(vars coefs:List Int)(rhs:Int)(h:SumFine d vars coefs):
  SpecM Tryz.prog 202 54 1 (d.map cD) [ao vars,ao coefs,.int .i64 rhs] ((mostW d vars coefs rhs).1.map cD) [.bool (mostW d vars coefs rhs).2.1,.bool (mostW d vars coefs rhs).2.2]:=by
 refine SpecM.body Tryz.func202 Y Y Y (by simp[PV.flat]) λw0 v0 Z1=> ?_;have hends:=pg d vars coefs h.in_;obtain⟨hlen,hvl,hvin,hck,hdom,hdl⟩:=h;unfold mostW;generalize endsW d vars coefs=es at*;obtain⟨low,high,is⟩:=es;simp only at hends⊢;generalize hres:eL low rhs (vars.zip coefs) d false=res;refine .B ?_;refine .D hends ?_;refine T.K (T.ind (λs:Nat×aa×Bool=>⟨[(0,.ref 0),(2,.val false (ao coefs)),(3,.val false (.int .i64 rhs)),(10,.val true (.int .i64 low)),(13,.val true (.bool s.2.2)),(29,.val false (ao vars)),(30,.val true (.int .i64 (vars.map cI).length)),(31,.val true (.int .i64 s.1))],[(0,some (.sl 54 1 true (s.2.1.map cD)))],1⟩)
  (λs=>s.1<=vars.length/\eL low rhs ((vars.zip coefs).drop s.1) s.2.1 s.2.2=res/\s.2.1.length=d.length/\∀x∈s.2.1,Fine x) (λs=>vars.length-s.1) (0,d,false) ⟨by simp,hres,rfl,hdom⟩ (λ_ _ h=>h) ?_)
 rintro⟨i,d1,ch⟩ ⟨hil,he,hl1,hf1⟩ ih;simp only at hil he hl1 hf1;dsimp only;refine .B ?_;refine T.cd Y (λh1=> ?_) (λh1=> ?_)
 ·have h1:i<vars.length:=(by simpa using h1);have h2:i<coefs.length:=(by omega);have hv:=hvin _ (D8 h1);have hk:=hck _ (D8 h2);have hk2:=fV hk;have hvd:vars[i].toNat<d1.length:=(by omega);have hx:=hf1 _ (af hvd);have hrow:(d1.map cD)[vars[i].toNat]? =some (cD (domAt d1 vars[i])):=(by simp[ak hvd]);have hz:i<(vars.zip coefs).length:=(by simp;omega);rw[DP hz,Gq,eL]at he;have hend:=jB (domAt d1 vars[i]) coefs[i] false hx.domB hk;have hfl:coefs[i]≠0:=hk.1;have hng:IntKind.i64.wrap (0-coefs[i])≠0:=(by rw[ac (by omega) (by omega)];omega);have hfine:=rH hx coefs[i] (gG low rhs (domAt d1 vars[i]) coefs[i]);have hdc:=λlo hi=>(gq (domAt d1 vars[i]) lo hi (by have:=hx.len;omega)).frz;have hcw:cutW (domAt d1 vars[i]) coefs[i] (gG low rhs (domAt d1 vars[i]) coefs[i])=if 0<coefs[i]then domCut (domAt d1 vars[i]) (-1048576) (gB (gG low rhs (domAt d1 vars[i]) coefs[i]) coefs[i])else domCut (domAt d1 vars[i]) (wr (0-gB (gG low rhs (domAt d1 vars[i]) coefs[i]) (wr (0-coefs[i])))) 1048576:=rfl
  have hsame:=λx hxl=>d8 x (domAt d1 vars[i]) hxl;generalize cutW (domAt d1 vars[i]) coefs[i] (gG low rhs (domAt d1 vars[i]) coefs[i])=cx at*;unfold gG at hcw;generalize endW (domAt d1 vars[i]) coefs[i] false=e1 at*;generalize hvi:vars[i]=v at*;generalize hki:coefs[i]=k at*;generalize domAt d1 v=dv at*;refine .B ?_;refine J.i Y Y Y Y Y Y Y Y Y (r:=cI v) (by omega) (by rw[<-hvi];exact aK h1) Y ?_;refine .B ?_;refine J.i Y Y Y Y Y Y Y Y Y (r:=cI k) (by omega) (by rw[<-hki];exact aK h2) Y ?_;refine .B ?_;refine J.io Y Y Y Y Y Y Y Y Y hv.1 (by simpa using hvd) Y ?_;refine J.lo Y Y Y Y Y Y (r:=cD dv) hrow Y ?_;refine .B ?_;refine .D hend ?_;refine J.io Y Y Y Y Y Y Y Y Y hv.1 (by simpa using hvd) Y ?_;refine J.lo Y Y Y Y Y Y (r:=cD dv) hrow Y ?_
  repeat' first|refine J.e Y Y Y Y ?_|refine J.skip Y Y Y ?_|refine J.bx Y Y Y Y Y Y ?_
  refine J.nil ?_;refine T.mid ⟨[(0,.ref 0),(2,.val false (ao coefs)),(3,.val false (.int .i64 rhs)),(10,.val true (.int .i64 low)),(13,.val true (.bool ch)),(29,.val false (ao vars)),(30,.val true (.int .i64 (vars.map cI).length)),(31,.val true (.int .i64 i)),(15,.val true (.int .i64 v)),(20,.val true (dm cx))],[(0,some (.sl 54 1 true (d1.map cD)))],1⟩ ?_ ?_
  ·refine .B ?_;refine T.cd Y (λh3=> ?_) (λh3=> ?_)
   ·have h3:0<k:=h3;rw[D3 h3]at hcw;refine .B ?_;refine J.cc Y Y Y Y Y (pC _ k hfl) Y Y ?_;refine J.cc Y Y Y Y Y (hdc _ _) Y Y ?_;rw[hcw];refine .B ?_;exact⟨rfl,[0,2,3,10,13,29,30,31,15,20],[0],rfl,rfl⟩
   ·have h3: ¬0<k:=h3;rw[D2 h3]at hcw;refine .B ?_;refine J.cc Y Y Y Y Y (pC _ _ hng) Y Y ?_;refine .B ?_;refine J.cc Y Y Y Y Y (hdc _ _) Y Y ?_;rw[hcw];refine .B ?_;exact⟨rfl,[0,2,3,10,13,29,30,31,15,20],[0],rfl,rfl⟩
  ·clear hcw;refine .B ?_;refine T.cd Y (λh4=> ?_) (λh4=> ?_)
   ·have h4:cx=[]:=(by simp at h4;exact h4);rw[D3 h4]at he;subst he;refine .B ?_;exact⟨.v Y Y Y (λh=>by cases h) (.v rfl rfl rfl (λh=>by cases h) .nil),_,rfl,rfl⟩
   ·have h4:cx≠[]:=λe=>h4 (by rw[e];rfl);rw[D2 h4]at he;have hset:=iq (p:=Fine) (i:=v.toNat) hf1 hfine;cases ch
    ·refine .B ?_;refine J.io Y Y Y Y Y Y Y Y Y hv.1 (by simpa using hvd) Y ?_;refine J.lo Y Y Y Y Y Y (r:=cD dv) hrow Y ?_;refine .B ?_;refine .D (hsame cx (by have:=hfine.len;omega)) ?_;refine J.io Y Y Y Y Y Y Y Y Y hv.1 (by simpa using hvd) Y ?_;refine J.w1 Y Y Y Y Y Y Y Y Y Y Y (λ_=>rfl) hvd ?_;refine .B ?_;rw[aj (l:=vars.length) (by omega) (by omega)];exact T.K (ih (i+1,d1.set v.toNat cx,!decide (cx=dv)) ⟨by simp only;omega,he,by simp[hl1],hset⟩ (by simp only;omega))
    ·refine .B ?_;refine J.io Y Y Y Y Y Y Y Y Y hv.1 (by simpa using hvd) Y ?_;refine J.w1 Y Y Y Y Y Y Y Y Y Y Y (λ_=>rfl) hvd ?_;refine .B ?_;rw[aj (l:=vars.length) (by omega) (by omega)];exact T.K (ih (i+1,d1.set v.toNat cx,true) ⟨by simp only;omega,he,by simp[hl1],hset⟩ (by simp only;omega))
 ·have h1:i=vars.length:=(by simp at h1;omega);subst h1;rw[Et (by simp;omega),eL]at he;subst he;refine .B ?_;exact⟨.v Y Y Y (λh=>by cases h) (.v rfl rfl rfl (λh=>by cases h) .nil),_,rfl,rfl⟩
def f8 (i:Nat):Nat->List (List (Int×Int)×Int)->Int->Int
 |_,[],n=>n
 |k,t::ts,n=>f8 i (k+1) ts (if k=i then n else wr (n+(CD t.1 t.2).1))
def Ca (x:List Int)(k rhs rest:Int):List Int:=x.filter λv=>decide (wr (k*v)<=wr (rhs-rest))
def sk (d:aa)(vars coefs:List Int)(rhs:Int)(i:Nat):List (Int×Int):=cX (Ca (vals (domAt d (vars.getD i 0))) (coefs.getD i 0) rhs (f8 i 0 (ab d vars coefs) 0))
def kw (d:aa)(vars coefs:List Int)(rhs:Int):Nat->aa
 |0=>d
 |n+1=>(kw d vars coefs rhs n).set (vars.getD n 0).toNat (sk d vars coefs rhs n)
theorem aN {l:List Int}{i:Nat}(h:i<l.length):l.getD i 0=l[i]:=by simp[D0,D1 h]
def bM:List (Int×Int)->Int->Int->List (Int×Int)->Int×List (Int×Int)
 | [],lo,hi,out=>(lo,out)
 |y::b,lo,hi,out=>if y.2<lo∨hi<y.1 then bM b lo hi out else bM b (wr (y.2+1)) hi (if lo<y.1 then out++[(lo,wr (y.1-1))]else out)
def cA (b:List (Int×Int))(out:List (Int×Int))(x:Int×Int):List (Int×Int):=if(bM b x.1 x.2 out).1<=x.2 then(bM b x.1 x.2 out).2++[((bM b x.1 x.2 out).1,x.2)]else(bM b x.1 x.2 out).2
def dX (a b:List (Int×Int)):List (Int×Int):=a.foldl (cA b) []
theorem kx (a b:List (Int×Int))(hb:b.length*8<=140737488355328)(hl:(a.length+1)*(b.length+1)*16<=140737488355328):Spec Tryz.prog 142 false [dm a,dm b] [.own 53 2 ((dX a b).map cR)]:=by
 refine Spec.body Tryz.func142 Y Y Y λw0 Z0=> ?_;have hal:a.length*8<=140737488355328:=by
  have:a.length+1<=(a.length+1)*(b.length+1):=Gb _ (by omega);omega
 refine .B ?_;refine T.sub (Rel.own0 (s:=5) 53 2 Y) ?_;refine T.K (T.ind (λs:Nat×List (Int×Int)=>⟨[(1,.val false (dm b)),(5,.ref 0),(10,.val false (dm a)),(11,.val true (.int .i64 (a.map cR).length)),(12,.val true (.int .i64 s.1))],[(0,some (.sl 53 2 true (s.2.map cR)))],1⟩)
  (λs=>s.1<=a.length/\(a.drop s.1).foldl (cA b) s.2=dX a b/\s.2.length<=s.1*(b.length+1)) (λs=>a.length-s.1) (0,[]) ⟨by simp,rfl,by simp⟩ (λ_ _ h=>h) ?_)
 rintro⟨n,out⟩ ⟨hn,he,hlo⟩ ih;simp only at hn he hlo;dsimp only;refine .B ?_;refine T.cd Y (λh1=> ?_) (λh1=> ?_)
 ·have h1:n<a.length:=(by simpa using h1);rw[DP h1,DX]at he;have hmul:(n+1)*(b.length+1)<=(a.length+1)*(b.length+1):=EM _ (by omega);have hmul2:(n+1)*(b.length+1)=n*(b.length+1)+(b.length+1):=(by rw[FX,Nat.one_mul]);have hr:(a.map cR)[((n:Nat):Int).toNat]? =some (cR a[n]):=aK h1;generalize a[n]=x at*;obtain⟨lo0,hi⟩:=x;refine .B ?_;refine .F (r:=cR (lo0,hi)) hr ?_;refine .L ?_;refine .B ?_;refine .X ?_;refine T.K (T.ind (λs:Nat×Int×List (Int×Int)=>⟨[(1,.val false (dm b)),(5,.ref 0),(7,.optr 1 0 0 0),(10,.val false (dm a)),(11,.val true (.int .i64 (a.map cR).length)),(12,.val true (.int .i64 n)),(16,.val false (dm b)),(17,.val true (.int .i64 (b.map cR).length)),(18,.val true (.int .i64 s.1))],[(0,some (.sl 53 2 true (s.2.2.map cR))),(1,some (.box false (cR (s.2.1,hi))))],2⟩)
   (λs=>s.1<=b.length/\bM (b.drop s.1) s.2.1 hi s.2.2=bM b lo0 hi out/\s.2.2.length<=out.length+s.1) (λs=>b.length-s.1) (0,lo0,out) ⟨by simp,rfl,by simp⟩ (λ_ _ h=>h) ?_)
  rintro⟨m,lo,out2⟩ ⟨hm,he2,hlo2⟩ ih2;simp only at hm he2 hlo2;dsimp only;refine .B ?_;refine T.cd Y (λh2=> ?_) (λh2=> ?_)
  ·have h2:m<b.length:=(by simpa using h2);rw[DP h2,bM]at he2;have hr2:(b.map cR)[((m:Nat):Int).toNat]? =some (cR b[m]):=aK h2;generalize b[m]=y at*;obtain⟨y1,y2⟩:=y;simp only at he2;have skip:(y2<lo∨hi<y1)->bM (b.drop (m+1)) lo hi out2=bM b lo0 hi out:=λh=>(by rw[D3 h]at he2;exact he2);have keep: ¬(y2<lo∨hi<y1)->bM (b.drop (m+1)) (wr (y2+1)) hi (if lo<y1 then out2++[(lo,wr (y1-1))]else out2)=bM b lo0 hi out:=λh=>(by rw[D2 h]at he2;exact he2);refine .B ?_;refine .F (r:=cR (y1,y2)) hr2 ?_;refine .L ?_;refine .B ?_;refine .X ?_;refine J.g Y Y Y (λh3=> ?_) (λh3=> ?_)
   ·have h3:y2<lo:=h3;refine .B ?_;refine T.ct Y ?_;refine .B ?_;rw[aj (l:=b.length) (by omega) (by omega)];exact T.K (ih2 (m+1,lo,out2) ⟨by simp only;omega,skip (.inl h3),by simp only;omega⟩ (by simp only;omega))
   ·have h3: ¬y2<lo:=h3;refine .B ?_;refine T.cd Y (λh4=> ?_) (λh4=> ?_)
    ·have h4:hi<y1:=h4;refine .B ?_;rw[aj (l:=b.length) (by omega) (by omega)];exact T.K (ih2 (m+1,lo,out2) ⟨by simp only;omega,skip (.inr h4),by simp only;omega⟩ (by simp only;omega))
    ·have h4: ¬hi<y1:=h4;have keep:=keep (λh=>h.elim h3 h4);refine .B ?_;refine T.cd Y (λh5=> ?_) (λh5=> ?_)
     ·have h5:lo<y1:=h5;rw[D3 h5]at keep;refine .B ?_;refine .V ?_;refine J.aR Y Y Y Y Y Y Y Y Y Y Y Y Y Y Y Y Y Y Y (a:=lo) (b:=IntKind.i64.wrap (y1-1)) (by omega) ?_;refine .B ?_;refine .X ?_;rw[aj (l:=b.length) (by omega) (by omega)];exact T.K (ih2 (m+1,wr (y2+1),out2++[(lo,wr (y1-1))]) ⟨by simp only;omega,keep,by simp;omega⟩ (by simp only;omega))
     ·have h5: ¬lo<y1:=h5;rw[D2 h5]at keep;refine .B ?_;refine .X ?_;rw[aj (l:=b.length) (by omega) (by omega)];exact T.K (ih2 (m+1,wr (y2+1),out2) ⟨by simp only;omega,keep,by simp only;omega⟩ (by simp only;omega))
  ·have h2:m=b.length:=(by simp at h2;omega);subst h2;rw[En,bM]at he2;clear ih2;have hmo:cA b out (lo0,hi)=if lo<=hi then out2++[(lo,hi)]else out2:=by
    unfold cA;simp only[<-he2]
   rw[hmo]at he;refine .B ?_;refine T.cd Y (λh5=> ?_) (λh5=> ?_)
   ·have h5:lo<=hi:=h5;rw[D3 h5]at he;refine .B ?_;refine .V ?_;refine J.aR Y Y Y Y Y Y Y Y Y Y Y Y Y Y Y Y Y Y Y (by omega) ?_;refine J.sub (Rel.flat (o:=2) Y sJ) ?_;refine .B ?_;rw[aj (l:=a.length) (by omega) (by omega)];exact T.K (ih (n+1,out2++[(lo,hi)]) ⟨by simp only;omega,he,by simp;omega⟩ (by simp only;omega))
   ·have h5: ¬lo<=hi:=h5;rw[D2 h5]at he;refine .B ?_;rw[aj (l:=a.length) (by omega) (by omega)];exact T.K (ih (n+1,out2) ⟨by simp only;omega,he,by simp only;omega⟩ (by simp only;omega))
 ·have h1:n=a.length:=(by simp at h1;omega);subst h1;rw[En,HS]at he;subst he;refine .B ?_;exact⟨_,.o Y Y Y (λ_=> .inl Y) (by simp) .nil⟩
def c8:Nat->List (List (Int×Int)×Int)->Int->Int->Option (Int×Int)
 |_,[],op,s=>some (op,s)
 |i,t::ts,op,s=>if 1<fG t.1 then(if 0<=op then none else c8 (i+1) ts i s)else c8 (i+1) ts op (wr (s+(endW t.1 t.2 false).1))
def otherW (d:aa)(c:Con):aa×Bool:=
 match c8 0 (ab d c.vars c.coefs) (-1) 0 with
 |none=>(d,true)
 |some (op,s)=>
  if op<0 then(d,decide (s≠c.rhs))else
  if(wr (c.rhs-s)).tmod (coefAt c op.toNat)=0 then
   (d.set (varAt c op.toNat).toNat (dX (domAt d (varAt c op.toNat)) [(wr ((wr (c.rhs-s)).tdiv (coefAt c op.toNat)),wr ((wr (c.rhs-s)).tdiv (coefAt c op.toNat)))]),
    decide (0<(dX (domAt d (varAt c op.toNat)) [(wr ((wr (c.rhs-s)).tdiv (coefAt c op.toNat)),wr ((wr (c.rhs-s)).tdiv (coefAt c op.toNat)))]).length))
  else(d,decide (0<(domAt d (varAt c op.toNat)).length))
theorem kv: ∀(ts:List (List (Int×Int)×Int)) (i:Nat) (op s op' s':Int) (n:Nat),op<n->i+ts.length<=n->c8 i ts op s=some (op',s')->op'<n
 | [],i,op,s,op',s',n,h,_,e=>by
  simp only[c8,D6,Prod.mk.injEq]at e;omega
 |t::ts,i,op,s,op',s',n,h,hn,e=>by
  simp only[E0]at hn;rw[c8]at e;split at e
  ·split at e;·cases e
   ·exact kv ts (i+1) i s op' s' n (by omega) (by omega) e
  ·exact kv ts (i+1) op _ op' s' n h (by omega) e
theorem uI (d:aa)(c:Con)(h:SumFine d c.vars c.coefs)(hsm: ∀x∈d,x.length*64+1048576<=140737488355328):
  SpecM Tryz.prog 200 54 1 (d.map cD) [.agg (cC c)] ((otherW d c).1.map cD) [.bool (otherW d c).2]:=by
 refine SpecM.body Tryz.func200 Y Y Y (by simp[PV.flat]) λw0 v0 Z1=> ?_;obtain⟨hlen,hvl,hvin,hck,hdom,hdl⟩:=h;have hin:=kv (ab d c.vars c.coefs) 0 (-1) 0;generalize hgo:c8 0 (ab d c.vars c.coefs) (-1) 0=go at hin;refine .B ?_;refine T.K (T.ind (λs:Nat×Int×Int=>⟨[(0,.ref 0),(3,.optr 1 0 0 0),(5,.val true (.int .i64 s.2.1)),(6,.val true (.int .i64 s.2.2)),(15,.val false (ao c.vars)),(16,.val true (.int .i64 (c.vars.map cI).length)),(17,.val true (.int .i64 s.1))],[(0,some (.sl 54 1 true (d.map cD))),(1,some (.box false (cC c)))],2⟩)
  (λs=>s.1<=c.vars.length/\c8 s.1 ((ab d c.vars c.coefs).drop s.1) s.2.1 s.2.2=go) (λs=>c.vars.length-s.1) (0,-1,0) ⟨by simp,hgo⟩ (λ_ _ h=>h) ?_)
 rintro⟨i,op,s⟩ ⟨hil,he⟩ ih;simp only at hil he;dsimp only;refine .B ?_;refine T.cd Y (λh1=> ?_) (λh1=> ?_)
 ·have h1:i<c.vars.length:=(by simpa using h1);have h2:i<c.coefs.length:=(by omega);have hv:=hvin _ (D8 h1);have hk:=hck _ (D8 h2);have hx:=hdom _ (af hv.2);have hrow:(d.map cD)[c.vars[i].toNat]? =some (cD (domAt d c.vars[i])):=(by simp[ak hv.2]);rw[oe h1 h2,c8]at he;refine .B ?_;refine .F (r:=cI c.vars[i]) (aK h1) ?_;refine J.io Y Y Y Y Y Y Y Y Y hv.1 (by simpa using hv.2) Y ?_;refine J.lo Y Y Y Y Y Y (r:=cD (domAt d c.vars[i])) hrow Y ?_;refine .D (gF (domAt d c.vars[i]) (by have:=hx.len;omega)) ?_;refine T.cd Y (λh3=> ?_) (λh3=> ?_)
  ·have h3:1<fG (domAt d c.vars[i]):=h3;rw[D3 h3]at he;refine .B ?_;refine T.cd Y (λh4=> ?_) (λh4=> ?_)
   ·have h4:0<=op:=h4;rw[D3 h4]at he;subst he;have ho:otherW d c=(d,true):=(by unfold otherW;rw[hgo]);rw[ho];refine .B ?_;exact⟨.v Y Y Y (λh=>by cases h) .nil,_,rfl,rfl⟩
   ·have h4: ¬0<=op:=h4;rw[D2 h4]at he;refine .B ?_;rw[aj (l:=c.vars.length) (by omega) (by omega)];exact T.K (ih (i+1,i,s) ⟨by simp only;omega,he⟩ (by simp only;omega))
  ·have h3: ¬1<fG (domAt d c.vars[i]):=h3;rw[D2 h3]at he;refine .B ?_;refine J.io Y Y Y Y Y Y Y Y Y hv.1 (by simpa using hv.2) Y ?_;refine J.lo Y Y Y Y Y Y (r:=cD (domAt d c.vars[i])) hrow Y ?_;refine .B ?_;refine .F (r:=cI c.coefs[i]) (aK h2) ?_;refine J.cc Y Y Y Y Y (jB _ _ false hx.domB hk) Y Y ?_;refine .B ?_;rw[aj (l:=c.vars.length) (by omega) (by omega)];exact T.K (ih (i+1,op,wr (s+(endW (domAt d c.vars[i]) c.coefs[i] false).1)) ⟨by simp only;omega,he⟩ (by simp only;omega))
 ·have h1:i=c.vars.length:=(by simp at h1;omega);subst h1;rw[qr hlen,c8]at he;subst he;clear ih;have hop:=hin op s c.vars.length (by omega) (by simp[ab];omega) Y;unfold otherW;rw[hgo];simp only;refine .B ?_;refine T.cd Y (λh3=> ?_) (λh3=> ?_)
  ·have h3:op<0:=h3;rw[D3 h3];refine .B ?_;exact⟨.v Y Y Y (λh=>by cases h) .nil,_,rfl,rfl⟩
  ·have h3: ¬op<0:=h3;rw[D2 h3];obtain⟨j,rfl⟩: ∃j:Nat,op=j:=⟨op.toNat,by omega⟩;rw[Dz];have hj:j<c.vars.length:=(by omega);have hv:=hvin _ (aJ hj);have hk:=hck _ (show coefAt c j∈c.coefs by unfold coefAt;rw[aN (by omega)];exact D8 _);have hx:=hdom _ (af hv.2);have hrow:(d.map cD)[(varAt c j).toNat]? =some (cD (domAt d (varAt c j))):=(by simp[ak hv.2]);have hkr:=iK (c:=c) (k:=j) (by omega);have hvr:=eF (c:=c) (k:=j) hj;have hk0:=hk.1;have hln:=hx.len;have hls:=hsm _ (af hv.2);have hm:=λx=>(kx (domAt d (varAt c j)) [(x,x)] (by simp) (by simp only[El];omega)).frz;generalize varAt c j=v at*;generalize coefAt c j=k at*;generalize domAt d v=dv at*;refine .B ?_;refine .F (r:=cI v) hvr ?_;refine .F (r:=cI k) hkr ?_;refine J.rm Y Y Y Y Y Y hk0 ?_;refine .B ?_;refine T.cd Y (λh4=> ?_) (λh4=> ?_)
   ·have h4:(wr (c.rhs-s)).tmod k=0:=h4;rw[D3 h4];refine .B ?_;refine J.qu Y Y Y Y Y Y hk0 ?_;refine .B ?_;refine J.io Y Y Y Y Y Y Y Y Y hv.1 (by simpa using hv.2) Y ?_;refine J.lo Y Y Y Y Y Y (r:=cD dv) hrow Y ?_;refine .B ?_;refine .V ?_;refine J.cc Y Y Y Y Y (hm _) Y Y ?_;refine J.io Y Y Y Y Y Y Y Y Y hv.1 (by simpa using hv.2) Y ?_;refine J.w1 Y Y Y Y Y Y Y Y Y Y Y (λ_=>rfl) hv.2 ?_;refine .B ?_;refine J.io Y Y Y Y Y Y Y Y Y hv.1 (by simpa using hv.2) Y ?_;refine J.lo Y Y Y Y Y Y (r:=cD (dX dv [(wr ((wr (c.rhs-s)).tdiv k),wr ((wr (c.rhs-s)).tdiv k))])) (by rw[DG,EJ hv.2];rfl) Y ?_;refine .B ?_;exact⟨.v Y Y (by simp only[D9];congr 1;simp) (λh=>by cases h) .nil,_,rfl,rfl⟩
   ·have h4: ¬(wr (c.rhs-s)).tmod k=0:=h4;rw[D2 h4];refine .B ?_;refine J.io Y Y Y Y Y Y Y Y Y hv.1 (by simpa using hv.2) Y ?_;refine J.lo Y Y Y Y Y Y (r:=cD dv) hrow Y ?_;refine .B ?_;exact⟨.v Y Y (by simp only[D9];congr 1;simp) (λh=>by cases h) .nil,_,rfl,rfl⟩
theorem nh (low rhs:Int): ∀(l:List (Int×Int)) (d:aa) (ch:Bool),(∀p∈l,0<=p.1/\p.1.toNat<d.length)->(∀x∈d,Fine x)->(eL low rhs l d ch).1.length=d.length/\∀x∈(eL low rhs l d ch).1,Fine x
 | [],d,ch,_,hf=>⟨rfl,hf⟩
 |(v,k)::l,d,ch,hv,hf=>by
  rw[eL];split;·exact⟨rfl,hf⟩
  ·have hx:=hf _ (af (hv _ (.head _)).2);obtain⟨h1,h2⟩:=nh low rhs l (d.set v.toNat (cutW (domAt d v) k (gG low rhs (domAt d v) k))) (ch|| !decide (cutW (domAt d v) k (gG low rhs (domAt d v) k)=domAt d v)) (λp hp=>by rw[EL];exact hv p (.tail _ hp)) (iq hf (rH hx k _));exact⟨by rw[h1,EL],h2⟩
theorem SumFine.most {d:aa}{vars coefs:List Int}(h:SumFine d vars coefs)(rhs:Int):SumFine (mostW d vars coefs rhs).1 vars coefs:=by
 obtain⟨h1,h2⟩:=nh (endsW d vars coefs).1 rhs (vars.zip coefs) d false (λp hp=>h.vin _ (E8 hp).1) h.dom;have h1:(mostW d vars coefs rhs).1.length=d.length:=h1;exact⟨h.len,h.vl,λv hv=>by rw[h1];exact h.vin v hv,h.ck,h2,by rw[h1];exact h.dl⟩
theorem cZ {k:Int}(h:CoefOk k):wr (0-k)= -k/\CoefOk (wr (0-k)):=by
 have:=fV h;have e:wr (0-k)= -k:=(by rw[wr,ac (by omega) (by omega)];omega);refine⟨e,?_⟩;rw[e];unfold CoefOk aF at*;omega
theorem SumFine.back {d:aa}{vars coefs:List Int}(h:SumFine d vars coefs):SumFine d vars (az coefs):=
 ⟨by simp[az,h.len],h.vl,h.vin,λk hk=>by
  obtain⟨k0,hk0,rfl⟩:=DD.1 hk;exact(cZ (h.ck _ hk0)).2,h.dom,h.dl⟩
def e5 (c:Con)(out:aa):Option aa ⊕ aa:=
 if(mostW out c.vars c.coefs c.rhs).2.2=false then .inl none else
 if c.op=0 then .inl (some (mostW out c.vars c.coefs c.rhs).1)else
 if(mostW (mostW out c.vars c.coefs c.rhs).1 c.vars (az c.coefs) (wr (0-c.rhs))).2.2=false then .inl none else
 if(mostW out c.vars c.coefs c.rhs).2.1=false/\(mostW (mostW out c.vars c.coefs c.rhs).1 c.vars (az c.coefs) (wr (0-c.rhs))).2.1=false then .inl (some (mostW (mostW out c.vars c.coefs c.rhs).1 c.vars (az c.coefs) (wr (0-c.rhs))).1)
 else .inr (mostW (mostW out c.vars c.coefs c.rhs).1 c.vars (az c.coefs) (wr (0-c.rhs))).1
def LinAns (d:aa)(c:Con)(R:Option aa)(N:Nat):Prop:=
 if []∈d then R=none else if c.op=2 then R=(if(otherW d c).2 then some (otherW d c).1 else none)else cE (e5 c) N d=some R
theorem uG (d:aa)(c:Con)(h:SumFine d c.vars c.coefs)(hsm: ∀x∈d,x.length*64+1048576<=140737488355328)(R:Option aa)(N:Nat)(hR:LinAns d c R N):
  Spec Tryz.prog 139 false [aH d,.agg (cC c)] (aX R):=by
 refine Spec.body Tryz.func139 Y Y Y λw0 Z0=> ?_;have hown:=za d h.dl (λx hx=>by have:=(h.dom x hx).len;omega);unfold LinAns at hR;refine .B ?_;refine T.scope (λ_ _ h=>h) ?_;refine .B ?_;refine .D hown ?_;by_cases hm: []∈d
 ·rw[D3 hm]at hR;subst hR;rw[D3 hm,DE hm];refine T.ct Y ?_;refine .B ?_;exact⟨_,.ownN Y (.v Y Y Y (λ_=>rfl) .nil)⟩
 ·rw[D2 hm]at hR;rw[D2 hm,DC hm];refine T.cf Y ?_;refine .B ?_;refine T.cd Y (λh1=> ?_) (λh1=> ?_)
  ·have h1:c.op=2:=h1;rw[D3 h1]at hR;refine .B ?_;have ho:=uI d c h hsm;generalize otherW d c=ow at*;obtain⟨d2,b⟩:=ow;refine J.cm Y Y Y Y Y Y Y Y Y ho Y Y Y ?_;refine .B ?_;cases b
   ·subst hR;refine T.ct Y ?_;refine .B ?_;exact⟨_,.ownN Y (.v Y Y Y (λ_=>rfl) .nil)⟩
   ·subst hR;refine T.cf Y ?_;refine .B ?_;exact⟨_,.o Y Y Y (λ_=> .inl Y) (by simp) (.v rfl rfl rfl (λ_=>rfl) .nil)⟩
  ·have h1: ¬c.op=2:=h1;rw[D2 h1]at hR;refine .B ?_;refine .D (ly c.coefs (by have:=h.vl;have:=h.len;omega)) ?_;refine T.K (T.ind (λs:Nat×aa=>⟨[(3,.optr 0 0 0 0),(6,.ref 1),(8,.ref 2)],[(0,some (.box false (cC c))),(1,some (.sl 54 1 true (s.2.map cD))),(2,some (.sl 3 1 true ((az c.coefs).map cI)))],3⟩)
    (λs=>cE (e5 c) s.1 s.2=some R/\SumFine s.2 c.vars c.coefs) (λs=>s.1) (N,d) ⟨hR,h⟩ (λ_ _ h=>h) ?_)
   rintro⟨m,out⟩ ⟨hR,hs⟩ ih;simp only at hR hs;dsimp only;have hm1:=pa out c.vars c.coefs c.rhs hs;have hs1:=hs.most c.rhs;have hm2:=pa (mostW out c.vars c.coefs c.rhs).1 c.vars (az c.coefs) (wr (0-c.rhs)) hs1.back;have hs2:=hs1.back.most (wr (0-c.rhs));have hs3:SumFine (mostW (mostW out c.vars c.coefs c.rhs).1 c.vars (az c.coefs) (wr (0-c.rhs))).1 c.vars c.coefs:=⟨hs.len,hs2.vl,hs2.vin,hs.ck,hs2.dom,hs2.dl⟩;have hst:e5 c out=e5 c out:=rfl
   conv at hst=>rhs;unfold e5
   generalize mostW (mostW out c.vars c.coefs c.rhs).1 c.vars (az c.coefs) (wr (0-c.rhs))=m2 at*;generalize mostW out c.vars c.coefs c.rhs=m1 at*;obtain⟨d1,ch1,ok1⟩:=m1;obtain⟨d2,ch2,ok2⟩:=m2;simp only at hm1 hm2 hst hs1 hs3;refine .B ?_;refine J.cm Y Y Y Y Y Y Y Y Y hm1 Y Y Y ?_;refine .B ?_;cases ok1
   ·rw[D3 Y]at hst;obtain rfl:=bf hR hst;refine T.ct Y ?_;refine .B ?_;exact⟨_,.ownN Y (.v Y Y Y (λ_=>rfl) .nil)⟩
   ·rw[D2 (by decide)]at hst;refine T.cf Y ?_;refine .B ?_;refine T.cd Y (λh2=> ?_) (λh2=> ?_)
    ·have h2:c.op=0:=h2;rw[D3 h2]at hst;obtain rfl:=bf hR hst;refine .B ?_;exact⟨_,.o Y Y Y (λ_=> .inl Y) (by simp) (.v rfl rfl rfl (λ_=>rfl) .nil)⟩
    ·have h2: ¬c.op=0:=h2;rw[D2 h2]at hst;refine .B ?_;refine J.cm Y Y Y Y Y Y Y Y Y hm2 Y Y Y ?_;refine .B ?_;cases ok2
     ·rw[D3 Y]at hst;obtain rfl:=bf hR hst;refine T.ct Y ?_;refine .B ?_;exact⟨_,.ownN Y (.v Y Y Y (λ_=>rfl) .nil)⟩
     ·rw[D2 (by decide)]at hst;refine T.cf Y ?_;refine .B ?_;cases ch1
      ·cases ch2
       ·rw[D3 ⟨rfl,rfl⟩]at hst;obtain rfl:=bf hR hst;refine .B ?_;refine T.ct Y ?_;refine .B ?_;exact⟨_,.o Y Y Y (λ_=> .inl Y) (by simp) (.v rfl rfl rfl (λ_=>rfl) .nil)⟩
       ·rw[D2 (by simp)]at hst;obtain⟨m',hlt,hR'⟩:=gP hR hst;refine .B ?_;refine T.cf Y ?_;refine .B ?_;exact T.K (ih (m',d2) ⟨hR',hs3⟩ hlt)
      ·rw[D2 (by simp)]at hst;obtain⟨m',hlt,hR'⟩:=gP hR hst;refine .B ?_;refine T.cf Y ?_;refine .B ?_;exact T.K (ih (m',d2) ⟨hR',hs3⟩ hlt)
def hd0 (l:List Int):Int:=l.getD 0 0
def au:Nat->List (List (Int×Int)×Int)->Nat->Int->Nat->Nat×Int×Nat
 |_,[],m,s,a=>(m,s,a)
 |i,t::ts,m,s,a=>if 1<(vals t.1).length then au (i+1) ts (m+1) s i else au (i+1) ts m (wr (s+wr (t.2*hd0 (vals t.1)))) a
def bT (d:aa)(c:Con):aa:=
 let r:=au 0 (ab d c.vars c.coefs) 0 0 0
 if 1<r.1 then d else
 if r.1=0 then(if r.2.1=c.rhs then d.set (varAt c 0).toNat []else d)else
 d.set (varAt c r.2.2).toNat (cX ((vals (domAt d (varAt c r.2.2))).filter λv=>decide (wr (r.2.1+wr (coefAt c r.2.2*v))≠c.rhs)))
theorem cN: ∀(ts:List (List (Int×Int)×Int)) (i m a:Nat) (s:Int) (n:Nat),a<n->i+ts.length<=n->m<=i->(au i ts m s a).2.2<n/\(au i ts m s a).1<=i+ts.length
 | [],i,m,a,s,n,h,_,hm=>by simp[au];omega
 |t::ts,i,m,a,s,n,h,hn,hm=>by
  simp only[E0]at hn⊢;rw[au];split
  ·have:=cN ts (i+1) (m+1) i s n (by omega) (by omega) (by omega);omega
  ·have:=cN ts (i+1) m a (wr (s+wr (t.2*hd0 (vals t.1)))) n h (by omega) (by omega);omega
def uy (d:aa)(c:Con):aa:=kw d c.vars c.coefs c.rhs c.vars.length
def xU (d:aa)(c:Con):aa:=kw d c.vars (az c.coefs) (wr (0-c.rhs)) c.vars.length
def xH (c:Con)(out:aa):Option aa ⊕ aa:=
 if c.op=1/\[]∉out then
  (if []∈xU out c then .inl none else if uy (xU out c) c=out then .inl (some out)else .inr (uy (xU out c) c))
 else .inl (if []∈out then none else some out)
def lV (d:aa)(c:Con)(R:Option aa)(N:Nat):Prop:=
 if []∈d then R=none else if c.op=2 then R=(if []∈bT d c then none else some (bT d c))else cE (xH c) N (uy d c)=some R
def soW (es:Int×Int×Bool)(c:Con):Bool:=
 if es.2.2=false then false else
 if c.op=0 then decide (es.2.1<=c.rhs)else
 if c.op=1 then decide (es.1=c.rhs)&&decide (es.2.1=c.rhs)else
 decide (c.rhs<es.1)||decide (es.2.1<c.rhs)
theorem uE (d:aa)(c:Con)(h:SumIn d c.vars c.coefs):Spec Tryz.prog 230 false [aH d,.agg (cC c)] [.val (.bool (soW (endsW d c.vars c.coefs) c))]:=by
 refine Spec.body Tryz.func230 Y Y Y λw0 Z0=> ?_;have he:=pg d c.vars c.coefs h;generalize endsW d c.vars c.coefs=es at*;obtain⟨lo,hi,b⟩:=es;unfold soW;simp only;refine .B ?_;refine .C he ?_;cases b
 ·refine .B ?_;refine T.ct Y ?_;refine .B ?_;exact r1
 ·rw[D2 (by decide)];refine .B ?_;refine T.cf Y ?_;refine .B ?_;refine T.cd Y (λh1=> ?_) (λh1=> ?_)
  ·have h1:c.op=0:=h1;rw[D3 h1];refine .B ?_;exact r1
  ·have h1: ¬c.op=0:=h1;rw[D2 h1];refine .B ?_;refine T.cd Y (λh2=> ?_) (λh2=> ?_)
   ·have h2:c.op=1:=h2;rw[D3 h2];refine .B ?_;refine J.g Y Y Y (λh3=> ?_) (λh3=> ?_)
    ·have h3:lo=c.rhs:=h3;rw[DE h3];refine .B ?_;exact⟨_,.v Y Y (by simp) (λ_=>rfl) .nil⟩
    ·have h3: ¬lo=c.rhs:=h3;rw[DC h3];refine .B ?_;exact r1
   ·have h2: ¬c.op=1:=h2;rw[D2 h2];refine .B ?_;refine J.g Y Y Y (λh3=> ?_) (λh3=> ?_)
    ·have h3:c.rhs<lo:=h3;rw[DE h3];refine .B ?_;exact r1
    ·have h3: ¬c.rhs<lo:=h3;rw[DC h3];refine .B ?_;exact⟨_,.v Y Y (by simp) (λ_=>rfl) .nil⟩
def bP (c:Con):Con:=
 if c.op=0 then { c with coefs:=az c.coefs,rhs:=wr (wr (0-c.rhs)-1) } else
 if c.op=1 then { c with op:=2 } else
 if c.op=2 then { c with op:=1 } else c
theorem qX (c:Con)(hc:ConB c):Spec Tryz.prog 194 true [.agg (cC c)] [.val (.agg (cC (bP c)))]:=by
 refine Spec.body Tryz.func194 Y Y Y λw0 Z0=> ?_;obtain⟨kind,vars,coefs,op,rhs,rows,b⟩:=c;obtain⟨h1,h2,h3,h4⟩:=hc;simp only at h1 h2 h3 h4;unfold bP;simp only;have hcv:=(dQ vars (by omega)).frz;have hcc:=(dQ coefs h2).frz;have htc:=(ly coefs h2).frz;refine .B ?_;refine .L ?_;refine .B ?_;refine .D hcv ?_;refine .X ?_;refine T.cd Y (λh5=> ?_) (λh5=> ?_)
 ·have h5:op=0:=h5;rw[D3 h5];refine T.seq ?_;refine T.K (?_:T _ _ ⟨[(1,.optr 0 0 0 0),(2,.optr 1 0 0 0)],[(0,some (.box false (cC ⟨kind,vars,coefs,op,rhs,rows,b⟩))),(1,some (.box true (cC ⟨0,[],[],0,0,[],0⟩)))],2⟩ _);refine T.rdw 11 Y (by kernel_rfl) Y ?_;refine .B ?_;refine .D htc ?_;refine J.wd Y Y Y Y Y Y Y Y Y Y ?_;refine .B ?_;refine J.wd Y Y Y Y Y Y Y Y Y Y ?_;refine J.nil ?_;refine⟨rfl,?_⟩;refine .B ?_;refine .X ?_;exact⟨_,.c Y Y Y Y (λh=>by cases h) .nil⟩
 ·have h5: ¬op=0:=h5;rw[D2 h5];refine .B ?_;refine T.cd Y (λh6=> ?_) (λh6=> ?_)
  ·have h6:op=1:=h6;rw[D3 h6];refine .B ?_;refine .X ?_;refine .D hcc ?_;refine .X ?_;refine .X ?_;exact⟨_,.c Y Y Y Y (λh=>by cases h) .nil⟩
  ·have h6: ¬op=1:=h6;rw[D2 h6];refine .B ?_;refine T.cd Y (λh7=> ?_) (λh7=> ?_)
   ·have h7:op=2:=h7;rw[D3 h7];refine .B ?_;refine .X ?_;refine .D hcc ?_;refine .X ?_;refine .X ?_;exact⟨_,.c Y Y Y Y (λh=>by cases h) .nil⟩
   ·have h7: ¬op=2:=h7;rw[D2 h7];refine .B ?_;refine .D hcc ?_;refine .X ?_;refine .X ?_;exact⟨_,.c Y Y Y Y (λh=>by cases h) .nil⟩
theorem Bx {d:aa}{c:Con}(h:SumIn d c.vars c.coefs):SumIn d (bP c).vars (bP c).coefs:=by
 unfold bP;split
 ·obtain⟨a1,a2,a3,a4,a5,a6⟩:=h;exact⟨by simp[az,a1],a2,a3,λk hk=>by
   obtain⟨k0,hk0,rfl⟩:=DD.1 hk;exact(cZ (a4 _ hk0)).2,a5,a6⟩
 ·split;·exact h
  ·split<;>exact h
theorem uL (d:aa)(c:Con)(hc:ConB c)(h:SumIn d c.vars c.coefs):Spec Tryz.prog 193 false [aH d,.agg (cC c)]
  [.val (.bool (soW (endsW d c.vars c.coefs) c)),.val (.bool (soW (endsW d c.vars c.coefs) c||soW (endsW d (bP c).vars (bP c).coefs) (bP c)))]:=by
 refine Spec.body Tryz.func193 Y Y Y λw0 Z0=> ?_;have h1:=uE d c h;have h2:=uE d (bP c) (Bx h);have hn:=qX c hc;generalize soW (endsW d c.vars c.coefs) c=b1 at*;generalize soW (endsW d (bP c).vars (bP c).coefs) (bP c)=b2 at*;refine .B ?_;refine .C h1 ?_;cases b1
 ·refine J.nil ?_;refine T.cf Y ?_;refine .B ?_;refine .C hn ?_;refine .D h2 ?_;exact⟨_,.v Y Y Y (λ_=>rfl) (.v Y Y (by simp) (λ_=>rfl) .nil)⟩
 ·refine J.nil ?_;refine T.ct Y ?_;refine .B ?_;exact r2
theorem ni (a b:List (List Int))(hl:a.length*8<=140737488355328)(hx: ∀x∈a,x.length*8<=140737488355328):Spec Tryz.prog 16 false [bL a,bL b] [.val (.bool (decide (a=b)))]:=by
 refine Spec.body Tryz.func16 Y Y Y λw0 Z0=> ?_;refine .B ?_;refine T.cd Y (λh=> ?_) (λh=> ?_)
 ·refine .B ?_;refine⟨_,.v Y Y ?_ (λ_=>rfl) .nil⟩;rw[DC];intro e;subst e;exact h Y
 ·have h:a.length=b.length:=by
   have h: ¬(((a.map cL).length:Int)≠(b.map cL).length):=h;simp at h;omega
  refine .B ?_;refine T.K (T.ind (λi:Nat=>⟨[(0,.val false (bL a)),(1,.val false (bL b)),(5,.val true (.int .i64 i))],[],0⟩) (λi=>i<=a.length/\a.take i=b.take i) (λi=>a.length-i) 0 (by simp) (λ_ _ h=>h) ?_);rintro i ⟨hi,ht⟩ ih;refine .B ?_;refine T.cd Y (λh1=> ?_) (λh1=> ?_)
  ·have h1:i<a.length:=(by simpa using h1);have h2:i<b.length:=(by omega);refine .B ?_;refine .F (r:=cL a[i]) (aK h1) ?_;refine .F (r:=cL b[i]) (aK h2) ?_;refine J.cc Y Y Y Y Y (mo a[i] b[i] (hx _ (D8 h1))) Y Y ?_;refine .B ?_;by_cases e:a[i]=b[i]
   ·rw[DE e];refine T.cf Y ?_;refine .B ?_;rw[aj (l:=a.length) (by omega) (by omega)];exact T.K (ih (i+1) ⟨by omega,l5 ht h1 h2 e⟩ (by omega))
   ·rw[DC e];refine T.ct Y ?_;refine .B ?_;refine⟨_,.v Y Y ?_ (λ_=>rfl) .nil⟩;rw[DC];intro e2;subst e2;exact e Y
  ·have h1:i=a.length:=(by simp at h1;omega);subst h1;refine .B ?_;refine⟨_,.v Y Y ?_ (λ_=>rfl) .nil⟩;rw[EI,h,EI]at ht;rw[DE ht]
theorem rp (d:aa)(hl:d.length*24<=140737488355328)(hx: ∀x∈d,x.length*16<=140737488355328):Spec Tryz.prog 191 false [aH d] [.own 54 1 ((if []∈d then []else d).map cD),.val (.bool (!decide ([]∈d)))]:=by
 refine Spec.body Tryz.func191 Y Y Y λw0 Z0=> ?_;refine .B ?_;refine T.sub (Rel.own0 (s:=4) 54 1 Y) ?_;refine T.K (T.listI d (λpre=>[]∉pre) (λn pre post=>⟨[(4,.ref 0),(7,.val false (aH d)),(8,.val true (.int .i64 (d.map cD).length)),(9,.val true (.int .i64 n))],[(0,some (.sl 54 1 true (pre.map cD)))],1⟩) (λ_ _ h=>h) (by simp) ?_ ?_)
 ·rintro n pre x post h hn hi ih;have hlt:=bZ h hn;have hxl:=hx x (by rw[h];simp);refine .B ?_;refine T.ct2 Y (bY h hn) ?_;refine .B ?_;refine .F (r:=cD x) (aQ h hn) ?_;refine T.cd Y (λh1=> ?_) (λh1=> ?_)
  ·have hx:x=[]:=(by simp at h1;exact h1);have hm: []∈d:=(by rw[h,hx];simp);rw[D3 hm,DE hm];refine .B ?_;exact⟨_,.ownN Y (.v Y Y Y (λ_=>rfl) .nil)⟩
  ·have hx:x≠[]:=λe=>h1 (by rw[e];rfl);refine .B ?_;refine .D (bR x (by omega)).frz ?_;refine .Z ?_;refine J.aD Y Y Y Y Y Y Y Y Y Y Y Y Y Y Y Y Y Y Y (by omega) ?_;refine .B ?_;rw[aj hlt (by omega)];exact T.K (ih (by simp[hi,Ne.symm hx]))
 ·intro hi;refine .B ?_;refine T.cf2 Y bq ?_;refine .B ?_;exact⟨_,.o Y Y (by rw[D2 hi]) (λ_=> .inl Y) (by simp) (.v rfl rfl (by simp[hi]) (λ_=>rfl) .nil)⟩
theorem mC (d:aa)(v value:Int)(hv:0<=v/\v.toNat<d.length)(hl:((domAt d v).length+1)*16<=140737488355328):
  SpecM Tryz.prog 192 54 1 (d.map cD) [.int .i64 v,.int .i64 value] ((d.set v.toNat (domCut (domAt d v) value value)).map cD) [.bool (!decide (domCut (domAt d v) value value=[]))]:=by
 refine SpecM.body Tryz.func192 Y Y Y (by simp[PV.flat]) λw0 v0 Z1=> ?_;have hrow:(d.map cD)[v.toNat]? =some (cD (domAt d v)):=(by simp[ak hv.2]);have hc:=(gq (domAt d v) value value hl).frz;have hrow2:((d.set v.toNat (domCut (domAt d v) value value)).map cD)[v.toNat]? =some (cD (domCut (domAt d v) value value)):=(by simp[hv.2]);have hb:decide ((((domCut (domAt d v) value value).map cR).length:Int) > 0)= !decide (domCut (domAt d v) value value=[]):=by
  cases domCut (domAt d v) value value<;>simp
 generalize domCut (domAt d v) value value=cx at*;generalize domAt d v=x at*;refine .B ?_;refine J.io Y Y Y Y Y Y Y Y Y hv.1 (by simpa using hv.2) Y ?_;refine J.lo Y Y Y Y Y Y (r:=cD x) hrow Y ?_;refine .B ?_;refine .C hc ?_;refine J.io Y Y Y Y Y Y Y Y Y hv.1 (by simpa using hv.2) Y ?_;refine J.w1 Y Y Y Y Y Y Y Y Y Y Y (λ_=>rfl) hv.2 ?_;refine .B ?_;refine J.io Y Y Y Y Y Y Y Y Y hv.1 (by simpa using hv.2) Y ?_;refine J.lo Y Y Y Y Y Y (r:=cD cx) hrow2 Y ?_;refine .B ?_;exact⟨.v Y Y (by rw[<-hb]) (λh=>by cases h) .nil,_,rfl,rfl⟩
def dA (k:Int):Int:=wr ((wr (k+1)).tdiv 2)
theorem uN (k:Int):Spec Tryz.prog 195 false [.int .i64 k] [.val (.int .i64 (dA k))]:=by
 refine Spec.body Tryz.func195 Y Y Y λw0 Z0=> ?_;refine .B ?_;exact r1
theorem zk (r:Int×Int)(v:Int):Spec Tryz.prog 83 false [.agg (cR r),.ptr [.int .i64 v]] [.val (.bool (decide (r.1<=v)&&decide (v<=r.2)))]:=by
 refine Spec.body Tryz.func83 Y Y Y λw0 Z0=> ?_;refine .B ?_;refine J.g Y Y Y (λh=> ?_) (λh=> ?_)
 ·have h:r.1<=v:=(by simpa using h);rw[DE h];refine .B ?_;exact r1
 ·have h: ¬r.1<=v:=(by simpa using h);rw[DC h];refine .B ?_;exact r1
theorem BO {α:Type}{p:α->Bool}{d pre post:List α}{x:α}{n:Nat}(h:d=pre++x::post)(hn:n=pre.length)(hi: ∀r∈pre,p r=false)(hx:p x=true):(if d.any p then(d.findIdx p:Int)else -1)=n:=by
 subst h hn;have h1:(pre++x::post).any p=true:=(by simp[hx]);rw[D3 h1,List.findIdx_append];have h2:pre.findIdx p=pre.length:=List.findIdx_eq_length.2 hi;rw[h2,D2 (by omega),List.findIdx_cons,hx];simp
theorem w4 (f:FuncId)(caps:List PV)(p:Int×Int->Bool)(d:List (Int×Int))(hl:d.length*16<=140737488355328)(hf: ∀r,Spec Tryz.prog f false (.agg (cR r)::caps) [.val (.bool (p r))]):
  Spec Tryz.prog 122 false [dm d,.fn (.func f) [] caps] [.val (.int .i64 (if d.any p then d.findIdx p else -1))]:=by
 refine Spec.body Tryz.func122 Y Y Y λw0 Z0=> ?_;refine .B ?_;refine T.K (T.listI d (λpre=> ∀r∈pre,p r=false) (λn pre post=>⟨[(0,.val false (dm d)),(1,.val false (.fn (.func f) [] caps)),(6,.val false (dm d)),(7,.val true (.int .i64 (d.map cR).length)),(8,.val true (.int .i64 n))],[],0⟩) (λ_ _ h=>h) (by simp) ?_ ?_)
 ·rintro n pre x post h hn hi ih;have hlt:=bZ h hn;have hfx:=hf x;refine .B ?_;refine T.ct2 Y (bY h hn) ?_;refine .B ?_;refine .F (r:=cR x) (aQ h hn) ?_;refine .D hfx ?_;cases hp:p x
  ·refine T.cf Y ?_;refine .B ?_;rw[aj hlt (by omega)];exact T.K (ih (λr hr=>by
    rcases DT.1 hr with h|h;·exact hi r h
    ·simp at h;subst h;exact hp))
  ·refine T.ct Y ?_;refine .B ?_;exact⟨_,.v Y Y (by rw[BO h hn hi hp]) (λ_=>rfl) .nil⟩
 ·intro hi;refine .B ?_;refine T.cf2 Y bq ?_;refine .B ?_;exact⟨_,.v Y Y (by rw[D2 (by simpa using hi)]) (λ_=>rfl) .nil⟩
def hasV (d:List (Int×Int))(v:Int):Bool:=d.any λr=>decide (r.1<=v)&&decide (v<=r.2)
theorem qb (f:FuncId)(caps:List PV)(p:Int×Int->Bool)(d:List (Int×Int))(hl:d.length*16<=140737488355328)(hf: ∀r,Spec Tryz.prog f false (.agg (cR r)::caps) [.val (.bool (p r))]):
  Spec Tryz.prog 82 false [dm d,.fn (.func f) [] caps] [.val (.bool (d.any p))]:=by
 refine Spec.body Tryz.func82 Y Y Y λw0 Z0=> ?_;refine .B ?_;refine .D (w4 f caps p d hl hf) ?_;refine⟨_,.v Y Y ?_ (λ_=>rfl) .nil⟩;cases d.any p;·rfl
 ·show PV.bool (decide ((d.findIdx p:Int)>=0))=_;rw[DE (by omega)]
theorem gV (d:List (Int×Int))(v:Int)(hl:d.length*16<=140737488355328):Spec Tryz.prog 55 false [dm d,.int .i64 v] [.val (.bool (hasV d v))]:=by
 refine Spec.body Tryz.func55 Y Y Y λw0 Z0=> ?_;refine .B ?_;refine J.sub (Rel.unbx (s:=3) (λ_ h=>h) Y Y) ?_;refine J.sub (Rel.fp (s:=3) Y) ?_;refine .B ?_;refine J.cc Y Y Y Y Y (qb _ _ _ d hl λr=>zk r v) Y Y ?_;refine .B ?_;exact r1
def dB (d:aa)(b v:Int):Option aa:=if domCut (domAt d b) v v=[]then none else some (d.set b.toNat (domCut (domAt d b) v v))
def bN (c:Con):Con:=⟨0,c.vars,c.coefs,c.op,c.rhs,[],0⟩
def yesW (d:aa)(c:Con):Bool:=soW (endsW d c.vars c.coefs) (bN c)
def noW (d:aa)(c:Con):Bool:=soW (endsW d (bP (bN c)).vars (bP (bN c)).coefs) (bP (bN c))
def tU (d:aa)(c:Con)(RS RN:Option aa):Option aa:=
 if []∈d then none else
 if yesW d c then dB d c.b 1 else
 if noW d c then dB d c.b 0 else
 if hasV (domAt d c.b) 0=false then RS else
 if hasV (domAt d c.b) 1=false then RN else some d
theorem wR (d:aa)(c:Con)(h:SumIn d c.vars c.coefs)(hcb:ConB (bN c))(hb:0<=c.b/\c.b.toNat<d.length)(hx: ∀x∈d,(x.length+1)*16<=140737488355328)(RS RN:Option aa)
  (h1: []∉d->yesW d c=false->noW d c=false->hasV (domAt d c.b) 0=false->Spec Tryz.prog 139 false [aH d,.agg (cC (bN c))] (aX RS)) (h2: []∉d->yesW d c=false->noW d c=false->hasV (domAt d c.b) 0=true->hasV (domAt d c.b) 1=false->Spec Tryz.prog 139 false [aH d,.agg (cC (bP (bN c)))] (aX RN)):
  Spec Tryz.prog 136 false [aH d,.agg (cC c)] (aX (tU d c RS RN)):=by
 refine Spec.body Tryz.func136 Y Y Y λw0 Z0=> ?_;have hown:=rp d h.dl (λx hm=>by have:=hx x hm;omega);have hkn:Spec Tryz.prog 193 false [aH d,.agg (cC (bN c))] [.val (.bool (yesW d c)),.val (.bool (yesW d c||noW d c))]:=uL d (bN c) hcb h;have hnot:=qX (bN c) hcb;have hrow:(d.map cD)[c.b.toNat]? =some (cD (domAt d c.b)):=(by simp[ak hb.2]);have hxb:=hx _ (af hb.2);have hh0:=gV (domAt d c.b) 0 (by omega);have hh1:=gV (domAt d c.b) 1 (by omega);have hk0:=mC d c.b 0 hb hxb;have hk1:=mC d c.b 1 hb hxb;unfold tU;unfold dB;generalize yesW d c=y at*;generalize noW d c=z at*;refine .B ?_;refine .D hown ?_;by_cases hm: []∈d
 ·rw[D3 hm,D3 hm,DE hm];refine T.ct Y ?_;refine .B ?_;exact⟨_,.ownN Y (.v Y Y Y (λ_=>rfl) .nil)⟩
 ·rw[D2 hm,D2 hm,DC hm];have h1:=h1 hm;have h2:=h2 hm;refine T.cf Y ?_;refine .B ?_;refine .L ?_;refine .X ?_;refine J.mf Y Y Y Y Y Y Y ?_;refine .B ?_;refine .D hkn ?_;cases y
  ·rw[D2 (by decide)];cases z
   ·rw[D2 (by decide)];refine .B ?_;refine T.cf Y ?_;refine .B ?_;refine T.cf Y ?_;refine .B ?_;refine J.i Y Y Y Y Y Y Y Y Y (r:=cD (domAt d c.b)) hb.1 hrow Y ?_;refine .B ?_;refine .C hh0 ?_;generalize hasV (domAt d c.b) 0=e0 at*;cases e0
    ·rw[D3 Y];refine .B ?_;refine T.ct Y ?_;refine .B ?_;refine .D (h1 Y Y Y) ?_;exact⟨_,.o Y Y Y (λ_=> .inl Y) (by simp) (.v rfl rfl rfl (λ_=>rfl) .nil)⟩
    ·rw[D2 (by decide)];refine .B ?_;refine T.cf Y ?_;refine .B ?_;refine J.i Y Y Y Y Y Y Y Y Y (r:=cD (domAt d c.b)) hb.1 hrow Y ?_;refine .B ?_;refine .C hh1 ?_;generalize hasV (domAt d c.b) 1=e1 at*;cases e1
     ·rw[D3 Y];refine .B ?_;refine T.ct Y ?_;refine .B ?_;refine .D hnot ?_;refine .D (h2 Y Y Y Y) ?_;exact⟨_,.o Y Y Y (λ_=> .inl Y) (by simp) (.v rfl rfl rfl (λ_=>rfl) .nil)⟩
     ·rw[D2 (by decide)];refine .B ?_;refine T.cf Y ?_;refine .B ?_;refine T.cf Y ?_;refine .B ?_;exact⟨_,.o Y Y Y (λ_=> .inl Y) (by simp) (.v rfl rfl rfl (λ_=>rfl) .nil)⟩
   ·rw[D3 Y];refine .B ?_;refine T.cf Y ?_;refine .B ?_;refine T.ct Y ?_;refine .B ?_;refine J.cmf Y Y Y Y Y Y Y hk0 Y Y Y ?_;refine .B ?_;by_cases hk:domCut (domAt d c.b) 0 0=[]
    ·rw[D3 hk,DE hk];refine T.ct Y ?_;refine .B ?_;exact⟨_,.ownN Y (.v Y Y Y (λ_=>rfl) .nil)⟩
    ·rw[D2 hk,DC hk];refine T.cf Y ?_;refine .B ?_;exact⟨_,.o Y Y Y (λ_=> .inl Y) (by simp) (.v rfl rfl rfl (λ_=>rfl) .nil)⟩
  ·rw[D3 Y];refine .B ?_;refine T.ct Y ?_;refine .B ?_;refine J.cmf Y Y Y Y Y Y Y hk1 Y Y Y ?_;refine .B ?_;by_cases hk:domCut (domAt d c.b) 1 1=[]
   ·rw[D3 hk,DE hk];refine T.ct Y ?_;refine .B ?_;exact⟨_,.ownN Y (.v Y Y Y (λ_=>rfl) .nil)⟩
   ·rw[D2 hk,DC hk];refine T.cf Y ?_;refine .B ?_;exact⟨_,.o Y Y Y (λ_=> .inl Y) (by simp) (.v rfl rfl rfl (λ_=>rfl) .nil)⟩
def mU (d:aa):Option aa:=if []∈d then none else some d
def eC (n:Nat)(us t:List Int)(k:Nat):List Int:=((us.zip t).take k).foldl (λa p=>a.set p.1.toNat p.2) (List.replicate n 0)
def fN (P:List Int->Bool)(m:Nat)(all:List (List Int)):List (List Int):=(List.range m).map λk=>(all.filter P).map (·.getD k 0)
def putsW (d:aa)(us:List Int)(ks:List (List Int))(k:Nat):aa:=((us.zip ks).take k).foldl (λo p=>o.set p.1.toNat (cX (aW p.2))) d
def lG (d:aa)(us:List Int)(P:List Int->Bool):Option aa:=
 if []∈d then none else mU (putsW d us (fN P us.length (bj (us.map (domAt d)) us.length)) us.length)
theorem zp (n:Nat)(us t:List Int)(k:Nat):(eC n us t k).length=n:=by
 unfold eC;generalize (us.zip t).take k=l;have: ∀(l:List (Int×Int)) (a:List Int),(l.foldl (λa p=>a.set p.1.toNat p.2) a).length=a.length:=by
  intro l
  induction l with
  |nil=>simp
  |cons p l ih=>intro a;rw[DX,ih];simp
 rw[this];simp
theorem yO (d:aa)(us:List Int)(ks:List (List Int))(k:Nat):(putsW d us ks k).length=d.length:=by
 unfold putsW;generalize (us.zip ks).take k=l;have: ∀(l:List (Int×List Int)) (a:aa),(l.foldl (λo p=>o.set p.1.toNat (cX (aW p.2))) a).length=a.length:=by
  intro l
  induction l with
  |nil=>simp
  |cons p l ih=>intro a;rw[DX,ih];simp
 rw[this]
theorem yM {α:Type}{m k:Nat}(f:Nat->α)(x:α):((List.range m).map f).set k x=(List.range m).map λj=>if j=k then x else f j:=by
 apply F1;intro i;rw[Em,DG,DG];by_cases hi:i<m
 ·have hr:(List.range m)[i]? =some i:=(by simp[hi]);rw[hr];by_cases e:k=i
  ·subst e;rw[D3 Y,D3 (by simpa using hi)];simp
  ·rw[D2 e];simp only[ER];rw[D2 (Ne.symm e)]
 ·have hr:(List.range m)[i]? =none:=(by simp;omega);rw[hr];by_cases e:k=i
  ·subst e;rw[D3 Y,D2 (by simpa using hi)];rfl
  ·rw[D2 e];rfl
abbrev xz:=List (Value×List (List PV))
theorem vN: ∀(l:List Int) (room:Int),eD room l=false->(∀k∈l,aF k<=4398046511104)/\(0<=room->ai l<=room)
 | [],room,h=>by simp[ai]
 |x::l,room,h=>by
  rw[eD]at h;split at h;·cases h
  ·rename_i h1;split at h;·cases h
   ·rename_i h2;obtain⟨h3,h4⟩:=vN l _ h;have e:ai (x::l)=aF x*1048576+ai l:=(by simp[ai]);have e2:max x (-x)=aF x:=rfl;rw[e2]at h2 h4;refine⟨λk hk=> ?_,λh0=> ?_⟩
    ·rcases DQ.1 hk with rfl|hk;·unfold aF;omega
     ·exact h3 k hk
    ·rw[e];have:=h4 (by omega);omega
structure SumOk (d:aa)(c:Con):Prop where
 fine:SumFine d c.vars c.coefs
 nod:c.vars.Nodup
 pos:0<c.vars.length
 op:0<=c.op/\c.op<=2
 big:ai c.coefs<=4611686018427388928/\aF c.rhs<=4611686018427388928
theorem mM {c:Con}(h:ee c.coefs c.rhs=false):(∀k∈c.coefs,aF k<=4398046511104)/\ai c.coefs+aF c.rhs<=4611686018427387904:=by
 unfold ee at h;split at h;·cases h
 ·rename_i h1;obtain⟨h2,h3⟩:=vN _ _ h;have e:max c.rhs (-c.rhs)=aF c.rhs:=rfl;rw[e]at h3;refine⟨h2,?_⟩;have:aF c.rhs<=4611686018427387904:=(by unfold aF;omega);have:=h3 (by omega);omega
theorem iH {d:aa}{c:Con}(h:conR d c=0):ee c.coefs c.rhs=false:=by
 unfold conR at h;cases hb:ee c.coefs c.rhs with
 |false=>rfl
 |true=>
  rw[hb]at h;split at h;·cases h
  ·split at h;·cases h
   ·split at h<;>cases h
theorem aT: ∀l:List Int,0<=ai l
 | []=>by simp[ai]
 |k::l=>by
  have:=aT l;have:=bu k;have e:ai (k::l)=aF k*1048576+ai l:=(by simp[ai]);omega
theorem r5 {d:aa}{c:Con}(hc:ConB c)(h:conR d c=0)(hk:c.kind=0)(hf: ∀x∈d,Fine x)(hdl:d.length*24<=140737488355328):SumOk d c:=by
 obtain⟨hv,hr⟩:=pP hc h;obtain⟨h1,h2⟩:=mM (iH h);have hra:=bu c.rhs;have hwk:=aT c.coefs;unfold rightR at hr;rw[D3 hk]at hr;simp only[sumR,opR,DH,DM,Ed,decide_eq_false_iff_not]at hr;obtain⟨⟨⟨_,⟨⟨h4,h5⟩,h6⟩,h7⟩,h8⟩,_⟩:=hr;exact⟨⟨h6,hv.1,hv.2,λk hk=>⟨λe=>h7 (e▸hk),h1 k hk⟩,hf,hdl⟩,h4,h5,h8,by omega⟩
theorem dh {d:aa}{vars coefs:List Int}(h:SumFine d vars coefs):gr (ab d vars coefs):=by
 intro t ht;obtain⟨p,hp,rfl⟩:=DD.1 ht;obtain⟨h1,h2⟩:=E8 hp;exact⟨h.dom _ (af (h.vin _ h1).2),h.ck _ h2⟩
theorem cy {d:aa}{vars coefs:List Int}(h:vars.length=coefs.length):aZ (ab d vars coefs)=ai coefs:=by
 unfold aZ ab;rw[FH];congr 1;have:((λx:List (Int×Int)×Int=>x.2)∘λp:Int×Int=>(domAt d p.1,p.2))=λp:Int×Int=>p.2:=rfl;rw[this,List.map_snd_zip];omega
theorem de: ∀(l:List Int),(∀k∈l,CoefOk k)->ai (az l)=ai l
 | [],_=>rfl
 |k::l,h=>by
  have e:=(cZ (h k (.head _))).1;have ih:=de l λk hk=>h k (.tail _ hk);have e1:ai (k::l)=aF k*1048576+ai l:=(by simp[ai]);have e2:ai (az (k::l))=aF (wr (0-k))*1048576+ai (az l):=(by simp[ai,az]);rw[e1,e2,ih,e];unfold aF;omega
theorem rz {a b v:Int}(hb:0<b)(h1: -9223372036854775000<=a)(h2:a<=9223372036854775000):(v<=gB a b↔b*v<=a)/\-9223372036854775002<=gB a b/\gB a b<=9223372036854775002:=by
 have e:=Int.mul_tdiv_add_tmod a b;have r1:=Int.tmod_lt_of_pos a hb;have r2:=Int.lt_tmod_of_pos a hb;have hq: -9223372036854775000<=a.tdiv b/\a.tdiv b<=9223372036854775000:=by
  have:=H7 a b;omega
 unfold gB;generalize a.tdiv b=q at*;generalize a.tmod b=r at*;have key: ∀w:Int,v<=w->b*v<=b*w:=λw h=>EX h (by omega);have key2: ∀w:Int,w<=v->b*w<=b*v:=λw h=>EX h (by omega);by_cases hr:r<0
 ·rw[D3 hr];simp only[wr];rw[ac (n:=q) (by omega) (by omega),ac (n:=q-1) (by omega) (by omega)];refine⟨⟨λh=> ?_,λh=> ?_⟩,by omega,by omega⟩
  ·have:=key _ h;rw[Int.mul_sub,Int.mul_one]at this;omega
  ·by_cases hv:v<=q-1;·exact hv
   ·have:=key2 q (by omega);omega
 ·rw[D2 hr];simp only[wr];rw[ac (n:=q) (by omega) (by omega)];refine⟨⟨λh=> ?_,λh=> ?_⟩,by omega,by omega⟩
  ·have:=key _ h;omega
  ·by_cases hv:v<=q;·exact hv
   ·have:=key2 (q+1) (by omega);rw[Int.mul_add,Int.mul_one]at this;omega
def zA (x:List (Int×Int))(k rest:Int):List (Int×Int):=cX ((vals x).filter λv=>decide (k*v<=rest))
theorem yg {x:List (Int×Int)}(h:ay x)(k rest:Int):ay (zA x k rest)/\∀v,v∈vals (zA x k rest)↔v∈vals x/\k*v<=rest:=by
 have hu:=fD (p:=λv=>decide (k*v<=rest)) (aE h);refine⟨gg hu,λv=> ?_⟩;unfold zA;rw[bI hu,ES];simp
theorem BR {x:List (Int×Int)}{k rest:Int}(h:Fine x)(hk:CoefOk k)(h1: -9223372036854775000<=rest)(h2:rest<=9223372036854775000):cutW x k rest=zA x k rest:=by
 have hc:=fV hk;obtain⟨p1,p2⟩:=yg h.ok k rest;have q1:=(sS h.ok k rest).1;refine iE q1 p1 (dD (aE q1) (aE p1) λv=> ?_);rw[p2];unfold cutW;by_cases hp:0<k
 ·rw[D3 hp,(bQ h.ok _ _).2,(rz hp h1 h2).1];constructor;·rintro⟨a,_,b⟩;exact⟨a,b⟩
  ·rintro⟨a,b⟩;exact⟨a,(h.val v a).1,b⟩
 ·rw[D2 hp];have hn:0< -k:=(by have:=hk.1;omega);rw[(cZ hk).1,(bQ h.ok _ _).2];obtain⟨f1,f2,f3⟩:=rz (v:= -v) hn h1 h2;rw[Int.neg_mul_neg]at f1;simp only[wr];rw[ac (by omega) (by omega),<-f1];constructor;·rintro⟨a,b,_⟩;exact⟨a,by omega⟩
  ·rintro⟨a,b⟩;exact⟨a,by omega,(h.val v a).2⟩
def bU:List (Int×List (Int×Int))->aa->aa
 | [],d=>d
 |p::ps,d=>bU ps (d.set p.1.toNat p.2)
theorem kn: ∀(ps:List (Int×List (Int×Int))) (d:aa),(bU ps d).length=d.length
 | [],d=>rfl
 |p::ps,d=>by rw[bU,kn ps,EL]
theorem cQ: ∀(ps:List (Int×List (Int×Int))) (d:aa) (i:Nat),(∀p∈ps,p.1.toNat≠i)->(bU ps d)[i]? =d[i]?
 | [],d,i,_=>rfl
 |p::ps,d,i,h=>by
  rw[bU,cQ ps _ i λq hq=>h q (.tail _ hq),E4 (h p (.head _))]
def rT (ps:List (Int×List (Int×Int))):Prop:=ps.Pairwise λp q=>p.1.toNat≠q.1.toNat
theorem dJ: ∀{ps:List (Int×List (Int×Int))} {d:aa},rT ps->(∀p∈ps,p.1.toNat<d.length)->∀p∈ps,(bU ps d)[p.1.toNat]? =some p.2
 |q::ps,d,ha,hl,p,hp=>by
  have h1:=DY.1 ha;rw[bU];rcases DQ.1 hp with rfl|hp;·rw[cQ ps _ _ λr hr=>Ne.symm (h1.1 r hr),EJ (hl _ (.head _))]
  ·exact dJ h1.2 (λr hr=>by rw[EL];exact hl r (.tail _ hr)) p hp
theorem m5: ∀(ps:List (Int×List (Int×Int))) (p:Int×List (Int×Int)) (d:aa),bU (ps++[p]) d=(bU ps d).set p.1.toNat p.2
 | [],p,d=>rfl
 |q::ps,p,d=>by rw[Ez,bU,bU,m5 ps]
theorem setAll_mem {ps:List (Int×List (Int×Int))}{d:aa}(ha:rT ps)(hl: ∀p∈ps,p.1.toNat<d.length){x:List (Int×Int)}:x∈bU ps d->x∈d∨∃p∈ps,p.2=x:=by
 intro h;obtain⟨i,hi⟩:=G0.1 h;by_cases he: ∃p∈ps,p.1.toNat=i
 ·obtain⟨p,hp,rfl⟩:=he;rw[dJ ha hl p hp]at hi;exact .inr ⟨p,hp,D4 hi⟩
 ·rw[cQ ps d i λp hp e=>he ⟨p,hp,e⟩]at hi;exact .inl (D7 hi)
theorem wh {ps:List (Int×List (Int×Int))}{d:aa}(ha:rT ps)(hl: ∀p∈ps,p.1.toNat<d.length){p}(hp:p∈ps):p.2∈bU ps d:=D7 (dJ ha hl p hp)
theorem tM {ps:List (Int×List (Int×Int))}{d:aa}(ha:rT ps)(hl: ∀p∈ps,p.1.toNat<d.length):bU ps d=d↔∀p∈ps,p.2=domAt d p.1:=by
 constructor
 ·intro h p hp;have:=dJ ha hl p hp;rw[h,ak (hl p hp)]at this;exact(D4 this).symm
 ·intro h;refine F1 λi=> ?_;by_cases he: ∃p∈ps,p.1.toNat=i
  ·obtain⟨p,hp,rfl⟩:=he;rw[dJ ha hl p hp,ak (hl p hp),h p hp]
  ·exact cQ ps d i λp hp e=>he ⟨p,hp,e⟩
def dP (d:aa)(low rhs:Int)(p:Int×Int):List (Int×Int):=zA (domAt d p.1) p.2 (rhs-(low-cq (domAt d p.1) p.2))
def iG (d:aa)(vars coefs:List Int)(rhs:Int):List (Int×List (Int×Int)):=(vars.zip coefs).map λp=>(p.1,dP d (bi (ab d vars coefs)) rhs p)
def MO (d:aa)(vars coefs:List Int)(rhs:Int):aa:=bU (iG d vars coefs rhs) d
structure Whole (d:aa)(vars coefs:List Int)(rhs:Int):Prop where
 fine:SumFine d vars coefs
 nod:vars.Nodup
 ne: []∉d
 big:ai coefs<=4611686018427388928/\aF rhs<=4611686018427388928
theorem lY: ∀{vars coefs:List Int},vars.Nodup->(∀v∈vars,0<=v)->(vars.zip coefs).Pairwise λp q=>p.1.toNat≠q.1.toNat
 | [],_,_,_=>by simp
 |_::_,[],_,_=>by simp
 |v::vars,k::coefs,hn,h0=>by
  have h1:=EN.1 hn;rw[FA];refine DY.2 ⟨λp hp=> ?_,lY h1.2 λv hv=>h0 v (.tail _ hv)⟩;have hm:=(E8 hp).1;have h2:=h0 _ (.head _);have h3:=h0 _ (.tail _ hm);intro e;have:v=p.1:=(by simp only at e;omega);exact h1.1 (this▸hm)
theorem iF {d:aa}{vars coefs:List Int}{rhs:Int}(h:Whole d vars coefs rhs):rT (iG d vars coefs rhs)/\∀p∈iG d vars coefs rhs,p.1.toNat<d.length:=by
 constructor
 ·unfold rT iG;rw[HD];exact lY h.nod λv hv=>(h.fine.vin v hv).1
 ·intro p hp;obtain⟨q,hq,rfl⟩:=DD.1 hp;exact(h.fine.vin _ (E8 hq).1).2
theorem eT {d:aa}{vars coefs:List Int}{rhs:Int}(h:Whole d vars coefs rhs): ∀t∈ab d vars coefs,t.1≠[]:=by
 intro t ht e;obtain⟨p,hp,rfl⟩:=DD.1 ht;have:=af (h.fine.vin _ (E8 hp).1).2;simp only at e;rw[e]at this;exact h.ne this
theorem uH: ∀{ts:List (List (Int×Int)×Int)},gr ts->(∀t∈ts,t.1≠[])->∀t∈ts,aF t.2*1048576-aZ ts<=bi ts-cq t.1 t.2/\bi ts-cq t.1 t.2<=aZ ts-aF t.2*1048576
 |t0::ts,h,hne,t,ht=>by
  have hs:=kN (ts:=ts) (λt ht=>h t (.tail _ ht)) (λt ht=>hne t (.tail _ ht));have e:bi (t0::ts)=cq t0.1 t0.2+bi ts:=(by simp[bi]);have hb:=lz (h t0 (.head _)).1 (hne t0 (.head _)) t0.2;have hp:=dc ts;have ha:=bu t0.2;rw[cw,e];rcases DQ.1 ht with rfl|ht;·omega
  ·have:=uH (λt ht=>h t (.tail _ ht)) (λt ht=>hne t (.tail _ ht)) t ht;omega
theorem xL {d:aa}{vars coefs:List Int}{rhs:Int}(h:Whole d vars coefs rhs){p:Int×Int}(hp:p∈vars.zip coefs):
  -4611686018427388928<=bi (ab d vars coefs)/\bi (ab d vars coefs)<=4611686018427388928/\-4611686018427388928<=bi (ab d vars coefs)-cq (domAt d p.1) p.2/\bi (ab d vars coefs)-cq (domAt d p.1) p.2<=4611686018427388928/\
   -9223372036853729280<=rhs-(bi (ab d vars coefs)-cq (domAt d p.1) p.2)/\rhs-(bi (ab d vars coefs)-cq (domAt d p.1) p.2)<=9223372036853729280:=by
 have hs:=kN (dh h.fine) (eT h);have hm:=uH (dh h.fine) (eT h) (domAt d p.1,p.2) (DD.2 ⟨p,hp,rfl⟩);rw[cy h.fine.len]at hs hm;have hb:=h.big;have ha:aF rhs=max rhs (-rhs):=rfl;have hk1:1<=aF p.2:=(by have:=(h.fine.ck _ (E8 hp).2).1;unfold aF;omega);simp only at hm;omega
theorem qQ {d:aa}{vars coefs:List Int}{rhs:Int}(h:Whole d vars coefs rhs): ∀(l:List (Int×Int)) (d1:aa) (ch:Bool),(∀p∈l,p∈vars.zip coefs)->l.Pairwise (λp q=>p.1.toNat≠q.1.toNat)->(∀p∈l,domAt d1 p.1=domAt d p.1)->
  ((∃p∈l,dP d (bi (ab d vars coefs)) rhs p=[])->(eL (bi (ab d vars coefs)) rhs l d1 ch).2.2=false)/\
  ((∀p∈l,dP d (bi (ab d vars coefs)) rhs p≠[])->eL (bi (ab d vars coefs)) rhs l d1 ch=(bU (l.map λp=>(p.1,dP d (bi (ab d vars coefs)) rhs p)) d1,ch||l.any (λp=> !decide (dP d (bi (ab d vars coefs)) rhs p=domAt d p.1)),true))
 | [],d1,ch,_,_,_=>by simp[eL,bU]
 |(v,k)::l,d1,ch,hm,ha,hd=>by
  have hz:=hm _ (.head _);obtain⟨hv,hk⟩:=E8 hz;have hx:=h.fine.dom _ (af (h.fine.vin _ hv).2);have hne:domAt d v≠[]:=λe=>h.ne (e▸af (h.fine.vin _ hv).2);have hck:=h.fine.ck _ hk;have hr:=xL h hz;have ha1:=DY.1 ha;have e1:domAt d1 v=domAt d v:=hd _ (.head _);have e2:cutW (domAt d1 v) k (gG (bi (ab d vars coefs)) rhs (domAt d1 v) k)=dP d (bi (ab d vars coefs)) rhs (v,k):=by
   rw[e1];unfold gG dP;rw[(sN hx hne hck).1];simp only[wr]at hr⊢;rw[ac (n:=bi (ab d vars coefs)-cq (domAt d v) k) (by omega) (by omega),ac (by omega) (by omega)];exact BR hx hck (by omega) (by omega)
  have hd2: ∀p∈l,domAt (d1.set v.toNat (dP d (bi (ab d vars coefs)) rhs (v,k))) p.1=domAt d p.1:=by
   intro p hp;rw[<-hd p (.tail _ hp)];unfold domAt;rw[D0,D0,E4 (ha1.1 p hp)]
  obtain⟨i1,i2⟩:=qQ h l (d1.set v.toNat (dP d (bi (ab d vars coefs)) rhs (v,k))) (ch|| !decide (dP d (bi (ab d vars coefs)) rhs (v,k)=domAt d v)) (λp hp=>hm p (.tail _ hp)) ha1.2 hd2;rw[eL,e2,e1];constructor
  ·rintro⟨p,hp,he⟩;by_cases h0:dP d (bi (ab d vars coefs)) rhs (v,k)=[];·rw[D3 h0]
   ·rw[D2 h0];rcases DQ.1 hp with rfl|hp;·exact DS he h0
    ·exact i1 ⟨p,hp,he⟩
  ·intro hall;rw[D2 (hall _ (.head _)),i2 λp hp=>hall p (.tail _ hp)];simp only[DZ,bU,List.any_cons,Bool.or_assoc]
theorem ux {d:aa}{vars coefs:List Int}{rhs:Int}(h:Whole d vars coefs rhs):
  ([]∈MO d vars coefs rhs->(mostW d vars coefs rhs).2.2=false)/\([]∉MO d vars coefs rhs->mostW d vars coefs rhs=(MO d vars coefs rhs,!decide (MO d vars coefs rhs=d),true)):=by
 obtain⟨ha,hl⟩:=iF h;have hends:(endsW d vars coefs).1=bi (ab d vars coefs):=by
  unfold endsW;have hb:=h.big;have hr:=bu rhs;have hw:=cy (d:=d) h.fine.len;rw[jL 0 0 (dh h.fine) (eT h) (by omega) (by omega) (by omega) (by omega)];simp
 obtain⟨i1,i2⟩:=qQ h (vars.zip coefs) d false (λp hp=>hp) (lY h.nod λv hv=>(h.fine.vin v hv).1) (λp hp=>rfl);unfold mostW;rw[hends];constructor
 ·intro hm;rcases setAll_mem ha hl hm with hm|⟨p,hp,he⟩;·exact DS hm h.ne
  ·obtain⟨q,hq,rfl⟩:=DD.1 hp;exact i1 ⟨q,hq,he⟩
 ·intro hm;have hall: ∀p∈vars.zip coefs,dP d (bi (ab d vars coefs)) rhs p≠[]:=λp hp e=>hm (by
   have:=wh ha hl (DD.2 ⟨p,hp,rfl⟩:_∈iG d vars coefs rhs);rw[show(p.1,dP d (bi (ab d vars coefs)) rhs p).2=[]from e]at this;exact this)
  rw[i2 hall];refine Prod.ext Y (Prod.ext ?_ Y);simp only[HH];rw[FZ,Ev];simp only[Ed,decide_eq_false_iff_not];have hss:=tM ha hl;constructor
  ·rintro⟨p,hp,hne⟩ e;exact hne ((hss.1 e) _ (DD.2 ⟨p,hp,rfl⟩))
  ·intro hne;refine EB λhno=>hne (hss.2 λq hq=> ?_);obtain⟨p,hp,rfl⟩:=DD.1 hq;exact EB λhn=>hno ⟨p,hp,hn⟩
theorem oJ {i:Nat}: ∀{ts:List (List (Int×Int)×Int)} (k:Nat) (n:Int),gr ts->(∀t∈ts,t.1≠[])->-4611686018427388928<=n-aZ ts->n+aZ ts<=4611686018427388928->∀(hi:k<=i) (t:List (Int×Int)×Int),ts[i-k]? =some t->f8 i k ts n=n+(bi ts-cq t.1 t.2)
 | [],k,n,_,_,_,_,_,t,ht=>by simp at ht
 |t0::ts,k,n,h,hne,h1,h2,hi,t,ht=>by
  have hf:=h t0 (.head _);have hx:=hne t0 (.head _);have e1:=yd hf.1 hx hf.2;have b:=lz hf.1 hx t0.2;have hp:=dc ts;have ha:=bu t0.2;have hs:=kN (ts:=ts) (λt ht=>h t (.tail _ ht)) (λt ht=>hne t (.tail _ ht));rw[cw]at h1 h2;have el:bi (t0::ts)=cq t0.1 t0.2+bi ts:=(by simp[bi]);rw[f8,el];by_cases hk:k=i
  ·subst hk;rw[D3 Y];simp at ht;subst ht;have hrest: ∀(ts:List (List (Int×Int)×Int)) (j:Nat) (n:Int),k<j->gr ts->(∀t∈ts,t.1≠[])->-4611686018427388928<=n-aZ ts->n+aZ ts<=4611686018427388928->f8 k j ts n=n+bi ts:=by
    intro ts
    induction ts with
    |nil=>intro j n _ _ _ _ _;simp[f8,bi]
    |cons t1 ts ih=>
     intro j n hj h hne h1 h2;have hf:=h t1 (.head _);have hx:=hne t1 (.head _);have e1:=yd hf.1 hx hf.2;have b:=lz hf.1 hx t1.2;have hp:=dc ts;rw[cw]at h1 h2;have el:bi (t1::ts)=cq t1.1 t1.2+bi ts:=(by simp[bi]);rw[f8,D2 (by omega),e1];simp only[wr];rw[ac (by omega) (by omega),ih (j+1) _ (by omega) (λt ht=>h t (.tail _ ht)) (λt ht=>hne t (.tail _ ht)) (by omega) (by omega),el];omega
   rw[hrest ts (k+1) n (by omega) (λt ht=>h t (.tail _ ht)) (λt ht=>hne t (.tail _ ht)) (by omega) (by omega)];omega
  ·rw[D2 hk,e1];simp only[wr];rw[ac (by omega) (by omega),oJ (k+1) _ (λt ht=>h t (.tail _ ht)) (λt ht=>hne t (.tail _ ht)) (by omega) (by omega) (by omega) t (by
    rw[show i-k=(i-(k+1))+1 by omega]at ht;simpa using ht)]
   omega
theorem qP {d:aa}{vars coefs:List Int}{rhs:Int}(h:Whole d vars coefs rhs): ∀n,n<=vars.length->kw d vars coefs rhs n=bU ((iG d vars coefs rhs).take n) d
 |0,_=>by simp[kw,bU]
 |n+1,hn=>by
  have h1:n<vars.length:=(by omega);have h2:n<coefs.length:=(by have:=h.fine.len;omega);have hz:n<(vars.zip coefs).length:=(by simp;omega);have hp:(vars.zip coefs)[n]∈vars.zip coefs:=D8 hz;have hcl:n<(iG d vars coefs rhs).length:=(by simp[iG];omega);have ec:(iG d vars coefs rhs)[n]=(vars[n],dP d (bi (ab d vars coefs)) rhs (vars[n],coefs[n])):=(by simp[iG]);have hv:=h.fine.vin _ (D8 h1);have hx:=h.fine.dom _ (af hv.2);have hne:domAt d vars[n]≠[]:=λe=>h.ne (e▸af hv.2);have hck:=h.fine.ck _ (D8 h2);have hzz:(vars[n],coefs[n])∈vars.zip coefs:=by
   have:=hp;simpa using this
  have hr:=xL h hzz;simp only at hr;have hw:=cy (d:=d) h.fine.len;have hb:=h.big;have har:=bu rhs;have hrest:f8 n 0 (ab d vars coefs) 0=bi (ab d vars coefs)-cq (domAt d vars[n]) coefs[n]:=by
   have:=oJ (i:=n) 0 0 (dh h.fine) (eT h) (by omega) (by omega) (by omega) (domAt d vars[n],coefs[n]) (by
    rw[Nat.sub_zero];simp[ab,D1 hz])
   simp only at this;omega
  have hat:sk d vars coefs rhs n=dP d (bi (ab d vars coefs)) rhs (vars[n],coefs[n]):=by
   unfold sk dP zA Ca;rw[aN h1,aN h2,hrest];congr 1;refine HE λv hv=> ?_;have hvb:=hx.val v hv;have hm:=dW coefs[n] v hvb.1 hvb.2;have hc2:=hck.2;have e1:wr (coefs[n]*v)=coefs[n]*v:=ac (by omega) (by omega);have e2:wr (rhs-(bi (ab d vars coefs)-cq (domAt d vars[n]) coefs[n]))=rhs-(bi (ab d vars coefs)-cq (domAt d vars[n]) coefs[n]):=ac (by omega) (by omega);exact decide_eq_decide.2 (by rw[e1,e2])
  rw[kw,qP h n (by omega),aN h1,hat,DB hcl,ec,m5]
theorem o4 {d:aa}{vars coefs:List Int}{rhs:Int}(h:Whole d vars coefs rhs):kw d vars coefs rhs vars.length=MO d vars coefs rhs:=by
 rw[qP h _ (DL _),DU (by simp[iG];omega)];rfl
def Sub (a b:aa):Prop:=a.length=b.length/\∀(i:Nat) x y,a[i]? =some x->b[i]? =some y->∀v∈vals x,v∈vals y
theorem Sub.refl (a:aa):Sub a a:=⟨rfl,λi x y h1 h2 v hv=>by rw[h1]at h2;exact D4 h2▸hv⟩
theorem Sub.trans {a b c:aa}(h:Sub a b)(k:Sub b c):Sub a c:=by
 refine⟨h.1.trans k.1,λi x z hx hz v hv=> ?_⟩;have hi:i<a.length:=(D5.1 hx).1;have hi2:i<b.length:=(by have:=h.1;omega);have hy:b[i]? =some b[i]:=D1 hi2;exact k.2 i _ z hy hz v (h.2 i x _ hx hy v hv)
theorem Sub.antisymm {a b:aa}(h:Sub a b)(k:Sub b a)(ha: ∀x∈a,Fine x)(hb: ∀x∈b,Fine x):a=b:=by
 refine F1 λi=> ?_;by_cases hi:i<a.length
 ·have hi2:i<b.length:=(by have:=h.1;omega);have hx:a[i]? =some a[i]:=D1 hi;have hy:b[i]? =some b[i]:=D1 hi2;have fx:=(ha _ (D8 hi)).ok;have fy:=(hb _ (D8 hi2)).ok;rw[hx,hy];congr 1;exact iE fx fy (dD (aE fx) (aE fy) λv=>⟨h.2 i _ _ hx hy v,k.2 i _ _ hy hx v⟩)
 ·rw[EQ (by omega),EQ (by have:=h.1;omega)]
theorem jw: ∀{a b:aa},Sub a b->(∀x∈a,Fine x)->(∀x∈b,Fine x)->weight a<=weight b/\(a≠b->weight a<weight b)
 | [],[],_,_,_=>⟨DL _,λh=>DS rfl h⟩
 | [],_::_,h,_,_=>by have:=h.1;simp at this
 |_::_,[],h,_,_=>by have:=h.1;simp at this
 |x::a,y::b,h,ha,hb=>by
  have h1:=v7 (hb y (.head _)).ok (ha x (.head _)).ok (h.2 0 x y Y Y);have h2:=jw (a:=a) (b:=b) ⟨by have:=h.1;simpa using this,λi z w hz hw=>h.2 (i+1) z w (by simpa using hz) (by simpa using hw)⟩ (λz hz=>ha z (.tail _ hz)) (λz hz=>hb z (.tail _ hz));simp only[weight,DZ,Ej]at h2⊢;refine⟨by omega,λhne=> ?_⟩;by_cases e:x=y
  ·have:a≠b:=λe2=>hne (by rw[e,e2]);have:=h2.2 this;omega
  ·have:=h1.2 e;omega
theorem fT {d:aa}{vars coefs:List Int}{rhs:Int}(h:Whole d vars coefs rhs){p:Int×Int}(hp:p∈vars.zip coefs)(low:Int):
  ay (dP d low rhs p)/\∀v,v∈vals (dP d low rhs p)↔v∈vals (domAt d p.1)/\p.2*v<=rhs-(low-cq (domAt d p.1) p.2):=
 yg (h.fine.dom _ (af (h.fine.vin _ (E8 hp).1).2)).ok _ _
theorem ej {d:aa}{vars coefs:List Int}{rhs:Int}(h:Whole d vars coefs rhs):(∀x∈MO d vars coefs rhs,Fine x)/\Sub (MO d vars coefs rhs) d:=by
 obtain⟨ha,hl⟩:=iF h;refine⟨λx hx=> ?_,kn _ _,λi x y hx hy v hv=> ?_⟩
 ·rcases setAll_mem ha hl hx with hm|⟨p,hp,rfl⟩;·exact h.fine.dom x hm
  ·obtain⟨q,hq,rfl⟩:=DD.1 hp;obtain⟨c1,c2⟩:=fT h hq (bi (ab d vars coefs));exact(h.fine.dom _ (af (h.fine.vin _ (E8 hq).1).2)).cut c1 λv hv=>((c2 v).1 hv).1
 ·by_cases he: ∃p∈iG d vars coefs rhs,p.1.toNat=i
  ·obtain⟨p,hp,rfl⟩:=he;have e:=dJ ha hl p hp;rw[show MO d vars coefs rhs=bU (iG d vars coefs rhs) d from Y,e]at hx;obtain rfl:=D4 hx;rw[ak (hl p hp)]at hy;obtain rfl:=D4 hy;obtain⟨q,hq,rfl⟩:=DD.1 hp;exact(((fT h hq (bi (ab d vars coefs))).2 v).1 hv).1
  ·rw[show MO d vars coefs rhs=bU (iG d vars coefs rhs) d from Y,cQ _ _ _ λp hp e=>he ⟨p,hp,e⟩,hy]at hx;exact D4 hx▸hv
theorem Whole.most {d:aa}{vars coefs:List Int}{rhs:Int}(h:Whole d vars coefs rhs)(hne: []∉MO d vars coefs rhs):Whole (MO d vars coefs rhs) vars coefs rhs:=by
 obtain⟨h1,h2⟩:=ej h;exact⟨⟨h.fine.len,h.fine.vl,λv hv=>by rw[h2.1];exact h.fine.vin v hv,h.fine.ck,h1,by rw[h2.1];exact h.fine.dl⟩,h.nod,hne,h.big⟩
theorem n4 {rhs:Int}(h:aF rhs<=4611686018427388928):wr (0-rhs)= -rhs/\aF (wr (0-rhs))=aF rhs:=by
 have e:wr (0-rhs)= -rhs:=by
  unfold aF at h;rw[wr,ac (by omega) (by omega)];omega
 refine⟨e,?_⟩;rw[e];unfold aF;omega
theorem Whole.back {d:aa}{vars coefs:List Int}{rhs:Int}(h:Whole d vars coefs rhs):Whole d vars (az coefs) (wr (0-rhs)):=by
 have hb:=h.big;have hp:=aT coefs;refine⟨h.fine.back,h.nod,h.ne,?_⟩;rw[de _ h.fine.ck,(n4 (by omega)).2];exact hb
theorem Whole.unback {d d2:aa}{vars coefs:List Int}{rhs:Int}(h:Whole d vars coefs rhs)(h2:Whole d2 vars (az coefs) (wr (0-rhs))):Whole d2 vars coefs rhs:=
 ⟨⟨h.fine.len,h.fine.vl,h2.fine.vin,h.fine.ck,h2.fine.dom,h2.fine.dl⟩,h.nod,h2.ne,h.big⟩
def M1 (c:Con)(d:aa):aa:=MO d c.vars c.coefs c.rhs
def M2 (c:Con)(d:aa):aa:=MO d c.vars (az c.coefs) (wr (0-c.rhs))
def bE (c:Con)(d:aa):Prop:=Whole d c.vars c.coefs c.rhs
theorem di {c:Con}{d:aa}(h:bE c d):e5 c d=
  if []∈M1 c d then .inl none else if c.op=0 then .inl (some (M1 c d))else if []∈M2 c (M1 c d)then .inl none else
  if M1 c d=d/\M2 c (M1 c d)=M1 c d then .inl (some (M2 c (M1 c d)))else .inr (M2 c (M1 c d)):=by
 obtain⟨a1,a2⟩:=ux h;unfold e5;by_cases h1: []∈M1 c d;·rw[D3 h1,D3 (a1 h1)]
 ·have hw:bE c (M1 c d):=Whole.most h h1;obtain⟨b1,b2⟩:=ux hw.back;rw[D2 h1,a2 h1];simp only[GZ,if_false];by_cases h2:c.op=0
  ·rw[D3 h2,D3 h2];rfl
  ·rw[D2 h2,D2 h2];by_cases h3: []∈M2 c (M1 c d)
   ·have b1':(mostW (MO d c.vars c.coefs c.rhs) c.vars (az c.coefs) (wr (0-c.rhs))).2.2=false:=b1 h3;rw[D3 h3,D3 b1']
   ·have e:mostW (MO d c.vars c.coefs c.rhs) c.vars (az c.coefs) (wr (0-c.rhs))=(M2 c (M1 c d),!decide (M2 c (M1 c d)=M1 c d),true):=b2 h3;rw[D2 h3,e];simp only[GZ,if_false,Fg,DM];rfl
theorem oo {c:Con}{d:aa}(h: []∉d->bE c d):xH c d=
  if c.op=1/\[]∉d then(if []∈M2 c d then .inl none else if M1 c (M2 c d)=d then .inl (some d)else .inr (M1 c (M2 c d)))else .inl (if []∈d then none else some d):=by
 unfold xH;by_cases h1:c.op=1/\[]∉d
 ·have hw:=h h1.2;have e:xU d c=M2 c d:=o4 hw.back;rw[D3 h1,D3 h1,e];by_cases h2: []∈M2 c d;·rw[D3 h2,D3 h2]
  ·have hw2:bE c (M2 c d):=hw.unback (Whole.most hw.back h2);have e2:uy (M2 c d) c=M1 c (M2 c d):=o4 hw2;rw[D2 h2,D2 h2,e2]
 ·rw[D2 h1,D2 h1]
theorem uO {c:Con}(hop:c.op=1): ∀(N:Nat) (p:aa) (R:Option aa),bE c p->cE (e5 c) N p=some R->∃N',cE (xH c) N' (M1 c p)=some R
 |0,p,R,_,h=>by cases h
 |n+1,p,R,hw,h=>by
  have hs:=di hw;obtain⟨f1,s1⟩:=ej hw;by_cases h1: []∈M1 c p
  ·rw[D3 h1]at hs;obtain rfl:=bf h hs;refine⟨1,?_⟩;have e:=oo (c:=c) (d:=M1 c p) (λhn=>DS h1 hn);rw[D2 (λhh=>hh.2 h1),D3 h1]at e;simp only[cE,e]
  ·rw[D2 h1,D2 (by omega)]at hs;have hw1:bE c (M1 c p):=Whole.most hw h1;have hd:=oo (c:=c) (d:=M1 c p) (λ_=>hw1);rw[D3 ⟨hop,h1⟩]at hd;obtain⟨f2,s2⟩:=ej hw1.back;by_cases h2: []∈M2 c (M1 c p)
   ·rw[D3 h2]at hs hd;obtain rfl:=bf h hs;exact⟨1,by simp only[cE,hd]⟩
   ·rw[D2 h2]at hs hd;have hw2:bE c (M2 c (M1 c p)):=hw1.unback (Whole.most hw1.back h2);obtain⟨f3,s3⟩:=ej hw2;by_cases h3:M1 c p=p/\M2 c (M1 c p)=M1 c p
    ·rw[D3 h3]at hs;obtain rfl:=bf h hs;have e:M1 c (M2 c (M1 c p))=M1 c p:=(by rw[h3.2,h3.1,h3.1]);rw[D3 e]at hd;exact⟨1,by simp only[cE,hd,h3.2]⟩
    ·rw[D2 h3]at hs;simp only[cE,hs]at h;by_cases h4:M1 c (M2 c (M1 c p))=M1 c p
     ·rw[D3 h4]at hd;have e1:M2 c (M1 c p)=M1 c p:=s2.antisymm (by have s3':=s3;rw[show MO (M2 c (M1 c p)) c.vars c.coefs c.rhs=M1 c p from h4]at s3';exact s3') f2 f1;have e2:M1 c (M1 c p)=M1 c p:=(by rw[e1]at h4;exact h4);rw[e1]at h;cases n with
      |zero=>cases h
      |succ n=>
       have hs2:=di hw1;rw[e2,D2 h1,D2 (by omega),e1,D2 h1,D3 ⟨rfl,rfl⟩]at hs2;obtain rfl:=bf h hs2;exact⟨1,by simp only[cE,hd]⟩
     ·rw[D2 h4]at hd;obtain⟨N',hN⟩:=uO hop n _ R hw2 h;exact⟨N'+1,by simp only[cE,hd];exact hN⟩
theorem Cv {c:Con}{p:aa}(hw:bE c p): ∃N R,cE (e5 c) N p=some R:=by
 refine x5 (step:=e5 c) (λx=>bE c x) weight (λx y hx hy=> ?_) p hw;rw[di hx]at hy;obtain⟨f1,s1⟩:=ej hx;by_cases h1: []∈M1 c x;·rw[D3 h1]at hy;cases hy
 ·have hw1:bE c (M1 c x):=Whole.most hx h1;obtain⟨f2,s2⟩:=ej hw1.back;rw[D2 h1]at hy;by_cases h2:c.op=0;·rw[D3 h2]at hy;cases hy
  ·rw[D2 h2]at hy;by_cases h3: []∈M2 c (M1 c x);·rw[D3 h3]at hy;cases hy
   ·rw[D2 h3]at hy;by_cases h4:M1 c x=x/\M2 c (M1 c x)=M1 c x;·rw[D3 h4]at hy;cases hy
    ·rw[D2 h4]at hy;obtain rfl:=Sum.inr.inj hy;refine⟨hw1.unback (Whole.most hw1.back h3),?_⟩;have w1:=jw s1 f1 hx.fine.dom;have w2:=jw s2 f2 f1;by_cases e1:M1 c x=x
     ·have e2:M2 c (M1 c x)≠M1 c x:=λe2=>h4 ⟨e1,e2⟩;have:=w2.2 e2;have:=w1.1;exact GX (w2.2 e2) w1.1
     ·exact Nat.lt_of_le_of_lt w2.1 (w1.2 e1)
end Go.Proofs.YtopcjbahjjhdmaaGreat
