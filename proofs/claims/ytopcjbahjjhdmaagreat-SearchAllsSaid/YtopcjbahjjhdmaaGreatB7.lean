/- The texts FnT, FnU, FnV, FnW, FnX, FnY, FnZ, FgA, FgB, FgL, LiB, LiC, LiD, LiE, LiF, PuG, FgC, FgD, PuF, FgE, LiG of the workplace, joined. -/
import Derived.Test.YtopcjbahjjhdmaaGreatB6
namespace Go.Proofs.YtopcjbahjjhdmaaGreat
open Go Go.RowKit
set_option linter.unusedVariables false
set_option linter.unusedSimpArgs false
set_option maxRecDepth 8000
def cutW (x:List (Int×Int))(k rest:Int):List (Int×Int):=if 0<k then domCut x (-1048576) (g8 rest k)else domCut x (wr (0-g8 rest (wr (0-k)))) 1048576
theorem tU {x:List (Int×Int)}(h:aB x)(k rest:Int):aB (cutW x k rest)/\∀v,v∈vals (cutW x k rest)->v∈vals x:=by
 unfold cutW;split;·exact⟨(bR h _ _).1,λv hv=>(((bR h _ _).2 v).1 hv).1⟩
 ·exact⟨(bR h _ _).1,λv hv=>(((bR h _ _).2 v).1 hv).1⟩
theorem sL {x:List (Int×Int)}(h:Fine x)(k rest:Int):Fine (cutW x k rest):=h.cut (tU h.ok k rest).1 (tU h.ok k rest).2
def ij (low rhs:Int)(x:List (Int×Int))(k:Int):Int:=wr (rhs-wr (low-(endW x k false).1))
def fj (low rhs:Int):List (Int×Int)->aa->Bool->aa×Bool×Bool
 | [],d,ch=>(d,ch,true)
 |(v,k)::l,d,ch=>
  if cutW (domAt d v) k (ij low rhs (domAt d v) k)=[]then(d,false,false)
  else fj low rhs l (d.set v.toNat (cutW (domAt d v) k (ij low rhs (domAt d v) k))) (ch|| !decide (cutW (domAt d v) k (ij low rhs (domAt d v) k)=domAt d v))
def mostW (d:aa)(vars coefs:List Int)(rhs:Int):aa×Bool×Bool:=fj (endsW d vars coefs).1 rhs (vars.zip coefs) d false
structure SumFine (d:aa)(vars coefs:List Int):Prop where
 len:vars.length=coefs.length
 vl:vars.length*8<=140737488355328
 vin: ∀v∈vars,0<=v/\v.toNat<d.length
 ck: ∀k∈coefs,CoefOk k
 dom: ∀x∈d,Fine x
 dl:d.length*24<=140737488355328
theorem SumFine.in_ {d:aa}{vars coefs:List Int}(h:SumFine d vars coefs):SumIn d vars coefs:=⟨h.len,h.vl,h.vin,h.ck,λx hx=>(h.dom x hx).domB,h.dl⟩
theorem fA {d:aa}{i:Nat}{x:List (Int×Int)}{p:List (Int×Int)->Prop}(h: ∀z∈d,p z)(hx:p x): ∀z∈d.set i x,p z:=by
 intro z hz;rcases EV hz with hz|rfl;·exact h z hz
 ·exact hx
theorem p9 (d:aa)(vars coefs:List Int)(rhs:Int)(h:SumFine d vars coefs):
  SpecM Tryz.prog 202 54 1 (d.map cD) [aq vars,aq coefs,.int .i64 rhs] ((mostW d vars coefs rhs).1.map cD) [.bool (mostW d vars coefs rhs).2.1,.bool (mostW d vars coefs rhs).2.2]:=by
 refine SpecM.body Tryz.func202 Y Y Y (by simp[PV.flat]) λw0 v0 Z1=> ?_;have hends:=qf d vars coefs h.in_;obtain⟨hlen,hvl,hvin,hck,hdom,hdl⟩:=h;unfold mostW;generalize endsW d vars coefs=es at*;obtain⟨low,high,is⟩:=es;simp only at hends⊢;generalize hres:fj low rhs (vars.zip coefs) d false=res;refine .B ?_;refine .D hends ?_;refine T.K (T.ind (λs:Nat×aa×Bool=>⟨[(0,.ref 0),(2,.val false (aq coefs)),(3,.val false (.int .i64 rhs)),(10,.val true (.int .i64 low)),(13,.val true (.bool s.2.2)),(29,.val false (aq vars)),(30,.val true (.int .i64 (vars.map cI).length)),(31,.val true (.int .i64 s.1))],[(0,some (.sl 54 1 true (s.2.1.map cD)))],1⟩)
  (λs=>s.1<=vars.length/\fj low rhs ((vars.zip coefs).drop s.1) s.2.1 s.2.2=res/\s.2.1.length=d.length/\∀x∈s.2.1,Fine x) (λs=>vars.length-s.1) (0,d,false) ⟨by simp,hres,rfl,hdom⟩ (λ_ _ h=>h) ?_)
 rintro⟨i,d1,ch⟩ ⟨hil,he,hl1,hf1⟩ ih;simp only at hil he hl1 hf1;dsimp only;refine .B ?_;refine T.cd Y (λh1=> ?_) (λh1=> ?_)
 ·have h1:i<vars.length:=(by simpa using h1);have h2:i<coefs.length:=(by omega);have hv:=hvin _ (EA h1);have hk:=hck _ (EA h2);have hk2:=fI hk;have hvd:vars[i].toNat<d1.length:=(by omega);have hx:=hf1 _ (ac hvd);have hrow:(d1.map cD)[vars[i].toNat]? =some (cD (domAt d1 vars[i])):=(by simp[aj hvd]);have hz:i<(vars.zip coefs).length:=(by simp;omega);rw[EP hz,Gb,fj]at he;have hend:=j8 (domAt d1 vars[i]) coefs[i] false hx.domB hk;have hfl:coefs[i]≠0:=hk.1;have hng:IntKind.i64.wrap (0-coefs[i])≠0:=(by rw[af (by omega) (by omega)];omega);have hfine:=sL hx coefs[i] (ij low rhs (domAt d1 vars[i]) coefs[i]);have hdc:=λlo hi=>(gS (domAt d1 vars[i]) lo hi (by have:=hx.len;omega)).frz;have hcw:cutW (domAt d1 vars[i]) coefs[i] (ij low rhs (domAt d1 vars[i]) coefs[i])=if 0<coefs[i]then domCut (domAt d1 vars[i]) (-1048576) (g8 (ij low rhs (domAt d1 vars[i]) coefs[i]) coefs[i])else domCut (domAt d1 vars[i]) (wr (0-g8 (ij low rhs (domAt d1 vars[i]) coefs[i]) (wr (0-coefs[i])))) 1048576:=rfl
  have hsame:=λx hxl=>eL x (domAt d1 vars[i]) hxl;generalize cutW (domAt d1 vars[i]) coefs[i] (ij low rhs (domAt d1 vars[i]) coefs[i])=cx at*;unfold ij at hcw;generalize endW (domAt d1 vars[i]) coefs[i] false=e1 at*;generalize hvi:vars[i]=v at*;generalize hki:coefs[i]=k at*;generalize domAt d1 v=dv at*;refine .B ?_;refine J.i Y Y Y Y Y Y Y Y Y (r:=cI v) (by omega) (by rw[<-hvi];exact ax h1) Y ?_;refine .B ?_;refine J.i Y Y Y Y Y Y Y Y Y (r:=cI k) (by omega) (by rw[<-hki];exact ax h2) Y ?_;refine .B ?_;refine J.io Y Y Y Y Y Y Y Y Y hv.1 (by simpa using hvd) Y ?_;refine J.lo Y Y Y Y Y Y (r:=cD dv) hrow Y ?_;refine .B ?_;refine .D hend ?_;refine J.io Y Y Y Y Y Y Y Y Y hv.1 (by simpa using hvd) Y ?_;refine J.lo Y Y Y Y Y Y (r:=cD dv) hrow Y ?_
  repeat' first|refine J.e Y Y Y Y ?_|refine J.skip Y Y Y ?_|refine J.bx Y Y Y Y Y Y ?_
  refine J.nil ?_;refine T.mid ⟨[(0,.ref 0),(2,.val false (aq coefs)),(3,.val false (.int .i64 rhs)),(10,.val true (.int .i64 low)),(13,.val true (.bool ch)),(29,.val false (aq vars)),(30,.val true (.int .i64 (vars.map cI).length)),(31,.val true (.int .i64 i)),(15,.val true (.int .i64 v)),(20,.val true (dm cx))],[(0,some (.sl 54 1 true (d1.map cD)))],1⟩ ?_ ?_
  ·refine .B ?_;refine T.cd Y (λh3=> ?_) (λh3=> ?_)
   ·have h3:0<k:=h3;rw[E6 h3]at hcw;refine .B ?_;refine J.cc Y Y Y Y Y (qw _ k hfl) Y Y ?_;refine J.cc Y Y Y Y Y (hdc _ _) Y Y ?_;rw[hcw];refine .B ?_;exact⟨rfl,[0,2,3,10,13,29,30,31,15,20],[0],rfl,rfl⟩
   ·have h3: ¬0<k:=h3;rw[E4 h3]at hcw;refine .B ?_;refine J.cc Y Y Y Y Y (qw _ _ hng) Y Y ?_;refine .B ?_;refine J.cc Y Y Y Y Y (hdc _ _) Y Y ?_;rw[hcw];refine .B ?_;exact⟨rfl,[0,2,3,10,13,29,30,31,15,20],[0],rfl,rfl⟩
  ·clear hcw;refine .B ?_;refine T.cd Y (λh4=> ?_) (λh4=> ?_)
   ·have h4:cx=[]:=(by simp at h4;exact h4);rw[E6 h4]at he;subst he;refine .B ?_;exact⟨.v Y Y Y (λh=>by cases h) (.v rfl rfl rfl (λh=>by cases h) .nil),_,rfl,rfl⟩
   ·have h4:cx≠[]:=λe=>h4 (by rw[e];rfl);rw[E4 h4]at he;have hset:=fA (p:=Fine) (i:=v.toNat) hf1 hfine;cases ch
    ·refine .B ?_;refine J.io Y Y Y Y Y Y Y Y Y hv.1 (by simpa using hvd) Y ?_;refine J.lo Y Y Y Y Y Y (r:=cD dv) hrow Y ?_;refine .B ?_;refine .D (hsame cx (by have:=hfine.len;omega)) ?_;refine J.io Y Y Y Y Y Y Y Y Y hv.1 (by simpa using hvd) Y ?_;refine J.w1 Y Y Y Y Y Y Y Y Y Y Y (λ_=>rfl) hvd ?_;refine .B ?_;rw[ai (l:=vars.length) (by omega) (by omega)];exact T.K (ih (i+1,d1.set v.toNat cx,!decide (cx=dv)) ⟨by simp only;omega,he,by simp[hl1],hset⟩ (by simp only;omega))
    ·refine .B ?_;refine J.io Y Y Y Y Y Y Y Y Y hv.1 (by simpa using hvd) Y ?_;refine J.w1 Y Y Y Y Y Y Y Y Y Y Y (λ_=>rfl) hvd ?_;refine .B ?_;rw[ai (l:=vars.length) (by omega) (by omega)];exact T.K (ih (i+1,d1.set v.toNat cx,true) ⟨by simp only;omega,he,by simp[hl1],hset⟩ (by simp only;omega))
 ·have h1:i=vars.length:=(by simp at h1;omega);subst h1;rw[Fb (by simp;omega),fj]at he;subst he;refine .B ?_;exact⟨.v Y Y Y (λh=>by cases h) (.v rfl rfl rfl (λh=>by cases h) .nil),_,rfl,rfl⟩
def dP (i:Nat):Nat->List (List (Int×Int)×Int)->Int->Int
 |_,[],n=>n
 |k,t::ts,n=>dP i (k+1) ts (if k=i then n else wr (n+(endR t.1 t.2).1))
def jF (x:List Int)(k rhs rest:Int):List Int:=x.filter λv=>decide (wr (k*v)<=wr (rhs-rest))
def gP (d:aa)(vars coefs:List Int)(rhs:Int)(i:Nat):List (Int×Int):=bX (jF (vals (domAt d (vars.getD i 0))) (coefs.getD i 0) rhs (dP i 0 (ae d vars coefs) 0))
def dc (d:aa)(vars coefs:List Int)(rhs:Int):Nat->aa
 |0=>d
 |n+1=>(dc d vars coefs rhs n).set (vars.getD n 0).toNat (gP d vars coefs rhs n)
theorem iN (d:aa)(vars coefs:List Int)(rhs:Int): ∀n,(dc d vars coefs rhs n).length=d.length
 |0=>rfl
 |n+1=>by simp[dc,iN d vars coefs rhs n]
theorem aO {l:List Int}{i:Nat}(h:i<l.length):l.getD i 0=l[i]:=by simp[E0,E5 h]
theorem lh (d:aa)(vars coefs:List Int)(rhs:Int)(h:SumIn d vars coefs):
  Spec Tryz.prog 205 false [ao d,aq vars,aq coefs,.int .i64 rhs] [.own 54 1 ((dc d vars coefs rhs vars.length).map cD)]:=by
 refine Spec.body Tryz.func205 Y Y Y λw0 Z0=> ?_;obtain⟨hlen,hvl,hvin,hck,hdom,hdl⟩:=h;refine .B ?_;refine .D (cJ d hdl (λx hx=>(hdom x hx).2.2)) ?_;refine T.K (T.ind (λi:Nat=>⟨[(0,.val false (ao d)),(1,.val false (aq vars)),(2,.val false (aq coefs)),(3,.val false (.int .i64 rhs)),(9,.ref 0),(10,.val true (.int .i64 i))],[(0,some (.sl 54 1 true ((dc d vars coefs rhs i).map cD)))],1⟩) (λi=>i<=vars.length) (λi=>vars.length-i) 0 (by simp) (λ_ _ h=>h) ?_);rintro i hil ih;refine .B ?_;refine T.cd Y (λh1=> ?_) (λh1=> ?_)
 ·have h1:i<vars.length:=(by simpa using h1);have h2:i<coefs.length:=(by omega);have hv:=hvin _ (EA h1);have hx:=hdom _ (ac hv.2);have hrow:(d.map cD)[vars[i].toNat]? =some (cD (domAt d vars[i])):=(by simp[aj hv.2]);have hat:gP d vars coefs rhs i=bX (jF (vals (domAt d vars[i])) coefs[i] rhs (dP i 0 (ae d vars coefs) 0)):=by
   unfold gP;rw[aO h1,aO h2]
  have hnext:dc d vars coefs rhs (i+1)=(dc d vars coefs rhs i).set vars[i].toNat (gP d vars coefs rhs i):=by
   rw[dc,aO h1]
  refine .B ?_;refine T.K (T.ind (λs:Nat×Int=>⟨[(0,.val false (ao d)),(1,.val false (aq vars)),(2,.val false (aq coefs)),(3,.val false (.int .i64 rhs)),(9,.ref 0),(10,.val true (.int .i64 i)),(11,.val true (.int .i64 s.2)),(12,.val true (.int .i64 s.1))],[(0,some (.sl 54 1 true ((dc d vars coefs rhs i).map cD)))],1⟩)
   (λs=>s.1<=vars.length/\dP i s.1 ((ae d vars coefs).drop s.1) s.2=dP i 0 (ae d vars coefs) 0) (λs=>vars.length-s.1) (0,0) ⟨by simp,rfl⟩ (λ_ _ h=>h) ?_)
  rintro⟨k,n⟩ ⟨hkl,hn⟩ ih2;simp only at hkl hn;dsimp only;refine .B ?_;refine T.cd Y (λh3=> ?_) (λh3=> ?_)
  ·have h3:k<vars.length:=(by simpa using h3);have h4:k<coefs.length:=(by omega);have hvk:=hvin _ (EA h3);have hxk:=hdom _ (ac hvk.2);have hrowk:(d.map cD)[vars[k].toNat]? =some (cD (domAt d vars[k])):=(by simp[aj hvk.2]);rw[gj h3 h4,dP]at hn;refine .B ?_;refine .F (r:=cI vars[k]) (ax h3) ?_;refine J.i Y Y Y Y Y Y Y Y Y (r:=cD (domAt d vars[k])) hvk.1 hrowk Y ?_;refine .B ?_;refine .F (r:=cI coefs[k]) (ax h4) ?_;refine J.cc Y Y Y Y Y (rC _ coefs[k] hxk) Y Y ?_;generalize endR (domAt d vars[k]) coefs[k]=e1 at*;refine .B ?_;refine T.cd Y (λh5=> ?_) (λh5=> ?_)
   ·have h5: ¬k=i:=(by intro e;exact h5 (by rw[e]));rw[E4 h5]at hn;refine .B ?_;rw[ai (l:=vars.length) (by omega) (by omega)];exact T.K (ih2 (k+1,wr (n+e1.1)) ⟨by simp only;omega,hn⟩ (by simp only;omega))
   ·have h5:k=i:=by
     have h5: ¬((k:Int)≠i):=h5;omega
    rw[E6 h5]at hn;refine .B ?_;rw[ai (l:=vars.length) (by omega) (by omega)];exact T.K (ih2 (k+1,n) ⟨by simp only;omega,hn⟩ (by simp only;omega))
  ·have h3:k=vars.length:=(by simp at h3;omega);subst h3;rw[ic hlen,dP]at hn;rw[<-hn]at hat;clear ih2;have hvx:=bB (domAt d vars[i]) hx.1 (by have:=hx.2.1;omega) hx.2.2;have hvin2:=oC hx.1;have hvl2:=hx.2.1;generalize vals (domAt d vars[i])=l at*;refine .B ?_;refine .F (r:=cI vars[i]) (ax h1) ?_;refine J.i Y Y Y Y Y Y Y Y Y (r:=cD (domAt d vars[i])) hv.1 hrow Y ?_;refine .B ?_;refine .C hvx ?_;refine .Q ?_;refine T.K (T.ind (λk:Nat=>⟨[(0,.val false (ao d)),(1,.val false (aq vars)),(2,.val false (aq coefs)),(3,.val false (.int .i64 rhs)),(9,.ref 0),(10,.val true (.int .i64 i)),(11,.val true (.int .i64 n)),(16,.ref 1),(17,.ref 2),(18,.val true (.int .i64 k))],[(0,some (.sl 54 1 true ((dc d vars coefs rhs i).map cD))),(1,some (.sl 3 1 true (l.map cI))),(2,some (.sl 3 1 true ((jF (l.take k) coefs[i] rhs n).map cI)))],3⟩)
    (λk=>k<=l.length) (λk=>l.length-k) 0 (by simp) (λ_ _ h=>h) ?_)
   rintro k hk ih3;refine .B ?_;refine T.cd Y (λh3=> ?_) (λh3=> ?_)
   ·have h3:k<l.length:=(by simpa using h3);have hfl:(jF (l.take k) coefs[i] rhs n).length<=k:=by
     unfold jF;refine Em (Ez _ _) ?_;simp;omega
    have e:jF (l.take (k+1)) coefs[i] rhs n=jF (l.take k) coefs[i] rhs n++if wr (coefs[i]*l[k])<=wr (rhs-n)then [l[k]]else []:=by
     unfold jF;rw[ED h3,Fh];congr 1;by_cases hc:wr (coefs[i]*l[k])<=wr (rhs-n);·simp[hc]
     ·simp[hc]
    refine .B ?_;refine .F (r:=cI coefs[i]) (ax h2) ?_;refine J.io Y Y Y Y Y Y Y Y Y (by omega) (by simpa using h3) Y ?_;refine J.lo Y Y Y Y Y Y (r:=cI l[k]) (ax h3) Y ?_;refine .B ?_;refine T.cd Y (λh4=> ?_) (λh4=> ?_)
    ·rw[E6 h4]at e;refine .B ?_;refine J.io Y Y Y Y Y Y Y Y Y (by omega) (by simpa using h3) Y ?_;refine J.lo Y Y Y Y Y Y (r:=cI l[k]) (ax h3) Y ?_;refine .B ?_;refine .V ?_;refine J.aI Y Y Y Y Y Y Y Y Y Y Y Y Y Y Y Y Y Y Y (by omega) ?_;refine .B ?_;rw[ai (l:=l.length) (by omega) (by omega),<-e];exact T.K (ih3 (k+1) (by omega) (by omega))
    ·rw[E4 h4,FU]at e;refine .B ?_;rw[ai (l:=l.length) (by omega) (by omega),<-e];exact T.K (ih3 (k+1) (by omega) (by omega))
   ·have h3:k=l.length:=(by simp at h3;omega);subst h3;rw[Ep];have hpk:=(im (jF l coefs[i] rhs n) (λv hv=>by
     have:=hvin2 v (FB.1 hv).1;omega) (by
     have:(jF l coefs[i] rhs n).length<=l.length:=Ez _ _;omega)).frz
    rw[<-hat]at*;have hdl2:=iN d vars coefs rhs i;refine .M ?_;refine T.rdw 9 Y (by kernel_rfl) Y ?_
    repeat' first|refine J.e Y Y Y Y ?_|refine J.skip Y Y Y ?_|refine J.bx Y Y Y Y Y Y ?_
    refine .I (r:=cI vars[i]) (ax h1) ?_
    repeat' first|refine J.e Y Y Y Y ?_|refine J.skip Y Y Y ?_|refine J.bx Y Y Y Y Y Y ?_
    refine .C hpk ?_;refine J.io Y Y Y Y Y Y Y Y Y hv.1 (by simp[hdl2];omega) Y ?_;refine J.wd1 Y Y Y Y Y Y Y Y Y Y Y (z:=gP d vars coefs rhs i) (λ_=>rfl) (by omega) ?_;refine J.nil ?_;refine⟨rfl,?_⟩;refine .B ?_;rw[ai (l:=vars.length) (by omega) (by omega),<-hnext];exact T.K (ih (i+1) (by omega) (by omega))
 ·have h1:i=vars.length:=(by simp at h1;omega);subst h1;refine .B ?_;exact⟨_,.o Y Y Y (λ_=> .inl Y) (by simp) .nil⟩
def bS:List (Int×Int)->Int->Int->List (Int×Int)->Int×List (Int×Int)
 | [],lo,hi,out=>(lo,out)
 |y::b,lo,hi,out=>if y.2<lo∨hi<y.1 then bS b lo hi out else bS b (wr (y.2+1)) hi (if lo<y.1 then out++[(lo,wr (y.1-1))]else out)
def cP (b:List (Int×Int))(out:List (Int×Int))(x:Int×Int):List (Int×Int):=if(bS b x.1 x.2 out).1<=x.2 then(bS b x.1 x.2 out).2++[((bS b x.1 x.2 out).1,x.2)]else(bS b x.1 x.2 out).2
def eC (a b:List (Int×Int)):List (Int×Int):=a.foldl (cP b) []
theorem lw (a b:List (Int×Int))(hb:b.length*8<=140737488355328)(hl:(a.length+1)*(b.length+1)*16<=140737488355328):Spec Tryz.prog 142 false [dm a,dm b] [.own 53 2 ((eC a b).map cR)]:=by
 refine Spec.body Tryz.func142 Y Y Y λw0 Z0=> ?_;have hal:a.length*8<=140737488355328:=by
  have:a.length+1<=(a.length+1)*(b.length+1):=Gs _ (by omega);omega
 refine .B ?_;refine T.sub (Rel.own0 (s:=5) 53 2 Y) ?_;refine T.K (T.ind (λs:Nat×List (Int×Int)=>⟨[(1,.val false (dm b)),(5,.ref 0),(10,.val false (dm a)),(11,.val true (.int .i64 (a.map cR).length)),(12,.val true (.int .i64 s.1))],[(0,some (.sl 53 2 true (s.2.map cR)))],1⟩)
  (λs=>s.1<=a.length/\(a.drop s.1).foldl (cP b) s.2=eC a b/\s.2.length<=s.1*(b.length+1)) (λs=>a.length-s.1) (0,[]) ⟨by simp,rfl,by simp⟩ (λ_ _ h=>h) ?_)
 rintro⟨n,out⟩ ⟨hn,he,hlo⟩ ih;simp only at hn he hlo;dsimp only;refine .B ?_;refine T.cd Y (λh1=> ?_) (λh1=> ?_)
 ·have h1:n<a.length:=(by simpa using h1);rw[EP h1,En]at he;have hmul:(n+1)*(b.length+1)<=(a.length+1)*(b.length+1):=F7 _ (by omega);have hmul2:(n+1)*(b.length+1)=n*(b.length+1)+(b.length+1):=(by rw[GO,Nat.one_mul]);have hr:(a.map cR)[((n:Nat):Int).toNat]? =some (cR a[n]):=ax h1;generalize a[n]=x at*;obtain⟨lo0,hi⟩:=x;refine .B ?_;refine .F (r:=cR (lo0,hi)) hr ?_;refine .L ?_;refine .B ?_;refine .X ?_;refine T.K (T.ind (λs:Nat×Int×List (Int×Int)=>⟨[(1,.val false (dm b)),(5,.ref 0),(7,.optr 1 0 0 0),(10,.val false (dm a)),(11,.val true (.int .i64 (a.map cR).length)),(12,.val true (.int .i64 n)),(16,.val false (dm b)),(17,.val true (.int .i64 (b.map cR).length)),(18,.val true (.int .i64 s.1))],[(0,some (.sl 53 2 true (s.2.2.map cR))),(1,some (.box false (cR (s.2.1,hi))))],2⟩)
   (λs=>s.1<=b.length/\bS (b.drop s.1) s.2.1 hi s.2.2=bS b lo0 hi out/\s.2.2.length<=out.length+s.1) (λs=>b.length-s.1) (0,lo0,out) ⟨by simp,rfl,by simp⟩ (λ_ _ h=>h) ?_)
  rintro⟨m,lo,out2⟩ ⟨hm,he2,hlo2⟩ ih2;simp only at hm he2 hlo2;dsimp only;refine .B ?_;refine T.cd Y (λh2=> ?_) (λh2=> ?_)
  ·have h2:m<b.length:=(by simpa using h2);rw[EP h2,bS]at he2;have hr2:(b.map cR)[((m:Nat):Int).toNat]? =some (cR b[m]):=ax h2;generalize b[m]=y at*;obtain⟨y1,y2⟩:=y;simp only at he2;have skip:(y2<lo∨hi<y1)->bS (b.drop (m+1)) lo hi out2=bS b lo0 hi out:=λh=>(by rw[E6 h]at he2;exact he2);have keep: ¬(y2<lo∨hi<y1)->bS (b.drop (m+1)) (wr (y2+1)) hi (if lo<y1 then out2++[(lo,wr (y1-1))]else out2)=bS b lo0 hi out:=λh=>(by rw[E4 h]at he2;exact he2);refine .B ?_;refine .F (r:=cR (y1,y2)) hr2 ?_;refine .L ?_;refine .B ?_;refine .X ?_;refine J.g Y Y Y (λh3=> ?_) (λh3=> ?_)
   ·have h3:y2<lo:=h3;refine .B ?_;refine T.ct Y ?_;refine .B ?_;rw[ai (l:=b.length) (by omega) (by omega)];exact T.K (ih2 (m+1,lo,out2) ⟨by simp only;omega,skip (.inl h3),by simp only;omega⟩ (by simp only;omega))
   ·have h3: ¬y2<lo:=h3;refine .B ?_;refine T.cd Y (λh4=> ?_) (λh4=> ?_)
    ·have h4:hi<y1:=h4;refine .B ?_;rw[ai (l:=b.length) (by omega) (by omega)];exact T.K (ih2 (m+1,lo,out2) ⟨by simp only;omega,skip (.inr h4),by simp only;omega⟩ (by simp only;omega))
    ·have h4: ¬hi<y1:=h4;have keep:=keep (λh=>h.elim h3 h4);refine .B ?_;refine T.cd Y (λh5=> ?_) (λh5=> ?_)
     ·have h5:lo<y1:=h5;rw[E6 h5]at keep;refine .B ?_;refine .V ?_;refine J.aR Y Y Y Y Y Y Y Y Y Y Y Y Y Y Y Y Y Y Y (a:=lo) (b:=IntKind.i64.wrap (y1-1)) (by omega) ?_;refine .B ?_;refine .X ?_;rw[ai (l:=b.length) (by omega) (by omega)];exact T.K (ih2 (m+1,wr (y2+1),out2++[(lo,wr (y1-1))]) ⟨by simp only;omega,keep,by simp;omega⟩ (by simp only;omega))
     ·have h5: ¬lo<y1:=h5;rw[E4 h5]at keep;refine .B ?_;refine .X ?_;rw[ai (l:=b.length) (by omega) (by omega)];exact T.K (ih2 (m+1,wr (y2+1),out2) ⟨by simp only;omega,keep,by simp only;omega⟩ (by simp only;omega))
  ·have h2:m=b.length:=(by simp at h2;omega);subst h2;rw[FR,bS]at he2;clear ih2;have hmo:cP b out (lo0,hi)=if lo<=hi then out2++[(lo,hi)]else out2:=by
    unfold cP;simp only[<-he2]
   rw[hmo]at he;refine .B ?_;refine T.cd Y (λh5=> ?_) (λh5=> ?_)
   ·have h5:lo<=hi:=h5;rw[E6 h5]at he;refine .B ?_;refine .V ?_;refine J.aR Y Y Y Y Y Y Y Y Y Y Y Y Y Y Y Y Y Y Y (by omega) ?_;refine J.sub (Rel.flat (o:=2) Y tM) ?_;refine .B ?_;rw[ai (l:=a.length) (by omega) (by omega)];exact T.K (ih (n+1,out2++[(lo,hi)]) ⟨by simp only;omega,he,by simp;omega⟩ (by simp only;omega))
   ·have h5: ¬lo<=hi:=h5;rw[E4 h5]at he;refine .B ?_;rw[ai (l:=a.length) (by omega) (by omega)];exact T.K (ih (n+1,out2) ⟨by simp only;omega,he,by simp only;omega⟩ (by simp only;omega))
 ·have h1:n=a.length:=(by simp at h1;omega);subst h1;rw[FR,IF]at he;subst he;refine .B ?_;exact⟨_,.o Y Y Y (λ_=> .inl Y) (by simp) .nil⟩
def dC:Nat->List (List (Int×Int)×Int)->Int->Int->Option (Int×Int)
 |_,[],op,s=>some (op,s)
 |i,t::ts,op,s=>if 1<gp t.1 then(if 0<=op then none else dC (i+1) ts i s)else dC (i+1) ts op (wr (s+(endW t.1 t.2 false).1))
def otherW (d:aa)(c:Con):aa×Bool:=
 match dC 0 (ae d c.vars c.coefs) (-1) 0 with
 |none=>(d,true)
 |some (op,s)=>
  if op<0 then(d,decide (s≠c.rhs))else
  if(wr (c.rhs-s)).tmod (coefAt c op.toNat)=0 then
   (d.set (varAt c op.toNat).toNat (eC (domAt d (varAt c op.toNat)) [(wr ((wr (c.rhs-s)).tdiv (coefAt c op.toNat)),wr ((wr (c.rhs-s)).tdiv (coefAt c op.toNat)))]),
    decide (0<(eC (domAt d (varAt c op.toNat)) [(wr ((wr (c.rhs-s)).tdiv (coefAt c op.toNat)),wr ((wr (c.rhs-s)).tdiv (coefAt c op.toNat)))]).length))
  else(d,decide (0<(domAt d (varAt c op.toNat)).length))
theorem lu: ∀(ts:List (List (Int×Int)×Int)) (i:Nat) (op s op' s':Int) (n:Nat),op<n->i+ts.length<=n->dC i ts op s=some (op',s')->op'<n
 | [],i,op,s,op',s',n,h,_,e=>by
  simp only[dC,E9,Prod.mk.injEq]at e;omega
 |t::ts,i,op,s,op',s',n,h,hn,e=>by
  simp only[El]at hn;rw[dC]at e;split at e
  ·split at e;·cases e
   ·exact lu ts (i+1) i s op' s' n (by omega) (by omega) e
  ·exact lu ts (i+1) op _ op' s' n h (by omega) e
theorem vN (d:aa)(c:Con)(h:SumFine d c.vars c.coefs)(hsm: ∀x∈d,x.length*64+1048576<=140737488355328):
  SpecM Tryz.prog 200 54 1 (d.map cD) [.agg (cC c)] ((otherW d c).1.map cD) [.bool (otherW d c).2]:=by
 refine SpecM.body Tryz.func200 Y Y Y (by simp[PV.flat]) λw0 v0 Z1=> ?_;obtain⟨hlen,hvl,hvin,hck,hdom,hdl⟩:=h;have hin:=lu (ae d c.vars c.coefs) 0 (-1) 0;generalize hgo:dC 0 (ae d c.vars c.coefs) (-1) 0=go at hin;refine .B ?_;refine T.K (T.ind (λs:Nat×Int×Int=>⟨[(0,.ref 0),(3,.optr 1 0 0 0),(5,.val true (.int .i64 s.2.1)),(6,.val true (.int .i64 s.2.2)),(15,.val false (aq c.vars)),(16,.val true (.int .i64 (c.vars.map cI).length)),(17,.val true (.int .i64 s.1))],[(0,some (.sl 54 1 true (d.map cD))),(1,some (.box false (cC c)))],2⟩)
  (λs=>s.1<=c.vars.length/\dC s.1 ((ae d c.vars c.coefs).drop s.1) s.2.1 s.2.2=go) (λs=>c.vars.length-s.1) (0,-1,0) ⟨by simp,hgo⟩ (λ_ _ h=>h) ?_)
 rintro⟨i,op,s⟩ ⟨hil,he⟩ ih;simp only at hil he;dsimp only;refine .B ?_;refine T.cd Y (λh1=> ?_) (λh1=> ?_)
 ·have h1:i<c.vars.length:=(by simpa using h1);have h2:i<c.coefs.length:=(by omega);have hv:=hvin _ (EA h1);have hk:=hck _ (EA h2);have hx:=hdom _ (ac hv.2);have hrow:(d.map cD)[c.vars[i].toNat]? =some (cD (domAt d c.vars[i])):=(by simp[aj hv.2]);rw[gj h1 h2,dC]at he;refine .B ?_;refine .F (r:=cI c.vars[i]) (ax h1) ?_;refine J.io Y Y Y Y Y Y Y Y Y hv.1 (by simpa using hv.2) Y ?_;refine J.lo Y Y Y Y Y Y (r:=cD (domAt d c.vars[i])) hrow Y ?_;refine .D (ii (domAt d c.vars[i]) (by have:=hx.len;omega)) ?_;refine T.cd Y (λh3=> ?_) (λh3=> ?_)
  ·have h3:1<gp (domAt d c.vars[i]):=h3;rw[E6 h3]at he;refine .B ?_;refine T.cd Y (λh4=> ?_) (λh4=> ?_)
   ·have h4:0<=op:=h4;rw[E6 h4]at he;subst he;have ho:otherW d c=(d,true):=(by unfold otherW;rw[hgo]);rw[ho];refine .B ?_;exact⟨.v Y Y Y (λh=>by cases h) .nil,_,rfl,rfl⟩
   ·have h4: ¬0<=op:=h4;rw[E4 h4]at he;refine .B ?_;rw[ai (l:=c.vars.length) (by omega) (by omega)];exact T.K (ih (i+1,i,s) ⟨by simp only;omega,he⟩ (by simp only;omega))
  ·have h3: ¬1<gp (domAt d c.vars[i]):=h3;rw[E4 h3]at he;refine .B ?_;refine J.io Y Y Y Y Y Y Y Y Y hv.1 (by simpa using hv.2) Y ?_;refine J.lo Y Y Y Y Y Y (r:=cD (domAt d c.vars[i])) hrow Y ?_;refine .B ?_;refine .F (r:=cI c.coefs[i]) (ax h2) ?_;refine J.cc Y Y Y Y Y (j8 _ _ false hx.domB hk) Y Y ?_;refine .B ?_;rw[ai (l:=c.vars.length) (by omega) (by omega)];exact T.K (ih (i+1,op,wr (s+(endW (domAt d c.vars[i]) c.coefs[i] false).1)) ⟨by simp only;omega,he⟩ (by simp only;omega))
 ·have h1:i=c.vars.length:=(by simp at h1;omega);subst h1;rw[ic hlen,dC]at he;subst he;clear ih;have hop:=hin op s c.vars.length (by omega) (by simp[ae];omega) Y;unfold otherW;rw[hgo];simp only;refine .B ?_;refine T.cd Y (λh3=> ?_) (λh3=> ?_)
  ·have h3:op<0:=h3;rw[E6 h3];refine .B ?_;exact⟨.v Y Y Y (λh=>by cases h) .nil,_,rfl,rfl⟩
  ·have h3: ¬op<0:=h3;rw[E4 h3];obtain⟨j,rfl⟩: ∃j:Nat,op=j:=⟨op.toNat,by omega⟩;rw[Eo];have hj:j<c.vars.length:=(by omega);have hv:=hvin _ (az hj);have hk:=hck _ (show coefAt c j∈c.coefs by unfold coefAt;rw[aO (by omega)];exact EA _);have hx:=hdom _ (ac hv.2);have hrow:(d.map cD)[(varAt c j).toNat]? =some (cD (domAt d (varAt c j))):=(by simp[aj hv.2]);have hkr:=gG (c:=c) (k:=j) (by omega);have hvr:=cF (c:=c) (k:=j) hj;have hk0:=hk.1;have hln:=hx.len;have hls:=hsm _ (ac hv.2);have hm:=λx=>(lw (domAt d (varAt c j)) [(x,x)] (by simp) (by simp only[FY];omega)).frz;generalize varAt c j=v at*;generalize coefAt c j=k at*;generalize domAt d v=dv at*;refine .B ?_;refine .F (r:=cI v) hvr ?_;refine .F (r:=cI k) hkr ?_;refine J.rm Y Y Y Y Y Y hk0 ?_;refine .B ?_;refine T.cd Y (λh4=> ?_) (λh4=> ?_)
   ·have h4:(wr (c.rhs-s)).tmod k=0:=h4;rw[E6 h4];refine .B ?_;refine J.qu Y Y Y Y Y Y hk0 ?_;refine .B ?_;refine J.io Y Y Y Y Y Y Y Y Y hv.1 (by simpa using hv.2) Y ?_;refine J.lo Y Y Y Y Y Y (r:=cD dv) hrow Y ?_;refine .B ?_;refine .V ?_;refine J.cc Y Y Y Y Y (hm _) Y Y ?_;refine J.io Y Y Y Y Y Y Y Y Y hv.1 (by simpa using hv.2) Y ?_;refine J.w1 Y Y Y Y Y Y Y Y Y Y Y (λ_=>rfl) hv.2 ?_;refine .B ?_;refine J.io Y Y Y Y Y Y Y Y Y hv.1 (by simpa using hv.2) Y ?_;refine J.lo Y Y Y Y Y Y (r:=cD (eC dv [(wr ((wr (c.rhs-s)).tdiv k),wr ((wr (c.rhs-s)).tdiv k))])) (by rw[EJ,F2 hv.2];rfl) Y ?_;refine .B ?_;exact⟨.v Y Y (by simp only[EB];congr 1;simp) (λh=>by cases h) .nil,_,rfl,rfl⟩
   ·have h4: ¬(wr (c.rhs-s)).tmod k=0:=h4;rw[E4 h4];refine .B ?_;refine J.io Y Y Y Y Y Y Y Y Y hv.1 (by simpa using hv.2) Y ?_;refine J.lo Y Y Y Y Y Y (r:=cD dv) hrow Y ?_;refine .B ?_;exact⟨.v Y Y (by simp only[EB];congr 1;simp) (λh=>by cases h) .nil,_,rfl,rfl⟩
theorem nV (low rhs:Int): ∀(l:List (Int×Int)) (d:aa) (ch:Bool),(∀p∈l,0<=p.1/\p.1.toNat<d.length)->(∀x∈d,Fine x)->(fj low rhs l d ch).1.length=d.length/\∀x∈(fj low rhs l d ch).1,Fine x
 | [],d,ch,_,hf=>⟨rfl,hf⟩
 |(v,k)::l,d,ch,hv,hf=>by
  rw[fj];split;·exact⟨rfl,hf⟩
  ·have hx:=hf _ (ac (hv _ (.head _)).2);obtain⟨h1,h2⟩:=nV low rhs l (d.set v.toNat (cutW (domAt d v) k (ij low rhs (domAt d v) k))) (ch|| !decide (cutW (domAt d v) k (ij low rhs (domAt d v) k)=domAt d v)) (λp hp=>by rw[FA];exact hv p (.tail _ hp)) (fA hf (sL hx k _));exact⟨by rw[h1,FA],h2⟩
theorem SumFine.most {d:aa}{vars coefs:List Int}(h:SumFine d vars coefs)(rhs:Int):SumFine (mostW d vars coefs rhs).1 vars coefs:=by
 obtain⟨h1,h2⟩:=nV (endsW d vars coefs).1 rhs (vars.zip coefs) d false (λp hp=>h.vin _ (Ew hp).1) h.dom;have h1:(mostW d vars coefs rhs).1.length=d.length:=h1;exact⟨h.len,h.vl,λv hv=>by rw[h1];exact h.vin v hv,h.ck,h2,by rw[h1];exact h.dl⟩
theorem cZ {k:Int}(h:CoefOk k):wr (0-k)= -k/\CoefOk (wr (0-k)):=by
 have:=fI h;have e:wr (0-k)= -k:=(by rw[wr,af (by omega) (by omega)];omega);refine⟨e,?_⟩;rw[e];unfold CoefOk aL at*;omega
theorem SumFine.back {d:aa}{vars coefs:List Int}(h:SumFine d vars coefs):SumFine d vars (aw coefs):=
 ⟨by simp[aw,h.len],h.vl,h.vin,λk hk=>by
  obtain⟨k0,hk0,rfl⟩:=EH.1 hk;exact(cZ (h.ck _ hk0)).2,h.dom,h.dl⟩
def fM (c:Con)(out:aa):Option aa ⊕ aa:=
 if(mostW out c.vars c.coefs c.rhs).2.2=false then .inl none else
 if c.op=0 then .inl (some (mostW out c.vars c.coefs c.rhs).1)else
 if(mostW (mostW out c.vars c.coefs c.rhs).1 c.vars (aw c.coefs) (wr (0-c.rhs))).2.2=false then .inl none else
 if(mostW out c.vars c.coefs c.rhs).2.1=false/\(mostW (mostW out c.vars c.coefs c.rhs).1 c.vars (aw c.coefs) (wr (0-c.rhs))).2.1=false then .inl (some (mostW (mostW out c.vars c.coefs c.rhs).1 c.vars (aw c.coefs) (wr (0-c.rhs))).1)
 else .inr (mostW (mostW out c.vars c.coefs c.rhs).1 c.vars (aw c.coefs) (wr (0-c.rhs))).1
def LinAns (d:aa)(c:Con)(R:Option aa)(N:Nat):Prop:=
 if []∈d then R=none else if c.op=2 then R=(if(otherW d c).2 then some (otherW d c).1 else none)else b9 (fM c) N d=some R
theorem nW (d:aa)(c:Con)(h:SumFine d c.vars c.coefs)(hsm: ∀x∈d,x.length*64+1048576<=140737488355328)(R:Option aa)(N:Nat)(hR:LinAns d c R N):
  Spec Tryz.prog 139 false [ao d,.agg (cC c)] (aJ R):=by
 refine Spec.body Tryz.func139 Y Y Y λw0 Z0=> ?_;have hown:=zW d h.dl (λx hx=>by have:=(h.dom x hx).len;omega);unfold LinAns at hR;refine .B ?_;refine T.scope (λ_ _ h=>h) ?_;refine .B ?_;refine .D hown ?_;by_cases hm: []∈d
 ·rw[E6 hm]at hR;subst hR;rw[E6 hm,EF hm];refine T.ct Y ?_;refine .B ?_;exact⟨_,.ownN Y (.v Y Y Y (λ_=>rfl) .nil)⟩
 ·rw[E4 hm]at hR;rw[E4 hm,EE hm];refine T.cf Y ?_;refine .B ?_;refine T.cd Y (λh1=> ?_) (λh1=> ?_)
  ·have h1:c.op=2:=h1;rw[E6 h1]at hR;refine .B ?_;have ho:=vN d c h hsm;generalize otherW d c=ow at*;obtain⟨d2,b⟩:=ow;refine J.cm Y Y Y Y Y Y Y Y Y ho Y Y Y ?_;refine .B ?_;cases b
   ·subst hR;refine T.ct Y ?_;refine .B ?_;exact⟨_,.ownN Y (.v Y Y Y (λ_=>rfl) .nil)⟩
   ·subst hR;refine T.cf Y ?_;refine .B ?_;exact⟨_,.o Y Y Y (λ_=> .inl Y) (by simp) (.v rfl rfl rfl (λ_=>rfl) .nil)⟩
  ·have h1: ¬c.op=2:=h1;rw[E4 h1]at hR;refine .B ?_;refine .D (l7 c.coefs (by have:=h.vl;have:=h.len;omega)) ?_;refine T.K (T.ind (λs:Nat×aa=>⟨[(3,.optr 0 0 0 0),(6,.ref 1),(8,.ref 2)],[(0,some (.box false (cC c))),(1,some (.sl 54 1 true (s.2.map cD))),(2,some (.sl 3 1 true ((aw c.coefs).map cI)))],3⟩)
    (λs=>b9 (fM c) s.1 s.2=some R/\SumFine s.2 c.vars c.coefs) (λs=>s.1) (N,d) ⟨hR,h⟩ (λ_ _ h=>h) ?_)
   rintro⟨m,out⟩ ⟨hR,hs⟩ ih;simp only at hR hs;dsimp only;have hm1:=p9 out c.vars c.coefs c.rhs hs;have hs1:=hs.most c.rhs;have hm2:=p9 (mostW out c.vars c.coefs c.rhs).1 c.vars (aw c.coefs) (wr (0-c.rhs)) hs1.back;have hs2:=hs1.back.most (wr (0-c.rhs));have hs3:SumFine (mostW (mostW out c.vars c.coefs c.rhs).1 c.vars (aw c.coefs) (wr (0-c.rhs))).1 c.vars c.coefs:=⟨hs.len,hs2.vl,hs2.vin,hs.ck,hs2.dom,hs2.dl⟩;have hst:fM c out=fM c out:=rfl
   conv at hst=>rhs;unfold fM
   generalize mostW (mostW out c.vars c.coefs c.rhs).1 c.vars (aw c.coefs) (wr (0-c.rhs))=m2 at*;generalize mostW out c.vars c.coefs c.rhs=m1 at*;obtain⟨d1,ch1,ok1⟩:=m1;obtain⟨d2,ch2,ok2⟩:=m2;simp only at hm1 hm2 hst hs1 hs3;refine .B ?_;refine J.cm Y Y Y Y Y Y Y Y Y hm1 Y Y Y ?_;refine .B ?_;cases ok1
   ·rw[E6 Y]at hst;obtain rfl:=aQ hR hst;refine T.ct Y ?_;refine .B ?_;exact⟨_,.ownN Y (.v Y Y Y (λ_=>rfl) .nil)⟩
   ·rw[E4 (by decide)]at hst;refine T.cf Y ?_;refine .B ?_;refine T.cd Y (λh2=> ?_) (λh2=> ?_)
    ·have h2:c.op=0:=h2;rw[E6 h2]at hst;obtain rfl:=aQ hR hst;refine .B ?_;exact⟨_,.o Y Y Y (λ_=> .inl Y) (by simp) (.v rfl rfl rfl (λ_=>rfl) .nil)⟩
    ·have h2: ¬c.op=0:=h2;rw[E4 h2]at hst;refine .B ?_;refine J.cm Y Y Y Y Y Y Y Y Y hm2 Y Y Y ?_;refine .B ?_;cases ok2
     ·rw[E6 Y]at hst;obtain rfl:=aQ hR hst;refine T.ct Y ?_;refine .B ?_;exact⟨_,.ownN Y (.v Y Y Y (λ_=>rfl) .nil)⟩
     ·rw[E4 (by decide)]at hst;refine T.cf Y ?_;refine .B ?_;cases ch1
      ·cases ch2
       ·rw[E6 ⟨rfl,rfl⟩]at hst;obtain rfl:=aQ hR hst;refine .B ?_;refine T.ct Y ?_;refine .B ?_;exact⟨_,.o Y Y Y (λ_=> .inl Y) (by simp) (.v rfl rfl rfl (λ_=>rfl) .nil)⟩
       ·rw[E4 (by simp)]at hst;obtain⟨m',hlt,hR'⟩:=fH hR hst;refine .B ?_;refine T.cf Y ?_;refine .B ?_;exact T.K (ih (m',d2) ⟨hR',hs3⟩ hlt)
      ·rw[E4 (by simp)]at hst;obtain⟨m',hlt,hR'⟩:=fH hR hst;refine .B ?_;refine T.cf Y ?_;refine .B ?_;exact T.K (ih (m',d2) ⟨hR',hs3⟩ hlt)
def hd0 (l:List Int):Int:=l.getD 0 0
def au:Nat->List (List (Int×Int)×Int)->Nat->Int->Nat->Nat×Int×Nat
 |_,[],m,s,a=>(m,s,a)
 |i,t::ts,m,s,a=>if 1<(vals t.1).length then au (i+1) ts (m+1) s i else au (i+1) ts m (wr (s+wr (t.2*hd0 (vals t.1)))) a
def rotherW (d:aa)(c:Con):aa:=
 let r:=au 0 (ae d c.vars c.coefs) 0 0 0
 if 1<r.1 then d else
 if r.1=0 then(if r.2.1=c.rhs then d.set (varAt c 0).toNat []else d)else
 d.set (varAt c r.2.2).toNat (bX ((vals (domAt d (varAt c r.2.2))).filter λv=>decide (wr (r.2.1+wr (coefAt c r.2.2*v))≠c.rhs)))
theorem cA: ∀(ts:List (List (Int×Int)×Int)) (i m a:Nat) (s:Int) (n:Nat),a<n->i+ts.length<=n->m<=i->(au i ts m s a).2.2<n/\(au i ts m s a).1<=i+ts.length
 | [],i,m,a,s,n,h,_,hm=>by simp[au];omega
 |t::ts,i,m,a,s,n,h,hn,hm=>by
  simp only[El]at hn⊢;rw[au];split
  ·have:=cA ts (i+1) (m+1) i s n (by omega) (by omega) (by omega);omega
  ·have:=cA ts (i+1) m a (wr (s+wr (t.2*hd0 (vals t.1)))) n h (by omega) (by omega);omega
theorem uR (d:aa)(c:Con)(h:SumIn d c.vars c.coefs)(hpos:0<c.vars.length)(hne: ∀v∈c.vars,vals (domAt d v)≠[]):
  Spec Tryz.prog 204 false [ao d,.agg (cC c)] [.own 54 1 ((rotherW d c).map cD)]:=by
 refine Spec.body Tryz.func204 Y Y Y λw0 Z0=> ?_;obtain⟨hlen,hvl,hvin,hck,hdom,hdl⟩:=h;unfold rotherW;have hin:=cA (ae d c.vars c.coefs) 0 0 0 0 c.vars.length hpos (by simp[ae];omega) (EO _);generalize hgo:au 0 (ae d c.vars c.coefs) 0 0 0=go at hin;simp only;refine .B ?_;refine .D (cJ d hdl (λx hx=>(hdom x hx).2.2)) ?_;refine T.K (T.ind (λs:Nat×Nat×Int×Nat=>⟨[(0,.val false (ao d)),(3,.optr 0 0 0 0),(5,.ref 1),(6,.val true (.int .i64 s.2.1)),(7,.val true (.int .i64 s.2.2.1)),(8,.val true (.int .i64 s.2.2.2)),(9,.val true (.int .i64 s.1))],[(0,some (.box false (cC c))),(1,some (.sl 54 1 true (d.map cD)))],2⟩)
  (λs=>s.1<=c.vars.length/\s.2.1<=s.1/\au s.1 ((ae d c.vars c.coefs).drop s.1) s.2.1 s.2.2.1 s.2.2.2=go) (λs=>c.vars.length-s.1) (0,0,0,0) ⟨by simp,by simp,hgo⟩ (λ_ _ h=>h) ?_)
 rintro⟨i,m,s,a⟩ ⟨hil,hmi,he⟩ ih;simp only at hil hmi he;dsimp only;refine .B ?_;refine T.cd Y (λh1=> ?_) (λh1=> ?_)
 ·have h1:i<c.vars.length:=(by simpa using h1);have h2:i<c.coefs.length:=(by omega);have hv:=hvin _ (EA h1);have hx:=hdom _ (ac hv.2);have hrow:(d.map cD)[c.vars[i].toNat]? =some (cD (domAt d c.vars[i])):=(by simp[aj hv.2]);have hnv:=hne _ (EA h1);have hvx:=bB (domAt d c.vars[i]) hx.1 (by have:=hx.2.1;omega) hx.2.2;rw[gj h1 h2,au]at he;simp only at he;generalize vals (domAt d c.vars[i])=l at*;refine .B ?_;refine .F (r:=cI c.vars[i]) (ax h1) ?_;refine J.i Y Y Y Y Y Y Y Y Y (r:=cD (domAt d c.vars[i])) hv.1 hrow Y ?_;refine .B ?_;refine .D hvx ?_;refine T.cd Y (λh3=> ?_) (λh3=> ?_)
  ·have h3:1<l.length:=by
    have h3:((l.map cI).length:Int) > 1:=h3;simp only[EB]at h3;omega
   rw[E6 h3]at he;refine .B ?_;rw[ai (l:=c.vars.length) (n:=m) (by omega) (by omega),ai (l:=c.vars.length) (n:=i) (by omega) (by omega)];exact T.K (ih (i+1,m+1,s,i) ⟨by simp only;omega,by simp only;omega,he⟩ (by simp only;omega))
  ·have h3: ¬1<l.length:=by
    have h3: ¬((l.map cI).length:Int) > 1:=h3;simp only[EB]at h3;omega
   rw[E4 h3]at he;obtain⟨x,rfl⟩: ∃x,l=[x]:=by
    cases l with
    |nil=>exact EX Y hnv
    |cons x l=>cases l with
     |nil=>exact⟨x,rfl⟩
     |cons y l=>simp at h3
   refine .B ?_;refine .F (r:=cI c.coefs[i]) (ax h2) ?_;refine J.io Y Y Y Y Y Y Y Y Y (by decide) (by simp) rfl ?_;refine J.lo Y Y Y Y Y Y (r:=cI x) Y Y ?_;refine .B ?_;rw[ai (l:=c.vars.length) (n:=i) (by omega) (by omega)];exact T.K (ih (i+1,m,wr (s+wr (c.coefs[i]*x)),a) ⟨by simp only;omega,by simp only;omega,he⟩ (by simp only;omega))
 ·have h1:i=c.vars.length:=(by simp at h1;omega);subst h1;rw[ic hlen,au]at he;subst he;clear ih;simp only at hin⊢;refine .B ?_;refine T.cd Y (λh3=> ?_) (λh3=> ?_)
  ·have h3:1<m:=(by have h3:(m:Int) > 1:=h3;omega);rw[E6 h3];refine .B ?_;exact⟨_,.o Y Y Y (λ_=> .inl Y) (by simp) .nil⟩
  ·have h3: ¬1<m:=(by have h3: ¬(m:Int) > 1:=h3;omega);rw[E4 h3];refine .B ?_;refine T.cd Y (λh4=> ?_) (λh4=> ?_)
   ·have h4:m=0:=(by have h4:(m:Int)=0:=h4;omega);rw[E6 h4];refine .B ?_;refine T.cd Y (λh5=> ?_) (λh5=> ?_)
    ·have h5:s=c.rhs:=h5;rw[E6 h5];have hv:=hvin _ (az (c:=c) (k:=0) hpos);have hvr:=cF (c:=c) (k:=0) hpos;refine .B ?_;refine .F (r:=cI (varAt c 0)) hvr ?_;refine .V ?_;refine J.io Y Y Y Y Y Y Y Y Y hv.1 (by simpa using hv.2) Y ?_;refine J.w1 Y Y Y Y Y Y Y Y Y Y Y (z:=[]) (λ_=>rfl) hv.2 ?_;refine .B ?_;exact⟨_,.o Y Y Y (λ_=> .inl Y) (by simp) .nil⟩
    ·have h5: ¬s=c.rhs:=h5;rw[E4 h5];refine .B ?_;exact⟨_,.o Y Y Y (λ_=> .inl Y) (by simp) .nil⟩
   ·have h4: ¬m=0:=(by have h4: ¬(m:Int)=0:=h4;omega);rw[E4 h4];have hj:=hin.1;have hv:=hvin _ (az hj);have hx:=hdom _ (ac hv.2);have hrow:(d.map cD)[(varAt c a).toNat]? =some (cD (domAt d (varAt c a))):=(by simp[aj hv.2]);have hkr:=gG (c:=c) (k:=a) (by omega);have hvr:=cF (c:=c) (k:=a) hj;have hvx:=bB (domAt d (varAt c a)) hx.1 (by have:=hx.2.1;omega) hx.2.2;have hvin2:=oC hx.1;have hvl2:=hx.2.1;generalize vals (domAt d (varAt c a))=l at*;generalize varAt c a=v at*;generalize coefAt c a=k at*;refine .B ?_;refine .F (r:=cI v) hvr ?_;refine J.i Y Y Y Y Y Y Y Y Y (r:=cD (domAt d v)) hv.1 hrow Y ?_;refine .B ?_;refine .C hvx ?_;refine .Q ?_;refine T.K (T.ind (λn:Nat=>⟨[(3,.optr 0 0 0 0),(5,.ref 1),(7,.val true (.int .i64 s)),(8,.val true (.int .i64 a)),(11,.ref 2),(12,.ref 3),(13,.val true (.int .i64 n))],[(0,some (.box false (cC c))),(1,some (.sl 54 1 true (d.map cD))),(2,some (.sl 3 1 true (l.map cI))),(3,some (.sl 3 1 true (((l.take n).filter λv=>decide (wr (s+wr (k*v))≠c.rhs)).map cI)))],4⟩)
     (λn=>n<=l.length) (λn=>l.length-n) 0 (by simp) (λ_ _ h=>h) ?_)
    rintro n hn ih;refine .B ?_;refine T.cd Y (λh5=> ?_) (λh5=> ?_)
    ·have h5:n<l.length:=(by simpa using h5);have hfl:((l.take n).filter λv=>decide (wr (s+wr (k*v))≠c.rhs)).length<=n:=by
      refine Em (Ez _ _) ?_;simp;omega
     have e:(l.take (n+1)).filter (λv=>decide (wr (s+wr (k*v))≠c.rhs))=(l.take n).filter (λv=>decide (wr (s+wr (k*v))≠c.rhs))++if wr (s+wr (k*l[n]))≠c.rhs then [l[n]]else []:=by
      rw[ED h5,Fh];congr 1;by_cases hc:wr (s+wr (k*l[n]))=c.rhs;·simp[hc]
      ·simp[hc]
     refine .B ?_;refine .F (r:=cI k) hkr ?_;refine J.io Y Y Y Y Y Y Y Y Y (by omega) (by simpa using h5) Y ?_;refine J.lo Y Y Y Y Y Y (r:=cI l[n]) (ax h5) Y ?_;refine .B ?_;refine T.cd Y (λh6=> ?_) (λh6=> ?_)
     ·rw[E6 h6]at e;refine .B ?_;refine J.io Y Y Y Y Y Y Y Y Y (by omega) (by simpa using h5) Y ?_;refine J.lo Y Y Y Y Y Y (r:=cI l[n]) (ax h5) Y ?_;refine .B ?_;refine .V ?_;refine J.aI Y Y Y Y Y Y Y Y Y Y Y Y Y Y Y Y Y Y Y (by omega) ?_;refine .B ?_;rw[ai (l:=l.length) (by omega) (by omega),<-e];exact T.K (ih (n+1) (by omega) (by omega))
     ·rw[E4 h6,FU]at e;refine .B ?_;rw[ai (l:=l.length) (by omega) (by omega),<-e];exact T.K (ih (n+1) (by omega) (by omega))
    ·have h5:n=l.length:=(by simp at h5;omega);subst h5;rw[Ep];have hpk:=(im (l.filter λv=>decide (wr (s+wr (k*v))≠c.rhs)) (λv hv=>by
      have:=hvin2 v (FB.1 hv).1;omega) (by
      have:(l.filter λv=>decide (wr (s+wr (k*v))≠c.rhs)).length<=l.length:=Ez _ _;omega)).frz
     refine .M ?_;refine T.rdw 10 Y (by kernel_rfl) Y ?_
     repeat' first|refine J.e Y Y Y Y ?_|refine J.skip Y Y Y ?_|refine J.bx Y Y Y Y Y Y ?_
     refine .I (r:=cI v) hvr ?_
     repeat' first|refine J.e Y Y Y Y ?_|refine J.skip Y Y Y ?_|refine J.bx Y Y Y Y Y Y ?_
     refine .C hpk ?_;refine J.io Y Y Y Y Y Y Y Y Y hv.1 (by simpa using hv.2) Y ?_;refine J.wd1 Y Y Y Y Y Y Y Y Y Y Y (enc:=cD) (z:=bX (l.filter λv=>decide (wr (s+wr (k*v))≠c.rhs))) (λ_=>rfl) hv.2 ?_;refine J.nil ?_;refine⟨rfl,?_⟩;refine .B ?_;exact⟨_,.o Y Y Y (λ_=> .inl Y) (by simp) .nil⟩
def mostD (d:aa)(c:Con):aa:=dc d c.vars c.coefs c.rhs c.vars.length
def mostB (d:aa)(c:Con):aa:=dc d c.vars (aw c.coefs) (wr (0-c.rhs)) c.vars.length
def nL (c:Con)(out:aa):Option aa ⊕ aa:=
 if c.op=1/\[]∉out then
  (if []∈mostB out c then .inl none else if mostD (mostB out c) c=out then .inl (some out)else .inr (mostD (mostB out c) c))
 else .inl (if []∈out then none else some out)
def gT (d:aa)(c:Con)(R:Option aa)(N:Nat):Prop:=
 if []∈d then R=none else if c.op=2 then R=(if []∈rotherW d c then none else some (rotherW d c))else b9 (nL c) N (mostD d c)=some R
theorem td (d:aa)(c:Con)(hv:c.vars.length=c.coefs.length)(hvl:c.vars.length*8<=140737488355328)(hck: ∀k∈c.coefs,CoefOk k)(hpos:0<c.vars.length)(hvin: ∀v∈c.vars,0<=v/\v.toNat<d.length)(hdl:d.length*24<=140737488355328)
  (hf: ∀x∈d,Fine x) (hother: ∀x∈rotherW d c,DomB x) (Inv:aa->Prop) (hi1: ∀out,Inv out->(∀x∈out,DomB x)/\out.length=d.length) (hi2: ∀out,Inv out->Inv (mostD out c)/\Inv (mostB out c)) (h0:Inv d)
  (R:Option aa) (N:Nat) (hR:gT d c R N):Spec Tryz.prog 145 false [ao d,.agg (cC c)] [.val (ao (R.getD [])),.val (.bool R.isSome)]:=by
 refine Spec.body Tryz.func145 Y Y Y λw0 Z0=> ?_;unfold gT at hR;have hsi: ∀out,Inv out->SumIn out c.vars c.coefs:=λout hi=>⟨hv,hvl,λv hm=>by rw[(hi1 out hi).2];exact hvin v hm,hck,(hi1 out hi).1,by rw[(hi1 out hi).2];exact hdl⟩;have hsb: ∀out,Inv out->SumIn out c.vars (aw c.coefs):=λout hi=>⟨by simp[aw,hv],hvl,λv hm=>by rw[(hi1 out hi).2];exact hvin v hm,λk hk=>by
  obtain⟨k0,hk0,rfl⟩:=EH.1 hk;exact(cZ (hck _ hk0)).2,(hi1 out hi).1,by rw[(hi1 out hi).2];exact hdl⟩
 have hem: ∀out:aa,out.length=d.length->Spec Tryz.prog 117 false [ao out] [.val (.bool (decide ([]∈out)))]:=λout hl=>dN out (by omega);have htold: ∀out:aa,out.length=d.length->Spec Tryz.prog 203 true [ao out] ([ao (if []∈out then []else out),.bool (!decide ([]∈out))].map .val):=λout hl=>jT out (by omega);refine .B ?_;refine .D (hem d Y) ?_;by_cases hm: []∈d
 ·rw[E6 hm]at hR;subst hR;rw[EF hm];refine T.ct Y ?_;refine .B ?_;exact r2
 ·rw[E4 hm]at hR;rw[EE hm];refine T.cf Y ?_;refine .B ?_;refine T.cd Y (λh1=> ?_) (λh1=> ?_)
  ·have h1:c.op=2:=h1;rw[E6 h1]at hR;have hne: ∀v∈c.vars,vals (domAt d v)≠[]:=λv hvm e=>by
    have hmem:=ac (hvin v hvm).2;have:=(fq (hf _ hmem).ok).1 e;rw[this]at hmem;exact hm hmem
   have hro:=(uR d c (hsi d h0) hpos hne).frz;have hrl:(rotherW d c).length=d.length:=by
    unfold rotherW;simp only;split;·rfl
    ·split;·split<;>simp
     ·simp
   have htl:=htold _ hrl;generalize rotherW d c=od at*;refine .B ?_;refine .C hro ?_;refine J.ct Y Y Y Y Y htl Y Y ?_;refine .B ?_;subst hR;by_cases he: []∈od
   ·rw[E6 he,EF he];rw[E6 he];exact r2
   ·rw[E4 he,EE he];rw[E4 he];exact r2
  ·have h1: ¬c.op=2:=h1;rw[E4 h1]at hR;refine .B ?_;refine .D (lh d c.vars c.coefs c.rhs (hsi d h0)).frz ?_;have h0':=(hi2 d h0).1;refine T.K (T.ind (λs:Nat×aa=>⟨[(3,.optr 0 0 0 0),(6,.val true (ao s.2))],[(0,some (.box false (cC c)))],1⟩)
    (λs=>b9 (nL c) s.1 s.2=some R/\Inv s.2) (λs=>s.1) (N,mostD d c) ⟨hR,h0'⟩ (λ_ _ h=>h) ?_)
   rintro⟨m,out⟩ ⟨hR,hi⟩ ih;simp only at hR hi;dsimp only;obtain⟨hdb,hol⟩:=hi1 out hi;have hm2:=(lh out c.vars (aw c.coefs) (wr (0-c.rhs)) (hsb out hi)).frz;obtain⟨_,hib⟩:=hi2 out hi;have hm1:=(lh (mostB out c) c.vars c.coefs c.rhs (hsi _ hib)).frz;obtain⟨hid,_⟩:=hi2 _ hib;have hbl:=(hi1 _ hib).2;have hdl2:=(hi1 _ hid).2;have hse:=ld (mostD (mostB out c) c) out (by omega) (λx hx=>by have:=((hi1 _ hid).1 x hx).2.2;omega);have hst:nL c out=nL c out:=rfl
   conv at hst=>rhs;unfold nL
   have e1:dc out c.vars (aw c.coefs) (wr (0-c.rhs)) c.vars.length=mostB out c:=rfl;have e2:dc (mostB out c) c.vars c.coefs c.rhs c.vars.length=mostD (mostB out c) c:=rfl;rw[e1]at hm2;rw[e2]at hm1;generalize mostD (mostB out c) c=n2 at*;generalize mostB out c=n1 at*;have fin:c.op≠1∨[]∈out->R=if []∈out then none else some out:=λh=>by
    rw[E4 (by rintro⟨h2,h3⟩;exact h.elim (λh=>h h2) h3)]at hst;exact(aQ hR hst).symm
   refine .B ?_;refine J.g Y Y Y (λh2=> ?_) (λh2=> ?_)
   ·have h2:c.op=1:=h2;refine .B ?_;refine .D (hem out hol) ?_;by_cases he: []∈out
    ·rw[EF he];refine T.cf Y ?_;have hR2:=fin (.inr he);rw[E6 he]at hR2;subst hR2;refine .B ?_;refine J.ct Y Y Y Y Y (htold out hol) Y Y ?_;rw[E6 he,EF he];refine .B ?_;exact r2
    ·rw[EE he];rw[E6 ⟨h2,he⟩]at hst;refine T.ct Y ?_;refine .B ?_;refine .D (lQ c.coefs (by omega)) ?_;refine .D hm2 ?_;refine .D (hem n1 hbl) ?_;by_cases he1: []∈n1
     ·rw[EF he1];rw[E6 he1]at hst;obtain rfl:=aQ hR hst;refine T.ct Y ?_;refine .B ?_;exact r2
     ·rw[EE he1];rw[E4 he1]at hst;refine T.cf Y ?_;refine .B ?_;refine .D hm1 ?_;refine .D hse ?_;by_cases hs:n2=out
      ·rw[EF hs];rw[E6 hs]at hst;obtain rfl:=aQ hR hst;refine T.ct Y ?_;refine .B ?_;exact r2
      ·rw[EE hs];rw[E4 hs]at hst;obtain⟨m',hlt,hR'⟩:=fH hR hst;refine T.cf Y ?_;refine .B ?_;exact T.K (ih (m',n2) ⟨hR',hid⟩ hlt)
   ·have h2: ¬c.op=1:=h2;have hR2:=fin (.inl h2);refine .B ?_;refine T.cf Y ?_;refine .B ?_;refine J.ct Y Y Y Y Y (htold out hol) Y Y ?_;subst hR2;by_cases he: []∈out
    ·rw[E6 he,EF he];rw[E6 he];refine .B ?_;exact r2
    ·rw[E4 he,EE he];rw[E4 he];refine .B ?_;exact r2
def soW (es:Int×Int×Bool)(c:Con):Bool:=
 if es.2.2=false then false else
 if c.op=0 then decide (es.2.1<=c.rhs)else
 if c.op=1 then decide (es.1=c.rhs)&&decide (es.2.1=c.rhs)else
 decide (c.rhs<es.1)||decide (es.2.1<c.rhs)
theorem vK (d:aa)(c:Con)(h:SumIn d c.vars c.coefs):Spec Tryz.prog 230 false [ao d,.agg (cC c)] [.val (.bool (soW (endsW d c.vars c.coefs) c))]:=by
 refine Spec.body Tryz.func230 Y Y Y λw0 Z0=> ?_;have he:=qf d c.vars c.coefs h;generalize endsW d c.vars c.coefs=es at*;obtain⟨lo,hi,b⟩:=es;unfold soW;simp only;refine .B ?_;refine .C he ?_;cases b
 ·refine .B ?_;refine T.ct Y ?_;refine .B ?_;exact r1
 ·rw[E4 (by decide)];refine .B ?_;refine T.cf Y ?_;refine .B ?_;refine T.cd Y (λh1=> ?_) (λh1=> ?_)
  ·have h1:c.op=0:=h1;rw[E6 h1];refine .B ?_;exact r1
  ·have h1: ¬c.op=0:=h1;rw[E4 h1];refine .B ?_;refine T.cd Y (λh2=> ?_) (λh2=> ?_)
   ·have h2:c.op=1:=h2;rw[E6 h2];refine .B ?_;refine J.g Y Y Y (λh3=> ?_) (λh3=> ?_)
    ·have h3:lo=c.rhs:=h3;rw[EF h3];refine .B ?_;exact⟨_,.v Y Y (by simp) (λ_=>rfl) .nil⟩
    ·have h3: ¬lo=c.rhs:=h3;rw[EE h3];refine .B ?_;exact r1
   ·have h2: ¬c.op=1:=h2;rw[E4 h2];refine .B ?_;refine J.g Y Y Y (λh3=> ?_) (λh3=> ?_)
    ·have h3:c.rhs<lo:=h3;rw[EF h3];refine .B ?_;exact r1
    ·have h3: ¬c.rhs<lo:=h3;rw[EE h3];refine .B ?_;exact⟨_,.v Y Y (by simp) (λ_=>rfl) .nil⟩
theorem uP (d:aa)(c:Con)(h:SumIn d c.vars c.coefs):Spec Tryz.prog 238 false [ao d,.agg (cC c)] [.val (.bool (soW (endsRW d c.vars c.coefs) c))]:=by
 refine Spec.body Tryz.func238 Y Y Y λw0 Z0=> ?_;have he:=xk d c.vars c.coefs h;generalize endsRW d c.vars c.coefs=es at*;obtain⟨lo,hi,b⟩:=es;unfold soW;simp only;refine .B ?_;refine .D he ?_;refine T.cd Y (λh1=> ?_) (λh1=> ?_)
 ·have h1:c.op=0:=h1;rw[E6 h1];cases b
  ·refine .B ?_;exact r1
  ·refine .B ?_;exact r1
 ·have h1: ¬c.op=0:=h1;rw[E4 h1];refine .B ?_;refine T.cd Y (λh2=> ?_) (λh2=> ?_)
  ·have h2:c.op=1:=h2;rw[E6 h2];cases b
   ·refine .B ?_;exact r1
   ·rw[E4 (by decide)];refine .B ?_;refine J.g Y Y Y (λh3=> ?_) (λh3=> ?_)
    ·have h3:lo=c.rhs:=h3;rw[EF h3];refine .B ?_;exact⟨_,.v Y Y (by simp) (λ_=>rfl) .nil⟩
    ·have h3: ¬lo=c.rhs:=h3;rw[EE h3];refine .B ?_;exact r1
  ·have h2: ¬c.op=1:=h2;rw[E4 h2];cases b
   ·refine .B ?_;exact r1
   ·rw[E4 (by decide)];refine .B ?_;refine J.g Y Y Y (λh3=> ?_) (λh3=> ?_)
    ·have h3:c.rhs<lo:=h3;rw[EF h3];refine .B ?_;exact r1
    ·have h3: ¬c.rhs<lo:=h3;rw[EE h3];refine .B ?_;exact⟨_,.v Y Y (by simp) (λ_=>rfl) .nil⟩
def bi (c:Con):Con:=
 if c.op=0 then { c with coefs:=aw c.coefs,rhs:=wr (wr (0-c.rhs)-1) } else
 if c.op=1 then { c with op:=2 } else
 if c.op=2 then { c with op:=1 } else c
theorem r3 (c:Con)(hc:ConB c):Spec Tryz.prog 194 true [.agg (cC c)] [.val (.agg (cC (bi c)))]:=by
 refine Spec.body Tryz.func194 Y Y Y λw0 Z0=> ?_;obtain⟨kind,vars,coefs,op,rhs,rows,b⟩:=c;obtain⟨h1,h2,h3,h4⟩:=hc;simp only at h1 h2 h3 h4;unfold bi;simp only;have hcv:=(ef vars (by omega)).frz;have hcc:=(ef coefs h2).frz;have htc:=(l7 coefs h2).frz;refine .B ?_;refine .L ?_;refine .B ?_;refine .D hcv ?_;refine .X ?_;refine T.cd Y (λh5=> ?_) (λh5=> ?_)
 ·have h5:op=0:=h5;rw[E6 h5];refine T.seq ?_;refine T.K (?_:T _ _ ⟨[(1,.optr 0 0 0 0),(2,.optr 1 0 0 0)],[(0,some (.box false (cC ⟨kind,vars,coefs,op,rhs,rows,b⟩))),(1,some (.box true (cC ⟨0,[],[],0,0,[],0⟩)))],2⟩ _);refine T.rdw 11 Y (by kernel_rfl) Y ?_;refine .B ?_;refine .D htc ?_;refine J.wd Y Y Y Y Y Y Y Y Y Y ?_;refine .B ?_;refine J.wd Y Y Y Y Y Y Y Y Y Y ?_;refine J.nil ?_;refine⟨rfl,?_⟩;refine .B ?_;refine .X ?_;exact⟨_,.c Y Y Y Y (λh=>by cases h) .nil⟩
 ·have h5: ¬op=0:=h5;rw[E4 h5];refine .B ?_;refine T.cd Y (λh6=> ?_) (λh6=> ?_)
  ·have h6:op=1:=h6;rw[E6 h6];refine .B ?_;refine .X ?_;refine .D hcc ?_;refine .X ?_;refine .X ?_;exact⟨_,.c Y Y Y Y (λh=>by cases h) .nil⟩
  ·have h6: ¬op=1:=h6;rw[E4 h6];refine .B ?_;refine T.cd Y (λh7=> ?_) (λh7=> ?_)
   ·have h7:op=2:=h7;rw[E6 h7];refine .B ?_;refine .X ?_;refine .D hcc ?_;refine .X ?_;refine .X ?_;exact⟨_,.c Y Y Y Y (λh=>by cases h) .nil⟩
   ·have h7: ¬op=2:=h7;rw[E4 h7];refine .B ?_;refine .D hcc ?_;refine .X ?_;refine .X ?_;exact⟨_,.c Y Y Y Y (λh=>by cases h) .nil⟩
theorem rz (c:Con)(hc:ConB c):Spec Tryz.prog 212 true [.agg (cC c)] [.val (.agg (cC (bi c)))]:=by
 refine Spec.body Tryz.func212 Y Y Y λw0 Z0=> ?_;obtain⟨kind,vars,coefs,op,rhs,rows,b⟩:=c;obtain⟨h1,h2,h3,h4⟩:=hc;simp only at h1 h2 h3 h4;unfold bi;simp only;have htc:=(lQ coefs h2).frz;refine .B ?_;refine .L ?_;refine .B ?_;refine .L ?_;refine .X ?_;refine .Q ?_;refine J.a Y Y Y Y Y Y Y Y Y Y Y Y Y Y Y Y Y jE (by show(0+List.length _)*8<=_;simp;omega) ?_;refine .B ?_;refine J.sub (Rel.frz (s:=8) (λ_ h=>h) Y Y) ?_;refine .X ?_;refine .Q ?_;refine J.a Y Y Y Y Y Y Y Y Y Y Y Y Y Y Y Y Y jE (by show(0+List.length _)*8<=_;simp;omega) ?_;refine .B ?_;refine J.sub (Rel.frz (s:=13) (λ_ h=>h) Y Y) ?_;refine .W ?_;refine J.nil ?_;refine T.K (?_:T _ _ ⟨[(1,.optr 0 0 0 0),(2,.optr 1 0 0 0),(3,.optr 2 0 0 0)],[(0,some (.box false (cC ⟨kind,vars,coefs,op,rhs,rows,b⟩))),(1,some (.box true (cC ⟨0,[],[],0,0,[],0⟩))),(2,some (.box false (cC ⟨kind,vars,coefs,op,rhs,rows,b⟩)))],3⟩ _);refine .B ?_;refine T.cd Y (λh5=> ?_) (λh5=> ?_)
 ·have h5:op=0:=h5;subst h5;refine .B ?_;refine .D htc ?_;refine .X ?_;refine .X ?_;refine T.cf Y ?_;refine .B ?_;refine T.cf Y ?_;refine .B ?_;refine .X ?_;exact⟨_,.c Y Y Y Y (λh=>by cases h) .nil⟩
 ·have h5: ¬op=0:=h5;rw[E4 h5];refine .B ?_;refine T.cd Y (λh6=> ?_) (λh6=> ?_)
  ·have h6:op=1:=h6;subst h6;refine .B ?_;refine .X ?_;refine T.cf Y ?_;refine .B ?_;refine .X ?_;exact⟨_,.c Y Y Y Y (λh=>by cases h) .nil⟩
  ·have h6: ¬op=1:=h6;rw[E4 h6];refine .B ?_;refine T.cd Y (λh7=> ?_) (λh7=> ?_)
   ·have h7:op=2:=h7;rw[E6 h7];refine .B ?_;refine .X ?_;refine .X ?_;exact⟨_,.c Y Y Y Y (λh=>by cases h) .nil⟩
   ·have h7: ¬op=2:=h7;rw[E4 h7];refine .B ?_;refine .X ?_;exact⟨_,.c Y Y Y Y (λh=>by cases h) .nil⟩
theorem yO {d:aa}{c:Con}(h:SumIn d c.vars c.coefs):SumIn d (bi c).vars (bi c).coefs:=by
 unfold bi;split
 ·obtain⟨a1,a2,a3,a4,a5,a6⟩:=h;exact⟨by simp[aw,a1],a2,a3,λk hk=>by
   obtain⟨k0,hk0,rfl⟩:=EH.1 hk;exact(cZ (a4 _ hk0)).2,a5,a6⟩
 ·split;·exact h
  ·split<;>exact h
theorem vQ (d:aa)(c:Con)(hc:ConB c)(h:SumIn d c.vars c.coefs):Spec Tryz.prog 193 false [ao d,.agg (cC c)]
  [.val (.bool (soW (endsW d c.vars c.coefs) c)),.val (.bool (soW (endsW d c.vars c.coefs) c||soW (endsW d (bi c).vars (bi c).coefs) (bi c)))]:=by
 refine Spec.body Tryz.func193 Y Y Y λw0 Z0=> ?_;have h1:=vK d c h;have h2:=vK d (bi c) (yO h);have hn:=r3 c hc;generalize soW (endsW d c.vars c.coefs) c=b1 at*;generalize soW (endsW d (bi c).vars (bi c).coefs) (bi c)=b2 at*;refine .B ?_;refine .C h1 ?_;cases b1
 ·refine J.nil ?_;refine T.cf Y ?_;refine .B ?_;refine .C hn ?_;refine .D h2 ?_;exact⟨_,.v Y Y Y (λ_=>rfl) (.v Y Y (by simp) (λ_=>rfl) .nil)⟩
 ·refine J.nil ?_;refine T.ct Y ?_;refine .B ?_;exact r2
theorem uT (d:aa)(c:Con)(hc:ConB c)(h:SumIn d c.vars c.coefs):Spec Tryz.prog 210 false [ao d,.agg (cC c)]
  [.val (.bool (soW (endsRW d c.vars c.coefs) c)),.val (.bool (soW (endsRW d c.vars c.coefs) c||soW (endsRW d (bi c).vars (bi c).coefs) (bi c)))]:=by
 refine Spec.body Tryz.func210 Y Y Y λw0 Z0=> ?_;have h1:=uP d c h;have h2:=uP d (bi c) (yO h);have hn:=rz c hc;generalize soW (endsRW d c.vars c.coefs) c=b1 at*;generalize soW (endsRW d (bi c).vars (bi c).coefs) (bi c)=b2 at*;refine .B ?_;refine .D h1 ?_;refine .D hn ?_;refine .C h2 ?_
 repeat' first|refine J.e Y Y Y Y ?_|refine J.skip Y Y Y ?_|refine J.bx Y Y Y Y Y Y ?_
 refine J.nil ?_;refine T.canon (keep:=[6,7]) (os:=[]) Y ?_;cases b1
 ·refine .B ?_;exact⟨_,.v Y Y Y (λ_=>rfl) (.v Y Y (by simp) (λ_=>rfl) .nil)⟩
 ·refine .B ?_;exact r2
theorem gQ (a b:List (List Int))(hl:a.length*8<=140737488355328)(hx: ∀x∈a,x.length*8<=140737488355328):Spec Tryz.prog 16 false [bC a,bC b] [.val (.bool (decide (a=b)))]:=by
 refine Spec.body Tryz.func16 Y Y Y λw0 Z0=> ?_;refine .B ?_;refine T.cd Y (λh=> ?_) (λh=> ?_)
 ·refine .B ?_;refine⟨_,.v Y Y ?_ (λ_=>rfl) .nil⟩;rw[EE];intro e;subst e;exact h Y
 ·have h:a.length=b.length:=by
   have h: ¬(((a.map cL).length:Int)≠(b.map cL).length):=h;simp at h;omega
  refine .B ?_;refine T.K (T.ind (λi:Nat=>⟨[(0,.val false (bC a)),(1,.val false (bC b)),(5,.val true (.int .i64 i))],[],0⟩) (λi=>i<=a.length/\a.take i=b.take i) (λi=>a.length-i) 0 (by simp) (λ_ _ h=>h) ?_);rintro i ⟨hi,ht⟩ ih;refine .B ?_;refine T.cd Y (λh1=> ?_) (λh1=> ?_)
  ·have h1:i<a.length:=(by simpa using h1);have h2:i<b.length:=(by omega);refine .B ?_;refine .F (r:=cL a[i]) (ax h1) ?_;refine .F (r:=cL b[i]) (ax h2) ?_;refine J.cc Y Y Y Y Y (du a[i] b[i] (hx _ (EA h1))) Y Y ?_;refine .B ?_;by_cases e:a[i]=b[i]
   ·rw[EF e];refine T.cf Y ?_;refine .B ?_;rw[ai (l:=a.length) (by omega) (by omega)];exact T.K (ih (i+1) ⟨by omega,ie ht h1 h2 e⟩ (by omega))
   ·rw[EE e];refine T.ct Y ?_;refine .B ?_;refine⟨_,.v Y Y ?_ (λ_=>rfl) .nil⟩;rw[EE];intro e2;subst e2;exact e Y
  ·have h1:i=a.length:=(by simp at h1;omega);subst h1;refine .B ?_;refine⟨_,.v Y Y ?_ (λ_=>rfl) .nil⟩;rw[Ep,h,Ep]at ht;rw[EF ht]
theorem yq (a:Con)(ha:ConB a):Spec Tryz.prog 41 false [.agg (cC a),.agg (cC a)] [.val (.bool true)]:=by
 refine Spec.body Tryz.func41 Y Y Y λw0 Z0=> ?_;obtain⟨h1,h2,h3,h4⟩:=ha;have n1:=du a.vars a.vars (by omega);have n2:=du a.coefs a.coefs h2;have n3:=gQ a.rows a.rows (by omega) h4;rw[EF Y]at n1 n2 n3;refine .B ?_;refine J.g Y Y Y (λh=> ?_) (λh=>EX Y h);refine .B ?_;refine J.g Y Y Y (λh=> ?_) (λh=>EX Y h);refine .B ?_;refine J.g Y Y Y (λh=> ?_) (λh=>EX Y h);refine .B ?_;refine J.g Y Y Y (λh=> ?_) (λh=>EX Y h);refine .B ?_;refine .D n1 ?_;refine .D n2 ?_;refine .D n3 ?_;exact r1
theorem sB (d:aa)(hl:d.length*24<=140737488355328)(hx: ∀x∈d,x.length*16<=140737488355328):Spec Tryz.prog 191 false [ao d] [.own 54 1 ((if []∈d then []else d).map cD),.val (.bool (!decide ([]∈d)))]:=by
 refine Spec.body Tryz.func191 Y Y Y λw0 Z0=> ?_;refine .B ?_;refine T.sub (Rel.own0 (s:=4) 54 1 Y) ?_;refine T.K (T.listI d (λpre=>[]∉pre) (λn pre post=>⟨[(4,.ref 0),(7,.val false (ao d)),(8,.val true (.int .i64 (d.map cD).length)),(9,.val true (.int .i64 n))],[(0,some (.sl 54 1 true (pre.map cD)))],1⟩) (λ_ _ h=>h) (by simp) ?_ ?_)
 ·rintro n pre x post h hn hi ih;have hlt:=bW h hn;have hxl:=hx x (by rw[h];simp);refine .B ?_;refine T.ct2 Y (bV h hn) ?_;refine .B ?_;refine .F (r:=cD x) (aM h hn) ?_;refine T.cd Y (λh1=> ?_) (λh1=> ?_)
  ·have hx:x=[]:=(by simp at h1;exact h1);have hm: []∈d:=(by rw[h,hx];simp);rw[E6 hm,EF hm];refine .B ?_;exact⟨_,.ownN Y (.v Y Y Y (λ_=>rfl) .nil)⟩
  ·have hx:x≠[]:=λe=>h1 (by rw[e];rfl);refine .B ?_;refine .D (bT x (by omega)).frz ?_;refine .Z ?_;refine J.aD Y Y Y Y Y Y Y Y Y Y Y Y Y Y Y Y Y Y Y (by omega) ?_;refine .B ?_;rw[ai hlt (by omega)];exact T.K (ih (by simp[hi,Ne.symm hx]))
 ·intro hi;refine .B ?_;refine T.cf2 Y bj ?_;refine .B ?_;exact⟨_,.o Y Y (by rw[E4 hi]) (λ_=> .inl Y) (by simp) (.v rfl rfl (by simp[hi]) (λ_=>rfl) .nil)⟩
theorem nj (d:aa)(v value:Int)(hv:0<=v/\v.toNat<d.length)(hl:((domAt d v).length+1)*16<=140737488355328):
  SpecM Tryz.prog 192 54 1 (d.map cD) [.int .i64 v,.int .i64 value] ((d.set v.toNat (domCut (domAt d v) value value)).map cD) [.bool (!decide (domCut (domAt d v) value value=[]))]:=by
 refine SpecM.body Tryz.func192 Y Y Y (by simp[PV.flat]) λw0 v0 Z1=> ?_;have hrow:(d.map cD)[v.toNat]? =some (cD (domAt d v)):=(by simp[aj hv.2]);have hc:=(gS (domAt d v) value value hl).frz;have hrow2:((d.set v.toNat (domCut (domAt d v) value value)).map cD)[v.toNat]? =some (cD (domCut (domAt d v) value value)):=(by simp[hv.2]);have hb:decide ((((domCut (domAt d v) value value).map cR).length:Int) > 0)= !decide (domCut (domAt d v) value value=[]):=by
  cases domCut (domAt d v) value value<;>simp
 generalize domCut (domAt d v) value value=cx at*;generalize domAt d v=x at*;refine .B ?_;refine J.io Y Y Y Y Y Y Y Y Y hv.1 (by simpa using hv.2) Y ?_;refine J.lo Y Y Y Y Y Y (r:=cD x) hrow Y ?_;refine .B ?_;refine .C hc ?_;refine J.io Y Y Y Y Y Y Y Y Y hv.1 (by simpa using hv.2) Y ?_;refine J.w1 Y Y Y Y Y Y Y Y Y Y Y (λ_=>rfl) hv.2 ?_;refine .B ?_;refine J.io Y Y Y Y Y Y Y Y Y hv.1 (by simpa using hv.2) Y ?_;refine J.lo Y Y Y Y Y Y (r:=cD cx) hrow2 Y ?_;refine .B ?_;exact⟨.v Y Y (by rw[<-hb]) (λh=>by cases h) .nil,_,rfl,rfl⟩
def dU (k:Int):Int:=wr ((wr (k+1)).tdiv 2)
theorem vS (k:Int):Spec Tryz.prog 195 false [.int .i64 k] [.val (.int .i64 (dU k))]:=by
 refine Spec.body Tryz.func195 Y Y Y λw0 Z0=> ?_;refine .B ?_;exact r1
theorem Ag (r:Int×Int)(v:Int):Spec Tryz.prog 83 false [.agg (cR r),.ptr [.int .i64 v]] [.val (.bool (decide (r.1<=v)&&decide (v<=r.2)))]:=by
 refine Spec.body Tryz.func83 Y Y Y λw0 Z0=> ?_;refine .B ?_;refine J.g Y Y Y (λh=> ?_) (λh=> ?_)
 ·have h:r.1<=v:=(by simpa using h);rw[EF h];refine .B ?_;exact r1
 ·have h: ¬r.1<=v:=(by simpa using h);rw[EE h];refine .B ?_;exact r1
theorem CJ {α:Type}{p:α->Bool}{d pre post:List α}{x:α}{n:Nat}(h:d=pre++x::post)(hn:n=pre.length)(hi: ∀r∈pre,p r=false)(hx:p x=true):(if d.any p then(d.findIdx p:Int)else -1)=n:=by
 subst h hn;have h1:(pre++x::post).any p=true:=(by simp[hx]);rw[E6 h1,List.findIdx_append];have h2:pre.findIdx p=pre.length:=List.findIdx_eq_length.2 hi;rw[h2,E4 (by omega),List.findIdx_cons,hx];simp
theorem xU (f:FuncId)(caps:List PV)(p:Int×Int->Bool)(d:List (Int×Int))(hl:d.length*16<=140737488355328)(hf: ∀r,Spec Tryz.prog f false (.agg (cR r)::caps) [.val (.bool (p r))]):
  Spec Tryz.prog 122 false [dm d,.fn (.func f) [] caps] [.val (.int .i64 (if d.any p then d.findIdx p else -1))]:=by
 refine Spec.body Tryz.func122 Y Y Y λw0 Z0=> ?_;refine .B ?_;refine T.K (T.listI d (λpre=> ∀r∈pre,p r=false) (λn pre post=>⟨[(0,.val false (dm d)),(1,.val false (.fn (.func f) [] caps)),(6,.val false (dm d)),(7,.val true (.int .i64 (d.map cR).length)),(8,.val true (.int .i64 n))],[],0⟩) (λ_ _ h=>h) (by simp) ?_ ?_)
 ·rintro n pre x post h hn hi ih;have hlt:=bW h hn;have hfx:=hf x;refine .B ?_;refine T.ct2 Y (bV h hn) ?_;refine .B ?_;refine .F (r:=cR x) (aM h hn) ?_;refine .D hfx ?_;cases hp:p x
  ·refine T.cf Y ?_;refine .B ?_;rw[ai hlt (by omega)];exact T.K (ih (λr hr=>by
    rcases EW.1 hr with h|h;·exact hi r h
    ·simp at h;subst h;exact hp))
  ·refine T.ct Y ?_;refine .B ?_;exact⟨_,.v Y Y (by rw[CJ h hn hi hp]) (λ_=>rfl) .nil⟩
 ·intro hi;refine .B ?_;refine T.cf2 Y bj ?_;refine .B ?_;exact⟨_,.v Y Y (by rw[E4 (by simpa using hi)]) (λ_=>rfl) .nil⟩
def hasV (d:List (Int×Int))(v:Int):Bool:=d.any λr=>decide (r.1<=v)&&decide (v<=r.2)
theorem qZ (f:FuncId)(caps:List PV)(p:Int×Int->Bool)(d:List (Int×Int))(hl:d.length*16<=140737488355328)(hf: ∀r,Spec Tryz.prog f false (.agg (cR r)::caps) [.val (.bool (p r))]):
  Spec Tryz.prog 82 false [dm d,.fn (.func f) [] caps] [.val (.bool (d.any p))]:=by
 refine Spec.body Tryz.func82 Y Y Y λw0 Z0=> ?_;refine .B ?_;refine .D (xU f caps p d hl hf) ?_;refine⟨_,.v Y Y ?_ (λ_=>rfl) .nil⟩;cases d.any p;·rfl
 ·show PV.bool (decide ((d.findIdx p:Int)>=0))=_;rw[EF (by omega)]
theorem kv (d:List (Int×Int))(v:Int)(hl:d.length*16<=140737488355328):Spec Tryz.prog 55 false [dm d,.int .i64 v] [.val (.bool (hasV d v))]:=by
 refine Spec.body Tryz.func55 Y Y Y λw0 Z0=> ?_;refine .B ?_;refine J.sub (Rel.unbx (s:=3) (λ_ h=>h) Y Y) ?_;refine J.sub (Rel.fp (s:=3) Y) ?_;refine .B ?_;refine J.cc Y Y Y Y Y (qZ _ _ _ d hl λr=>Ag r v) Y Y ?_;refine .B ?_;exact r1
def dL (d:aa)(b v:Int):Option aa:=if domCut (domAt d b) v v=[]then none else some (d.set b.toNat (domCut (domAt d b) v v))
def aS (c:Con):Con:=⟨0,c.vars,c.coefs,c.op,c.rhs,[],0⟩
def yesW (d:aa)(c:Con):Bool:=soW (endsW d c.vars c.coefs) (aS c)
def noW (d:aa)(c:Con):Bool:=soW (endsW d (bi (aS c)).vars (bi (aS c)).coefs) (bi (aS c))
def nP (d:aa)(c:Con)(RS RN:Option aa):Option aa:=
 if []∈d then none else
 if yesW d c then dL d c.b 1 else
 if noW d c then dL d c.b 0 else
 if hasV (domAt d c.b) 0=false then RS else
 if hasV (domAt d c.b) 1=false then RN else some d
theorem p7 (d:aa)(c:Con)(h:SumIn d c.vars c.coefs)(hcb:ConB (aS c))(hb:0<=c.b/\c.b.toNat<d.length)(hx: ∀x∈d,(x.length+1)*16<=140737488355328)(RS RN:Option aa)
  (h1: []∉d->yesW d c=false->noW d c=false->hasV (domAt d c.b) 0=false->Spec Tryz.prog 139 false [ao d,.agg (cC (aS c))] (aJ RS)) (h2: []∉d->yesW d c=false->noW d c=false->hasV (domAt d c.b) 0=true->hasV (domAt d c.b) 1=false->Spec Tryz.prog 139 false [ao d,.agg (cC (bi (aS c)))] (aJ RN)):
  Spec Tryz.prog 136 false [ao d,.agg (cC c)] (aJ (nP d c RS RN)):=by
 refine Spec.body Tryz.func136 Y Y Y λw0 Z0=> ?_;have hown:=sB d h.dl (λx hm=>by have:=hx x hm;omega);have hkn:Spec Tryz.prog 193 false [ao d,.agg (cC (aS c))] [.val (.bool (yesW d c)),.val (.bool (yesW d c||noW d c))]:=vQ d (aS c) hcb h;have hnot:=r3 (aS c) hcb;have hrow:(d.map cD)[c.b.toNat]? =some (cD (domAt d c.b)):=(by simp[aj hb.2]);have hxb:=hx _ (ac hb.2);have hh0:=kv (domAt d c.b) 0 (by omega);have hh1:=kv (domAt d c.b) 1 (by omega);have hk0:=nj d c.b 0 hb hxb;have hk1:=nj d c.b 1 hb hxb;unfold nP;unfold dL;generalize yesW d c=y at*;generalize noW d c=z at*;refine .B ?_;refine .D hown ?_;by_cases hm: []∈d
 ·rw[E6 hm,E6 hm,EF hm];refine T.ct Y ?_;refine .B ?_;exact⟨_,.ownN Y (.v Y Y Y (λ_=>rfl) .nil)⟩
 ·rw[E4 hm,E4 hm,EE hm];have h1:=h1 hm;have h2:=h2 hm;refine T.cf Y ?_;refine .B ?_;refine .L ?_;refine .X ?_;refine J.mf Y Y Y Y Y Y Y ?_;refine .B ?_;refine .D hkn ?_;cases y
  ·rw[E4 (by decide)];cases z
   ·rw[E4 (by decide)];refine .B ?_;refine T.cf Y ?_;refine .B ?_;refine T.cf Y ?_;refine .B ?_;refine J.i Y Y Y Y Y Y Y Y Y (r:=cD (domAt d c.b)) hb.1 hrow Y ?_;refine .B ?_;refine .C hh0 ?_;generalize hasV (domAt d c.b) 0=e0 at*;cases e0
    ·rw[E6 Y];refine .B ?_;refine T.ct Y ?_;refine .B ?_;refine .D (h1 Y Y Y) ?_;exact⟨_,.o Y Y Y (λ_=> .inl Y) (by simp) (.v rfl rfl rfl (λ_=>rfl) .nil)⟩
    ·rw[E4 (by decide)];refine .B ?_;refine T.cf Y ?_;refine .B ?_;refine J.i Y Y Y Y Y Y Y Y Y (r:=cD (domAt d c.b)) hb.1 hrow Y ?_;refine .B ?_;refine .C hh1 ?_;generalize hasV (domAt d c.b) 1=e1 at*;cases e1
     ·rw[E6 Y];refine .B ?_;refine T.ct Y ?_;refine .B ?_;refine .D hnot ?_;refine .D (h2 Y Y Y Y) ?_;exact⟨_,.o Y Y Y (λ_=> .inl Y) (by simp) (.v rfl rfl rfl (λ_=>rfl) .nil)⟩
     ·rw[E4 (by decide)];refine .B ?_;refine T.cf Y ?_;refine .B ?_;refine T.cf Y ?_;refine .B ?_;exact⟨_,.o Y Y Y (λ_=> .inl Y) (by simp) (.v rfl rfl rfl (λ_=>rfl) .nil)⟩
   ·rw[E6 Y];refine .B ?_;refine T.cf Y ?_;refine .B ?_;refine T.ct Y ?_;refine .B ?_;refine J.cmf Y Y Y Y Y Y Y hk0 Y Y Y ?_;refine .B ?_;by_cases hk:domCut (domAt d c.b) 0 0=[]
    ·rw[E6 hk,EF hk];refine T.ct Y ?_;refine .B ?_;exact⟨_,.ownN Y (.v Y Y Y (λ_=>rfl) .nil)⟩
    ·rw[E4 hk,EE hk];refine T.cf Y ?_;refine .B ?_;exact⟨_,.o Y Y Y (λ_=> .inl Y) (by simp) (.v rfl rfl rfl (λ_=>rfl) .nil)⟩
  ·rw[E6 Y];refine .B ?_;refine T.ct Y ?_;refine .B ?_;refine J.cmf Y Y Y Y Y Y Y hk1 Y Y Y ?_;refine .B ?_;by_cases hk:domCut (domAt d c.b) 1 1=[]
   ·rw[E6 hk,EF hk];refine T.ct Y ?_;refine .B ?_;exact⟨_,.ownN Y (.v Y Y Y (λ_=>rfl) .nil)⟩
   ·rw[E4 hk,EE hk];refine T.cf Y ?_;refine .B ?_;exact⟨_,.o Y Y Y (λ_=> .inl Y) (by simp) (.v rfl rfl rfl (λ_=>rfl) .nil)⟩
def gL (d:aa):Option aa:=if []∈d then none else some d
def uY (d:aa)(c:Con)(y z:Bool)(RS RN:Option aa):Option aa:=
 if []∈d then none else
 if y then gL (d.set c.b.toNat (cutR (domAt d c.b) 1 1))else
 if z then gL (d.set c.b.toNat (cutR (domAt d c.b) 0 0))else
 if vals (domAt d c.b)=[1]then RS else
 if vals (domAt d c.b)=[0]then RN else some d
theorem xh (d:aa)(c:Con)(h:SumIn d c.vars c.coefs)(hcb:ConB (aS c))(hb:0<=c.b/\c.b.toNat<d.length)(y z:Bool)(hy:soW (endsRW d c.vars c.coefs) (aS c)=y)(hz:soW (endsRW d (bi (aS c)).vars (bi (aS c)).coefs) (bi (aS c))=z)(RS RN:Option aa)
  (h1: []∉d->Spec Tryz.prog 145 false [ao d,.agg (cC (aS c))] [.val (ao (RS.getD [])),.val (.bool RS.isSome)]) (h2: []∉d->Spec Tryz.prog 145 false [ao d,.agg (cC (bi (aS c)))] [.val (ao (RN.getD [])),.val (.bool RN.isSome)]):
  Spec Tryz.prog 149 false [ao d,.agg (cC c)] [.val (ao ((uY d c y z RS RN).getD [])),.val (.bool (uY d c y z RS RN).isSome)]:=by
 refine Spec.body Tryz.func149 Y Y Y λw0 Z0=> ?_;have hkn:Spec Tryz.prog 210 false [ao d,.agg (cC (aS c))] [.val (.bool y),.val (.bool (y||z))]:=by
  have:=uT d (aS c) hcb h;rw[show endsRW d (aS c).vars (aS c).coefs=endsRW d c.vars c.coefs from Y,hy,hz]at this;exact this
 have hnot:=rz (aS c) hcb;have hrow:(d.map cD)[c.b.toNat]? =some (cD (domAt d c.b)):=(by simp[aj hb.2]);have hdb:=h.dom _ (ac hb.2);have hvl:=bB (domAt d c.b) hdb.1 (by have:=hdb.2.1;omega) hdb.2.2;have hc0:=(mD (domAt d c.b) 0 0 hdb).frz;have hc1:=(mD (domAt d c.b) 1 1 hdb).frz;have ht: ∀x,Spec Tryz.prog 203 true [ao (d.set c.b.toNat x)] ([ao (if []∈d.set c.b.toNat x then []else d.set c.b.toNat x),.bool (!decide ([]∈d.set c.b.toNat x))].map .val):=λx=>jT _ (by have:=h.dl;simp;omega);have hem:=dN d (by have:=h.dl;omega);have hli:=cJ d h.dl λx hx=>(h.dom x hx).2.2;have hn1:=du (vals (domAt d c.b)) [1] (by have:=hdb.2.1;omega);have hn0:=du (vals (domAt d c.b)) [0] (by have:=hdb.2.1;omega);unfold uY;unfold gL;clear hy hz;refine .B ?_;refine .D hem ?_;by_cases hm: []∈d
 ·rw[E6 hm,EF hm];refine T.ct Y ?_;refine .B ?_;exact r2
 ·rw[E4 hm,EE hm];have h1:=h1 hm;have h2:=h2 hm;refine T.cf Y ?_;refine .B ?_;refine .L ?_;refine .X ?_;refine .D hkn ?_;refine J.i Y Y Y Y Y Y Y Y Y (r:=cD (domAt d c.b)) hb.1 hrow Y ?_;refine .B ?_;refine .D hvl ?_;cases y
  ·rw[E4 (by decide)];cases z
   ·rw[E4 (by decide)];refine .B ?_;refine T.cf Y ?_;refine .B ?_;refine .V ?_;refine .D hn1 ?_;by_cases e1:vals (domAt d c.b)=[1]
    ·rw[E6 e1,EF e1];refine T.ct Y ?_;refine .B ?_;refine .D h1 ?_;exact r2
    ·rw[E4 e1,EE e1];refine T.cf Y ?_;refine .B ?_;refine .V ?_;refine .D hn0 ?_;by_cases e0:vals (domAt d c.b)=[0]
     ·rw[E6 e0,EF e0];refine T.ct Y ?_;refine .B ?_;refine .C hnot ?_;refine .D h2 ?_;exact r2
     ·rw[E4 e0,EE e0];refine T.cf Y ?_;refine .B ?_;refine .C hli ?_
      repeat' first|refine J.e Y Y Y Y ?_|refine J.skip Y Y Y ?_|refine J.bx Y Y Y Y Y Y ?_
      refine J.sub (Rel.frz (s:=4) (λ_ h=>h) Y Y) ?_;refine .B ?_;exact r2
   ·rw[E6 Y];refine .B ?_;refine T.ct Y ?_;refine .B ?_;refine T.cf Y ?_;refine .B ?_;refine .C hli ?_
    repeat' first|refine J.e Y Y Y Y ?_|refine J.skip Y Y Y ?_|refine J.bx Y Y Y Y Y Y ?_
    refine J.nil ?_;refine T.seq ?_;refine T.rdw 13 Y (by kernel_rfl) Y ?_
    repeat' first|refine J.e Y Y Y Y ?_|refine J.skip Y Y Y ?_|refine J.bx Y Y Y Y Y Y ?_
    refine J.i Y Y Y Y Y Y Y Y Y (r:=cD (domAt d c.b)) hb.1 hrow Y ?_
    repeat' first|refine J.e Y Y Y Y ?_|refine J.skip Y Y Y ?_|refine J.bx Y Y Y Y Y Y ?_
    refine .C hc0 ?_;refine J.io Y Y Y Y Y Y Y Y Y hb.1 (by simpa using hb.2) Y ?_;refine J.wd1 Y Y Y Y Y Y Y Y Y Y Y (enc:=cD) (z:=cutR (domAt d c.b) 0 0) (λ_=>rfl) hb.2 ?_;refine J.nil ?_;refine⟨rfl,?_⟩;refine J.nil ?_;refine T.sub (Rel.frz (s:=11) (λ_ h=>h) Y Y) ?_;refine .B ?_;refine J.ct Y Y Y Y Y (ht (cutR (domAt d c.b) 0 0)) Y Y ?_;refine .B ?_;by_cases hk: []∈d.set c.b.toNat (cutR (domAt d c.b) 0 0)
    ·rw[E6 hk,E6 hk,EF hk];exact r2
    ·rw[E4 hk,E4 hk,EE hk];exact r2
  ·rw[E6 Y];refine .B ?_;refine T.ct Y ?_;refine .B ?_;refine T.ct Y ?_;refine .B ?_;refine .C hli ?_
   repeat' first|refine J.e Y Y Y Y ?_|refine J.skip Y Y Y ?_|refine J.bx Y Y Y Y Y Y ?_
   refine J.nil ?_;refine T.seq ?_;refine T.rdw 13 Y (by kernel_rfl) Y ?_
   repeat' first|refine J.e Y Y Y Y ?_|refine J.skip Y Y Y ?_|refine J.bx Y Y Y Y Y Y ?_
   refine J.i Y Y Y Y Y Y Y Y Y (r:=cD (domAt d c.b)) hb.1 hrow Y ?_
   repeat' first|refine J.e Y Y Y Y ?_|refine J.skip Y Y Y ?_|refine J.bx Y Y Y Y Y Y ?_
   refine .C hc1 ?_;refine J.io Y Y Y Y Y Y Y Y Y hb.1 (by simpa using hb.2) Y ?_;refine J.wd1 Y Y Y Y Y Y Y Y Y Y Y (enc:=cD) (z:=cutR (domAt d c.b) 1 1) (λ_=>rfl) hb.2 ?_;refine J.nil ?_;refine⟨rfl,?_⟩;refine J.nil ?_;refine T.sub (Rel.frz (s:=11) (λ_ h=>h) Y Y) ?_;refine .B ?_;refine J.ct Y Y Y Y Y (ht (cutR (domAt d c.b) 1 1)) Y Y ?_;refine .B ?_;by_cases hk: []∈d.set c.b.toNat (cutR (domAt d c.b) 1 1)
   ·rw[E6 hk,E6 hk,EF hk];exact r2
   ·rw[E4 hk,E4 hk,EE hk];exact r2
def cS (n:Nat)(us t:List Int)(k:Nat):List Int:=((us.zip t).take k).foldl (λa p=>a.set p.1.toNat p.2) (List.replicate n 0)
def keepsW (P:List Int->Bool)(m:Nat)(all:List (List Int)):List (List Int):=(List.range m).map λk=>(all.filter P).map (·.getD k 0)
def putsW (d:aa)(us:List Int)(ks:List (List Int))(k:Nat):aa:=((us.zip ks).take k).foldl (λo p=>o.set p.1.toNat (bX (aT p.2))) d
def d6 (d:aa)(us:List Int)(P:List Int->Bool):Option aa:=
 if []∈d then none else gL (putsW d us (keepsW P us.length (growR (us.map (domAt d)) us.length)) us.length)
theorem kr (n:Nat)(us t:List Int)(k:Nat):(cS n us t k).length=n:=by
 unfold cS;generalize (us.zip t).take k=l;have: ∀(l:List (Int×Int)) (a:List Int),(l.foldl (λa p=>a.set p.1.toNat p.2) a).length=a.length:=by
  intro l
  induction l with
  |nil=>simp
  |cons p l ih=>intro a;rw[En,ih];simp
 rw[this];simp
theorem jV (d:aa)(us:List Int)(ks:List (List Int))(k:Nat):(putsW d us ks k).length=d.length:=by
 unfold putsW;generalize (us.zip ks).take k=l;have: ∀(l:List (Int×List Int)) (a:aa),(l.foldl (λo p=>o.set p.1.toNat (bX (aT p.2))) a).length=a.length:=by
  intro l
  induction l with
  |nil=>simp
  |cons p l ih=>intro a;rw[En,ih];simp
 rw[this]
theorem kD {α β:Type}{l:List α}{m:List β}{k:Nat}(h1:k<l.length)(h2:k<m.length):(l.zip m).take (k+1)=(l.zip m).take k++[(l[k],m[k])]:=by
 rw[ED (by simp;omega),Gb]
theorem xY {n:Nat}{us t:List Int}{k:Nat}(h1:k<us.length)(h2:k<t.length):cS n us t (k+1)=(cS n us t k).set us[k].toNat t[k]:=by
 unfold cS;rw[kD h1 h2,H7];rfl
theorem xo {d:aa}{us:List Int}{ks:List (List Int)}{k:Nat}(h1:k<us.length)(h2:k<ks.length):putsW d us ks (k+1)=(putsW d us ks k).set us[k].toNat (bX (aT ks[k])):=by
 unfold putsW;rw[kD h1 h2,H7];rfl
theorem D6 {e:TypeId}{sz:Nat}{fr:Bool}{rows:List (List PV)}{i:Nat}{r:List PV}(h:rows[i]? =some r):(Own.sl e sz fr rows).at_ i 0 sz=some (fr,r):=by
 simp only[Own.at_,Hq,h,List.drop_zero]
theorem rD {α:Type}{m k:Nat}(f:Nat->α)(x:α):((List.range m).map f).set k x=(List.range m).map λj=>if j=k then x else f j:=by
 apply Fo;intro i;rw[FP,EJ,EJ];by_cases hi:i<m
 ·have hr:(List.range m)[i]? =some i:=(by simp[hi]);rw[hr];by_cases e:k=i
  ·subst e;rw[E6 Y,E6 (by simpa using hi)];simp
  ·rw[E4 e];simp only[FJ];rw[E4 (Ne.symm e)]
 ·have hr:(List.range m)[i]? =none:=(by simp;omega);rw[hr];by_cases e:k=i
  ·subst e;rw[E6 Y,E4 (by simpa using hi)];rfl
  ·rw[E4 e];rfl
def kpW (P:List Int->Bool)(all:List (List Int))(i k j:Nat):List Int:=((all.take i).filter P).map (·.getD j 0)++if j<k then [(all.getD i []).getD j 0]else []
theorem CB {P:List Int->Bool}{all:List (List Int)}{i k m:Nat}:((List.range m).map λj=>(kpW P all i k j).map cI).set k ((kpW P all i k k++[(all.getD i []).getD k 0]).map cI)=(List.range m).map λj=>(kpW P all i (k+1) j).map cI:=by
 rw[rD];refine F6 λj _=> ?_;by_cases e:j=k
 ·subst e;rw[E6 Y];simp[kpW]
 ·rw[E4 e];have:(j<k+1)=(j<k):=(by simp;omega);simp only[kpW,this]
theorem BJ {P:List Int->Bool}{all:List (List Int)}{i m:Nat}(hi:i<all.length)(hp:P all[i]=true):((List.range m).map λj=>(kpW P all i m j).map cI)=(List.range m).map λj=>(kpW P all (i+1) 0 j).map cI:=by
 refine F6 λj hj=> ?_;have hj:j<m:=ES.1 hj;have e:all.getD i []=all[i]:=(by rw[E0,E5 hi];rfl);simp only[kpW,hj,if_true,FK,if_false,FU,e];rw[ED hi,Fh,Fu hp];simp
theorem BI {P:List Int->Bool}{all:List (List Int)}{i m:Nat}(hi:i<all.length)(hp: ¬P all[i]=true):((List.range m).map λj=>(kpW P all i 0 j).map cI)=(List.range m).map λj=>(kpW P all (i+1) 0 j).map cI:=by
 refine F6 λj hj=> ?_;simp only[kpW,FK,if_false,FU];rw[ED hi,Fh,G4 hp];simp
theorem CC {P:List Int->Bool}{all:List (List Int)}{i k j:Nat}(hi:i<=all.length):(kpW P all i k j).length<=all.length+1:=by
 have h:((all.take i).filter P).length<=all.length:=Em (Ez _ _) (by simp;omega);simp only[kpW,EZ,EB];split<;>simp<;>omega
abbrev uo:=List (Value×List (List PV))
def wv (p:Value×List (List PV)):List PV:=[.raw p.1]
theorem z7 (d:aa)(c:Con)(us:List Int)(P:List Int->Bool)(hd: ∀x∈d,DomB x)(hdl:d.length*24<=140737488355328)(hul:us.length*24<=140737488355328)(hus: ∀u∈us,0<=u/\u.toNat<d.length)
  (hall: ∀m,m<=us.length->(growR (us.map (domAt d)) m).length*24+1048576<=140737488355328) (hin: ∀t∈growR (us.map (domAt d)) us.length,∀v∈t,-1048576<=v/\v<=1048576)
  (hh: ∀t∈growR (us.map (domAt d)) us.length,Spec Tryz.prog 25 false [.agg (cC c),aq (cS d.length us t us.length)] [.val (.bool (P t))]):
  Spec Tryz.prog 209 false [ao d,.agg (cC c),aq us] [.val (ao ((d6 d us P).getD [])),.val (.bool (d6 d us P).isSome)]:=by
 refine Spec.body Tryz.func209 Y Y Y λw0 Z0=> ?_;have hem:=dN d (by omega);have hli:=cJ d hdl λx hx=>(hd x hx).2.2;have hgl:=nq (us.map (domAt d)) us.length;have hgr:=Ah (us.map (domAt d)) (λx hx=>by obtain⟨u,hu,rfl⟩:=EH.1 hx;exact hd _ (ac (hus u hu).2)) (by simp;omega) us.length (by simp) λm hm=>(by have:=hall m hm;omega);have hbig:=hall us.length (EO _);unfold d6;clear hall;generalize growR (us.map (domAt d)) us.length=all at*;refine .B ?_;refine .D hem ?_;by_cases hm: []∈d
 ·rw[E6 hm,EF hm];refine T.ct Y ?_;refine .B ?_;exact r2
 rw[E4 hm,EE hm];refine T.cf Y ?_;refine .B ?_;refine .Q ?_;refine T.sub (Rel.wk (o:=1) Y) ?_;refine T.K (T.ind (λi:Nat=>⟨[(0,.val false (ao d)),(2,.val false (aq us)),(4,.optr 0 0 0 0),(8,.ref 1),(9,.val true (.int .i64 i))],[(0,some (.box false (cC c))),(1,some (.sl 54 1 false (((us.take i).map (domAt d)).map cD)))],2⟩) (λi=>i<=us.length) (λi=>us.length-i) 0 (by simp) (λ_ _ h=>h) ?_);rintro i hi ih;refine .B ?_;refine T.cd Y (λh1=> ?_) (λh1=> ?_)
 ·have h1:i<us.length:=(by simpa using h1);have hu:=hus _ (EA h1);have hrow:(d.map cD)[us[i].toNat]? =some (cD (domAt d us[i])):=(by simp[aj hu.2]);refine .B ?_;refine .F (r:=cI us[i]) (ax h1) ?_;refine J.i Y Y Y Y Y Y Y Y Y (r:=cD (domAt d us[i])) hu.1 hrow Y ?_;refine .B ?_;refine .V ?_;refine J.aD Y Y Y Y Y Y Y Y Y Y Y Y Y Y Y Y Y Y Y (by simp;omega) ?_;refine .B ?_;have e:(us.take i).map (domAt d)++[domAt d us[i]]=(us.take (i+1)).map (domAt d):=(by rw[ED h1,F4];rfl);rw[e,ai (l:=us.length) (by omega) (by omega)];exact T.K (ih (i+1) (by omega) (by omega))
 have h1:i=us.length:=(by simp at h1;omega);subst h1;rw[Ep];clear ih hi;refine .B ?_;refine J.cc Y Y Y Y Y hgr Y (by simp[ao]) ?_;refine .B ?_;refine J.ms (.raw (.slice none 0 0)) us.length Y Y Y Y Y Y Y Y Y Y Y Y Y Y (by simp) (by simp) (λ_ _=> .raw _ Y) hul ?_;refine .B ?_;refine T.sub (Rel.frz (s:=10) (λ_ h=>h) Y Y) ?_;refine T.sub (λa w h=>Rel.fam0 us.length 3 1 h) ?_;refine T.nameO 9 4 Y Y λU0=> ?_;rw[show List.replicate us.length [PV.raw (.slice none 0 0)]=(List.replicate us.length ((.slice none 0 0:Value),([]:List (List PV)))).map wv from by simp[wv]];refine T.K (T.ind (λs:Nat×Value×uo=>⟨[(0,.val false (ao d)),(2,.val false (aq us)),(4,.optr 0 0 0 0),(9,.eq s.2.1 2),(10,.val true (bC all)),(11,.ref 1),(12,.val true (.int .i64 s.1))],[(0,some (.box false (cC c))),(1,some (.sl 24 1 true (s.2.2.map wv))),(2,some (.fam 3 1 true s.2.2))],3⟩)
  (λs=>s.1<=all.length/\s.2.2.map (·.2)=(List.range us.length).map λj=>(kpW P all s.1 0 j).map cI) (λs=>all.length-s.1) (0,U0,List.replicate us.length (.slice none 0 0,[])) ⟨by simp,by simp[kpW,List.map_const']⟩ (λ_ _ h=>h) ?_)
 rintro⟨i,U,L⟩ ⟨hi,hL⟩ ih;simp only at hi hL;dsimp only;refine .B ?_;refine T.cd Y (λh1=> ?_) (λh1=> ?_)
 ·have h1:i<all.length:=(by simpa using h1);have hil:all[i].length=us.length:=hgl _ (EA h1);refine .B ?_;refine J.ms (B:=8) (.int .i64 0) d.length Y Y Y Y Y Y Y Y Y Y Y Y Y Y (by simp) (by simp) (λ_ _=> .int _ _) (by omega) ?_;refine .B ?_;rw[show List.replicate d.length [PV.int .i64 0]=(cS d.length us all[i] 0).map cI from by simp[cS,cI]];refine T.K (T.ind (λk:Nat=>⟨[(0,.val false (ao d)),(2,.val false (aq us)),(4,.optr 0 0 0 0),(9,.eq U 2),(10,.val true (bC all)),(11,.ref 1),(12,.val true (.int .i64 i)),(13,.ref 3),(14,.val true (.int .i64 k))],[(0,some (.box false (cC c))),(1,some (.sl 24 1 true (L.map wv))),(2,some (.fam 3 1 true L)),(3,some (.sl 3 1 true ((cS d.length us all[i] k).map cI)))],4⟩) (λk=>k<=us.length) (λk=>us.length-k) 0 (by simp) (λ_ _ h=>h) ?_);rintro k hk ih2;refine .B ?_;refine T.cd Y (λh2=> ?_) (λh2=> ?_)
  ·have h2:k<us.length:=(by simpa using h2);have hu:=hus _ (EA h2);have h3:k<all[i].length:=(by omega);refine .B ?_;refine T.rdm 13 Y (by kernel_rfl) Y ?_;refine .M ?_;refine .I (r:=cI us[k]) (ax h2) ?_;refine .M ?_;refine .I (r:=cL all[i]) (ax h1) ?_;refine .M ?_;refine .I (r:=cI all[i][k]) (ax h3) ?_;refine .M ?_;refine J.io Y Y Y Y Y Y Y Y Y hu.1 (by simp[kr];exact hu.2) Y ?_;refine .M ?_;refine J.w1 Y Y Y Y Y Y Y Y Y Y Y (z:=all[i][k]) (λ_=>rfl) (by rw[kr];exact hu.2) ?_;refine .B ?_;rw[ai (l:=us.length) (by omega) (by omega)];have:=ih2 (k+1) (by omega) (by omega);rw[xY h2 h3]at this;exact T.K this
  have h2:k=us.length:=(by simp at h2;omega);subst h2;clear ih2 hk;refine .B ?_;refine J.cc Y Y Y Y Y (hh _ (EA h1)) Y Y ?_;refine .B ?_;by_cases hp:P all[i]=true
  ·rw[hp];refine T.ct Y ?_;refine .B ?_;refine T.K (T.ind (λs:Nat×Value×uo=>⟨[(0,.val false (ao d)),(2,.val false (aq us)),(4,.optr 0 0 0 0),(9,.eq s.2.1 2),(10,.val true (bC all)),(11,.ref 1),(12,.val true (.int .i64 i)),(15,.val true (.int .i64 s.1))],[(0,some (.box false (cC c))),(1,some (.sl 24 1 true (s.2.2.map wv))),(2,some (.fam 3 1 true s.2.2))],3⟩)
    (λs=>s.1<=us.length/\s.2.2.map (·.2)=(List.range us.length).map λj=>(kpW P all i s.1 j).map cI) (λs=>us.length-s.1) (0,U,L) ⟨by simp,hL⟩ (λ_ _ h=>h) ?_)
   rintro⟨k,U2,L2⟩ ⟨hk,hL2⟩ ih2;simp only at hk hL2;dsimp only;refine .B ?_;refine T.cd Y (λh2=> ?_) (λh2=> ?_)
   ·have h2:k<us.length:=(by simpa using h2);have h3:k<all[i].length:=(by omega);have hLl:L2.length=us.length:=(by have:=congrArg List.length hL2;simpa using this);obtain⟨u,hk2⟩: ∃u,L2[k]? =some (u,(kpW P all i k k).map cI):=by
     have h4:(L2.map (·.2))[k]? =some ((kpW P all i k k).map cI):=(by rw[hL2];simp[h2]);rw[EJ]at h4;obtain⟨p,hp1,hp2⟩:=Ej.1 h4;exact⟨p.1,by rw[hp1,<-hp2]⟩
    have hfe:(L2.map wv)[k]? =some [.raw u]:=(by simp[wv,hk2]);have hkl:=CC (P:=P) (k:=k) (j:=k) (HH h1);refine .M ?_;refine T.sub (λa w h=>Rel.split 13 k (q:=2) Y Y hk2 h) ?_;refine T.rdw 16 Y (by kernel_rfl) Y ?_;refine .M ?_;refine J.io Y Y Y Y Y Y Y Y Y (by omega) (by simpa[hLl]using h2) Y ?_;refine J.lr 13 (q:=3) (u:=u) Y Y Y Y Y (D6 (e:=24) hfe) Y Y Y ?_;refine .M ?_;refine .I (r:=cL all[i]) (ax h1) ?_;refine .M ?_;refine .I (r:=cI all[i][k]) (ax h3) ?_;refine .M ?_;refine .V ?_;refine J.ad Y Y Y Y Y Y Y Y Y Y Y Y Y Y Y Y Y Y (cy Y) (by show(List.length _+1)*8<=_;simp;omega) ?_;refine J.io Y Y Y Y Y Y Y Y Y (by omega) (by simpa[hLl]using h2) Y ?_;refine J.nil ⟨rfl,?_⟩;refine J.name 14 (s:=95) Y Y Y λu'=> ?_;refine J.sub (Rel.raw (s:=95) (g:=14) Y (.inl Y) Y Y Y) ?_;refine J.w1 (enc:=wv) (z:=(u',((kpW P all i k k)++[all[i][k]]).map cI)) Y Y Y Y Y Y Y Y Y Y Y (λ_=>rfl) (by omega) ?_;refine J.sub (λa w h=>Rel.join k (g:=14) (q:=4) (n:=5) (rows:=((kpW P all i k k)++[all[i][k]]).map cI) Y (by rw[F4];rfl) Y Y h) ?_;refine J.nil ?_;refine T.nameO 9 6 Y Y λU3=> ?_;refine .B ?_;rw[ai (l:=us.length) (by omega) (by omega),List.set_set];have e2:(all.getD i []).getD k 0=all[i][k]:=by
     rw[E0,E0,E5 h1];simp[h3]
    have:=ih2 (k+1,U3,L2.set k (u',((kpW P all i k k)++[all[i][k]]).map cI)) ⟨by omega,by rw[Gy,hL2,<-CB,e2]⟩ (by show _-_<_-_;omega);exact T.K this
   have h2:k=us.length:=(by simp at h2;omega);subst h2;clear ih2 hk;refine .B ?_;rw[ai (l:=all.length) (by omega) (by omega)];exact T.K (ih (i+1,U2,L2) ⟨by omega,by rw[<-BJ h1 hp];exact hL2⟩ (by show _-_<_-_;omega))
  ·rw[eq_false_of_ne_true hp];refine T.cf Y ?_;refine .B ?_;rw[ai (l:=all.length) (by omega) (by omega)];exact T.K (ih (i+1,U,L) ⟨by omega,by rw[<-BI h1 hp];exact hL⟩ (by show _-_<_-_;omega))
 have h1:i=all.length:=(by simp at h1;omega);subst h1;clear ih hi;have hks:(L.map λp=>[PV.sl p.2])=(keepsW P us.length all).map cL:=by
  have e:(L.map λp=>[PV.sl p.2])=(L.map (·.2)).map λr=>[PV.sl r]:=(by rw[Fi];rfl);rw[e,hL,keepsW,Fi,Fi];refine F6 λj _=> ?_;simp[kpW,cL,aq]
 refine T.sub (λa w h=>Rel.meltF (qc:=1) (q:=2) (l:=L) (λ_ h=>h) Y Y Y h) ?_;rw[hks];have hkl:(keepsW P us.length all).length=us.length:=(by simp[keepsW]);have hkin: ∀l∈keepsW P us.length all,l.length<=all.length/\∀v∈l,-1048576<=v/\v<=1048576:=by
  intro l hl;obtain⟨j,hj,rfl⟩:=EH.1 hl;refine⟨by rw[EB];exact Ez _ _,λv hv=> ?_⟩;obtain⟨t,ht,rfl⟩:=EH.1 hv;have ht:=(FB.1 ht).1;rw[E0];cases hg:t[j]? with
  |none=>simp
  |some x=>simpa using hin t ht x (EC hg)
 generalize keepsW P us.length all=ks at*;refine T.sub (Rel.frz (s:=11) (λ_ h=>h) Y Y) ?_;refine .B ?_;refine .D hli ?_;refine T.K (T.ind (λk:Nat=>⟨[(2,.val false (aq us)),(11,.val true (bC ks)),(16,.ref 0),(17,.val true (.int .i64 k))],[(0,some (.sl 54 1 true ((putsW d us ks k).map cD)))],1⟩) (λk=>k<=us.length) (λk=>us.length-k) 0 (by simp) (λ_ _ h=>h) ?_);rintro k hk ih2;refine .B ?_;refine T.cd Y (λh2=> ?_) (λh2=> ?_)
 ·have h2:k<us.length:=(by simpa using h2);have h3:k<ks.length:=(by omega);have hu:=hus _ (EA h2);have hki:=hkin _ (EA h3);have hso:=(dI ks[k] (by omega)).frz;have hpa:=(im (aT ks[k]) (λv hv=>by have:=hki.2 v ((bI v _).1 hv);omega) (by have:=ej ks[k];omega)).frz;refine .B ?_;refine T.rdm 12 Y (by kernel_rfl) Y ?_;refine .M ?_;refine .I (r:=cI us[k]) (ax h2) ?_;refine .M ?_;refine .I (r:=cL ks[k]) (ax h3) ?_;refine .M ?_;refine .C hso ?_;refine .M ?_;refine .C hpa ?_;refine .M ?_;refine J.io Y Y Y Y Y Y Y Y Y hu.1 (by rw[EB,jV];exact hu.2) Y ?_;refine .M ?_;refine J.w1 Y Y Y Y Y Y Y Y Y Y Y (z:=bX (aT ks[k])) (λ_=>rfl) (by rw[jV];exact hu.2) ?_;refine .B ?_;rw[ai (l:=us.length) (by omega) (by omega)];have:=ih2 (k+1) (by omega) (by omega);rw[xo h2 h3]at this;exact T.K this
 have h2:k=us.length:=(by simp at h2;omega);subst h2;have hto:=jT (putsW d us ks us.length) (by rw[jV];omega);unfold gL;generalize putsW d us ks us.length=out at*;refine .B ?_;refine J.sub (Rel.frz (s:=117) (λ_ h=>h) Y Y) ?_;refine J.ct Y Y Y Y Y hto Y Y ?_;refine .B ?_;by_cases hn: []∈out
 ·rw[E6 hn,E6 hn,EF hn];exact r2
 ·rw[E4 hn,E4 hn,EE hn];exact r2
theorem wL: ∀(l:List Int) (room:Int),e5 room l=false->(∀k∈l,aL k<=4398046511104)/\(0<=room->ar l<=room)
 | [],room,h=>by simp[ar]
 |x::l,room,h=>by
  rw[e5]at h;split at h;·cases h
  ·rename_i h1;split at h;·cases h
   ·rename_i h2;obtain⟨h3,h4⟩:=wL l _ h;have e:ar (x::l)=aL x*1048576+ar l:=(by simp[ar]);have e2:max x (-x)=aL x:=rfl;rw[e2]at h2 h4;refine⟨λk hk=> ?_,λh0=> ?_⟩
    ·rcases ET.1 hk with rfl|hk;·unfold aL;omega
     ·exact h3 k hk
    ·rw[e];have:=h4 (by omega);omega
structure SumOk (d:aa)(c:Con):Prop where
 fine:SumFine d c.vars c.coefs
 nod:c.vars.Nodup
 pos:0<c.vars.length
 op:0<=c.op/\c.op<=2
 big:ar c.coefs<=4611686018427388928/\aL c.rhs<=4611686018427388928
theorem qM {c:Con}(h:eN c.coefs c.rhs=false):(∀k∈c.coefs,aL k<=4398046511104)/\ar c.coefs+aL c.rhs<=4611686018427387904:=by
 unfold eN at h;split at h;·cases h
 ·rename_i h1;obtain⟨h2,h3⟩:=wL _ _ h;have e:max c.rhs (-c.rhs)=aL c.rhs:=rfl;rw[e]at h3;refine⟨h2,?_⟩;have:aL c.rhs<=4611686018427387904:=(by unfold aL;omega);have:=h3 (by omega);omega
theorem kw {d:aa}{c:Con}(h:conR d c=0):eN c.coefs c.rhs=false:=by
 unfold conR at h;cases hb:eN c.coefs c.rhs with
 |false=>rfl
 |true=>
  rw[hb]at h;split at h;·cases h
  ·split at h;·cases h
   ·split at h<;>cases h
theorem bf: ∀l:List Int,0<=ar l
 | []=>by simp[ar]
 |k::l=>by
  have:=bf l;have:=bA k;have e:ar (k::l)=aL k*1048576+ar l:=(by simp[ar]);omega
theorem pc {d:aa}{c:Con}(hc:ConB c)(h:conR d c=0)(hk:c.kind=0)(hf: ∀x∈d,Fine x)(hdl:d.length*24<=140737488355328):SumOk d c:=by
 obtain⟨hv,hr⟩:=tV hc h;obtain⟨h1,h2⟩:=qM (kw h);have hra:=bA c.rhs;have hwk:=bf c.coefs;unfold rightR at hr;rw[E6 hk]at hr;simp only[sumR,opR,EL,ER,FZ,decide_eq_false_iff_not]at hr;obtain⟨⟨⟨_,⟨⟨h4,h5⟩,h6⟩,h7⟩,h8⟩,_⟩:=hr;exact⟨⟨h6,hv.1,hv.2,λk hk=>⟨λe=>h7 (e▸hk),h1 k hk⟩,hf,hdl⟩,h4,h5,h8,by omega⟩
theorem dk {d:aa}{vars coefs:List Int}(h:SumFine d vars coefs):eR (ae d vars coefs):=by
 intro t ht;obtain⟨p,hp,rfl⟩:=EH.1 ht;obtain⟨h1,h2⟩:=Ew hp;exact⟨h.dom _ (ac (h.vin _ h1).2),h.ck _ h2⟩
theorem cw {d:aa}{vars coefs:List Int}(h:vars.length=coefs.length):aV (ae d vars coefs)=ar coefs:=by
 unfold aV ae;rw[Fi];congr 1;have:((λx:List (Int×Int)×Int=>x.2)∘λp:Int×Int=>(domAt d p.1,p.2))=λp:Int×Int=>p.2:=rfl;rw[this,List.map_snd_zip];omega
theorem dE: ∀(l:List Int),(∀k∈l,CoefOk k)->ar (aw l)=ar l
 | [],_=>rfl
 |k::l,h=>by
  have e:=(cZ (h k (.head _))).1;have ih:=dE l λk hk=>h k (.tail _ hk);have e1:ar (k::l)=aL k*1048576+ar l:=(by simp[ar]);have e2:ar (aw (k::l))=aL (wr (0-k))*1048576+ar (aw l):=(by simp[ar,aw]);rw[e1,e2,ih,e];unfold aL;omega
theorem yC {d:aa}{vars coefs:List Int}(h:SumFine d vars coefs)(hw:ar coefs<=4611686018427388928):endsW d vars coefs=endsRW d vars coefs:=
 Ao (dk h) (by rw[cw h.len];exact hw)
theorem sE {a b v:Int}(hb:0<b)(h1: -9223372036854775000<=a)(h2:a<=9223372036854775000):(v<=g8 a b↔b*v<=a)/\-9223372036854775002<=g8 a b/\g8 a b<=9223372036854775002:=by
 have e:=Int.mul_tdiv_add_tmod a b;have r1:=Int.tmod_lt_of_pos a hb;have r2:=Int.lt_tmod_of_pos a hb;have hq: -9223372036854775000<=a.tdiv b/\a.tdiv b<=9223372036854775000:=by
  have:=Hw a b;omega
 unfold g8;generalize a.tdiv b=q at*;generalize a.tmod b=r at*;have key: ∀w:Int,v<=w->b*v<=b*w:=λw h=>FN h (by omega);have key2: ∀w:Int,w<=v->b*w<=b*v:=λw h=>FN h (by omega);by_cases hr:r<0
 ·rw[E6 hr];simp only[wr];rw[af (n:=q) (by omega) (by omega),af (n:=q-1) (by omega) (by omega)];refine⟨⟨λh=> ?_,λh=> ?_⟩,by omega,by omega⟩
  ·have:=key _ h;rw[Int.mul_sub,Int.mul_one]at this;omega
  ·by_cases hv:v<=q-1;·exact hv
   ·have:=key2 q (by omega);omega
 ·rw[E4 hr];simp only[wr];rw[af (n:=q) (by omega) (by omega)];refine⟨⟨λh=> ?_,λh=> ?_⟩,by omega,by omega⟩
  ·have:=key _ h;omega
  ·by_cases hv:v<=q;·exact hv
   ·have:=key2 (q+1) (by omega);rw[Int.mul_add,Int.mul_one]at this;omega
def Av (x:List (Int×Int))(k rest:Int):List (Int×Int):=bX ((vals x).filter λv=>decide (k*v<=rest))
theorem y8 {x:List (Int×Int)}(h:aB x)(k rest:Int):aB (Av x k rest)/\∀v,v∈vals (Av x k rest)↔v∈vals x/\k*v<=rest:=by
 have hu:=fo (p:=λv=>decide (k*v<=rest)) (aG h);refine⟨fR hu,λv=> ?_⟩;unfold Av;rw[bH hu,FB];simp
theorem CK {x:List (Int×Int)}{k rest:Int}(h:Fine x)(hk:CoefOk k)(h1: -9223372036854775000<=rest)(h2:rest<=9223372036854775000):cutW x k rest=Av x k rest:=by
 have hc:=fI hk;obtain⟨p1,p2⟩:=y8 h.ok k rest;have q1:=(tU h.ok k rest).1;refine fX q1 p1 (dX (aG q1) (aG p1) λv=> ?_);rw[p2];unfold cutW;by_cases hp:0<k
 ·rw[E6 hp,(bR h.ok _ _).2,(sE hp h1 h2).1];constructor;·rintro⟨a,_,b⟩;exact⟨a,b⟩
  ·rintro⟨a,b⟩;exact⟨a,(h.val v a).1,b⟩
 ·rw[E4 hp];have hn:0< -k:=(by have:=hk.1;omega);rw[(cZ hk).1,(bR h.ok _ _).2];obtain⟨f1,f2,f3⟩:=sE (v:= -v) hn h1 h2;rw[Int.neg_mul_neg]at f1;simp only[wr];rw[af (by omega) (by omega),<-f1];constructor;·rintro⟨a,b,_⟩;exact⟨a,by omega⟩
  ·rintro⟨a,b⟩;exact⟨a,by omega,(h.val v a).2⟩
def bZ:List (Int×List (Int×Int))->aa->aa
 | [],d=>d
 |p::ps,d=>bZ ps (d.set p.1.toNat p.2)
theorem lc: ∀(ps:List (Int×List (Int×Int))) (d:aa),(bZ ps d).length=d.length
 | [],d=>rfl
 |p::ps,d=>by rw[bZ,lc ps,FA]
theorem c9: ∀(ps:List (Int×List (Int×Int))) (d:aa) (i:Nat),(∀p∈ps,p.1.toNat≠i)->(bZ ps d)[i]? =d[i]?
 | [],d,i,_=>rfl
 |p::ps,d,i,h=>by
  rw[bZ,c9 ps _ i λq hq=>h q (.tail _ hq),Et (h p (.head _))]
def sX (ps:List (Int×List (Int×Int))):Prop:=ps.Pairwise λp q=>p.1.toNat≠q.1.toNat
theorem d3: ∀{ps:List (Int×List (Int×Int))} {d:aa},sX ps->(∀p∈ps,p.1.toNat<d.length)->∀p∈ps,(bZ ps d)[p.1.toNat]? =some p.2
 |q::ps,d,ha,hl,p,hp=>by
  have h1:=Ei.1 ha;rw[bZ];rcases ET.1 hp with rfl|hp;·rw[c9 ps _ _ λr hr=>Ne.symm (h1.1 r hr),F2 (hl _ (.head _))]
  ·exact d3 h1.2 (λr hr=>by rw[FA];exact hl r (.tail _ hr)) p hp
theorem nM: ∀(ps:List (Int×List (Int×Int))) (p:Int×List (Int×Int)) (d:aa),bZ (ps++[p]) d=(bZ ps d).set p.1.toNat p.2
 | [],p,d=>rfl
 |q::ps,p,d=>by rw[Fj,bZ,bZ,nM ps]
theorem setAll_mem {ps:List (Int×List (Int×Int))}{d:aa}(ha:sX ps)(hl: ∀p∈ps,p.1.toNat<d.length){x:List (Int×Int)}:x∈bZ ps d->x∈d∨∃p∈ps,p.2=x:=by
 intro h;obtain⟨i,hi⟩:=G2.1 h;by_cases he: ∃p∈ps,p.1.toNat=i
 ·obtain⟨p,hp,rfl⟩:=he;rw[d3 ha hl p hp]at hi;exact .inr ⟨p,hp,E7 hi⟩
 ·rw[c9 ps d i λp hp e=>he ⟨p,hp,e⟩]at hi;exact .inl (EC hi)
theorem w9 {ps:List (Int×List (Int×Int))}{d:aa}(ha:sX ps)(hl: ∀p∈ps,p.1.toNat<d.length){p}(hp:p∈ps):p.2∈bZ ps d:=EC (d3 ha hl p hp)
theorem uM {ps:List (Int×List (Int×Int))}{d:aa}(ha:sX ps)(hl: ∀p∈ps,p.1.toNat<d.length):bZ ps d=d↔∀p∈ps,p.2=domAt d p.1:=by
 constructor
 ·intro h p hp;have:=d3 ha hl p hp;rw[h,aj (hl p hp)]at this;exact(E7 this).symm
 ·intro h;refine Fo λi=> ?_;by_cases he: ∃p∈ps,p.1.toNat=i
  ·obtain⟨p,hp,rfl⟩:=he;rw[d3 ha hl p hp,aj (hl p hp),h p hp]
  ·exact c9 ps d i λp hp e=>he ⟨p,hp,e⟩
def ee (d:aa)(low rhs:Int)(p:Int×Int):List (Int×Int):=Av (domAt d p.1) p.2 (rhs-(low-cO (domAt d p.1) p.2))
def i7 (d:aa)(vars coefs:List Int)(rhs:Int):List (Int×List (Int×Int)):=(vars.zip coefs).map λp=>(p.1,ee d (bq (ae d vars coefs)) rhs p)
def MO (d:aa)(vars coefs:List Int)(rhs:Int):aa:=bZ (i7 d vars coefs rhs) d
structure Whole (d:aa)(vars coefs:List Int)(rhs:Int):Prop where
 fine:SumFine d vars coefs
 nod:vars.Nodup
 ne: []∉d
 big:ar coefs<=4611686018427388928/\aL rhs<=4611686018427388928
theorem mK: ∀{vars coefs:List Int},vars.Nodup->(∀v∈vars,0<=v)->(vars.zip coefs).Pairwise λp q=>p.1.toNat≠q.1.toNat
 | [],_,_,_=>by simp
 |_::_,[],_,_=>by simp
 |v::vars,k::coefs,hn,h0=>by
  have h1:=FH.1 hn;rw[G6];refine Ei.2 ⟨λp hp=> ?_,mK h1.2 λv hv=>h0 v (.tail _ hv)⟩;have hm:=(Ew hp).1;have h2:=h0 _ (.head _);have h3:=h0 _ (.tail _ hm);intro e;have:v=p.1:=(by simp only at e;omega);exact h1.1 (this▸hm)
theorem i6 {d:aa}{vars coefs:List Int}{rhs:Int}(h:Whole d vars coefs rhs):sX (i7 d vars coefs rhs)/\∀p∈i7 d vars coefs rhs,p.1.toNat<d.length:=by
 constructor
 ·unfold sX i7;rw[H9];exact mK h.nod λv hv=>(h.fine.vin v hv).1
 ·intro p hp;obtain⟨q,hq,rfl⟩:=EH.1 hp;exact(h.fine.vin _ (Ew hq).1).2
theorem fC {d:aa}{vars coefs:List Int}{rhs:Int}(h:Whole d vars coefs rhs): ∀t∈ae d vars coefs,t.1≠[]:=by
 intro t ht e;obtain⟨p,hp,rfl⟩:=EH.1 ht;have:=ac (h.fine.vin _ (Ew hp).1).2;simp only at e;rw[e]at this;exact h.ne this
theorem vM: ∀{ts:List (List (Int×Int)×Int)},eR ts->(∀t∈ts,t.1≠[])->∀t∈ts,aL t.2*1048576-aV ts<=bq ts-cO t.1 t.2/\bq ts-cO t.1 t.2<=aV ts-aL t.2*1048576
 |t0::ts,h,hne,t,ht=>by
  have hs:=lJ (ts:=ts) (λt ht=>h t (.tail _ ht)) (λt ht=>hne t (.tail _ ht));have e:bq (t0::ts)=cO t0.1 t0.2+bq ts:=(by simp[bq]);have hb:=j6 (h t0 (.head _)).1 (hne t0 (.head _)) t0.2;have hp:=c7 ts;have ha:=bA t0.2;rw[cg,e];rcases ET.1 ht with rfl|ht;·omega
  ·have:=vM (λt ht=>h t (.tail _ ht)) (λt ht=>hne t (.tail _ ht)) t ht;omega
theorem yG {d:aa}{vars coefs:List Int}{rhs:Int}(h:Whole d vars coefs rhs){p:Int×Int}(hp:p∈vars.zip coefs):
  -4611686018427388928<=bq (ae d vars coefs)/\bq (ae d vars coefs)<=4611686018427388928/\-4611686018427388928<=bq (ae d vars coefs)-cO (domAt d p.1) p.2/\bq (ae d vars coefs)-cO (domAt d p.1) p.2<=4611686018427388928/\
   -9223372036853729280<=rhs-(bq (ae d vars coefs)-cO (domAt d p.1) p.2)/\rhs-(bq (ae d vars coefs)-cO (domAt d p.1) p.2)<=9223372036853729280:=by
 have hs:=lJ (dk h.fine) (fC h);have hm:=vM (dk h.fine) (fC h) (domAt d p.1,p.2) (EH.2 ⟨p,hp,rfl⟩);rw[cw h.fine.len]at hs hm;have hb:=h.big;have ha:aL rhs=max rhs (-rhs):=rfl;have hk1:1<=aL p.2:=(by have:=(h.fine.ck _ (Ew hp).2).1;unfold aL;omega);simp only at hm;omega
theorem rU {d:aa}{vars coefs:List Int}{rhs:Int}(h:Whole d vars coefs rhs): ∀(l:List (Int×Int)) (d1:aa) (ch:Bool),(∀p∈l,p∈vars.zip coefs)->l.Pairwise (λp q=>p.1.toNat≠q.1.toNat)->(∀p∈l,domAt d1 p.1=domAt d p.1)->
  ((∃p∈l,ee d (bq (ae d vars coefs)) rhs p=[])->(fj (bq (ae d vars coefs)) rhs l d1 ch).2.2=false)/\
  ((∀p∈l,ee d (bq (ae d vars coefs)) rhs p≠[])->fj (bq (ae d vars coefs)) rhs l d1 ch=(bZ (l.map λp=>(p.1,ee d (bq (ae d vars coefs)) rhs p)) d1,ch||l.any (λp=> !decide (ee d (bq (ae d vars coefs)) rhs p=domAt d p.1)),true))
 | [],d1,ch,_,_,_=>by simp[fj,bZ]
 |(v,k)::l,d1,ch,hm,ha,hd=>by
  have hz:=hm _ (.head _);obtain⟨hv,hk⟩:=Ew hz;have hx:=h.fine.dom _ (ac (h.fine.vin _ hv).2);have hne:domAt d v≠[]:=λe=>h.ne (e▸ac (h.fine.vin _ hv).2);have hck:=h.fine.ck _ hk;have hr:=yG h hz;have ha1:=Ei.1 ha;have e1:domAt d1 v=domAt d v:=hd _ (.head _);have e2:cutW (domAt d1 v) k (ij (bq (ae d vars coefs)) rhs (domAt d1 v) k)=ee d (bq (ae d vars coefs)) rhs (v,k):=by
   rw[e1];unfold ij ee;rw[(oR hx hne hck).1];simp only[wr]at hr⊢;rw[af (n:=bq (ae d vars coefs)-cO (domAt d v) k) (by omega) (by omega),af (by omega) (by omega)];exact CK hx hck (by omega) (by omega)
  have hd2: ∀p∈l,domAt (d1.set v.toNat (ee d (bq (ae d vars coefs)) rhs (v,k))) p.1=domAt d p.1:=by
   intro p hp;rw[<-hd p (.tail _ hp)];unfold domAt;rw[E0,E0,Et (ha1.1 p hp)]
  obtain⟨i1,i2⟩:=rU h l (d1.set v.toNat (ee d (bq (ae d vars coefs)) rhs (v,k))) (ch|| !decide (ee d (bq (ae d vars coefs)) rhs (v,k)=domAt d v)) (λp hp=>hm p (.tail _ hp)) ha1.2 hd2;rw[fj,e2,e1];constructor
  ·rintro⟨p,hp,he⟩;by_cases h0:ee d (bq (ae d vars coefs)) rhs (v,k)=[];·rw[E6 h0]
   ·rw[E4 h0];rcases ET.1 hp with rfl|hp;·exact EX he h0
    ·exact i1 ⟨p,hp,he⟩
  ·intro hall;rw[E4 (hall _ (.head _)),i2 λp hp=>hall p (.tail _ hp)];simp only[Ek,bZ,List.any_cons,Bool.or_assoc]
theorem vH {d:aa}{vars coefs:List Int}{rhs:Int}(h:Whole d vars coefs rhs):
  ([]∈MO d vars coefs rhs->(mostW d vars coefs rhs).2.2=false)/\([]∉MO d vars coefs rhs->mostW d vars coefs rhs=(MO d vars coefs rhs,!decide (MO d vars coefs rhs=d),true)):=by
 obtain⟨ha,hl⟩:=i6 h;have hends:(endsW d vars coefs).1=bq (ae d vars coefs):=by
  unfold endsW;have hb:=h.big;have hr:=bA rhs;have hw:=cw (d:=d) h.fine.len;rw[ix 0 0 (dk h.fine) (fC h) (by omega) (by omega) (by omega) (by omega)];simp
 obtain⟨i1,i2⟩:=rU h (vars.zip coefs) d false (λp hp=>hp) (mK h.nod λv hv=>(h.fine.vin v hv).1) (λp hp=>rfl);unfold mostW;rw[hends];constructor
 ·intro hm;rcases setAll_mem ha hl hm with hm|⟨p,hp,he⟩;·exact EX hm h.ne
  ·obtain⟨q,hq,rfl⟩:=EH.1 hp;exact i1 ⟨q,hq,he⟩
 ·intro hm;have hall: ∀p∈vars.zip coefs,ee d (bq (ae d vars coefs)) rhs p≠[]:=λp hp e=>hm (by
   have:=w9 ha hl (EH.2 ⟨p,hp,rfl⟩:_∈i7 d vars coefs rhs);rw[show(p.1,ee d (bq (ae d vars coefs)) rhs p).2=[]from e]at this;exact this)
  rw[i2 hall];refine Prod.ext Y (Prod.ext ?_ Y);simp only[I2];rw[GQ,Fa];simp only[FZ,decide_eq_false_iff_not];have hss:=uM ha hl;constructor
  ·rintro⟨p,hp,hne⟩ e;exact hne ((hss.1 e) _ (EH.2 ⟨p,hp,rfl⟩))
  ·intro hne;refine F9 λhno=>hne (hss.2 λq hq=> ?_);obtain⟨p,hp,rfl⟩:=EH.1 hq;exact F9 λhn=>hno ⟨p,hp,hn⟩
theorem pD {i:Nat}: ∀{ts:List (List (Int×Int)×Int)} (k:Nat) (n:Int),eR ts->(∀t∈ts,t.1≠[])->-4611686018427388928<=n-aV ts->n+aV ts<=4611686018427388928->∀(hi:k<=i) (t:List (Int×Int)×Int),ts[i-k]? =some t->dP i k ts n=n+(bq ts-cO t.1 t.2)
 | [],k,n,_,_,_,_,_,t,ht=>by simp at ht
 |t0::ts,k,n,h,hne,h1,h2,hi,t,ht=>by
  have hf:=h t0 (.head _);have hx:=hne t0 (.head _);have e1:=oS hf.1 hx hf.2;have b:=j6 hf.1 hx t0.2;have hp:=c7 ts;have ha:=bA t0.2;have hs:=lJ (ts:=ts) (λt ht=>h t (.tail _ ht)) (λt ht=>hne t (.tail _ ht));rw[cg]at h1 h2;have el:bq (t0::ts)=cO t0.1 t0.2+bq ts:=(by simp[bq]);rw[dP,el];by_cases hk:k=i
  ·subst hk;rw[E6 Y];simp at ht;subst ht;have hrest: ∀(ts:List (List (Int×Int)×Int)) (j:Nat) (n:Int),k<j->eR ts->(∀t∈ts,t.1≠[])->-4611686018427388928<=n-aV ts->n+aV ts<=4611686018427388928->dP k j ts n=n+bq ts:=by
    intro ts
    induction ts with
    |nil=>intro j n _ _ _ _ _;simp[dP,bq]
    |cons t1 ts ih=>
     intro j n hj h hne h1 h2;have hf:=h t1 (.head _);have hx:=hne t1 (.head _);have e1:=oS hf.1 hx hf.2;have b:=j6 hf.1 hx t1.2;have hp:=c7 ts;rw[cg]at h1 h2;have el:bq (t1::ts)=cO t1.1 t1.2+bq ts:=(by simp[bq]);rw[dP,E4 (by omega),e1];simp only[wr];rw[af (by omega) (by omega),ih (j+1) _ (by omega) (λt ht=>h t (.tail _ ht)) (λt ht=>hne t (.tail _ ht)) (by omega) (by omega),el];omega
   rw[hrest ts (k+1) n (by omega) (λt ht=>h t (.tail _ ht)) (λt ht=>hne t (.tail _ ht)) (by omega) (by omega)];omega
  ·rw[E4 hk,e1];simp only[wr];rw[af (by omega) (by omega),pD (k+1) _ (λt ht=>h t (.tail _ ht)) (λt ht=>hne t (.tail _ ht)) (by omega) (by omega) (by omega) t (by
    rw[show i-k=(i-(k+1))+1 by omega]at ht;simpa using ht)]
   omega
theorem rT {d:aa}{vars coefs:List Int}{rhs:Int}(h:Whole d vars coefs rhs): ∀n,n<=vars.length->dc d vars coefs rhs n=bZ ((i7 d vars coefs rhs).take n) d
 |0,_=>by simp[dc,bZ]
 |n+1,hn=>by
  have h1:n<vars.length:=(by omega);have h2:n<coefs.length:=(by have:=h.fine.len;omega);have hz:n<(vars.zip coefs).length:=(by simp;omega);have hp:(vars.zip coefs)[n]∈vars.zip coefs:=EA hz;have hcl:n<(i7 d vars coefs rhs).length:=(by simp[i7];omega);have ec:(i7 d vars coefs rhs)[n]=(vars[n],ee d (bq (ae d vars coefs)) rhs (vars[n],coefs[n])):=(by simp[i7]);have hv:=h.fine.vin _ (EA h1);have hx:=h.fine.dom _ (ac hv.2);have hne:domAt d vars[n]≠[]:=λe=>h.ne (e▸ac hv.2);have hck:=h.fine.ck _ (EA h2);have hzz:(vars[n],coefs[n])∈vars.zip coefs:=by
   have:=hp;simpa using this
  have hr:=yG h hzz;simp only at hr;have hw:=cw (d:=d) h.fine.len;have hb:=h.big;have har:=bA rhs;have hrest:dP n 0 (ae d vars coefs) 0=bq (ae d vars coefs)-cO (domAt d vars[n]) coefs[n]:=by
   have:=pD (i:=n) 0 0 (dk h.fine) (fC h) (by omega) (by omega) (by omega) (domAt d vars[n],coefs[n]) (by
    rw[Nat.sub_zero];simp[ae,E5 hz])
   simp only at this;omega
  have hat:gP d vars coefs rhs n=ee d (bq (ae d vars coefs)) rhs (vars[n],coefs[n]):=by
   unfold gP ee Av jF;rw[aO h1,aO h2,hrest];congr 1;refine List.filter_congr λv hv=> ?_;have hvb:=hx.val v hv;have hm:=eB coefs[n] v hvb.1 hvb.2;have hc2:=hck.2;have e1:wr (coefs[n]*v)=coefs[n]*v:=af (by omega) (by omega);have e2:wr (rhs-(bq (ae d vars coefs)-cO (domAt d vars[n]) coefs[n]))=rhs-(bq (ae d vars coefs)-cO (domAt d vars[n]) coefs[n]):=af (by omega) (by omega);exact decide_eq_decide.2 (by rw[e1,e2])
  rw[dc,rT h n (by omega),aO h1,hat,ED hcl,ec,nM]
theorem pY {d:aa}{vars coefs:List Int}{rhs:Int}(h:Whole d vars coefs rhs):dc d vars coefs rhs vars.length=MO d vars coefs rhs:=by
 rw[rT h _ (EO _),EY (by simp[i7];omega)];rfl
def Sub (a b:aa):Prop:=a.length=b.length/\∀(i:Nat) x y,a[i]? =some x->b[i]? =some y->∀v∈vals x,v∈vals y
theorem Sub.refl (a:aa):Sub a a:=⟨rfl,λi x y h1 h2 v hv=>by rw[h1]at h2;exact E7 h2▸hv⟩
theorem Sub.trans {a b c:aa}(h:Sub a b)(k:Sub b c):Sub a c:=by
 refine⟨h.1.trans k.1,λi x z hx hz v hv=> ?_⟩;have hi:i<a.length:=(E8.1 hx).1;have hi2:i<b.length:=(by have:=h.1;omega);have hy:b[i]? =some b[i]:=E5 hi2;exact k.2 i _ z hy hz v (h.2 i x _ hx hy v hv)
theorem Sub.antisymm {a b:aa}(h:Sub a b)(k:Sub b a)(ha: ∀x∈a,Fine x)(hb: ∀x∈b,Fine x):a=b:=by
 refine Fo λi=> ?_;by_cases hi:i<a.length
 ·have hi2:i<b.length:=(by have:=h.1;omega);have hx:a[i]? =some a[i]:=E5 hi;have hy:b[i]? =some b[i]:=E5 hi2;have fx:=(ha _ (EA hi)).ok;have fy:=(hb _ (EA hi2)).ok;rw[hx,hy];congr 1;exact fX fx fy (dX (aG fx) (aG fy) λv=>⟨h.2 i _ _ hx hy v,k.2 i _ _ hy hx v⟩)
 ·rw[FD (by omega),FD (by have:=h.1;omega)]
theorem jS: ∀{a b:aa},Sub a b->(∀x∈a,Fine x)->(∀x∈b,Fine x)->weight a<=weight b/\(a≠b->weight a<weight b)
 | [],[],_,_,_=>⟨EO _,λh=>EX rfl h⟩
 | [],_::_,h,_,_=>by have:=h.1;simp at this
 |_::_,[],h,_,_=>by have:=h.1;simp at this
 |x::a,y::b,h,ha,hb=>by
  have h1:=w5 (hb y (.head _)).ok (ha x (.head _)).ok (h.2 0 x y Y Y);have h2:=jS (a:=a) (b:=b) ⟨by have:=h.1;simpa using this,λi z w hz hw=>h.2 (i+1) z w (by simpa using hz) (by simpa using hw)⟩ (λz hz=>ha z (.tail _ hz)) (λz hz=>hb z (.tail _ hz));simp only[weight,Ek,FX]at h2⊢;refine⟨by omega,λhne=> ?_⟩;by_cases e:x=y
  ·have:a≠b:=λe2=>hne (by rw[e,e2]);have:=h2.2 this;omega
  ·have:=h1.2 e;omega
theorem gF {d:aa}{vars coefs:List Int}{rhs:Int}(h:Whole d vars coefs rhs){p:Int×Int}(hp:p∈vars.zip coefs)(low:Int):
  aB (ee d low rhs p)/\∀v,v∈vals (ee d low rhs p)↔v∈vals (domAt d p.1)/\p.2*v<=rhs-(low-cO (domAt d p.1) p.2):=
 y8 (h.fine.dom _ (ac (h.fine.vin _ (Ew hp).1).2)).ok _ _
theorem eT {d:aa}{vars coefs:List Int}{rhs:Int}(h:Whole d vars coefs rhs):(∀x∈MO d vars coefs rhs,Fine x)/\Sub (MO d vars coefs rhs) d:=by
 obtain⟨ha,hl⟩:=i6 h;refine⟨λx hx=> ?_,lc _ _,λi x y hx hy v hv=> ?_⟩
 ·rcases setAll_mem ha hl hx with hm|⟨p,hp,rfl⟩;·exact h.fine.dom x hm
  ·obtain⟨q,hq,rfl⟩:=EH.1 hp;obtain⟨c1,c2⟩:=gF h hq (bq (ae d vars coefs));exact(h.fine.dom _ (ac (h.fine.vin _ (Ew hq).1).2)).cut c1 λv hv=>((c2 v).1 hv).1
 ·by_cases he: ∃p∈i7 d vars coefs rhs,p.1.toNat=i
  ·obtain⟨p,hp,rfl⟩:=he;have e:=d3 ha hl p hp;rw[show MO d vars coefs rhs=bZ (i7 d vars coefs rhs) d from Y,e]at hx;obtain rfl:=E7 hx;rw[aj (hl p hp)]at hy;obtain rfl:=E7 hy;obtain⟨q,hq,rfl⟩:=EH.1 hp;exact(((gF h hq (bq (ae d vars coefs))).2 v).1 hv).1
  ·rw[show MO d vars coefs rhs=bZ (i7 d vars coefs rhs) d from Y,c9 _ _ _ λp hp e=>he ⟨p,hp,e⟩,hy]at hx;exact E7 hx▸hv
theorem Whole.most {d:aa}{vars coefs:List Int}{rhs:Int}(h:Whole d vars coefs rhs)(hne: []∉MO d vars coefs rhs):Whole (MO d vars coefs rhs) vars coefs rhs:=by
 obtain⟨h1,h2⟩:=eT h;exact⟨⟨h.fine.len,h.fine.vl,λv hv=>by rw[h2.1];exact h.fine.vin v hv,h.fine.ck,h1,by rw[h2.1];exact h.fine.dl⟩,h.nod,hne,h.big⟩
theorem oW {rhs:Int}(h:aL rhs<=4611686018427388928):wr (0-rhs)= -rhs/\aL (wr (0-rhs))=aL rhs:=by
 have e:wr (0-rhs)= -rhs:=by
  unfold aL at h;rw[wr,af (by omega) (by omega)];omega
 refine⟨e,?_⟩;rw[e];unfold aL;omega
theorem Whole.back {d:aa}{vars coefs:List Int}{rhs:Int}(h:Whole d vars coefs rhs):Whole d vars (aw coefs) (wr (0-rhs)):=by
 have hb:=h.big;have hp:=bf coefs;refine⟨h.fine.back,h.nod,h.ne,?_⟩;rw[dE _ h.fine.ck,(oW (by omega)).2];exact hb
theorem Whole.unback {d d2:aa}{vars coefs:List Int}{rhs:Int}(h:Whole d vars coefs rhs)(h2:Whole d2 vars (aw coefs) (wr (0-rhs))):Whole d2 vars coefs rhs:=
 ⟨⟨h.fine.len,h.fine.vl,h2.fine.vin,h.fine.ck,h2.fine.dom,h2.fine.dl⟩,h.nod,h2.ne,h.big⟩
def M1 (c:Con)(d:aa):aa:=MO d c.vars c.coefs c.rhs
def M2 (c:Con)(d:aa):aa:=MO d c.vars (aw c.coefs) (wr (0-c.rhs))
def bM (c:Con)(d:aa):Prop:=Whole d c.vars c.coefs c.rhs
theorem dH {c:Con}{d:aa}(h:bM c d):fM c d=
  if []∈M1 c d then .inl none else if c.op=0 then .inl (some (M1 c d))else if []∈M2 c (M1 c d)then .inl none else
  if M1 c d=d/\M2 c (M1 c d)=M1 c d then .inl (some (M2 c (M1 c d)))else .inr (M2 c (M1 c d)):=by
 obtain⟨a1,a2⟩:=vH h;unfold fM;by_cases h1: []∈M1 c d;·rw[E6 h1,E6 (a1 h1)]
 ·have hw:bM c (M1 c d):=Whole.most h h1;obtain⟨b1,b2⟩:=vH hw.back;rw[E4 h1,a2 h1];simp only[HS,if_false];by_cases h2:c.op=0
  ·rw[E6 h2,E6 h2];rfl
  ·rw[E4 h2,E4 h2];by_cases h3: []∈M2 c (M1 c d)
   ·have b1':(mostW (MO d c.vars c.coefs c.rhs) c.vars (aw c.coefs) (wr (0-c.rhs))).2.2=false:=b1 h3;rw[E6 h3,E6 b1']
   ·have e:mostW (MO d c.vars c.coefs c.rhs) c.vars (aw c.coefs) (wr (0-c.rhs))=(M2 c (M1 c d),!decide (M2 c (M1 c d)=M1 c d),true):=b2 h3;rw[E4 h3,e];simp only[HS,if_false,GW,ER];rfl
theorem pg {c:Con}{d:aa}(h: []∉d->bM c d):nL c d=
  if c.op=1/\[]∉d then(if []∈M2 c d then .inl none else if M1 c (M2 c d)=d then .inl (some d)else .inr (M1 c (M2 c d)))else .inl (if []∈d then none else some d):=by
 unfold nL;by_cases h1:c.op=1/\[]∉d
 ·have hw:=h h1.2;have e:mostB d c=M2 c d:=pY hw.back;rw[E6 h1,E6 h1,e];by_cases h2: []∈M2 c d;·rw[E6 h2,E6 h2]
  ·have hw2:bM c (M2 c d):=hw.unback (Whole.most hw.back h2);have e2:mostD (M2 c d) c=M1 c (M2 c d):=pY hw2;rw[E4 h2,E4 h2,e2]
 ·rw[E4 h1,E4 h1]
theorem vT {c:Con}(hop:c.op=1): ∀(N:Nat) (p:aa) (R:Option aa),bM c p->b9 (fM c) N p=some R->∃N',b9 (nL c) N' (M1 c p)=some R
 |0,p,R,_,h=>by cases h
 |n+1,p,R,hw,h=>by
  have hs:=dH hw;obtain⟨f1,s1⟩:=eT hw;by_cases h1: []∈M1 c p
  ·rw[E6 h1]at hs;obtain rfl:=aQ h hs;refine⟨1,?_⟩;have e:=pg (c:=c) (d:=M1 c p) (λhn=>EX h1 hn);rw[E4 (λhh=>hh.2 h1),E6 h1]at e;simp only[b9,e]
  ·rw[E4 h1,E4 (by omega)]at hs;have hw1:bM c (M1 c p):=Whole.most hw h1;have hd:=pg (c:=c) (d:=M1 c p) (λ_=>hw1);rw[E6 ⟨hop,h1⟩]at hd;obtain⟨f2,s2⟩:=eT hw1.back;by_cases h2: []∈M2 c (M1 c p)
   ·rw[E6 h2]at hs hd;obtain rfl:=aQ h hs;exact⟨1,by simp only[b9,hd]⟩
   ·rw[E4 h2]at hs hd;have hw2:bM c (M2 c (M1 c p)):=hw1.unback (Whole.most hw1.back h2);obtain⟨f3,s3⟩:=eT hw2;by_cases h3:M1 c p=p/\M2 c (M1 c p)=M1 c p
    ·rw[E6 h3]at hs;obtain rfl:=aQ h hs;have e:M1 c (M2 c (M1 c p))=M1 c p:=(by rw[h3.2,h3.1,h3.1]);rw[E6 e]at hd;exact⟨1,by simp only[b9,hd,h3.2]⟩
    ·rw[E4 h3]at hs;simp only[b9,hs]at h;by_cases h4:M1 c (M2 c (M1 c p))=M1 c p
     ·rw[E6 h4]at hd;have e1:M2 c (M1 c p)=M1 c p:=s2.antisymm (by have s3':=s3;rw[show MO (M2 c (M1 c p)) c.vars c.coefs c.rhs=M1 c p from h4]at s3';exact s3') f2 f1;have e2:M1 c (M1 c p)=M1 c p:=(by rw[e1]at h4;exact h4);rw[e1]at h;cases n with
      |zero=>cases h
      |succ n=>
       have hs2:=dH hw1;rw[e2,E4 h1,E4 (by omega),e1,E4 h1,E6 ⟨rfl,rfl⟩]at hs2;obtain rfl:=aQ h hs2;exact⟨1,by simp only[b9,hd]⟩
     ·rw[E4 h4]at hd;obtain⟨N',hN⟩:=vT hop n _ R hw2 h;exact⟨N'+1,by simp only[b9,hd];exact hN⟩
theorem Di {c:Con}{p:aa}(hw:bM c p): ∃N R,b9 (fM c) N p=some R:=by
 refine yV (step:=fM c) (λx=>bM c x) weight (λx y hx hy=> ?_) p hw;rw[dH hx]at hy;obtain⟨f1,s1⟩:=eT hx;by_cases h1: []∈M1 c x;·rw[E6 h1]at hy;cases hy
 ·have hw1:bM c (M1 c x):=Whole.most hx h1;obtain⟨f2,s2⟩:=eT hw1.back;rw[E4 h1]at hy;by_cases h2:c.op=0;·rw[E6 h2]at hy;cases hy
  ·rw[E4 h2]at hy;by_cases h3: []∈M2 c (M1 c x);·rw[E6 h3]at hy;cases hy
   ·rw[E4 h3]at hy;by_cases h4:M1 c x=x/\M2 c (M1 c x)=M1 c x;·rw[E6 h4]at hy;cases hy
    ·rw[E4 h4]at hy;obtain rfl:=Sum.inr.inj hy;refine⟨hw1.unback (Whole.most hw1.back h3),?_⟩;have w1:=jS s1 f1 hx.fine.dom;have w2:=jS s2 f2 f1;by_cases e1:M1 c x=x
     ·have e2:M2 c (M1 c x)≠M1 c x:=λe2=>h4 ⟨e1,e2⟩;have:=w2.2 e2;have:=w1.1;exact Gv (w2.2 e2) w1.1
     ·exact Nat.lt_of_le_of_lt w2.1 (w1.2 e1)
theorem Cj (lo hi:Int):(rng lo hi).length=(hi+1-lo).toNat:=by simp[rng]
theorem uJ {d:List (Int×Int)}(h:Fine d):gp d=((vals d).length:Nat):=by
 have hb:=h.domB.1;have hf:=h.few;have hok:=h.ok;have key: ∀(d:List (Int×Int)) (n:Nat),InB d->(∀r∈d,r.1<=r.2)->n+(vals d).length<=1000000000000000->d.foldl (λn r=>wr (n+wr (wr (r.2-r.1)+1))) (n:Int)=((n+(vals d).length:Nat):Int):=by
  intro d
  induction d with
  |nil=>intro n _ _ _;simp[vals]
  |cons r d ih=>
   intro n hb ho hl;have h1:=hb r (.head _);have h2:=ho r (.head _);rw[bD,EZ,Cj]at hl⊢;rw[En];have e:wr ((n:Int)+wr (wr (r.2-r.1)+1))=((n+(r.2+1-r.1).toNat:Nat):Int):=by
    simp only[wr];rw[af (n:=r.2-r.1) (by omega) (by omega),af (n:=r.2-r.1+1) (by omega) (by omega),af (by omega) (by omega)];omega
   rw[e,ih _ (λr hr=>hb r (.tail _ hr)) (λr hr=>ho r (.tail _ hr)) (by omega)];congr 1;omega
 have:=key d 0 hb hok.1 (by omega);simpa[gp]using this
def kJ (x:Int)(r:Int×Int):List (Int×Int):=if x<r.1∨r.2<x then [r]else(if r.1<x then [(r.1,x-1)]else [])++(if x<r.2 then [(x+1,r.2)]else [])
theorem vI {a:List (Int×Int)}{x:Int}(ho: ∀r∈a,r.1<=r.2)(hx: -9223372036854000000<=x/\x<=9223372036854000000):eC a [(x,x)]=a.flatMap (kJ x):=by
 have key: ∀(a:List (Int×Int)) (out:List (Int×Int)),(∀r∈a,r.1<=r.2)->a.foldl (cP [(x,x)]) out=out++a.flatMap (kJ x):=by
  intro a
  induction a with
  |nil=>intro out _;simp
  |cons r a ih=>
   intro out ho;have h1:=ho r (.head _);have e:cP [(x,x)] out r=out++kJ x r:=by
    unfold cP kJ;simp only[bS,wr];rw[af (n:=x+1) (by omega) (by omega),af (n:=x-1) (by omega) (by omega)];by_cases h2:x<r.1∨r.2<x
    ·rw[E6 h2,E6 h2];simp only;rw[E6 h1]
    ·rw[E4 h2,E4 h2];simp only;by_cases h3:r.1<x<;>by_cases h4:x<r.2;·rw[E6 (show x+1<=r.2 by omega),E6 h3,E6 h3,E6 h4,F5]
     ·rw[E4 (show¬x+1<=r.2 by omega),E6 h3,E6 h3,E4 h4,FU]
     ·rw[E6 (show x+1<=r.2 by omega),E4 h3,E4 h3,E6 h4,Ff]
     ·rw[E4 (show¬x+1<=r.2 by omega),E4 h3,E4 h3,E4 h4];simp
   rw[En,e,ih _ λr hr=>ho r (.tail _ hr),H6,F5]
 unfold eC;rw[key a [] ho];rfl
theorem pM {x:Int}{r s:Int×Int}(h:r.1<=r.2)(hs:s∈kJ x r):r.1<=s.1/\s.1<=s.2/\s.2<=r.2:=by
 unfold kJ at hs;split at hs;·simp only[EI]at hs;subst hs;omega
 ·rcases EW.1 hs with hs|hs
  ·split at hs;·simp only[EI]at hs;subst hs;simp only;omega
   ·cases hs
  ·split at hs;·simp only[EI]at hs;subst hs;simp only;omega
   ·cases hs
theorem Be {a:List (Int×Int)}{x:Int}(h:aB a):aB (a.flatMap (kJ x)):=by
 refine⟨λs hs=> ?_,?_⟩
 ·obtain⟨r,hr,hs⟩:=GH.1 hs;exact(pM (h.1 r hr) hs).2.1
 ·induction a with
  |nil=>exact .nil
  |cons r a ih=>
   have hp:=Ei.1 h.2;rw[H6];refine G5.2 ⟨?_,ih h.tail,λs hs t ht=> ?_⟩
   ·unfold kJ;split;·simp
    ·split<;>split<;>simp;omega
   ·obtain⟨q,hq,ht⟩:=GH.1 ht;have h1:=pM (h.1 r (.head _)) hs;have h2:=pM (h.1 q (.tail _ hq)) ht;have:=hp.1 q hq;omega
theorem rI {x v:Int}{r:Int×Int}:(∃s∈kJ x r,s.1<=v/\v<=s.2)↔r.1<=v/\v<=r.2/\v≠x:=by
 unfold kJ;constructor
 ·rintro⟨s,hs,h1,h2⟩;split at hs;·simp only[EI]at hs;subst hs;omega
  ·rcases EW.1 hs with hs|hs
   ·split at hs;·simp only[EI]at hs;subst hs;simp only at h1 h2;omega
    ·cases hs
   ·split at hs;·simp only[EI]at hs;subst hs;simp only at h1 h2;omega
    ·cases hs
 ·rintro⟨h1,h2,h3⟩;by_cases hc:x<r.1∨r.2<x;·rw[E6 hc];exact⟨r,.head _,h1,h2⟩
  ·rw[E4 hc];by_cases hv:v<x;·exact⟨(r.1,x-1),Ex _ (by rw[E6 (by omega)];exact .head _),h1,by simp only;omega⟩
   ·exact⟨(x+1,r.2),Ey _ (by rw[E6 (by omega)];exact .head _),by simp only;omega,h2⟩
theorem Br {a:List (Int×Int)}{x:Int}(h:aB a)(hx: -9223372036854000000<=x/\x<=9223372036854000000):aB (eC a [(x,x)])/\∀v,v∈vals (eC a [(x,x)])↔v∈vals a/\v≠x:=by
 rw[vI h.1 hx];refine⟨Be h,λv=> ?_⟩;rw[be,be];constructor
 ·rintro⟨s,hs,h1⟩;obtain⟨r,hr,hs⟩:=GH.1 hs;have:=rI.1 ⟨s,hs,h1⟩;exact⟨⟨r,hr,this.1,this.2.1⟩,this.2.2⟩
 ·rintro⟨⟨r,hr,h1,h2⟩,h3⟩;obtain⟨s,hs,h4⟩:=rI.2 ⟨h1,h2,h3⟩;exact⟨s,GH.2 ⟨r,hr,hs⟩,h4⟩
theorem yM {x:List (Int×Int)}(h:Fine x)(hne:x≠[])(h1: ¬1<(vals x).length): ∃v,x=[(v,v)]/\vals x=[v]/\-1048576<=v/\v<=1048576:=by
 have hv:(vals x).length=1:=by
  have:vals x≠[]:=λe=>hne ((fq h.ok).1 e);cases hx:vals x with
  |nil=>exact EX hx this
  |cons a l=>rw[hx]at h1;simp at h1⊢;exact h1
 obtain⟨v,rfl⟩:=(j0 h.ok).1 hv;have e:vals [(v,v)]=[v]:=(by simp[vals,cH]);have:=h.val v (by rw[e];exact .head _);exact⟨v,rfl,e,this⟩
theorem fS {B:Int}(hB:B<=4611686018427388928): ∀(ts:List (List (Int×Int)×Int)) (i:Nat) (op:Int) (s:Int) (m a:Nat),eR ts->(∀t∈ts,t.1≠[])->-B<=s-aV ts->s+aV ts<=B->(op<0/\m=0∨0<=op/\m=1/\op=a/\-(B-1048576)<=s-aV ts/\s+aV ts<=B-1048576)->
  (dC i ts op s=none/\1<(au i ts m s a).1)∨∃s',-B<=s'/\s'<=B/\((∃op',op'<0/\dC i ts op s=some (op',s')/\∃a',au i ts m s a=(0,s',a'))∨∃a':Nat,-(B-1048576)<=s'/\s'<=B-1048576/\dC i ts op s=some ((a':Int),s')/\au i ts m s a=(1,s',a'))
 | [],i,op,s,m,a,_,_,h1,h2,hr=>by
  have e:aV []=0:=(by simp[aV,ar]);rw[e]at h1 h2 hr;refine .inr ⟨s,by omega,by omega,?_⟩;rcases hr with ⟨ho,rfl⟩|⟨ho,rfl,rfl,h3,h4⟩;·exact .inl ⟨op,ho,rfl,a,rfl⟩
  ·exact .inr ⟨a,by omega,by omega,rfl,rfl⟩
 |t::ts,i,op,s,m,a,h,hne,h1,h2,hr=>by
  have hf:=h t (.head _);have hx:=hne t (.head _);have hp:=c7 ts;have ha:=bA t.2;rw[cg]at h1 h2 hr;have hk1:1<=aL t.2:=(by have:=hf.2.1;unfold aL;omega);rw[dC,au,uJ hf.1];by_cases hc:1<(vals t.1).length
  ·rw[E6 (show(1:Int)<((vals t.1).length:Nat)by omega),E6 hc];rcases hr with ⟨ho,rfl⟩|⟨ho,rfl,rfl,h3,h4⟩
   ·rw[E4 (by omega)];exact fS hB ts (i+1) i s 1 i (λt ht=>h t (.tail _ ht)) (λt ht=>hne t (.tail _ ht)) (by omega) (by omega) (.inr ⟨by omega,rfl,rfl,by omega,by omega⟩)
   ·rw[E6 (by omega)];refine .inl ⟨rfl,?_⟩;have mono: ∀(ts:List (List (Int×Int)×Int)) (i m:Nat) (s:Int) (a:Nat),m<=(au i ts m s a).1:=by
     intro ts
     induction ts with
     |nil=>intro i m s a;exact EO _
     |cons t ts ih=>
      intro i m s a;rw[au];split;·exact Em (Nat.le_succ m) (ih _ _ _ _)
      ·exact ih _ _ _ _
    exact mono ts (i+1) 2 s i
  ·rw[E4 (show¬(1:Int)<((vals t.1).length:Nat)by omega),E4 hc];obtain⟨v,e1,e2,b1,b2⟩:=yM hf.1 hx hc;have hm:=eB t.2 v b1 b2;have hck:=hf.2.2;have el:(endW t.1 t.2 false).1=t.2*v:=by
    rw[(oR hf.1 hx hf.2).1,e1];simp[cO,av,aP]
   have er:wr (t.2*hd0 (vals t.1))=t.2*v:=by
    rw[e2];simp only[hd0,wr,List.getD_cons_zero];rw[af (by omega) (by omega)]
   have es:wr (s+t.2*v)=s+t.2*v:=(by rw[wr,af (by omega) (by omega)]);rw[el,er,es];exact fS hB ts (i+1) op (s+t.2*v) m a (λt ht=>h t (.tail _ ht)) (λt ht=>hne t (.tail _ ht)) (by omega) (by omega) (hr.imp id λ⟨q1,q2,q3,q4,q5⟩=>⟨q1,q2,q3,by omega,by omega⟩)
theorem AW {d:aa}{v:Int}(h:v.toNat<d.length):d.set v.toNat (domAt d v)=d:=by
 refine Fo λi=> ?_;by_cases e:v.toNat=i;·subst e;rw[F2 h,aj h]
 ·rw[Et e]
theorem dt {d:aa}{i:Nat}{x:List (Int×Int)}(hi:i<d.length)(hne: []∉d): []∈d.set i x↔x=[]:=by
 constructor
 ·intro h;rcases EV h with h|h;·exact EX h hne
  ·exact h.symm
 ·rintro rfl;exact G2.2 ⟨i,F2 hi⟩
theorem yI {α:Type}{l:List α}:0<l.length↔l≠[]:=by cases l<;>simp
theorem zK {x:List (Int×Int)}{k s rhs:Int}(hx:Fine x)(hk:CoefOk k)(h1: -4611686018426340352<=s/\s<=4611686018426340352)(h2: -9223372036853729280<=rhs-s/\rhs-s<=9223372036853729280):
  ((wr (rhs-s)).tmod k=0->eC x [(wr ((wr (rhs-s)).tdiv k),wr ((wr (rhs-s)).tdiv k))]=bX ((vals x).filter λv=>decide (wr (s+wr (k*v))≠rhs)))/\
  (¬(wr (rhs-s)).tmod k=0->bX ((vals x).filter λv=>decide (wr (s+wr (k*v))≠rhs))=x):=by
 have hck:=hk.2;have hmem: ∀w,w∈vals x->(wr (s+wr (k*w))=rhs↔k*w=rhs-s):=by
  intro w hw;have b:=hx.val w hw;have m:=eB k w b.1 b.2;simp only[wr];rw[af (n:=k*w) (by omega) (by omega),af (by omega) (by omega)];omega
 have er:wr (rhs-s)=rhs-s:=(by rw[wr,af (by omega) (by omega)]);rw[er];have et:=Int.mul_tdiv_add_tmod (rhs-s) k;have hq: -9223372036853729280<=(rhs-s).tdiv k/\(rhs-s).tdiv k<=9223372036853729280:=by
  have:=Hw (rhs-s) k;omega
 have hu:=fo (p:=λw=>decide (wr (s+wr (k*w))≠rhs)) (aG hx.ok);constructor
 ·intro hz;rw[hz,Int.add_zero]at et;clear hz;generalize (rhs-s).tdiv k=q at*;have eq:wr q=q:=(by rw[wr,af (by omega) (by omega)]);rw[eq];obtain⟨m1,m2⟩:=Br (x:=q) hx.ok (by omega);refine fX m1 (fR hu) (dX (aG m1) (aG (fR hu)) λv=> ?_);rw[m2,bH hu,FB];refine and_congr_right λhv=> ?_;rw[ER,ne_eq,ne_eq,hmem v hv,<-et];refine not_congr ⟨λe=>by rw[e],λe=>Hx hk.1 e⟩
 ·intro hz;have e:((vals x).filter λw=>decide (wr (s+wr (k*w))≠rhs))=vals x:=by
   refine Hp.2 λw hw=> ?_;rw[EF];intro e;have e2:=(hmem w hw).1 e;rw[<-e2,Int.mul_tmod_right]at hz;exact hz Y
  rw[e,e9 hx.ok]
theorem gq {d:aa}{c:Con}(h:bM c d)(hpos:0<c.vars.length):(if(otherW d c).2 then some (otherW d c).1 else none)=if []∈rotherW d c then none else some (rotherW d c):=by
 have hw:=cw (d:=d) h.fine.len;have hb:=h.big;have har:aL c.rhs=max c.rhs (-c.rhs):=rfl;have hin:=cA (ae d c.vars c.coefs) 0 0 0 0 c.vars.length hpos (by have:=h.fine.len;simp[ae];omega) (EO _);have key:=fS (B:=ar c.coefs) (by omega) (ae d c.vars c.coefs) 0 (-1) 0 0 0 (dk h.fine) (fC h) (by omega) (by omega) (.inl ⟨by omega,rfl⟩);unfold otherW rotherW;simp only;rcases key with ⟨e1,e2⟩|⟨s,hs1,hs2,⟨op,ho,e1,a,e2⟩|⟨a,hs3,hs4,e1,e2⟩⟩
 ·rw[e1,E6 e2,E4 h.ne];rfl
 ·rw[e1,e2];simp only[FK,if_false,if_true,E6 ho];have hv:=h.fine.vin _ (az (c:=c) (k:=0) hpos);by_cases hs:s=c.rhs
  ·rw[E6 hs,E6 ((dt hv.2 h.ne).2 Y),EE (by simpa using hs)];rfl
  ·rw[E4 hs,E4 h.ne,EF hs];rfl
 ·rw[e1];rw[e2]at hin⊢;simp only[I1,if_false,Nat.one_ne_zero,Eo,E4 (show¬(a:Int)<0 by omega)];have hal:a<c.vars.length:=hin.1;have hac:a<c.coefs.length:=(by have:=h.fine.len;omega);have hv:=h.fine.vin _ (az (c:=c) (k:=a) hal);have hk:=h.fine.ck (coefAt c a) (by unfold coefAt;rw[aO hac];exact EA _);have hx:=h.fine.dom _ (ac hv.2);obtain⟨o1,o2⟩:=zK (s:=s) (rhs:=c.rhs) hx hk (by omega) (by omega);by_cases hz:(wr (c.rhs-s)).tmod (coefAt c a)=0
  ·rw[E6 hz];simp only[o1 hz];by_cases he:bX ((vals (domAt d (varAt c a))).filter λv=>decide (wr (s+wr (coefAt c a*v))≠c.rhs))=[]
   ·rw[E6 ((dt hv.2 h.ne).2 he),he];rfl
   ·rw[E4 (λhm=>he ((dt hv.2 h.ne).1 hm)),EF (yI.2 he)];rfl
  ·rw[E4 hz,o2 hz,AW hv.2,E4 h.ne];have:0<(domAt d (varAt c a)).length:=yI.2 λe=>h.ne (e▸ac hv.2);simp only;rw[EF this];rfl
theorem mX {x:List (Int×Int)}(h:Fine x)(p:Int->Bool):Fine (bX ((vals x).filter p)):=by
 have hu:=fo (p:=p) (aG h.ok);refine h.cut (fR hu) λv hv=> ?_;rw[bH hu]at hv;exact(FB.1 hv).1
theorem jC {d:aa}{vars coefs:List Int}(rhs:Int)(hv: ∀v∈vars,0<=v/\v.toNat<d.length)(hf: ∀x∈d,Fine x): ∀n,n<=vars.length->∀x∈dc d vars coefs rhs n,Fine x
 |0,_=>hf
 |n+1,hn=>by
  have h1:n<vars.length:=(by omega);refine fA (jC rhs hv hf n (by omega)) ?_;unfold gP;rw[aO h1];exact mX (hf _ (ac (hv _ (EA h1)).2)) _
theorem jv {d:aa}{c:Con}(h:bM c d)(hpos:0<c.vars.length):(rotherW d c).length=d.length/\∀x∈rotherW d c,Fine x:=by
 have hin:=cA (ae d c.vars c.coefs) 0 0 0 0 c.vars.length hpos (by have:=h.fine.len;simp[ae];omega) (EO _);unfold rotherW;simp only;split;·exact⟨rfl,h.fine.dom⟩
 ·split
  ·split;·exact⟨by simp,fA h.fine.dom ⟨⟨by simp,.nil⟩,by simp[vals],by simp[vals]⟩⟩
   ·exact⟨rfl,h.fine.dom⟩
  ·exact⟨by simp,fA h.fine.dom (mX (h.fine.dom _ (ac (h.fine.vin _ (az hin.1)).2)) _)⟩
theorem SumOk.whole {d:aa}{c:Con}(h:SumOk d c)(hne: []∉d):bM c d:=⟨h.fine,h.nod,hne,h.big⟩
theorem tG {d:aa}{c:Con}(h:SumOk d c): ∃R N N',LinAns d c R N/\gT d c R N'/\∀out,R=some out->out.length=d.length/\[]∉out/\∀x∈out,Fine x:=by
 by_cases hne: []∈d;·exact⟨none,0,0,by rw[LinAns,E6 hne],by rw[gT,E6 hne],λout h=>by cases h⟩
 ·have hw:=h.whole hne;have hm:mostD d c=M1 c d:=pY hw;by_cases h2:c.op=2
  ·have hs:=gq hw h.pos;obtain⟨r1,r2⟩:=jv hw h.pos;refine⟨if []∈rotherW d c then none else some (rotherW d c),0,0,by rw[LinAns,E4 hne,E6 h2,hs],by rw[gT,E4 hne,E6 h2],λout ho=> ?_⟩;split at ho;·cases ho
   ·rename_i hn;obtain rfl:=E7 ho;exact⟨r1,hn,r2⟩
  ·have hfin: ∀N R,b9 (fM c) N d=some R->∀out,R=some out->out.length=d.length/\[]∉out/\∀x∈out,Fine x:=by
    intro N R hR out ho;have hst: ∀x y,(bM c x/\x.length=d.length)->fM c x= .inr y->bM c y/\y.length=d.length:=by
     rintro x y ⟨hx,hl⟩ hy;rw[dH hx]at hy;obtain⟨f1,s1⟩:=eT hx;by_cases h1: []∈M1 c x;·rw[E6 h1]at hy;cases hy
     ·have hw1:bM c (M1 c x):=Whole.most hx h1;obtain⟨f2,s2⟩:=eT hw1.back;rw[E4 h1]at hy;split at hy;·cases hy
      ·split at hy;·cases hy
       ·rename_i h3;split at hy;·cases hy
        ·obtain rfl:=Sum.inr.inj hy;exact⟨hw1.unback (Whole.most hw1.back h3),s2.1.trans (s1.1.trans hl)⟩
    obtain⟨z,⟨hz,hzl⟩,hs⟩:=qk (λx=>bM c x/\x.length=d.length) hst N d R ⟨hw,rfl⟩ hR;rw[dH hz,ho]at hs;obtain⟨f1,s1⟩:=eT hz;by_cases h1: []∈M1 c z;·rw[E6 h1]at hs;cases hs
    ·have hw1:bM c (M1 c z):=Whole.most hz h1;obtain⟨f2,s2⟩:=eT hw1.back;rw[E4 h1]at hs;split at hs
     ·obtain rfl:=E7 (Sum.inl.inj hs);exact⟨s1.1.trans hzl,h1,f1⟩
     ·split at hs;·cases hs
      ·rename_i h3;split at hs
       ·obtain rfl:=E7 (Sum.inl.inj hs);exact⟨s2.1.trans (s1.1.trans hzl),h3,f2⟩
       ·cases hs
   obtain⟨N,R,hR⟩:=Di hw;by_cases h0:c.op=0
   ·have hs:=dH hw;have e:R=if []∈M1 c d then none else some (M1 c d):=by
     by_cases h1: []∈M1 c d
     ·rw[E6 h1]at hs⊢;exact(aQ hR hs).symm
     ·rw[E4 h1,E6 h0]at hs;rw[E4 h1];exact(aQ hR hs).symm
    refine⟨R,N,1,by rw[LinAns,E4 hne,E4 h2];exact hR,?_,hfin N R hR⟩;rw[gT,E4 hne,E4 h2,hm];have hd:=pg (c:=c) (d:=M1 c d) (λhn=>Whole.most hw hn);rw[E4 (λhh=>by have:=hh.1;omega)]at hd;simp only[b9,hd,e]
   ·have h1:c.op=1:=(by have:=h.op;omega);obtain⟨N',hN⟩:=vT h1 N d R hw hR;exact⟨R,N,N',by rw[LinAns,E4 hne,E4 h2];exact hR,by rw[gT,E4 hne,E4 h2,hm];exact hN,hfin N R hR⟩
theorem truth_cases {x:List (Int×Int)}(h:aB x)(ht:truthR x=true):x=[]∨x=[(0,0)]∨x=[(1,1)]∨x=[(0,1)]:=by
 obtain⟨h1,h2⟩:=h;have ht: ∀r∈x,0<=r.1/\r.2<=1:=by
  intro r hr;have:=EN.1 ht r hr;simp at this;omega
 cases x with
 |nil=>exact .inl rfl
 |cons r l=>
  have a1:=h1 r (.head _);have a2:=ht r (.head _);cases l with
  |cons s l=>
   have b1:=h1 s (.tail _ (.head _));have b2:=ht s (.tail _ (.head _));have b3:=(Ei.1 h2).1 s (.head _);omega
  |nil=>
   obtain⟨a,b⟩:=r;simp only at a1 a2;have:(a=0/\b=0)∨(a=1/\b=1)∨(a=0/\b=1):=(by omega);rcases this with ⟨rfl,rfl⟩|⟨rfl,rfl⟩|⟨rfl,rfl⟩;·exact .inr (.inl Y)
   ·exact .inr (.inr (.inl Y))
   ·exact .inr (.inr (.inr Y))
theorem sa {d:aa}{b v:Int}(hb:b.toNat<d.length)(hm: []∉d)(hx:aB (domAt d b)):dL d b v=gL (d.set b.toNat (cutR (domAt d b) v v)):=by
 unfold dL gL;rw[ya hx (λw _=>Iff.rfl)];by_cases he:cutR (domAt d b) v v=[];·rw[E6 he,E6 ((dt hb hm).2 he)]
 ·rw[E4 he,E4 λh=>he ((dt hb hm).1 h)]
theorem zD {d:aa}{c:Con}(hb:0<=c.b/\c.b.toNat<d.length)(hf: ∀x∈d,Fine x)(ht:truthR (domAt d c.b)=true)(RS RN:Option aa):uY d c (yesW d c) (noW d c) RS RN=nP d c RS RN:=by
 unfold uY nP;by_cases hm: []∈d;·rw[E6 hm,E6 hm]
 ·have hmem:=ac hb.2;have hok:=(hf _ hmem).ok;rw[E4 hm,E4 hm,<-sa hb.2 hm hok,<-sa hb.2 hm hok];generalize yesW d c=y;generalize noW d c=z;cases y
  ·cases z
   ·simp only[FC,if_false];rcases truth_cases hok ht with h|h|h|h;·rw[h]at hmem;exact EX hmem hm
    ·rw[h,E4 (by decide),E6 (by decide),E4 (by decide),E6 (by decide)]
    ·rw[h,E6 (by decide),E6 (by decide)]
    ·rw[h,E4 (by decide),E4 (by decide),E4 (by decide),E4 (by decide)]
   ·simp
  ·simp
structure ReifOk (d:aa)(c:Con):Prop where
 sum:SumOk d (aS c)
 sumN:SumOk d (bi (aS c))
 con:ConB (aS c)
 b:0<=c.b/\c.b.toNat<d.length
 truth:truthR (domAt d c.b)=true
 apart:c.b∉c.vars
theorem De {d:aa}{c:Con}(h:SumOk d c)(hw:ar c.coefs+aL c.rhs<=4611686018427387904):SumOk d (bi c):=by
 obtain⟨h1,h2,h3,h4,h5⟩:=h;obtain⟨kind,vars,coefs,op,rhs,rows,b⟩:=c;simp only at h1 h2 h3 h4 h5 hw;have hwp:=bf coefs;have ha: -aL rhs<=rhs/\rhs<=aL rhs:=(by unfold aL;omega);unfold bi;simp only;split
 ·have e1:wr (0-rhs)= -rhs:=(by rw[wr,af (by omega) (by omega)];omega);have e2:wr (wr (0-rhs)-1)= -rhs-1:=(by rw[e1,wr,af (by omega) (by omega)]);refine⟨h1.back,h2,h3,h4,?_⟩;simp only;rw[dE _ h1.ck,e2];unfold aL at*;omega
 ·split;·exact⟨h1,h2,h3,⟨by show(0:Int)<=2;omega,by show(2:Int)<=2;omega⟩,h5⟩
  ·split;·exact⟨h1,h2,h3,⟨by show(0:Int)<=1;omega,by show(1:Int)<=2;omega⟩,h5⟩
   ·exact⟨h1,h2,h3,h4,h5⟩
theorem ti {d:aa}{c:Con}(hc:ConB c)(h:conR d c=0)(hk:c.kind=4)(hf: ∀x∈d,Fine x)(hdl:d.length*24<=140737488355328):ReifOk d c:=by
 obtain⟨hv,hr⟩:=tV hc h;obtain⟨h1,h2⟩:=qM (kw h);have hb:0<=c.b/\c.b.toNat<d.length:=by
  unfold conR at h;split at h;·cases h
  ·split at h;·cases h
   ·rename_i hu;exact(sZ hc (by simpa using hu)).2 hk
 unfold rightR at hr;rw[E4 (by omega),E4 (by omega),E4 (by omega),E4 (by omega),E6 hk]at hr;simp only[sumR,opR,EL,ER,FZ,decide_eq_false_iff_not]at hr;obtain⟨⟨⟨⟨_,⟨⟨h4,h5⟩,h6⟩,h7⟩,h8⟩,h9⟩,h10⟩:=hr;have hs:SumOk d (aS c):=⟨⟨h6,hv.1,hv.2,λk hk=>⟨λe=>h7 (e▸hk),h1 k hk⟩,hf,hdl⟩,h4,h5,h8,by show ar c.coefs<=_/\aL c.rhs<=_;have:=bA c.rhs;have:=bf c.coefs;omega⟩;exact⟨hs,De hs h2,⟨hc.1,hc.2.1,by simp[aS],by simp[aS]⟩,hb,h9,h10⟩
def litB (d:aa)(p:Int×Int):Bool:=hasV (domAt d p.1) (dU p.2)
def q6 (d:aa):Nat->List (Int×Int)->Int->Option Int
 |_,[],op=>some op
 |i,p::l,op=>if litB d p=false then q6 d (i+1) l op else if 0<=op then none else q6 d (i+1) l i
def oV (d:aa)(c:Con)(r:Option Int):Option aa:=
 match r with
 |none=>some d
 |some op=>if op<0 then none else dL d (varAt c op.toNat) (dU (coefAt c op.toNat))
def kx (d:aa)(c:Con):Option aa:=if []∈d then none else oV d c (q6 d 0 (c.vars.zip c.coefs) (-1))
structure ClIn (d:aa)(c:Con):Prop where
 len:c.vars.length=c.coefs.length
 vl:c.vars.length*8<=140737488355328
 vin: ∀v∈c.vars,0<=v/\v.toNat<d.length
 dl:d.length*24<=140737488355328
 dom: ∀x∈d,(x.length+1)*16<=140737488355328
theorem tI (d:aa)(c:Con)(h:ClIn d c):Spec Tryz.prog 137 false [ao d,.agg (cC c)] (aJ (kx d c)):=by
 refine Spec.body Tryz.func137 Y Y Y λw0 Z0=> ?_;obtain⟨hlen,hvl,hvin,hdl,hdom⟩:=h;have hown:=sB d hdl (λx hm=>by have:=hdom x hm;omega);unfold kx;refine .B ?_;refine .D hown ?_;by_cases hm: []∈d
 ·rw[E6 hm,E6 hm,EF hm];refine T.ct Y ?_;refine .B ?_;exact⟨_,.ownN Y (.v Y Y Y (λ_=>rfl) .nil)⟩
 ·rw[E4 hm,E4 hm,EE hm];refine T.cf Y ?_;generalize hres:q6 d 0 (c.vars.zip c.coefs) (-1)=res;refine .B ?_;refine T.K (T.ind (λs:Nat×Int=>⟨[(3,.optr 0 0 0 0),(6,.ref 1),(8,.val true (.int .i64 s.2)),(19,.val false (aq c.vars)),(20,.val true (.int .i64 (c.vars.map cI).length)),(21,.val true (.int .i64 s.1))],[(0,some (.box false (cC c))),(1,some (.sl 54 1 true (d.map cD)))],2⟩)
   (λs=>s.1<=c.vars.length/\q6 d s.1 ((c.vars.zip c.coefs).drop s.1) s.2=res/\s.2<s.1) (λs=>c.vars.length-s.1) (0,-1) ⟨by simp,hres,by decide⟩ (λ_ _ h=>h) ?_)
  rintro⟨i,op⟩ ⟨hil,he,hop⟩ ih;simp only at hil he hop;dsimp only;refine .B ?_;refine T.cd Y (λh1=> ?_) (λh1=> ?_)
  ·have h1:i<c.vars.length:=(by simpa using h1);have h2:i<c.coefs.length:=(by omega);have hv:=hvin _ (EA h1);have hx:=hdom _ (ac hv.2);have hrow:(d.map cD)[c.vars[i].toNat]? =some (cD (domAt d c.vars[i])):=(by simp[aj hv.2]);have hz:i<(c.vars.zip c.coefs).length:=(by simp;omega);rw[EP hz,Gb,q6]at he;have hhas:=kv (domAt d c.vars[i]) (dU c.coefs[i]) (by omega);have hlb:litB d (c.vars[i],c.coefs[i])=hasV (domAt d c.vars[i]) (dU c.coefs[i]):=rfl;rw[<-hlb]at hhas;generalize litB d (c.vars[i],c.coefs[i])=b at*;refine .B ?_;refine .F (r:=cI c.vars[i]) (ax h1) ?_;refine J.io Y Y Y Y Y Y Y Y Y hv.1 (by simpa using hv.2) Y ?_;refine J.lo Y Y Y Y Y Y (r:=cD (domAt d c.vars[i])) hrow Y ?_;refine .B ?_;refine .F (r:=cI c.coefs[i]) (ax h2) ?_;refine .C (vS c.coefs[i]) ?_;refine .D hhas ?_;cases b
   ·rw[E6 Y]at he;refine T.ct Y ?_;refine .B ?_;rw[ai (l:=c.vars.length) (by omega) (by omega)];exact T.K (ih (i+1,op) ⟨by simp only;omega,he,by simp only;omega⟩ (by simp only;omega))
   ·rw[E4 (by decide)]at he;refine T.cf Y ?_;refine .B ?_;refine T.cd Y (λh3=> ?_) (λh3=> ?_)
    ·have h3:0<=op:=h3;rw[E6 h3]at he;subst he;refine .B ?_;exact⟨_,.o Y Y Y (λ_=> .inl Y) (by simp) (.v rfl rfl rfl (λ_=>rfl) .nil)⟩
    ·have h3: ¬0<=op:=h3;rw[E4 h3]at he;refine .B ?_;rw[ai (l:=c.vars.length) (by omega) (by omega)];exact T.K (ih (i+1,i) ⟨by simp only;omega,he,by simp only;omega⟩ (by simp only;omega))
  ·have h1:i=c.vars.length:=(by simp at h1;omega);subst h1;rw[Fb (by simp;omega),q6]at he;subst he;clear ih;unfold oV;dsimp only;refine .M ?_;refine T.rdm 15 Y (by kernel_rfl) Y ?_
   repeat' first|refine J.e Y Y Y Y ?_|refine J.skip Y Y Y ?_|refine J.bx Y Y Y Y Y Y ?_
   refine J.g Y Y Y (λh3=> ?_) (λh3=> ?_)
   ·have h3:op<0:=h3;rw[E6 h3];refine .B ?_;refine T.ct Y ?_;refine .B ?_;exact⟨_,.ownN Y (.v Y Y Y (λ_=>rfl) .nil)⟩
   ·have h3: ¬op<0:=h3;rw[E4 h3];have hj:op.toNat<c.vars.length:=(by omega);have hj2:op.toNat<c.coefs.length:=(by omega);have hv:=hvin _ (az hj);have hx:=hdom _ (ac hv.2);have hk:=nj d (varAt c op.toNat) (dU (coefAt c op.toNat)) hv hx;unfold dL
    repeat' first|refine J.e Y Y Y Y ?_|refine J.skip Y Y Y ?_|refine J.bx Y Y Y Y Y Y ?_
    refine J.i Y Y Y Y Y Y Y Y Y (r:=cI (varAt c op.toNat)) (by omega) (cF hj) Y ?_
    repeat' first|refine J.e Y Y Y Y ?_|refine J.skip Y Y Y ?_|refine J.bx Y Y Y Y Y Y ?_
    refine J.i Y Y Y Y Y Y Y Y Y (r:=cI (coefAt c op.toNat)) (by omega) (gG hj2) Y ?_
    repeat' first|refine J.e Y Y Y Y ?_|refine J.skip Y Y Y ?_|refine J.bx Y Y Y Y Y Y ?_
    refine .C (vS (coefAt c op.toNat)) ?_;refine J.nil ?_;refine J.cm Y Y Y Y Y Y Y Y Y hk Y Y Y ?_;refine .B ?_;by_cases hk:domCut (domAt d (varAt c op.toNat)) (dU (coefAt c op.toNat)) (dU (coefAt c op.toNat))=[]
    ·rw[E6 hk,EF hk];refine T.ct Y ?_;refine .B ?_;exact⟨_,.ownN Y (.v Y Y Y (λ_=>rfl) .nil)⟩
    ·rw[E4 hk,EE hk];refine T.cf Y ?_;refine .B ?_;exact⟨_,.o Y Y Y (λ_=> .inl Y) (by simp) (.v rfl rfl rfl (λ_=>rfl) .nil)⟩
def Supp (a:List Int)(d:aa):Prop:=a.length=d.length/\∀(i:Nat) x v,d[i]? =some x->a[i]? =some v->v∈vals x
theorem Supp.at {a:List Int}{d:aa}(h:Supp a d){v:Int}(h0:0<=v)(hl:v.toNat<d.length):atR a v∈vals (domAt d v):=by
 have ha:v.toNat<a.length:=(by have:=h.1;omega);refine h.2 v.toNat _ _ (aj hl) ?_;unfold atR;rw[E4 (by omega),E0,E5 ha];rfl
theorem Supp.ne {a:List Int}{d:aa}(h:Supp a d): []∉d:=by
 intro hm;obtain⟨i,hi⟩:=G2.1 hm;have hl:=(E8.1 hi).1;have:=h.2 i [] _ hi (E5 (by have:=h.1;omega));simp[vals]at this
def cU (vars coefs a:List Int):Int:=((vars.zip coefs).map λp=>p.2*atR a p.1).sum
theorem tD {x:List (Int×Int)}(h:aB x){v k:Int}(hv:v∈vals x):cO x k<=k*v/\k*v<=gD x k:=by
 have h1:=mj h hv;have h2:=oM h hv;unfold cO gD;by_cases hk:0<k
 ·rw[E6 hk,E6 hk];exact⟨FN h1 (by omega),FN h2 (by omega)⟩
 ·rw[E4 hk,E4 hk];exact⟨GZ (by omega) h2,GZ (by omega) h1⟩
theorem e7 {α:Type}{f g:α->Int}: ∀{l:List α},(∀p∈l,f p<=g p)->(l.map f).sum<=(l.map g).sum/\∀p∈l,g p-f p<=(l.map g).sum-(l.map f).sum
 | [],_=>by simp
 |p::l,h=>by
  obtain⟨h1,h2⟩:=e7 (l:=l) λq hq=>h q (.tail _ hq);have h0:=h p (.head _);simp only[Ek,FX];refine⟨by omega,λq hq=> ?_⟩;rcases ET.1 hq with rfl|hq;·omega
  ·have:=h2 q hq;omega
theorem fD (d:aa)(vars coefs:List Int):bq (ae d vars coefs)=((vars.zip coefs).map λp=>cO (domAt d p.1) p.2).sum:=by
 unfold bq ae;rw[Fi];rfl
theorem sA (d:aa)(vars coefs:List Int):eY (ae d vars coefs)=((vars.zip coefs).map λp=>gD (domAt d p.1) p.2).sum:=by
 unfold eY ae;rw[Fi];rfl
theorem vg {d:aa}{vars coefs a:List Int}(h:SumFine d vars coefs)(hs:Supp a d):
  bq (ae d vars coefs)<=cU vars coefs a/\cU vars coefs a<=eY (ae d vars coefs)/\∀p∈vars.zip coefs,p.2*atR a p.1-cO (domAt d p.1) p.2<=cU vars coefs a-bq (ae d vars coefs):=by
 have hmem: ∀p∈vars.zip coefs,cO (domAt d p.1) p.2<=p.2*atR a p.1/\p.2*atR a p.1<=gD (domAt d p.1) p.2:=λp hp=>by
  have hv:=h.vin _ (Ew hp).1;exact tD (h.dom _ (ac hv.2)).ok (hs.at hv.1 hv.2)
 rw[fD,sA];obtain⟨h1,h2⟩:=e7 (f:=λp:Int×Int=>cO (domAt d p.1) p.2) (g:=λp=>p.2*atR a p.1) λp hp=>(hmem p hp).1;obtain⟨h3,_⟩:=e7 (f:=λp:Int×Int=>p.2*atR a p.1) (g:=λp=>gD (domAt d p.1) p.2) λp hp=>(hmem p hp).2;exact⟨h1,h3,h2⟩
theorem lW {vars coefs a:List Int}(h: ∀k∈coefs,CoefOk k):cU vars (aw coefs) a= -cU vars coefs a:=by
 unfold cU aw
 induction vars generalizing coefs with
 |nil=>simp
 |cons v vars ih=>
  cases coefs with
  |nil=>simp
  |cons k coefs=>
   have e:=(cZ (h k (.head _))).1;have:=ih λk hk=>h k (.tail _ hk);simp only[Ek,G6,FX]at this⊢;rw[this,e,Hf];omega
theorem zd {d:aa}{vars coefs a:List Int}{rhs:Int}(h:Whole d vars coefs rhs)(hs:Supp a d)(hle:cU vars coefs a<=rhs):Supp a (MO d vars coefs rhs):=by
 obtain⟨ha,hl⟩:=i6 h;obtain⟨_,_,hp3⟩:=vg h.fine hs;refine⟨by rw[MO,lc];exact hs.1,λi x v hx hv=> ?_⟩;by_cases he: ∃p∈i7 d vars coefs rhs,p.1.toNat=i
 ·obtain⟨p,hp,rfl⟩:=he;rw[show MO d vars coefs rhs=bZ (i7 d vars coefs rhs) d from Y,d3 ha hl p hp]at hx;obtain rfl:=E7 hx;obtain⟨q,hq,rfl⟩:=EH.1 hp;have hvq:=h.fine.vin _ (Ew hq).1;have hat:=hs.at hvq.1 hvq.2;have e:atR a q.1=v:=by
   unfold atR;rw[E4 (by omega),E0,hv];rfl
  refine((gF h hq _).2 v).2 ⟨e▸hat,?_⟩;have:=hp3 q hq;rw[e]at this;omega
 ·rw[show MO d vars coefs rhs=bZ (i7 d vars coefs rhs) d from Y,c9 _ _ _ λp hp e=>he ⟨p,hp,e⟩]at hx;exact hs.2 i x v hx hv
def iW (c:Con)(a:List Int):Bool:=dM c.op (cU c.vars c.coefs a) c.rhs
theorem sd {c:Con}{a:List Int}(hop:c.op=0∨c.op=1)(hh:iW c a=true): ∀(N:Nat) (p:aa) (R:Option aa),bM c p->Supp a p->b9 (fM c) N p=some R->∃out,R=some out/\Supp a out
 |0,p,R,_,_,h=>by cases h
 |n+1,p,R,hw,hs,h=>by
  have hle:cU c.vars c.coefs a<=c.rhs:=by
   unfold iW dM at hh;rcases hop with h0|h1;·rw[E6 h0]at hh;exact FV hh
   ·rw[E4 (by omega),h1]at hh;simp at hh;omega
  have hst:=dH hw;have s1:Supp a (M1 c p):=zd hw hs hle;rw[E4 s1.ne]at hst;by_cases h0:c.op=0
  ·rw[E6 h0]at hst;obtain rfl:=aQ h hst;exact⟨_,rfl,s1⟩
  ·rw[E4 h0]at hst;have h1:c.op=1:=(by omega);have hw1:bM c (M1 c p):=Whole.most hw s1.ne;have heq:cU c.vars c.coefs a=c.rhs:=by
    unfold iW dM at hh;rw[E4 h0,h1]at hh;simpa using hh
   have hb:=hw.big;have hp:=bf c.coefs;have s2:Supp a (M2 c (M1 c p)):=zd hw1.back s1 (by rw[lW hw.fine.ck,(oW (by omega)).1];omega);rw[E4 s2.ne]at hst;by_cases h3:M1 c p=p/\M2 c (M1 c p)=M1 c p
   ·rw[E6 h3]at hst;obtain rfl:=aQ h hst;exact⟨_,rfl,s2⟩
   ·rw[E4 h3]at hst;simp only[b9,hst]at h;exact sd (.inr h1) hh n _ R (hw1.unback (Whole.most hw1.back s2.ne)) s2 h
def yu (ts:List ((List (Int×Int)×Int)×Int)):Prop:= ∀t∈ts,t.2∈vals t.1.1
theorem fP {B:Int}(hB:B<=4611686018427388928): ∀(ts:List ((List (Int×Int)×Int)×Int)) (i m:Nat) (s:Int) (a:Nat),eR (ts.map (·.1))->yu ts->-B<=s-aV (ts.map (·.1))->s+aV (ts.map (·.1))<=B->
  ((au i (ts.map (·.1)) m s a).1=m->(au i (ts.map (·.1)) m s a).2.1=s+(ts.map λt=>t.1.2*t.2).sum/\(au i (ts.map (·.1)) m s a).2.2=a)/\
  m<=(au i (ts.map (·.1)) m s a).1/\
  ((au i (ts.map (·.1)) m s a).1=m+1->∃j t,(au i (ts.map (·.1)) m s a).2.2=i+j/\ts[j]? =some t/\(au i (ts.map (·.1)) m s a).2.1+t.1.2*t.2=s+(ts.map λt=>t.1.2*t.2).sum)
 | [],i,m,s,a,_,_,_,_=>by simp[au]
 |t::ts,i,m,s,a,h,hv,h1,h2=>by
  have hf:=h t.1 (.head _);have hvt:=hv t (.head _);have hp:=c7 (ts.map (·.1));have ha:=bA t.1.2;have hx:t.1.1≠[]:=λe=>(by rw[e]at hvt;simp[vals]at hvt);simp only[Ek]at h1 h2⊢;rw[cg]at h1 h2;rw[au];simp only[FX];by_cases hc:1<(vals t.1.1).length
  ·rw[E6 hc];obtain⟨i1,i2,i3⟩:=fP hB ts (i+1) (m+1) s i (λt ht=>h t (.tail _ ht)) (λt ht=>hv t (.tail _ ht)) (by omega) (by omega);refine⟨λe=>by omega,by omega,λe=> ?_⟩;obtain⟨j1,j2⟩:=i1 e;exact⟨0,t,by rw[j2];rfl,rfl,by rw[j1];omega⟩
  ·rw[E4 hc];obtain⟨v,e1,e2,b1,b2⟩:=yM hf.1 hx hc;have hm:=eB t.1.2 v b1 b2;have hck:=hf.2.2;have ev:t.2=v:=(by rw[e2]at hvt;simpa using hvt);have er:wr (t.1.2*hd0 (vals t.1.1))=t.1.2*v:=by
    rw[e2];simp only[hd0,wr,List.getD_cons_zero];rw[af (by omega) (by omega)]
   have es:wr (s+t.1.2*v)=s+t.1.2*v:=(by rw[wr,af (by omega) (by omega)]);rw[er,es,ev];obtain⟨i1,i2,i3⟩:=fP hB ts (i+1) m (s+t.1.2*v) a (λt ht=>h t (.tail _ ht)) (λt ht=>hv t (.tail _ ht)) (by omega) (by omega);refine⟨λe=> ?_,i2,λe=> ?_⟩
   ·obtain⟨j1,j2⟩:=i1 e;exact⟨by rw[j1];omega,j2⟩
   ·obtain⟨j,u,j1,j2,j3⟩:=i3 e;exact⟨j+1,u,by rw[j1];omega,by simpa using j2,by rw[j3];omega⟩
theorem nO {d:aa}{c:Con}{a:List Int}(h:bM c d)(hpos:0<c.vars.length)(hs:Supp a d)(hne:cU c.vars c.coefs a≠c.rhs):Supp a (rotherW d c):=by
 have hw:=cw (d:=d) h.fine.len;have hb:=h.big;have har:aL c.rhs=max c.rhs (-c.rhs):=rfl;let ts:List ((List (Int×Int)×Int)×Int):=(c.vars.zip c.coefs).map λp=>((domAt d p.1,p.2),atR a p.1);have et:ts.map (·.1)=ae d c.vars c.coefs:=(by simp only[ts,Fi];rfl);have eS:(ts.map λt=>t.1.2*t.2).sum=cU c.vars c.coefs a:=(by simp only[ts,Fi];rfl);have hv:yu ts:=by
  intro t ht;obtain⟨p,hp,rfl⟩:=EH.1 ht;have:=h.fine.vin _ (Ew hp).1;exact hs.at this.1 this.2
 have key:=fP (B:=ar c.coefs) (by omega) ts 0 0 0 0 (by rw[et];exact dk h.fine) hv (by rw[et];omega) (by rw[et];omega);rw[et,eS]at key;have hin:=cA (ae d c.vars c.coefs) 0 0 0 0 c.vars.length hpos (by have:=h.fine.len;simp[ae];omega) (EO _);have hsame:=fS (B:=ar c.coefs) (by omega) (ae d c.vars c.coefs) 0 (-1) 0 0 0 (dk h.fine) (fC h) (by omega) (by omega) (.inl ⟨by omega,rfl⟩);obtain⟨k1,_,k3⟩:=key;unfold rotherW;simp only;by_cases hm1:1<(au 0 (ae d c.vars c.coefs) 0 0 0).1;·rw[E6 hm1];exact hs
 ·rw[E4 hm1];by_cases hm0:(au 0 (ae d c.vars c.coefs) 0 0 0).1=0
  ·rw[E6 hm0];have:=(k1 hm0).1;rw[E4 (λe=>hne (by rw[this,HK]at e;exact e))];exact hs
  ·rw[E4 hm0];obtain⟨j,t,j1,j2,j3⟩:=k3 (by omega);rw[Fy]at j1;have hj:j<c.vars.length:=(by rw[<-j1];exact hin.1);have hjc:j<c.coefs.length:=(by have:=h.fine.len;omega);have ht:t=((domAt d (varAt c j),coefAt c j),atR a (varAt c j)):=by
    have hz:j<(c.vars.zip c.coefs).length:=(by simp;omega);simp only[ts,EJ,E5 hz,FJ,E9]at j2;rw[<-j2,show varAt c j=c.vars[j]from aO hj,show coefAt c j=c.coefs[j]from aO hjc];simp
   rw[j1];have hv:=h.fine.vin _ (az hj);have hx:=h.fine.dom _ (ac hv.2);have hk:=h.fine.ck (coefAt c j) (by unfold coefAt;rw[aO hjc];exact EA _);have hat:=hs.at hv.1 hv.2;rw[ht]at j3;simp only at j3;have hs': -(ar c.coefs-1048576)<=(au 0 (ae d c.vars c.coefs) 0 0 0).2.1/\(au 0 (ae d c.vars c.coefs) 0 0 0).2.1<=ar c.coefs-1048576:=by
    rcases hsame with ⟨_,e⟩|⟨s',_,_,⟨_,_,_,a',e⟩|⟨a',b1,b2,_,e⟩⟩;·omega
    ·rw[e]at hm0;exact EX Y hm0
    ·rw[e];exact⟨b1,b2⟩
   generalize (au 0 (ae d c.vars c.coefs) 0 0 0).2.1=s at*;have b:=hx.val _ hat;have m:=eB (coefAt c j) _ b.1 b.2;have hck:=hk.2;have hu:=fo (p:=λv=>decide (wr (s+wr (coefAt c j*v))≠c.rhs)) (aG hx.ok);refine⟨by rw[FA];exact hs.1,λi x v hxi hvi=> ?_⟩;by_cases e:(varAt c j).toNat=i
   ·subst e;rw[F2 hv.2]at hxi;obtain rfl:=E7 hxi;have ev:atR a (varAt c j)=v:=by
     unfold atR;rw[E4 (by omega),E0,hvi];rfl
    rw[ev]at hat j3 m;rw[bH hu,FB];refine⟨hat,?_⟩;rw[ER];rw[HK]at j3;clear k1 k3 hsame hin hm1 hm0 j1 j2 ht;simp only[wr];rw[af (n:=coefAt c j*v) (by omega) (by omega),af (by omega) (by omega),j3];exact hne
   ·rw[Et e]at hxi;exact hs.2 i x v hxi hvi
theorem zY {d:aa}{c:Con}{a:List Int}(h:SumOk d c)(hs:Supp a d)(hh:iW c a=true){R:Option aa}{N:Nat}(hR:LinAns d c R N): ∃out,R=some out/\Supp a out:=by
 have hw:=h.whole hs.ne;unfold LinAns at hR;rw[E4 hs.ne]at hR;by_cases h2:c.op=2
 ·rw[E6 h2,gq hw h.pos]at hR;have hne:cU c.vars c.coefs a≠c.rhs:=by
   unfold iW dM at hh;rw[E4 (by omega),h2]at hh;simpa using hh
  have:=nO hw h.pos hs hne;rw[E4 this.ne]at hR;exact⟨_,hR,this⟩
 ·rw[E4 h2]at hR;exact sd (by have:=h.op;omega) hh N d R hw hs hR
theorem pk {d:aa}{c:Con}{a:List Int}(h:SumFine d c.vars c.coefs)(hw:ar c.coefs<=4611686018427388928)(hop:0<=c.op/\c.op<=2)(hs:Supp a d)(hso:soW (endsW d c.vars c.coefs) c=true):iW c a=true:=by
 have hne: ∀t∈ae d c.vars c.coefs,t.1≠[]:=by
  intro t ht e;obtain⟨p,hp,rfl⟩:=EH.1 ht;have:=ac (h.vin _ (Ew hp).1).2;simp only at e;rw[e]at this;exact hs.ne this
 have ht:=cw (d:=d) h.len;have hk:=bf c.coefs;obtain⟨p1,p2,_⟩:=vg h hs;unfold endsW at hso;rw[ix 0 0 (dk h) hne (by omega) (by omega) (by omega) (by omega)]at hso;unfold soW at hso;simp only[HS,if_false,HK]at hso;unfold iW dM;by_cases h0:c.op=0
 ·rw[E6 h0]at hso⊢;exact EF (by have:=FV hso;omega)
 ·rw[E4 h0]at hso⊢;by_cases h1:c.op=1
  ·rw[E6 h1]at hso;simp only[EL,ER]at hso;rw[EF h1,EF (by omega)];rfl
  ·rw[E4 h1]at hso;simp only[Fs,ER]at hso;rw[EE h1,EE (by omega)];rfl
theorem zP {d:aa}{c:Con}{a:List Int}(h:SumOk d c)(hs:Supp a d)(hso:soW (endsW d (bi c).vars (bi c).coefs) (bi c)=true):iW c a=false:=by
 have hb:=h.big;have hr:aL c.rhs=max c.rhs (-c.rhs):=rfl;have hk:=bf c.coefs;have hn:SumFine d (bi c).vars (bi c).coefs/\ar (bi c).coefs<=4611686018427388928/\0<=(bi c).op/\(bi c).op<=2:=by
  have e:ar c.coefs<=4611686018427388928:=(by omega);have ho:=h.op;unfold bi;split;·exact⟨h.fine.back,by simp only;rw[dE _ h.fine.ck];exact e,ho⟩
  ·split;·exact⟨h.fine,e,by simp,by simp⟩
   ·split;·exact⟨h.fine,e,by simp,by simp⟩
    ·exact⟨h.fine,e,ho⟩
 have hh:=pk hn.1 hn.2.1 hn.2.2 hs hso;unfold iW dM at hh⊢;unfold bi at hh;have ho:=h.op;by_cases h0:c.op=0
 ·rw[E6 h0]at hh;simp only[E6 h0]at hh;rw[E6 h0];rw[lW h.fine.ck]at hh;have e:wr (wr (0-c.rhs)-1)= -c.rhs-1:=by
   rw[(oW (by omega)).1,wr,af (by omega) (by omega)]
  rw[e]at hh;exact EE (by have:=FV hh;omega)
 ·rw[E4 h0]at hh⊢;by_cases h1:c.op=1
  ·rw[E6 h1]at hh;rw[E4 (by simp)]at hh;simp at hh;rw[EF h1,EE hh];rfl
  ·have h2:c.op=2:=(by omega);rw[E4 h1,E6 h2]at hh;rw[E4 (by simp)]at hh;simp at hh;rw[EE h1,EF hh];rfl
end Go.Proofs.YtopcjbahjjhdmaaGreat
