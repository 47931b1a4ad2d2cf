/- The texts PuH, PuK, PuS, LiI, PuU, PuV, PuW, PuX, PuY, PuZ, PvA, FuJ, PvB, PvH, ShD, PvE, PvF, FvK, PvG, FvL of the workplace, joined. -/
import Derived.Test.YtopcjbahjjhdmaaGreatB7
import Derived.Ground.SlsfProg
import Derived.Shelf.SlSortCmp.WholeK
import Derived.Test.YtopcjbahjjhdmaaGreatProg
import Derived.Shelf.SlSortCmp.NoneTotal
namespace Go.Proofs.YtopcjbahjjhdmaaGreat
open Go Go.RowKit
set_option linter.unusedVariables false
set_option linter.unusedSimpArgs false
def clF (d:aa)(l:List (Int×Int)):Option aa:=
 match l with
 | []=>none
 | [p]=>dL d p.1 (dU p.2)
 |_::_::_=>some d
theorem tY (d:aa)(c:Con)(hl:c.vars.length=c.coefs.length): ∀(l:List (Int×Int)) (i:Nat) (op:Int),l=(c.vars.zip c.coefs).drop i->(0<=op->op.toNat<c.vars.length)->
  oV d c (q6 d i l op)=if op<0 then clF d (l.filter (litB d))else(match l.filter (litB d)with| []=>dL d (varAt c op.toNat) (dU (coefAt c op.toNat))|_::_=>some d)
 | [],i,op,h,ho=>by
  rw[q6,oV];by_cases h1:op<0;·rw[E6 h1,E6 h1];rfl
  ·rw[E4 h1,E4 h1];rfl
 |p::l,i,op,h,ho=>by
  have hi:i<(c.vars.zip c.coefs).length:=by
   have:=congrArg List.length h;simp at this;simp;omega
  have hd:=EP hi;rw[<-h]at hd;injection hd with hp hl';have hiv:i<c.vars.length:=(by simp at hi;omega);have hic:i<c.coefs.length:=(by omega);have hpe:p=(varAt c i,coefAt c i):=by
   rw[hp,Gb];simp[varAt,coefAt,hiv,hic]
  rw[q6];by_cases hb:litB d p=true
  ·rw[E4 (by simp[hb]),Fu hb];by_cases h1:op<0
   ·rw[E4 (by omega),E6 h1,tY d c hl l (i+1) i hl' (λ_=>by simpa using hiv),E4 (by omega)];cases hf:l.filter (litB d)with
    |nil=>simp[clF,hpe]
    |cons q m=>simp[clF]
   ·rw[E6 (by omega),E4 h1];rfl
  ·have hb:litB d p=false:=(by simpa using hb);rw[E6 hb,G4 (by simp[hb]),tY d c hl l (i+1) op hl' ho]
theorem yf {d:aa}{c:Con}(hl:c.vars.length=c.coefs.length):kx d c=if []∈d then none else clF d ((c.vars.zip c.coefs).filter (litB d)):=by
 unfold kx;rw[tY d c hl (c.vars.zip c.coefs) 0 (-1) Y (by omega),E6 (by decide:(-1:Int)<0)]
structure ClOk (d:aa)(c:Con):Prop where
 len:c.vars.length=c.coefs.length
 nod:c.vars.Nodup
 pos:0<c.vars.length
 vl:c.vars.length*8<=140737488355328
 vin: ∀v∈c.vars,0<=v/\v.toNat<d.length
 unit: ∀k∈c.coefs,k=1∨k= -1
 truth: ∀v∈c.vars,truthR (domAt d v)=true
theorem DQ:dU 1=1:=by decide +kernel
theorem DP:dU (-1)=0:=by decide +kernel
theorem sP {d:aa}{c:Con}(hc:ConB c)(h:conR d c=0)(hk:c.kind=5):ClOk d c:=by
 obtain⟨hv,hr⟩:=tV hc h;unfold rightR at hr;rw[E4 (by omega),E4 (by omega),E4 (by omega),E4 (by omega),E4 (by omega),E6 hk]at hr;simp only[sumR,EL,ER,FZ,decide_eq_false_iff_not]at hr;obtain⟨⟨_,⟨⟨h4,h5⟩,h6⟩,h7⟩,h8⟩:=hr;have hu: ∀i,i<c.vars.length->truthR (domAt d (varAt c i))=true/\(coefAt c i=1∨coefAt c i= -1):=by
  intro i hi;have:=EN.1 h8 i (ES.2 hi);simpa[gX]using this
 refine⟨h6,h4,h5,hv.1,hv.2,λk hk=> ?_,λv hv=> ?_⟩
 ·obtain⟨i,hi,rfl⟩:=G8 hk;have:=(hu i (by omega)).2;simpa[coefAt,hi]using this
 ·obtain⟨i,hi,rfl⟩:=G8 hv;have:=(hu i hi).1;simpa[varAt,hi]using this
theorem CN {d:aa}{c:Con}(h:ClOk d c)(hdl:d.length*24<=140737488355328)(hx: ∀x∈d,(x.length+1)*16<=140737488355328):ClIn d c:=⟨h.len,h.vl,h.vin,hdl,hx⟩
theorem gh {d:aa}{v w:Int}{x:List (Int×Int)}(hv:v.toNat<d.length):domAt (d.set v.toNat x) w=if v.toNat=w.toNat then x else domAt d w:=by
 unfold domAt;rw[E0,E0,FP];by_cases h:v.toNat=w.toNat;·rw[E6 h,E6 h,E6 hv];rfl
 ·rw[E4 h,E4 h]
theorem m4 {D:aa}: ∀{n:Nat} {t:List Int},t∈growR D n↔t.length=n/\∀k,k<n->t.getD k 0∈vals (D.getD k [])
 |0,t=>by simp[growR]
 |n+1,t=>by
  simp only[growR,GH,EH];constructor
  ·rintro⟨a,ha,v,hv,rfl⟩;obtain⟨hl,h⟩:=m4.1 ha;refine⟨by simp[hl],λk hk=> ?_⟩;by_cases e:k=n
   ·subst e;subst hl;simp only[E0];rw[F1 (EO _)];simpa using hv
   ·have:=h k (by omega);simp only[E0]at this⊢;rw[FE (by omega)];exact this
  ·rintro⟨hl,h⟩;refine⟨t.take n,m4.2 ⟨by simp;omega,λk hk=> ?_⟩,t.getD n 0,h n (by omega),?_⟩
   ·have:=h k (by omega);simp only[E0]at this⊢;rw[Fk,E6 hk];exact this
   ·have e:t=t.take n++[t[n]]:=by
     rw[<-ED (by omega),EY (by omega)]
    rw[E0,E5 (by omega)];exact e.symm
theorem m3 {us:List Int}(h:us.Nodup){k:Nat}(hk:k<us.length):us.idxOf us[k]=k:=by
 have h1:us.idxOf us[k]<us.length:=GE.2 (EA hk);have h2:=Gh h1;exact(Ga h).1 h2
theorem qq {d:aa}{us:List Int}(h:us.Nodup){t:List Int}:t∈growR (us.map (domAt d)) us.length↔∃f:Int->Int,t=us.map f/\∀v∈us,f v∈vals (domAt d v):=by
 rw[m4];have hD: ∀k (hk:k<us.length),(us.map (domAt d)).getD k []=domAt d us[k]:=λk hk=>by
  rw[E0,EJ,E5 hk];rfl
 constructor
 ·rintro⟨hl,hk⟩;refine⟨λv=>t.getD (us.idxOf v) 0,?_,λv hv=> ?_⟩
  ·apply GT (by simp[hl]);intro k h1 h2;have h3:k<us.length:=(by simpa using h2);rw[GX,m3 h h3,E0,E5 h1];rfl
  ·obtain⟨k,hk2,rfl⟩:=G8 hv;have:=hk k hk2;rw[hD k hk2]at this;simp only[m3 h hk2];exact this
 ·rintro⟨f,rfl,hf⟩;refine⟨by simp,λk hk=> ?_⟩;rw[hD k hk,E0,EJ,E5 hk];exact hf _ (EA hk)
theorem iX {α:Type}(f:Int->α): ∀(us:List Int) (a:List α) (i:Nat),(∀u∈us,0<=u)->(us.foldl (λa u=>a.set u.toNat (f u)) a)[i]? =if(i:Int)∈us/\i<a.length then some (f i)else a[i]?
 | [],a,i,_=>by simp
 |u::us,a,i,h=>by
  rw[En,iX f us _ i λv hv=>h v (.tail _ hv)];have hu:=h u (.head _);simp only[FA,ET];by_cases h1:(i:Int)∈us/\i<a.length;·rw[E6 h1,E6 ⟨.inr h1.1,h1.2⟩]
  ·rw[E4 h1,FP];by_cases e:u.toNat=i
   ·have e2:(i:Int)=u:=(by omega);rw[E6 e];by_cases hl:i<a.length;·rw[E6 (by omega),E6 ⟨.inl e2,hl⟩,e2]
    ·rw[E4 (by omega),E4 (λh=>hl h.2),FD (by omega)]
   ·rw[E4 e,E4];rintro⟨h2|h2,h3⟩;·omega
    ·exact h1 ⟨h2,h3⟩
theorem mJ {β γ:Type}(g:Int->β)(st:γ->Int×β->γ): ∀(us:List Int) (a:γ),(us.zip (us.map g)).foldl st a=us.foldl (λa u=>st a (u,g u)) a
 | [],_=>rfl
 |u::us,a=>by rw[Ek,G6,En,En,mJ g st us]
theorem mz {n:Nat}{us:List Int}(f:Int->Int)(h0: ∀u∈us,0<=u/\u.toNat<n){v:Int}(hv:v∈us):atR (cS n us (us.map f) us.length) v=f v:=by
 have hl:=kr n us (us.map f) us.length;have h1:=h0 v hv;have e:cS n us (us.map f) us.length=us.foldl (λa u=>a.set u.toNat (f u)) (List.replicate n 0):=by
  unfold cS;rw[EY (by simp),mJ (γ:=List Int) f]
 unfold atR;rw[E4 (by omega),E0,e,iX f us _ _ (λu hu=>(h0 u hu).1),GN h1.1,E6 ⟨hv,by simpa using h1.2⟩];rfl
def qR (d:aa)(us:List Int)(P:List Int->Bool)(v x:Int):Prop:= ∃f:Int->Int,(∀u∈us,f u∈vals (domAt d u))/\P (us.map f)=true/\f v=x
theorem lV {d:aa}{us:List Int}{P:List Int->Bool}(hn:us.Nodup)(h0: ∀u∈us,0<=u/\u.toNat<d.length)(i:Nat):
  ((i:Int)∉us->(putsW d us (keepsW P us.length (growR (us.map (domAt d)) us.length)) us.length)[i]? =d[i]?)/\
  ((i:Int)∈us->∃y,(putsW d us (keepsW P us.length (growR (us.map (domAt d)) us.length)) us.length)[i]? =some y/\aB y/\∀x,x∈vals y↔qR d us P i x):=by
 let G:Int->List Int:=λv=>((growR (us.map (domAt d)) us.length).filter P).map (·.getD (us.idxOf v) 0);have hG: ∀v∈us,∀x,x∈G v↔qR d us P v x:=by
  intro v hv x;have hk:us.idxOf v<us.length:=GE.2 hv;have hf: ∀f:Int->Int,(us.map f).getD (us.idxOf v) 0=f v:=λf=>by
   rw[E0,EJ,E5 hk,Gh];rfl
  simp only[G,EH,FB];constructor
  ·rintro⟨t,⟨ht,hp⟩,rfl⟩;obtain⟨f,rfl,h⟩:=(qq hn).1 ht;exact⟨f,h,hp,(hf f).symm⟩
  ·rintro⟨f,h,hp,rfl⟩;exact⟨us.map f,⟨(qq hn).2 ⟨f,rfl,h⟩,hp⟩,hf f⟩
 have hks:keepsW P us.length (growR (us.map (domAt d)) us.length)=us.map G:=by
  apply GT (by simp[keepsW]);intro k h1 h2;have h3:k<us.length:=(by simpa using h2);simp only[keepsW,GX,List.getElem_range,G,m3 hn h3]
 have e:putsW d us (keepsW P us.length (growR (us.map (domAt d)) us.length)) us.length=us.foldl (λa u=>a.set u.toNat (bX (aT (G u)))) d:=by
  rw[hks];unfold putsW;rw[EY (by simp),mJ (γ:=aa) G]
 rw[e,iX (λu=>bX (aT (G u))) us d i λu hu=>(h0 u hu).1];constructor;·intro h;rw[E4 λh2=>h h2.1]
 ·intro h;have:=h0 _ h;rw[E6 ⟨h,by simpa using this.2⟩];refine⟨_,rfl,fR (ca _),λx=> ?_⟩;rw[bH (ca _),bI];exact hG _ h x
theorem oO {d out:aa}{us:List Int}{P:List Int->Bool}(hn:us.Nodup)(h0: ∀u∈us,0<=u/\u.toNat<d.length)(hl:out.length=d.length)(hok: ∀x∈out,aB x)
  (h1: ∀v∈us,∀x,x∈vals (domAt out v)↔qR d us P v x) (h2: ∀i:Nat,(i:Int)∉us->out[i]? =d[i]?):putsW d us (keepsW P us.length (growR (us.map (domAt d)) us.length)) us.length=out:=by
 apply Fo;intro i;obtain⟨h3,h4⟩:=lV (P:=P) hn h0 i;by_cases hi:(i:Int)∈us
 ·obtain⟨y,hy,hd,hx⟩:=h4 hi;have hlt:=(h0 _ hi).2;have ho:out[i]? =some (domAt out i):=by
   have:=aj (d:=out) (v:=(i:Int)) (by omega);simpa using this
  rw[hy,ho];congr 1;refine fX hd (hok _ (EC ho)) (dX (aG hd) (aG (hok _ (EC ho))) λx=> ?_);rw[hx x,h1 _ hi x]
 ·rw[h3 hi,h2 i hi]
theorem Dy {n:Nat}{us:List Int}{P:List Int->Bool}(hn:us.Nodup)(h0: ∀u∈us,0<=u/\u.toNat<n)(hne:us≠[]):SuppS n us P λd=>d6 d us P:=by
 refine⟨λd out hd he=> ?_,λd hd he g hg=> ?_,h0,hne⟩
 ·have h0d: ∀u∈us,0<=u/\u.toNat<d.length:=(by rw[hd.len];exact h0);have hat:=lV (d:=d) (P:=P) hn h0d;have hl:=jV d us (keepsW P us.length (growR (us.map (domAt d)) us.length)) us.length;simp only[d6,E4 hd.some',gL]at he;generalize putsW d us (keepsW P us.length (growR (us.map (domAt d)) us.length)) us.length=o at*;split at he;·cases he
  ·rename_i hno;obtain rfl:=E7 he;have hfx: ∀x∈o,Fine x/\(vals x).length<=4096:=λx hx=>by
    obtain⟨i,hi⟩:=EK hx;obtain⟨h1,h2⟩:=hat i;by_cases hiu:(i:Int)∈us
    ·obtain⟨y,hy,hok,hv⟩:=h2 hiu;rw[hi]at hy;obtain rfl:=E7 hy;obtain⟨k1,k2,k3⟩:=hd.few.at (i:Int);have hsub: ∀v∈vals x,v∈vals (domAt d i):=λv hm=>by
      obtain⟨f,h3,_,rfl⟩:=(hv v).1 hm;exact h3 _ hiu
     have hlen:=cq (aG hok) hsub;exact⟨⟨hok,λv hm=>k3 v (hsub v hm),by omega⟩,by omega⟩
    ·rw[h1 hiu]at hi;exact⟨hd.few.fine x (EC hi),hd.few.few x (EC hi)⟩
   refine⟨⟨⟨by rw[hl];exact hd.few.small,λx hx=>(hfx x hx).1,λx hx=>(hfx x hx).2⟩,by rw[hl,hd.len],hno⟩,λv hv x=> ?_,λv hv0 hv=> ?_⟩
   ·have hv0:=h0 v hv;have e:((v.toNat:Nat):Int)=v:=(by omega);obtain⟨y,hy,hok,hx⟩:=(hat v.toNat).2 (by rw[e];exact hv);rw[e]at hx;have:domAt o v=y:=by
     unfold domAt;rw[E0,hy];rfl
    rw[this];exact hx x
   ·have e:((v.toNat:Nat):Int)=v:=(by omega);have:=(hat v.toNat).1 (by rw[e];exact hv);unfold domAt;rw[E0,E0,this]
 ·have h0d: ∀u∈us,0<=u/\u.toNat<d.length:=(by rw[hd.len];exact h0);have hat:=lV (d:=d) (P:=P) hn h0d;simp only[d6,E4 hd.some',gL]at he;generalize putsW d us (keepsW P us.length (growR (us.map (domAt d)) us.length)) us.length=o at*;split at he
  ·rename_i hm;obtain⟨i,hi⟩:=EK hm;obtain⟨h1,h2⟩:=hat i;by_cases hiu:(i:Int)∈us
   ·obtain⟨y,hy,hok,hx⟩:=h2 hiu;rw[hi]at hy;obtain rfl:=E7 hy;cases hp:P (us.map g)with
    |false=>rfl
    |true=>
     have:=(hx (g i)).2 ⟨g,hg,hp,rfl⟩;cases this
   ·rw[h1 hiu]at hi;exact EX (EC hi) hd.some'
  ·cases he
theorem ql {α β:Type}{f:α->β ⊕ α}: ∀{n m:Nat} {x:α} {r s:β},b9 f n x=some r->b9 f m x=some s->r=s
 |0,_,_,_,_,h,_=>by cases h
 |_+1,0,_,_,_,_,h=>by cases h
 |n+1,m+1,x,r,s,h1,h2=>by
  simp only[b9]at h1 h2;cases h:f x with
  |inl b=>rw[h]at h1 h2;simp only[E9]at h1 h2;rw[<-h1,h2]
  |inr y=>rw[h]at h1 h2;exact ql h1 h2
theorem tF {d:aa}{c:Con}{R S:Option aa}{N M:Nat}(h1:LinAns d c R N)(h2:LinAns d c S M):R=S:=by
 unfold LinAns at h1 h2;split at h1;·rename_i h;rw[E6 h]at h2;rw[h1,h2]
 ·rename_i h;rw[E4 h]at h2;split at h1;·rename_i h3;rw[E6 h3]at h2;rw[h1,h2]
  ·rename_i h3;rw[E4 h3]at h2;exact ql h1 h2
theorem sh {α β:Type}{f:α->β ⊕ α}{I:α->Prop}{P:β->Prop}(h1: ∀x y,I x->f x= .inr y->I y)(h2: ∀x r,I x->f x= .inl r->P r): ∀{n:Nat} {x:α} {r:β},I x->b9 f n x=some r->P r
 |0,_,_,_,h=>by cases h
 |n+1,x,r,hi,h=>by
  simp only[b9]at h;cases hf:f x with
  |inl b=>rw[hf]at h;simp only[E9]at h;exact h▸h2 x b hi hf
  |inr y=>rw[hf]at h;exact sh h1 h2 (h1 x y hi hf) h
theorem lK {d:aa}{i:Nat}{x:List (Int×Int)}(h: ∀y,d[i]? =some y->∀v∈vals x,v∈vals y):Sub (d.set i x) d:=by
 refine⟨by simp,λj y z hy hz v hv=> ?_⟩;rw[FP]at hy;split at hy
 ·rename_i e;subst e;split at hy;·cases hy;exact h z hz v hv
  ·cases hy
 ·rw[hz]at hy;cases hy;exact hv
theorem yT {d:aa}{c:Con}{out:aa}{N:Nat}(h:SumOk d c)(hR:LinAns d c (some out) N):Sub out d:=by
 unfold LinAns at hR;split at hR;·cases hR
 ·rename_i hne;have hw:=h.whole hne;split at hR
  ·rename_i h2;rw[gq hw h.pos]at hR;split at hR;·cases hR
   ·cases hR;have hin:=cA (ae d c.vars c.coefs) 0 0 0 0 c.vars.length h.pos (by have:=h.fine.len;simp[ae];omega) (EO _);unfold rotherW;simp only;split;·exact Sub.refl d
    ·split
     ·split;·exact lK λy _ v hv=>by simp[vals]at hv
      ·exact Sub.refl d
     ·refine lK λy hy v hv=> ?_;have hvv:=h.fine.vin _ (az hin.1);rw[aj hvv.2]at hy;obtain rfl:=E7 hy;have hf:=h.fine.dom _ (ac hvv.2);rw[bH (fo (aG hf.ok))]at hv;exact(FB.1 hv).1
  ·refine sh (f:=fM c) (I:=λx=>bM c x/\Sub x d) (P:=λr=> ∀o,r=some o->Sub o d) ?_ ?_ ⟨hw,Sub.refl d⟩ hR out Y
   ·rintro x y ⟨hx,hs⟩ hy;rw[dH hx]at hy;obtain⟨f1,s1⟩:=eT hx;split at hy;·cases hy
    ·rename_i h1;have hw1:bM c (M1 c x):=Whole.most hx h1;obtain⟨f2,s2⟩:=eT hw1.back;split at hy;·cases hy
     ·split at hy;·cases hy
      ·rename_i h3;split at hy;·cases hy
       ·obtain rfl:=Sum.inr.inj hy;exact⟨hw1.unback (Whole.most hw1.back h3),Sub.trans s2 (Sub.trans s1 hs)⟩
   ·rintro x r ⟨hx,hs⟩ hy o rfl;rw[dH hx]at hy;obtain⟨f1,s1⟩:=eT hx;split at hy;·cases hy
    ·rename_i h1;have hw1:bM c (M1 c x):=Whole.most hx h1;obtain⟨f2,s2⟩:=eT hw1.back;split at hy
     ·obtain rfl:=E7 (Sum.inl.inj hy);exact Sub.trans s1 hs
     ·split at hy;·cases hy
      ·split at hy
       ·obtain rfl:=E7 (Sum.inl.inj hy);exact Sub.trans s2 (Sub.trans s1 hs)
       ·cases hy
theorem iE {d:aa}(hf: ∀x∈d,Fine x)(hne: []∉d){i:Nat}{x:List (Int×Int)}{v:Int}(hx:d[i]? =some x)(hv:v∈vals x): ∃a,Supp a d/\a[i]? =some v:=by
 have hi:=(E8.1 hx).1;refine⟨(d.map λy=>(vals y).headD 0).set i v,⟨by simp,λj y w hy hw=> ?_⟩,by simp[hi]⟩;rw[FP]at hw;split at hw
 ·rename_i e;subst e;rw[hx]at hy;cases hy;split at hw;·cases hw;exact hv
  ·cases hw
 ·rw[EJ,hy]at hw;simp only[FJ,E9]at hw;subst hw;have hm:=EC hy;cases h2:vals y with
  |nil=>exact EX ((fq (hf y hm).ok).1 h2▸hm) hne
  |cons z l=>simp
theorem BA {d:aa}{c:Con}{R:Option aa}{N:Nat}(h:SumOk d c)(hne: []∉d)(hR:LinAns d c R N)(hfin: ∀out,R=some out->out.length=d.length/\[]∉out/\∀x∈out,Fine x)(hso:soW (endsW d c.vars c.coefs) c=true):R=some d:=by
 have hb:=h.big;have ha:=bA c.rhs;have key: ∀a,Supp a d->∃out,R=some out/\Supp a out:=λa hs=>zY h hs (pk h.fine (by omega) h.op hs hso) hR;cases R with
 |none=>
  exfalso;cases hd:d with
  |nil=>
   have:=h.fine.vin;have hp:=h.pos;obtain⟨v,hv⟩:=Hg hp;have:=(this v hv).2;rw[hd]at this;simp at this
  |cons x l=>
   have hxm:x∈d:=(by rw[hd];exact .head _);cases h2:vals x with
   |nil=>exact hne ((fq (h.fine.dom x hxm).ok).1 h2▸hxm)
   |cons z m=>
    obtain⟨a,hs,_⟩:=iE h.fine.dom hne (i:=0) (x:=x) (v:=z) (by rw[hd];rfl) (by rw[h2];exact .head _);obtain⟨out,ho,_⟩:=key a hs;cases ho
 |some out=>
  obtain⟨h1,h2,h3⟩:=hfin out Y;have hsub:=yT h hR;congr 1;refine Sub.antisymm hsub ⟨h1.symm,λi x y hx hy v hv=> ?_⟩ h3 h.fine.dom;obtain⟨a,hs,hai⟩:=iE h.fine.dom hne hx hv;obtain⟨out',ho,hs2⟩:=key a hs;cases ho;exact hs2.2 i y v hy hai
theorem qB {d:aa}{vars coefs:List Int}{rhs:Int}(h:Whole d vars coefs rhs):endsW d vars coefs=(bq (ae d vars coefs),eY (ae d vars coefs),true):=by
 have hb:=h.big;have ha:=bA rhs;have hwt:=cw (d:=d) h.fine.len;have:=ix 0 0 (dk h.fine) (fC h) (by omega) (by omega) (by omega) (by omega);unfold endsW;rw[this];simp
theorem p8 {d:aa}{vars coefs:List Int}(h: ∀k∈coefs,CoefOk k):bq (ae d vars (aw coefs))= -eY (ae d vars coefs):=by
 rw[fD,sA];unfold aw
 induction vars generalizing coefs with
 |nil=>simp
 |cons v vars ih=>
  cases coefs with
  |nil=>simp
  |cons k coefs=>
   have hk:=h k (.head _);have e:=(cZ hk).1;have ih:=ih λk hk=>h k (.tail _ hk);simp only[Ek,G6,FX,e];have e2:cO (domAt d v) (-k)= -gD (domAt d v) k:=by
    have hk0:=hk.1;unfold cO gD;by_cases h0:0<k;·rw[E4 (by omega),E6 h0,Hf]
    ·rw[E6 (by omega),E4 h0,Hf]
   rw[e2,ih];omega
theorem kG: ∀(ts:List (List (Int×Int)×Int)) (i m a:Nat) (s:Int),(∀t∈ts,¬1<(vals t.1).length)->(au i ts m s a).1=m
 | [],i,m,a,s,_=>by simp[au]
 |t::ts,i,m,a,s,h=>by
  rw[au,E4 (h t (.head _))];exact kG ts _ _ _ _ λt ht=>h t (.tail _ ht)
theorem zo {d:aa}(hf: ∀x∈d,Fine x)(hne: []∉d)(hl:0<d.length): ∃a,Supp a d:=by
 cases h2:vals d[0]with
 |nil=>exact EX ((fq (hf d[0] (EA hl)).ok).1 h2▸EA hl) hne
 |cons z m=>
  obtain⟨a,ha,_⟩:=iE hf hne (i:=0) (x:=d[0]) (v:=z) (E5 hl) (by rw[h2];exact .head _);exact⟨a,ha⟩
theorem not_not {c:Con}(hck: ∀k∈c.coefs,CoefOk k)(hop:0<=c.op/\c.op<=2)(hr:aL c.rhs<=4611686018427388928):bi (bi c)=c:=by
 obtain⟨kind,vars,coefs,op,rhs,rows,b⟩:=c;simp only at hck hop hr;have har:aL rhs=max rhs (-rhs):=rfl;have:op=0∨op=1∨op=2:=(by omega);rcases this with rfl|rfl|rfl
 ·have e1:wr (0-rhs)= -rhs:=(by rw[wr,af (by omega) (by omega)];omega);have e2:wr (wr (0-rhs)-1)= -rhs-1:=(by rw[e1,wr,af (by omega) (by omega)]);have e3:wr (wr (0-(-rhs-1))-1)=rhs:=by
   rw[show wr (0-(-rhs-1))=rhs+1 by rw[wr,af (by omega) (by omega)];omega,wr,af (by omega) (by omega)];omega
  have e4:aw (aw coefs)=coefs:=by
   unfold aw;rw[Fi];refine(F6 λk hk=> ?_).trans (List.map_id _);obtain⟨h1,h2⟩:=cZ (hck k hk);have h3:=(cZ h2).1;simp only[Function.comp];rw[h3,h1];simp
  simp only[bi,if_true,e2,e3,e4]
 ·simp[bi]
 ·simp[bi]
theorem yQ {x:List (Int×Int)}(h:aB x)(hne:x≠[])(k:Int): ∃v∈vals x,cO x k=k*v:=by
 unfold cO;by_cases hk:0<k;·rw[E6 hk];exact⟨_,gg h hne,rfl⟩
 ·rw[E4 hk];exact⟨_,qg h hne,rfl⟩
theorem rY {x y:List (Int×Int)}(hx:aB x)(hy:aB y)(hne:x≠[])(hs: ∀v∈vals x,v∈vals y)(k:Int):cO y k<=cO x k:=by
 obtain⟨v,hv,e⟩:=yQ hx hne k;rw[e];exact(tD hy (hs v hv)).1
structure SumC (n:Nat)(vars coefs:List Int)(rhs:Int):Prop where
 vl:vars.length=coefs.length
 vin: ∀v∈vars,0<=v/\v.toNat<n
 ck: ∀k∈coefs,CoefOk k
 nod:vars.Nodup
 big:ar coefs<=4611686018427388928/\aL rhs<=4611686018427388928
 few:vars.length*24<=140737488355328
theorem SumC.whole {n:Nat}{vars coefs:List Int}{rhs:Int}(h:SumC n vars coefs rhs){d:aa}(hd:GoodD n d):Whole d vars coefs rhs:=
 ⟨⟨h.vl,by have:=h.few;omega,λv hv=>by rw[hd.len];exact h.vin v hv,h.ck,hd.few.fine,hd.few.small⟩,h.nod,hd.some',h.big⟩
theorem um {d:aa}{vars coefs:List Int}{rhs:Int}(h:Whole d vars coefs rhs){p:Int×Int}(hp:p∈vars.zip coefs):domAt (MO d vars coefs rhs) p.1=ee d (bq (ae d vars coefs)) rhs p:=by
 obtain⟨ha,hl⟩:=i6 h;have hm:(p.1,ee d (bq (ae d vars coefs)) rhs p)∈i7 d vars coefs rhs:=EH.2 ⟨p,hp,rfl⟩;have e:=d3 ha hl _ hm;unfold domAt;rw[E0,show MO d vars coefs rhs=bZ (i7 d vars coefs rhs) d from Y,e];rfl
theorem uj {d:aa}{vars coefs:List Int}{rhs:Int}(h:Whole d vars coefs rhs){v:Int}(h0:0<=v)(hv:v∉vars):domAt (MO d vars coefs rhs) v=domAt d v:=by
 have e:(MO d vars coefs rhs)[v.toNat]? =d[v.toNat]? :=c9 _ _ _ λp hp e=>by
  obtain⟨q,hq,rfl⟩:=EH.1 hp;have hq1:=(Ew hq).1;have:=(h.fine.vin _ hq1).1;have e:q.1.toNat=v.toNat:=e;exact hv ((show q.1=v by omega)▸hq1)
 unfold domAt;rw[E0,E0,e]
theorem lG {vars coefs:List Int}(hl:vars.length=coefs.length){v:Int}(hv:v∈vars): ∃p∈vars.zip coefs,p.1=v:=by
 obtain⟨i,hi,rfl⟩:=G8 hv;exact⟨(vars[i],coefs[i]'(by omega)),Gm.2 ⟨i,by simp;omega,by simp⟩,rfl⟩
theorem CT {n:Nat}{a b:aa}{vars coefs:List Int}{rhs:Int}(hc:SumC n vars coefs rhs)(ga:GoodD n a)(gb:GoodD n b)(h:leD a b):leD (MO a vars coefs rhs) (MO b vars coefs rhs):=by
 have wa:=hc.whole ga;have wb:=hc.whole gb;have hlow:=e7 (f:=λp=>cO (domAt b p.1) p.2) (g:=λp=>cO (domAt a p.1) p.2) (l:=vars.zip coefs) λp hp=>by
  have hv:=hc.vin _ (Ew hp).1;have hm:domAt a p.1∈a:=ac (by rw[ga.len];exact hv.2);exact rY (ga.few.fine _ hm).ok (gb.few.fine _ (ac (by rw[gb.len];exact hv.2))).ok (λe=>ga.some' (e▸hm)) (λx hx=>h.2 p.1 x hv.1 hx) p.2
 rw[<-fD,<-fD]at hlow;refine⟨by rw[(eT wa).2.1,(eT wb).2.1,ga.len,gb.len],λv x h0 hx=> ?_⟩;by_cases hv:v∈vars
 ·obtain⟨p,hp,rfl⟩:=lG hc.vl hv;rw[um wa hp]at hx;rw[um wb hp];obtain⟨h1,h2⟩:=((gF wa hp _).2 x).1 hx;refine((gF wb hp _).2 x).2 ⟨h.2 _ x h0 h1,?_⟩;have:=hlow.2 p hp;omega
 ·rw[uj wa h0 hv]at hx;rw[uj wb h0 hv];exact h.2 v x h0 hx
def lM (vars coefs:List Int)(rhs:Int)(d:aa):Option aa:=if []∈MO d vars coefs rhs then none else some (MO d vars coefs rhs)
theorem ul {n:Nat}{d:aa}{vars coefs:List Int}{rhs:Int}(hc:SumC n vars coefs rhs)(hd:GoodD n d)(hne: []∉MO d vars coefs rhs):GoodD n (MO d vars coefs rhs)/\leD (MO d vars coefs rhs) d:=by
 obtain⟨h1,h2⟩:=eT (hc.whole hd);have hle:leD (MO d vars coefs rhs) d:=by
  refine⟨h2.1,λv x h0 hx=> ?_⟩;by_cases hl:v.toNat<d.length
  ·have hl2:v.toNat<(MO d vars coefs rhs).length:=(by rw[h2.1];exact hl);exact h2.2 v.toNat _ _ (aj hl2) (aj hl) x hx
  ·unfold domAt at hx;rw[E0,FD (by rw[h2.1];omega)]at hx;cases hx
 refine⟨⟨⟨by rw[h2.1];exact hd.few.small,h1,λx hx=> ?_⟩,by rw[h2.1,hd.len],hne⟩,hle⟩;obtain⟨j,hj⟩:=EK hx;have hjl:=(E8.1 hj).1;have hjd:j<d.length:=(by rw[<-h2.1];exact hjl);have hsub: ∀v∈vals x,v∈vals d[j]:=λv hv=>h2.2 j x d[j] hj (E5 hjd) v hv;have:=cq (aG (h1 x hx).ok) hsub;have:=hd.few.few _ (EA hjd);omega
theorem nK {n:Nat}{vars coefs:List Int}{rhs:Int}(hc:SumC n vars coefs rhs):Takes leD (GoodD n) (lM vars coefs rhs):=by
 refine⟨λa a' ga he=> ?_,λa a' b ga gb hle he=> ?_⟩
 ·unfold lM at he;split at he;·cases he
  ·rename_i hne;obtain rfl:=E7 he;exact ul hc ga hne
 ·unfold lM at he⊢;split at he;·cases he
  ·rename_i hne;obtain rfl:=E7 he;have hm:=CT hc ga gb hle;obtain⟨g1,_⟩:=ul hc ga hne;rw[E4];·exact⟨_,rfl,hm⟩
   ·intro hem;obtain⟨j,hj⟩:=EK hem;have hjl:=(E8.1 hj).1;have hjn:j<n:=(by rw[(eT (hc.whole gb)).2.1,gb.len]at hjl;exact hjl);obtain⟨x,hx⟩:=g1.ne (v:=(j:Int)) (by simpa using hjn);have:=hm.2 j x (by omega) hx;unfold domAt at this;rw[E0,Eo,hj]at this;cases this
def qI (c:Con)(b:Bool)(d:aa):Option aa:=if b=true then lM c.vars c.coefs c.rhs d else lM c.vars (aw c.coefs) (wr (0-c.rhs)) d
theorem og {n:Nat}{c:Con}(h1:SumC n c.vars c.coefs c.rhs)(h2:SumC n c.vars (aw c.coefs) (wr (0-c.rhs)))(b:Bool):Takes leD (GoodD n) (qI c b):=by
 cases b with
 |true=>exact nK h1
 |false=>exact nK h2
theorem zZ {n:Nat}{c:Con}(h1:SumC n c.vars c.coefs c.rhs)(h2:SumC n c.vars (aw c.coefs) (wr (0-c.rhs)))(hop:c.op=1)(d0:aa): ∀(N:Nat) (d:aa) (R:Option aa),Come leD (GoodD n) (qI c) [true,false] d0 d->b9 (fM c) N d=some R->eV leD (GoodD n) (qI c) [true,false] d0 R:=by
 intro N
 induction N using Nat.strongRecOn with
 |_ N ih=>
  intro d R hd hR;have hw:bM c d:=h1.whole hd.fine;have hst:=dH hw;have t1:=og h1 h2 true;have t2:=og h1 h2 false;by_cases e1: []∈M1 c d
  ·rw[E6 e1]at hst;obtain rfl:=aQ hR hst;exact hd.none (c:=true) (by simp) t1 (E6 e1)
  ·rw[E4 e1,E4 (by omega)]at hst;have f1:qI c true d=some (M1 c d):=E4 e1;have hd1:=hd.step (aW n) (c:=true) (by simp) t1 f1;by_cases e2: []∈M2 c (M1 c d)
   ·rw[E6 e2]at hst;obtain rfl:=aQ hR hst;exact hd1.none (c:=false) (by simp) t2 (E6 e2)
   ·rw[E4 e2]at hst;have f2:qI c false (M1 c d)=some (M2 c (M1 c d)):=E4 e2;have hd2:=hd1.step (aW n) (c:=false) (by simp) t2 f2;by_cases e3:M1 c d=d/\M2 c (M1 c d)=M1 c d
    ·rw[E6 e3]at hst;obtain rfl:=aQ hR hst;refine⟨hd2,λb hb=> ?_⟩;have e:M2 c (M1 c d)=d:=e3.2.trans e3.1;rw[e];cases b with
     |true=>rw[f1,e3.1]
     |false=>rw[e3.1]at f2;rw[f2,<-e3.1];rw[e3.1]at e;rw[e3.1,e]
    ·rw[E4 e3]at hst;obtain⟨m,hm,hR2⟩:=fH hR hst;exact ih m hm _ R hd2 hR2
theorem Cw {n:Nat}{c:Con}(h1:SumC n c.vars c.coefs c.rhs)(hop:c.op=0){d:aa}(hd:GoodD n d){N:Nat}{R:Option aa}(hR:b9 (fM c) N d=some R):R=qI c true d:=by
 have hst:=dH (h1.whole hd:bM c d);by_cases e1: []∈M1 c d
 ·rw[E6 e1]at hst;obtain rfl:=aQ hR hst;exact(E6 e1).symm
 ·rw[E4 e1,E6 hop]at hst;obtain rfl:=aQ hR hst;exact(E4 e1).symm
structure StepOK (n:Nat)(us:List Int)(P:(Int->Int)->Prop)(f:aa->Option aa):Prop where
 takes:Takes leD (GoodD n) f
 stays: ∀a b,GoodD n a->GoodD n b->f a=some a->(∀u∈us,domAt a u=domAt b u)->f b=some b
 off: ∀a out,GoodD n a->f a=some out->∀v,0<=v->v∉us->domAt out v=domAt a v
 point: ∀e,GoodD n e->∀g:Int->Int,(∀u∈us,vals (domAt e u)=[g u])->(f e=some e↔P g)
 in': ∀u∈us,0<=u/\u.toNat<n
theorem SuppS.step {n:Nat}{us:List Int}{P:List Int->Bool}{f:aa->Option aa}(h:SuppS n us P f):StepOK n us (λg=>P (us.map g)=true) f:=by
 refine⟨h.takes,λa b ga gb ha hab=>h.stays ga gb ha hab,λa out ga he=>(h.ok a out ga he).2.2,λe ge g he=> ?_,h.in'⟩;rw[h.point ge g he];by_cases hp:P (us.map g)=true;·simp[hp]
 ·simp[hp]
theorem StepOK.iff {n:Nat}{us:List Int}{P Q:(Int->Int)->Prop}{f:aa->Option aa}(h:StepOK n us P f)(hq: ∀g,P g↔Q g):StepOK n us Q f:=
 ⟨h.takes,h.stays,h.off,λe ge g he=>(h.point e ge g he).trans (hq g),h.in'⟩
theorem StepOK.wide {n:Nat}{us vs:List Int}{P:(Int->Int)->Prop}{f:aa->Option aa}(h:StepOK n us P f)(hs: ∀u∈us,u∈vs)(hv: ∀u∈vs,0<=u/\u.toNat<n):StepOK n vs P f:=
 ⟨h.takes,λa b ga gb ha hab=>h.stays a b ga gb ha λu hu=>hab u (hs u hu),λa out ga he v h0 hv=>h.off a out ga he v h0 λhm=>hv (hs v hm),λe ge g he=>h.point e ge g λu hu=>he u (hs u hu),hv⟩
theorem StepOK.congr {n:Nat}{us:List Int}{P:(Int->Int)->Prop}{f f':aa->Option aa}(h:StepOK n us P f)(he: ∀d,GoodD n d->f' d=f d):StepOK n us P f':=by
 refine⟨⟨λa a' ga e=>h.takes.less a a' ga (by rw[<-he a ga];exact e),λa a' b ga gb hle e=> ?_⟩,λa b ga gb ha hab=> ?_,λa out ga e=>h.off a out ga (by rw[<-he a ga];exact e),λe ge g hg=>by rw[he e ge];exact h.point e ge g hg,h.in'⟩;·rw[he a ga]at e;rw[he b gb];exact h.takes.mono a a' b ga gb hle e
 ·rw[he a ga]at ha;rw[he b gb];exact h.stays a b ga gb ha hab
def tz (us:List Int)(a b:aa):aa:=(List.range a.length).map λj:Nat=>if(j:Int)∈us then domAt a (j:Int)else domAt b (j:Int)
theorem Dh {us:List Int}{a b:aa}{v:Int}(h0:0<=v)(hl:v.toNat<a.length):domAt (tz us a b) v=if v∈us then domAt a v else domAt b v:=by
 have e:((v.toNat:Nat):Int)=v:=(by omega);unfold domAt tz;rw[E0,EJ,Fr hl];simp only[FJ,Fz,e,domAt]
theorem iy {a:aa}{v:Int}(hl:a.length<=v.toNat):domAt a v=[]:=by
 unfold domAt;rw[E0,FD hl];rfl
theorem Bq {n:Nat}{us:List Int}{a b:aa}(ga:GoodD n a)(gb:GoodD n b):GoodD n (tz us a b):=by
 have hl:(tz us a b).length=a.length:=(by simp[tz]);have hm: ∀x∈tz us a b,x∈a∨x∈b:=by
  intro x hx;obtain⟨j,hj,rfl⟩:=EH.1 hx;have hj:=ES.1 hj;split;·exact .inl (ac (by simpa using hj))
  ·exact .inr (ac (by rw[gb.len,<-ga.len];simpa using hj))
 refine⟨⟨by rw[hl];exact ga.few.small,λx hx=> ?_,λx hx=> ?_⟩,by rw[hl,ga.len],λhx=> ?_⟩;·exact(hm x hx).elim (ga.few.fine x) (gb.few.fine x)
 ·exact(hm x hx).elim (ga.few.few x) (gb.few.few x)
 ·exact(hm _ hx).elim ga.some' gb.some'
theorem eV.step {γ:Type}{n:Nat}{us:List Int}{l:List γ}{f:γ->aa->Option aa}{F:aa->Option aa}{P:γ->(Int->Int)->Prop}(h: ∀d,GoodD n d->eV leD (GoodD n) f l d (F d))(hs: ∀c∈l,StepOK n us (P c) (f c))(hin: ∀u∈us,0<=u/\u.toNat<n):StepOK n us (λg=> ∀c∈l,P c g) F:=by
 have O:=aW n;have loc: ∀a b,GoodD n a->GoodD n b->fN f l a->(∀u∈us,domAt a u=domAt b u)->fN f l b:=λa b ga gb ha hab c hc=>(hs c hc).stays a b ga gb (ha c hc) hab;refine⟨eV.takes O h,λa b ga gb ha hab=>(eV.fix O h gb).2 (loc a b ga gb ((eV.fix O h ga).1 ha) hab),λa out ga he v h0 hv=> ?_,λe ge g he=> ?_,hin⟩
 ·have hE:=h a ga;rw[he]at hE;obtain⟨hc,hst⟩:=hE;by_cases hl:v.toNat<n
  ·have gm:=Bq (us:=us) hc.fine ga;have hlo:out.length=a.length:=hc.less.1;have hat: ∀u:Int,0<=u->domAt (tz us out a) u=if u∈us then domAt out u else domAt a u:=λu hu0=>by
    by_cases hul:u.toNat<out.length;·exact Dh hu0 hul
    ·rw[iy (by rw[gm.len];rw[hc.fine.len]at hul;omega),iy (by omega),iy (by omega),ite_self]
   have hst2:fN f l (tz us out a):=by
    refine loc out _ hc.fine gm hst λu hu=> ?_;rw[hat u (hin u hu).1,E6 hu]
   have hle:leD (tz us out a) a:=⟨by rw[gm.len,ga.len],λu x hu0 hx=>by
    rw[hat u hu0]at hx;split at hx;·exact hc.less.2 u x hu0 hx
    ·exact hx⟩
   have hk:=hc.keep _ gm hle hst2;have f1:=(hc.fine.few.fine _ (ac (by rw[hc.fine.len];exact hl))).ok;have f2:=(ga.few.fine _ (ac (by rw[ga.len];exact hl))).ok;refine fX f1 f2 (dX (aG f1) (aG f2) λx=>⟨hc.less.2 v x h0,λhx=>hk.2 v x h0 ?_⟩);rw[hat v h0,E4 hv];exact hx
  ·rw[iy (by rw[hc.fine.len];omega),iy (by rw[ga.len];omega)]
 ·rw[eV.fix O h ge];exact⟨λhh c hc=>((hs c hc).point e ge g he).1 (hh c hc),λhh c hc=>((hs c hc).point e ge g he).2 (hh c hc)⟩
def dT (vars coefs:List Int)(g:Int->Int):Int:=((vars.zip coefs).map λp=>p.2*g p.1).sum
def zp (coefs l:List Int):Int:=((l.zip coefs).map λp=>p.2*p.1).sum
theorem ei: ∀(vars coefs:List Int) (g:Int->Int),zp coefs (vars.map g)=dT vars coefs g
 | [],_,_=>by simp[zp,dT]
 |_::_,[],_=>by simp[zp,dT]
 |v::vars,k::coefs,g=>by
  have:=ei vars coefs g;simp only[zp,dT,Ek,G6,FX]at this⊢;rw[this]
theorem s9 {α:Type}{f f':α->Int}{q:α}: ∀{l:List α},l.Nodup->q∈l->(∀p∈l,p≠q->f' p=f p)->(l.map f').sum=(l.map f).sum-f q+f' q
 |p::l,hn,hq,h=>by
  have h1:=FH.1 hn;simp only[Ek,FX];rcases ET.1 hq with rfl|hq
  ·have:l.map f'=l.map f:=F6 λr hr=>h r (.tail _ hr) λe=>h1.1 (e▸hr);rw[this];omega
  ·have:=s9 (f:=f) (f':=f') h1.2 hq λr hr=>h r (.tail _ hr);have:=h p (.head _) λe=>h1.1 (e▸hq);omega
theorem jR: ∀{vars coefs:List Int},vars.Nodup->(vars.zip coefs).Nodup
 | [],_,_=>by simp
 |_::_,[],_=>by simp
 |v::vars,k::coefs,h=>by
  have h1:=FH.1 h;rw[G6];exact FH.2 ⟨λhm=>h1.1 (Ew hm).1,jR h1.2⟩
theorem lH: ∀{vars coefs:List Int},vars.Nodup->∀{p q:Int×Int},p∈vars.zip coefs->q∈vars.zip coefs->p.1=q.1->p=q
 | [],_,_,p,q,h,_,_=>by simp at h
 |_::_,[],_,p,q,h,_,_=>by simp at h
 |v::vars,k::coefs,hn,p,q,hp,hq,e=>by
  have h1:=FH.1 hn;rw[G6]at hp hq;rcases ET.1 hp with rfl|hp
  ·rcases ET.1 hq with rfl|hq;·rfl
   ·exact EX ((show v=q.1 from e)▸(Ew hq).1) h1.1
  ·rcases ET.1 hq with rfl|hq;·exact EX ((show p.1=v from e)▸(Ew hp).1) h1.1
   ·exact lH h1.2 hp hq e
theorem Cn {vars coefs:List Int}(hn:vars.Nodup)(h:Int×Int->Int): ∃g:Int->Int,∀p∈vars.zip coefs,g p.1=h p:=by
 refine⟨λu=>if hu: ∃p∈vars.zip coefs,p.1=u then h hu.choose else 0,λp hp=> ?_⟩;have hu: ∃q∈vars.zip coefs,q.1=p.1:=⟨p,hp,rfl⟩;simp only[dif_pos hu];rw[lH hn hu.choose_spec.1 hp hu.choose_spec.2]
theorem Dx {n:Nat}{vars coefs:List Int}{rhs:Int}(hc:SumC n vars coefs rhs)(hne:vars≠[]):SuppS n vars (λl=>decide (zp coefs l<=rhs)) (lM vars coefs rhs):=by
 have low: ∀d,GoodD n d->∀g:Int->Int,(∀u∈vars,g u∈vals (domAt d u))->∀p∈vars.zip coefs,p.2*g p.1-cO (domAt d p.1) p.2<=dT vars coefs g-bq (ae d vars coefs):=λd gd g hg p hp=>by
  rw[fD];refine(e7 (f:=λp:Int×Int=>cO (domAt d p.1) p.2) (g:=λp=>p.2*g p.1) (l:=vars.zip coefs) λq hq=> ?_).2 p hp;have hv:=(Ew hq).1;exact(tD (gd.few.fine _ (ac (by rw[gd.len];exact(hc.vin _ hv).2))).ok (hg _ hv)).1
 have put: ∀d,GoodD n d->∀q∈vars.zip coefs,∀x∈vals (domAt d q.1),∃g:Int->Int,(∀u∈vars,g u∈vals (domAt d u))/\g q.1=x/\dT vars coefs g=bq (ae d vars coefs)-cO (domAt d q.1) q.2+q.2*x:=λd gd q hq x hx=>by
  have hex: ∀p:Int×Int,∃y,p∈vars.zip coefs->y∈vals (domAt d p.1)/\cO (domAt d p.1) p.2=p.2*y:=λp=>by
   by_cases hp:p∈vars.zip coefs
   ·have hm:domAt d p.1∈d:=ac (by rw[gd.len];exact(hc.vin _ (Ew hp).1).2);obtain⟨y,h1,h2⟩:=yQ (gd.few.fine _ hm).ok (λe=>gd.some' (e▸hm)) p.2;exact⟨y,λ_=>⟨h1,h2⟩⟩
   ·exact⟨0,λh=>EX h hp⟩
  obtain⟨g,hg⟩:=Cn (coefs:=coefs) hc.nod λp=>if p=q then x else(hex p).choose
  refine⟨g,λu hu=> ?_,by rw[hg q hq,E6 Y],?_⟩
  ·obtain⟨p,hp,rfl⟩:=lG hc.vl hu;rw[hg p hp];split;·rename_i e;exact e▸hx
   ·exact((hex p).choose_spec hp).1
  ·unfold dT;rw[s9 (f:=λp=>cO (domAt d p.1) p.2) (q:=q) (jR hc.nod) hq λp hp hpq=> ?_,<-fD,hg q hq,E6 Y];show p.2*g p.1=cO (domAt d p.1) p.2;rw[hg p hp,E4 hpq];exact((hex p).choose_spec hp).2.symm
 refine⟨λd out gd he=> ?_,λd gd he g hg=> ?_,hc.vin,hne⟩
 ·unfold lM at he;split at he;·cases he
  ·rename_i hno;obtain rfl:=E7 he;have hw:=hc.whole gd;refine⟨(ul hc gd hno).1,λv hv x=> ?_,λv h0 hv=>uj hw h0 hv⟩;obtain⟨q,hq,rfl⟩:=lG hc.vl hv;rw[um hw hq,(gF hw hq _).2 x];constructor
   ·rintro⟨h1,h2⟩;obtain⟨g,h3,h4,h5⟩:=put d gd q hq x h1;refine⟨g,h3,EF ?_,h4⟩;rw[ei,h5];omega
   ·rintro⟨g,h3,h4,rfl⟩;have h4:=FV h4;rw[ei]at h4;have:=low d gd g h3 q hq;exact⟨h3 _ hv,by omega⟩
 ·refine EE λhle=> ?_;rw[ei]at hle;unfold lM at he;split at he
  ·rename_i hem;obtain⟨j,hj⟩:=EK hem;have hw:=hc.whole gd;have hjn:j<n:=by
    have:=(E8.1 hj).1;rwa[(eT hw).2.1,gd.len]at this
   have e:domAt (MO d vars coefs rhs) (j:Int)=[]:=by
    unfold domAt;rw[E0,Eo,hj];rfl
   by_cases hv:(j:Int)∈vars
   ·obtain⟨q,hq,hqj⟩:=lG hc.vl hv;have h1:=low d gd g hg q hq;have h2:=((gF hw hq (bq (ae d vars coefs))).2 (g q.1)).2 ⟨hg _ (Ew hq).1,by omega⟩;rw[<-um hw hq,hqj,e]at h2;cases h2
   ·rw[uj hw (by omega) hv]at e;exact gd.some' (e▸ac (by rw[gd.len];simpa using hjn))
  ·cases he
theorem pe {n:Nat}{vars coefs:List Int}{rhs:Int}(hc:SumC n vars coefs rhs)(hne:vars≠[]):StepOK n vars (λg=>dT vars coefs g<=rhs) (lM vars coefs rhs):=
 (Dx hc hne).step.iff λg=>by rw[ER,ei]
theorem jw: ∀(ts:List (List (Int×Int)×Int)) (i m:Nat) (s:Int) (a:Nat),m<=(au i ts m s a).1
 | [],i,m,s,a=>EO _
 |t::ts,i,m,s,a=>by
  rw[au];split
  ·have:=jw ts (i+1) (m+1) s i;omega
  ·exact jw ts _ _ _ _
theorem kH: ∀(ts:List (List (Int×Int)×Int)) (i m:Nat) (s:Int) (a:Nat),(au i ts m s a).1=m->(au i ts m s a).2.2=a
 | [],i,m,s,a,_=>rfl
 |t::ts,i,m,s,a,h=>by
  rw[au]at h⊢;split at h
  ·have:=jw ts (i+1) (m+1) s i;omega
  ·rename_i hc;rw[E4 hc];exact kH ts _ _ _ _ h
theorem lT: ∀(ts:List (List (Int×Int)×Int)) (i m:Nat) (s:Int) (a:Nat),
  ((au i ts m s a).1=m+1->∃(j:Nat) (t:List (Int×Int)×Int),(au i ts m s a).2.2=i+j/\ts[j]? =some t/\1<(vals t.1).length)/\
  (m+1<(au i ts m s a).1->∃(j k:Nat) (t u:List (Int×Int)×Int),j≠k/\ts[j]? =some t/\ts[k]? =some u/\1<(vals t.1).length/\1<(vals u.1).length)
 | [],i,m,s,a=>by simp[au]
 |t::ts,i,m,s,a=>by
  rw[au];by_cases hc:1<(vals t.1).length
  ·rw[E6 hc];refine⟨λe=> ?_,λe=> ?_⟩
   ·have hk:=kH ts (i+1) (m+1) s i e;exact⟨0,t,by rw[hk];rfl,rfl,hc⟩
   ·have hex: ∃(k:Nat) (u:List (Int×Int)×Int),ts[k]? =some u/\1<(vals u.1).length:=by
     refine F9 λhn=> ?_;have:=kG ts (i+1) (m+1) i s λu hu h=>hn ((G2.1 hu).elim λk hk=>⟨k,u,hk,h⟩);omega
    obtain⟨k,u,h5,h6⟩:=hex;exact⟨0,k+1,t,u,by omega,rfl,by simpa using h5,hc,h6⟩
  ·rw[E4 hc];obtain⟨h3,h4⟩:=lT ts (i+1) m (wr (s+wr (t.2*hd0 (vals t.1)))) a;refine⟨λe=> ?_,λe=> ?_⟩
   ·obtain⟨j,u,h5,h6,h7⟩:=h3 e;exact⟨j+1,u,by omega,by simpa using h6,h7⟩
   ·obtain⟨j,k,u,w,h5,h6,h7,h8,h9⟩:=h4 e;exact⟨j+1,k+1,u,w,by omega,by simpa using h6,by simpa using h7,h8,h9⟩
theorem Cb {n:Nat}{d:aa}(hd:GoodD n d){us:List Int}(hin: ∀u∈us,0<=u/\u.toNat<n){g:Int->Int}(hg: ∀u∈us,g u∈vals (domAt d u)): ∃a,Supp a d/\∀u∈us,atR a u=g u:=by
 have hex: ∀j:Nat,∃x,j<n->x∈vals (domAt d j)/\((j:Int)∈us->x=g j):=λj=>by
  by_cases hj:(j:Int)∈us;·exact⟨g j,λ_=>⟨hg _ hj,λ_=>rfl⟩⟩
  ·by_cases hl:j<n
   ·obtain⟨x,hx⟩:=hd.ne (v:=(j:Int)) (by simpa using hl);exact⟨x,λ_=>⟨hx,λh=>EX h hj⟩⟩
   ·exact⟨0,λh=>EX h hl⟩
 refine⟨(List.range n).map λj=>(hex j).choose,⟨by simp[hd.len],λi x v hx hv=> ?_⟩,λu hu=> ?_⟩
 ·have hi:=(E8.1 hx).1;have hin':i<n:=(by rw[<-hd.len];exact hi);rw[EJ,Fr hin']at hv;obtain rfl:=E7 hv;have h1:=((hex i).choose_spec hin').1;have e:domAt d (i:Int)=x:=by
   rw[E5 hi]at hx;rw[qG hi];exact E7 hx
  exact e▸h1
 ·obtain⟨h0,h1⟩:=hin u hu;have e:((u.toNat:Nat):Int)=u:=(by omega);unfold atR;rw[E4 (by omega),E0,EJ,Fr h1];exact(((hex u.toNat).choose_spec h1).2 (by rw[e];exact hu)).trans (congrArg g e)
theorem xr {vars coefs a:List Int}{g:Int->Int}(h: ∀u∈vars,atR a u=g u):cU vars coefs a=dT vars coefs g:=by
 unfold cU dT;congr 1;exact F6 λp hp=>by rw[h _ (Ew hp).1]
structure LinC (n:Nat)(c:Con):Prop where
 sum:SumC n c.vars c.coefs c.rhs
 pos:0<c.vars.length
 op:0<=c.op/\c.op<=2
theorem LinC.ok {n:Nat}{c:Con}(h:LinC n c){d:aa}(hd:GoodD n d):SumOk d c:=⟨(h.sum.whole hd).fine,h.sum.nod,h.pos,h.op,h.sum.big⟩
theorem LinC.ne {n:Nat}{c:Con}(h:LinC n c):c.vars≠[]:=λe=>by have:=h.pos;rw[e]at this;simp at this
theorem GoodD.of_sub {n:Nat}{a b:aa}(hb:GoodD n b)(h:Sub a b)(hf: ∀x∈a,Fine x)(hne: []∉a):GoodD n a/\leD a b:=by
 have hle:leD a b:=by
  refine⟨h.1,λv x h0 hx=> ?_⟩;by_cases hl:v.toNat<a.length;·exact h.2 v.toNat _ _ (aj hl) (aj (by rw[<-h.1];exact hl)) x hx
  ·rw[iy (by omega)]at hx;cases hx
 refine⟨⟨⟨by rw[h.1];exact hb.few.small,hf,λx hx=> ?_⟩,by rw[h.1,hb.len],hne⟩,hle⟩;obtain⟨j,hj⟩:=EK hx;have hjl:=(E8.1 hj).1;have hjd:j<b.length:=(by rw[<-h.1];exact hjl);have:=cq (aG (hf x hx).ok) λv hv=>h.2 j x _ hj (E5 hjd) v hv;have:=hb.few.few _ (EA hjd);omega
def neO (c:Con)(d:aa):Option aa:=if []∈rotherW d c then none else some (rotherW d c)
theorem xi {d:aa}{c:Con}(hp:0<c.vars.length)(hl:c.vars.length=c.coefs.length)(h0: ∀v∈c.vars,0<=v){v:Int}(hv0:0<=v)(hv:v∉c.vars):domAt (rotherW d c) v=domAt d v:=by
 have hin:=cA (ae d c.vars c.coefs) 0 0 0 0 c.vars.length hp (by simp[ae];omega) (EO _);have key: ∀(k:Nat) (y:List (Int×Int)),k<c.vars.length->domAt (d.set (varAt c k).toNat y) v=domAt d v:=λk y hk=>by
  have hm:=az (c:=c) hk;have h1:=h0 _ hm;have hne:(varAt c k).toNat≠v.toNat:=λe=>hv ((show varAt c k=v by omega)▸hm);unfold domAt;rw[E0,E0,Et hne]
 unfold rotherW;simp only;split;·rfl
 ·split
  ·split;·exact key 0 _ hp
   ·rfl
  ·exact key _ _ hin.1
theorem Dw {n:Nat}{c:Con}(h:LinC n c)(hop:c.op=2):SuppS n c.vars (λl=>decide (zp c.coefs l≠c.rhs)) (neO c):=by
 have hc:=h.sum;have hans: ∀d,GoodD n d->LinAns d c (neO c d) 0:=λd gd=>by
  have hw:bM c d:=hc.whole gd;unfold LinAns;rw[E4 gd.some',E6 hop,gq hw h.pos];rfl
 have keep: ∀d,GoodD n d->∀g:Int->Int,(∀u∈c.vars,g u∈vals (domAt d u))->dT c.vars c.coefs g≠c.rhs->[]∉rotherW d c/\∀u∈c.vars,g u∈vals (domAt (rotherW d c) u):=λd gd g hg hne=>by
  obtain⟨a,ha,hag⟩:=Cb gd hc.vin hg;have hw:bM c d:=hc.whole gd;have hs:=nO hw h.pos ha (by rw[xr hag];exact hne);refine⟨hs.ne,λu hu=> ?_⟩;have hv:=hc.vin u hu;have:=hs.at hv.1 (by rw[(jv hw h.pos).1,gd.len];exact hv.2);rwa[hag u hu]at this
 refine⟨λd out gd he=> ?_,λd gd he g hg=> ?_,hc.vin,h.ne⟩
 ·have hA:=hans d gd;rw[he]at hA;have hsub:=yT (h.ok gd) hA;have hw:bM c d:=hc.whole gd;unfold neO at he;split at he;·cases he
  ·rename_i hno;obtain rfl:=E7 he;obtain⟨go,hle⟩:=GoodD.of_sub gd hsub (jv hw h.pos).2 hno;refine⟨go,λv hv x=>⟨λhx=> ?_,?_⟩,λv h0 hv=>xi h.pos hc.vl (λv hv=>(hc.vin v hv).1) h0 hv⟩
   ·refine F9 λhn=> ?_;have hx0:=hle.2 v x (hc.vin v hv).1 hx;have hall: ∀g:Int->Int,(∀u∈c.vars,g u∈vals (domAt d u))->g v=x->dT c.vars c.coefs g=c.rhs:=λg h1 h2=>by
     refine F9 λh3=>hn ⟨g,h1,EF ?_,h2⟩;rw[ei];exact h3
    obtain⟨q,hq,rfl⟩:=lG hc.vl hv;have hex: ∀u:Int,∃y,u∈c.vars->y∈vals (domAt d u):=λu=>by
     by_cases hu:u∈c.vars
     ·obtain⟨y,hy⟩:=gd.ne (hc.vin u hu).2;exact⟨y,λ_=>hy⟩
     ·exact⟨0,λh=>EX h hu⟩
    let g0:Int->Int:=λu=>if u=q.1 then x else(hex u).choose
    have hg0: ∀u∈c.vars,g0 u∈vals (domAt d u):=λu hu=>by
     simp only[g0];split;·rename_i e;rw[e];exact hx0
     ·exact(hex u).choose_spec hu
    have hg0x:g0 q.1=x:=E6 Y;have hs0:=hall g0 hg0 hg0x;have single: ∀p∈c.vars.zip c.coefs,p.1≠q.1->¬1<(vals (domAt d p.1)).length:=λp hp hpq=>by
     have hpv:=(Ew hp).1;have heq: ∀y∈vals (domAt d p.1),y=g0 p.1:=λy hy=>by
      have h1:=hall (λu=>if u=p.1 then y else g0 u) (λu hu=>by
       by_cases e:u=p.1;·rw[E6 e,e];exact hy
       ·rw[E4 e];exact hg0 u hu) ((E4 (Ne.symm hpq)).trans hg0x)
      have h2:dT c.vars c.coefs (λu=>if u=p.1 then y else g0 u)=dT c.vars c.coefs g0-p.2*g0 p.1+p.2*y:=by
       unfold dT;rw[s9 (f:=λr:Int×Int=>r.2*g0 r.1) (f':=λr=>r.2*(if r.1=p.1 then y else g0 r.1)) (jR hc.nod) hp λr hr hrp=> ?_,E6 Y];rw[E4 λe=>hrp (lH hc.nod hr hp e)]
      have hk:=(hc.ck _ (Ew hp).2).1;have h3:p.2*y=p.2*g0 p.1:=(by omega);exact Hx hk h3
     have hu:=aG (gd.few.fine _ (ac (v:=p.1) (by rw[gd.len];exact(hc.vin _ hpv).2))).ok;intro hl;cases hv2:vals (domAt d p.1)with
     |nil=>rw[hv2]at hl;simp at hl
     |cons y l=>
      cases l with
      |nil=>rw[hv2]at hl;simp at hl
      |cons z l=>
       rw[hv2]at hu heq;have h4:=(Ei.1 hu).1 z (.head _);have h5:=heq y (.head _);have h6:=heq z (.tail _ (.head _));omega
    have hzl:(c.vars.zip c.coefs).length=c.vars.length:=(by have:=hc.vl;simp;omega);have hterm: ∀(j:Nat) t,(ae d c.vars c.coefs)[j]? =some t->∃p,(c.vars.zip c.coefs)[j]? =some p/\t=(domAt d p.1,p.2):=λj t ht=>by
     unfold ae at ht;rw[EJ]at ht;cases hp:(c.vars.zip c.coefs)[j]? with
     |none=>rw[hp]at ht;cases ht
     |some p=>rw[hp]at ht;exact⟨p,rfl,(E7 ht).symm⟩
    have hmulti: ∀(j:Nat) t,(ae d c.vars c.coefs)[j]? =some t->1<(vals t.1).length->(c.vars.zip c.coefs)[j]? =some q:=λj t ht hl=>by
     obtain⟨p,hp,rfl⟩:=hterm j t ht;have hpm:=EC hp;by_cases e:p.1=q.1;·rw[hp,lH hc.nod hpm hq e]
     ·exact EX hl (single p hpm e)
    have hone: ∀(j k:Nat),(c.vars.zip c.coefs)[j]? =some q->(c.vars.zip c.coefs)[k]? =some q->j=k:=λj k h1 h2=>by
     have hj:=(E8.1 h1).1;have hk:=(E8.1 h2).1;have e1:(c.vars.zip c.coefs)[j]=(c.vars.zip c.coefs)[k]:=by
      rw[E5 hj]at h1;rw[E5 hk]at h2;exact(E7 h1).trans (E7 h2).symm
     exact(Ga (jR hc.nod)).1 e1
    obtain⟨t1,t2⟩:=lT (ae d c.vars c.coefs) 0 0 0 0;let ts:List ((List (Int×Int)×Int)×Int):=(c.vars.zip c.coefs).map λp=>((domAt d p.1,p.2),g0 p.1);have et:ts.map (·.1)=ae d c.vars c.coefs:=(by simp only[ts,Fi];rfl);have eS:(ts.map λt=>t.1.2*t.2).sum=dT c.vars c.coefs g0:=(by simp only[ts,Fi];rfl);have hvt:yu ts:=by
     intro t ht;obtain⟨p,hp,rfl⟩:=EH.1 ht;exact hg0 _ (Ew hp).1
    have hww:=cw (d:=d) hc.vl;have hb:=hc.big;have har:=bA c.rhs;have key:=fP (B:=ar c.coefs) (by omega) ts 0 0 0 0 (by rw[et];exact dk hw.fine) hvt (by rw[et];omega) (by rw[et];omega);rw[et,eS,hs0]at key;obtain⟨k1,_,k3⟩:=key;have hin:=cA (ae d c.vars c.coefs) 0 0 0 0 c.vars.length h.pos (by simp[ae];have:=hc.vl;omega) (EO _);unfold rotherW at hno hx;simp only at hno hx;by_cases hm2:1<(au 0 (ae d c.vars c.coefs) 0 0 0).1
    ·obtain⟨j,k,t,u,h1,h2,h3,h4,h5⟩:=t2 (by omega);exact h1 (hone j k (hmulti j t h2 h4) (hmulti k u h3 h5))
    ·rw[E4 hm2]at hno hx;by_cases hm0:(au 0 (ae d c.vars c.coefs) 0 0 0).1=0
     ·rw[E6 hm0,E6 (by have:=(k1 hm0).1;omega)]at hno;refine hno ((dt ?_ gd.some').2 Y);rw[gd.len];exact(hc.vin _ (az (c:=c) h.pos)).2
     ·rw[E4 hm0]at hx;obtain⟨j,t,j1,j2,j3⟩:=t1 (by omega);obtain⟨j',t',i1,i2,i3⟩:=k3 (by omega);have ejj:j'=j:=(by omega);subst ejj;have hjq:=hmulti _ t j2 j3;have hj:j'<c.vars.length:=(by have:=(E8.1 hjq).1;omega);have ev:varAt c j'=q.1/\coefAt c j'=q.2:=by
       have h1:=(E8.1 hjq).2;have hjc:j'<c.coefs.length:=(by have:=hc.vl;omega);rw[Gb]at h1;rw[<-h1];exact⟨aO hj,aO hjc⟩
      have et':t'=((domAt d q.1,q.2),x):=by
       simp only[ts,EJ,hjq,FJ,E9]at i2;rw[<-i2,hg0x]
      rw[et']at i3;simp only[HK]at i3;rw[j1,Fy,ev.1,ev.2]at hx;have hqv:=hc.vin _ (Ew hq).1;have hxd:=gd.few.fine _ (ac (v:=q.1) (by rw[gd.len];exact hqv.2));have e:domAt (d.set q.1.toNat (bX ((vals (domAt d q.1)).filter λv=>decide (wr ((au 0 (ae d c.vars c.coefs) 0 0 0).2.1+wr (q.2*v))≠c.rhs)))) q.1=bX ((vals (domAt d q.1)).filter λv=>decide (wr ((au 0 (ae d c.vars c.coefs) 0 0 0).2.1+wr (q.2*v))≠c.rhs)):=by
       unfold domAt;rw[E0,F2 (by rw[gd.len];exact hqv.2)];rfl
      rw[e,bH (fo (aG hxd.ok)),FB,ER]at hx;have b:=hxd.val _ hx0;have hk:=hc.ck _ (Ew hq).2;have m:=eB q.2 x b.1 b.2;have hk2:=hk.2;have hrb: -c.rhs<=aL c.rhs/\c.rhs<=aL c.rhs:=(by unfold aL;omega);have hwk:=bf c.coefs;refine hx.2 ?_;simp only[wr];rw[af (n:=q.2*x) (by omega) (by omega),af (by omega) (by omega)];omega
   ·rintro⟨g,h3,h4,rfl⟩;have h4:=FV h4;rw[ei]at h4;exact(keep d gd g h3 h4).2 v hv
 ·refine EE λhne=> ?_;rw[ei]at hne;have:=(keep d gd g hg hne).1;unfold neO at he;rw[E4 this]at he;cases he
open Classical in
noncomputable def fE (c:Con)(d:aa):Option aa:=if h: ∃R:Option aa,∃N,LinAns d c R N then h.choose else none
theorem gB {d:aa}{c:Con}(h:SumOk d c): ∃N,LinAns d c (fE c d) N:=by
 obtain⟨R,N,N',h1,h2,h3⟩:=tG h;have hex: ∃R:Option aa,∃N,LinAns d c R N:=⟨R,N,h1⟩;unfold fE;rw[dif_pos hex];exact hex.choose_spec
theorem nI {vars coefs:List Int}(g:Int->Int)(h: ∀k∈coefs,CoefOk k):dT vars (aw coefs) g= -dT vars coefs g:=by
 unfold dT aw
 induction vars generalizing coefs with
 |nil=>simp
 |cons v vars ih=>
  cases coefs with
  |nil=>simp
  |cons k coefs=>
   have e:=(cZ (h k (.head _))).1;have:=ih λk hk=>h k (.tail _ hk);simp only[Ek,G6,FX]at this⊢;rw[this,e,Hf];omega
theorem SumC.back {n:Nat}{vars coefs:List Int}{rhs:Int}(h:SumC n vars coefs rhs):SumC n vars (aw coefs) (wr (0-rhs)):=by
 have hb:=h.big;have hp:=bf coefs;refine⟨by rw[h.vl];simp[aw],h.vin,λk hk=> ?_,h.nod,?_,h.few⟩
 ·obtain⟨k0,hk0,rfl⟩:=EH.1 hk;exact(cZ (h.ck _ hk0)).2
 ·rw[dE _ h.ck,(oW (by omega)).2];exact hb
theorem mh {n:Nat}{c:Con}(h:LinC n c):StepOK n c.vars (λg=>dM c.op (dT c.vars c.coefs g) c.rhs=true) (fE c):=by
 have hc:=h.sum;have hopc:c.op=0∨c.op=1∨c.op=2:=(by have:=h.op;omega);rcases hopc with h0|h0|h0
 ·refine((pe hc h.ne).congr λd gd=> ?_).iff λg=> ?_
  ·obtain⟨N,hN⟩:=gB (h.ok gd);unfold LinAns at hN;rw[E4 gd.some',E4 (by omega)]at hN;rw[Cw hc h0 gd hN];rfl
  ·unfold dM;rw[E6 h0,ER]
 ·have hE: ∀d,GoodD n d->eV leD (GoodD n) (qI c) [true,false] d (fE c d):=λd gd=>by
   obtain⟨N,hN⟩:=gB (h.ok gd);unfold LinAns at hN;rw[E4 gd.some',E4 (by omega)]at hN;exact zZ hc hc.back h0 d N d _ (Come.refl (aW n) gd) hN
  refine(eV.step hE (P:=λb g=>if b=true then dT c.vars c.coefs g<=c.rhs else dT c.vars (aw c.coefs) g<=wr (0-c.rhs)) (us:=c.vars) (λb _=> ?_) hc.vin).iff λg=> ?_
  ·cases b;·exact(pe hc.back h.ne).iff λg=>by simp
   ·exact(pe hc h.ne).iff λg=>by simp
  ·have hb:=hc.big;have hp:=bf c.coefs;have e1:=(oW (rhs:=c.rhs) (by omega)).1;have e2:=nI (vars:=c.vars) g hc.ck;unfold dM;rw[E4 (by omega),h0];simp only[ET,HI,or_false,forall_eq_or_imp,forall_eq,if_true,FC,if_false,e1,e2];simp;omega
 ·refine((Dw h h0).step.congr λd gd=> ?_).iff λg=> ?_
  ·obtain⟨N,hN⟩:=gB (h.ok gd);have hw:bM c d:=hc.whole gd;unfold LinAns at hN;rw[E4 gd.some',E6 h0,gq hw h.pos]at hN;exact hN
  ·unfold dM;rw[E4 (by omega),h0,ei];simp
theorem BM {c:Con}(g:Int->Int)(hck: ∀k∈c.coefs,CoefOk k)(hop:0<=c.op/\c.op<=2)(hr:aL c.rhs<=4611686018427387904):dM (bi c).op (dT (bi c).vars (bi c).coefs g) (bi c).rhs= !dM c.op (dT c.vars c.coefs g) c.rhs:=by
 have har:aL c.rhs=max c.rhs (-c.rhs):=rfl;have hopc:c.op=0∨c.op=1∨c.op=2:=(by omega);rcases hopc with h0|h0|h0
 ·have en:bi c= { c with coefs:=aw c.coefs,rhs:=wr (wr (0-c.rhs)-1) }:=(by unfold bi;rw[E6 h0]);have e1:wr (0-c.rhs)= -c.rhs:=(by rw[wr,af (by omega) (by omega)];omega);have e2:wr (wr (0-c.rhs)-1)= -c.rhs-1:=(by rw[e1,wr,af (by omega) (by omega)]);rw[en];simp only[dM,h0,if_true,e2,nI g hck];by_cases hh:dT c.vars c.coefs g<=c.rhs;·rw[EF hh,EE (by omega)];rfl
  ·rw[EE hh,EF (by omega)];rfl
 ·have en:bi c= { c with op:=2 }:=(by unfold bi;rw[E4 (by omega),E6 h0]);rw[en];simp[dM,h0]
 ·have en:bi c= { c with op:=1 }:=(by unfold bi;rw[E4 (by omega),E4 (by omega),E6 h0]);rw[en];simp[dM,h0]
theorem nH {a b:aa}{vars coefs:List Int}(h: ∀u∈vars,domAt a u=domAt b u):ae a vars coefs=ae b vars coefs:=
 F6 λp hp=>by rw[h _ (Ew hp).1]
theorem Ap {n:Nat}{a b:aa}{vars coefs:List Int}{rhs:Int}(hc:SumC n vars coefs rhs)(ga:GoodD n a)(gb:GoodD n b)(h:leD a b):bq (ae b vars coefs)<=bq (ae a vars coefs)/\eY (ae a vars coefs)<=eY (ae b vars coefs):=by
 have low: ∀ks:List Int,bq (ae b vars ks)<=bq (ae a vars ks):=λks=>by
  rw[fD,fD];refine(e7 λp hp=> ?_).1;have hv:=hc.vin _ (Ew hp).1;have hm:domAt a p.1∈a:=ac (by rw[ga.len];exact hv.2);exact rY (ga.few.fine _ hm).ok (gb.few.fine _ (ac (by rw[gb.len];exact hv.2))).ok (λe=>ga.some' (e▸hm)) (λx hx=>h.2 p.1 x hv.1 hx) p.2
 have h2:=low (aw coefs);rw[p8 hc.ck,p8 hc.ck]at h2;exact⟨low coefs,by omega⟩
theorem yD {n:Nat}{a b:aa}{c:Con}(hc:LinC n c)(ga:GoodD n a)(gb:GoodD n b)(h:leD a b)(hs:soW (endsW b c.vars c.coefs) c=true):soW (endsW a c.vars c.coefs) c=true:=by
 obtain⟨h1,h2⟩:=Ap hc.sum ga gb h;have hle:bq (ae a c.vars c.coefs)<=eY (ae a c.vars c.coefs):=(lJ (dk (hc.sum.whole ga).fine) (fC (hc.sum.whole ga))).2.1;rw[qB (hc.sum.whole gb)]at hs;rw[qB (hc.sum.whole ga)];unfold soW at hs⊢;simp only[HS,if_false]at hs⊢;split
 ·rename_i h0;rw[E6 h0]at hs;exact EF (by have:=FV hs;omega)
 ·rename_i h0;rw[E4 h0]at hs;split
  ·rename_i h3;rw[E6 h3]at hs;simp only[EL,ER]at hs⊢;omega
  ·rename_i h3;rw[E4 h3]at hs;simp only[Fs,ER]at hs⊢;omega
theorem r7 {n:Nat}{c:Con}(hc:LinC n c){d:aa}(gd:GoodD n d)(hs:soW (endsW d c.vars c.coefs) c=true):fE c d=some d:=by
 obtain⟨R,N,N',h1,h2,h3⟩:=tG (hc.ok gd);obtain⟨M,hM⟩:=gB (hc.ok gd);have e:=tF hM h1;rw[e];exact BA (hc.ok gd) gd.some' h1 h3 hs
noncomputable def jy (c:Con)(d:aa):Option aa:=if truthR (domAt d c.b)=true then nP d c (fE (aS c) d) (fE (bi (aS c)) d)else some d
theorem k7 {x:List (Int×Int)}(h:aB x):truthR x=true↔∀v∈vals x,0<=v/\v<=1:=by
 constructor
 ·intro ht v hv;obtain⟨r,hr,h1,h2⟩:=be.1 hv;have:=EN.1 ht r hr;simp at this;omega
 ·intro hv;refine EN.2 λr hr=> ?_;have h0:=h.1 r hr;have h1:=hv r.1 (be.2 ⟨r,hr,FS _,h0⟩);have h2:=hv r.2 (be.2 ⟨r,hr,h0,FS _⟩);simp;omega
theorem GoodD.at_ {n:Nat}{d:aa}(h:GoodD n d){v:Int}(hv:v.toNat<n):aB (domAt d v)/\domAt d v≠[]:=by
 have hm:domAt d v∈d:=ac (by rw[h.len];exact hv);exact⟨(h.few.fine _ hm).ok,λe=>h.some' (e▸hm)⟩
theorem oT {d:aa}{b v:Int}{x:List (Int×Int)}(hb:0<=b)(hl:b.toNat<d.length)(hv:0<=v):domAt (d.set b.toNat x) v=if v=b then x else domAt d v:=by
 unfold domAt;rw[E0];split;·rename_i e;subst e;rw[F2 hl];rfl
 ·rename_i e;rw[Et (by omega),<-E0]
theorem rv {d:aa}{b:Int}(hl:b.toNat<d.length):d.set b.toNat (domAt d b)=d:=by
 refine Fo λi=> ?_;by_cases e:b.toNat=i;·subst e;rw[F2 hl,aj hl]
 ·rw[Et e]
theorem eD {n:Nat}{d:aa}{b w:Int}(gd:GoodD n d)(hb:0<=b/\b.toNat<n){out:aa}(he:dL d b w=some out):GoodD n out/\leD out d/\(∀v,0<=v->v≠b->domAt out v=domAt d v)/\(∀x,x∈vals (domAt out b)↔x∈vals (domAt d b)/\x=w):=by
 have hbl:b.toNat<d.length:=(by rw[gd.len];exact hb.2);obtain⟨hok,hne⟩:=gd.at_ hb.2;unfold dL at he;split at he;·cases he
 ·rename_i hx;obtain rfl:=E7 he;obtain⟨c1,c2⟩:=bR hok w w;generalize domCut (domAt d b) w w=x at*;have hsub:Sub (d.set b.toNat x) d:=lK λy hy v hv=>by
   rw[aj hbl]at hy;exact E7 hy▸((c2 v).1 hv).1
  have hfx:Fine x:=(gd.few.fine _ (ac hbl)).cut c1 λv hv=>((c2 v).1 hv).1;obtain⟨g1,g2⟩:=GoodD.of_sub gd hsub (fA gd.few.fine hfx) (λhm=>hx ((dt hbl gd.some').1 hm));refine⟨g1,g2,λv h0 hv=>by rw[oT hb.1 hbl h0,E4 hv],λy=> ?_⟩;rw[oT hb.1 hbl hb.1,E6 Y,c2];constructor;·rintro⟨h1,h2,h3⟩;exact⟨h1,by omega⟩
  ·rintro⟨h1,rfl⟩;exact⟨h1,FS _,FS _⟩
theorem sc {n:Nat}{d:aa}{b w:Int}(gd:GoodD n d)(hb:0<=b/\b.toNat<n)(hw:w∈vals (domAt d b)): ∃out,dL d b w=some out:=by
 obtain⟨hok,hne⟩:=gd.at_ hb.2;unfold dL;rw[E4];·exact⟨_,rfl⟩
 ·intro e;have:=((bR hok w w).2 w).2 ⟨hw,FS _,FS _⟩;rw[e]at this;cases this
theorem mn {n:Nat}{d:aa}{b w:Int}(gd:GoodD n d)(hb:0<=b/\b.toNat<n){out:aa}(he:dL d b w=some out):w∈vals (domAt d b):=by
 obtain⟨g1,g2,g3,g4⟩:=eD gd hb he;obtain⟨x,hx⟩:=g1.ne hb.2;obtain⟨h1,rfl⟩:=(g4 x).1 hx;exact h1
theorem d7 {n:Nat}{d:aa}{b w:Int}(gd:GoodD n d)(hb:0<=b/\b.toNat<n):dL d b w=some d↔vals (domAt d b)=[w]:=by
 obtain⟨hok,hne⟩:=gd.at_ hb.2;constructor
 ·intro he;obtain⟨g1,g2,g3,g4⟩:=eD gd hb he;refine dX (aG hok) (Fm _ _) λx=> ?_;rw[g4 x,EI];exact⟨λh=>h.2,λh=>⟨h▸mn gd hb he,h⟩⟩
 ·intro hv;obtain⟨out,ho⟩:=sc gd hb (w:=w) (by rw[hv];exact .head _);obtain⟨g1,g2,g3,g4⟩:=eD gd hb ho;rw[ho];congr 1;refine jM g1 gd λv x h0=> ?_;by_cases e:v=b
  ·subst e;rw[g4 x,hv,EI];exact⟨λh=>h.1,λh=>⟨h,h⟩⟩
  ·rw[g3 v h0 e]
theorem dD {x:List (Int×Int)}{v:Int}:hasV x v=true↔v∈vals x:=by
 unfold hasV;rw[Fa,be];simp
structure ReifC (n:Nat)(c:Con):Prop where
 yes:LinC n (aS c)
 no:LinC n (bi (aS c))
 b:0<=c.b/\c.b.toNat<n
 apart:c.b∉c.vars
 small:aL c.rhs<=4611686018427387904
theorem Bp (c:Con):(bi c).vars=c.vars:=by
 unfold bi;split;·rfl
 ·split;·rfl
  ·split<;>rfl
theorem A4 {n:Nat}{c:Con}(h:ReifC n c){d:aa}(gd:GoodD n d)(hy:yesW d c=true)(hn:noW d c=true):False:=by
 have hdl:0<d.length:=(by rw[gd.len];have:=h.b;omega);obtain⟨a,ha⟩:=zo gd.few.fine gd.some' hdl;have h1:=pk (h.yes.ok gd).fine (by have:=h.yes.sum.big;have:=bA (aS c).rhs;omega) h.yes.op ha hy;have h2:=zP (h.yes.ok gd) ha hn;rw[h1]at h2;cases h2
theorem zC {n:Nat}{c:Con}(h:ReifC n c):StepOK n (c.vars++[c.b]) (λg=>(0<=g c.b/\g c.b<=1)->(dM c.op (dT c.vars c.coefs g) c.rhs=true/\g c.b=1)∨(dM c.op (dT c.vars c.coefs g) c.rhs=false/\g c.b=0)) (jy c):=by
 have sy:=mh h.yes;have sn:=mh h.no;have hvn:(bi (aS c)).vars=c.vars:=Bp (aS c);rw[hvn]at sn;have hb:=h.b;have tr: ∀d,GoodD n d->(truthR (domAt d c.b)=true↔∀v∈vals (domAt d c.b),0<=v/\v<=1):=λd gd=>k7 (gd.at_ hb.2).1;have ym: ∀a b,GoodD n a->GoodD n b->leD a b->yesW b c=true->yesW a c=true:=λa b ga gb hle hy=>yD (c:=aS c) h.yes ga gb hle hy;have nm: ∀a b,GoodD n a->GoodD n b->leD a b->noW b c=true->noW a c=true:=λa b ga gb hle hy=>yD (c:=bi (aS c)) h.no ga gb hle hy;have yst: ∀a,GoodD n a->yesW a c=true->fE (aS c) a=some a:=λa ga hy=>r7 (c:=aS c) h.yes ga hy;have nst: ∀a,GoodD n a->noW a c=true->fE (bi (aS c)) a=some a:=λa ga hy=>r7 (c:=bi (aS c)) h.no ga hy;have hf: ∀d,GoodD n d->jy c d=if truthR (domAt d c.b)=true then(if yesW d c=true then dL d c.b 1 else if noW d c=true then dL d c.b 0 else if hasV (domAt d c.b) 0=false then fE (aS c) d else if hasV (domAt d c.b) 1=false then fE (bi (aS c)) d else some d)else some d:=λd gd=>by
  unfold jy nP;rw[E4 gd.some']
 have hin: ∀u∈c.vars++[c.b],0<=u/\u.toNat<n:=λu hu=>by
  rcases EW.1 hu with hu|hu;·exact sy.in' u hu
  ·rw[EI.1 hu];exact hb
 refine StepOK.congr (f:=λd=>if truthR (domAt d c.b)=true then(if yesW d c=true then dL d c.b 1 else if noW d c=true then dL d c.b 0 else if hasV (domAt d c.b) 0=false then fE (aS c) d else if hasV (domAt d c.b) 1=false then fE (bi (aS c)) d else some d)else some d) ⟨⟨λa a' ga he=> ?_,λa a' b ga gb hle he=> ?_⟩,λa b ga gb ha hab=> ?_,λa out ga he v h0 hv=> ?_,λe ge g he=> ?_,hin⟩ hf
 ·split at he
  ·split at he
   ·obtain⟨g1,g2,_⟩:=eD ga hb he;exact⟨g1,g2⟩
   ·split at he
    ·obtain⟨g1,g2,_⟩:=eD ga hb he;exact⟨g1,g2⟩
    ·split at he;·exact sy.takes.less a a' ga he
     ·split at he;·exact sn.takes.less a a' ga he
      ·obtain rfl:=E7 he;exact⟨ga,(aW n).refl a⟩
  ·obtain rfl:=E7 he;exact⟨ga,(aW n).refl a⟩
 ·
  have hless:leD a' a:=by
   split at he
   ·split at he;·exact(eD ga hb he).2.1
    ·split at he;·exact(eD ga hb he).2.1
     ·split at he;·exact(sy.takes.less a a' ga he).2
      ·split at he;·exact(sn.takes.less a a' ga he).2
       ·exact E7 he▸(aW n).refl a
   ·exact E7 he▸(aW n).refl a
  have stay: ∃b',some b=some b'/\leD a' b':=⟨b,rfl,(aW n).trans _ _ _ hless hle⟩;by_cases htb:truthR (domAt b c.b)=true
  ·have hta:truthR (domAt a c.b)=true:=(tr a ga).2 λv hv=>(tr b gb).1 htb v (hle.2 _ v hb.1 hv);rw[E6 hta]at he;rw[E6 htb];have kmono: ∀w,dL a c.b w=some a'->∃b',dL b c.b w=some b'/\leD a' b':=λw hk=>by
    obtain⟨g1,g2,g3,g4⟩:=eD ga hb hk;obtain⟨b',hb'⟩:=sc gb hb (hle.2 _ w hb.1 (mn ga hb hk));obtain⟨k1,k2,k3,k4⟩:=eD gb hb hb';refine⟨b',hb',by rw[g1.len,k1.len],λv x h0 hx=> ?_⟩;by_cases e:v=c.b
    ·subst e;obtain⟨h1,h2⟩:=(g4 x).1 hx;exact(k4 x).2 ⟨hle.2 _ x h0 h1,h2⟩
    ·rw[g3 v h0 e]at hx;rw[k3 v h0 e];exact hle.2 v x h0 hx
   by_cases hyb:yesW b c=true
   ·rw[E6 hyb];rw[E6 (ym a b ga gb hle hyb)]at he;exact kmono 1 he
   ·rw[E4 hyb];by_cases hnb:noW b c=true
    ·rw[E6 hnb];have hna:=nm a b ga gb hle hnb;rw[E4 (λhy=>A4 h ga hy hna),E6 hna]at he;exact kmono 0 he
    ·rw[E4 hnb];by_cases h0b:hasV (domAt b c.b) 0=false
     ·rw[E6 h0b];have h0a:hasV (domAt a c.b) 0=false:=by
       cases hh:hasV (domAt a c.b) 0 with
       |false=>rfl
       |true=>rw[dD.2 (hle.2 _ 0 hb.1 (dD.1 hh))]at h0b;cases h0b
      have hle':a'=a∨fE (aS c) a=some a':=by
       by_cases hya:yesW a c=true
       ·rw[E6 hya]at he;refine .inl ?_;have hv:vals (domAt a c.b)=[1]:=by
         obtain⟨x,hx⟩:=ga.ne hb.2;have hone: ∀y∈vals (domAt a c.b),y=1:=λy hy=>by
          have h1:=(tr a ga).1 hta y hy;have h2:y≠0:=λe=>(by rw[e]at hy;rw[dD.2 hy]at h0a;cases h0a);omega
         exact dX (aG (ga.at_ hb.2).1) (Fm _ _) λy=>⟨λhy=>EI.2 (hone y hy),λhy=>by rw[EI.1 hy,<-hone x hx];exact hx⟩
        rw[(d7 ga hb).2 hv]at he;exact(E7 he).symm
       ·rw[E4 hya]at he;by_cases hna:noW a c=true
        ·rw[E6 hna]at he;have:=mn ga hb he;rw[dD.2 this]at h0a;cases h0a
        ·rw[E4 hna,E6 h0a]at he;exact .inr he
      rcases hle' with e|hl
      ·subst e;by_cases hya:yesW a' c=true;·exact sy.takes.mono a' a' b ga gb hle (yst a' ga hya)
       ·rw[E4 hya]at he;by_cases hna:noW a' c=true
        ·rw[E6 hna]at he;have:=mn ga hb he;rw[dD.2 this]at h0a;cases h0a
        ·rw[E4 hna,E6 h0a]at he;exact sy.takes.mono a' a' b ga gb hle he
      ·exact sy.takes.mono a a' b ga gb hle hl
     ·rw[E4 h0b];by_cases h1b:hasV (domAt b c.b) 1=false
      ·rw[E6 h1b];have h1a:hasV (domAt a c.b) 1=false:=by
        cases hh:hasV (domAt a c.b) 1 with
        |false=>rfl
        |true=>rw[dD.2 (hle.2 _ 1 hb.1 (dD.1 hh))]at h1b;cases h1b
       have hone: ∀y∈vals (domAt a c.b),y=0:=λy hy=>by
        have h1:=(tr a ga).1 hta y hy;have h2:y≠1:=λe=>(by rw[e]at hy;rw[dD.2 hy]at h1a;cases h1a);omega
       have hv:vals (domAt a c.b)=[0]:=by
        obtain⟨x,hx⟩:=ga.ne hb.2;exact dX (aG (ga.at_ hb.2).1) (Fm _ _) λy=>⟨λhy=>EI.2 (hone y hy),λhy=>by rw[EI.1 hy,<-hone x hx];exact hx⟩
       have h0a: ¬hasV (domAt a c.b) 0=false:=λe=>by
        have:=dD (x:=domAt a c.b) (v:=0);rw[e,hv]at this;simp at this
       by_cases hya:yesW a c=true
       ·rw[E6 hya]at he;have:=mn ga hb he;rw[dD.2 this]at h1a;cases h1a
       ·rw[E4 hya]at he;by_cases hna:noW a c=true
        ·rw[E6 hna,(d7 ga hb).2 hv]at he;obtain rfl:=E7 he;exact sn.takes.mono a a b ga gb hle (nst a ga hna)
        ·rw[E4 hna,E4 h0a,E6 h1a]at he;exact sn.takes.mono a a' b ga gb hle he
      ·rw[E4 h1b];exact stay
  ·rw[E4 htb];exact stay
 ·
  have hB:=hab c.b (Ey _ (.head _));have hV: ∀u∈c.vars,domAt a u=domAt b u:=λu hu=>hab u (Ex _ hu);have ey:yesW b c=yesW a c:=(by unfold yesW endsW;rw[nH hV]);have en:noW b c=noW a c:=(by unfold noW endsW;rw[hvn,nH hV]);rw[ey,en,<-hB];split
  ·rename_i ht;rw[E6 ht]at ha;split
   ·rename_i hy;rw[E6 hy,d7 ga hb]at ha;rw[d7 gb hb,<-hB];exact ha
   ·rename_i hy;rw[E4 hy]at ha;split
    ·rename_i hn;rw[E6 hn,d7 ga hb]at ha;rw[d7 gb hb,<-hB];exact ha
    ·rename_i hn;rw[E4 hn]at ha;split
     ·rename_i h0;rw[E6 h0]at ha;exact sy.stays a b ga gb ha hV
     ·rename_i h0;rw[E4 h0]at ha;split
      ·rename_i h1;rw[E6 h1]at ha;exact sn.stays a b ga gb ha hV
      ·rfl
  ·rfl
 ·have hv1:v∉c.vars:=λhm=>hv (Ex _ hm);have hv2:v≠c.b:=λe=>hv (Ey _ (e▸.head _));split at he
  ·split at he;·exact(eD ga hb he).2.2.1 v h0 hv2
   ·split at he;·exact(eD ga hb he).2.2.1 v h0 hv2
    ·split at he;·exact sy.off a out ga he v h0 hv1
     ·split at he;·exact sn.off a out ga he v h0 hv1
      ·obtain rfl:=E7 he;rfl
  ·obtain rfl:=E7 he;rfl
 ·
  have hB:=he c.b (Ey _ (.head _));have hV: ∀u∈c.vars,vals (domAt e u)=[g u]:=λu hu=>he u (Ex _ hu);have py:=sy.point e ge g hV;have pn:=sn.point e ge g hV;have hhn:=BM (c:=aS c) g h.yes.sum.ck h.yes.op h.small;rw[hvn]at hhn;have htr:=tr e ge;rw[hB]at htr;simp only[EI,forall_eq]at htr;by_cases ht:truthR (domAt e c.b)=true
  ·have h01:=htr.1 ht;rw[E6 ht];have hsy:yesW e c=true->dM c.op (dT c.vars c.coefs g) c.rhs=true:=λhy=>(py.1 (yst e ge hy));have hsn:noW e c=true->dM c.op (dT c.vars c.coefs g) c.rhs=false:=λhn=>by
    have:=pn.1 (nst e ge hn);rw[hhn]at this;have:=FZ _▸this;exact this
   have e0:hasV (domAt e c.b) 0=false↔g c.b=1:=by
    have:=dD (x:=domAt e c.b) (v:=0);rw[hB,EI]at this;rw[<-Hc,this];omega
   have e1:hasV (domAt e c.b) 1=false↔g c.b=0:=by
    have:=dD (x:=domAt e c.b) (v:=1);rw[hB,EI]at this;rw[<-Hc,this];omega
   by_cases hy:yesW e c=true
   ·rw[E6 hy,d7 ge hb,hB,hsy hy];simp;omega
   ·rw[E4 hy];by_cases hn:noW e c=true
    ·rw[E6 hn,d7 ge hb,hB,hsn hn];simp;omega
    ·rw[E4 hn];by_cases h1:g c.b=1
     ·rw[E6 (e0.2 h1),py];simp[h1];exact Y
     ·have h2:g c.b=0:=(by omega);rw[E4 (λhh=>h1 (e0.1 hh)),E6 (e1.2 h2),pn,hhn];simp[h2];exact Y
  ·rw[E4 ht];have: ¬(0<=g c.b/\g c.b<=1):=λhh=>ht (htr.2 hh);simp[this]
theorem StepOK.guard {n:Nat}{us:List Int}{P Q:(Int->Int)->Prop}{f:aa->Option aa}{C:aa->Bool}(h:StepOK n us P f)(hm: ∀a b,GoodD n a->GoodD n b->leD a b->C b=true->C a=true)
  (hl: ∀a b,GoodD n a->GoodD n b->(∀u∈us,domAt a u=domAt b u)->C a=C b) (hp: ∀e,GoodD n e->∀g:Int->Int,(∀u∈us,vals (domAt e u)=[g u])->(C e=true↔Q g)):StepOK n us (λg=>Q g->P g) (λd=>if C d=true then f d else some d):=by
 refine⟨⟨λa a' ga he=> ?_,λa a' b ga gb hle he=> ?_⟩,λa b ga gb ha hab=> ?_,λa out ga he v h0 hv=> ?_,λe ge g he=> ?_,h.in'⟩
 ·split at he;·exact h.takes.less a a' ga he
  ·obtain rfl:=E7 he;exact⟨ga,(aW n).refl a⟩
 ·by_cases hc:C b=true
  ·rw[E6 (hm a b ga gb hle hc)]at he;rw[E6 hc];exact h.takes.mono a a' b ga gb hle he
  ·rw[E4 hc];refine⟨b,rfl,(aW n).trans _ _ _ ?_ hle⟩;split at he;·exact(h.takes.less a a' ga he).2
   ·exact E7 he▸(aW n).refl a
 ·rw[<-hl a b ga gb hab];split
  ·rename_i hc;rw[E6 hc]at ha;exact h.stays a b ga gb ha hab
  ·rfl
 ·split at he;·exact h.off a out ga he v h0 hv
  ·obtain rfl:=E7 he;rfl
 ·have hq:=hp e ge g he;by_cases hc:C e=true
  ·rw[E6 hc,h.point e ge g he];exact⟨λh _=>h,λh=>h (hq.1 hc)⟩
  ·rw[E4 hc];exact⟨λ_ h=>EX (hq.2 h) hc,λ_=>rfl⟩
def qY (a b:Int)(d:aa):Option aa:=
 if a=b then some d else
 if domCut (domAt d a) (-1048576) (aP (domAt d b))=[]∨domCut (domAt d b) (av (domAt d a)) 1048576=[]then none else
 some ((d.set a.toNat (domCut (domAt d a) (-1048576) (aP (domAt d b)))).set b.toNat (domCut (domAt d b) (av (domAt d a)) 1048576))
theorem CH {n:Nat}{us:List Int}{P:(Int->Int)->Prop}(hp: ∀g,P g)(hin: ∀u∈us,0<=u/\u.toNat<n):StepOK n us P some:=
 ⟨⟨λa a' ga he=>by obtain rfl:=E7 he;exact⟨ga,(aW n).refl a⟩,λa a' b ga gb hle he=>by obtain rfl:=E7 he;exact⟨b,rfl,hle⟩⟩,λ_ _ _ _ _ _=>rfl,λa out ga he v _ _=>by obtain rfl:=E7 he;rfl,λ_ _ g _=>⟨λ_=>hp g,λ_=>rfl⟩,hin⟩
theorem DA {n:Nat}{a b:Int}(hab:a≠b)(ha:0<=a/\a.toNat<n)(hb:0<=b/\b.toNat<n):SuppS n [a,b] (λl=>decide (l.getD 0 0<=l.getD 1 0)) (qY a b):=by
 have two: ∀g:Int->Int,(decide ((([a,b]:List Int).map g).getD 0 0<=(([a,b]:List Int).map g).getD 1 0)=true)↔g a<=g b:=λg=>(by simp);have ends: ∀d,GoodD n d->∀v:Int,0<=v/\v.toNat<n->aB (domAt d v)/\av (domAt d v)∈vals (domAt d v)/\aP (domAt d v)∈vals (domAt d v)/\∀x∈vals (domAt d v),-1048576<=x/\x<=1048576/\av (domAt d v)<=x/\x<=aP (domAt d v):=λd gd v hv=>by
  obtain⟨h1,h2⟩:=gd.at_ hv.2;have h3:=(gd.few.fine _ (ac (v:=v) (by rw[gd.len];exact hv.2))).val;exact⟨h1,gg h1 h2,qg h1 h2,λx hx=>⟨(h3 x hx).1,(h3 x hx).2,mj h1 hx,oM h1 hx⟩⟩
 have pick: ∀(P:Int->Prop) (x y:Int),∃g:Int->Int,g a=x/\g b=y:=λ_ x y=>⟨λu=>if u=a then x else y,E6 Y,E4 (Ne.symm hab)⟩;have hin: ∀u∈[a,b],0<=u/\u.toNat<n:=λu hu=>by
  rcases ET.1 hu with rfl|hu;·exact ha
  ·rw[EI.1 hu];exact hb
 refine⟨λd out gd he=> ?_,λd gd he g hg=> ?_,hin,by simp⟩
 ·obtain⟨oa,la,ma,va⟩:=ends d gd a ha;obtain⟨ob,lb,mb,vb⟩:=ends d gd b hb;have hal:a.toNat<d.length:=(by rw[gd.len];exact ha.2);have hbl:b.toNat<d.length:=(by rw[gd.len];exact hb.2);unfold qY at he;rw[E4 hab]at he;split at he;·cases he
  ·rename_i hne;obtain rfl:=E7 he;obtain⟨x1,x2⟩:=bR oa (-1048576) (aP (domAt d b));obtain⟨y1,y2⟩:=bR ob (av (domAt d a)) 1048576;generalize domCut (domAt d a) (-1048576) (aP (domAt d b))=x at*;generalize domCut (domAt d b) (av (domAt d a)) 1048576=y at*;have hd1: ∀v,0<=v->domAt ((d.set a.toNat x).set b.toNat y) v=if v=b then y else if v=a then x else domAt d v:=λv h0=>by
    rw[oT hb.1 (by rw[FA];exact hbl) h0];split;·rfl
    ·rw[oT ha.1 hal h0]
   have s1:Sub (d.set a.toNat x) d:=lK λz hz v hv=>by
    rw[aj hal]at hz;exact E7 hz▸((x2 v).1 hv).1
   have s2:Sub ((d.set a.toNat x).set b.toNat y) (d.set a.toNat x):=lK λz hz v hv=>by
    rw[Et (by omega),aj hbl]at hz;exact E7 hz▸((y2 v).1 hv).1
   have fx:Fine x:=(gd.few.fine _ (ac hal)).cut x1 λv hv=>((x2 v).1 hv).1;have fy:Fine y:=(gd.few.fine _ (ac hbl)).cut y1 λv hv=>((y2 v).1 hv).1;have hno: []∉(d.set a.toNat x).set b.toNat y:=λhm=>by
    have h1: []∉d.set a.toNat x:=λhm=>hne (.inl ((dt hal gd.some').1 hm));exact hne (.inr ((dt (by rw[FA];exact hbl) h1).1 hm))
   refine⟨(GoodD.of_sub gd (Sub.trans s2 s1) (fA (fA gd.few.fine fx) fy) hno).1,λv hv z=> ?_,λv h0 hv=> ?_⟩
   ·rcases ET.1 hv with rfl|hv
    ·rw[hd1 v ha.1,E4 hab,E6 Y,x2];constructor
     ·rintro⟨h1,_,h2⟩;obtain⟨g,g1,g2⟩:=pick (λ_=>True) z (aP (domAt d b));refine⟨g,λu hu=> ?_,(two g).2 (by omega),g1⟩;rcases ET.1 hu with rfl|hu;·rw[g1];exact h1
      ·rw[EI.1 hu,g2];exact mb
     ·rintro⟨g,g1,g2,rfl⟩;have g2:=(two g).1 g2;have h1:=g1 v (.head _);have h2:=g1 b (.tail _ (.head _));exact⟨h1,(va _ h1).1,by have:=vb _ h2;omega⟩
    ·obtain rfl:=EI.1 hv;rw[hd1 v hb.1,E6 Y,y2];constructor
     ·rintro⟨h1,h2,_⟩;obtain⟨g,g1,g2⟩:=pick (λ_=>True) (av (domAt d a)) z;refine⟨g,λu hu=> ?_,(two g).2 (by omega),g2⟩;rcases ET.1 hu with rfl|hu;·rw[g1];exact la
      ·rw[EI.1 hu,g2];exact h1
     ·rintro⟨g,g1,g2,rfl⟩;have g2:=(two g).1 g2;have h1:=g1 a (.head _);have h2:=g1 v (.tail _ (.head _));exact⟨h2,by have:=va _ h1;omega,(vb _ h2).2.1⟩
   ·have n1:v≠b:=λe=>hv (by rw[e];exact .tail _ (.head _));have n2:v≠a:=λe=>hv (by rw[e];exact .head _);rw[hd1 v h0,E4 n1,E4 n2]
 ·refine EE λhle=> ?_;have hle:=(two g).1 (EF hle);have h1:=hg a (.head _);have h2:=hg b (.tail _ (.head _));obtain⟨oa,la,ma,va⟩:=ends d gd a ha;obtain⟨ob,lb,mb,vb⟩:=ends d gd b hb;have v1:=va _ h1;have v2:=vb _ h2;have e1:=((bR oa (-1048576) (aP (domAt d b))).2 (g a)).2 ⟨h1,by omega,by omega⟩;have e2:=((bR ob (av (domAt d a)) 1048576).2 (g b)).2 ⟨h2,by omega,by omega⟩;unfold qY at he;rw[E4 hab]at he;split at he
  ·rename_i hh;rcases hh with hh|hh;·rw[hh]at e1;cases e1
   ·rw[hh]at e2;cases e2
  ·cases he
theorem sN {n:Nat}{a b:Int}(ha:0<=a/\a.toNat<n)(hb:0<=b/\b.toNat<n):StepOK n [a,b] (λg=>g a<=g b) (qY a b):=by
 by_cases hab:a=b
 ·refine StepOK.congr (CH (λg=>by rw[hab];exact FS _) λu hu=> ?_) λd _=>(by unfold qY;rw[E6 hab]);rcases ET.1 hu with rfl|hu;·exact ha
  ·rw[EI.1 hu];exact hb
 ·exact(DA hab ha hb).step.iff λg=>by simp
def nz (c:Con)(k:Nat)(d:aa):Bool:=(List.range k).all (ez d c)
def wB (c:Con)(k:Nat)(d:aa):Option aa:=if nz c k d=true then qY (varAt c k) (varAt c (halfOf c+k)) d else some d
structure LexC (n:Nat)(c:Con):Prop where
 vin: ∀v∈c.vars,0<=v/\v.toNat<n
theorem jA {n:Nat}{c:Con}(h:LexC n c){d:aa}(gd:GoodD n d){j:Nat}(hj:j<halfOf c):ez d c j=true↔varAt c j=varAt c (halfOf c+j)∨∃x,vals (domAt d (varAt c j))=[x]/\vals (domAt d (varAt c (halfOf c+j)))=[x]:=by
 have hh:=eF c;have o1:=gd.at_ (h.vin _ (az (c:=c) (k:=j) (by omega))).2;have o2:=gd.at_ (h.vin _ (az (c:=c) (k:=halfOf c+j) (by omega))).2;unfold ez;rw[qh o1.1 o2.1];refine or_congr_right ⟨?_,?_⟩
 ·rintro⟨h1,h2⟩;obtain⟨x,hx⟩:=Gz.1 h1;exact⟨x,hx,by rw[<-h2,hx]⟩
 ·rintro⟨x,h1,h2⟩;exact⟨by rw[h1];rfl,fX o1.1 o2.1 (by rw[h1,h2])⟩
theorem sM {n:Nat}{c:Con}(h:LexC n c){k:Nat}(hk:k<halfOf c):StepOK n c.vars (λg=>(∀j,j<k->g (varAt c j)=g (varAt c (halfOf c+j)))->g (varAt c k)<=g (varAt c (halfOf c+k))) (wB c k):=by
 have hh:=eF c;have m1: ∀j,j<halfOf c->varAt c j∈c.vars/\varAt c (halfOf c+j)∈c.vars:=λj hj=>⟨az (by omega),az (by omega)⟩;obtain⟨ha,hb⟩:=m1 k hk;refine StepOK.guard (C:=nz c k) ((sN (h.vin _ ha) (h.vin _ hb)).wide (λu hu=> ?_) h.vin) (λa b ga gb hle hc=> ?_) (λa b ga gb hab=> ?_) (λe ge g he=> ?_)
 ·rcases ET.1 hu with rfl|hu;·exact ha
  ·rw[EI.1 hu];exact hb
 ·refine EN.2 λj hj=> ?_;have hj':=ES.1 hj;have hjh:j<halfOf c:=(by omega);obtain⟨v1,v2⟩:=m1 j hjh;have:=(jA h gb hjh).1 (EN.1 hc j hj);refine(jA h ga hjh).2 (this.imp id ?_);rintro⟨x,h1,h2⟩;have key: ∀v∈c.vars,vals (domAt b v)=[x]->vals (domAt a v)=[x]:=λv hv e=>by
   have hn:=h.vin v hv;obtain⟨y,hy⟩:=ga.ne hn.2;have hsub: ∀z∈vals (domAt a v),z=x:=λz hz=>by
    have:=hle.2 v z hn.1 hz;rw[e]at this;exact EI.1 this
   exact dX (aG (ga.at_ hn.2).1) (Fm _ _) λz=>⟨λhz=>EI.2 (hsub z hz),λhz=>by rw[EI.1 hz,<-hsub y hy];exact hy⟩
  exact⟨x,key _ v1 h1,key _ v2 h2⟩
 ·unfold nz;rw[GQ,EN,EN];refine forall_congr' λj=>imp_congr_right λhj=> ?_;have hj':=ES.1 hj;obtain⟨v1,v2⟩:=m1 j (by omega);unfold ez;rw[hab _ v1,hab _ v2]
 ·unfold nz;rw[EN];refine forall_congr' λj=> ?_;rw[ES];refine imp_congr_right λhj=> ?_;obtain⟨v1,v2⟩:=m1 j (by omega);rw[jA h ge (by omega),he _ v1,he _ v2];constructor
  ·rintro(e|⟨x,h1,h2⟩);·rw[e]
   ·rw[(List.cons.inj h1).1,(List.cons.inj h2).1]
  ·exact λe=> .inr ⟨_,rfl,by rw[e]⟩
theorem BC {n:Nat}{c:Con}(h:LexC n c)(d0:aa): ∀(N:Nat) (d:aa) (R:Option aa),Come leD (GoodD n) (wB c) (List.range (halfOf c)) d0 d->b9 (dG c) N d=some R->eV leD (GoodD n) (wB c) (List.range (halfOf c)) d0 R:=by
 intro N
 induction N using Nat.strongRecOn with
 |_ N ih=>
  intro d R hd hR;have hh:=eF c;have known: ∀k,k<halfOf c->ez d c k=true->qY (varAt c k) (varAt c (halfOf c+k)) d=some d:=λk hk hp=>by
   have v1:=h.vin _ (az (c:=c) (k:=k) (by omega));have v2:=h.vin _ (az (c:=c) (k:=halfOf c+k) (by omega));rcases (jA h hd.fine hk).1 hp with e|⟨x,h1,h2⟩;·unfold qY;rw[E6 e]
   ·refine((sN v1 v2).point d hd.fine (λ_=>x) λu hu=> ?_).2 (FS _);rcases ET.1 hu with rfl|hu;·exact h1
    ·rw[EI.1 hu];exact h2
  have stay: ∀k,k<halfOf c->ez d c k=true->wB c k d=some d:=λk hk hp=>by
   unfold wB;rw[known k hk hp,ite_self]
  by_cases hk:placeO d c=halfOf c
  ·have hst:dG c d= .inl (some d):=(by unfold dG;rw[E6 hk]);obtain rfl:=aQ hR hst;refine⟨hd,λk hk2=> ?_⟩;have hk2:=ES.1 hk2;exact stay k hk2 (fu (p:=ez d c) (h:=halfOf c) (j:=k) (by unfold placeO at hk;omega))
  ·have hkl:placeO d c<halfOf c:=(by have:=e8 (ez d c) (halfOf c);unfold placeO at hk⊢;omega);have hn:ez d c (placeO d c)=false:=gM hkl;have hbf: ∀j,j<placeO d c->ez d c j=true:=λj hj=>fu hj;have hst:dG c d=(if domCut (domAt d (varAt c (placeO d c))) (-1048576) (aP (domAt d (varAt c (halfOf c+placeO d c))))=[]∨domCut (domAt d (varAt c (halfOf c+placeO d c))) (av (domAt d (varAt c (placeO d c)))) 1048576=[]then .inl none else
    if domCut (domAt d (varAt c (placeO d c))) (-1048576) (aP (domAt d (varAt c (halfOf c+placeO d c))))=domAt d (varAt c (placeO d c))/\domCut (domAt d (varAt c (halfOf c+placeO d c))) (av (domAt d (varAt c (placeO d c)))) 1048576=domAt d (varAt c (halfOf c+placeO d c))then .inl (some d)else
    .inr ((d.set (varAt c (placeO d c)).toNat (domCut (domAt d (varAt c (placeO d c))) (-1048576) (aP (domAt d (varAt c (halfOf c+placeO d c)))))).set (varAt c (halfOf c+placeO d c)).toNat (domCut (domAt d (varAt c (halfOf c+placeO d c))) (av (domAt d (varAt c (placeO d c)))) 1048576))):=by
    unfold dG;rw[E4 hk]
   generalize placeO d c=k at*;have v1:=h.vin _ (az (c:=c) (k:=k) (by omega));have v2:=h.vin _ (az (c:=c) (k:=halfOf c+k) (by omega));have hab:varAt c k≠varAt c (halfOf c+k):=λe=>by
    rw[(jA h hd.fine hkl).2 (.inl e)]at hn;cases hn
   have hah:nz c k d=true:=EN.2 λj hj=>hbf j (ES.1 hj);have hcut:wB c k d=qY (varAt c k) (varAt c (halfOf c+k)) d:=E6 hah;have htk:=(sM h hkl).takes;unfold qY at hcut;rw[E4 hab]at hcut;by_cases e1:domCut (domAt d (varAt c k)) (-1048576) (aP (domAt d (varAt c (halfOf c+k))))=[]∨domCut (domAt d (varAt c (halfOf c+k))) (av (domAt d (varAt c k))) 1048576=[]
   ·rw[E6 e1]at hst hcut;obtain rfl:=aQ hR hst;exact hd.none (c:=k) (ES.2 hkl) htk hcut
   ·rw[E4 e1]at hst hcut;by_cases e2:domCut (domAt d (varAt c k)) (-1048576) (aP (domAt d (varAt c (halfOf c+k))))=domAt d (varAt c k)/\domCut (domAt d (varAt c (halfOf c+k))) (av (domAt d (varAt c k))) 1048576=domAt d (varAt c (halfOf c+k))
    ·rw[E6 e2]at hst;obtain rfl:=aQ hR hst;refine⟨hd,λj hj=> ?_⟩;have hj:=ES.1 hj;by_cases hjk:j<k;·exact stay j hj (hbf j hjk)
     ·by_cases e:j=k
      ·subst e;rw[hcut,e2.1,e2.2,rv (by rw[hd.fine.len];exact v1.2),rv (by rw[hd.fine.len];exact v2.2)]
      ·have:nz c j d=false:=by
        rw[<-Hc];intro ht;have:=EN.1 ht k (ES.2 (by omega));rw[hn]at this;cases this
       unfold wB;rw[this];rfl
    ·rw[E4 e2]at hst;obtain⟨m,hm,hR2⟩:=fH hR hst;exact ih m hm _ R (hd.step (aW n) (c:=k) (ES.2 hkl) htk hcut) hR2
open Classical in
noncomputable def qX (c:Con)(d:aa):Option aa:=if h: ∃R:Option aa,∃N,b9 (dG c) N d=some R then h.choose else none
theorem qe {c:Con}{d:aa}{R:Option aa}{N:Nat}(h:b9 (dG c) N d=some R):R=qX c d:=by
 have hex: ∃R:Option aa,∃N,b9 (dG c) N d=some R:=⟨R,N,h⟩;obtain⟨M,hM⟩:=hex.choose_spec;unfold qX;rw[dif_pos hex];exact ql h hM
theorem vv: ∀(xs ys:List Int),xs.length=ys.length->(dS xs ys<=0↔∀k,k<xs.length->(∀j,j<k->xs.getD j 0=ys.getD j 0)->xs.getD k 0<=ys.getD k 0)
 | [],[],_=>by simp[dS]
 | [],_::_,h=>by simp at h
 |_::_,[],h=>by simp at h
 |x::xs,y::ys,h=>by
  rw[dS];have ih:=vv xs ys (by simpa using h);by_cases h1:x<y
  ·rw[E6 h1];refine⟨λ_ k hk he=> ?_,λ_=>by omega⟩;cases k with
   |zero=>simp;omega
   |succ k=>have:=he 0 (by omega);simp at this;omega
  ·rw[E4 h1];by_cases h2:y<x
   ·rw[E6 (by omega)];refine⟨λh=>by omega,λhh=> ?_⟩;have:=hh 0 (by simp) (λj hj=>by omega);simp at this;omega
   ·rw[E4 (by omega)];have e:x=y:=(by omega);subst e;rw[ih];constructor
    ·intro hh k hk he;cases k with
     |zero=>simp
     |succ k=>
      have:=hh k (by simpa using hk) λj hj=>(by simpa using he (j+1) (by omega));simpa using this
    ·intro hh k hk he;have:=hh (k+1) (by simpa using hk) λj hj=>by
      cases j with
      |zero=>simp
      |succ j=>simpa using he j (by omega)
     simpa using this
theorem BB {n:Nat}{c:Con}(h:LexC n c)(hl:c.vars.length*8<=140737488355328)(heven:c.vars.length % 2=0):StepOK n c.vars (λg=>dS ((c.vars.map g).take (c.vars.length / 2)) ((c.vars.map g).drop (c.vars.length / 2))<=0) (qX c):=by
 have hE: ∀d,GoodD n d->eV leD (GoodD n) (wB c) (List.range (halfOf c)) d (qX c d):=λd gd=>by
  obtain⟨R,N,h1,_⟩:=mU (c:=c) (d:=d) ⟨hl,λv hv=>by rw[gd.len];exact h.vin v hv⟩ gd.few.fine;rw[E4 gd.some']at h1;rw[<-qe h1];exact BC h d N d R (Come.refl (aW n) gd) h1
 refine(eV.step hE (λk hk=>sM h (ES.1 hk)) h.vin).iff λg=> ?_;have hh:c.vars.length=halfOf c+halfOf c:=(by unfold halfOf;omega);have e:c.vars.length / 2=halfOf c:=rfl;have x1:((c.vars.map g).take (halfOf c)).length=halfOf c:=(by simp;omega);have y1:((c.vars.map g).drop (halfOf c)).length=halfOf c:=(by simp;omega);have x2: ∀k,k<halfOf c->((c.vars.map g).take (halfOf c)).getD k 0=g (varAt c k):=λk hk=>by
  unfold varAt;rw[E0,E0,Fk,E6 hk,EJ,E5 (by omega)];rfl
 have y2: ∀k,k<halfOf c->((c.vars.map g).drop (halfOf c)).getD k 0=g (varAt c (halfOf c+k)):=λk hk=>by
  unfold varAt;rw[E0,E0,Ge,EJ,E5 (by omega)];rfl
 rw[e,vv _ _ (by rw[x1,y1]),x1];constructor
 ·intro hp k hk he;rw[x2 k hk,y2 k hk];exact hp k (ES.2 hk) λj hj=>by
   have:=he j hj;rwa[x2 j (by omega),y2 j (by omega)]at this
 ·intro hp k hk he;have hk:=ES.1 hk;have:=hp k hk λj hj=>(by rw[x2 j (by omega),y2 j (by omega)];exact he j hj);rwa[x2 k hk,y2 k hk]at this
set_option maxRecDepth 8000
theorem FewD.smallD {d:aa}(h:FewD d):jQ d:=⟨h.small,λx hx=>by have:=(h.fine x hx).len;omega⟩
theorem jk.few {d:aa}(h:FewD d){vars:List Int}(hv:jk d vars):vars.length*24<=140737488355328:=by
 have:vars.length<=d.length:=by
  have h1:(vars.map Int.toNat).Nodup:=f8 hv.1 λx hx y hy e=>by
   have:=(hv.2 x hx).1;have:=(hv.2 y hy).1;omega
  have h2:=mZ h1 (b:=List.range d.length) λk hk=>by
   obtain⟨v,hv2,rfl⟩:=EH.1 hk;exact ES.2 (hv.2 v hv2).2
  simpa using h2
 have:=h.small;omega
theorem o4 (d:aa)(vars:List Int)(h:FewD d)(hv:jk d vars)(hne:vars≠[]):Spec Tryz.prog 133 false [ao d,.agg (cC (Ax vars))] (aJ (dz d vars)):=by
 have:=uy d (Ax vars) h.smallD h.valD.inb h.valD.len hv.2 (hv.few h);rw[show(Ax vars).vars=vars from Y,A9 h hv hne]at this;exact this
theorem xp (d:aa)(vars:List Int)(h:FewD d)(hv:jk d vars):Spec Tryz.prog 146 false [ao d,.agg (cC (Ax vars))] [.val (ao ((dz d vars).getD [])),.val (.bool (dz d vars).isSome)]:=
 ve d (Ax vars) h.valD hv.2 (by have:=hv.few h;show vars.length*8<=_;omega)
theorem C1 {a b:Int}(h:a<=b)(h1: -1048576<=a)(h2:b<=1048576):Fine [(a,b)]:=by
 have hv:vals [(a,b)]=rng a b:=by
  show rng a b++[]=_;rw[FU]
 refine⟨⟨λr hr=> ?_,by simp⟩,?_,?_⟩;·obtain rfl:=EI.1 hr;exact h
 ·rw[hv];intro v hm;have:=cQ.1 hm;omega
 ·rw[hv];simp[rng];omega
def o9 (n:Nat)(g:Int->Int):List Int:=(List.range n).map λj:Nat=>g (j:Int)
theorem mO {n:Nat}{g:Int->Int}{v:Int}(h:0<=v/\v.toNat<n):atR (o9 n g) v=g v:=by
 unfold atR o9;rw[E4 (by omega),E0,EJ,Fr h.2];show g ((v.toNat:Nat):Int)=g v;congr 1;omega
theorem tp {vars a b:List Int}(h: ∀u∈vars,atR a u=atR b u):pickedR vars a=pickedR vars b:=F6 h
theorem w4 {vars coefs a b:List Int}(h: ∀u∈vars,atR a u=atR b u):sumW vars coefs a=sumW vars coefs b:=by
 unfold sumW;have: ∀(l:List (Int×Int)) (n:Int),(∀p∈l,atR a p.1=atR b p.1)->l.foldl (λn p=>IntKind.i64.wrap (n+IntKind.i64.wrap (p.2*atR a p.1))) n=l.foldl (λn p=>IntKind.i64.wrap (n+IntKind.i64.wrap (p.2*atR b p.1))) n:=by
  intro l
  induction l with
  |nil=>intro n _;rfl
  |cons p l ih=>
   intro n hp;rw[En,En,hp p (.head _)];exact ih _ λq hq=>hp q (.tail _ hq)
 exact this _ _ λp hp=>h _ (Ew hp).1
theorem uses_mem {c:Con}{u:Int}:u∈usesR c↔u∈c.vars∨c.kind=4/\u=c.b:=by
 unfold usesR;rw[bI];split;·rename_i h;simp[h]
 ·rename_i h;simp[h]
theorem wg {c:Con}{a b:List Int}(h: ∀u∈usesR c,atR a u=atR b u):bL c a=bL c b:=by
 have hv: ∀u∈c.vars,atR a u=atR b u:=λu hu=>h u (uses_mem.2 (.inl hu));have e1:=tp hv;have e2:soR c a=soR c b:=(by unfold soR;rw[w4 hv]);unfold bL holds6;rw[e1,e2];by_cases hk:c.kind=4;·rw[h c.b (uses_mem.2 (.inr ⟨hk,rfl⟩))]
 ·simp only[E4 hk]
theorem ta {vars coefs a:List Int}{g:Int->Int}(hl:vars.length=coefs.length)(hck: ∀k∈coefs,CoefOk k)(hw:ar coefs<=4611686018427388928)(ha: ∀u∈vars,atR a u=g u)(hb: ∀u∈vars,-1048576<=g u/\g u<=1048576):sumW vars coefs a=dT vars coefs g:=by
 have key: ∀(l:List (Int×Int)) (n:Int),(∀p∈l,atR a p.1=g p.1/\(-1048576<=g p.1/\g p.1<=1048576)/\CoefOk p.2)->-4611686018427388928<=n-ar (l.map (·.2))->n+ar (l.map (·.2))<=4611686018427388928->
   l.foldl (λn p=>IntKind.i64.wrap (n+IntKind.i64.wrap (p.2*atR a p.1))) n=n+(l.map λp=>p.2*g p.1).sum:=by
  intro l
  induction l with
  |nil=>intro n _ _ _;simp
  |cons p l ih=>
   intro n hp h1 h2;obtain⟨e,b,hk⟩:=hp p (.head _);have m:=eB p.2 (g p.1) b.1 b.2;have hk2:=hk.2;have hpos:=bf (l.map (·.2));have ew:ar ((p::l).map (·.2))=aL p.2*1048576+ar (l.map (·.2)):=(by simp[ar]);rw[ew]at h1 h2;have hab:=bA p.2;rw[En,e,af (n:=p.2*g p.1) (by omega) (by omega),af (by omega) (by omega),ih _ (λq hq=>hp q (.tail _ hq)) (by omega) (by omega)];simp only[Ek,FX];omega
 have e:(vars.zip coefs).map (·.2)=coefs:=List.map_snd_zip (by omega);have hp:=bf coefs;unfold sumW dT;rw[key _ 0 (λp hp=>⟨ha _ (Ew hp).1,hb _ (Ew hp).1,hck _ (Ew hp).2⟩) (by rw[e];omega) (by rw[e];omega),HK]
theorem StepOK.iff' {n:Nat}{us:List Int}{P Q:(Int->Int)->Prop}{f:aa->Option aa}(h:StepOK n us P f)(hq: ∀g:Int->Int,(∀u∈us,-1048576<=g u/\g u<=1048576)->(P g↔Q g)):StepOK n us Q f:=by
 refine⟨h.takes,h.stays,h.off,λe ge g he=>(h.point e ge g he).trans (hq g λu hu=> ?_),h.in'⟩;have hm:domAt e u∈e:=ac (by rw[ge.len];exact(h.in' u hu).2);exact(ge.few.fine _ hm).val _ (by rw[he u hu];exact .head _)
theorem nodup_full: ∀(l s:List Int),s.Nodup->(∀x∈s,x∈l)->l.length<=s.length->l.Nodup
 | [],_,_,_,_=> .nil
 |x::l,s,hs,hm,hl=>by
  have hx:x∉l:=λhx=>by
   have:=hs.length_le_of_subset (l₂:=l) λy hy=>by
    rcases ET.1 (hm y hy)with rfl|h;·exact hx
    ·exact h
   simp at hl;omega
  have h2: ∀y∈s.erase x,y∈l:=λy hy=>by
   have:=(hs.mem_erase_iff).1 hy;exact(ET.1 (hm y this.2)).resolve_left this.1
  have h3:=List.length_erase_le (l:=s) (a:=x);have h4:s.length-1<=(s.erase x).length:=by
   rw[List.length_erase];split<;>omega
  exact FH.2 ⟨hx,nodup_full l (s.erase x) (hs.erase x) h2 (by simp at hl;omega)⟩
theorem rq {l:List Int}:(aT l).length=l.length↔l.Nodup:=by
 constructor
 ·intro h;exact nodup_full l (aT l) (dF (ca l)) (λx hx=>(bI x l).1 hx) (by omega)
 ·intro h;have h1:=(dF (ca l)).length_le_of_subset (l₂:=l) λx hx=>(bI x l).1 hx;have h2:=h.length_le_of_subset (l₂:=aT l) λx hx=>(bI x l).2 hx;omega
noncomputable def aX (c:Con)(d:aa):Option aa:=
 if c.kind=0 then fE c d else
 if c.kind=1 then dz d c.vars else
 if c.kind=4 then jy c d else
 if c.kind=6 then qX c d else
 d6 d (usesR c) λt=>bL c (cS d.length (usesR c) t (usesR c).length)
theorem yz {n:Nat}{d:aa}{c:Con}(gd:GoodD n d)(h:SumOk d c):LinC n c:=by
 have hv:jk d c.vars:=⟨h.nod,h.fine.vin⟩;exact⟨⟨h.fine.len,λv hv=>by have:=h.fine.vin v hv;rwa[gd.len]at this,h.fine.ck,h.nod,h.big,hv.few gd.few⟩,h.pos,h.op⟩
theorem cB {d:aa}{c:Con}(hc:ConB c)(h:conR d c=0):(0<=c.kind/\c.kind<=6)/\bG d c/\rightR d c=true/\∀u∈usesR c,0<=u/\u.toNat<d.length:=by
 obtain⟨h1,h2⟩:=tV hc h;unfold conR at h;split at h;·cases h
 ·split at h;·cases h
  ·rename_i h3 h4;refine⟨by omega,h1,h2,λu hu=> ?_⟩;have h4:(usesR c).all (inD d)=true:=(by simpa using h4);exact mr.1 (EN.1 h4 u hu)
theorem z6 {n:Nat}{c:Con}(hin: ∀u∈usesR c,0<=u/\u.toNat<n)(hne:usesR c≠[]):StepOK n (usesR c) (λg=>bL c (o9 n g)=true) λd=>d6 d (usesR c) λt=>bL c (cS d.length (usesR c) t (usesR c).length):=by
 have hnd:(usesR c).Nodup:=dF (ca _);refine((Dy (P:=λt=>bL c (cS n (usesR c) t (usesR c).length)) hnd hin hne).step.congr λd gd=>by rw[gd.len]).iff λg=> ?_;rw[wg (b:=o9 n g) λu hu=> ?_];rw[mO (hin u hu)];exact mz g hin hu
def RightC (d:aa)(c:Con):Prop:=conR d c=0∨(c.kind=0/\SumOk d c)
theorem rA {d:aa}{c:Con}(hc:ConB c)(h:RightC d c):(0<=c.kind/\c.kind<=6)/\bG d c/\∀u∈usesR c,0<=u/\u.toNat<d.length:=by
 rcases h with h|⟨hk,hs⟩
 ·obtain⟨h1,h2,_,h3⟩:=cB hc h;exact⟨h1,h2,h3⟩
 ·refine⟨by omega,⟨hs.fine.vl,hs.fine.vin⟩,λu hu=> ?_⟩;rcases uses_mem.1 hu with hu|⟨h4,_⟩;·exact hs.fine.vin u hu
  ·omega
theorem zO {n:Nat}{d:aa}{c:Con}(gd:GoodD n d)(hc:ConB c)(h:conR d c=0):StepOK n (usesR c) (λg=>(c.kind=4->0<=g c.b/\g c.b<=1)->bL c (o9 n g)=true) (aX c):=by
 obtain⟨hk,hv,hr,hin⟩:=cB hc h;rw[gd.len]at hin;have hpick: ∀g:Int->Int,pickedR c.vars (o9 n g)=c.vars.map g:=λg=>F6 λu hu=>mO (hin u (uses_mem.2 (.inl hu)));have hvu: ∀u∈c.vars,u∈usesR c:=λu hu=>uses_mem.2 (.inl hu);have hdl:=gd.few.small;by_cases h0:c.kind=0
 ·have hs:=yz gd (pc hc h h0 gd.few.fine hdl);refine(((mh hs).wide hvu hin).congr λd gd=>by unfold aX;rw[E6 h0]).iff' λg hg=> ?_;have hb:=hs.sum.big;have:=bA c.rhs;unfold bL soR;rw[E6 h0,ta hs.sum.vl hs.sum.ck (by omega) (λu hu=>mO (hin u (hvu u hu))) λu hu=>hg u (hvu u hu)];exact⟨λh _=>h,λh=>h λe=>by omega⟩
 ·by_cases h1:c.kind=1
  ·have hm:0<c.vars.length/\c.vars.Nodup:=by
    unfold rightR at hr;rw[E4 h0,E6 h1]at hr;simp only[manyR,EL,ER]at hr;exact hr.2
   refine(((Dz (n:=n) ⟨hm.2,λv hv=>hin v (hvu v hv)⟩ (Gj hm.1)).step.wide hvu hin).congr λd gd=>by unfold aX;rw[E4 h0,E6 h1]).iff λg=> ?_;unfold bL;rw[E4 h0,E6 h1,hpick,ER,ER,rq];exact⟨λh _=>h,λh=>h λe=>by omega⟩
  ·by_cases h4:c.kind=4
   ·have hrf:=ti hc h h4 gd.few.fine hdl;have hrc:ReifC n c:=by
     refine⟨yz gd hrf.sum,yz gd hrf.sumN,by have:=hrf.b;rwa[gd.len]at this,hrf.apart,?_⟩;obtain⟨_,hbg⟩:=qM (kw h);have:=bf c.coefs;omega
    have hu4: ∀u∈c.vars++[c.b],u∈usesR c:=λu hu=>by
     rcases EW.1 hu with hu|hu;·exact hvu u hu
     ·exact uses_mem.2 (.inr ⟨h4,EI.1 hu⟩)
    refine(((zC hrc).wide hu4 hin).congr λd gd=>by unfold aX;rw[E4 h0,E4 h1,E6 h4]).iff' λg hg=> ?_;have hs:=hrc.yes.sum;have hb:ar c.coefs<=4611686018427388928/\aL c.rhs<=4611686018427388928:=hs.big;have:=bA c.rhs;have e1:sumW c.vars c.coefs (o9 n g)=dT c.vars c.coefs g:=ta hs.vl hs.ck (by omega) (λu hu=>mO (hin u (hvu u hu))) λu hu=>hg u (hvu u hu);have e2:atR (o9 n g) c.b=g c.b:=mO hrc.b;unfold bL soR;rw[E4 h0,E4 h1,E4 (by omega),E4 (by omega),E6 h4,e1,e2];simp only[Fs,EL,ER,FZ];exact⟨λh hh=>h (hh h4),λh hh=>h λ_=>hh⟩
   ·by_cases h6:c.kind=6
    ·have hev:c.vars.length % 2=0:=by
      unfold rightR at hr;rw[E4 h0,E4 h1,E4 (by omega),E4 (by omega),E4 h4,E4 (by omega)]at hr;simp only[EL,ER]at hr;exact hr.2
     refine(((BB (n:=n) ⟨λv hv=>hin v (hvu v hv)⟩ hv.1 hev).wide hvu hin).congr λd gd=>by unfold aX;rw[E4 h0,E4 h1,E4 h4,E6 h6]).iff λg=> ?_;unfold bL holds6;rw[E4 h0,E4 h1,E4 (by omega),E4 (by omega),E4 h4,E4 (by omega),hpick,ER];exact⟨λh _=>h,λh=>h λe=>by omega⟩
    ·have hne:usesR c≠[]:=by
      have hpos:0<c.vars.length:=by
       unfold rightR at hr;rw[E4 h0,E4 h1]at hr;by_cases h2:c.kind=2
       ·rw[E6 h2]at hr;simp only[manyR,EL,ER]at hr;exact hr.1.2.1
       ·rw[E4 h2]at hr;by_cases h3:c.kind=3
        ·rw[E6 h3]at hr;simp only[manyR,EL,ER]at hr;omega
        ·rw[E4 h3,E4 h4,E6 (by omega)]at hr;simp only[sumR,EL,ER]at hr;exact hr.1.2.1.1.2
      intro e;have:=hvu _ (EA hpos);rw[e]at this;cases this
     refine((z6 hin hne).congr λd gd=>by unfold aX;rw[E4 h0,E4 h1,E4 h4,E4 h6]).iff λg=> ?_;exact⟨λh _=>h,λh=>h λe=>EX e h4⟩
theorem vC {n:Nat}{d:aa}{c:Con}(gd:GoodD n d)(hc:ConB c)(h:RightC d c):StepOK n (usesR c) (λg=>(c.kind=4->0<=g c.b/\g c.b<=1)->bL c (o9 n g)=true) (aX c):=by
 rcases h with h|⟨h0,hs⟩;·exact zO gd hc h
 ·obtain⟨_,_,hin⟩:=rA hc (.inr ⟨h0,hs⟩);rw[gd.len]at hin;have hvu: ∀u∈c.vars,u∈usesR c:=λu hu=>uses_mem.2 (.inl hu);have hs:=yz gd hs;refine(((mh hs).wide hvu hin).congr λd gd=>by unfold aX;rw[E6 h0]).iff' λg hg=> ?_;have hb:=hs.sum.big;unfold bL soR;rw[E6 h0,ta hs.sum.vl hs.sum.ck (by omega) (λu hu=>mO (hin u (hvu u hu))) λu hu=>hg u (hvu u hu)];exact⟨λh _=>h,λh=>h λe=>by omega⟩
def bU:List Nat->Nat
 | []=>1
 |n::l=>n*bU l
theorem ep: ∀(l m:List Nat),bU (l++m)=bU l*bU m
 | [],m=>by simp[bU]
 |n::l,m=>by rw[Fj,bU,bU,ep l m,Nat.mul_assoc]
theorem xq {l m:List Nat}(h:l.Perm m):bU l=bU m:=by
 induction h with
 |nil=>rfl
 |cons x _ ih=>rw[bU,bU,ih]
 |swap x y l=>rw[bU,bU,bU,bU,Nat.mul_left_comm]
 |trans _ _ h1 h2=>rw[h1,h2]
theorem rH: ∀{l:List Nat},(∀x∈l,1<=x)->1<=bU l
 | [],_=>EO _
 |n::l,h=>Nat.mul_pos (h n (.head _)) (rH λx hx=>h x (.tail _ hx))
theorem mV (f:Nat->Nat)(hf: ∀i,1<=f i): ∀(n:Nat) (l:List Nat),l.Nodup->(∀i∈l,i<n)->bU (l.map f)<=bU ((List.range n).map f)
 |0,l,_,h=>by
  have:l=[]:=G7.2 λi hi=>FK _ (h i hi);rw[this];exact EO _
 |n+1,l,hn,h=>by
  rw[HQ,F4,ep];have e:bU (List.map f [n])=f n:=(by simp[bU]);rw[e];by_cases hm:n∈l
  ·rw[xq ((List.perm_cons_erase hm).map f),Ek,bU,Nat.mul_comm];refine F7 _ (mV f hf n (l.erase n) (hn.erase n) λi hi=> ?_);have h1:=(hn.mem_erase_iff).1 hi;have:=h i h1.2;omega
  ·have:=mV f hf n l hn λi hi=>by
    have:=h i hi;have:i≠n:=λe=>hm (e▸hi);omega
   exact Em this (Gs _ (hf n))
def prodD (d:aa):Nat:=bU (d.map λx=>(vals x).length)
theorem pL (d:aa)(x:List (Int×Int)):prodD (d++[x])=prodD d*(vals x).length:=by
 unfold prodD;rw[F4,ep];simp[bU]
theorem n7 (D:aa): ∀n,n<=D.length->(growR D n).length=prodD (D.take n)
 |0,_=>rfl
 |n+1,hn=>by
  have ih:=n7 D n (by omega);have: ∀(l:List (List Int)) (v:List Int),(l.flatMap λa=>v.map λv=>a++[v]).length=l.length*v.length:=by
   intro l v
   induction l with
   |nil=>simp
   |cons a l ih=>rw[H6,EZ,ih,EB,El,GJ];omega
  rw[growR,this,ih,ED (by omega),pL,E0,E5 (by omega)];rfl
theorem Bb {a b:aa}(hl:a.length=b.length)(h: ∀(i:Nat) x y,a[i]? =some x->b[i]? =some y->(vals x).length<=(vals y).length):prodD a<=prodD b:=by
 induction a generalizing b with
 |nil=>
  cases b with
  |nil=>exact EO _
  |cons y b=>simp at hl
 |cons x a ih=>
  cases b with
  |nil=>simp at hl
  |cons y b=>exact Hu (h 0 x y Y Y) (ih (by simpa using hl) λi u v hu hv=>h (i+1) u v hu hv)
theorem Ba {d:aa}(hne: ∀x∈d,1<=(vals x).length){us:List Int}(hn:us.Nodup)(h0: ∀u∈us,0<=u/\u.toNat<d.length):prodD (us.map (domAt d))<=prodD d:=by
 let f:Nat->Nat:=λi=>if i<d.length then(vals (d.getD i [])).length else 1
 have hf: ∀i,1<=f i:=λi=>by
  simp only[f];by_cases h:i<d.length;·rw[E6 h,E0,E5 h];exact hne _ (EA h)
  ·rw[E4 h];exact EO _
 have e1:prodD (us.map (domAt d))=bU ((us.map Int.toNat).map f):=by
  unfold prodD;rw[Fi,Fi];congr 1;refine F6 λu hu=> ?_;simp only[Function.comp,f];rw[E6 (h0 u hu).2];rfl
 have e2:prodD d=bU ((List.range d.length).map f):=by
  unfold prodD;congr 1;refine GT (by simp) λi h1 h2=> ?_;have hi:i<d.length:=(by simpa using h1);rw[GX,GX,List.getElem_range];simp only[f];rw[E6 hi,E0,E5 hi];rfl
 rw[e1,e2];refine mV f hf d.length _ (H9.2 (hn.imp_of_mem λ{x y} hx hy hne e=>hne (by have:=h0 x hx;have:=h0 y hy;omega))) λi hi=> ?_;obtain⟨u,hu,rfl⟩:=EH.1 hi;exact(h0 u hu).2
theorem BN {d:aa}(hne: ∀x∈d,1<=(vals x).length){us:List Int}(hn:us.Nodup)(h0: ∀u∈us,0<=u/\u.toNat<d.length)(m:Nat)(hm:m<=us.length):(growR (us.map (domAt d)) m).length<=prodD d:=by
 rw[n7 _ m (by simpa using hm),<-Gp];exact Ba hne (hn.sublist (List.take_sublist _ _)) λu hu=>h0 u (FI hu)
theorem GoodD.one {n:Nat}{d:aa}(h:GoodD n d): ∀x∈d,1<=(vals x).length:=λx hx=>by
 have hok:=(h.few.fine x hx).ok;have:vals x≠[]:=λe=>h.some' ((fq hok).1 e▸hx);exact HM.2 this
theorem zH {n:Nat}{a b:aa}(ha:GoodD n a)(hb:GoodD n b)(h:leD a b):prodD a<=prodD b:=by
 refine Bb (ha.len.trans hb.len.symm) λi x y hx hy=> ?_;have hi:=(E8.1 hx).1;have hj:=(E8.1 hy).1;have h1:=(ha.few.fine x (EC hx)).ok;refine cq (aG h1) λv hv=> ?_;have:=h.2 (i:Int) v (by omega) (by rw[qG hi,(E8.1 hx).2];exact hv);rwa[qG hj,(E8.1 hy).2]at this
end Go.Proofs.YtopcjbahjjhdmaaGreat
namespace Go.Proofs.YtopcjbahjjhdmaaGreat
open Go Go.Shelf Go.RowKit
def qW:Go.Shelf.Ren:=⟨fun|6=>228|15=>124|14=>242|28=>165|29=>166|20=>244|21=>245|22=>246|23=>247|24=>248|25=>249|26=>250|27=>251|46=>252|47=>216|48=>217|49=>253|50=>254|57=>255|n=>n,fun|22=>54|24=>53|25=>215|3=>3|39=>146|0=>0|53=>173|55=>159|4=>4|46=>166|45=>165|50=>115|5=>5|9=>9|66=>204|70=>208|76=>221|77=>222|n=>n,fun|n=>n⟩
theorem rX:Go.Proofs.SlLaysF0.n6 Tryz.prog qW:= {
 mixed:=by kernel_rfl
 f6:=⟨Tryz.f228.name,by decide,Tryz.func228.trans (congrArg some (by kernel_rfl))⟩
 f14:=⟨Tryz.f242.name,by decide,Tryz.func242.trans (congrArg some (by kernel_rfl))⟩
 f15:=Tryz.func124.trans (congrArg some (by kernel_rfl))
 f20:=⟨Tryz.f244.name,by decide,Tryz.func244.trans (congrArg some (by kernel_rfl))⟩
 f21:=⟨Tryz.f245.name,by decide,Tryz.func245.trans (congrArg some (by kernel_rfl))⟩
 f22:=⟨Tryz.f246.name,by decide,Tryz.func246.trans (congrArg some (by kernel_rfl))⟩
 f23:=⟨Tryz.f247.name,by decide,Tryz.func247.trans (congrArg some (by kernel_rfl))⟩
 f24:=⟨Tryz.f248.name,by decide,Tryz.func248.trans (congrArg some (by kernel_rfl))⟩
 f25:=⟨Tryz.f249.name,by decide,Tryz.func249.trans (congrArg some (by kernel_rfl))⟩
 f26:=⟨Tryz.f250.name,by decide,Tryz.func250.trans (congrArg some (by kernel_rfl))⟩
 f27:=⟨Tryz.f251.name,by decide,Tryz.func251.trans (congrArg some (by kernel_rfl))⟩
 f28:=Tryz.func165.trans (congrArg some (by kernel_rfl))
 f29:=Tryz.func166.trans (congrArg some (by kernel_rfl))
 f46:=⟨Tryz.f252.name,by decide,Tryz.func252.trans (congrArg some (by kernel_rfl))⟩
 f47:=Tryz.func216.trans (congrArg some (by kernel_rfl))
 f48:=Tryz.func217.trans (congrArg some (by kernel_rfl))
 f49:=⟨Tryz.f253.name,by decide,Tryz.func253.trans (congrArg some (by kernel_rfl))⟩
 f50:=⟨Tryz.f254.name,by decide,Tryz.func254.trans (congrArg some (by kernel_rfl))⟩
 f57:=⟨Tryz.f255.name,by decide,Tryz.func255.trans (congrArg some (by kernel_rfl))⟩
 t0:=Tryz.underlying0
 a0:=Tryz.isAgg0
 z0:=Tryz.sizeOf0
 v0:=Tryz.zeroValue0
 t3:=Tryz.underlying3
 a3:=Tryz.isAgg3
 z3:=Tryz.sizeOf3
 v3:=Tryz.zeroValue3
 t4:=Tryz.underlying4
 a4:=Tryz.isAgg4
 z4:=Tryz.sizeOf4
 v4:=Tryz.zeroValue4
 t5:=Tryz.underlying5
 a5:=Tryz.isAgg5
 z5:=Tryz.sizeOf5
 v5:=Tryz.zeroValue5
 t9:=Tryz.underlying9
 a9:=Tryz.isAgg9
 z9:=Tryz.sizeOf9
 v9:=Tryz.zeroValue9
 t22:=Tryz.underlying54
 a22:=Tryz.isAgg54
 z22:=Tryz.sizeOf54
 v22:=Tryz.zeroValue54
 t25:=Tryz.underlying215
 a25:=Tryz.isAgg215
 z25:=Tryz.sizeOf215
 v25:=Tryz.zeroValue215
 t39:=Tryz.underlying146
 a39:=Tryz.isAgg146
 z39:=Tryz.sizeOf146
 v39:=Tryz.zeroValue146
 t45:=Tryz.underlying165
 a45:=Tryz.isAgg165
 z45:=Tryz.sizeOf165
 v45:=Tryz.zeroValue165
 t46:=Tryz.underlying166
 a46:=Tryz.isAgg166
 z46:=Tryz.sizeOf166
 v46:=Tryz.zeroValue166
 t50:=Tryz.underlying115
 a50:=Tryz.isAgg115
 z50:=Tryz.sizeOf115
 v50:=Tryz.zeroValue115
 t53:=Tryz.underlying173
 a53:=Tryz.isAgg173
 z53:=Tryz.sizeOf173
 v53:=Tryz.zeroValue173
 t55:=Tryz.underlying159
 a55:=Tryz.isAgg159
 z55:=Tryz.sizeOf159
 v55:=Tryz.zeroValue159
 t66:=Tryz.underlying204
 a66:=Tryz.isAgg204
 z66:=Tryz.sizeOf204
 v66:=Tryz.zeroValue204
 t70:=Tryz.underlying208
 a70:=Tryz.isAgg208
 z70:=Tryz.sizeOf208
 v70:=Tryz.zeroValue208
 t76:=Tryz.underlying221
 a76:=Tryz.isAgg221
 z76:=Tryz.sizeOf221
 v76:=Tryz.zeroValue221
 t77:=Tryz.underlying222
 a77:=Tryz.isAgg222
 z77:=Tryz.sizeOf222
 v77:=Tryz.zeroValue222 }
end Go.Proofs.YtopcjbahjjhdmaaGreat
namespace Go.Proofs.YtopcjbahjjhdmaaGreat
open Go Go.RowKit
set_option linter.unusedVariables false
set_option linter.unusedSimpArgs false
def wE:Int->List Int->List Int
 |_,[]=>[]
 |x,y::l=>if y=x then wE x l else y::wE y l
theorem tX: ∀(l:List Int) (x:Int),(x::l).Pairwise (· <= ·)->Up (x::wE x l)/\∀z,z∈x::wE x l↔z∈x::l
 | [],x,_=>⟨Fm _ _,λz=>Iff.rfl⟩
 |y::l,x,h=>by
  have h1:=Ei.1 h;have hxy:=h1.1 y (.head _);rw[wE];by_cases e:y=x
  ·subst e;rw[E6 Y];obtain⟨a,b⟩:=tX l y h1.2;refine⟨a,λz=> ?_⟩;rw[b z];simp
  ·rw[E4 e];obtain⟨a,b⟩:=tX l y h1.2;refine⟨Ei.2 ⟨λz hz=> ?_,a⟩,λz=> ?_⟩
   ·rcases ET.1 hz with rfl|hz;·omega
    ·have:=(Ei.1 a).1 z hz;omega
   ·rw[ET,b z,ET (a:=z) (b:=x)]
theorem jY: ∀(l:List Int) (o:List (Int×Int)) (lo x:Int),(x::l).Pairwise (· <= ·)->l.foldl gN (o++[(lo,x)])=o++dn lo x (wE x l)
 | [],o,lo,x,_=>rfl
 |y::l,o,lo,x,h=>by
  have h1:=Ei.1 h;have hxy:=h1.1 y (.head _);rw[En,iJ,wE];by_cases e:y=x
  ·subst e;rw[E6 (FS _),E6 Y];exact jY l o lo y h1.2
  ·rw[E4 (by omega),E4 e,dn];by_cases e2:y=x+1
   ·rw[E6 (by omega),E6 e2];exact jY l o lo y h1.2
   ·rw[E4 (by omega),E4 e2,jY l (o++[(lo,x)]) y y h1.2,F5];rfl
theorem w8 (l:List Int):(c8 l).Pairwise (· <= ·):=by
 have:=I8 (le:=λx y:Int=>decide (x<=y)) (λa b c h1 h2=>by simp at h1 h2⊢;omega) (λa b=>by simp;omega) l;exact this.imp λh=>by simpa using h
theorem xu (l:List Int):packG (c8 l)=bX (aT l):=by
 have hs:=w8 l;have hm: ∀z,z∈c8 l↔z∈l:=λz=>(Ho l _).mem_iff;cases h:c8 l with
 |nil=>
  have:aT l=[]:=G7.2 λz hz=>by
   have:=(hm z).2 ((bI z l).1 hz);rw[h]at this;cases this
  rw[this];rfl
 |cons x t=>
  rw[h]at hs;obtain⟨a,b⟩:=tX t x hs;have e:aT l=x::wE x t:=dX (ca l) a λz=>(by rw[bI,b z,<-h,hm]);rw[e];show t.foldl gN (gN [] x)=_;rw[rJ];exact jY t [] x x hs
theorem x7 {l:List Int}(hv: ∀v∈l,-1048576<=v/\v<=1048576)(hn:l.length<=4096):domOfP l=(bX (aT l),0):=by
 have hv2: ∀v∈aT l,-1048576<=v/\v<=1048576:=λv h=>hv v ((bI v l).1 h);have hln:=ej l;have hf:Fine (bX (aT l)):=lq (ca l) hv2 (by omega);unfold domOfP;rw[xu,po hf,bH (ca l),E6 (EN.2 λv hm=>by simpa[aN]using hv v hm),E4 (by omega)]
def lS (d:aa)(vars r:List Int):Bool:=(vars.zip r).all λp=>hasV (domAt d p.1) p.2
def rowsP (d:aa)(c:Con):List (List Int):=c.rows.filter (lS d c.vars)
def iz (rows:List (List Int))(i:Nat):List Int:=rows.map λr=>r.getD i 0
def ig (rows:List (List Int)):List Int->Nat->aa->aa
 | [],_,out=>out
 |v::vs,i,out=>ig rows vs (i+1) (out.set v.toNat (domOfP (iz rows i)).1)
def tabO (d:aa)(c:Con):Option aa:=if []∈d then none else if rowsP d c=[]then none else some (ig (rowsP d c) c.vars 0 d)
theorem ro (rows:List (List Int)): ∀(vs:List Int) (i:Nat) (out:aa),(ig rows vs i out).length=out.length
 | [],_,_=>rfl
 |v::vs,i,out=>by rw[ig,ro rows vs];simp
theorem uE (rows:List (List Int)): ∀(vs:List Int) (i:Nat) (out:aa),vs.Nodup->(∀v∈vs,0<=v/\v.toNat<out.length)->∀k:Nat,
  ((k:Int)∉vs->(ig rows vs i out)[k]? =out[k]?)/\∀j,vs[j]? =some (k:Int)->(ig rows vs i out)[k]? =some (domOfP (iz rows (i+j))).1
 | [],i,out,_,_,k=>⟨λ_=>rfl,λj hj=>by simp at hj⟩
 |v::vs,i,out,hn,h0,k=>by
  have hn2:=FH.1 hn;have hv:=h0 v (.head _);obtain⟨h1,h2⟩:=uE rows vs (i+1) (out.set v.toNat (domOfP (iz rows i)).1) hn2.2 (λu hu=>by rw[FA];exact h0 u (.tail _ hu)) k;rw[ig];refine⟨λhk=> ?_,λj hj=> ?_⟩
  ·have hne:v≠(k:Int):=λe=>hk (by rw[e];exact .head _);rw[h1 λh=>hk (.tail _ h),Et (by omega)]
  ·cases j with
   |zero=>
    simp at hj;rw[h1 (by rw[<-hj];exact hn2.1)];have:v.toNat=k:=(by omega);rw[this,F2 (by rw[<-this];exact hv.2)];rfl
   |succ j=>
    rw[h2 j (by simpa using hj)];congr 4;omega
theorem sY {vars r:List Int}{p:Int->Int->Bool}(hl:r.length=vars.length):((vars.zip r).all λq=>p q.1 q.2)=true↔∀(j:Nat) v,vars[j]? =some v->p v (r.getD j 0)=true:=by
 rw[EN];constructor
 ·intro h j v hj;have hlt:=(E8.1 hj).1;have hr:r[j]? =some (r.getD j 0):=(by rw[E0,E5 (by omega)];rfl);exact h (v,r.getD j 0) (EC (i:=j) (Fx.2 ⟨hj,hr⟩))
 ·rintro h ⟨v,x⟩ hm;obtain⟨j,hj⟩:=EK hm;rw[Fx]at hj;have:=h j v hj.1;rw[E0,hj.2]at this;exact this
theorem uD {n:Nat}{d:aa}{c:Con}(gd:GoodD n d)(hc:ConB c)(h:conR d c=0)(hk:c.kind=2):aX c d=tabO d c:=by
 obtain⟨_,hv,hr,hin⟩:=cB hc h;have hu:usesR c=aT c.vars:=(by unfold usesR;rw[E4 (by omega)]);have hrr:c.vars.Nodup/\(∀r∈c.rows,r.length=c.vars.length/\∀x∈r,-1048576<=x/\x<=1048576)/\c.rows.length<=1024:=by
  unfold rightR at hr;rw[E4 (by omega),E4 (by omega),E6 hk]at hr;simp only[manyR,kF,EL,ER,EN]at hr;refine⟨hr.1.2.2,λr hrm=> ?_,hr.2.2⟩;have:=hr.2.1 r hrm;simp only[em,aN,EL,ER,EN]at this;exact⟨this.1,λx hx=>by have:=this.2 x hx;omega⟩
 obtain⟨hnod,hrow,hfew⟩:=hrr;have hnd:(usesR c).Nodup:=dF (ca _);have hmem: ∀u,u∈usesR c↔u∈c.vars:=λu=>(by rw[hu];exact bI u _);have hP: ∀f:Int->Int,bL c (cS d.length (usesR c) ((usesR c).map f) (usesR c).length)=true↔c.vars.map f∈c.rows:=λf=>by
  have hpk:pickedR c.vars (cS d.length (usesR c) ((usesR c).map f) (usesR c).length)=c.vars.map f:=F6 λv hv=>mz f hin ((hmem v).2 hv);unfold bL;rw[E4 (by omega),E4 (by omega),E6 hk,hpk,Fa];constructor;·rintro⟨r,h1,h2⟩;rw[<-FV h2];exact h1
  ·exact λh1=>⟨_,h1,EF Y⟩
 have hri: ∀r∈c.rows,lS d c.vars r=true↔∀(j:Nat) v,c.vars[j]? =some v->r.getD j 0∈vals (domAt d v):=λr hrm=>by
  unfold lS;rw[sY (p:=λv x=>hasV (domAt d v) x) (hrow r hrm).1];exact forall_congr' λj=>forall_congr' λv=>imp_congr_right λ_=>dD
 have hsupp: ∀v∈c.vars,∀x,qR d (usesR c) (λt=>bL c (cS d.length (usesR c) t (usesR c).length)) v x↔∃r∈rowsP d c,r.getD (c.vars.idxOf v) 0=x:=λv hv x=>by
  have hiv:c.vars.idxOf v<c.vars.length:=GE.2 hv;constructor
  ·rintro⟨f,h1,h2,rfl⟩;have h2:=(hP f).1 h2;refine⟨c.vars.map f,FB.2 ⟨h2,(hri _ h2).2 λj v hj=> ?_⟩,?_⟩
   ·rw[E0,EJ,hj];exact h1 v ((hmem v).2 (EC hj))
   ·rw[E0,EJ,E5 hiv,Gh];rfl
  ·rintro⟨r,hr,rfl⟩;obtain⟨hrm,hro⟩:=FB.1 hr;have hro:=(hri r hrm).1 hro;refine⟨λu=>r.getD (c.vars.idxOf u) 0,λu hu=> ?_,(hP _).2 ?_,rfl⟩
   ·have hm:=(hmem u).1 hu;refine hro (c.vars.idxOf u) u ?_;rw[E5 (GE.2 hm),Gh]
   ·have:c.vars.map (λu=>r.getD (c.vars.idxOf u) 0)=r:=by
     refine GT (by rw[EB,(hrow r hrm).1]) λj h1 h2=> ?_;have hj:j<c.vars.length:=(by simpa using h1);rw[GX,hnod.idxOf_getElem j hj,E0,E5 h2];rfl
    rw[this];exact hrm
 have hcol: ∀j,j<c.vars.length->(domOfP (iz (rowsP d c) j)).1=bX (aT (iz (rowsP d c) j)):=λj hj=>by
  have h1: ∀x∈iz (rowsP d c) j,-1048576<=x/\x<=1048576:=λx hx=>by
   obtain⟨r,hr,rfl⟩:=EH.1 hx;have hrm:=(FB.1 hr).1;have hl:=(hrow r hrm).1;rw[E0,E5 (by omega)];exact(hrow r hrm).2 _ (EA _)
  have h2:(iz (rowsP d c) j).length<=4096:=by
   have:(rowsP d c).length<=c.rows.length:=Ez _ _;simp only[iz,EB];omega
  rw[x7 h1 h2]
 have hat:=uE (rowsP d c) c.vars 0 d hnod hv.2;have hdat: ∀v∈c.vars,∃y,(ig (rowsP d c) c.vars 0 d)[v.toNat]? =some y/\aB y/\∀x,x∈vals y↔∃r∈rowsP d c,r.getD (c.vars.idxOf v) 0=x:=λv hvm=>by
  have hiv:c.vars.idxOf v<c.vars.length:=GE.2 hvm;have h0:=hv.2 v hvm;have e:((v.toNat:Nat):Int)=v:=(by omega);have h3:=(hat v.toNat).2 (c.vars.idxOf v) (by rw[e,E5 hiv,Gh]);rw[Fy,hcol _ hiv]at h3;refine⟨_,h3,fR (ca _),λx=> ?_⟩;rw[bH (ca _),bI];unfold iz;rw[EH]
 unfold aX tabO;rw[E4 (by omega),E4 (by omega),E4 (by omega),E4 (by omega),E4 gd.some'];unfold d6;rw[E4 gd.some'];have hpos:c.vars≠[]:=λe=>by
  unfold rightR at hr;rw[E4 (by omega),E4 (by omega),E6 hk]at hr;simp only[manyR,EL,ER]at hr;have:=hr.1.2.1;rw[e]at this;simp at this
 rw[oO (out:=ig (rowsP d c) c.vars 0 d) hnd hin (ro _ _ _ _) (λx hx=> ?_) (λv hvm x=> ?_) (λi hi=>(hat i).1 λhm=>hi ((hmem _).2 hm))]
 ·unfold gL;by_cases hr0:rowsP d c=[]
  ·rw[E6 hr0,E6];obtain⟨v,hvm⟩:=Fw _ hpos;obtain⟨y,hy,hok,hx⟩:=hdat v hvm;have:y=[]:=(fq hok).1 (G7.2 λx hxm=>by
    obtain⟨r,hr,_⟩:=(hx x).1 hxm;rw[hr0]at hr;cases hr)
   exact this▸EC hy
  ·rw[E4 hr0,E4];intro hm;obtain⟨k,hk2⟩:=EK hm;by_cases hkv:(k:Int)∈c.vars
   ·obtain⟨y,hy,hok,hx⟩:=hdat _ hkv;rw[Eo,hk2]at hy;obtain rfl:=E7 hy;obtain⟨r,hr⟩:=Fw _ hr0;have:=(hx _).2 ⟨r,hr,rfl⟩;cases this
   ·rw[(hat k).1 hkv]at hk2;exact gd.some' (EC hk2)
 ·obtain⟨k,hk2⟩:=EK hx;by_cases hkv:(k:Int)∈c.vars
  ·obtain⟨y,hy,hok,_⟩:=hdat _ hkv;rw[Eo,hk2]at hy;exact E7 hy▸hok
  ·rw[(hat k).1 hkv]at hk2;exact(gd.few.fine x (EC hk2)).ok
 ·have hvc:=(hmem v).1 hvm;obtain⟨y,hy,_,hx⟩:=hdat v hvc;have:domAt (ig (rowsP d c) c.vars 0 d) v=y:=by
   unfold domAt;rw[E0,hy];rfl
  rw[this,hx,hsupp v hvc]
theorem mB {x:Int×Int}{a:List (Int×Int)}(h:aB (x::a)){v:Int}(hv:v∈vals a):x.2+2<=v:=by
 obtain⟨s,hs,h4,h5⟩:=be.1 hv;have:=(Ei.1 h.2).1 s hs;omega
theorem oJ: ∀(n:Nat) (a b:List (Int×Int)),a.length+b.length<=n->aB a->aB b->aB (bJ a b)/\(∀r∈bJ a b,∃s∈a,s.1<=r.1/\r.2<=s.2)/\(∀r∈bJ a b,∃s∈b,s.1<=r.1/\r.2<=s.2)/\∀v,v∈vals (bJ a b)↔v∈vals a/\v∈vals b
 |_,[],b,_,_,_=>by rw[oL];exact⟨⟨by simp,.nil⟩,by simp,by simp,by simp[vals]⟩
 |_,x::a,[],_,_,_=>by rw[oK];exact⟨⟨by simp,.nil⟩,by simp,by simp,by simp[vals]⟩
 |0,x::a,y::b,hn,_,_=>by simp at hn
 |n+1,x::a,y::b,hn,ha,hb=>by
  have hx:=ha.1 x (.head _);have hy:=hb.1 y (.head _);have hpa:=(Ei.1 ha.2).1;have hpb:=(Ei.1 hb.2).1;rw[iO];have key:aB (if x.2<y.2 then bJ a (y::b)else bJ (x::a) b)/\(∀r∈(if x.2<y.2 then bJ a (y::b)else bJ (x::a) b),(∃s∈x::a,s.1<=r.1/\r.2<=s.2)/\(∃s∈y::b,s.1<=r.1/\r.2<=s.2)/\min x.2 y.2+2<=r.1)/\
    ∀v,v∈vals (if x.2<y.2 then bJ a (y::b)else bJ (x::a) b)↔(v∈vals (x::a)/\v∈vals (y::b))/\min x.2 y.2<v:=by
   by_cases hlt:x.2<y.2
   ·rw[E6 hlt];obtain⟨h1,h2,h3,h4⟩:=oJ n a (y::b) (by simp at hn⊢;omega) ha.tail hb;refine⟨h1,λr hr=> ?_,λv=> ?_⟩
    ·obtain⟨s,hs,h5,h6⟩:=h2 r hr;have:=hpa s hs;exact⟨⟨s,.tail _ hs,h5,h6⟩,h3 r hr,by omega⟩
    ·rw[h4,bD x a,EW,cQ];constructor
     ·rintro⟨h5,h6⟩;have:=mB ha h5;exact⟨⟨.inr h5,h6⟩,by omega⟩
     ·rintro⟨⟨h5|h5,h6⟩,h7⟩;·omega
      ·exact⟨h5,h6⟩
   ·rw[E4 hlt];obtain⟨h1,h2,h3,h4⟩:=oJ n (x::a) b (by simp at hn⊢;omega) ha hb.tail;refine⟨h1,λr hr=> ?_,λv=> ?_⟩
    ·obtain⟨s,hs,h5,h6⟩:=h3 r hr;have:=hpb s hs;exact⟨h2 r hr,⟨s,.tail _ hs,h5,h6⟩,by omega⟩
    ·rw[h4,bD y b,EW,cQ];constructor
     ·rintro⟨h5,h6⟩;have:=mB hb h6;exact⟨⟨h5,.inr h6⟩,by omega⟩
     ·rintro⟨⟨h5,h6|h6⟩,h7⟩;·omega
      ·exact⟨h5,h6⟩
  generalize (if x.2<y.2 then bJ a (y::b)else bJ (x::a) b)=t at*;obtain⟨t1,t2,t3⟩:=key;have hmem: ∀v,v<=min x.2 y.2->(v∈vals (x::a)/\v∈vals (y::b)↔max x.1 y.1<=v):=λv hv=>by
   rw[bD,bD,EW,EW,cQ,cQ];constructor
   ·rintro⟨h5|h5,h6|h6⟩;·omega
    ·have:=mB hb h6;omega
    ·have:=mB ha h5;omega
    ·have:=mB ha h5;omega
   ·intro h5;exact⟨.inl (by omega),.inl (by omega)⟩
  by_cases hc:max x.1 y.1<=min x.2 y.2
  ·rw[E6 hc];refine⟨⟨λr hr=> ?_,Ei.2 ⟨λr hr=> ?_,t1.2⟩⟩,λr hr=> ?_,λr hr=> ?_,λv=> ?_⟩
   ·rcases ET.1 hr with rfl|hr;·exact hc
    ·exact t1.1 r hr
   ·have:=(t2 r hr).2.2;simp only;omega
   ·rcases ET.1 hr with rfl|hr;·exact⟨x,.head _,by simp only;omega,by simp only;omega⟩
    ·exact(t2 r hr).1
   ·rcases ET.1 hr with rfl|hr;·exact⟨y,.head _,by simp only;omega,by simp only;omega⟩
    ·exact(t2 r hr).2.1
   ·rw[List.singleton_append,bD,EW,cQ,t3];by_cases hv:v<=min x.2 y.2
    ·rw[hmem v hv];simp only;omega
    ·simp only;constructor
     ·rintro(h5|h5);·omega
      ·exact h5.1
     ·exact λh5=> .inr ⟨h5,by omega⟩
  ·rw[E4 hc,Ff];refine⟨t1,λr hr=>(t2 r hr).1,λr hr=>(t2 r hr).2.1,λv=> ?_⟩;rw[t3];constructor;·exact λh=>h.1
   ·intro h;refine⟨h,F9 λhv=> ?_⟩;have:=(hmem v (by omega)).1 h;omega
theorem Bu {a b:List (Int×Int)}(ha:aB a)(hb:aB b):aB (bJ a b)/\∀v,v∈vals (bJ a b)↔v∈vals a/\v∈vals b:=
 ⟨(oJ _ a b (EO _) ha hb).1,(oJ _ a b (EO _) ha hb).2.2.2⟩
def vX (out:List (Int×Int))(x:Int×Int):List (Int×Int):=match out.getLast? with
 |none=>out++[x]
 |some r=>if x.1<=r.2+1 then out.dropLast++[(r.1,max r.2 x.2)]else out++[x]
def joinG (l:List (Int×Int)):List (Int×Int):=l.foldl vX []
theorem kd (x:Int×Int):vX [] x=[x]:=rfl
theorem iT (o:List (Int×Int))(r x:Int×Int):vX (o++[r]) x=if x.1<=r.2+1 then o++[(r.1,max r.2 x.2)]else o++[r]++[x]:=by
 unfold vX;rw[Hd];simp
theorem iU (l:List (Int×Int))(x:Int×Int):joinG (l++[x])=vX (joinG l) x:=by simp[joinG]
theorem snocInd {α:Type}{P:List α->Prop}(h0:P [])(h1: ∀l x,P l->P (l++[x]))(l:List α):P l:=by
 have key: ∀l:List α,P l.reverse:=by
  intro l
  induction l with
  |nil=>exact h0
  |cons x l ih=>rw[List.reverse_cons];exact h1 _ _ ih
 have:=key l.reverse;rwa[List.reverse_reverse]at this
theorem Aa (l:List (Int×Int)):(joinG l).length<=l.length:=by
 refine snocInd (P:=λl=>(joinG l).length<=l.length) (by simp[joinG]) (λl x ih=> ?_) l
 ·show(joinG (l++[x])).length<=(l++[x]).length;rw[iU];rcases GB (joinG l)with h|⟨o,r,h⟩;·rw[h,kd];simp
  ·rw[h,G1,iT];rw[h,G1]at ih;split<;>simp at ih⊢ <;>omega
theorem CD: ∀(l:List (Int×Int)),(∀r∈l,r.1<=r.2)->l.Pairwise (λr s=>r.1<=s.1)->aB (joinG l)/\(∀r∈joinG l,∃s∈l,r.1=s.1)/\∀v,v∈vals (joinG l)↔∃r∈l,r.1<=v/\v<=r.2:=by
 intro l;refine snocInd (P:=λl=>(∀r∈l,r.1<=r.2)->l.Pairwise (λr s=>r.1<=s.1)->aB (joinG l)/\(∀r∈joinG l,∃s∈l,r.1=s.1)/\∀v,v∈vals (joinG l)↔∃r∈l,r.1<=v/\v<=r.2) (λ_ _=>⟨⟨by simp[joinG],.nil⟩,by simp[joinG],by simp[joinG,vals]⟩) (λl x ih=> ?_) l
 ·intro h1 h2;have hp:=G5.1 h2;obtain⟨i1,i2,i3⟩:=ih (λr hr=>h1 r (Ex _ hr)) hp.1;have hx:=h1 x (Ey _ (.head _));have hle: ∀r∈joinG l,r.1<=x.1:=λr hr=>by
   obtain⟨s,hs,e⟩:=i2 r hr;rw[e];exact hp.2.2 s hs x (.head _)
  have hmem: ∀v,(∃r∈l++[x],r.1<=v/\v<=r.2)↔v∈vals (joinG l)∨(x.1<=v/\v<=x.2):=λv=>by
   rw[i3];constructor
   ·rintro⟨r,hr,h⟩;rcases EW.1 hr with hr|hr;·exact .inl ⟨r,hr,h⟩
    ·rw[EI.1 hr]at h;exact .inr h
   ·rintro(⟨r,hr,h⟩|h);·exact⟨r,Ex _ hr,h⟩
    ·exact⟨x,Ey _ (.head _),h⟩
  rw[iU];rcases GB (joinG l)with h|⟨o,r,h⟩
  ·rw[h]at hmem⊢;rw[kd];refine⟨⟨by simp;omega,Fm _ _⟩,λr hr=>⟨x,Ey _ (.head _),by rw[EI.1 hr]⟩,λv=> ?_⟩;rw[hmem];simp[vals,cQ]
  ·rw[h,G1]at i1 i2 hle hmem⊢;rw[iT];obtain⟨a1,a2⟩:=i1;have hpo:=G5.1 a2;have hr:=a1 r (Ey _ (.head _));have hrx:=hle r (Ey _ (.head _));have vs: ∀(o:List (Int×Int)) (v:Int),v∈vals (o++[r])↔v∈vals o∨(r.1<=v/\v<=r.2):=λo v=>(by simp[vals,cQ]);by_cases hc:x.1<=r.2+1
   ·rw[E6 hc];refine⟨⟨λs hs=> ?_,G5.2 ⟨hpo.1,Fm _ _,λs hs t ht=> ?_⟩⟩,λs hs=> ?_,λv=> ?_⟩
    ·rcases EW.1 hs with hs|hs;·exact a1 s (Ex _ hs)
     ·rw[EI.1 hs];simp only;omega
    ·rw[EI.1 ht];exact hpo.2.2 s hs r (.head _)
    ·rcases EW.1 hs with hs|hs
     ·obtain⟨t,ht,e⟩:=i2 s (Ex _ hs);exact⟨t,Ex _ ht,e⟩
     ·obtain⟨t,ht,e⟩:=i2 r (Ey _ (.head _));exact⟨t,Ex _ ht,by rw[EI.1 hs];exact e⟩
    ·rw[hmem,vs];have:v∈vals (o++[(r.1,max r.2 x.2)])↔v∈vals o∨(r.1<=v/\v<=max r.2 x.2):=(by simp[vals,cQ]);rw[this];constructor
     ·rintro(h5|h5);·exact .inl (.inl h5)
      ·by_cases h6:v<=r.2;·exact .inl (.inr ⟨h5.1,h6⟩)
       ·exact .inr (by omega)
     ·rintro((h5|h5)|h5);·exact .inl h5
      ·exact .inr (by omega)
      ·exact .inr (by omega)
   ·rw[E4 hc];refine⟨⟨λs hs=> ?_,G5.2 ⟨a2,Fm _ _,λs hs t ht=> ?_⟩⟩,λs hs=> ?_,λv=> ?_⟩
    ·rcases EW.1 hs with hs|hs;·exact a1 s hs
     ·rw[EI.1 hs];exact hx
    ·rw[EI.1 ht];rcases EW.1 hs with hs|hs;·have:=hpo.2.2 s hs r (.head _);omega
     ·rw[EI.1 hs];omega
    ·rcases EW.1 hs with hs|hs
     ·obtain⟨t,ht,e⟩:=i2 s hs;exact⟨t,Ex _ ht,e⟩
     ·exact⟨x,Ey _ (.head _),by rw[EI.1 hs]⟩
    ·rw[hmem];simp[vals,cQ,or_assoc]
end Go.Proofs.YtopcjbahjjhdmaaGreat
namespace Go.Proofs.YtopcjbahjjhdmaaGreat
open Go Go.RowKit Go.Sort
set_option linter.unusedVariables false
set_option linter.unusedSimpArgs false
set_option maxRecDepth 8000
def RB:Type:= {r:Int×Int // -2097152<=r.1/\r.1<=2097152}
def rb0:RB:=⟨(0,0),by decide,by decide⟩
instance:Inhabited RB:=⟨rb0⟩
def d8 (x:RB):List Value:=[.int .i64 x.1.1,.int .i64 x.1.2]
def oA (x y:RB):Int:=x.1.1-y.1.1
theorem Cv (x y:RB):ltOf oA x y=decide (x.1.1<y.1.1):=by
 unfold ltOf oA;by_cases h:x.1.1<y.1.1;·simp[h];omega
 ·simp[h];omega
theorem CW:SWO (ltOf oA) where
 irrefl x:=by rw[Cv];simp
 trans x y z h1 h2:=by rw[Cv]at *;simp at *;omega
 ntrans x y z h1 h2:=by rw[Cv]at *;simp at *;omega
theorem D4 (x y:RB)(W:World):Calls Tryz.prog 229 #[.agg (d8 x).toArray,.agg (d8 y).toArray] W λe w'=>e= .returned (.int .i64 (oA x y))/\∃q os',w'=grow (W.drewN q) os':=by
 have hw:IntKind.i64.wrap (x.1.1-y.1.1)=x.1.1-y.1.1:=af (by have:=x.2;have:=y.2;omega) (by have:=x.2;have:=y.2;omega);unfold d8 oA
 go_enter Tryz.func229,Tryz.ntmps229
 go_wp2
 go_ret
 exact⟨rfl,0,_,by rw[alloc_eq_grow,alloc_eq_grow,grow_grow];rfl⟩
theorem Dn (l:List RB):(flatK d8 2 l.toArray).toList=(l.map d8).flatten:=by
 have key: ∀(l:List RB) (t:Nat),t<l.length*2->((l.map d8).flatten)[t]? =some (d8 l[t / 2]!)[t % 2]! :=by
  intro l
  induction l with
  |nil=>intro t h;simp at h
  |cons x l ih=>
   intro t h
   match t with
   |0=>rfl
   |1=>rfl
   |t+2=>
    rw[Ek,FM,show(d8 x)=[.int .i64 x.1.1,.int .i64 x.1.2]from Y];rw[show∀(a b:Value) (m:List Value),([a,b]++m)[t+2]? =m[t]? from λ_ _ _=>rfl,ih t (by simp at h;omega)];rw[show(t+2) / 2=t / 2+1 by omega,show(t+2) % 2=t % 2 by omega];rfl
 have hlen:((l.map d8).flatten).length=l.length*2:=by
  induction l with
  |nil=>rfl
  |cons x l ih=>rw[Ek,FM,EZ,ih];simp[d8];omega
 refine GT (by rw[FL,size_flatK,hlen];rfl) λt h1 h2=> ?_;have ht:t<l.length*2:=(by rw[<-hlen];exact h2);have h3:=key l t ht;rw[E5 h2]at h3;have h4:=get_flatK d8 2 l.toArray t (by simpa using ht);rw[getElem!_pos _ t (by simpa using ht)]at h4;rw[Array.getElem_toList,h4,E7 h3];simp
theorem xW {w:World}{g:Nat}{cur:Array Value}{e:TypeId}{F:Array Value}(hb:w.heap[g]? =some (.cells cur e (0,0)))(ht:cur.toList.take F.size=F.toList):Holds id w g 0 F:=by
 intro j hj;refine⟨?_,by simp[World.frozen?,hb]⟩;have h1:(cur.toList.take F.size)[j]? =F.toList[j]? :=(by rw[ht]);rw[GC hj]at h1;simp only[World.cell?,hb,Fy];simp only[Hs,FC,if_false];rw[<-Fq,h1];simp[hj]
theorem s7 (cur F:Array Value)(h:F.size<=cur.size):(Go.Sort.putCells id 0 F cur).toList.take F.size=F.toList:=by
 apply Fo;intro j;by_cases hj:j<F.size
 ·rw[GC hj,Fq];simp[Go.Sort.putCells,hj,show j<cur.size by omega]
 ·rw[List.getElem?_take_eq_none (by omega),FD (by simp;omega)]
def jm (r:Int×Int):RB:=if h: -2097152<=r.1/\r.1<=2097152 then⟨r,h⟩else rb0
def sortR (l:List (Int×Int)):List (Int×Int):=((pdq (ltOf oA) (l.map jm).toArray 0 l.length (Lib.bitLen l.length) true true).toList).map (·.1)
theorem uB {l:List (Int×Int)}(h: ∀r∈l,-2097152<=r.1/\r.1<=2097152):(l.map jm).map (·.1)=l:=by
 rw[Fi]
 conv=>rhs;rw[<-List.map_id l]
 refine F6 λr hr=> ?_;simp[jm,h r hr]
theorem ph {l:List (Int×Int)}(h: ∀r∈l,-2097152<=r.1/\r.1<=2097152):(sortR l).Perm l/\(sortR l).Pairwise (λr s=>r.1<=s.1):=by
 have hs:(l.map jm).toArray.size=l.length:=(by simp);have hp:=pdq_sorts (ltOf oA) CW (l.map jm).toArray 0 (l.map jm).toArray.size (Lib.bitLen (l.map jm).toArray.size) true true (Er _) (EO _) (Or.inl Y);rw[hs]at hp;unfold sortR;generalize pdq (ltOf oA) (l.map jm).toArray 0 l.length (Lib.bitLen l.length) true true=d' at hp⊢;obtain⟨⟨h1,_,h3⟩,h4⟩:=hp;rw[hs]at h1;have e1:(d'.extract 0 l.length).toList=d'.toList:=(by rw[<-h1];simp);have e2:((l.map jm).toArray.extract 0 l.length).toList=l.map jm:=(by simp[EY]);rw[e1,e2]at h3;refine⟨?_,?_⟩
 ·have:=h3.map (·.1);rwa[uB h]at this
 ·rw[H9,Gi];intro i j hi hj hij;have:=h4 i j (Er _) hij (by rw[<-h1];simpa using hj);rw[Cv,getElem!_pos _ i (by simpa using hi),getElem!_pos _ j (by simpa using hj)]at this;simp at this;simpa using this
theorem pH {w:World}{Z:Nat->Prop}: ∀{l:List (Int×Int)} {vs:List Value},L2 (Rep w Z) vs (l.map cR).flatten->vs=(l.map λr=>[Value.int .i64 r.1,Value.int .i64 r.2]).flatten
 | [],_,.nil=>rfl
 |r::l,_,.cons h1 (.cons h2 h3)=>by
  cases h1;cases h2;rw[pH h3];rfl
theorem pE {w:World}{Z:Nat->Prop}: ∀(l:List (Int×Int)),L2 (Rep w Z) (l.map λr=>[Value.int .i64 r.1,Value.int .i64 r.2]).flatten (l.map cR).flatten
 | []=> .nil
 |r::l=> .cons (.int _ _) (.cons (.int _ _) (pE l))
theorem y0 {l:List (Int×Int)}(m:List RB)(h:m.map (·.1)=l):(flatK d8 2 m.toArray).toList=(l.map λr=>[Value.int .i64 r.1,Value.int .i64 r.2]).flatten:=by
 rw[Dn,<-h,Fi];rfl
theorem uG (l:List (Int×Int))(hl:l.length*16<=140737488355328)(hb: ∀r∈l,-2097152<=r.1/\r.1<=2097152):SpecM Tryz.prog 228 53 2 (l.map cR) [.fn (.func 229) [] []] ((sortR l).map cR) []:=by
 have hsl:(sortR l).length=l.length:=(ph hb).1.length_eq;refine⟨⟨_,Tryz.func228,rfl,rfl⟩,λp hp=>(by cases hp),λw Z1 v0 vs ho hz hvs=> ?_⟩;cases hvs with
 |cons hf hvs=>
 cases hvs;cases hf with
 |fn _ us vs _ _ hu hc=>
 cases hu;cases hc;obtain⟨xs,hrow,hx,h1,h2⟩:=ho;obtain rfl:=pH hx;rw[EB]at hrow;obtain⟨hln,hrow⟩:=hrow;have hflen: ∀m:List (Int×Int),((m.map λr=>[Value.int .i64 r.1,Value.int .i64 r.2]).flatten).length=m.length*2:=λm=>by
  induction m with
  |nil=>rfl
  |cons r m ih=>rw[Ek,FM,EZ,ih];simp;omega
 rcases hrow with ⟨rfl,hnil⟩|⟨g,cap,cur,rfl,_,hbk,hcap,hmax,hsz,htk⟩
 ·obtain rfl:l=[]:=(by simpa using hnil);refine(AnyF.slices_SortFunc_none rX none 0 _ w).mono ?_;rintro e w' ⟨rfl,rfl⟩;have hn:sortR []=[]:=EQ hsl;refine⟨[],rfl,rfl,rfl,rfl,EO _,λ_ _ _=>rfl,?_,.nil⟩;rw[hn];refine⟨[],⟨rfl,.inl ⟨rfl,rfl⟩⟩,.nil,?_,?_⟩<;>(intro r hr;cases hr)
 ·have hg:g<w.heap.size:=(EU.1 hbk).1;have hfl:=y0 (l.map jm) (uB hb);have hfs:(flatK d8 2 (l.map jm).toArray).size=l.length*2:=(by simp);have hH:HoldsK d8 2 w g 0 (l.map jm).toArray:=xW hbk (by rw[hfs,hfl];exact htk);have hcon:=AnyQ.slices_SortFunc_eq rX 2 Tryz.isAgg53 Tryz.sizeOf53 d8 (λ_=>rfl) (λx v hv=>by simp[d8]at hv;rcases hv with rfl|rfl<;>rfl) oA CW 229 #[] g 0 cap (l.map jm).toArray w
   (enters_of Tryz.func229 (by kernel_rfl) Y) (λ_ _ _ _ x y=>D4 x y _) hH hg (by simp;omega)
  rw[show(l.map jm).toArray.size=l.length by simp]at hcon;refine hcon.mono ?_;rintro e w' ⟨rfl,n,os,rfl⟩;have hpz:(pdq (ltOf oA) (l.map jm).toArray 0 l.length (Lib.bitLen l.length) true true).size=l.length:=by
   have:=hsl;unfold sortR at this;simpa using this
  have hfl2:=y0 (l:=sortR l) (pdq (ltOf oA) (l.map jm).toArray 0 l.length (Lib.bitLen l.length) true true).toList Y;generalize pdq (ltOf oA) (l.map jm).toArray 0 l.length (Lib.bitLen l.length) true true=d' at hpz hfl2⊢;have hfs2:(flatK d8 2 d').size=l.length*2:=(by rw[size_flatK,hpz]);have hh:(sortWorldK d8 2 w g 0 n d' os).heap[g]? =some (.cells (Go.Sort.putCells id 0 (flatK d8 2 d') cur) 53 (0,0)):=by
   unfold sortWorldK putRowK;rw[heap_grow_old _ _ (by simpa using hg)];simp[putRow,mapBlock,Sort.ahead,H2,hbk,onCells]
  have htk2:(Go.Sort.putCells id 0 (flatK d8 2 d') cur).toList.take ((sortR l).length*2)=((sortR l).map λr=>[Value.int .i64 r.1,Value.int .i64 r.2]).flatten:=by
   rw[hsl,<-hfs2,s7 _ _ (by rw[hfs2,hsz];exact F7 2 hcap)];exact hfl2
  refine⟨[],rfl,rfl,rfl,rfl,?_,λb hb1 hb2=> ?_,⟨((sortR l).map λr=>[Value.int .i64 r.1,Value.int .i64 r.2]).flatten,⟨by rw[hflen,EB],.inr ⟨g,cap,_,by rw[EB,hsl],Er _,hh,by rw[EB,hsl];exact hcap,hmax,by simp[Go.Sort.putCells,hsz],by rw[EB];exact htk2⟩⟩,pE _,λr hr=> ?_,λr hr p hp=> ?_⟩,.nil⟩
  ·unfold sortWorldK putRowK;simp
  ·unfold sortWorldK putRowK;rw[heap_grow_old _ _ (by simpa using hb1)];have:g≠b:=λe=>hb2 (by simp[VB,aC,e]);simp[putRow,mapBlock,Sort.ahead,H2,this]
  ·obtain⟨x,_,rfl⟩:=EH.1 hr;rfl
  ·obtain⟨x,_,rfl⟩:=EH.1 hr;simp[cR]at hp;rcases hp with rfl|rfl<;>rfl
end Go.Proofs.YtopcjbahjjhdmaaGreat
namespace Go.Proofs.YtopcjbahjjhdmaaGreat
open Go Go.RowKit
set_option linter.unusedVariables false
set_option linter.unusedSimpArgs false
def qj (a b:List (Int×Int)):List (Int×Int):=joinG (sortR (a++b))
theorem BL {a b:List (Int×Int)}(ha:aB a)(hb:aB b)(h: ∀r∈a++b,-1048576<=r.1/\r.1<=1048576/\-1048576<=r.2/\r.2<=1048576):aB (qj a b)/\∀v,v∈vals (qj a b)↔v∈vals a∨v∈vals b:=by
 obtain⟨h1,h2⟩:=ph (l:=a++b) λr hr=>(by have:=h r hr;omega);obtain⟨h3,_,h4⟩:=CD (sortR (a++b)) (λr hr=>by
  rcases EW.1 (h1.mem_iff.1 hr)with hr|hr;·exact ha.1 r hr
  ·exact hb.1 r hr) h2
 refine⟨h3,λv=> ?_⟩;show v∈vals (joinG _)↔_;rw[h4,be,be];constructor
 ·rintro⟨r,hr,h⟩;rcases EW.1 (h1.mem_iff.1 hr)with hr|hr;·exact .inl ⟨r,hr,h⟩
  ·exact .inr ⟨r,hr,h⟩
 ·rintro(⟨r,hr,h⟩|⟨r,hr,h⟩);·exact⟨r,h1.mem_iff.2 (Ex _ hr),h⟩
  ·exact⟨r,h1.mem_iff.2 (Ey _ hr),h⟩
def elemM (d:aa)(vs:List Int)(i:Int):List (Int×Int):=bJ (domAt d (vs.getD (i.toNat+2) 0)) (domAt d (vs.getD 1 0))
def elemIn (d:aa)(vs:List Int)(i:Int):Bool:=decide (0<=i)&&decide (i.toNat+2<vs.length)&& !decide (elemM d vs i=[])
def elemPl (d:aa)(vs:List Int):List Int:=(vals (domAt d (vs.getD 0 0))).filter (elemIn d vs)
def elemMay (d:aa)(vs:List Int)(l:List Int):List (Int×Int):=l.foldl (λm i=>qj m (elemM d vs i)) []
def tQ (d:aa)(vs l:List Int):aa:=
 if l.length=1 then((d.set (vs.getD 0 0).toNat (domOfP l).1).set (vs.getD 1 0).toNat (elemMay d vs l)).set (vs.getD ((l.getD 0 0).toNat+2) 0).toNat (elemMay d vs l)else(d.set (vs.getD 0 0).toNat (domOfP l).1).set (vs.getD 1 0).toNat (elemMay d vs l)
def sJ (d:aa)(c:Con):Option aa:=if []∈d then none else if elemPl d c.vars=[]then none else some (tQ d c.vars (elemPl d c.vars))
theorem oU {x:List (Int×Int)}(h:aB x)(hv: ∀v∈vals x,-1048576<=v/\v<=1048576): ∀r∈x,-1048576<=r.1/\r.1<=1048576/\-1048576<=r.2/\r.2<=1048576:=λr hr=>by
 have h0:=h.1 r hr;have h1:=hv r.1 (be.2 ⟨r,hr,FS _,h0⟩);have h2:=hv r.2 (be.2 ⟨r,hr,h0,FS _⟩);omega
theorem GoodD.dok {n:Nat}{d:aa}(gd:GoodD n d)(v:Int):aB (domAt d v):=by
 unfold domAt;by_cases hv:v.toNat<d.length
 ·rw[E0,E5 hv];exact(gd.few.fine _ (EA hv)).ok
 ·rw[E0,FD (by omega)];exact⟨by simp,.nil⟩
theorem eK {n:Nat}{d:aa}(gd:GoodD n d)(vs:List Int)(i:Int):aB (elemM d vs i)/\∀v,v∈vals (elemM d vs i)↔v∈vals (domAt d (vs.getD (i.toNat+2) 0))/\v∈vals (domAt d (vs.getD 1 0)):=Bu (gd.dok _) (gd.dok _)
theorem qE {n:Nat}{d:aa}(gd:GoodD n d)(vs:List Int)(l:List Int):aB (elemMay d vs l)/\∀v,v∈vals (elemMay d vs l)↔∃i∈l,v∈vals (elemM d vs i):=by
 refine snocInd (P:=λl=>aB (elemMay d vs l)/\∀v,v∈vals (elemMay d vs l)↔∃i∈l,v∈vals (elemM d vs i)) ⟨⟨by simp[elemMay],.nil⟩,λv=>by simp[elemMay,vals]⟩ (λl i ⟨h1,h2⟩=> ?_) l;have e:elemMay d vs (l++[i])=qj (elemMay d vs l) (elemM d vs i):=(by simp[elemMay]);obtain⟨h3,h4⟩:=eK gd vs i;have hr: ∀j v,v∈vals (elemM d vs j)->-1048576<=v/\v<=1048576:=λj v hv=>(gd.few.at _).2.2 v (((eK gd vs j).2 v).1 hv).1;obtain⟨h5,h6⟩:=BL h1 h3 λr hr2=>by
  rcases EW.1 hr2 with hr2|hr2
  ·refine oU h1 (λv hv=> ?_) r hr2;obtain⟨j,_,hj⟩:=(h2 v).1 hv;exact hr j v hj
  ·exact oU h3 (hr i) r hr2
 rw[e];refine⟨h5,λv=> ?_⟩;rw[h6,h2];constructor
 ·rintro(⟨j,hj,h⟩|h);·exact⟨j,Ex _ hj,h⟩
  ·exact⟨i,Ey _ (.head _),h⟩
 ·rintro⟨j,hj,h⟩;rcases EW.1 hj with hj|hj;·exact .inl ⟨j,hj,h⟩
  ·rw[EI.1 hj]at h;exact .inr h
theorem wz {n:Nat}{d:aa}(gd:GoodD n d)(vs:List Int)(l:List Int):(elemMay d vs l).length<=4096/\∀r∈elemMay d vs l,-1048576<=r.1/\r.1<=1048576/\-1048576<=r.2/\r.2<=1048576:=by
 obtain⟨h1,h2⟩:=qE gd vs l;have hs: ∀v∈vals (elemMay d vs l),v∈vals (domAt d (vs.getD 1 0)):=λv hv=>by
  obtain⟨i,_,h⟩:=(h2 v).1 hv;exact(((eK gd vs i).2 v).1 h).2
 have h3:=cq (aG h1) hs;have h4:=(gd.few.at (vs.getD 1 0)).1;have h5:=bN h1;exact⟨by omega,oU h1 λv hv=>(gd.few.at _).2.2 v (hs v hv)⟩
theorem kj {vs:List Int}{f:Int->Int}{j:Nat}(h:j<vs.length):(vs.map f).getD j 0=f (vs.getD j 0):=by
 rw[E0,EJ,E5 h,E0,E5 h];rfl
theorem jJ {vs:List Int}(hn:vs.Nodup){i j:Nat}(hi:i<vs.length)(hj:j<vs.length)(h:vs.getD i 0=vs.getD j 0):i=j:=by
 rw[aO hi,aO hj]at h;rw[<-hn.idxOf_getElem i hi,h,hn.idxOf_getElem j hj]
theorem dh {vs:List Int}{i:Nat}(hi:i<vs.length):vs.getD i 0∈vs:=by
 rw[aO hi];exact EA hi
theorem i4 {n:Nat}{d:aa}(gd:GoodD n d)(vs:List Int)(i:Int):i∈elemPl d vs↔i∈vals (domAt d (vs.getD 0 0))/\0<=i/\i.toNat+2<vs.length/\∃y,y∈vals (elemM d vs i):=by
 have e: ¬elemM d vs i=[]↔∃y,y∈vals (elemM d vs i):=by
  rw[<-fq (eK gd vs i).1];constructor;·exact λh=>Fw _ h
  ·rintro⟨y,hy⟩ h;rw[h]at hy;cases hy
 unfold elemPl elemIn;rw[FB,<-e];simp[and_assoc]
def y4 (vs:List Int)(f:Int->Int):Prop:=0<=f (vs.getD 0 0)/\(f (vs.getD 0 0)).toNat+2<vs.length/\f (vs.getD ((f (vs.getD 0 0)).toNat+2) 0)=f (vs.getD 1 0)
theorem At {vs:List Int}(h3:3<=vs.length)(f:Int->Int):y3 (vs.map f)=true↔y4 vs f:=by
 unfold y3 y4;rw[kj (j:=0) (by omega),kj (j:=1) (by omega)];simp only[EL,ER,EB];generalize f (vs.getD 0 0)=i;constructor
 ·rintro⟨⟨⟨_,h1⟩,h2⟩,h4⟩;have e:(i+2).toNat=i.toNat+2:=(by omega);rw[e,kj (by omega)]at h4;exact⟨h1,by omega,h4⟩
 ·rintro⟨h1,h2,h4⟩;have e:(i+2).toNat=i.toNat+2:=(by omega);rw[e,kj (by omega)];exact⟨⟨⟨by omega,h1⟩,by omega⟩,h4⟩
theorem Ar {n:Nat}{d:aa}(gd:GoodD n d){vs:List Int}(hn:vs.Nodup)(h3:3<=vs.length)(h0: ∀u∈vs,0<=u/\u.toNat<n){v:Int}(hv:v∈vs)(x:Int):
  (∃f:Int->Int,(∀u∈vs,f u∈vals (domAt d u))/\y4 vs f/\f v=x)↔∃i y,i∈elemPl d vs/\y∈vals (elemM d vs i)/\x∈vals (domAt d v)/\(v=vs.getD 0 0->x=i)/\(v=vs.getD 1 0->x=y)/\(v=vs.getD (i.toNat+2) 0->x=y):=by
 constructor
 ·rintro⟨f,h1,⟨h4,h5,h6⟩,rfl⟩;have hy:f (vs.getD 1 0)∈vals (elemM d vs (f (vs.getD 0 0))):=by
   rw[(eK gd vs _).2];exact⟨by rw[<-h6];exact h1 _ (dh h5),h1 _ (dh (by omega))⟩
  refine⟨f (vs.getD 0 0),f (vs.getD 1 0),(i4 gd vs _).2 ⟨h1 _ (dh (by omega)),h4,h5,_,hy⟩,hy,h1 v hv,λe=>by rw[e],λe=>by rw[e],λe=>by rw[<-h6,e]⟩
 ·rintro⟨i,y,hi,hy,hx,e0,e1,e2⟩;obtain⟨i1,i2,i3,_⟩:=(i4 gd vs i).1 hi;obtain⟨y1,y2⟩:=((eK gd vs i).2 y).1 hy;have hg: ∀u,∃w,u∈vs->w∈vals (domAt d u):=λu=>by
   by_cases hu:u∈vs
   ·obtain⟨w,hw⟩:=gd.ne (h0 u hu).2;exact⟨w,λ_=>hw⟩
   ·exact⟨0,λh=>EX h hu⟩
  have d01:vs.getD 1 0≠vs.getD 0 0:=λe=>(by have:=jJ hn (by omega) (by omega) e;omega);have d02:vs.getD (i.toNat+2) 0≠vs.getD 0 0:=λe=>(by have:=jJ hn (by omega) (by omega) e;omega);have d12:vs.getD (i.toNat+2) 0≠vs.getD 1 0:=λe=>(by have:=jJ hn (by omega) (by omega) e;omega);let f:Int->Int:=λu=>if u=vs.getD 0 0 then i else if u=vs.getD 1 0 then y else if u=vs.getD (i.toNat+2) 0 then y else if u=v then x else Classical.choose (hg u)
  have f0:f (vs.getD 0 0)=i:=E6 Y;have f1:f (vs.getD 1 0)=y:=(by simp only[f];rw[E4 d01,E6 trivial]);have f2:f (vs.getD (i.toNat+2) 0)=y:=(by simp only[f];rw[E4 d02,E4 d12,E6 trivial]);refine⟨f,λu hu=> ?_,⟨by rw[f0];exact i2,by rw[f0];exact i3,by rw[f0,f1,f2]⟩,?_⟩
  ·simp only[f];by_cases c0:u=vs.getD 0 0;·rw[E6 c0,c0];exact i1
   rw[E4 c0];by_cases c1:u=vs.getD 1 0;·rw[E6 c1,c1];exact y2
   rw[E4 c1];by_cases c2:u=vs.getD (i.toNat+2) 0;·rw[E6 c2,c2];exact y1
   rw[E4 c2];by_cases c3:u=v;·rw[E6 c3,c3];exact hx
   ·rw[E4 c3];exact Classical.choose_spec (hg u) hu
  ·simp only[f];by_cases c0:v=vs.getD 0 0;·rw[E6 c0];exact(e0 c0).symm
   rw[E4 c0];by_cases c1:v=vs.getD 1 0;·rw[E6 c1];exact(e1 c1).symm
   rw[E4 c1];by_cases c2:v=vs.getD (i.toNat+2) 0;·rw[E6 c2];exact(e2 c2).symm
   rw[E4 c2,E6 trivial]
theorem sI {n:Nat}{d:aa}{c:Con}(gd:GoodD n d)(hc:ConB c)(h:conR d c=0)(hk:c.kind=3):aX c d=sJ d c:=by
 obtain⟨_,hv,hr,hin⟩:=cB hc h;have hu:usesR c=aT c.vars:=(by unfold usesR;rw[E4 (by omega)]);have hrr:c.vars.Nodup/\3<=c.vars.length:=by
  unfold rightR at hr;rw[E4 (by omega),E4 (by omega),E4 (by omega),E6 hk]at hr;simp only[manyR,EL,ER]at hr;exact⟨hr.1.2.2,hr.2⟩
 obtain⟨hnod,h3⟩:=hrr;have hnd:(usesR c).Nodup:=dF (ca _);have hmem: ∀u,u∈usesR c↔u∈c.vars:=λu=>(by rw[hu];exact bI u _);have hP: ∀f:Int->Int,bL c (cS d.length (usesR c) ((usesR c).map f) (usesR c).length)=true↔y4 c.vars f:=λf=>by
  have hpk:pickedR c.vars (cS d.length (usesR c) ((usesR c).map f) (usesR c).length)=c.vars.map f:=F6 λv hv=>mz f hin ((hmem v).2 hv);unfold bL;rw[E4 (by omega),E4 (by omega),E4 (by omega),E6 hk,hpk];exact At h3 f
 have h0: ∀u∈c.vars,0<=u/\u.toNat<n:=λu hu=>(by have:=hv.2 u hu;rwa[gd.len]at this);have hS: ∀v∈c.vars,∀x,qR d (usesR c) (λt=>bL c (cS d.length (usesR c) t (usesR c).length)) v x↔∃i y,i∈elemPl d c.vars/\y∈vals (elemM d c.vars i)/\x∈vals (domAt d v)/\(v=c.vars.getD 0 0->x=i)/\(v=c.vars.getD 1 0->x=y)/\(v=c.vars.getD (i.toNat+2) 0->x=y):=λv hvm x=>by
  rw[<-Ar gd hnod h3 h0 hvm x];constructor
  ·rintro⟨f,h1,h2,h4⟩;exact⟨f,λu hu=>h1 u ((hmem u).2 hu),(hP f).1 h2,h4⟩
  ·rintro⟨f,h1,h2,h4⟩;exact⟨f,λu hu=>h1 u ((hmem u).1 hu),(hP f).2 h2,h4⟩
 unfold aX sJ;rw[E4 (by omega),E4 (by omega),E4 (by omega),E4 (by omega),E4 gd.some'];unfold d6;rw[E4 gd.some'];generalize (λt=>bL c (cS d.length (usesR c) t (usesR c).length))=P at hS⊢;generalize usesR c=us at*;have hlin: ∀u,u∈us->0<=u/\u.toNat<d.length:=hin;clear hP h hu hr hc hk;generalize c.vars=vs at*;have dne: ∀j k,j<vs.length->k<vs.length->j≠k->(vs.getD j 0).toNat≠(vs.getD k 0).toNat:=λj k hj hk e2 e=>e2 (jJ hnod hj hk (by have:=(h0 _ (dh hj)).1;have:=(h0 _ (dh hk)).1;omega));by_cases hl:elemPl d vs=[]
 ·rw[E6 hl];refine E6 ?_;have hv0:vs.getD 0 0∈vs:=dh (by omega);have hz:=h0 _ hv0;obtain⟨y,hy,hok,hx⟩:=(lV (P:=P) hnd hlin (vs.getD 0 0).toNat).2 (by rw[GN hz.1];exact(hmem _).2 hv0);have:y=[]:=(fq hok).1 (G7.2 λx hxm=>by
   have:=(hx x).1 hxm;rw[GN hz.1,hS _ hv0,hl]at this;obtain⟨i,_,h,_⟩:=this;cases h)
  rw[this]at hy;exact EC hy
 ·rw[E4 hl];obtain⟨m1,m2⟩:=qE gd vs (elemPl d vs);have hlu:Up (elemPl d vs):=(aG (gd.dok _)).filter _;have hlv: ∀v∈elemPl d vs,-1048576<=v/\v<=1048576:=λv hv=>(gd.few.at _).2.2 v (FB.1 hv).1;have hll:(elemPl d vs).length<=4096:=Em (Ez _ _) (gd.few.at _).1;have hpl:=λi=>i4 gd vs i;have hof:=sK hlu hlv hll;have hln:=dF hlu;have hmne: ∀i∈elemPl d vs,∃y,y∈vals (elemM d vs i):=λi hi=>((hpl i).1 hi).2.2.2;have hmay:elemMay d vs (elemPl d vs)≠[]:=λe=>by
   obtain⟨i,hi⟩:=Fw _ hl;obtain⟨y,hy⟩:=hmne i hi;have:=(m2 y).2 ⟨i,hi,hy⟩;rw[e]at this;cases this
  have hpk:bX (elemPl d vs)≠[]:=λe=>hl (by rw[<-bH hlu,e];rfl);have hxx: ∀v x i y,y∈vals (elemM d vs i)->(v=vs.getD 1 0->x=y)->v=vs.getD 1 0->x∈vals (elemM d vs i):=λv x i y hy e hv=>(by rw[e hv];exact hy);unfold tQ;rw[hof];generalize elemMay d vs (elemPl d vs)=may at*;generalize hpe:elemPl d vs=l at*;have hsz: ∀o:aa,(if l.length=1 then((d.set (vs.getD 0 0).toNat (bX l)).set (vs.getD 1 0).toNat may).set (vs.getD ((l.getD 0 0).toNat+2) 0).toNat may else(d.set (vs.getD 0 0).toNat (bX l)).set (vs.getD 1 0).toNat may)=o->o.length=d.length:=λo e=>(by rw[<-e];split<;>simp);generalize hO:(if l.length=1 then((d.set (vs.getD 0 0).toNat (bX l)).set (vs.getD 1 0).toNat may).set (vs.getD ((l.getD 0 0).toNat+2) 0).toNat may else(d.set (vs.getD 0 0).toNat (bX l)).set (vs.getD 1 0).toNat may)=out;have hlen:=hsz out hO;have hd0:=λj (hj:j<vs.length)=>(hlin _ ((hmem _).2 (dh hj))).2;have hi0:l.length=1->l.getD 0 0∈l:=λe=>(by rw[aO (by omega)];exact EA _);have hb0:l.length=1->(l.getD 0 0).toNat+2<vs.length:=λe=>((hpl _).1 (hi0 e)).2.2.1;have hat: ∀j,j<vs.length->domAt out (vs.getD j 0)=if j=0 then bX l else if j=1 then may else if l.length=1/\j=(l.getD 0 0).toNat+2 then may else domAt d (vs.getD j 0):=λj hj=>by
   rw[<-hO];by_cases hl1:l.length=1
   ·rw[E6 hl1,gh (by simp;exact hd0 _ (hb0 hl1)),gh (by simp;exact hd0 1 (by omega)),gh (hd0 0 (by omega))];by_cases c2:j=(l.getD 0 0).toNat+2;·rw[E6 (by rw[c2]),E4 (by omega),E4 (by omega),E6 ⟨hl1,c2⟩]
    ·rw[E4 (dne _ _ (hb0 hl1) hj (Ne.symm c2)),E4 (c:=l.length=1/\_) (λh=>c2 h.2)];by_cases c1:j=1;·rw[E6 (by rw[c1]),E4 (by omega),E6 c1]
     ·rw[E4 (dne _ _ (by omega) hj (Ne.symm c1)),E4 c1];by_cases c0:j=0;·rw[E6 (by rw[c0]),E6 c0]
      ·rw[E4 (dne _ _ (by omega) hj (Ne.symm c0)),E4 c0]
   ·rw[E4 hl1,gh (by simp;exact hd0 1 (by omega)),gh (hd0 0 (by omega)),E4 (c:=l.length=1/\_) (λh=>hl1 h.1)];by_cases c1:j=1;·rw[E6 (by rw[c1]),E4 (by omega),E6 c1]
    ·rw[E4 (dne _ _ (by omega) hj (Ne.symm c1)),E4 c1];by_cases c0:j=0;·rw[E6 (by rw[c0]),E6 c0]
     ·rw[E4 (dne _ _ (by omega) hj (Ne.symm c0)),E4 c0]
  have hms: ∀x∈out,x=bX l∨x=may∨x∈d:=λx hx=>by
   rw[<-hO]at hx;split at hx
   ·rcases EV hx with hx|hx
    ·rcases EV hx with hx|hx
     ·rcases EV hx with hx|hx;·exact .inr (.inr hx)
      ·exact .inl hx
     ·exact .inr (.inl hx)
    ·exact .inr (.inl hx)
   ·rcases EV hx with hx|hx
    ·rcases EV hx with hx|hx;·exact .inr (.inr hx)
     ·exact .inl hx
    ·exact .inr (.inl hx)
  rw[oO (out:=out) hnd hlin hlen (λx hx=> ?_) (λv hvm x=> ?_) (λi hi=> ?_)]
  ·unfold gL;rw[E4];intro hm;rcases hms _ hm with e|e|e;·exact hpk e.symm
   ·exact hmay e.symm
   ·exact gd.some' e
  ·rcases hms x hx with rfl|rfl|hx;·exact fR hlu
   ·exact m1
   ·exact(gd.few.fine x hx).ok
  ·have hvc:=(hmem v).1 hvm;rw[hS v hvc];have hj:vs.idxOf v<vs.length:=GE.2 hvc;have hve:v=vs.getD (vs.idxOf v) 0:=(by rw[aO hj,Gh]);generalize vs.idxOf v=j at hj hve;subst hve;have hvi: ∀k,k<vs.length->(vs.getD j 0=vs.getD k 0↔j=k):=λk hk=>⟨jJ hnod hj hk,λe=>by rw[e]⟩;rw[hat j hj];by_cases c0:j=0
   ·subst c0;rw[E6 Y,bH hlu];constructor
    ·intro hx;obtain⟨y,hy⟩:=hmne x hx;obtain⟨a1,a2,a3,_⟩:=(hpl x).1 hx;exact⟨x,y,hx,hy,a1,λ_=>rfl,λe=>by rw[hvi 1 (by omega)]at e;omega,λe=>by rw[hvi _ a3]at e;omega⟩
    ·rintro⟨i,y,hi,_,_,e,_⟩;rw[e Y];exact hi
   rw[E4 c0];by_cases c1:j=1
   ·subst c1;rw[E6 Y,m2];constructor
    ·rintro⟨i,hi,hx⟩;obtain⟨a1,a2,a3,_⟩:=(hpl i).1 hi;exact⟨i,x,hi,hx,(((eK gd vs i).2 x).1 hx).2,λe=>EX ((hvi 0 (by omega)).1 e) (by omega),λ_=>rfl,λe=>EX ((hvi _ a3).1 e) (by omega)⟩
    ·rintro⟨i,y,hi,hy,_,_,e,_⟩;exact⟨i,hi,by rw[e Y];exact hy⟩
   rw[E4 c1];by_cases hl1:l.length=1
   ·have hone: ∀i∈l,i=l.getD 0 0:=λi hi=>by
     obtain⟨z,rfl⟩:=Gz.1 hl1;rw[EI.1 hi];rfl
    by_cases c2:j=(l.getD 0 0).toNat+2
    ·rw[E6 ⟨hl1,c2⟩,m2];constructor
     ·rintro⟨i,hi,hx⟩;obtain⟨a1,a2,a3,_⟩:=(hpl i).1 hi;have:=hone i hi;exact⟨i,x,hi,hx,by have:=(((eK gd vs i).2 x).1 hx).1;rw[c2,<-hone i hi];exact this,λe=>by rw[hvi 0 (by omega)]at e;omega,λ_=>rfl,λ_=>rfl⟩
     ·rintro⟨i,y,hi,hy,_,_,_,e⟩;exact⟨i,hi,by rw[e (by rw[c2,hone i hi])];exact hy⟩
    ·rw[E4 λh=>c2 h.2];constructor
     ·intro hx;obtain⟨y,hy⟩:=hmne _ (hi0 hl1);exact⟨_,y,hi0 hl1,hy,hx,λe=>by rw[hvi 0 (by omega)]at e;omega,λe=>by rw[hvi 1 (by omega)]at e;omega,λe=>by rw[hvi _ (hb0 hl1)]at e;omega⟩
     ·rintro⟨i,y,_,_,hx,_⟩;exact hx
   ·rw[E4 λh=>hl1 h.1];constructor
    ·intro hx;have: ∃i∈l,i.toNat+2≠j:=by
      match l,hl,hl1,hln,hpl with
      | [],hl,_,_,_=>exact EX Y hl
      | [z],_,h1,_,_=>exact EX Y h1
      |z::t::_,_,_,hln,hpl=>
       by_cases e:z.toNat+2=j
       ·refine⟨t,.tail _ (.head _),λe2=> ?_⟩;have a1:=((hpl z).1 (.head _)).2.1;have a2:=((hpl t).1 (.tail _ (.head _))).2.1;have:z=t:=(by omega);rw[this]at hln;exact(FH.1 hln).1 (.head _)
       ·exact⟨z,.head _,e⟩
     obtain⟨i,hi,hne⟩:=this;obtain⟨y,hy⟩:=hmne i hi;exact⟨i,y,hi,hy,hx,λe=>by rw[hvi 0 (by omega)]at e;omega,λe=>by rw[hvi 1 (by omega)]at e;omega,λe=>by rw[hvi _ ((hpl i).1 hi).2.2.1]at e;omega⟩
    ·rintro⟨i,y,_,_,hx,_⟩;exact hx
  ·have hni: ∀k,k<vs.length->(vs.getD k 0).toNat≠i:=λk hk e=>hi (by
    rw[<-e,GN (h0 _ (dh hk)).1];exact(hmem _).2 (dh hk))
   rw[<-hO];by_cases hl1:l.length=1;·rw[E6 hl1,Et (hni _ (hb0 hl1)),Et (hni 1 (by omega)),Et (hni 0 (by omega))]
   ·rw[E4 hl1,Et (hni 1 (by omega)),Et (hni 0 (by omega))]
set_option maxRecDepth 8000
theorem z8 {l:List (Int×Int)}(h: ∀r∈l,-1048576<=r.2/\r.2<=1048576): ∀r∈joinG l,-1048576<=r.2/\r.2<=1048576:=by
 revert h;refine snocInd (P:=λl=>(∀r∈l,-1048576<=r.2/\r.2<=1048576)->∀r∈joinG l,-1048576<=r.2/\r.2<=1048576) (λ_ r hr=>by simp[joinG]at hr) (λl x ih h=> ?_) l;have ih:=ih λr hr=>h r (Ex _ hr);have hx:=h x (Ey _ (.head _));rw[iU];rcases GB (joinG l)with e|⟨o,r,e⟩
 ·rw[e,kd];intro r hr;rw[EI.1 hr];exact hx
 ·rw[e,G1]at ih⊢;rw[iT];have hr:=ih r (Ey _ (.head _));split
  ·intro s hs;rcases EW.1 hs with hs|hs;·exact ih s (Ex _ hs)
   ·rw[EI.1 hs];simp only;omega
  ·intro s hs;rcases EW.1 hs with hs|hs;·exact ih s hs
   ·rw[EI.1 hs];exact hx
set_option maxHeartbeats 2000000 in
theorem x8 (a b:List (Int×Int))(hl:(a.length+b.length+1)*16<=140737488355328)(hb: ∀r∈a++b,-1048576<=r.1/\r.1<=1048576/\-1048576<=r.2/\r.2<=1048576):
  Spec Tryz.prog 190 false [dm a,dm b] [.own 53 2 ((qj a b).map cR)]:=by
 refine Spec.body Tryz.func190 Y Y Y λw0 Z0=> ?_;have hso:=ph (l:=a++b) λr hr=>(by have:=hb r hr;omega);have hspec:=uG (a++b) (by simp;omega) λr hr=>(by have:=hb r hr;omega);have hsb: ∀r∈sortR (a++b),-1048576<=r.1/\r.1<=1048576/\-1048576<=r.2/\r.2<=1048576:=λr hr=>hb r (hso.1.mem_iff.1 hr);have hsl:(sortR (a++b)).length=a.length+b.length:=(by rw[hso.1.length_eq];simp);show T _ _ _ _;unfold qj;generalize sortR (a++b)=l at*;refine .B ?_;refine .D (bT a (by omega)) ?_;refine J.am (enc:=cR) (l:=a) (l2:=b) (B:=16) Y Y Y Y Y Y Y Y Y Y Y Y Y Y Y Y Y (λ_=>rfl) Y (by omega) ?_;refine .B ?_;refine J.cm Y Y Y Y Y Y Y Y Y hspec Y Y Y ?_;refine .B ?_;refine T.sub (Rel.own0 (s:=6) 53 2 Y) ?_;refine T.sub (Rel.flat (o:=1) Y tM) ?_;refine T.K (T.list l (λn pre post=>⟨[(6,.ref 0),(16,.ref 1),(17,.val true (.int .i64 (l.map cR).length)),(18,.val true (.int .i64 n))],[(0,some (.sl 53 2 true ((joinG pre).map cR))),(1,some (.sl 53 2 true (l.map cR)))],2⟩) (λ_ _ h=>h) ?_ ?_)
 ·rintro n pre ⟨x1,x2⟩ post h hn ih;have hlt:=bW h hn;have hpl:=Aa pre;have hpn:pre.length<=l.length:=(by rw[h];simp);have hx:=hsb (x1,x2) (by rw[h];simp);simp only at hx;have hpb: ∀r∈joinG pre,-1048576<=r.2/\r.2<=1048576:=z8 λr hr=>(by have:=hsb r (by rw[h];simp[hr]);omega);rw[iU]at ih;refine .B ?_;refine T.ct2 Y (bV h hn) ?_;refine .B ?_;refine J.io Y Y Y Y Y Y Y Y Y (by omega) (by simp;omega) Y ?_;refine .B ?_;refine J.lo Y Y Y Y Y Y (r:=cR (x1,x2)) (aM h hn) Y ?_;refine .B ?_;refine .L ?_;refine .X ?_;have hw1:=ai hlt (by omega);have hby:((joinG pre).length+1)*16<=140737488355328:=(by omega);generalize joinG pre=out at*;rcases GB out with rfl|⟨o,⟨a,b⟩,rfl⟩
  ·rw[kd]at ih;refine J.g Y Y Y (λh2=> ?_) (λh2=> ?_);·simp at h2
   refine .B ?_;refine T.cf Y ?_;refine .B ?_;refine .Z ?_;refine J.aR Y Y Y Y Y Y Y Y Y Y Y Y Y Y Y Y Y Y Y (by simp) ?_;refine .B ?_;rw[ai hlt (by omega)];exact T.K ih
  ·rw[G1]at*;rw[iT]at ih;have hab:=hpb (a,b) (by simp);simp only at hab;have hw2:IntKind.i64.wrap (b+1)=b+1:=af (by omega) (by omega);refine J.g Y Y Y (λh2=> ?_) (λh2=> ?_)
   rotate_left
   ·simp at h2
   have hlw:IntKind.i64.wrap (((((o++[(a,b)]).map cR).length:Nat):Int)-1)=(o.length:Int):=by
    rw[EB,EZ,af]<;>simp at* <;>omega
   have hro:((o++[(a,b)]).map cR)[((o.length:Nat):Int).toNat]? =some (cR (a,b)):=(by simp);refine .B ?_;rw[hlw];refine J.io Y Y Y Y Y Y Y Y Y (Gg _) (by simp) rfl ?_;refine .B ?_;refine J.lo Y Y Y Y Y Y (r:=cR (a,b)) hro Y ?_;refine .B ?_;rw[hw2];refine T.cd Y (λh3=> ?_) (λh3=> ?_)
   ·rw[E6 h3]at ih;refine .B ?_;refine T.rdw 12 Y (by kernel_rfl) Y ?_;refine .B ?_;rw[hlw];refine J.io Y Y Y Y Y Y Y Y Y (Gg _) (by simp) rfl ?_;refine .B ?_;refine J.lo Y Y Y Y Y Y (r:=cR (a,b)) hro Y ?_;refine .B ?_;refine⟨rfl,?_⟩;refine J.io Y Y Y Y Y Y Y Y Y (Gg _) (by simp) rfl ?_;refine .B ?_;refine J.w Y Y Y Y Y Y Y Y Y (u9 o a b (max b x2)) ?_;refine .B ?_;rw[hw1];exact T.K ih
   ·rw[E4 h3]at ih;refine .B ?_;refine .Z ?_;refine J.aR Y Y Y Y Y Y Y Y Y Y Y Y Y Y Y Y Y Y Y (l:=o++[(a,b)]) (a:=x1) (b:=x2) hby ?_;refine .B ?_;rw[hw1];exact T.K ih
 ·refine .B ?_;refine T.cf2 Y bj ?_;refine .B ?_;exact⟨_,.o Y Y Y (λ_=> .inl Y) (by simp) .nil⟩
end Go.Proofs.YtopcjbahjjhdmaaGreat
