/- The texts LiC, LiD, LiE, LiF, PuG, FgC, FgD, PuF, FgE, LiG, PuH, PuK, PuS, LiI, PuU, PuV, PuW, PuX, PuY, PuZ, PvA, FuJ, PvB, PvH of the workplace, joined. -/
import Derived.Test.YtopcjbahjjhdmaaGreatB6
namespace Go.Proofs.YtopcjbahjjhdmaaGreat
open Go Go.RowKit
set_option linter.unusedVariables false
set_option linter.unusedSimpArgs false
def bV:List (Int×List (Int×Int))->aa->aa
 | [],d=>d
 |p::ps,d=>bV ps (d.set p.1.toNat p.2)
theorem kn: ∀(ps:List (Int×List (Int×Int))) (d:aa),(bV ps d).length=d.length
 | [],d=>rfl
 |p::ps,d=>by rw[bV,kn ps,E7]
theorem cT: ∀(ps:List (Int×List (Int×Int))) (d:aa) (i:Nat),(∀p∈ps,p.1.toNat≠i)->(bV ps d)[i]? =d[i]?
 | [],d,i,_=>rfl
 |p::ps,d,i,h=>by
  rw[bV,cT ps _ i λq hq=>h q (.tail _ hq),Ds (h p (.head _))]
def rD (ps:List (Int×List (Int×Int))):Prop:=ps.Pairwise λp q=>p.1.toNat≠q.1.toNat
theorem dM: ∀{ps:List (Int×List (Int×Int))} {d:aa},rD ps->(∀p∈ps,p.1.toNat<d.length)->∀p∈ps,(bV ps d)[p.1.toNat]? =some p.2
 |q::ps,d,ha,hl,p,hp=>by
  have h1:=Dm.1 ha;rw[bV];rcases DO.1 hp with rfl|hp;·rw[cT ps _ _ λr hr=>Ne.symm (h1.1 r hr),E6 (hl _ (.head _))]
  ·exact dM h1.2 (λr hr=>by rw[E7];exact hl r (.tail _ hr)) p hp
theorem mV: ∀(ps:List (Int×List (Int×Int))) (p:Int×List (Int×Int)) (d:aa),bV (ps++[p]) d=(bV ps d).set p.1.toNat p.2
 | [],p,d=>rfl
 |q::ps,p,d=>by rw[Ei,bV,bV,mV ps]
theorem setAll_mem {ps:List (Int×List (Int×Int))}{d:aa}(ha:rD ps)(hl: ∀p∈ps,p.1.toNat<d.length){x:List (Int×Int)}:x∈bV ps d->x∈d∨∃p∈ps,p.2=x:=by
 intro h;obtain⟨i,hi⟩:=Fk.1 h;by_cases he: ∃p∈ps,p.1.toNat=i
 ·obtain⟨p,hp,rfl⟩:=he;rw[dM ha hl p hp]at hi;exact .inr ⟨p,hp,D3 hi⟩
 ·rw[cT ps d i λp hp e=>he ⟨p,hp,e⟩]at hi;exact .inl (D7 hi)
theorem vK {ps:List (Int×List (Int×Int))}{d:aa}(ha:rD ps)(hl: ∀p∈ps,p.1.toNat<d.length){p}(hp:p∈ps):p.2∈bV ps d:=D7 (dM ha hl p hp)
theorem tn {ps:List (Int×List (Int×Int))}{d:aa}(ha:rD ps)(hl: ∀p∈ps,p.1.toNat<d.length):bV ps d=d↔∀p∈ps,p.2=domAt d p.1:=by
 constructor
 ·intro h p hp;have:=dM ha hl p hp;rw[h,aq (hl p hp)]at this;exact(D3 this).symm
 ·intro h;refine Ej λi=> ?_;by_cases he: ∃p∈ps,p.1.toNat=i
  ·obtain⟨p,hp,rfl⟩:=he;rw[dM ha hl p hp,aq (hl p hp),h p hp]
  ·exact cT ps d i λp hp e=>he ⟨p,hp,e⟩
def dT (d:aa)(low rhs:Int)(p:Int×Int):List (Int×Int):=zm (domAt d p.1) p.2 (rhs-(low-cy (domAt d p.1) p.2))
def iE (d:aa)(vars coefs:List Int)(rhs:Int):List (Int×List (Int×Int)):=(vars.zip coefs).map λp=>(p.1,dT d (bi (ac d vars coefs)) rhs p)
def MO (d:aa)(vars coefs:List Int)(rhs:Int):aa:=bV (iE d vars coefs rhs) d
structure Whole (d:aa)(vars coefs:List Int)(rhs:Int):Prop where
 fine:SumFine d vars coefs
 nod:vars.Nodup
 ne: []∉d
 big:aj coefs<=4611686018427388928/\aG rhs<=4611686018427388928
theorem lW: ∀{vars coefs:List Int},vars.Nodup->(∀v∈vars,0<=v)->(vars.zip coefs).Pairwise λp q=>p.1.toNat≠q.1.toNat
 | [],_,_,_=>by simp
 |_::_,[],_,_=>by simp
 |v::vars,k::coefs,hn,h0=>by
  have h1:=ED.1 hn;rw[F5];refine Dm.2 ⟨λp hp=> ?_,lW h1.2 λv hv=>h0 v (.tail _ hv)⟩;have hm:=(Dv hp).1;have h2:=h0 _ (.head _);have h3:=h0 _ (.tail _ hm);intro e;have:v=p.1:=(by simp only at e;omega);exact h1.1 (this▸hm)
theorem iD {d:aa}{vars coefs:List Int}{rhs:Int}(h:Whole d vars coefs rhs):rD (iE d vars coefs rhs)/\∀p∈iE d vars coefs rhs,p.1.toNat<d.length:=by
 constructor
 ·unfold rD iE;rw[H0];exact lW h.nod λv hv=>(h.fine.vin v hv).1
 ·intro p hp;obtain⟨q,hq,rfl⟩:=DF.1 hp;exact(h.fine.vin _ (Dv hq).1).2
theorem eW {d:aa}{vars coefs:List Int}{rhs:Int}(h:Whole d vars coefs rhs): ∀t∈ac d vars coefs,t.1≠[]:=by
 intro t ht e;obtain⟨p,hp,rfl⟩:=DF.1 ht;have:=ah (h.fine.vin _ (Dv hp).1).2;simp only at e;rw[e]at this;exact h.ne this
theorem ue: ∀{ts:List (List (Int×Int)×Int)},gw ts->(∀t∈ts,t.1≠[])->∀t∈ts,aG t.2*1048576-aZ ts<=bi ts-cy t.1 t.2/\bi ts-cy t.1 t.2<=aZ ts-aG t.2*1048576
 |t0::ts,h,hne,t,ht=>by
  have hs:=kL (ts:=ts) (λt ht=>h t (.tail _ ht)) (λt ht=>hne t (.tail _ ht));have e:bi (t0::ts)=cy t0.1 t0.2+bi ts:=(by simp[bi]);have hb:=lu (h t0 (.head _)).1 (hne t0 (.head _)) t0.2;have hp:=de ts;have ha:=bE t0.2;rw[cz,e];rcases DO.1 ht with rfl|ht;·omega
  ·have:=ue (λt ht=>h t (.tail _ ht)) (λt ht=>hne t (.tail _ ht)) t ht;omega
theorem xv {d:aa}{vars coefs:List Int}{rhs:Int}(h:Whole d vars coefs rhs){p:Int×Int}(hp:p∈vars.zip coefs):
  -4611686018427388928<=bi (ac d vars coefs)/\bi (ac d vars coefs)<=4611686018427388928/\-4611686018427388928<=bi (ac d vars coefs)-cy (domAt d p.1) p.2/\bi (ac d vars coefs)-cy (domAt d p.1) p.2<=4611686018427388928/\
   -9223372036853729280<=rhs-(bi (ac d vars coefs)-cy (domAt d p.1) p.2)/\rhs-(bi (ac d vars coefs)-cy (domAt d p.1) p.2)<=9223372036853729280:=by
 have hs:=kL (di h.fine) (eW h);have hm:=ue (di h.fine) (eW h) (domAt d p.1,p.2) (DF.2 ⟨p,hp,rfl⟩);rw[cA h.fine.len]at hs hm;have hb:=h.big;have ha:aG rhs=max rhs (-rhs):=rfl;have hk1:1<=aG p.2:=(by have:=(h.fine.ck _ (Dv hp).2).1;unfold aG;omega);simp only at hm;omega
theorem qD {d:aa}{vars coefs:List Int}{rhs:Int}(h:Whole d vars coefs rhs): ∀(l:List (Int×Int)) (d1:aa) (ch:Bool),(∀p∈l,p∈vars.zip coefs)->l.Pairwise (λp q=>p.1.toNat≠q.1.toNat)->(∀p∈l,domAt d1 p.1=domAt d p.1)->
  ((∃p∈l,dT d (bi (ac d vars coefs)) rhs p=[])->(eO (bi (ac d vars coefs)) rhs l d1 ch).2.2=false)/\
  ((∀p∈l,dT d (bi (ac d vars coefs)) rhs p≠[])->eO (bi (ac d vars coefs)) rhs l d1 ch=(bV (l.map λp=>(p.1,dT d (bi (ac d vars coefs)) rhs p)) d1,ch||l.any (λp=> !decide (dT d (bi (ac d vars coefs)) rhs p=domAt d p.1)),true))
 | [],d1,ch,_,_,_=>by simp[eO,bV]
 |(v,k)::l,d1,ch,hm,ha,hd=>by
  have hz:=hm _ (.head _);obtain⟨hv,hk⟩:=Dv hz;have hx:=h.fine.dom _ (ah (h.fine.vin _ hv).2);have hne:domAt d v≠[]:=λe=>h.ne (e▸ah (h.fine.vin _ hv).2);have hck:=h.fine.ck _ hk;have hr:=xv h hz;have ha1:=Dm.1 ha;have e1:domAt d1 v=domAt d v:=hd _ (.head _);have e2:cutW (domAt d1 v) k (gK (bi (ac d vars coefs)) rhs (domAt d1 v) k)=dT d (bi (ac d vars coefs)) rhs (v,k):=by
   rw[e1];unfold gK dT;rw[(sj hx hne hck).1];simp only[wr]at hr⊢;rw[af (n:=bi (ac d vars coefs)-cy (domAt d v) k) (by omega) (by omega),af (by omega) (by omega)];exact BM hx hck (by omega) (by omega)
  have hd2: ∀p∈l,domAt (d1.set v.toNat (dT d (bi (ac d vars coefs)) rhs (v,k))) p.1=domAt d p.1:=by
   intro p hp;rw[<-hd p (.tail _ hp)];unfold domAt;rw[D0,D0,Ds (ha1.1 p hp)]
  obtain⟨i1,i2⟩:=qD h l (d1.set v.toNat (dT d (bi (ac d vars coefs)) rhs (v,k))) (ch|| !decide (dT d (bi (ac d vars coefs)) rhs (v,k)=domAt d v)) (λp hp=>hm p (.tail _ hp)) ha1.2 hd2;rw[eO,e2,e1];constructor
  ·rintro⟨p,hp,he⟩;by_cases h0:dT d (bi (ac d vars coefs)) rhs (v,k)=[];·rw[D4 h0]
   ·rw[D2 h0];rcases DO.1 hp with rfl|hp;·exact DU he h0
    ·exact i1 ⟨p,hp,he⟩
  ·intro hall;rw[D2 (hall _ (.head _)),i2 λp hp=>hall p (.tail _ hp)];simp only[DZ,bV,List.any_cons,Bool.or_assoc]
theorem tX {d:aa}{vars coefs:List Int}{rhs:Int}(h:Whole d vars coefs rhs):
  ([]∈MO d vars coefs rhs->(mostW d vars coefs rhs).2.2=false)/\([]∉MO d vars coefs rhs->mostW d vars coefs rhs=(MO d vars coefs rhs,!decide (MO d vars coefs rhs=d),true)):=by
 obtain⟨ha,hl⟩:=iD h;have hends:(endsW d vars coefs).1=bi (ac d vars coefs):=by
  unfold endsW;have hb:=h.big;have hr:=bE rhs;have hw:=cA (d:=d) h.fine.len;rw[jH 0 0 (di h.fine) (eW h) (by omega) (by omega) (by omega) (by omega)];simp
 obtain⟨i1,i2⟩:=qD h (vars.zip coefs) d false (λp hp=>hp) (lW h.nod λv hv=>(h.fine.vin v hv).1) (λp hp=>rfl);unfold mostW;rw[hends];constructor
 ·intro hm;rcases setAll_mem ha hl hm with hm|⟨p,hp,he⟩;·exact DU hm h.ne
  ·obtain⟨q,hq,rfl⟩:=DF.1 hp;exact i1 ⟨q,hq,he⟩
 ·intro hm;have hall: ∀p∈vars.zip coefs,dT d (bi (ac d vars coefs)) rhs p≠[]:=λp hp e=>hm (by
   have:=vK ha hl (DF.2 ⟨p,hp,rfl⟩:_∈iE d vars coefs rhs);rw[show(p.1,dT d (bi (ac d vars coefs)) rhs p).2=[]from e]at this;exact this)
  rw[i2 hall];refine Prod.ext Y (Prod.ext ?_ Y);simp only[H4];rw[FD,EZ];simp only[ER,decide_eq_false_iff_not];have hss:=tn ha hl;constructor
  ·rintro⟨p,hp,hne⟩ e;exact hne ((hss.1 e) _ (DF.2 ⟨p,hp,rfl⟩))
  ·intro hne;refine E0 λhno=>hne (hss.2 λq hq=> ?_);obtain⟨p,hp,rfl⟩:=DF.1 hq;exact E0 λhn=>hno ⟨p,hp,hn⟩
theorem oy {i:Nat}: ∀{ts:List (List (Int×Int)×Int)} (k:Nat) (n:Int),gw ts->(∀t∈ts,t.1≠[])->-4611686018427388928<=n-aZ ts->n+aZ ts<=4611686018427388928->∀(hi:k<=i) (t:List (Int×Int)×Int),ts[i-k]? =some t->gj i k ts n=n+(bi ts-cy t.1 t.2)
 | [],k,n,_,_,_,_,_,t,ht=>by simp at ht
 |t0::ts,k,n,h,hne,h1,h2,hi,t,ht=>by
  have hf:=h t0 (.head _);have hx:=hne t0 (.head _);have e1:=xU hf.1 hx hf.2;have b:=lu hf.1 hx t0.2;have hp:=de ts;have ha:=bE t0.2;have hs:=kL (ts:=ts) (λt ht=>h t (.tail _ ht)) (λt ht=>hne t (.tail _ ht));rw[cz]at h1 h2;have el:bi (t0::ts)=cy t0.1 t0.2+bi ts:=(by simp[bi]);rw[gj,el];by_cases hk:k=i
  ·subst hk;rw[D4 Y];simp at ht;subst ht;have hrest: ∀(ts:List (List (Int×Int)×Int)) (j:Nat) (n:Int),k<j->gw ts->(∀t∈ts,t.1≠[])->-4611686018427388928<=n-aZ ts->n+aZ ts<=4611686018427388928->gj k j ts n=n+bi ts:=by
    intro ts
    induction ts with
    |nil=>intro j n _ _ _ _ _;simp[gj,bi]
    |cons t1 ts ih=>
     intro j n hj h hne h1 h2;have hf:=h t1 (.head _);have hx:=hne t1 (.head _);have e1:=xU hf.1 hx hf.2;have b:=lu hf.1 hx t1.2;have hp:=de ts;rw[cz]at h1 h2;have el:bi (t1::ts)=cy t1.1 t1.2+bi ts:=(by simp[bi]);rw[gj,D2 (by omega),e1];simp only[wr];rw[af (by omega) (by omega),ih (j+1) _ (by omega) (λt ht=>h t (.tail _ ht)) (λt ht=>hne t (.tail _ ht)) (by omega) (by omega),el];omega
   rw[hrest ts (k+1) n (by omega) (λt ht=>h t (.tail _ ht)) (λt ht=>hne t (.tail _ ht)) (by omega) (by omega)];omega
  ·rw[D2 hk,e1];simp only[wr];rw[af (by omega) (by omega),oy (k+1) _ (λt ht=>h t (.tail _ ht)) (λt ht=>hne t (.tail _ ht)) (by omega) (by omega) (by omega) t (by
    rw[show i-k=(i-(k+1))+1 by omega]at ht;simpa using ht)]
   omega
theorem qC {d:aa}{vars coefs:List Int}{rhs:Int}(h:Whole d vars coefs rhs): ∀n,n<=vars.length->kv d vars coefs rhs n=bV ((iE d vars coefs rhs).take n) d
 |0,_=>by simp[kv,bV]
 |n+1,hn=>by
  have h1:n<vars.length:=(by omega);have h2:n<coefs.length:=(by have:=h.fine.len;omega);have hz:n<(vars.zip coefs).length:=(by simp;omega);have hp:(vars.zip coefs)[n]∈vars.zip coefs:=D8 hz;have hcl:n<(iE d vars coefs rhs).length:=(by simp[iE];omega);have ec:(iE d vars coefs rhs)[n]=(vars[n],dT d (bi (ac d vars coefs)) rhs (vars[n],coefs[n])):=(by simp[iE]);have hv:=h.fine.vin _ (D8 h1);have hx:=h.fine.dom _ (ah hv.2);have hne:domAt d vars[n]≠[]:=λe=>h.ne (e▸ah hv.2);have hck:=h.fine.ck _ (D8 h2);have hzz:(vars[n],coefs[n])∈vars.zip coefs:=by
   have:=hp;simpa using this
  have hr:=xv h hzz;simp only at hr;have hw:=cA (d:=d) h.fine.len;have hb:=h.big;have har:=bE rhs;have hrest:gj n 0 (ac d vars coefs) 0=bi (ac d vars coefs)-cy (domAt d vars[n]) coefs[n]:=by
   have:=oy (i:=n) 0 0 (di h.fine) (eW h) (by omega) (by omega) (by omega) (domAt d vars[n],coefs[n]) (by
    rw[Nat.sub_zero];simp[ac,D1 hz])
   simp only at this;omega
  have hat:rX d vars coefs rhs n=dT d (bi (ac d vars coefs)) rhs (vars[n],coefs[n]):=by
   unfold rX dT zm B4;rw[aL h1,aL h2,hrest];congr 1;refine H1 λv hv=> ?_;have hvb:=hx.val v hv;have hm:=d3 coefs[n] v hvb.1 hvb.2;have hc2:=hck.2;have e1:wr (coefs[n]*v)=coefs[n]*v:=af (by omega) (by omega);have e2:wr (rhs-(bi (ac d vars coefs)-cy (domAt d vars[n]) coefs[n]))=rhs-(bi (ac d vars coefs)-cy (domAt d vars[n]) coefs[n]):=af (by omega) (by omega);exact decide_eq_decide.2 (by rw[e1,e2])
  rw[kv,qC h n (by omega),aL h1,hat,DB hcl,ec,mV]
theorem oR {d:aa}{vars coefs:List Int}{rhs:Int}(h:Whole d vars coefs rhs):kv d vars coefs rhs vars.length=MO d vars coefs rhs:=by
 rw[qC h _ (DL _),DS (by simp[iE];omega)];rfl
def Sub (a b:aa):Prop:=a.length=b.length/\∀(i:Nat) x y,a[i]? =some x->b[i]? =some y->∀v∈vals x,v∈vals y
theorem Sub.refl (a:aa):Sub a a:=⟨rfl,λi x y h1 h2 v hv=>by rw[h1]at h2;exact D3 h2▸hv⟩
theorem Sub.trans {a b c:aa}(h:Sub a b)(k:Sub b c):Sub a c:=by
 refine⟨h.1.trans k.1,λi x z hx hz v hv=> ?_⟩;have hi:i<a.length:=(D5.1 hx).1;have hi2:i<b.length:=(by have:=h.1;omega);have hy:b[i]? =some b[i]:=D1 hi2;exact k.2 i _ z hy hz v (h.2 i x _ hx hy v hv)
theorem Sub.antisymm {a b:aa}(h:Sub a b)(k:Sub b a)(ha: ∀x∈a,Fine x)(hb: ∀x∈b,Fine x):a=b:=by
 refine Ej λi=> ?_;by_cases hi:i<a.length
 ·have hi2:i<b.length:=(by have:=h.1;omega);have hx:a[i]? =some a[i]:=D1 hi;have hy:b[i]? =some b[i]:=D1 hi2;have fx:=(ha _ (D8 hi)).ok;have fy:=(hb _ (D8 hi2)).ok;rw[hx,hy];congr 1;exact iC fx fy (dG (aF fx) (aF fy) λv=>⟨h.2 i _ _ hx hy v,k.2 i _ _ hy hx v⟩)
 ·rw[EB (by omega),EB (by have:=h.1;omega)]
theorem jq: ∀{a b:aa},Sub a b->(∀x∈a,Fine x)->(∀x∈b,Fine x)->weight a<=weight b/\(a≠b->weight a<weight b)
 | [],[],_,_,_=>⟨DL _,λh=>DU rfl h⟩
 | [],_::_,h,_,_=>by have:=h.1;simp at this
 |_::_,[],h,_,_=>by have:=h.1;simp at this
 |x::a,y::b,h,ha,hb=>by
  have h1:=vF (hb y (.head _)).ok (ha x (.head _)).ok (h.2 0 x y Y Y);have h2:=jq (a:=a) (b:=b) ⟨by have:=h.1;simpa using this,λi z w hz hw=>h.2 (i+1) z w (by simpa using hz) (by simpa using hw)⟩ (λz hz=>ha z (.tail _ hz)) (λz hz=>hb z (.tail _ hz));simp only[weight,DZ,Eb]at h2⊢;refine⟨by omega,λhne=> ?_⟩;by_cases e:x=y
  ·have:a≠b:=λe2=>hne (by rw[e,e2]);have:=h2.2 this;omega
  ·have:=h1.2 e;omega
theorem fZ {d:aa}{vars coefs:List Int}{rhs:Int}(h:Whole d vars coefs rhs){p:Int×Int}(hp:p∈vars.zip coefs)(low:Int):
  aA (dT d low rhs p)/\∀v,v∈vals (dT d low rhs p)↔v∈vals (domAt d p.1)/\p.2*v<=rhs-(low-cy (domAt d p.1) p.2):=
 xY (h.fine.dom _ (ah (h.fine.vin _ (Dv hp).1).2)).ok _ _
theorem ep {d:aa}{vars coefs:List Int}{rhs:Int}(h:Whole d vars coefs rhs):(∀x∈MO d vars coefs rhs,Fine x)/\Sub (MO d vars coefs rhs) d:=by
 obtain⟨ha,hl⟩:=iD h;refine⟨λx hx=> ?_,kn _ _,λi x y hx hy v hv=> ?_⟩
 ·rcases setAll_mem ha hl hx with hm|⟨p,hp,rfl⟩;·exact h.fine.dom x hm
  ·obtain⟨q,hq,rfl⟩:=DF.1 hp;obtain⟨c1,c2⟩:=fZ h hq (bi (ac d vars coefs));exact(h.fine.dom _ (ah (h.fine.vin _ (Dv hq).1).2)).cut c1 λv hv=>((c2 v).1 hv).1
 ·by_cases he: ∃p∈iE d vars coefs rhs,p.1.toNat=i
  ·obtain⟨p,hp,rfl⟩:=he;have e:=dM ha hl p hp;rw[show MO d vars coefs rhs=bV (iE d vars coefs rhs) d from Y,e]at hx;obtain rfl:=D3 hx;rw[aq (hl p hp)]at hy;obtain rfl:=D3 hy;obtain⟨q,hq,rfl⟩:=DF.1 hp;exact(((fZ h hq (bi (ac d vars coefs))).2 v).1 hv).1
  ·rw[show MO d vars coefs rhs=bV (iE d vars coefs rhs) d from Y,cT _ _ _ λp hp e=>he ⟨p,hp,e⟩,hy]at hx;exact D3 hx▸hv
theorem Whole.most {d:aa}{vars coefs:List Int}{rhs:Int}(h:Whole d vars coefs rhs)(hne: []∉MO d vars coefs rhs):Whole (MO d vars coefs rhs) vars coefs rhs:=by
 obtain⟨h1,h2⟩:=ep h;exact⟨⟨h.fine.len,h.fine.vl,λv hv=>by rw[h2.1];exact h.fine.vin v hv,h.fine.ck,h1,by rw[h2.1];exact h.fine.dl⟩,h.nod,hne,h.big⟩
theorem nT {rhs:Int}(h:aG rhs<=4611686018427388928):wr (0-rhs)= -rhs/\aG (wr (0-rhs))=aG rhs:=by
 have e:wr (0-rhs)= -rhs:=by
  unfold aG at h;rw[wr,af (by omega) (by omega)];omega
 refine⟨e,?_⟩;rw[e];unfold aG;omega
theorem Whole.back {d:aa}{vars coefs:List Int}{rhs:Int}(h:Whole d vars coefs rhs):Whole d vars (aB coefs) (wr (0-rhs)):=by
 have hb:=h.big;have hp:=aV coefs;refine⟨h.fine.back,h.nod,h.ne,?_⟩;rw[dh _ h.fine.ck,(nT (by omega)).2];exact hb
theorem Whole.unback {d d2:aa}{vars coefs:List Int}{rhs:Int}(h:Whole d vars coefs rhs)(h2:Whole d2 vars (aB coefs) (wr (0-rhs))):Whole d2 vars coefs rhs:=
 ⟨⟨h.fine.len,h.fine.vl,h2.fine.vin,h.fine.ck,h2.fine.dom,h2.fine.dl⟩,h.nod,h2.ne,h.big⟩
def M1 (c:Con)(d:aa):aa:=MO d c.vars c.coefs c.rhs
def M2 (c:Con)(d:aa):aa:=MO d c.vars (aB c.coefs) (wr (0-c.rhs))
def bG (c:Con)(d:aa):Prop:=Whole d c.vars c.coefs c.rhs
theorem dk {c:Con}{d:aa}(h:bG c d):fe c d=
  if []∈M1 c d then .inl none else if c.op=0 then .inl (some (M1 c d))else if []∈M2 c (M1 c d)then .inl none else
  if M1 c d=d/\M2 c (M1 c d)=M1 c d then .inl (some (M2 c (M1 c d)))else .inr (M2 c (M1 c d)):=by
 obtain⟨a1,a2⟩:=tX h;unfold fe;by_cases h1: []∈M1 c d;·rw[D4 h1,D4 (a1 h1)]
 ·have hw:bG c (M1 c d):=Whole.most h h1;obtain⟨b1,b2⟩:=tX hw.back;rw[D2 h1,a2 h1];simp only[GP,if_false];by_cases h2:c.op=0
  ·rw[D4 h2,D4 h2];rfl
  ·rw[D2 h2,D2 h2];by_cases h3: []∈M2 c (M1 c d)
   ·have b1':(mostW (MO d c.vars c.coefs c.rhs) c.vars (aB c.coefs) (wr (0-c.rhs))).2.2=false:=b1 h3;rw[D4 h3,D4 b1']
   ·have e:mostW (MO d c.vars c.coefs c.rhs) c.vars (aB c.coefs) (wr (0-c.rhs))=(M2 c (M1 c d),!decide (M2 c (M1 c d)=M1 c d),true):=b2 h3;rw[D2 h3,e];simp only[GP,if_false,FT,DN];rfl
theorem n8 {c:Con}{d:aa}(h: []∉d->bG c d):xq c d=
  if c.op=1/\[]∉d then(if []∈M2 c d then .inl none else if M1 c (M2 c d)=d then .inl (some d)else .inr (M1 c (M2 c d)))else .inl (if []∈d then none else some d):=by
 unfold xq;by_cases h1:c.op=1/\[]∉d
 ·have hw:=h h1.2;have e:xF d c=M2 c d:=oR hw.back;rw[D4 h1,D4 h1,e];by_cases h2: []∈M2 c d;·rw[D4 h2,D4 h2]
  ·have hw2:bG c (M2 c d):=hw.unback (Whole.most hw.back h2);have e2:tY (M2 c d) c=M1 c (M2 c d):=oR hw2;rw[D2 h2,D2 h2,e2]
 ·rw[D2 h1,D2 h1]
theorem um {c:Con}(hop:c.op=1): ∀(N:Nat) (p:aa) (R:Option aa),bG c p->cH (fe c) N p=some R->∃N',cH (xq c) N' (M1 c p)=some R
 |0,p,R,_,h=>by cases h
 |n+1,p,R,hw,h=>by
  have hs:=dk hw;obtain⟨f1,s1⟩:=ep hw;by_cases h1: []∈M1 c p
  ·rw[D4 h1]at hs;obtain rfl:=bf h hs;refine⟨1,?_⟩;have e:=n8 (c:=c) (d:=M1 c p) (λhn=>DU h1 hn);rw[D2 (λhh=>hh.2 h1),D4 h1]at e;simp only[cH,e]
  ·rw[D2 h1,D2 (by omega)]at hs;have hw1:bG c (M1 c p):=Whole.most hw h1;have hd:=n8 (c:=c) (d:=M1 c p) (λ_=>hw1);rw[D4 ⟨hop,h1⟩]at hd;obtain⟨f2,s2⟩:=ep hw1.back;by_cases h2: []∈M2 c (M1 c p)
   ·rw[D4 h2]at hs hd;obtain rfl:=bf h hs;exact⟨1,by simp only[cH,hd]⟩
   ·rw[D2 h2]at hs hd;have hw2:bG c (M2 c (M1 c p)):=hw1.unback (Whole.most hw1.back h2);obtain⟨f3,s3⟩:=ep hw2;by_cases h3:M1 c p=p/\M2 c (M1 c p)=M1 c p
    ·rw[D4 h3]at hs;obtain rfl:=bf h hs;have e:M1 c (M2 c (M1 c p))=M1 c p:=(by rw[h3.2,h3.1,h3.1]);rw[D4 e]at hd;exact⟨1,by simp only[cH,hd,h3.2]⟩
    ·rw[D2 h3]at hs;simp only[cH,hs]at h;by_cases h4:M1 c (M2 c (M1 c p))=M1 c p
     ·rw[D4 h4]at hd;have e1:M2 c (M1 c p)=M1 c p:=s2.antisymm (by have s3':=s3;rw[show MO (M2 c (M1 c p)) c.vars c.coefs c.rhs=M1 c p from h4]at s3';exact s3') f2 f1;have e2:M1 c (M1 c p)=M1 c p:=(by rw[e1]at h4;exact h4);rw[e1]at h;cases n with
      |zero=>cases h
      |succ n=>
       have hs2:=dk hw1;rw[e2,D2 h1,D2 (by omega),e1,D2 h1,D4 ⟨rfl,rfl⟩]at hs2;obtain rfl:=bf h hs2;exact⟨1,by simp only[cH,hd]⟩
     ·rw[D2 h4]at hd;obtain⟨N',hN⟩:=um hop n _ R hw2 h;exact⟨N'+1,by simp only[cH,hd];exact hN⟩
theorem Cm {c:Con}{p:aa}(hw:bG c p): ∃N R,cH (fe c) N p=some R:=by
 refine xN (step:=fe c) (λx=>bG c x) weight (λx y hx hy=> ?_) p hw;rw[dk hx]at hy;obtain⟨f1,s1⟩:=ep hx;by_cases h1: []∈M1 c x;·rw[D4 h1]at hy;cases hy
 ·have hw1:bG c (M1 c x):=Whole.most hx h1;obtain⟨f2,s2⟩:=ep hw1.back;rw[D2 h1]at hy;by_cases h2:c.op=0;·rw[D4 h2]at hy;cases hy
  ·rw[D2 h2]at hy;by_cases h3: []∈M2 c (M1 c x);·rw[D4 h3]at hy;cases hy
   ·rw[D2 h3]at hy;by_cases h4:M1 c x=x/\M2 c (M1 c x)=M1 c x;·rw[D4 h4]at hy;cases hy
    ·rw[D2 h4]at hy;obtain rfl:=Sum.inr.inj hy;refine⟨hw1.unback (Whole.most hw1.back h3),?_⟩;have w1:=jq s1 f1 hx.fine.dom;have w2:=jq s2 f2 f1;by_cases e1:M1 c x=x
     ·have e2:M2 c (M1 c x)≠M1 c x:=λe2=>h4 ⟨e1,e2⟩;have:=w2.2 e2;have:=w1.1;exact Fx (w2.2 e2) w1.1
     ·exact Nat.lt_of_le_of_lt w2.1 (w1.2 e1)
theorem Bb (lo hi:Int):(rng lo hi).length=(hi+1-lo).toNat:=by simp[rng]
theorem th {d:List (Int×Int)}(h:Fine d):fM d=((vals d).length:Nat):=by
 have hb:=h.domB.1;have hf:=h.few;have hok:=h.ok;have key: ∀(d:List (Int×Int)) (n:Nat),InB d->(∀r∈d,r.1<=r.2)->n+(vals d).length<=1000000000000000->d.foldl (λn r=>wr (n+wr (wr (r.2-r.1)+1))) (n:Int)=((n+(vals d).length:Nat):Int):=by
  intro d
  induction d with
  |nil=>intro n _ _ _;simp[vals]
  |cons r d ih=>
   intro n hb ho hl;have h1:=hb r (.head _);have h2:=ho r (.head _);rw[bj,DX,Bb]at hl⊢;rw[Dn];have e:wr ((n:Int)+wr (wr (r.2-r.1)+1))=((n+(r.2+1-r.1).toNat:Nat):Int):=by
    simp only[wr];rw[af (n:=r.2-r.1) (by omega) (by omega),af (n:=r.2-r.1+1) (by omega) (by omega),af (by omega) (by omega)];omega
   rw[e,ih _ (λr hr=>hb r (.tail _ hr)) (λr hr=>ho r (.tail _ hr)) (by omega)];congr 1;omega
 have:=key d 0 hb hok.1 (by omega);simpa[fM]using this
def jT (x:Int)(r:Int×Int):List (Int×Int):=if x<r.1∨r.2<x then [r]else(if r.1<x then [(r.1,x-1)]else [])++(if x<r.2 then [(x+1,r.2)]else [])
theorem tZ {a:List (Int×Int)}{x:Int}(ho: ∀r∈a,r.1<=r.2)(hx: -9223372036854000000<=x/\x<=9223372036854000000):d4 a [(x,x)]=a.flatMap (jT x):=by
 have key: ∀(a:List (Int×Int)) (out:List (Int×Int)),(∀r∈a,r.1<=r.2)->a.foldl (cE [(x,x)]) out=out++a.flatMap (jT x):=by
  intro a
  induction a with
  |nil=>intro out _;simp
  |cons r a ih=>
   intro out ho;have h1:=ho r (.head _);have e:cE [(x,x)] out r=out++jT x r:=by
    unfold cE jT;simp only[bM,wr];rw[af (n:=x+1) (by omega) (by omega),af (n:=x-1) (by omega) (by omega)];by_cases h2:x<r.1∨r.2<x
    ·rw[D4 h2,D4 h2];simp only;rw[D4 h1]
    ·rw[D2 h2,D2 h2];simp only;by_cases h3:r.1<x<;>by_cases h4:x<r.2;·rw[D4 (show x+1<=r.2 by omega),D4 h3,D4 h3,D4 h4,E4]
     ·rw[D2 (show¬x+1<=r.2 by omega),D4 h3,D4 h3,D2 h4,Ex]
     ·rw[D4 (show x+1<=r.2 by omega),D2 h3,D2 h3,D4 h4,Ea]
     ·rw[D2 (show¬x+1<=r.2 by omega),D2 h3,D2 h3,D2 h4];simp
   rw[Dn,e,ih _ λr hr=>ho r (.tail _ hr),F2,E4]
 unfold d4;rw[key a [] ho];rfl
theorem oG {x:Int}{r s:Int×Int}(h:r.1<=r.2)(hs:s∈jT x r):r.1<=s.1/\s.1<=s.2/\s.2<=r.2:=by
 unfold jT at hs;split at hs;·simp only[DG]at hs;subst hs;omega
 ·rcases DT.1 hs with hs|hs
  ·split at hs;·simp only[DG]at hs;subst hs;simp only;omega
   ·cases hs
  ·split at hs;·simp only[DG]at hs;subst hs;simp only;omega
   ·cases hs
theorem z2 {a:List (Int×Int)}{x:Int}(h:aA a):aA (a.flatMap (jT x)):=by
 refine⟨λs hs=> ?_,?_⟩
 ·obtain⟨r,hr,hs⟩:=FG.1 hs;exact(oG (h.1 r hr) hs).2.1
 ·induction a with
  |nil=>exact .nil
  |cons r a ih=>
   have hp:=Dm.1 h.2;rw[F2];refine F4.2 ⟨?_,ih h.tail,λs hs t ht=> ?_⟩
   ·unfold jT;split;·simp
    ·split<;>split<;>simp;omega
   ·obtain⟨q,hq,ht⟩:=FG.1 ht;have h1:=oG (h.1 r (.head _)) hs;have h2:=oG (h.1 q (.tail _ hq)) ht;have:=hp.1 q hq;omega
theorem qq {x v:Int}{r:Int×Int}:(∃s∈jT x r,s.1<=v/\v<=s.2)↔r.1<=v/\v<=r.2/\v≠x:=by
 unfold jT;constructor
 ·rintro⟨s,hs,h1,h2⟩;split at hs;·simp only[DG]at hs;subst hs;omega
  ·rcases DT.1 hs with hs|hs
   ·split at hs;·simp only[DG]at hs;subst hs;simp only at h1 h2;omega
    ·cases hs
   ·split at hs;·simp only[DG]at hs;subst hs;simp only at h1 h2;omega
    ·cases hs
 ·rintro⟨h1,h2,h3⟩;by_cases hc:x<r.1∨r.2<x;·rw[D4 hc];exact⟨r,.head _,h1,h2⟩
  ·rw[D2 hc];by_cases hv:v<x;·exact⟨(r.1,x-1),Do _ (by rw[D4 (by omega)];exact .head _),h1,by simp only;omega⟩
   ·exact⟨(x+1,r.2),Dq _ (by rw[D4 (by omega)];exact .head _),by simp only;omega,h2⟩
theorem An {a:List (Int×Int)}{x:Int}(h:aA a)(hx: -9223372036854000000<=x/\x<=9223372036854000000):aA (d4 a [(x,x)])/\∀v,v∈vals (d4 a [(x,x)])↔v∈vals a/\v≠x:=by
 rw[tZ h.1 hx];refine⟨z2 h,λv=> ?_⟩;rw[aT,aT];constructor
 ·rintro⟨s,hs,h1⟩;obtain⟨r,hr,hs⟩:=FG.1 hs;have:=qq.1 ⟨s,hs,h1⟩;exact⟨⟨r,hr,this.1,this.2.1⟩,this.2.2⟩
 ·rintro⟨⟨r,hr,h1,h2⟩,h3⟩;obtain⟨s,hs,h4⟩:=qq.2 ⟨h1,h2,h3⟩;exact⟨s,FG.2 ⟨r,hr,hs⟩,h4⟩
theorem xD {x:List (Int×Int)}(h:Fine x)(hne:x≠[])(h1: ¬1<(vals x).length): ∃v,x=[(v,v)]/\vals x=[v]/\-1048576<=v/\v<=1048576:=by
 have hv:(vals x).length=1:=by
  have:vals x≠[]:=λe=>hne ((fg h.ok).1 e);cases hx:vals x with
  |nil=>exact DU hx this
  |cons a l=>rw[hx]at h1;simp at h1⊢;exact h1
 obtain⟨v,rfl⟩:=(lg h.ok).1 hv;have e:vals [(v,v)]=[v]:=(by simp[vals,bl]);have:=h.val v (by rw[e];exact .head _);exact⟨v,rfl,e,this⟩
theorem ft {B:Int}(hB:B<=4611686018427388928): ∀(ts:List (List (Int×Int)×Int)) (i:Nat) (op:Int) (s:Int) (m a:Nat),gw ts->(∀t∈ts,t.1≠[])->-B<=s-aZ ts->s+aZ ts<=B->(op<0/\m=0∨0<=op/\m=1/\op=a/\-(B-1048576)<=s-aZ ts/\s+aZ ts<=B-1048576)->
  (c8 i ts op s=none/\1<(av i ts m s a).1)∨∃s',-B<=s'/\s'<=B/\((∃op',op'<0/\c8 i ts op s=some (op',s')/\∃a',av i ts m s a=(0,s',a'))∨∃a':Nat,-(B-1048576)<=s'/\s'<=B-1048576/\c8 i ts op s=some ((a':Int),s')/\av i ts m s a=(1,s',a'))
 | [],i,op,s,m,a,_,_,h1,h2,hr=>by
  have e:aZ []=0:=(by simp[aZ,aj]);rw[e]at h1 h2 hr;refine .inr ⟨s,by omega,by omega,?_⟩;rcases hr with ⟨ho,rfl⟩|⟨ho,rfl,rfl,h3,h4⟩;·exact .inl ⟨op,ho,rfl,a,rfl⟩
  ·exact .inr ⟨a,by omega,by omega,rfl,rfl⟩
 |t::ts,i,op,s,m,a,h,hne,h1,h2,hr=>by
  have hf:=h t (.head _);have hx:=hne t (.head _);have hp:=de ts;have ha:=bE t.2;rw[cz]at h1 h2 hr;have hk1:1<=aG t.2:=(by have:=hf.2.1;unfold aG;omega);rw[c8,av,th hf.1];by_cases hc:1<(vals t.1).length
  ·rw[D4 (show(1:Int)<((vals t.1).length:Nat)by omega),D4 hc];rcases hr with ⟨ho,rfl⟩|⟨ho,rfl,rfl,h3,h4⟩
   ·rw[D2 (by omega)];exact ft hB ts (i+1) i s 1 i (λt ht=>h t (.tail _ ht)) (λt ht=>hne t (.tail _ ht)) (by omega) (by omega) (.inr ⟨by omega,rfl,rfl,by omega,by omega⟩)
   ·rw[D4 (by omega)];refine .inl ⟨rfl,?_⟩;have mono: ∀(ts:List (List (Int×Int)×Int)) (i m:Nat) (s:Int) (a:Nat),m<=(av i ts m s a).1:=by
     intro ts
     induction ts with
     |nil=>intro i m s a;exact DL _
     |cons t ts ih=>
      intro i m s a;rw[av];split;·exact Du (Nat.le_succ m) (ih _ _ _ _)
      ·exact ih _ _ _ _
    exact mono ts (i+1) 2 s i
  ·rw[D2 (show¬(1:Int)<((vals t.1).length:Nat)by omega),D2 hc];obtain⟨v,e1,e2,b1,b2⟩:=xD hf.1 hx hc;have hm:=d3 t.2 v b1 b2;have hck:=hf.2.2;have el:(endW t.1 t.2 false).1=t.2*v:=by
    rw[(sj hf.1 hx hf.2).1,e1];simp[cy,az,aN]
   have er:wr (t.2*hd0 (vals t.1))=t.2*v:=by
    rw[e2];simp only[hd0,wr,List.getD_cons_zero];rw[af (by omega) (by omega)]
   have es:wr (s+t.2*v)=s+t.2*v:=(by rw[wr,af (by omega) (by omega)]);rw[el,er,es];exact ft hB ts (i+1) op (s+t.2*v) m a (λt ht=>h t (.tail _ ht)) (λt ht=>hne t (.tail _ ht)) (by omega) (by omega) (hr.imp id λ⟨q1,q2,q3,q4,q5⟩=>⟨q1,q2,q3,by omega,by omega⟩)
theorem zN {d:aa}{v:Int}(h:v.toNat<d.length):d.set v.toNat (domAt d v)=d:=by
 refine Ej λi=> ?_;by_cases e:v.toNat=i;·subst e;rw[E6 h,aq h]
 ·rw[Ds e]
theorem dL {d:aa}{i:Nat}{x:List (Int×Int)}(hi:i<d.length)(hne: []∉d): []∈d.set i x↔x=[]:=by
 constructor
 ·intro h;rcases DV h with h|h;·exact DU h hne
  ·exact h.symm
 ·rintro rfl;exact Fk.2 ⟨i,E6 hi⟩
theorem xy {α:Type}{l:List α}:0<l.length↔l≠[]:=by cases l<;>simp
theorem yC {x:List (Int×Int)}{k s rhs:Int}(hx:Fine x)(hk:CoefOk k)(h1: -4611686018426340352<=s/\s<=4611686018426340352)(h2: -9223372036853729280<=rhs-s/\rhs-s<=9223372036853729280):
  ((wr (rhs-s)).tmod k=0->d4 x [(wr ((wr (rhs-s)).tdiv k),wr ((wr (rhs-s)).tdiv k))]=cX ((vals x).filter λv=>decide (wr (s+wr (k*v))≠rhs)))/\
  (¬(wr (rhs-s)).tmod k=0->cX ((vals x).filter λv=>decide (wr (s+wr (k*v))≠rhs))=x):=by
 have hck:=hk.2;have hmem: ∀w,w∈vals x->(wr (s+wr (k*w))=rhs↔k*w=rhs-s):=by
  intro w hw;have b:=hx.val w hw;have m:=d3 k w b.1 b.2;simp only[wr];rw[af (n:=k*w) (by omega) (by omega),af (by omega) (by omega)];omega
 have er:wr (rhs-s)=rhs-s:=(by rw[wr,af (by omega) (by omega)]);rw[er];have et:=Int.mul_tdiv_add_tmod (rhs-s) k;have hq: -9223372036853729280<=(rhs-s).tdiv k/\(rhs-s).tdiv k<=9223372036853729280:=by
  have:=Gu (rhs-s) k;omega
 have hu:=fJ (p:=λw=>decide (wr (s+wr (k*w))≠rhs)) (aF hx.ok);constructor
 ·intro hz;rw[hz,Int.add_zero]at et;clear hz;generalize (rhs-s).tdiv k=q at*;have eq:wr q=q:=(by rw[wr,af (by omega) (by omega)]);rw[eq];obtain⟨m1,m2⟩:=An (x:=q) hx.ok (by omega);refine iC m1 (gp hu) (dG (aF m1) (aF (gp hu)) λv=> ?_);rw[m2,bJ hu,EH];refine and_congr_right λhv=> ?_;rw[DN,ne_eq,ne_eq,hmem v hv,<-et];refine not_congr ⟨λe=>by rw[e],λe=>Gv hk.1 e⟩
 ·intro hz;have e:((vals x).filter λw=>decide (wr (s+wr (k*w))≠rhs))=vals x:=by
   refine Gn.2 λw hw=> ?_;rw[DD];intro e;have e2:=(hmem w hw).1 e;rw[<-e2,Int.mul_tmod_right]at hz;exact hz Y
  rw[e,eK hx.ok]
theorem fN {d:aa}{c:Con}(h:bG c d)(hpos:0<c.vars.length):(if(otherW d c).2 then some (otherW d c).1 else none)=if []∈bU d c then none else some (bU d c):=by
 have hw:=cA (d:=d) h.fine.len;have hb:=h.big;have har:aG c.rhs=max c.rhs (-c.rhs):=rfl;have hin:=cP (ac d c.vars c.coefs) 0 0 0 0 c.vars.length hpos (by have:=h.fine.len;simp[ac];omega) (DL _);have key:=ft (B:=aj c.coefs) (by omega) (ac d c.vars c.coefs) 0 (-1) 0 0 0 (di h.fine) (eW h) (by omega) (by omega) (.inl ⟨by omega,rfl⟩);unfold otherW bU;simp only;rcases key with ⟨e1,e2⟩|⟨s,hs1,hs2,⟨op,ho,e1,a,e2⟩|⟨a,hs3,hs4,e1,e2⟩⟩
 ·rw[e1,D4 e2,D2 h.ne];rfl
 ·rw[e1,e2];simp only[EO,if_false,if_true,D4 ho];have hv:=h.fine.vin _ (aK (c:=c) (k:=0) hpos);by_cases hs:s=c.rhs
  ·rw[D4 hs,D4 ((dL hv.2 h.ne).2 Y),DC (by simpa using hs)];rfl
  ·rw[D2 hs,D2 h.ne,DD hs];rfl
 ·rw[e1];rw[e2]at hin⊢;simp only[H3,if_false,Nat.one_ne_zero,DW,D2 (show¬(a:Int)<0 by omega)];have hal:a<c.vars.length:=hin.1;have hac:a<c.coefs.length:=(by have:=h.fine.len;omega);have hv:=h.fine.vin _ (aK (c:=c) (k:=a) hal);have hk:=h.fine.ck (coefAt c a) (by unfold coefAt;rw[aL hac];exact D8 _);have hx:=h.fine.dom _ (ah hv.2);obtain⟨o1,o2⟩:=yC (s:=s) (rhs:=c.rhs) hx hk (by omega) (by omega);by_cases hz:(wr (c.rhs-s)).tmod (coefAt c a)=0
  ·rw[D4 hz];simp only[o1 hz];by_cases he:cX ((vals (domAt d (varAt c a))).filter λv=>decide (wr (s+wr (coefAt c a*v))≠c.rhs))=[]
   ·rw[D4 ((dL hv.2 h.ne).2 he),he];rfl
   ·rw[D2 (λhm=>he ((dL hv.2 h.ne).1 hm)),DD (xy.2 he)];rfl
  ·rw[D2 hz,o2 hz,zN hv.2,D2 h.ne];have:0<(domAt d (varAt c a)).length:=xy.2 λe=>h.ne (e▸ah hv.2);simp only;rw[DD this];rfl
theorem yA {x:List (Int×Int)}(h:Fine x)(p:Int->Bool):Fine (cX ((vals x).filter p)):=by
 have hu:=fJ (p:=p) (aF h.ok);refine h.cut (gp hu) λv hv=> ?_;rw[bJ hu]at hv;exact(EH.1 hv).1
theorem i7 {d:aa}{c:Con}(h:bG c d)(hpos:0<c.vars.length):(bU d c).length=d.length/\∀x∈bU d c,Fine x:=by
 have hin:=cP (ac d c.vars c.coefs) 0 0 0 0 c.vars.length hpos (by have:=h.fine.len;simp[ac];omega) (DL _);unfold bU;simp only;split;·exact⟨rfl,h.fine.dom⟩
 ·split
  ·split;·exact⟨by simp,il h.fine.dom ⟨⟨by simp,.nil⟩,by simp[vals],by simp[vals]⟩⟩
   ·exact⟨rfl,h.fine.dom⟩
  ·exact⟨by simp,il h.fine.dom (yA (h.fine.dom _ (ah (h.fine.vin _ (aK hin.1)).2)) _)⟩
theorem SumOk.whole {d:aa}{c:Con}(h:SumOk d c)(hne: []∉d):bG c d:=⟨h.fine,h.nod,hne,h.big⟩
theorem xM {d:aa}{c:Con}(h:SumOk d c): ∃R N N',LinAns d c R N/\lT d c R N'/\∀out,R=some out->out.length=d.length/\[]∉out/\∀x∈out,Fine x:=by
 by_cases hne: []∈d;·exact⟨none,0,0,by rw[LinAns,D4 hne],by rw[lT,D4 hne],λout h=>by cases h⟩
 ·have hw:=h.whole hne;have hm:tY d c=M1 c d:=oR hw;by_cases h2:c.op=2
  ·have hs:=fN hw h.pos;obtain⟨r1,r2⟩:=i7 hw h.pos;refine⟨if []∈bU d c then none else some (bU d c),0,0,by rw[LinAns,D2 hne,D4 h2,hs],by rw[lT,D2 hne,D4 h2],λout ho=> ?_⟩;split at ho;·cases ho
   ·rename_i hn;obtain rfl:=D3 ho;exact⟨r1,hn,r2⟩
  ·have hfin: ∀N R,cH (fe c) N d=some R->∀out,R=some out->out.length=d.length/\[]∉out/\∀x∈out,Fine x:=by
    intro N R hR out ho;have hst: ∀x y,(bG c x/\x.length=d.length)->fe c x= .inr y->bG c y/\y.length=d.length:=by
     rintro x y ⟨hx,hl⟩ hy;rw[dk hx]at hy;obtain⟨f1,s1⟩:=ep hx;by_cases h1: []∈M1 c x;·rw[D4 h1]at hy;cases hy
     ·have hw1:bG c (M1 c x):=Whole.most hx h1;obtain⟨f2,s2⟩:=ep hw1.back;rw[D2 h1]at hy;split at hy;·cases hy
      ·split at hy;·cases hy
       ·rename_i h3;split at hy;·cases hy
        ·obtain rfl:=Sum.inr.inj hy;exact⟨hw1.unback (Whole.most hw1.back h3),s2.1.trans (s1.1.trans hl)⟩
    obtain⟨z,⟨hz,hzl⟩,hs⟩:=o8 (λx=>bG c x/\x.length=d.length) hst N d R ⟨hw,rfl⟩ hR;rw[dk hz,ho]at hs;obtain⟨f1,s1⟩:=ep hz;by_cases h1: []∈M1 c z;·rw[D4 h1]at hs;cases hs
    ·have hw1:bG c (M1 c z):=Whole.most hz h1;obtain⟨f2,s2⟩:=ep hw1.back;rw[D2 h1]at hs;split at hs
     ·obtain rfl:=D3 (Sum.inl.inj hs);exact⟨s1.1.trans hzl,h1,f1⟩
     ·split at hs;·cases hs
      ·rename_i h3;split at hs
       ·obtain rfl:=D3 (Sum.inl.inj hs);exact⟨s2.1.trans (s1.1.trans hzl),h3,f2⟩
       ·cases hs
   obtain⟨N,R,hR⟩:=Cm hw;by_cases h0:c.op=0
   ·have hs:=dk hw;have e:R=if []∈M1 c d then none else some (M1 c d):=by
     by_cases h1: []∈M1 c d
     ·rw[D4 h1]at hs⊢;exact(bf hR hs).symm
     ·rw[D2 h1,D4 h0]at hs;rw[D2 h1];exact(bf hR hs).symm
    refine⟨R,N,1,by rw[LinAns,D2 hne,D2 h2];exact hR,?_,hfin N R hR⟩;rw[lT,D2 hne,D2 h2,hm];have hd:=n8 (c:=c) (d:=M1 c d) (λhn=>Whole.most hw hn);rw[D2 (λhh=>by have:=hh.1;omega)]at hd;simp only[cH,hd,e]
   ·have h1:c.op=1:=(by have:=h.op;omega);obtain⟨N',hN⟩:=um h1 N d R hw hR;exact⟨R,N,N',by rw[LinAns,D2 hne,D2 h2];exact hR,by rw[lT,D2 hne,D2 h2,hm];exact hN,hfin N R hR⟩
structure ReifOk (d:aa)(c:Con):Prop where
 sum:SumOk d (bN c)
 sumN:SumOk d (bP (bN c))
 con:ConB (bN c)
 b:0<=c.b/\c.b.toNat<d.length
 truth:truthR (domAt d c.b)=true
 apart:c.b∉c.vars
theorem Ch {d:aa}{c:Con}(h:SumOk d c)(hw:aj c.coefs+aG c.rhs<=4611686018427387904):SumOk d (bP c):=by
 obtain⟨h1,h2,h3,h4,h5⟩:=h;obtain⟨kind,vars,coefs,op,rhs,rows,b⟩:=c;simp only at h1 h2 h3 h4 h5 hw;have hwp:=aV coefs;have ha: -aG rhs<=rhs/\rhs<=aG rhs:=(by unfold aG;omega);unfold bP;simp only;split
 ·have e1:wr (0-rhs)= -rhs:=(by rw[wr,af (by omega) (by omega)];omega);have e2:wr (wr (0-rhs)-1)= -rhs-1:=(by rw[e1,wr,af (by omega) (by omega)]);refine⟨h1.back,h2,h3,h4,?_⟩;simp only;rw[dh _ h1.ck,e2];unfold aG at*;omega
 ·split;·exact⟨h1,h2,h3,⟨by show(0:Int)<=2;omega,by show(2:Int)<=2;omega⟩,h5⟩
  ·split;·exact⟨h1,h2,h3,⟨by show(0:Int)<=1;omega,by show(1:Int)<=2;omega⟩,h5⟩
   ·exact⟨h1,h2,h3,h4,h5⟩
theorem xx {d:aa}{c:Con}(hc:ConB c)(h:conR d c=0)(hk:c.kind=4)(hf: ∀x∈d,Fine x)(hdl:d.length*24<=140737488355328):ReifOk d c:=by
 obtain⟨hv,hr⟩:=sC hc h;obtain⟨h1,h2⟩:=pF (jK h);have hb:0<=c.b/\c.b.toNat<d.length:=by
  unfold conR at h;split at h;·cases h
  ·split at h;·cases h
   ·rename_i hu;exact(rF hc (by simpa using hu)).2 hk
 unfold rightR at hr;rw[D2 (by omega),D2 (by omega),D2 (by omega),D2 (by omega),D4 hk]at hr;simp only[sumR,opR,DJ,DN,ER,decide_eq_false_iff_not]at hr;obtain⟨⟨⟨⟨_,⟨⟨h4,h5⟩,h6⟩,h7⟩,h8⟩,h9⟩,h10⟩:=hr;have hs:SumOk d (bN c):=⟨⟨h6,hv.1,hv.2,λk hk=>⟨λe=>h7 (e▸hk),h1 k hk⟩,hf,hdl⟩,h4,h5,h8,by show aj c.coefs<=_/\aG c.rhs<=_;have:=bE c.rhs;have:=aV c.coefs;omega⟩;exact⟨hs,Ch hs h2,⟨hc.1,hc.2.1,by simp[bN],by simp[bN]⟩,hb,h9,h10⟩
set_option maxRecDepth 8000
def litB (d:aa)(p:Int×Int):Bool:=hasV (domAt d p.1) (dD p.2)
def pR (d:aa):Nat->List (Int×Int)->Int->Option Int
 |_,[],op=>some op
 |i,p::l,op=>if litB d p=false then pR d (i+1) l op else if 0<=op then none else pR d (i+1) l i
def nS (d:aa)(c:Con)(r:Option Int):Option aa:=
 match r with
 |none=>some d
 |some op=>if op<0 then none else dE d (varAt c op.toNat) (dD (coefAt c op.toNat))
def jL (d:aa)(c:Con):Option aa:=if []∈d then none else nS d c (pR d 0 (c.vars.zip c.coefs) (-1))
structure ClIn (d:aa)(c:Con):Prop where
 len:c.vars.length=c.coefs.length
 vl:c.vars.length*8<=140737488355328
 vin: ∀v∈c.vars,0<=v/\v.toNat<d.length
 dl:d.length*24<=140737488355328
 dom: ∀x∈d,(x.length+1)*16<=140737488355328
theorem r7 (d:aa)(c:Con)(h:ClIn d c):Spec Tryz.prog 137 false [aJ d,.agg (cC c)] (aX (jL d c)):=by
 refine Spec.body Tryz.func137 Y Y Y λw0 Z0=> ?_;obtain⟨hlen,hvl,hvin,hdl,hdom⟩:=h;have hown:=q6 d hdl (λx hm=>by have:=hdom x hm;omega);unfold jL;refine .B ?_;refine .D hown ?_;by_cases hm: []∈d
 ·rw[D4 hm,D4 hm,DD hm];refine T.ct Y ?_;refine .B ?_;exact⟨_,.ownN Y (.v Y Y Y (λ_=>rfl) .nil)⟩
 ·rw[D2 hm,D2 hm,DC hm];refine T.cf Y ?_;generalize hres:pR d 0 (c.vars.zip c.coefs) (-1)=res;refine .B ?_;refine T.K (T.ind (λs:Nat×Int=>⟨[(3,.optr 0 0 0 0),(6,.ref 1),(8,.val true (.int .i64 s.2)),(19,.val false (ao c.vars)),(20,.val true (.int .i64 (c.vars.map cI).length)),(21,.val true (.int .i64 s.1))],[(0,some (.box false (cC c))),(1,some (.sl 54 1 true (d.map cD)))],2⟩)
   (λs=>s.1<=c.vars.length/\pR d s.1 ((c.vars.zip c.coefs).drop s.1) s.2=res/\s.2<s.1) (λs=>c.vars.length-s.1) (0,-1) ⟨by simp,hres,by decide⟩ (λ_ _ h=>h) ?_)
  rintro⟨i,op⟩ ⟨hil,he,hop⟩ ih;simp only at hil he hop;dsimp only;refine .B ?_;refine T.cd Y (λh1=> ?_) (λh1=> ?_)
  ·have h1:i<c.vars.length:=(by simpa using h1);have h2:i<c.coefs.length:=(by omega);have hv:=hvin _ (D8 h1);have hx:=hdom _ (ah hv.2);have hrow:(d.map cD)[c.vars[i].toNat]? =some (cD (domAt d c.vars[i])):=(by simp[aq hv.2]);have hz:i<(c.vars.zip c.coefs).length:=(by simp;omega);rw[DQ hz,Fw,pR]at he;have hhas:=jJ (domAt d c.vars[i]) (dD c.coefs[i]) (by omega);have hlb:litB d (c.vars[i],c.coefs[i])=hasV (domAt d c.vars[i]) (dD c.coefs[i]):=rfl;rw[<-hlb]at hhas;generalize litB d (c.vars[i],c.coefs[i])=b at*;refine .B ?_;refine .F (r:=cI c.vars[i]) (aO h1) ?_;refine J.io Y Y Y Y Y Y Y Y Y hv.1 (by simpa using hv.2) Y ?_;refine J.lo Y Y Y Y Y Y (r:=cD (domAt d c.vars[i])) hrow Y ?_;refine .B ?_;refine .F (r:=cI c.coefs[i]) (aO h2) ?_;refine .C (ul c.coefs[i]) ?_;refine .D hhas ?_;cases b
   ·rw[D4 Y]at he;refine T.ct Y ?_;refine .B ?_;rw[ak (l:=c.vars.length) (by omega) (by omega)];exact T.K (ih (i+1,op) ⟨by simp only;omega,he,by simp only;omega⟩ (by simp only;omega))
   ·rw[D2 (by decide)]at he;refine T.cf Y ?_;refine .B ?_;refine T.cd Y (λh3=> ?_) (λh3=> ?_)
    ·have h3:0<=op:=h3;rw[D4 h3]at he;subst he;refine .B ?_;exact⟨_,.o Y Y Y (λ_=> .inl Y) (by simp) (.v rfl rfl rfl (λ_=>rfl) .nil)⟩
    ·have h3: ¬0<=op:=h3;rw[D2 h3]at he;refine .B ?_;rw[ak (l:=c.vars.length) (by omega) (by omega)];exact T.K (ih (i+1,i) ⟨by simp only;omega,he,by simp only;omega⟩ (by simp only;omega))
  ·have h1:i=c.vars.length:=(by simp at h1;omega);subst h1;rw[Ef (by simp;omega),pR]at he;subst he;clear ih;unfold nS;dsimp only;refine .M ?_;refine T.rdm 15 Y (by kernel_rfl) Y ?_
   repeat' first|refine J.e Y Y Y Y ?_|refine J.skip Y Y Y ?_|refine J.bx Y Y Y Y Y Y ?_
   refine J.g Y Y Y (λh3=> ?_) (λh3=> ?_)
   ·have h3:op<0:=h3;rw[D4 h3];refine .B ?_;refine T.ct Y ?_;refine .B ?_;exact⟨_,.ownN Y (.v Y Y Y (λ_=>rfl) .nil)⟩
   ·have h3: ¬op<0:=h3;rw[D2 h3];have hj:op.toNat<c.vars.length:=(by omega);have hj2:op.toNat<c.coefs.length:=(by omega);have hv:=hvin _ (aK hj);have hx:=hdom _ (ah hv.2);have hk:=mz d (varAt c op.toNat) (dD (coefAt c op.toNat)) hv hx;unfold dE
    repeat' first|refine J.e Y Y Y Y ?_|refine J.skip Y Y Y ?_|refine J.bx Y Y Y Y Y Y ?_
    refine J.i Y Y Y Y Y Y Y Y Y (r:=cI (varAt c op.toNat)) (by omega) (eF hj) Y ?_
    repeat' first|refine J.e Y Y Y Y ?_|refine J.skip Y Y Y ?_|refine J.bx Y Y Y Y Y Y ?_
    refine J.i Y Y Y Y Y Y Y Y Y (r:=cI (coefAt c op.toNat)) (by omega) (iH hj2) Y ?_
    repeat' first|refine J.e Y Y Y Y ?_|refine J.skip Y Y Y ?_|refine J.bx Y Y Y Y Y Y ?_
    refine .C (ul (coefAt c op.toNat)) ?_;refine J.nil ?_;refine J.cm Y Y Y Y Y Y Y Y Y hk Y Y Y ?_;refine .B ?_;by_cases hk:domCut (domAt d (varAt c op.toNat)) (dD (coefAt c op.toNat)) (dD (coefAt c op.toNat))=[]
    ·rw[D4 hk,DD hk];refine T.ct Y ?_;refine .B ?_;exact⟨_,.ownN Y (.v Y Y Y (λ_=>rfl) .nil)⟩
    ·rw[D2 hk,DC hk];refine T.cf Y ?_;refine .B ?_;exact⟨_,.o Y Y Y (λ_=> .inl Y) (by simp) (.v rfl rfl rfl (λ_=>rfl) .nil)⟩
def Supp (a:List Int)(d:aa):Prop:=a.length=d.length/\∀(i:Nat) x v,d[i]? =some x->a[i]? =some v->v∈vals x
theorem Supp.at {a:List Int}{d:aa}(h:Supp a d){v:Int}(h0:0<=v)(hl:v.toNat<d.length):atR a v∈vals (domAt d v):=by
 have ha:v.toNat<a.length:=(by have:=h.1;omega);refine h.2 v.toNat _ _ (aq hl) ?_;unfold atR;rw[D2 (by omega),D0,D1 ha];rfl
theorem Supp.ne {a:List Int}{d:aa}(h:Supp a d): []∉d:=by
 intro hm;obtain⟨i,hi⟩:=Fk.1 hm;have hl:=(D5.1 hi).1;have:=h.2 i [] _ hi (D1 (by have:=h.1;omega));simp[vals]at this
def cK (vars coefs a:List Int):Int:=((vars.zip coefs).map λp=>p.2*atR a p.1).sum
theorem r4 {x:List (Int×Int)}(h:aA x){v k:Int}(hv:v∈vals x):cy x k<=k*v/\k*v<=fW x k:=by
 have h1:=o5 h hv;have h2:=nM h hv;unfold cy fW;by_cases hk:0<k
 ·rw[D4 hk,D4 hk];exact⟨EM h1 (by omega),EM h2 (by omega)⟩
 ·rw[D2 hk,D2 hk];exact⟨FX (by omega) h2,FX (by omega) h1⟩
theorem eJ {α:Type}{f g:α->Int}: ∀{l:List α},(∀p∈l,f p<=g p)->(l.map f).sum<=(l.map g).sum/\∀p∈l,g p-f p<=(l.map g).sum-(l.map f).sum
 | [],_=>by simp
 |p::l,h=>by
  obtain⟨h1,h2⟩:=eJ (l:=l) λq hq=>h q (.tail _ hq);have h0:=h p (.head _);simp only[DZ,Eb];refine⟨by omega,λq hq=> ?_⟩;rcases DO.1 hq with rfl|hq;·omega
  ·have:=h2 q hq;omega
theorem eZ (d:aa)(vars coefs:List Int):bi (ac d vars coefs)=((vars.zip coefs).map λp=>cy (domAt d p.1) p.2).sum:=by
 unfold bi ac;rw[F3];rfl
theorem qX (d:aa)(vars coefs:List Int):fV (ac d vars coefs)=((vars.zip coefs).map λp=>fW (domAt d p.1) p.2).sum:=by
 unfold fV ac;rw[F3];rfl
theorem tJ {d:aa}{vars coefs a:List Int}(h:SumFine d vars coefs)(hs:Supp a d):
  bi (ac d vars coefs)<=cK vars coefs a/\cK vars coefs a<=fV (ac d vars coefs)/\∀p∈vars.zip coefs,p.2*atR a p.1-cy (domAt d p.1) p.2<=cK vars coefs a-bi (ac d vars coefs):=by
 have hmem: ∀p∈vars.zip coefs,cy (domAt d p.1) p.2<=p.2*atR a p.1/\p.2*atR a p.1<=fW (domAt d p.1) p.2:=λp hp=>by
  have hv:=h.vin _ (Dv hp).1;exact r4 (h.dom _ (ah hv.2)).ok (hs.at hv.1 hv.2)
 rw[eZ,qX];obtain⟨h1,h2⟩:=eJ (f:=λp:Int×Int=>cy (domAt d p.1) p.2) (g:=λp=>p.2*atR a p.1) λp hp=>(hmem p hp).1;obtain⟨h3,_⟩:=eJ (f:=λp:Int×Int=>p.2*atR a p.1) (g:=λp=>fW (domAt d p.1) p.2) λp hp=>(hmem p hp).2;exact⟨h1,h3,h2⟩
theorem k7 {vars coefs a:List Int}(h: ∀k∈coefs,CoefOk k):cK vars (aB coefs) a= -cK vars coefs a:=by
 unfold cK aB
 induction vars generalizing coefs with
 |nil=>simp
 |cons v vars ih=>
  cases coefs with
  |nil=>simp
  |cons k coefs=>
   have e:=(cZ (h k (.head _))).1;have:=ih λk hk=>h k (.tail _ hk);simp only[DZ,F5,Eb]at this⊢;rw[this,e,Ge];omega
theorem x5 {d:aa}{vars coefs a:List Int}{rhs:Int}(h:Whole d vars coefs rhs)(hs:Supp a d)(hle:cK vars coefs a<=rhs):Supp a (MO d vars coefs rhs):=by
 obtain⟨ha,hl⟩:=iD h;obtain⟨_,_,hp3⟩:=tJ h.fine hs;refine⟨by rw[MO,kn];exact hs.1,λi x v hx hv=> ?_⟩;by_cases he: ∃p∈iE d vars coefs rhs,p.1.toNat=i
 ·obtain⟨p,hp,rfl⟩:=he;rw[show MO d vars coefs rhs=bV (iE d vars coefs rhs) d from Y,dM ha hl p hp]at hx;obtain rfl:=D3 hx;obtain⟨q,hq,rfl⟩:=DF.1 hp;have hvq:=h.fine.vin _ (Dv hq).1;have hat:=hs.at hvq.1 hvq.2;have e:atR a q.1=v:=by
   unfold atR;rw[D2 (by omega),D0,hv];rfl
  refine((fZ h hq _).2 v).2 ⟨e▸hat,?_⟩;have:=hp3 q hq;rw[e]at this;omega
 ·rw[show MO d vars coefs rhs=bV (iE d vars coefs rhs) d from Y,cT _ _ _ λp hp e=>he ⟨p,hp,e⟩]at hx;exact hs.2 i x v hx hv
def iw (c:Con)(a:List Int):Bool:=dq c.op (cK c.vars c.coefs a) c.rhs
theorem qS {c:Con}{a:List Int}(hop:c.op=0∨c.op=1)(hh:iw c a=true): ∀(N:Nat) (p:aa) (R:Option aa),bG c p->Supp a p->cH (fe c) N p=some R->∃out,R=some out/\Supp a out
 |0,p,R,_,_,h=>by cases h
 |n+1,p,R,hw,hs,h=>by
  have hle:cK c.vars c.coefs a<=c.rhs:=by
   unfold iw dq at hh;rcases hop with h0|h1;·rw[D4 h0]at hh;exact EL hh
   ·rw[D2 (by omega),h1]at hh;simp at hh;omega
  have hst:=dk hw;have s1:Supp a (M1 c p):=x5 hw hs hle;rw[D2 s1.ne]at hst;by_cases h0:c.op=0
  ·rw[D4 h0]at hst;obtain rfl:=bf h hst;exact⟨_,rfl,s1⟩
  ·rw[D2 h0]at hst;have h1:c.op=1:=(by omega);have hw1:bG c (M1 c p):=Whole.most hw s1.ne;have heq:cK c.vars c.coefs a=c.rhs:=by
    unfold iw dq at hh;rw[D2 h0,h1]at hh;simpa using hh
   have hb:=hw.big;have hp:=aV c.coefs;have s2:Supp a (M2 c (M1 c p)):=x5 hw1.back s1 (by rw[k7 hw.fine.ck,(nT (by omega)).1];omega);rw[D2 s2.ne]at hst;by_cases h3:M1 c p=p/\M2 c (M1 c p)=M1 c p
   ·rw[D4 h3]at hst;obtain rfl:=bf h hst;exact⟨_,rfl,s2⟩
   ·rw[D2 h3]at hst;simp only[cH,hst]at h;exact qS (.inr h1) hh n _ R (hw1.unback (Whole.most hw1.back s2.ne)) s2 h
def xh (ts:List ((List (Int×Int)×Int)×Int)):Prop:= ∀t∈ts,t.2∈vals t.1.1
theorem fm {B:Int}(hB:B<=4611686018427388928): ∀(ts:List ((List (Int×Int)×Int)×Int)) (i m:Nat) (s:Int) (a:Nat),gw (ts.map (·.1))->xh ts->-B<=s-aZ (ts.map (·.1))->s+aZ (ts.map (·.1))<=B->
  ((av i (ts.map (·.1)) m s a).1=m->(av i (ts.map (·.1)) m s a).2.1=s+(ts.map λt=>t.1.2*t.2).sum/\(av i (ts.map (·.1)) m s a).2.2=a)/\
  m<=(av i (ts.map (·.1)) m s a).1/\
  ((av i (ts.map (·.1)) m s a).1=m+1->∃j t,(av i (ts.map (·.1)) m s a).2.2=i+j/\ts[j]? =some t/\(av i (ts.map (·.1)) m s a).2.1+t.1.2*t.2=s+(ts.map λt=>t.1.2*t.2).sum)
 | [],i,m,s,a,_,_,_,_=>by simp[av]
 |t::ts,i,m,s,a,h,hv,h1,h2=>by
  have hf:=h t.1 (.head _);have hvt:=hv t (.head _);have hp:=de (ts.map (·.1));have ha:=bE t.1.2;have hx:t.1.1≠[]:=λe=>(by rw[e]at hvt;simp[vals]at hvt);simp only[DZ]at h1 h2⊢;rw[cz]at h1 h2;rw[av];simp only[Eb];by_cases hc:1<(vals t.1.1).length
  ·rw[D4 hc];obtain⟨i1,i2,i3⟩:=fm hB ts (i+1) (m+1) s i (λt ht=>h t (.tail _ ht)) (λt ht=>hv t (.tail _ ht)) (by omega) (by omega);refine⟨λe=>by omega,by omega,λe=> ?_⟩;obtain⟨j1,j2⟩:=i1 e;exact⟨0,t,by rw[j2];rfl,rfl,by rw[j1];omega⟩
  ·rw[D2 hc];obtain⟨v,e1,e2,b1,b2⟩:=xD hf.1 hx hc;have hm:=d3 t.1.2 v b1 b2;have hck:=hf.2.2;have ev:t.2=v:=(by rw[e2]at hvt;simpa using hvt);have er:wr (t.1.2*hd0 (vals t.1.1))=t.1.2*v:=by
    rw[e2];simp only[hd0,wr,List.getD_cons_zero];rw[af (by omega) (by omega)]
   have es:wr (s+t.1.2*v)=s+t.1.2*v:=(by rw[wr,af (by omega) (by omega)]);rw[er,es,ev];obtain⟨i1,i2,i3⟩:=fm hB ts (i+1) m (s+t.1.2*v) a (λt ht=>h t (.tail _ ht)) (λt ht=>hv t (.tail _ ht)) (by omega) (by omega);refine⟨λe=> ?_,i2,λe=> ?_⟩
   ·obtain⟨j1,j2⟩:=i1 e;exact⟨by rw[j1];omega,j2⟩
   ·obtain⟨j,u,j1,j2,j3⟩:=i3 e;exact⟨j+1,u,by rw[j1];omega,by simpa using j2,by rw[j3];omega⟩
theorem mX {d:aa}{c:Con}{a:List Int}(h:bG c d)(hpos:0<c.vars.length)(hs:Supp a d)(hne:cK c.vars c.coefs a≠c.rhs):Supp a (bU d c):=by
 have hw:=cA (d:=d) h.fine.len;have hb:=h.big;have har:aG c.rhs=max c.rhs (-c.rhs):=rfl;let ts:List ((List (Int×Int)×Int)×Int):=(c.vars.zip c.coefs).map λp=>((domAt d p.1,p.2),atR a p.1);have et:ts.map (·.1)=ac d c.vars c.coefs:=(by simp only[ts,F3];rfl);have eS:(ts.map λt=>t.1.2*t.2).sum=cK c.vars c.coefs a:=(by simp only[ts,F3];rfl);have hv:xh ts:=by
  intro t ht;obtain⟨p,hp,rfl⟩:=DF.1 ht;have:=h.fine.vin _ (Dv hp).1;exact hs.at this.1 this.2
 have key:=fm (B:=aj c.coefs) (by omega) ts 0 0 0 0 (by rw[et];exact di h.fine) hv (by rw[et];omega) (by rw[et];omega);rw[et,eS]at key;have hin:=cP (ac d c.vars c.coefs) 0 0 0 0 c.vars.length hpos (by have:=h.fine.len;simp[ac];omega) (DL _);have hsame:=ft (B:=aj c.coefs) (by omega) (ac d c.vars c.coefs) 0 (-1) 0 0 0 (di h.fine) (eW h) (by omega) (by omega) (.inl ⟨by omega,rfl⟩);obtain⟨k1,_,k3⟩:=key;unfold bU;simp only;by_cases hm1:1<(av 0 (ac d c.vars c.coefs) 0 0 0).1;·rw[D4 hm1];exact hs
 ·rw[D2 hm1];by_cases hm0:(av 0 (ac d c.vars c.coefs) 0 0 0).1=0
  ·rw[D4 hm0];have:=(k1 hm0).1;rw[D2 (λe=>hne (by rw[this,GJ]at e;exact e))];exact hs
  ·rw[D2 hm0];obtain⟨j,t,j1,j2,j3⟩:=k3 (by omega);rw[Ew]at j1;have hj:j<c.vars.length:=(by rw[<-j1];exact hin.1);have hjc:j<c.coefs.length:=(by have:=h.fine.len;omega);have ht:t=((domAt d (varAt c j),coefAt c j),atR a (varAt c j)):=by
    have hz:j<(c.vars.zip c.coefs).length:=(by simp;omega);simp only[ts,DE,D1 hz,EG,D6]at j2;rw[<-j2,show varAt c j=c.vars[j]from aL hj,show coefAt c j=c.coefs[j]from aL hjc];simp
   rw[j1];have hv:=h.fine.vin _ (aK hj);have hx:=h.fine.dom _ (ah hv.2);have hk:=h.fine.ck (coefAt c j) (by unfold coefAt;rw[aL hjc];exact D8 _);have hat:=hs.at hv.1 hv.2;rw[ht]at j3;simp only at j3;have hs': -(aj c.coefs-1048576)<=(av 0 (ac d c.vars c.coefs) 0 0 0).2.1/\(av 0 (ac d c.vars c.coefs) 0 0 0).2.1<=aj c.coefs-1048576:=by
    rcases hsame with ⟨_,e⟩|⟨s',_,_,⟨_,_,_,a',e⟩|⟨a',b1,b2,_,e⟩⟩;·omega
    ·rw[e]at hm0;exact DU Y hm0
    ·rw[e];exact⟨b1,b2⟩
   generalize (av 0 (ac d c.vars c.coefs) 0 0 0).2.1=s at*;have b:=hx.val _ hat;have m:=d3 (coefAt c j) _ b.1 b.2;have hck:=hk.2;have hu:=fJ (p:=λv=>decide (wr (s+wr (coefAt c j*v))≠c.rhs)) (aF hx.ok);refine⟨by rw[E7];exact hs.1,λi x v hxi hvi=> ?_⟩;by_cases e:(varAt c j).toNat=i
   ·subst e;rw[E6 hv.2]at hxi;obtain rfl:=D3 hxi;have ev:atR a (varAt c j)=v:=by
     unfold atR;rw[D2 (by omega),D0,hvi];rfl
    rw[ev]at hat j3 m;rw[bJ hu,EH];refine⟨hat,?_⟩;rw[DN];rw[GJ]at j3;clear k1 k3 hsame hin hm1 hm0 j1 j2 ht;simp only[wr];rw[af (n:=coefAt c j*v) (by omega) (by omega),af (by omega) (by omega),j3];exact hne
   ·rw[Ds e]at hxi;exact hs.2 i x v hxi hvi
theorem yT {d:aa}{c:Con}{a:List Int}(h:SumOk d c)(hs:Supp a d)(hh:iw c a=true){R:Option aa}{N:Nat}(hR:LinAns d c R N): ∃out,R=some out/\Supp a out:=by
 have hw:=h.whole hs.ne;unfold LinAns at hR;rw[D2 hs.ne]at hR;by_cases h2:c.op=2
 ·rw[D4 h2,fN hw h.pos]at hR;have hne:cK c.vars c.coefs a≠c.rhs:=by
   unfold iw dq at hh;rw[D2 (by omega),h2]at hh;simpa using hh
  have:=mX hw h.pos hs hne;rw[D2 this.ne]at hR;exact⟨_,hR,this⟩
 ·rw[D2 h2]at hR;exact qS (by have:=h.op;omega) hh N d R hw hs hR
theorem oc {d:aa}{c:Con}{a:List Int}(h:SumFine d c.vars c.coefs)(hw:aj c.coefs<=4611686018427388928)(hop:0<=c.op/\c.op<=2)(hs:Supp a d)(hso:soW (endsW d c.vars c.coefs) c=true):iw c a=true:=by
 have hne: ∀t∈ac d c.vars c.coefs,t.1≠[]:=by
  intro t ht e;obtain⟨p,hp,rfl⟩:=DF.1 ht;have:=ah (h.vin _ (Dv hp).1).2;simp only at e;rw[e]at this;exact hs.ne this
 have ht:=cA (d:=d) h.len;have hk:=aV c.coefs;obtain⟨p1,p2,_⟩:=tJ h hs;unfold endsW at hso;rw[jH 0 0 (di h) hne (by omega) (by omega) (by omega) (by omega)]at hso;unfold soW at hso;simp only[GP,if_false,GJ]at hso;unfold iw dq;by_cases h0:c.op=0
 ·rw[D4 h0]at hso⊢;exact DD (by have:=EL hso;omega)
 ·rw[D2 h0]at hso⊢;by_cases h1:c.op=1
  ·rw[D4 h1]at hso;simp only[DJ,DN]at hso;rw[DD h1,DD (by omega)];rfl
  ·rw[D2 h1]at hso;simp only[Ey,DN]at hso;rw[DC h1,DC (by omega)];rfl
theorem yK {d:aa}{c:Con}{a:List Int}(h:SumOk d c)(hs:Supp a d)(hso:soW (endsW d (bP c).vars (bP c).coefs) (bP c)=true):iw c a=false:=by
 have hb:=h.big;have hr:aG c.rhs=max c.rhs (-c.rhs):=rfl;have hk:=aV c.coefs;have hn:SumFine d (bP c).vars (bP c).coefs/\aj (bP c).coefs<=4611686018427388928/\0<=(bP c).op/\(bP c).op<=2:=by
  have e:aj c.coefs<=4611686018427388928:=(by omega);have ho:=h.op;unfold bP;split;·exact⟨h.fine.back,by simp only;rw[dh _ h.fine.ck];exact e,ho⟩
  ·split;·exact⟨h.fine,e,by simp,by simp⟩
   ·split;·exact⟨h.fine,e,by simp,by simp⟩
    ·exact⟨h.fine,e,ho⟩
 have hh:=oc hn.1 hn.2.1 hn.2.2 hs hso;unfold iw dq at hh⊢;unfold bP at hh;have ho:=h.op;by_cases h0:c.op=0
 ·rw[D4 h0]at hh;simp only[D4 h0]at hh;rw[D4 h0];rw[k7 h.fine.ck]at hh;have e:wr (wr (0-c.rhs)-1)= -c.rhs-1:=by
   rw[(nT (by omega)).1,wr,af (by omega) (by omega)]
  rw[e]at hh;exact DC (by have:=EL hh;omega)
 ·rw[D2 h0]at hh⊢;by_cases h1:c.op=1
  ·rw[D4 h1]at hh;rw[D2 (by simp)]at hh;simp at hh;rw[DD h1,DC hh];rfl
  ·have h2:c.op=2:=(by omega);rw[D2 h1,D4 h2]at hh;rw[D2 (by simp)]at hh;simp at hh;rw[DC h1,DD hh];rfl
def clF (d:aa)(l:List (Int×Int)):Option aa:=
 match l with
 | []=>none
 | [p]=>dE d p.1 (dD p.2)
 |_::_::_=>some d
theorem sF (d:aa)(c:Con)(hl:c.vars.length=c.coefs.length): ∀(l:List (Int×Int)) (i:Nat) (op:Int),l=(c.vars.zip c.coefs).drop i->(0<=op->op.toNat<c.vars.length)->
  nS d c (pR d i l op)=if op<0 then clF d (l.filter (litB d))else(match l.filter (litB d)with| []=>dE d (varAt c op.toNat) (dD (coefAt c op.toNat))|_::_=>some d)
 | [],i,op,h,ho=>by
  rw[pR,nS];by_cases h1:op<0;·rw[D4 h1,D4 h1];rfl
  ·rw[D2 h1,D2 h1];rfl
 |p::l,i,op,h,ho=>by
  have hi:i<(c.vars.zip c.coefs).length:=by
   have:=congrArg List.length h;simp at this;simp;omega
  have hd:=DQ hi;rw[<-h]at hd;injection hd with hp hl';have hiv:i<c.vars.length:=(by simp at hi;omega);have hic:i<c.coefs.length:=(by omega);have hpe:p=(varAt c i,coefAt c i):=by
   rw[hp,Fw];simp[varAt,coefAt,hiv,hic]
  rw[pR];by_cases hb:litB d p=true
  ·rw[D2 (by simp[hb]),FH hb];by_cases h1:op<0
   ·rw[D2 (by omega),D4 h1,sF d c hl l (i+1) i hl' (λ_=>by simpa using hiv),D2 (by omega)];cases hf:l.filter (litB d)with
    |nil=>simp[clF,hpe]
    |cons q m=>simp[clF]
   ·rw[D4 (by omega),D2 h1];rfl
  ·have hb:litB d p=false:=(by simpa using hb);rw[D4 hb,FZ (by simp[hb]),sF d c hl l (i+1) op hl' ho]
theorem w5 {d:aa}{c:Con}(hl:c.vars.length=c.coefs.length):jL d c=if []∈d then none else clF d ((c.vars.zip c.coefs).filter (litB d)):=by
 unfold jL;rw[sF d c hl (c.vars.zip c.coefs) 0 (-1) Y (by omega),D4 (by decide:(-1:Int)<0)]
structure ClOk (d:aa)(c:Con):Prop where
 len:c.vars.length=c.coefs.length
 nod:c.vars.Nodup
 pos:0<c.vars.length
 vl:c.vars.length*8<=140737488355328
 vin: ∀v∈c.vars,0<=v/\v.toNat<d.length
 unit: ∀k∈c.coefs,k=1∨k= -1
 truth: ∀v∈c.vars,truthR (domAt d v)=true
theorem CW:dD 1=1:=by decide +kernel
theorem CV:dD (-1)=0:=by decide +kernel
theorem rt {d:aa}{c:Con}(hc:ConB c)(h:conR d c=0)(hk:c.kind=5):ClOk d c:=by
 obtain⟨hv,hr⟩:=sC hc h;unfold rightR at hr;rw[D2 (by omega),D2 (by omega),D2 (by omega),D2 (by omega),D2 (by omega),D4 hk]at hr;simp only[sumR,DJ,DN,ER,decide_eq_false_iff_not]at hr;obtain⟨⟨_,⟨⟨h4,h5⟩,h6⟩,h7⟩,h8⟩:=hr;have hu: ∀i,i<c.vars.length->truthR (domAt d (varAt c i))=true/\(coefAt c i=1∨coefAt c i= -1):=by
  intro i hi;have:=DI.1 h8 i (DM.2 hi);simpa[gA]using this
 refine⟨h6,h4,h5,hv.1,hv.2,λk hk=> ?_,λv hv=> ?_⟩
 ·obtain⟨i,hi,rfl⟩:=F7 hk;have:=(hu i (by omega)).2;simpa[coefAt,hi]using this
 ·obtain⟨i,hi,rfl⟩:=F7 hv;have:=(hu i hi).1;simpa[varAt,hi]using this
theorem BR {d:aa}{c:Con}(h:ClOk d c)(hdl:d.length*24<=140737488355328)(hx: ∀x∈d,(x.length+1)*16<=140737488355328):ClIn d c:=⟨h.len,h.vl,h.vin,hdl,hx⟩
theorem fL {d:aa}{v w:Int}{x:List (Int×Int)}(hv:v.toNat<d.length):domAt (d.set v.toNat x) w=if v.toNat=w.toNat then x else domAt d w:=by
 unfold domAt;rw[D0,D0,EK];by_cases h:v.toNat=w.toNat;·rw[D4 h,D4 h,D4 hv];rfl
 ·rw[D2 h,D2 h]
theorem mo {D:aa}: ∀{n:Nat} {t:List Int},t∈bq D n↔t.length=n/\∀k,k<n->t.getD k 0∈vals (D.getD k [])
 |0,t=>by simp[bq]
 |n+1,t=>by
  simp only[bq,FG,DF];constructor
  ·rintro⟨a,ha,v,hv,rfl⟩;obtain⟨hl,h⟩:=mo.1 ha;refine⟨by simp[hl],λk hk=> ?_⟩;by_cases e:k=n
   ·subst e;subst hl;simp only[D0];rw[Dw (DL _)];simpa using hv
   ·have:=h k (by omega);simp only[D0]at this⊢;rw[E9 (by omega)];exact this
  ·rintro⟨hl,h⟩;refine⟨t.take n,mo.2 ⟨by simp;omega,λk hk=> ?_⟩,t.getD n 0,h n (by omega),?_⟩
   ·have:=h k (by omega);simp only[D0]at this⊢;rw[Ek,D4 hk];exact this
   ·have e:t=t.take n++[t[n]]:=by
     rw[<-DB (by omega),DS (by omega)]
    rw[D0,D1 (by omega)];exact e.symm
theorem mn {us:List Int}(h:us.Nodup){k:Nat}(hk:k<us.length):us.idxOf us[k]=k:=by
 have h1:us.idxOf us[k]<us.length:=FB.2 (D8 hk);have h2:=Fj h1;exact(Fc h).1 h2
theorem uJ {d:aa}{us:List Int}(h:us.Nodup){t:List Int}:t∈bq (us.map (domAt d)) us.length↔∃f:Int->Int,t=us.map f/\∀v∈us,f v∈vals (domAt d v):=by
 rw[mo];have hD: ∀k (hk:k<us.length),(us.map (domAt d)).getD k []=domAt d us[k]:=λk hk=>by
  rw[D0,DE,D1 hk];rfl
 constructor
 ·rintro⟨hl,hk⟩;refine⟨λv=>t.getD (us.idxOf v) 0,?_,λv hv=> ?_⟩
  ·apply FU (by simp[hl]);intro k h1 h2;have h3:k<us.length:=(by simpa using h2);rw[FV,mn h h3,D0,D1 h1];rfl
  ·obtain⟨k,hk2,rfl⟩:=F7 hv;have:=hk k hk2;rw[hD k hk2]at this;simp only[mn h hk2];exact this
 ·rintro⟨f,rfl,hf⟩;refine⟨by simp,λk hk=> ?_⟩;rw[hD k hk,D0,DE,D1 hk];exact hf _ (D8 hk)
theorem ix {α:Type}(f:Int->α): ∀(us:List Int) (a:List α) (i:Nat),(∀u∈us,0<=u)->(us.foldl (λa u=>a.set u.toNat (f u)) a)[i]? =if(i:Int)∈us/\i<a.length then some (f i)else a[i]?
 | [],a,i,_=>by simp
 |u::us,a,i,h=>by
  rw[Dn,ix f us _ i λv hv=>h v (.tail _ hv)];have hu:=h u (.head _);simp only[E7,DO];by_cases h1:(i:Int)∈us/\i<a.length;·rw[D4 h1,D4 ⟨.inr h1.1,h1.2⟩]
  ·rw[D2 h1,EK];by_cases e:u.toNat=i
   ·have e2:(i:Int)=u:=(by omega);rw[D4 e];by_cases hl:i<a.length;·rw[D4 (by omega),D4 ⟨.inl e2,hl⟩,e2]
    ·rw[D2 (by omega),D2 (λh=>hl h.2),EB (by omega)]
   ·rw[D2 e,D2];rintro⟨h2|h2,h3⟩;·omega
    ·exact h1 ⟨h2,h3⟩
theorem lV {β γ:Type}(g:Int->β)(st:γ->Int×β->γ): ∀(us:List Int) (a:γ),(us.zip (us.map g)).foldl st a=us.foldl (λa u=>st a (u,g u)) a
 | [],_=>rfl
 |u::us,a=>by rw[DZ,F5,Dn,Dn,lV g st us]
theorem lO {n:Nat}{us:List Int}(f:Int->Int)(h0: ∀u∈us,0<=u/\u.toNat<n){v:Int}(hv:v∈us):atR (eC n us (us.map f) us.length) v=f v:=by
 have hl:=zd n us (us.map f) us.length;have h1:=h0 v hv;have e:eC n us (us.map f) us.length=us.foldl (λa u=>a.set u.toNat (f u)) (List.replicate n 0):=by
  unfold eC;rw[DS (by simp),lV (γ:=List Int) f]
 unfold atR;rw[D2 (by omega),D0,e,ix f us _ _ (λu hu=>(h0 u hu).1),FL h1.1,D4 ⟨hv,by simpa using h1.2⟩];rfl
def pJ (d:aa)(us:List Int)(P:List Int->Bool)(v x:Int):Prop:= ∃f:Int->Int,(∀u∈us,f u∈vals (domAt d u))/\P (us.map f)=true/\f v=x
theorem kZ {d:aa}{us:List Int}{P:List Int->Bool}(hn:us.Nodup)(h0: ∀u∈us,0<=u/\u.toNat<d.length)(i:Nat):
  ((i:Int)∉us->(putsW d us (fU P us.length (bq (us.map (domAt d)) us.length)) us.length)[i]? =d[i]?)/\
  ((i:Int)∈us->∃y,(putsW d us (fU P us.length (bq (us.map (domAt d)) us.length)) us.length)[i]? =some y/\aA y/\∀x,x∈vals y↔pJ d us P i x):=by
 let G:Int->List Int:=λv=>((bq (us.map (domAt d)) us.length).filter P).map (·.getD (us.idxOf v) 0);have hG: ∀v∈us,∀x,x∈G v↔pJ d us P v x:=by
  intro v hv x;have hk:us.idxOf v<us.length:=FB.2 hv;have hf: ∀f:Int->Int,(us.map f).getD (us.idxOf v) 0=f v:=λf=>by
   rw[D0,DE,D1 hk,Fj];rfl
  simp only[G,DF,EH];constructor
  ·rintro⟨t,⟨ht,hp⟩,rfl⟩;obtain⟨f,rfl,h⟩:=(uJ hn).1 ht;exact⟨f,h,hp,(hf f).symm⟩
  ·rintro⟨f,h,hp,rfl⟩;exact⟨us.map f,⟨(uJ hn).2 ⟨f,rfl,h⟩,hp⟩,hf f⟩
 have hks:fU P us.length (bq (us.map (domAt d)) us.length)=us.map G:=by
  apply FU (by simp[fU]);intro k h1 h2;have h3:k<us.length:=(by simpa using h2);simp only[fU,FV,List.getElem_range,G,mn hn h3]
 have e:putsW d us (fU P us.length (bq (us.map (domAt d)) us.length)) us.length=us.foldl (λa u=>a.set u.toNat (cX (aW (G u)))) d:=by
  rw[hks];unfold putsW;rw[DS (by simp),lV (γ:=aa) G]
 rw[e,ix (λu=>cX (aW (G u))) us d i λu hu=>(h0 u hu).1];constructor;·intro h;rw[D2 λh2=>h h2.1]
 ·intro h;have:=h0 _ h;rw[D4 ⟨h,by simpa using this.2⟩];refine⟨_,rfl,gp (b9 _),λx=> ?_⟩;rw[bJ (b9 _),bK];exact hG _ h x
theorem nO {d out:aa}{us:List Int}{P:List Int->Bool}(hn:us.Nodup)(h0: ∀u∈us,0<=u/\u.toNat<d.length)(hl:out.length=d.length)(hok: ∀x∈out,aA x)
  (h1: ∀v∈us,∀x,x∈vals (domAt out v)↔pJ d us P v x) (h2: ∀i:Nat,(i:Int)∉us->out[i]? =d[i]?):putsW d us (fU P us.length (bq (us.map (domAt d)) us.length)) us.length=out:=by
 apply Ej;intro i;obtain⟨h3,h4⟩:=kZ (P:=P) hn h0 i;by_cases hi:(i:Int)∈us
 ·obtain⟨y,hy,hd,hx⟩:=h4 hi;have hlt:=(h0 _ hi).2;have ho:out[i]? =some (domAt out i):=by
   have:=aq (d:=out) (v:=(i:Int)) (by omega);simpa using this
  rw[hy,ho];congr 1;refine iC hd (hok _ (D7 ho)) (dG (aF hd) (aF (hok _ (D7 ho))) λx=> ?_);rw[hx x,h1 _ hi x]
 ·rw[h3 hi,h2 i hi]
theorem CD {n:Nat}{us:List Int}{P:List Int->Bool}(hn:us.Nodup)(h0: ∀u∈us,0<=u/\u.toNat<n)(hne:us≠[]):SuppS n us P λd=>lC d us P:=by
 refine⟨λd out hd he=> ?_,λd hd he g hg=> ?_,h0,hne⟩
 ·have h0d: ∀u∈us,0<=u/\u.toNat<d.length:=(by rw[hd.len];exact h0);have hat:=kZ (d:=d) (P:=P) hn h0d;have hl:=yx d us (fU P us.length (bq (us.map (domAt d)) us.length)) us.length;simp only[lC,D2 hd.some',mP]at he;generalize putsW d us (fU P us.length (bq (us.map (domAt d)) us.length)) us.length=o at*;split at he;·cases he
  ·rename_i hno;obtain rfl:=D3 he;have hfx: ∀x∈o,Fine x/\(vals x).length<=4096:=λx hx=>by
    obtain⟨i,hi⟩:=DH hx;obtain⟨h1,h2⟩:=hat i;by_cases hiu:(i:Int)∈us
    ·obtain⟨y,hy,hok,hv⟩:=h2 hiu;rw[hi]at hy;obtain rfl:=D3 hy;obtain⟨k1,k2,k3⟩:=hd.few.at (i:Int);have hsub: ∀v∈vals x,v∈vals (domAt d i):=λv hm=>by
      obtain⟨f,h3,_,rfl⟩:=(hv v).1 hm;exact h3 _ hiu
     have hlen:=bS (aF hok) hsub;exact⟨⟨hok,λv hm=>k3 v (hsub v hm),by omega⟩,by omega⟩
    ·rw[h1 hiu]at hi;exact⟨hd.few.fine x (D7 hi),hd.few.few x (D7 hi)⟩
   refine⟨⟨⟨by rw[hl];exact hd.few.small,λx hx=>(hfx x hx).1,λx hx=>(hfx x hx).2⟩,by rw[hl,hd.len],hno⟩,λv hv x=> ?_,λv hv0 hv=> ?_⟩
   ·have hv0:=h0 v hv;have e:((v.toNat:Nat):Int)=v:=(by omega);obtain⟨y,hy,hok,hx⟩:=(hat v.toNat).2 (by rw[e];exact hv);rw[e]at hx;have:domAt o v=y:=by
     unfold domAt;rw[D0,hy];rfl
    rw[this];exact hx x
   ·have e:((v.toNat:Nat):Int)=v:=(by omega);have:=(hat v.toNat).1 (by rw[e];exact hv);unfold domAt;rw[D0,D0,this]
 ·have h0d: ∀u∈us,0<=u/\u.toNat<d.length:=(by rw[hd.len];exact h0);have hat:=kZ (d:=d) (P:=P) hn h0d;simp only[lC,D2 hd.some',mP]at he;generalize putsW d us (fU P us.length (bq (us.map (domAt d)) us.length)) us.length=o at*;split at he
  ·rename_i hm;obtain⟨i,hi⟩:=DH hm;obtain⟨h1,h2⟩:=hat i;by_cases hiu:(i:Int)∈us
   ·obtain⟨y,hy,hok,hx⟩:=h2 hiu;rw[hi]at hy;obtain rfl:=D3 hy;cases hp:P (us.map g)with
    |false=>rfl
    |true=>
     have:=(hx (g i)).2 ⟨g,hg,hp,rfl⟩;cases this
   ·rw[h1 hiu]at hi;exact DU (D7 hi) hd.some'
  ·cases he
theorem o9 {α β:Type}{f:α->β ⊕ α}: ∀{n m:Nat} {x:α} {r s:β},cH f n x=some r->cH f m x=some s->r=s
 |0,_,_,_,_,h,_=>by cases h
 |_+1,0,_,_,_,_,h=>by cases h
 |n+1,m+1,x,r,s,h1,h2=>by
  simp only[cH]at h1 h2;cases h:f x with
  |inl b=>rw[h]at h1 h2;simp only[D6]at h1 h2;rw[<-h1,h2]
  |inr y=>rw[h]at h1 h2;exact o9 h1 h2
theorem xL {d:aa}{c:Con}{R S:Option aa}{N M:Nat}(h1:LinAns d c R N)(h2:LinAns d c S M):R=S:=by
 unfold LinAns at h1 h2;split at h1;·rename_i h;rw[D4 h]at h2;rw[h1,h2]
 ·rename_i h;rw[D2 h]at h2;split at h1;·rename_i h3;rw[D4 h3]at h2;rw[h1,h2]
  ·rename_i h3;rw[D2 h3]at h2;exact o9 h1 h2
theorem qT {α β:Type}{f:α->β ⊕ α}{I:α->Prop}{P:β->Prop}(h1: ∀x y,I x->f x= .inr y->I y)(h2: ∀x r,I x->f x= .inl r->P r): ∀{n:Nat} {x:α} {r:β},I x->cH f n x=some r->P r
 |0,_,_,_,h=>by cases h
 |n+1,x,r,hi,h=>by
  simp only[cH]at h;cases hf:f x with
  |inl b=>rw[hf]at h;simp only[D6]at h;exact h▸h2 x b hi hf
  |inr y=>rw[hf]at h;exact qT h1 h2 (h1 x y hi hf) h
theorem kM {d:aa}{i:Nat}{x:List (Int×Int)}(h: ∀y,d[i]? =some y->∀v∈vals x,v∈vals y):Sub (d.set i x) d:=by
 refine⟨by simp,λj y z hy hz v hv=> ?_⟩;rw[EK]at hy;split at hy
 ·rename_i e;subst e;split at hy;·cases hy;exact h z hz v hv
  ·cases hy
 ·rw[hz]at hy;cases hy;exact hv
theorem xK {d:aa}{c:Con}{out:aa}{N:Nat}(h:SumOk d c)(hR:LinAns d c (some out) N):Sub out d:=by
 unfold LinAns at hR;split at hR;·cases hR
 ·rename_i hne;have hw:=h.whole hne;split at hR
  ·rename_i h2;rw[fN hw h.pos]at hR;split at hR;·cases hR
   ·cases hR;have hin:=cP (ac d c.vars c.coefs) 0 0 0 0 c.vars.length h.pos (by have:=h.fine.len;simp[ac];omega) (DL _);unfold bU;simp only;split;·exact Sub.refl d
    ·split
     ·split;·exact kM λy _ v hv=>by simp[vals]at hv
      ·exact Sub.refl d
     ·refine kM λy hy v hv=> ?_;have hvv:=h.fine.vin _ (aK hin.1);rw[aq hvv.2]at hy;obtain rfl:=D3 hy;have hf:=h.fine.dom _ (ah hvv.2);rw[bJ (fJ (aF hf.ok))]at hv;exact(EH.1 hv).1
  ·refine qT (f:=fe c) (I:=λx=>bG c x/\Sub x d) (P:=λr=> ∀o,r=some o->Sub o d) ?_ ?_ ⟨hw,Sub.refl d⟩ hR out Y
   ·rintro x y ⟨hx,hs⟩ hy;rw[dk hx]at hy;obtain⟨f1,s1⟩:=ep hx;split at hy;·cases hy
    ·rename_i h1;have hw1:bG c (M1 c x):=Whole.most hx h1;obtain⟨f2,s2⟩:=ep hw1.back;split at hy;·cases hy
     ·split at hy;·cases hy
      ·rename_i h3;split at hy;·cases hy
       ·obtain rfl:=Sum.inr.inj hy;exact⟨hw1.unback (Whole.most hw1.back h3),Sub.trans s2 (Sub.trans s1 hs)⟩
   ·rintro x r ⟨hx,hs⟩ hy o rfl;rw[dk hx]at hy;obtain⟨f1,s1⟩:=ep hx;split at hy;·cases hy
    ·rename_i h1;have hw1:bG c (M1 c x):=Whole.most hx h1;obtain⟨f2,s2⟩:=ep hw1.back;split at hy
     ·obtain rfl:=D3 (Sum.inl.inj hy);exact Sub.trans s1 hs
     ·split at hy;·cases hy
      ·split at hy
       ·obtain rfl:=D3 (Sum.inl.inj hy);exact Sub.trans s2 (Sub.trans s1 hs)
       ·cases hy
theorem ia {d:aa}(hf: ∀x∈d,Fine x)(hne: []∉d){i:Nat}{x:List (Int×Int)}{v:Int}(hx:d[i]? =some x)(hv:v∈vals x): ∃a,Supp a d/\a[i]? =some v:=by
 have hi:=(D5.1 hx).1;refine⟨(d.map λy=>(vals y).headD 0).set i v,⟨by simp,λj y w hy hw=> ?_⟩,by simp[hi]⟩;rw[EK]at hw;split at hw
 ·rename_i e;subst e;rw[hx]at hy;cases hy;split at hw;·cases hw;exact hv
  ·cases hw
 ·rw[DE,hy]at hw;simp only[EG,D6]at hw;subst hw;have hm:=D7 hy;cases h2:vals y with
  |nil=>exact DU ((fg (hf y hm).ok).1 h2▸hm) hne
  |cons z l=>simp
theorem Av {d:aa}{c:Con}{R:Option aa}{N:Nat}(h:SumOk d c)(hne: []∉d)(hR:LinAns d c R N)(hfin: ∀out,R=some out->out.length=d.length/\[]∉out/\∀x∈out,Fine x)(hso:soW (endsW d c.vars c.coefs) c=true):R=some d:=by
 have hb:=h.big;have ha:=bE c.rhs;have key: ∀a,Supp a d->∃out,R=some out/\Supp a out:=λa hs=>yT h hs (oc h.fine (by omega) h.op hs hso) hR;cases R with
 |none=>
  exfalso;cases hd:d with
  |nil=>
   have:=h.fine.vin;have hp:=h.pos;obtain⟨v,hv⟩:=Gf hp;have:=(this v hv).2;rw[hd]at this;simp at this
  |cons x l=>
   have hxm:x∈d:=(by rw[hd];exact .head _);cases h2:vals x with
   |nil=>exact hne ((fg (h.fine.dom x hxm).ok).1 h2▸hxm)
   |cons z m=>
    obtain⟨a,hs,_⟩:=ia h.fine.dom hne (i:=0) (x:=x) (v:=z) (by rw[hd];rfl) (by rw[h2];exact .head _);obtain⟨out,ho,_⟩:=key a hs;cases ho
 |some out=>
  obtain⟨h1,h2,h3⟩:=hfin out Y;have hsub:=xK h hR;congr 1;refine Sub.antisymm hsub ⟨h1.symm,λi x y hx hy v hv=> ?_⟩ h3 h.fine.dom;obtain⟨a,hs,hai⟩:=ia h.fine.dom hne hx hv;obtain⟨out',ho,hs2⟩:=key a hs;cases ho;exact hs2.2 i y v hy hai
theorem pu {d:aa}{vars coefs:List Int}{rhs:Int}(h:Whole d vars coefs rhs):endsW d vars coefs=(bi (ac d vars coefs),fV (ac d vars coefs),true):=by
 have hb:=h.big;have ha:=bE rhs;have hwt:=cA (d:=d) h.fine.len;have:=jH 0 0 (di h.fine) (eW h) (by omega) (by omega) (by omega) (by omega);unfold endsW;rw[this];simp
theorem oU {d:aa}{vars coefs:List Int}(h: ∀k∈coefs,CoefOk k):bi (ac d vars (aB coefs))= -fV (ac d vars coefs):=by
 rw[eZ,qX];unfold aB
 induction vars generalizing coefs with
 |nil=>simp
 |cons v vars ih=>
  cases coefs with
  |nil=>simp
  |cons k coefs=>
   have hk:=h k (.head _);have e:=(cZ hk).1;have ih:=ih λk hk=>h k (.tail _ hk);simp only[DZ,F5,Eb,e];have e2:cy (domAt d v) (-k)= -fW (domAt d v) k:=by
    have hk0:=hk.1;unfold cy fW;by_cases h0:0<k;·rw[D2 (by omega),D4 h0,Ge]
    ·rw[D4 (by omega),D2 h0,Ge]
   rw[e2,ih];omega
theorem jP: ∀(ts:List (List (Int×Int)×Int)) (i m a:Nat) (s:Int),(∀t∈ts,¬1<(vals t.1).length)->(av i ts m s a).1=m
 | [],i,m,a,s,_=>by simp[av]
 |t::ts,i,m,a,s,h=>by
  rw[av,D2 (h t (.head _))];exact jP ts _ _ _ _ λt ht=>h t (.tail _ ht)
theorem yg {d:aa}(hf: ∀x∈d,Fine x)(hne: []∉d)(hl:0<d.length): ∃a,Supp a d:=by
 cases h2:vals d[0]with
 |nil=>exact DU ((fg (hf d[0] (D8 hl)).ok).1 h2▸D8 hl) hne
 |cons z m=>
  obtain⟨a,ha,_⟩:=ia hf hne (i:=0) (x:=d[0]) (v:=z) (D1 hl) (by rw[h2];exact .head _);exact⟨a,ha⟩
theorem not_not {c:Con}(hck: ∀k∈c.coefs,CoefOk k)(hop:0<=c.op/\c.op<=2)(hr:aG c.rhs<=4611686018427388928):bP (bP c)=c:=by
 obtain⟨kind,vars,coefs,op,rhs,rows,b⟩:=c;simp only at hck hop hr;have har:aG rhs=max rhs (-rhs):=rfl;have:op=0∨op=1∨op=2:=(by omega);rcases this with rfl|rfl|rfl
 ·have e1:wr (0-rhs)= -rhs:=(by rw[wr,af (by omega) (by omega)];omega);have e2:wr (wr (0-rhs)-1)= -rhs-1:=(by rw[e1,wr,af (by omega) (by omega)]);have e3:wr (wr (0-(-rhs-1))-1)=rhs:=by
   rw[show wr (0-(-rhs-1))=rhs+1 by rw[wr,af (by omega) (by omega)];omega,wr,af (by omega) (by omega)];omega
  have e4:aB (aB coefs)=coefs:=by
   unfold aB;rw[F3];refine(EJ λk hk=> ?_).trans (List.map_id _);obtain⟨h1,h2⟩:=cZ (hck k hk);have h3:=(cZ h2).1;simp only[Function.comp];rw[h3,h1];simp
  simp only[bP,if_true,e2,e3,e4]
 ·simp[bP]
 ·simp[bP]
theorem xH {x:List (Int×Int)}(h:aA x)(hne:x≠[])(k:Int): ∃v∈vals x,cy x k=k*v:=by
 unfold cy;by_cases hk:0<k;·rw[D4 hk];exact⟨_,fH h hne,rfl⟩
 ·rw[D2 hk];exact⟨_,o6 h hne,rfl⟩
theorem qH {x y:List (Int×Int)}(hx:aA x)(hy:aA y)(hne:x≠[])(hs: ∀v∈vals x,v∈vals y)(k:Int):cy y k<=cy x k:=by
 obtain⟨v,hv,e⟩:=xH hx hne k;rw[e];exact(r4 hy (hs v hv)).1
structure SumC (n:Nat)(vars coefs:List Int)(rhs:Int):Prop where
 vl:vars.length=coefs.length
 vin: ∀v∈vars,0<=v/\v.toNat<n
 ck: ∀k∈coefs,CoefOk k
 nod:vars.Nodup
 big:aj coefs<=4611686018427388928/\aG rhs<=4611686018427388928
 few:vars.length*24<=140737488355328
theorem SumC.whole {n:Nat}{vars coefs:List Int}{rhs:Int}(h:SumC n vars coefs rhs){d:aa}(hd:GoodD n d):Whole d vars coefs rhs:=
 ⟨⟨h.vl,by have:=h.few;omega,λv hv=>by rw[hd.len];exact h.vin v hv,h.ck,hd.few.fine,hd.few.small⟩,h.nod,hd.some',h.big⟩
theorem sS {d:aa}{vars coefs:List Int}{rhs:Int}(h:Whole d vars coefs rhs){p:Int×Int}(hp:p∈vars.zip coefs):domAt (MO d vars coefs rhs) p.1=dT d (bi (ac d vars coefs)) rhs p:=by
 obtain⟨ha,hl⟩:=iD h;have hm:(p.1,dT d (bi (ac d vars coefs)) rhs p)∈iE d vars coefs rhs:=DF.2 ⟨p,hp,rfl⟩;have e:=dM ha hl _ hm;unfold domAt;rw[D0,show MO d vars coefs rhs=bV (iE d vars coefs rhs) d from Y,e];rfl
theorem sQ {d:aa}{vars coefs:List Int}{rhs:Int}(h:Whole d vars coefs rhs){v:Int}(h0:0<=v)(hv:v∉vars):domAt (MO d vars coefs rhs) v=domAt d v:=by
 have e:(MO d vars coefs rhs)[v.toNat]? =d[v.toNat]? :=cT _ _ _ λp hp e=>by
  obtain⟨q,hq,rfl⟩:=DF.1 hp;have hq1:=(Dv hq).1;have:=(h.fine.vin _ hq1).1;have e:q.1.toNat=v.toNat:=e;exact hv ((show q.1=v by omega)▸hq1)
 unfold domAt;rw[D0,D0,e]
theorem kI {vars coefs:List Int}(hl:vars.length=coefs.length){v:Int}(hv:v∈vars): ∃p∈vars.zip coefs,p.1=v:=by
 obtain⟨i,hi,rfl⟩:=F7 hv;exact⟨(vars[i],coefs[i]'(by omega)),Fr.2 ⟨i,by simp;omega,by simp⟩,rfl⟩
theorem BW {n:Nat}{a b:aa}{vars coefs:List Int}{rhs:Int}(hc:SumC n vars coefs rhs)(ga:GoodD n a)(gb:GoodD n b)(h:leD a b):leD (MO a vars coefs rhs) (MO b vars coefs rhs):=by
 have wa:=hc.whole ga;have wb:=hc.whole gb;have hlow:=eJ (f:=λp=>cy (domAt b p.1) p.2) (g:=λp=>cy (domAt a p.1) p.2) (l:=vars.zip coefs) λp hp=>by
  have hv:=hc.vin _ (Dv hp).1;have hm:domAt a p.1∈a:=ah (by rw[ga.len];exact hv.2);exact qH (ga.few.fine _ hm).ok (gb.few.fine _ (ah (by rw[gb.len];exact hv.2))).ok (λe=>ga.some' (e▸hm)) (λx hx=>h.2 p.1 x hv.1 hx) p.2
 rw[<-eZ,<-eZ]at hlow;refine⟨by rw[(ep wa).2.1,(ep wb).2.1,ga.len,gb.len],λv x h0 hx=> ?_⟩;by_cases hv:v∈vars
 ·obtain⟨p,hp,rfl⟩:=kI hc.vl hv;rw[sS wa hp]at hx;rw[sS wb hp];obtain⟨h1,h2⟩:=((fZ wa hp _).2 x).1 hx;refine((fZ wb hp _).2 x).2 ⟨h.2 _ x h0 h1,?_⟩;have:=hlow.2 p hp;omega
 ·rw[sQ wa h0 hv]at hx;rw[sQ wb h0 hv];exact h.2 v x h0 hx
def kO (vars coefs:List Int)(rhs:Int)(d:aa):Option aa:=if []∈MO d vars coefs rhs then none else some (MO d vars coefs rhs)
theorem sR {n:Nat}{d:aa}{vars coefs:List Int}{rhs:Int}(hc:SumC n vars coefs rhs)(hd:GoodD n d)(hne: []∉MO d vars coefs rhs):GoodD n (MO d vars coefs rhs)/\leD (MO d vars coefs rhs) d:=by
 obtain⟨h1,h2⟩:=ep (hc.whole hd);have hle:leD (MO d vars coefs rhs) d:=by
  refine⟨h2.1,λv x h0 hx=> ?_⟩;by_cases hl:v.toNat<d.length
  ·have hl2:v.toNat<(MO d vars coefs rhs).length:=(by rw[h2.1];exact hl);exact h2.2 v.toNat _ _ (aq hl2) (aq hl) x hx
  ·unfold domAt at hx;rw[D0,EB (by rw[h2.1];omega)]at hx;cases hx
 refine⟨⟨⟨by rw[h2.1];exact hd.few.small,h1,λx hx=> ?_⟩,by rw[h2.1,hd.len],hne⟩,hle⟩;obtain⟨j,hj⟩:=DH hx;have hjl:=(D5.1 hj).1;have hjd:j<d.length:=(by rw[<-h2.1];exact hjl);have hsub: ∀v∈vals x,v∈vals d[j]:=λv hv=>h2.2 j x d[j] hj (D1 hjd) v hv;have:=bS (aF (h1 x hx).ok) hsub;have:=hd.few.few _ (D8 hjd);omega
theorem mT {n:Nat}{vars coefs:List Int}{rhs:Int}(hc:SumC n vars coefs rhs):Takes leD (GoodD n) (kO vars coefs rhs):=by
 refine⟨λa a' ga he=> ?_,λa a' b ga gb hle he=> ?_⟩
 ·unfold kO at he;split at he;·cases he
  ·rename_i hne;obtain rfl:=D3 he;exact sR hc ga hne
 ·unfold kO at he⊢;split at he;·cases he
  ·rename_i hne;obtain rfl:=D3 he;have hm:=BW hc ga gb hle;obtain⟨g1,_⟩:=sR hc ga hne;rw[D2];·exact⟨_,rfl,hm⟩
   ·intro hem;obtain⟨j,hj⟩:=DH hem;have hjl:=(D5.1 hj).1;have hjn:j<n:=(by rw[(ep (hc.whole gb)).2.1,gb.len]at hjl;exact hjl);obtain⟨x,hx⟩:=g1.ne (v:=(j:Int)) (by simpa using hjn);have:=hm.2 j x (by omega) hx;unfold domAt at this;rw[D0,DW,hj]at this;cases this
def pC (c:Con)(b:Bool)(d:aa):Option aa:=if b=true then kO c.vars c.coefs c.rhs d else kO c.vars (aB c.coefs) (wr (0-c.rhs)) d
theorem ni {n:Nat}{c:Con}(h1:SumC n c.vars c.coefs c.rhs)(h2:SumC n c.vars (aB c.coefs) (wr (0-c.rhs)))(b:Bool):Takes leD (GoodD n) (pC c b):=by
 cases b with
 |true=>exact mT h1
 |false=>exact mT h2
theorem yU {n:Nat}{c:Con}(h1:SumC n c.vars c.coefs c.rhs)(h2:SumC n c.vars (aB c.coefs) (wr (0-c.rhs)))(hop:c.op=1)(d0:aa): ∀(N:Nat) (d:aa) (R:Option aa),Come leD (GoodD n) (pC c) [true,false] d0 d->cH (fe c) N d=some R->ex leD (GoodD n) (pC c) [true,false] d0 R:=by
 intro N
 induction N using Nat.strongRecOn with
 |_ N ih=>
  intro d R hd hR;have hw:bG c d:=h1.whole hd.fine;have hst:=dk hw;have t1:=ni h1 h2 true;have t2:=ni h1 h2 false;by_cases e1: []∈M1 c d
  ·rw[D4 e1]at hst;obtain rfl:=bf hR hst;exact hd.none (c:=true) (by simp) t1 (D4 e1)
  ·rw[D2 e1,D2 (by omega)]at hst;have f1:pC c true d=some (M1 c d):=D2 e1;have hd1:=hd.step (aY n) (c:=true) (by simp) t1 f1;by_cases e2: []∈M2 c (M1 c d)
   ·rw[D4 e2]at hst;obtain rfl:=bf hR hst;exact hd1.none (c:=false) (by simp) t2 (D4 e2)
   ·rw[D2 e2]at hst;have f2:pC c false (M1 c d)=some (M2 c (M1 c d)):=D2 e2;have hd2:=hd1.step (aY n) (c:=false) (by simp) t2 f2;by_cases e3:M1 c d=d/\M2 c (M1 c d)=M1 c d
    ·rw[D4 e3]at hst;obtain rfl:=bf hR hst;refine⟨hd2,λb hb=> ?_⟩;have e:M2 c (M1 c d)=d:=e3.2.trans e3.1;rw[e];cases b with
     |true=>rw[f1,e3.1]
     |false=>rw[e3.1]at f2;rw[f2,<-e3.1];rw[e3.1]at e;rw[e3.1,e]
    ·rw[D2 e3]at hst;obtain⟨m,hm,hR2⟩:=gU hR hst;exact ih m hm _ R hd2 hR2
theorem Bw {n:Nat}{c:Con}(h1:SumC n c.vars c.coefs c.rhs)(hop:c.op=0){d:aa}(hd:GoodD n d){N:Nat}{R:Option aa}(hR:cH (fe c) N d=some R):R=pC c true d:=by
 have hst:=dk (h1.whole hd:bG c d);by_cases e1: []∈M1 c d
 ·rw[D4 e1]at hst;obtain rfl:=bf hR hst;exact(D4 e1).symm
 ·rw[D2 e1,D4 hop]at hst;obtain rfl:=bf hR hst;exact(D2 e1).symm
structure StepOK (n:Nat)(us:List Int)(P:(Int->Int)->Prop)(f:aa->Option aa):Prop where
 takes:Takes leD (GoodD n) f
 stays: ∀a b,GoodD n a->GoodD n b->f a=some a->(∀u∈us,domAt a u=domAt b u)->f b=some b
 off: ∀a out,GoodD n a->f a=some out->∀v,0<=v->v∉us->domAt out v=domAt a v
 point: ∀e,GoodD n e->∀g:Int->Int,(∀u∈us,vals (domAt e u)=[g u])->(f e=some e↔P g)
 in': ∀u∈us,0<=u/\u.toNat<n
theorem SuppS.step {n:Nat}{us:List Int}{P:List Int->Bool}{f:aa->Option aa}(h:SuppS n us P f):StepOK n us (λg=>P (us.map g)=true) f:=by
 refine⟨h.takes,λa b ga gb ha hab=>h.stays ga gb ha hab,λa out ga he=>(h.ok a out ga he).2.2,λe ge g he=> ?_,h.in'⟩;rw[h.point ge g he];by_cases hp:P (us.map g)=true;·simp[hp]
 ·simp[hp]
theorem StepOK.iff {n:Nat}{us:List Int}{P Q:(Int->Int)->Prop}{f:aa->Option aa}(h:StepOK n us P f)(hq: ∀g,P g↔Q g):StepOK n us Q f:=
 ⟨h.takes,h.stays,h.off,λe ge g he=>(h.point e ge g he).trans (hq g),h.in'⟩
theorem StepOK.wide {n:Nat}{us vs:List Int}{P:(Int->Int)->Prop}{f:aa->Option aa}(h:StepOK n us P f)(hs: ∀u∈us,u∈vs)(hv: ∀u∈vs,0<=u/\u.toNat<n):StepOK n vs P f:=
 ⟨h.takes,λa b ga gb ha hab=>h.stays a b ga gb ha λu hu=>hab u (hs u hu),λa out ga he v h0 hv=>h.off a out ga he v h0 λhm=>hv (hs v hm),λe ge g he=>h.point e ge g λu hu=>he u (hs u hu),hv⟩
theorem StepOK.congr {n:Nat}{us:List Int}{P:(Int->Int)->Prop}{f f':aa->Option aa}(h:StepOK n us P f)(he: ∀d,GoodD n d->f' d=f d):StepOK n us P f':=by
 refine⟨⟨λa a' ga e=>h.takes.less a a' ga (by rw[<-he a ga];exact e),λa a' b ga gb hle e=> ?_⟩,λa b ga gb ha hab=> ?_,λa out ga e=>h.off a out ga (by rw[<-he a ga];exact e),λe ge g hg=>by rw[he e ge];exact h.point e ge g hg,h.in'⟩;·rw[he a ga]at e;rw[he b gb];exact h.takes.mono a a' b ga gb hle e
 ·rw[he a ga]at ha;rw[he b gb];exact h.stays a b ga gb ha hab
def rY (us:List Int)(a b:aa):aa:=(List.range a.length).map λj:Nat=>if(j:Int)∈us then domAt a (j:Int)else domAt b (j:Int)
theorem Cl {us:List Int}{a b:aa}{v:Int}(h0:0<=v)(hl:v.toNat<a.length):domAt (rY us a b) v=if v∈us then domAt a v else domAt b v:=by
 have e:((v.toNat:Nat):Int)=v:=(by omega);unfold domAt rY;rw[D0,DE,Ep hl];simp only[EG,Ed,e,domAt]
theorem fY {a:aa}{v:Int}(hl:a.length<=v.toNat):domAt a v=[]:=by
 unfold domAt;rw[D0,EB hl];rfl
theorem Am {n:Nat}{us:List Int}{a b:aa}(ga:GoodD n a)(gb:GoodD n b):GoodD n (rY us a b):=by
 have hl:(rY us a b).length=a.length:=(by simp[rY]);have hm: ∀x∈rY us a b,x∈a∨x∈b:=by
  intro x hx;obtain⟨j,hj,rfl⟩:=DF.1 hx;have hj:=DM.1 hj;split;·exact .inl (ah (by simpa using hj))
  ·exact .inr (ah (by rw[gb.len,<-ga.len];simpa using hj))
 refine⟨⟨by rw[hl];exact ga.few.small,λx hx=> ?_,λx hx=> ?_⟩,by rw[hl,ga.len],λhx=> ?_⟩;·exact(hm x hx).elim (ga.few.fine x) (gb.few.fine x)
 ·exact(hm x hx).elim (ga.few.few x) (gb.few.few x)
 ·exact(hm _ hx).elim ga.some' gb.some'
theorem ex.step {γ:Type}{n:Nat}{us:List Int}{l:List γ}{f:γ->aa->Option aa}{F:aa->Option aa}{P:γ->(Int->Int)->Prop}(h: ∀d,GoodD n d->ex leD (GoodD n) f l d (F d))(hs: ∀c∈l,StepOK n us (P c) (f c))(hin: ∀u∈us,0<=u/\u.toNat<n):StepOK n us (λg=> ∀c∈l,P c g) F:=by
 have O:=aY n;have loc: ∀a b,GoodD n a->GoodD n b->eE f l a->(∀u∈us,domAt a u=domAt b u)->eE f l b:=λa b ga gb ha hab c hc=>(hs c hc).stays a b ga gb (ha c hc) hab;refine⟨ex.takes O h,λa b ga gb ha hab=>(ex.fix O h gb).2 (loc a b ga gb ((ex.fix O h ga).1 ha) hab),λa out ga he v h0 hv=> ?_,λe ge g he=> ?_,hin⟩
 ·have hE:=h a ga;rw[he]at hE;obtain⟨hc,hst⟩:=hE;by_cases hl:v.toNat<n
  ·have gm:=Am (us:=us) hc.fine ga;have hlo:out.length=a.length:=hc.less.1;have hat: ∀u:Int,0<=u->domAt (rY us out a) u=if u∈us then domAt out u else domAt a u:=λu hu0=>by
    by_cases hul:u.toNat<out.length;·exact Cl hu0 hul
    ·rw[fY (by rw[gm.len];rw[hc.fine.len]at hul;omega),fY (by omega),fY (by omega),ite_self]
   have hst2:eE f l (rY us out a):=by
    refine loc out _ hc.fine gm hst λu hu=> ?_;rw[hat u (hin u hu).1,D4 hu]
   have hle:leD (rY us out a) a:=⟨by rw[gm.len,ga.len],λu x hu0 hx=>by
    rw[hat u hu0]at hx;split at hx;·exact hc.less.2 u x hu0 hx
    ·exact hx⟩
   have hk:=hc.keep _ gm hle hst2;have f1:=(hc.fine.few.fine _ (ah (by rw[hc.fine.len];exact hl))).ok;have f2:=(ga.few.fine _ (ah (by rw[ga.len];exact hl))).ok;refine iC f1 f2 (dG (aF f1) (aF f2) λx=>⟨hc.less.2 v x h0,λhx=>hk.2 v x h0 ?_⟩);rw[hat v h0,D2 hv];exact hx
  ·rw[fY (by rw[hc.fine.len];omega),fY (by rw[ga.len];omega)]
 ·rw[ex.fix O h ge];exact⟨λhh c hc=>((hs c hc).point e ge g he).1 (hh c hc),λhh c hc=>((hs c hc).point e ge g he).2 (hh c hc)⟩
def dB (vars coefs:List Int)(g:Int->Int):Int:=((vars.zip coefs).map λp=>p.2*g p.1).sum
def yh (coefs l:List Int):Int:=((l.zip coefs).map λp=>p.2*p.1).sum
theorem dX: ∀(vars coefs:List Int) (g:Int->Int),yh coefs (vars.map g)=dB vars coefs g
 | [],_,_=>by simp[yh,dB]
 |_::_,[],_=>by simp[yh,dB]
 |v::vars,k::coefs,g=>by
  have:=dX vars coefs g;simp only[yh,dB,DZ,F5,Eb]at this⊢;rw[this]
theorem rL {α:Type}{f f':α->Int}{q:α}: ∀{l:List α},l.Nodup->q∈l->(∀p∈l,p≠q->f' p=f p)->(l.map f').sum=(l.map f).sum-f q+f' q
 |p::l,hn,hq,h=>by
  have h1:=ED.1 hn;simp only[DZ,Eb];rcases DO.1 hq with rfl|hq
  ·have:l.map f'=l.map f:=EJ λr hr=>h r (.tail _ hr) λe=>h1.1 (e▸hr);rw[this];omega
  ·have:=rL (f:=f) (f':=f') h1.2 hq λr hr=>h r (.tail _ hr);have:=h p (.head _) λe=>h1.1 (e▸hq);omega
theorem jp: ∀{vars coefs:List Int},vars.Nodup->(vars.zip coefs).Nodup
 | [],_,_=>by simp
 |_::_,[],_=>by simp
 |v::vars,k::coefs,h=>by
  have h1:=ED.1 h;rw[F5];exact ED.2 ⟨λhm=>h1.1 (Dv hm).1,jp h1.2⟩
theorem kJ: ∀{vars coefs:List Int},vars.Nodup->∀{p q:Int×Int},p∈vars.zip coefs->q∈vars.zip coefs->p.1=q.1->p=q
 | [],_,_,p,q,h,_,_=>by simp at h
 |_::_,[],_,p,q,h,_,_=>by simp at h
 |v::vars,k::coefs,hn,p,q,hp,hq,e=>by
  have h1:=ED.1 hn;rw[F5]at hp hq;rcases DO.1 hp with rfl|hp
  ·rcases DO.1 hq with rfl|hq;·rfl
   ·exact DU ((show v=q.1 from e)▸(Dv hq).1) h1.1
  ·rcases DO.1 hq with rfl|hq;·exact DU ((show p.1=v from e)▸(Dv hp).1) h1.1
   ·exact kJ h1.2 hp hq e
theorem Bg {vars coefs:List Int}(hn:vars.Nodup)(h:Int×Int->Int): ∃g:Int->Int,∀p∈vars.zip coefs,g p.1=h p:=by
 refine⟨λu=>if hu: ∃p∈vars.zip coefs,p.1=u then h hu.choose else 0,λp hp=> ?_⟩;have hu: ∃q∈vars.zip coefs,q.1=p.1:=⟨p,hp,rfl⟩;simp only[dif_pos hu];rw[kJ hn hu.choose_spec.1 hp hu.choose_spec.2]
theorem CC {n:Nat}{vars coefs:List Int}{rhs:Int}(hc:SumC n vars coefs rhs)(hne:vars≠[]):SuppS n vars (λl=>decide (yh coefs l<=rhs)) (kO vars coefs rhs):=by
 have low: ∀d,GoodD n d->∀g:Int->Int,(∀u∈vars,g u∈vals (domAt d u))->∀p∈vars.zip coefs,p.2*g p.1-cy (domAt d p.1) p.2<=dB vars coefs g-bi (ac d vars coefs):=λd gd g hg p hp=>by
  rw[eZ];refine(eJ (f:=λp:Int×Int=>cy (domAt d p.1) p.2) (g:=λp=>p.2*g p.1) (l:=vars.zip coefs) λq hq=> ?_).2 p hp;have hv:=(Dv hq).1;exact(r4 (gd.few.fine _ (ah (by rw[gd.len];exact(hc.vin _ hv).2))).ok (hg _ hv)).1
 have put: ∀d,GoodD n d->∀q∈vars.zip coefs,∀x∈vals (domAt d q.1),∃g:Int->Int,(∀u∈vars,g u∈vals (domAt d u))/\g q.1=x/\dB vars coefs g=bi (ac d vars coefs)-cy (domAt d q.1) q.2+q.2*x:=λd gd q hq x hx=>by
  have hex: ∀p:Int×Int,∃y,p∈vars.zip coefs->y∈vals (domAt d p.1)/\cy (domAt d p.1) p.2=p.2*y:=λp=>by
   by_cases hp:p∈vars.zip coefs
   ·have hm:domAt d p.1∈d:=ah (by rw[gd.len];exact(hc.vin _ (Dv hp).1).2);obtain⟨y,h1,h2⟩:=xH (gd.few.fine _ hm).ok (λe=>gd.some' (e▸hm)) p.2;exact⟨y,λ_=>⟨h1,h2⟩⟩
   ·exact⟨0,λh=>DU h hp⟩
  obtain⟨g,hg⟩:=Bg (coefs:=coefs) hc.nod λp=>if p=q then x else(hex p).choose
  refine⟨g,λu hu=> ?_,by rw[hg q hq,D4 Y],?_⟩
  ·obtain⟨p,hp,rfl⟩:=kI hc.vl hu;rw[hg p hp];split;·rename_i e;exact e▸hx
   ·exact((hex p).choose_spec hp).1
  ·unfold dB;rw[rL (f:=λp=>cy (domAt d p.1) p.2) (q:=q) (jp hc.nod) hq λp hp hpq=> ?_,<-eZ,hg q hq,D4 Y];show p.2*g p.1=cy (domAt d p.1) p.2;rw[hg p hp,D2 hpq];exact((hex p).choose_spec hp).2.symm
 refine⟨λd out gd he=> ?_,λd gd he g hg=> ?_,hc.vin,hne⟩
 ·unfold kO at he;split at he;·cases he
  ·rename_i hno;obtain rfl:=D3 he;have hw:=hc.whole gd;refine⟨(sR hc gd hno).1,λv hv x=> ?_,λv h0 hv=>sQ hw h0 hv⟩;obtain⟨q,hq,rfl⟩:=kI hc.vl hv;rw[sS hw hq,(fZ hw hq _).2 x];constructor
   ·rintro⟨h1,h2⟩;obtain⟨g,h3,h4,h5⟩:=put d gd q hq x h1;refine⟨g,h3,DD ?_,h4⟩;rw[dX,h5];omega
   ·rintro⟨g,h3,h4,rfl⟩;have h4:=EL h4;rw[dX]at h4;have:=low d gd g h3 q hq;exact⟨h3 _ hv,by omega⟩
 ·refine DC λhle=> ?_;rw[dX]at hle;unfold kO at he;split at he
  ·rename_i hem;obtain⟨j,hj⟩:=DH hem;have hw:=hc.whole gd;have hjn:j<n:=by
    have:=(D5.1 hj).1;rwa[(ep hw).2.1,gd.len]at this
   have e:domAt (MO d vars coefs rhs) (j:Int)=[]:=by
    unfold domAt;rw[D0,DW,hj];rfl
   by_cases hv:(j:Int)∈vars
   ·obtain⟨q,hq,hqj⟩:=kI hc.vl hv;have h1:=low d gd g hg q hq;have h2:=((fZ hw hq (bi (ac d vars coefs))).2 (g q.1)).2 ⟨hg _ (Dv hq).1,by omega⟩;rw[<-sS hw hq,hqj,e]at h2;cases h2
   ·rw[sQ hw (by omega) hv]at e;exact gd.some' (e▸ah (by rw[gd.len];simpa using hjn))
  ·cases he
theorem n7 {n:Nat}{vars coefs:List Int}{rhs:Int}(hc:SumC n vars coefs rhs)(hne:vars≠[]):StepOK n vars (λg=>dB vars coefs g<=rhs) (kO vars coefs rhs):=
 (CC hc hne).step.iff λg=>by rw[DN,dX]
theorem i8: ∀(ts:List (List (Int×Int)×Int)) (i m:Nat) (s:Int) (a:Nat),m<=(av i ts m s a).1
 | [],i,m,s,a=>DL _
 |t::ts,i,m,s,a=>by
  rw[av];split
  ·have:=i8 ts (i+1) (m+1) s i;omega
  ·exact i8 ts _ _ _ _
theorem jQ: ∀(ts:List (List (Int×Int)×Int)) (i m:Nat) (s:Int) (a:Nat),(av i ts m s a).1=m->(av i ts m s a).2.2=a
 | [],i,m,s,a,_=>rfl
 |t::ts,i,m,s,a,h=>by
  rw[av]at h⊢;split at h
  ·have:=i8 ts (i+1) (m+1) s i;omega
  ·rename_i hc;rw[D2 hc];exact jQ ts _ _ _ _ h
theorem kX: ∀(ts:List (List (Int×Int)×Int)) (i m:Nat) (s:Int) (a:Nat),
  ((av i ts m s a).1=m+1->∃(j:Nat) (t:List (Int×Int)×Int),(av i ts m s a).2.2=i+j/\ts[j]? =some t/\1<(vals t.1).length)/\
  (m+1<(av i ts m s a).1->∃(j k:Nat) (t u:List (Int×Int)×Int),j≠k/\ts[j]? =some t/\ts[k]? =some u/\1<(vals t.1).length/\1<(vals u.1).length)
 | [],i,m,s,a=>by simp[av]
 |t::ts,i,m,s,a=>by
  rw[av];by_cases hc:1<(vals t.1).length
  ·rw[D4 hc];refine⟨λe=> ?_,λe=> ?_⟩
   ·have hk:=jQ ts (i+1) (m+1) s i e;exact⟨0,t,by rw[hk];rfl,rfl,hc⟩
   ·have hex: ∃(k:Nat) (u:List (Int×Int)×Int),ts[k]? =some u/\1<(vals u.1).length:=by
     refine E0 λhn=> ?_;have:=jP ts (i+1) (m+1) i s λu hu h=>hn ((Fk.1 hu).elim λk hk=>⟨k,u,hk,h⟩);omega
    obtain⟨k,u,h5,h6⟩:=hex;exact⟨0,k+1,t,u,by omega,rfl,by simpa using h5,hc,h6⟩
  ·rw[D2 hc];obtain⟨h3,h4⟩:=kX ts (i+1) m (wr (s+wr (t.2*hd0 (vals t.1)))) a;refine⟨λe=> ?_,λe=> ?_⟩
   ·obtain⟨j,u,h5,h6,h7⟩:=h3 e;exact⟨j+1,u,by omega,by simpa using h6,h7⟩
   ·obtain⟨j,k,u,w,h5,h6,h7,h8,h9⟩:=h4 e;exact⟨j+1,k+1,u,w,by omega,by simpa using h6,by simpa using h7,h8,h9⟩
theorem A4 {n:Nat}{d:aa}(hd:GoodD n d){us:List Int}(hin: ∀u∈us,0<=u/\u.toNat<n){g:Int->Int}(hg: ∀u∈us,g u∈vals (domAt d u)): ∃a,Supp a d/\∀u∈us,atR a u=g u:=by
 have hex: ∀j:Nat,∃x,j<n->x∈vals (domAt d j)/\((j:Int)∈us->x=g j):=λj=>by
  by_cases hj:(j:Int)∈us;·exact⟨g j,λ_=>⟨hg _ hj,λ_=>rfl⟩⟩
  ·by_cases hl:j<n
   ·obtain⟨x,hx⟩:=hd.ne (v:=(j:Int)) (by simpa using hl);exact⟨x,λ_=>⟨hx,λh=>DU h hj⟩⟩
   ·exact⟨0,λh=>DU h hl⟩
 refine⟨(List.range n).map λj=>(hex j).choose,⟨by simp[hd.len],λi x v hx hv=> ?_⟩,λu hu=> ?_⟩
 ·have hi:=(D5.1 hx).1;have hin':i<n:=(by rw[<-hd.len];exact hi);rw[DE,Ep hin']at hv;obtain rfl:=D3 hv;have h1:=((hex i).choose_spec hin').1;have e:domAt d (i:Int)=x:=by
   rw[D1 hi]at hx;rw[pA hi];exact D3 hx
  exact e▸h1
 ·obtain⟨h0,h1⟩:=hin u hu;have e:((u.toNat:Nat):Int)=u:=(by omega);unfold atR;rw[D2 (by omega),D0,DE,Ep h1];exact(((hex u.toNat).choose_spec h1).2 (by rw[e];exact hu)).trans (congrArg g e)
theorem vV {vars coefs a:List Int}{g:Int->Int}(h: ∀u∈vars,atR a u=g u):cK vars coefs a=dB vars coefs g:=by
 unfold cK dB;congr 1;exact EJ λp hp=>by rw[h _ (Dv hp).1]
structure LinC (n:Nat)(c:Con):Prop where
 sum:SumC n c.vars c.coefs c.rhs
 pos:0<c.vars.length
 op:0<=c.op/\c.op<=2
theorem LinC.ok {n:Nat}{c:Con}(h:LinC n c){d:aa}(hd:GoodD n d):SumOk d c:=⟨(h.sum.whole hd).fine,h.sum.nod,h.pos,h.op,h.sum.big⟩
theorem LinC.ne {n:Nat}{c:Con}(h:LinC n c):c.vars≠[]:=λe=>by have:=h.pos;rw[e]at this;simp at this
theorem GoodD.of_sub {n:Nat}{a b:aa}(hb:GoodD n b)(h:Sub a b)(hf: ∀x∈a,Fine x)(hne: []∉a):GoodD n a/\leD a b:=by
 have hle:leD a b:=by
  refine⟨h.1,λv x h0 hx=> ?_⟩;by_cases hl:v.toNat<a.length;·exact h.2 v.toNat _ _ (aq hl) (aq (by rw[<-h.1];exact hl)) x hx
  ·rw[fY (by omega)]at hx;cases hx
 refine⟨⟨⟨by rw[h.1];exact hb.few.small,hf,λx hx=> ?_⟩,by rw[h.1,hb.len],hne⟩,hle⟩;obtain⟨j,hj⟩:=DH hx;have hjl:=(D5.1 hj).1;have hjd:j<b.length:=(by rw[<-h.1];exact hjl);have:=bS (aF (hf x hx).ok) λv hv=>h.2 j x _ hj (D1 hjd) v hv;have:=hb.few.few _ (D8 hjd);omega
def neO (c:Con)(d:aa):Option aa:=if []∈bU d c then none else some (bU d c)
theorem vP {d:aa}{c:Con}(hp:0<c.vars.length)(hl:c.vars.length=c.coefs.length)(h0: ∀v∈c.vars,0<=v){v:Int}(hv0:0<=v)(hv:v∉c.vars):domAt (bU d c) v=domAt d v:=by
 have hin:=cP (ac d c.vars c.coefs) 0 0 0 0 c.vars.length hp (by simp[ac];omega) (DL _);have key: ∀(k:Nat) (y:List (Int×Int)),k<c.vars.length->domAt (d.set (varAt c k).toNat y) v=domAt d v:=λk y hk=>by
  have hm:=aK (c:=c) hk;have h1:=h0 _ hm;have hne:(varAt c k).toNat≠v.toNat:=λe=>hv ((show varAt c k=v by omega)▸hm);unfold domAt;rw[D0,D0,Ds hne]
 unfold bU;simp only;split;·rfl
 ·split
  ·split;·exact key 0 _ hp
   ·rfl
  ·exact key _ _ hin.1
theorem CB {n:Nat}{c:Con}(h:LinC n c)(hop:c.op=2):SuppS n c.vars (λl=>decide (yh c.coefs l≠c.rhs)) (neO c):=by
 have hc:=h.sum;have hans: ∀d,GoodD n d->LinAns d c (neO c d) 0:=λd gd=>by
  have hw:bG c d:=hc.whole gd;unfold LinAns;rw[D2 gd.some',D4 hop,fN hw h.pos];rfl
 have keep: ∀d,GoodD n d->∀g:Int->Int,(∀u∈c.vars,g u∈vals (domAt d u))->dB c.vars c.coefs g≠c.rhs->[]∉bU d c/\∀u∈c.vars,g u∈vals (domAt (bU d c) u):=λd gd g hg hne=>by
  obtain⟨a,ha,hag⟩:=A4 gd hc.vin hg;have hw:bG c d:=hc.whole gd;have hs:=mX hw h.pos ha (by rw[vV hag];exact hne);refine⟨hs.ne,λu hu=> ?_⟩;have hv:=hc.vin u hu;have:=hs.at hv.1 (by rw[(i7 hw h.pos).1,gd.len];exact hv.2);rwa[hag u hu]at this
 refine⟨λd out gd he=> ?_,λd gd he g hg=> ?_,hc.vin,h.ne⟩
 ·have hA:=hans d gd;rw[he]at hA;have hsub:=xK (h.ok gd) hA;have hw:bG c d:=hc.whole gd;unfold neO at he;split at he;·cases he
  ·rename_i hno;obtain rfl:=D3 he;obtain⟨go,hle⟩:=GoodD.of_sub gd hsub (i7 hw h.pos).2 hno;refine⟨go,λv hv x=>⟨λhx=> ?_,?_⟩,λv h0 hv=>vP h.pos hc.vl (λv hv=>(hc.vin v hv).1) h0 hv⟩
   ·refine E0 λhn=> ?_;have hx0:=hle.2 v x (hc.vin v hv).1 hx;have hall: ∀g:Int->Int,(∀u∈c.vars,g u∈vals (domAt d u))->g v=x->dB c.vars c.coefs g=c.rhs:=λg h1 h2=>by
     refine E0 λh3=>hn ⟨g,h1,DD ?_,h2⟩;rw[dX];exact h3
    obtain⟨q,hq,rfl⟩:=kI hc.vl hv;have hex: ∀u:Int,∃y,u∈c.vars->y∈vals (domAt d u):=λu=>by
     by_cases hu:u∈c.vars
     ·obtain⟨y,hy⟩:=gd.ne (hc.vin u hu).2;exact⟨y,λ_=>hy⟩
     ·exact⟨0,λh=>DU h hu⟩
    let g0:Int->Int:=λu=>if u=q.1 then x else(hex u).choose
    have hg0: ∀u∈c.vars,g0 u∈vals (domAt d u):=λu hu=>by
     simp only[g0];split;·rename_i e;rw[e];exact hx0
     ·exact(hex u).choose_spec hu
    have hg0x:g0 q.1=x:=D4 Y;have hs0:=hall g0 hg0 hg0x;have single: ∀p∈c.vars.zip c.coefs,p.1≠q.1->¬1<(vals (domAt d p.1)).length:=λp hp hpq=>by
     have hpv:=(Dv hp).1;have heq: ∀y∈vals (domAt d p.1),y=g0 p.1:=λy hy=>by
      have h1:=hall (λu=>if u=p.1 then y else g0 u) (λu hu=>by
       by_cases e:u=p.1;·rw[D4 e,e];exact hy
       ·rw[D2 e];exact hg0 u hu) ((D2 (Ne.symm hpq)).trans hg0x)
      have h2:dB c.vars c.coefs (λu=>if u=p.1 then y else g0 u)=dB c.vars c.coefs g0-p.2*g0 p.1+p.2*y:=by
       unfold dB;rw[rL (f:=λr:Int×Int=>r.2*g0 r.1) (f':=λr=>r.2*(if r.1=p.1 then y else g0 r.1)) (jp hc.nod) hp λr hr hrp=> ?_,D4 Y];rw[D2 λe=>hrp (kJ hc.nod hr hp e)]
      have hk:=(hc.ck _ (Dv hp).2).1;have h3:p.2*y=p.2*g0 p.1:=(by omega);exact Gv hk h3
     have hu:=aF (gd.few.fine _ (ah (v:=p.1) (by rw[gd.len];exact(hc.vin _ hpv).2))).ok;intro hl;cases hv2:vals (domAt d p.1)with
     |nil=>rw[hv2]at hl;simp at hl
     |cons y l=>
      cases l with
      |nil=>rw[hv2]at hl;simp at hl
      |cons z l=>
       rw[hv2]at hu heq;have h4:=(Dm.1 hu).1 z (.head _);have h5:=heq y (.head _);have h6:=heq z (.tail _ (.head _));omega
    have hzl:(c.vars.zip c.coefs).length=c.vars.length:=(by have:=hc.vl;simp;omega);have hterm: ∀(j:Nat) t,(ac d c.vars c.coefs)[j]? =some t->∃p,(c.vars.zip c.coefs)[j]? =some p/\t=(domAt d p.1,p.2):=λj t ht=>by
     unfold ac at ht;rw[DE]at ht;cases hp:(c.vars.zip c.coefs)[j]? with
     |none=>rw[hp]at ht;cases ht
     |some p=>rw[hp]at ht;exact⟨p,rfl,(D3 ht).symm⟩
    have hmulti: ∀(j:Nat) t,(ac d c.vars c.coefs)[j]? =some t->1<(vals t.1).length->(c.vars.zip c.coefs)[j]? =some q:=λj t ht hl=>by
     obtain⟨p,hp,rfl⟩:=hterm j t ht;have hpm:=D7 hp;by_cases e:p.1=q.1;·rw[hp,kJ hc.nod hpm hq e]
     ·exact DU hl (single p hpm e)
    have hone: ∀(j k:Nat),(c.vars.zip c.coefs)[j]? =some q->(c.vars.zip c.coefs)[k]? =some q->j=k:=λj k h1 h2=>by
     have hj:=(D5.1 h1).1;have hk:=(D5.1 h2).1;have e1:(c.vars.zip c.coefs)[j]=(c.vars.zip c.coefs)[k]:=by
      rw[D1 hj]at h1;rw[D1 hk]at h2;exact(D3 h1).trans (D3 h2).symm
     exact(Fc (jp hc.nod)).1 e1
    obtain⟨t1,t2⟩:=kX (ac d c.vars c.coefs) 0 0 0 0;let ts:List ((List (Int×Int)×Int)×Int):=(c.vars.zip c.coefs).map λp=>((domAt d p.1,p.2),g0 p.1);have et:ts.map (·.1)=ac d c.vars c.coefs:=(by simp only[ts,F3];rfl);have eS:(ts.map λt=>t.1.2*t.2).sum=dB c.vars c.coefs g0:=(by simp only[ts,F3];rfl);have hvt:xh ts:=by
     intro t ht;obtain⟨p,hp,rfl⟩:=DF.1 ht;exact hg0 _ (Dv hp).1
    have hww:=cA (d:=d) hc.vl;have hb:=hc.big;have har:=bE c.rhs;have key:=fm (B:=aj c.coefs) (by omega) ts 0 0 0 0 (by rw[et];exact di hw.fine) hvt (by rw[et];omega) (by rw[et];omega);rw[et,eS,hs0]at key;obtain⟨k1,_,k3⟩:=key;have hin:=cP (ac d c.vars c.coefs) 0 0 0 0 c.vars.length h.pos (by simp[ac];have:=hc.vl;omega) (DL _);unfold bU at hno hx;simp only at hno hx;by_cases hm2:1<(av 0 (ac d c.vars c.coefs) 0 0 0).1
    ·obtain⟨j,k,t,u,h1,h2,h3,h4,h5⟩:=t2 (by omega);exact h1 (hone j k (hmulti j t h2 h4) (hmulti k u h3 h5))
    ·rw[D2 hm2]at hno hx;by_cases hm0:(av 0 (ac d c.vars c.coefs) 0 0 0).1=0
     ·rw[D4 hm0,D4 (by have:=(k1 hm0).1;omega)]at hno;refine hno ((dL ?_ gd.some').2 Y);rw[gd.len];exact(hc.vin _ (aK (c:=c) h.pos)).2
     ·rw[D2 hm0]at hx;obtain⟨j,t,j1,j2,j3⟩:=t1 (by omega);obtain⟨j',t',i1,i2,i3⟩:=k3 (by omega);have ejj:j'=j:=(by omega);subst ejj;have hjq:=hmulti _ t j2 j3;have hj:j'<c.vars.length:=(by have:=(D5.1 hjq).1;omega);have ev:varAt c j'=q.1/\coefAt c j'=q.2:=by
       have h1:=(D5.1 hjq).2;have hjc:j'<c.coefs.length:=(by have:=hc.vl;omega);rw[Fw]at h1;rw[<-h1];exact⟨aL hj,aL hjc⟩
      have et':t'=((domAt d q.1,q.2),x):=by
       simp only[ts,DE,hjq,EG,D6]at i2;rw[<-i2,hg0x]
      rw[et']at i3;simp only[GJ]at i3;rw[j1,Ew,ev.1,ev.2]at hx;have hqv:=hc.vin _ (Dv hq).1;have hxd:=gd.few.fine _ (ah (v:=q.1) (by rw[gd.len];exact hqv.2));have e:domAt (d.set q.1.toNat (cX ((vals (domAt d q.1)).filter λv=>decide (wr ((av 0 (ac d c.vars c.coefs) 0 0 0).2.1+wr (q.2*v))≠c.rhs)))) q.1=cX ((vals (domAt d q.1)).filter λv=>decide (wr ((av 0 (ac d c.vars c.coefs) 0 0 0).2.1+wr (q.2*v))≠c.rhs)):=by
       unfold domAt;rw[D0,E6 (by rw[gd.len];exact hqv.2)];rfl
      rw[e,bJ (fJ (aF hxd.ok)),EH,DN]at hx;have b:=hxd.val _ hx0;have hk:=hc.ck _ (Dv hq).2;have m:=d3 q.2 x b.1 b.2;have hk2:=hk.2;have hrb: -c.rhs<=aG c.rhs/\c.rhs<=aG c.rhs:=(by unfold aG;omega);have hwk:=aV c.coefs;refine hx.2 ?_;simp only[wr];rw[af (n:=q.2*x) (by omega) (by omega),af (by omega) (by omega)];omega
   ·rintro⟨g,h3,h4,rfl⟩;have h4:=EL h4;rw[dX]at h4;exact(keep d gd g h3 h4).2 v hv
 ·refine DC λhne=> ?_;rw[dX]at hne;have:=(keep d gd g hg hne).1;unfold neO at he;rw[D2 this]at he;cases he
open Classical in
noncomputable def gS (c:Con)(d:aa):Option aa:=if h: ∃R:Option aa,∃N,LinAns d c R N then h.choose else none
theorem gR {d:aa}{c:Con}(h:SumOk d c): ∃N,LinAns d c (gS c d) N:=by
 obtain⟨R,N,N',h1,h2,h3⟩:=xM h;have hex: ∃R:Option aa,∃N,LinAns d c R N:=⟨R,N,h1⟩;unfold gS;rw[dif_pos hex];exact hex.choose_spec
theorem mR {vars coefs:List Int}(g:Int->Int)(h: ∀k∈coefs,CoefOk k):dB vars (aB coefs) g= -dB vars coefs g:=by
 unfold dB aB
 induction vars generalizing coefs with
 |nil=>simp
 |cons v vars ih=>
  cases coefs with
  |nil=>simp
  |cons k coefs=>
   have e:=(cZ (h k (.head _))).1;have:=ih λk hk=>h k (.tail _ hk);simp only[DZ,F5,Eb]at this⊢;rw[this,e,Ge];omega
theorem SumC.back {n:Nat}{vars coefs:List Int}{rhs:Int}(h:SumC n vars coefs rhs):SumC n vars (aB coefs) (wr (0-rhs)):=by
 have hb:=h.big;have hp:=aV coefs;refine⟨by rw[h.vl];simp[aB],h.vin,λk hk=> ?_,h.nod,?_,h.few⟩
 ·obtain⟨k0,hk0,rfl⟩:=DF.1 hk;exact(cZ (h.ck _ hk0)).2
 ·rw[dh _ h.ck,(nT (by omega)).2];exact hb
theorem lA {n:Nat}{c:Con}(h:LinC n c):StepOK n c.vars (λg=>dq c.op (dB c.vars c.coefs g) c.rhs=true) (gS c):=by
 have hc:=h.sum;have hopc:c.op=0∨c.op=1∨c.op=2:=(by have:=h.op;omega);rcases hopc with h0|h0|h0
 ·refine((n7 hc h.ne).congr λd gd=> ?_).iff λg=> ?_
  ·obtain⟨N,hN⟩:=gR (h.ok gd);unfold LinAns at hN;rw[D2 gd.some',D2 (by omega)]at hN;rw[Bw hc h0 gd hN];rfl
  ·unfold dq;rw[D4 h0,DN]
 ·have hE: ∀d,GoodD n d->ex leD (GoodD n) (pC c) [true,false] d (gS c d):=λd gd=>by
   obtain⟨N,hN⟩:=gR (h.ok gd);unfold LinAns at hN;rw[D2 gd.some',D2 (by omega)]at hN;exact yU hc hc.back h0 d N d _ (Come.refl (aY n) gd) hN
  refine(ex.step hE (P:=λb g=>if b=true then dB c.vars c.coefs g<=c.rhs else dB c.vars (aB c.coefs) g<=wr (0-c.rhs)) (us:=c.vars) (λb _=> ?_) hc.vin).iff λg=> ?_
  ·cases b;·exact(n7 hc.back h.ne).iff λg=>by simp
   ·exact(n7 hc h.ne).iff λg=>by simp
  ·have hb:=hc.big;have hp:=aV c.coefs;have e1:=(nT (rhs:=c.rhs) (by omega)).1;have e2:=mR (vars:=c.vars) g hc.ck;unfold dq;rw[D2 (by omega),h0];simp only[DO,Ga,or_false,forall_eq_or_imp,forall_eq,if_true,EF,if_false,e1,e2];simp;omega
 ·refine((CB h h0).step.congr λd gd=> ?_).iff λg=> ?_
  ·obtain⟨N,hN⟩:=gR (h.ok gd);have hw:bG c d:=hc.whole gd;unfold LinAns at hN;rw[D2 gd.some',D4 h0,fN hw h.pos]at hN;exact hN
  ·unfold dq;rw[D2 (by omega),h0,dX];simp
theorem AH {c:Con}(g:Int->Int)(hck: ∀k∈c.coefs,CoefOk k)(hop:0<=c.op/\c.op<=2)(hr:aG c.rhs<=4611686018427387904):dq (bP c).op (dB (bP c).vars (bP c).coefs g) (bP c).rhs= !dq c.op (dB c.vars c.coefs g) c.rhs:=by
 have har:aG c.rhs=max c.rhs (-c.rhs):=rfl;have hopc:c.op=0∨c.op=1∨c.op=2:=(by omega);rcases hopc with h0|h0|h0
 ·have en:bP c= { c with coefs:=aB c.coefs,rhs:=wr (wr (0-c.rhs)-1) }:=(by unfold bP;rw[D4 h0]);have e1:wr (0-c.rhs)= -c.rhs:=(by rw[wr,af (by omega) (by omega)];omega);have e2:wr (wr (0-c.rhs)-1)= -c.rhs-1:=(by rw[e1,wr,af (by omega) (by omega)]);rw[en];simp only[dq,h0,if_true,e2,mR g hck];by_cases hh:dB c.vars c.coefs g<=c.rhs;·rw[DD hh,DC (by omega)];rfl
  ·rw[DC hh,DD (by omega)];rfl
 ·have en:bP c= { c with op:=2 }:=(by unfold bP;rw[D2 (by omega),D4 h0]);rw[en];simp[dq,h0]
 ·have en:bP c= { c with op:=1 }:=(by unfold bP;rw[D2 (by omega),D2 (by omega),D4 h0]);rw[en];simp[dq,h0]
theorem mQ {a b:aa}{vars coefs:List Int}(h: ∀u∈vars,domAt a u=domAt b u):ac a vars coefs=ac b vars coefs:=
 EJ λp hp=>by rw[h _ (Dv hp).1]
theorem zf {n:Nat}{a b:aa}{vars coefs:List Int}{rhs:Int}(hc:SumC n vars coefs rhs)(ga:GoodD n a)(gb:GoodD n b)(h:leD a b):bi (ac b vars coefs)<=bi (ac a vars coefs)/\fV (ac a vars coefs)<=fV (ac b vars coefs):=by
 have low: ∀ks:List Int,bi (ac b vars ks)<=bi (ac a vars ks):=λks=>by
  rw[eZ,eZ];refine(eJ λp hp=> ?_).1;have hv:=hc.vin _ (Dv hp).1;have hm:domAt a p.1∈a:=ah (by rw[ga.len];exact hv.2);exact qH (ga.few.fine _ hm).ok (gb.few.fine _ (ah (by rw[gb.len];exact hv.2))).ok (λe=>ga.some' (e▸hm)) (λx hx=>h.2 p.1 x hv.1 hx) p.2
 have h2:=low (aB coefs);rw[oU hc.ck,oU hc.ck]at h2;exact⟨low coefs,by omega⟩
theorem xr {n:Nat}{a b:aa}{c:Con}(hc:LinC n c)(ga:GoodD n a)(gb:GoodD n b)(h:leD a b)(hs:soW (endsW b c.vars c.coefs) c=true):soW (endsW a c.vars c.coefs) c=true:=by
 obtain⟨h1,h2⟩:=zf hc.sum ga gb h;have hle:bi (ac a c.vars c.coefs)<=fV (ac a c.vars c.coefs):=(kL (di (hc.sum.whole ga).fine) (eW (hc.sum.whole ga))).2.1;rw[pu (hc.sum.whole gb)]at hs;rw[pu (hc.sum.whole ga)];unfold soW at hs⊢;simp only[GP,if_false]at hs⊢;split
 ·rename_i h0;rw[D4 h0]at hs;exact DD (by have:=EL hs;omega)
 ·rename_i h0;rw[D2 h0]at hs;split
  ·rename_i h3;rw[D4 h3]at hs;simp only[DJ,DN]at hs⊢;omega
  ·rename_i h3;rw[D2 h3]at hs;simp only[Ey,DN]at hs⊢;omega
theorem qO {n:Nat}{c:Con}(hc:LinC n c){d:aa}(gd:GoodD n d)(hs:soW (endsW d c.vars c.coefs) c=true):gS c d=some d:=by
 obtain⟨R,N,N',h1,h2,h3⟩:=xM (hc.ok gd);obtain⟨M,hM⟩:=gR (hc.ok gd);have e:=xL hM h1;rw[e];exact Av (hc.ok gd) gd.some' h1 h3 hs
noncomputable def oA (c:Con)(d:aa):Option aa:=if truthR (domAt d c.b)=true then tz d c (gS (bN c) d) (gS (bP (bN c)) d)else some d
theorem hI {x:List (Int×Int)}(h:aA x):truthR x=true↔∀v∈vals x,0<=v/\v<=1:=by
 constructor
 ·intro ht v hv;obtain⟨r,hr,h1,h2⟩:=aT.1 hv;have:=DI.1 ht r hr;simp at this;omega
 ·intro hv;refine DI.2 λr hr=> ?_;have h0:=h.1 r hr;have h1:=hv r.1 (aT.2 ⟨r,hr,EN _,h0⟩);have h2:=hv r.2 (aT.2 ⟨r,hr,h0,EN _⟩);simp;omega
theorem GoodD.at_ {n:Nat}{d:aa}(h:GoodD n d){v:Int}(hv:v.toNat<n):aA (domAt d v)/\domAt d v≠[]:=by
 have hm:domAt d v∈d:=ah (by rw[h.len];exact hv);exact⟨(h.few.fine _ hm).ok,λe=>h.some' (e▸hm)⟩
theorem nQ {d:aa}{b v:Int}{x:List (Int×Int)}(hb:0<=b)(hl:b.toNat<d.length)(hv:0<=v):domAt (d.set b.toNat x) v=if v=b then x else domAt d v:=by
 unfold domAt;rw[D0];split;·rename_i e;subst e;rw[E6 hl];rfl
 ·rename_i e;rw[Ds (by omega),<-D0]
theorem qg {d:aa}{b:Int}(hl:b.toNat<d.length):d.set b.toNat (domAt d b)=d:=by
 refine Ej λi=> ?_;by_cases e:b.toNat=i;·subst e;rw[E6 hl,aq hl]
 ·rw[Ds e]
theorem d5 {n:Nat}{d:aa}{b w:Int}(gd:GoodD n d)(hb:0<=b/\b.toNat<n){out:aa}(he:dE d b w=some out):GoodD n out/\leD out d/\(∀v,0<=v->v≠b->domAt out v=domAt d v)/\(∀x,x∈vals (domAt out b)↔x∈vals (domAt d b)/\x=w):=by
 have hbl:b.toNat<d.length:=(by rw[gd.len];exact hb.2);obtain⟨hok,hne⟩:=gd.at_ hb.2;unfold dE at he;split at he;·cases he
 ·rename_i hx;obtain rfl:=D3 he;obtain⟨c1,c2⟩:=bQ hok w w;generalize domCut (domAt d b) w w=x at*;have hsub:Sub (d.set b.toNat x) d:=kM λy hy v hv=>by
   rw[aq hbl]at hy;exact D3 hy▸((c2 v).1 hv).1
  have hfx:Fine x:=(gd.few.fine _ (ah hbl)).cut c1 λv hv=>((c2 v).1 hv).1;obtain⟨g1,g2⟩:=GoodD.of_sub gd hsub (il gd.few.fine hfx) (λhm=>hx ((dL hbl gd.some').1 hm));refine⟨g1,g2,λv h0 hv=>by rw[nQ hb.1 hbl h0,D2 hv],λy=> ?_⟩;rw[nQ hb.1 hbl hb.1,D4 Y,c2];constructor;·rintro⟨h1,h2,h3⟩;exact⟨h1,by omega⟩
  ·rintro⟨h1,rfl⟩;exact⟨h1,EN _,EN _⟩
theorem qR {n:Nat}{d:aa}{b w:Int}(gd:GoodD n d)(hb:0<=b/\b.toNat<n)(hw:w∈vals (domAt d b)): ∃out,dE d b w=some out:=by
 obtain⟨hok,hne⟩:=gd.at_ hb.2;unfold dE;rw[D2];·exact⟨_,rfl⟩
 ·intro e;have:=((bQ hok w w).2 w).2 ⟨hw,EN _,EN _⟩;rw[e]at this;cases this
theorem lD {n:Nat}{d:aa}{b w:Int}(gd:GoodD n d)(hb:0<=b/\b.toNat<n){out:aa}(he:dE d b w=some out):w∈vals (domAt d b):=by
 obtain⟨g1,g2,g3,g4⟩:=d5 gd hb he;obtain⟨x,hx⟩:=g1.ne hb.2;obtain⟨h1,rfl⟩:=(g4 x).1 hx;exact h1
theorem dP {n:Nat}{d:aa}{b w:Int}(gd:GoodD n d)(hb:0<=b/\b.toNat<n):dE d b w=some d↔vals (domAt d b)=[w]:=by
 obtain⟨hok,hne⟩:=gd.at_ hb.2;constructor
 ·intro he;obtain⟨g1,g2,g3,g4⟩:=d5 gd hb he;refine dG (aF hok) (Em _ _) λx=> ?_;rw[g4 x,DG];exact⟨λh=>h.2,λh=>⟨h▸lD gd hb he,h⟩⟩
 ·intro hv;obtain⟨out,ho⟩:=qR gd hb (w:=w) (by rw[hv];exact .head _);obtain⟨g1,g2,g3,g4⟩:=d5 gd hb ho;rw[ho];congr 1;refine jj g1 gd λv x h0=> ?_;by_cases e:v=b
  ·subst e;rw[g4 x,hv,DG];exact⟨λh=>h.1,λh=>⟨h,h⟩⟩
  ·rw[g3 v h0 e]
theorem dc {x:List (Int×Int)}{v:Int}:hasV x v=true↔v∈vals x:=by
 unfold hasV;rw[EZ,aT];simp
structure ReifC (n:Nat)(c:Con):Prop where
 yes:LinC n (bN c)
 no:LinC n (bP (bN c))
 b:0<=c.b/\c.b.toNat<n
 apart:c.b∉c.vars
 small:aG c.rhs<=4611686018427387904
theorem Ak (c:Con):(bP c).vars=c.vars:=by
 unfold bP;split;·rfl
 ·split;·rfl
  ·split<;>rfl
theorem zU {n:Nat}{c:Con}(h:ReifC n c){d:aa}(gd:GoodD n d)(hy:yesW d c=true)(hn:noW d c=true):False:=by
 have hdl:0<d.length:=(by rw[gd.len];have:=h.b;omega);obtain⟨a,ha⟩:=yg gd.few.fine gd.some' hdl;have h1:=oc (h.yes.ok gd).fine (by have:=h.yes.sum.big;have:=bE (bN c).rhs;omega) h.yes.op ha hy;have h2:=yK (h.yes.ok gd) ha hn;rw[h1]at h2;cases h2
theorem yu {n:Nat}{c:Con}(h:ReifC n c):StepOK n (c.vars++[c.b]) (λg=>(0<=g c.b/\g c.b<=1)->(dq c.op (dB c.vars c.coefs g) c.rhs=true/\g c.b=1)∨(dq c.op (dB c.vars c.coefs g) c.rhs=false/\g c.b=0)) (oA c):=by
 have sy:=lA h.yes;have sn:=lA h.no;have hvn:(bP (bN c)).vars=c.vars:=Ak (bN c);rw[hvn]at sn;have hb:=h.b;have tr: ∀d,GoodD n d->(truthR (domAt d c.b)=true↔∀v∈vals (domAt d c.b),0<=v/\v<=1):=λd gd=>hI (gd.at_ hb.2).1;have ym: ∀a b,GoodD n a->GoodD n b->leD a b->yesW b c=true->yesW a c=true:=λa b ga gb hle hy=>xr (c:=bN c) h.yes ga gb hle hy;have nm: ∀a b,GoodD n a->GoodD n b->leD a b->noW b c=true->noW a c=true:=λa b ga gb hle hy=>xr (c:=bP (bN c)) h.no ga gb hle hy;have yst: ∀a,GoodD n a->yesW a c=true->gS (bN c) a=some a:=λa ga hy=>qO (c:=bN c) h.yes ga hy;have nst: ∀a,GoodD n a->noW a c=true->gS (bP (bN c)) a=some a:=λa ga hy=>qO (c:=bP (bN c)) h.no ga hy;have hf: ∀d,GoodD n d->oA c d=if truthR (domAt d c.b)=true then(if yesW d c=true then dE d c.b 1 else if noW d c=true then dE d c.b 0 else if hasV (domAt d c.b) 0=false then gS (bN c) d else if hasV (domAt d c.b) 1=false then gS (bP (bN c)) d else some d)else some d:=λd gd=>by
  unfold oA tz;rw[D2 gd.some']
 have hin: ∀u∈c.vars++[c.b],0<=u/\u.toNat<n:=λu hu=>by
  rcases DT.1 hu with hu|hu;·exact sy.in' u hu
  ·rw[DG.1 hu];exact hb
 refine StepOK.congr (f:=λd=>if truthR (domAt d c.b)=true then(if yesW d c=true then dE d c.b 1 else if noW d c=true then dE d c.b 0 else if hasV (domAt d c.b) 0=false then gS (bN c) d else if hasV (domAt d c.b) 1=false then gS (bP (bN c)) d else some d)else some d) ⟨⟨λa a' ga he=> ?_,λa a' b ga gb hle he=> ?_⟩,λa b ga gb ha hab=> ?_,λa out ga he v h0 hv=> ?_,λe ge g he=> ?_,hin⟩ hf
 ·split at he
  ·split at he
   ·obtain⟨g1,g2,_⟩:=d5 ga hb he;exact⟨g1,g2⟩
   ·split at he
    ·obtain⟨g1,g2,_⟩:=d5 ga hb he;exact⟨g1,g2⟩
    ·split at he;·exact sy.takes.less a a' ga he
     ·split at he;·exact sn.takes.less a a' ga he
      ·obtain rfl:=D3 he;exact⟨ga,(aY n).refl a⟩
  ·obtain rfl:=D3 he;exact⟨ga,(aY n).refl a⟩
 ·
  have hless:leD a' a:=by
   split at he
   ·split at he;·exact(d5 ga hb he).2.1
    ·split at he;·exact(d5 ga hb he).2.1
     ·split at he;·exact(sy.takes.less a a' ga he).2
      ·split at he;·exact(sn.takes.less a a' ga he).2
       ·exact D3 he▸(aY n).refl a
   ·exact D3 he▸(aY n).refl a
  have stay: ∃b',some b=some b'/\leD a' b':=⟨b,rfl,(aY n).trans _ _ _ hless hle⟩;by_cases htb:truthR (domAt b c.b)=true
  ·have hta:truthR (domAt a c.b)=true:=(tr a ga).2 λv hv=>(tr b gb).1 htb v (hle.2 _ v hb.1 hv);rw[D4 hta]at he;rw[D4 htb];have kmono: ∀w,dE a c.b w=some a'->∃b',dE b c.b w=some b'/\leD a' b':=λw hk=>by
    obtain⟨g1,g2,g3,g4⟩:=d5 ga hb hk;obtain⟨b',hb'⟩:=qR gb hb (hle.2 _ w hb.1 (lD ga hb hk));obtain⟨k1,k2,k3,k4⟩:=d5 gb hb hb';refine⟨b',hb',by rw[g1.len,k1.len],λv x h0 hx=> ?_⟩;by_cases e:v=c.b
    ·subst e;obtain⟨h1,h2⟩:=(g4 x).1 hx;exact(k4 x).2 ⟨hle.2 _ x h0 h1,h2⟩
    ·rw[g3 v h0 e]at hx;rw[k3 v h0 e];exact hle.2 v x h0 hx
   by_cases hyb:yesW b c=true
   ·rw[D4 hyb];rw[D4 (ym a b ga gb hle hyb)]at he;exact kmono 1 he
   ·rw[D2 hyb];by_cases hnb:noW b c=true
    ·rw[D4 hnb];have hna:=nm a b ga gb hle hnb;rw[D2 (λhy=>zU h ga hy hna),D4 hna]at he;exact kmono 0 he
    ·rw[D2 hnb];by_cases h0b:hasV (domAt b c.b) 0=false
     ·rw[D4 h0b];have h0a:hasV (domAt a c.b) 0=false:=by
       cases hh:hasV (domAt a c.b) 0 with
       |false=>rfl
       |true=>rw[dc.2 (hle.2 _ 0 hb.1 (dc.1 hh))]at h0b;cases h0b
      have hle':a'=a∨gS (bN c) a=some a':=by
       by_cases hya:yesW a c=true
       ·rw[D4 hya]at he;refine .inl ?_;have hv:vals (domAt a c.b)=[1]:=by
         obtain⟨x,hx⟩:=ga.ne hb.2;have hone: ∀y∈vals (domAt a c.b),y=1:=λy hy=>by
          have h1:=(tr a ga).1 hta y hy;have h2:y≠0:=λe=>(by rw[e]at hy;rw[dc.2 hy]at h0a;cases h0a);omega
         exact dG (aF (ga.at_ hb.2).1) (Em _ _) λy=>⟨λhy=>DG.2 (hone y hy),λhy=>by rw[DG.1 hy,<-hone x hx];exact hx⟩
        rw[(dP ga hb).2 hv]at he;exact(D3 he).symm
       ·rw[D2 hya]at he;by_cases hna:noW a c=true
        ·rw[D4 hna]at he;have:=lD ga hb he;rw[dc.2 this]at h0a;cases h0a
        ·rw[D2 hna,D4 h0a]at he;exact .inr he
      rcases hle' with e|hl
      ·subst e;by_cases hya:yesW a' c=true;·exact sy.takes.mono a' a' b ga gb hle (yst a' ga hya)
       ·rw[D2 hya]at he;by_cases hna:noW a' c=true
        ·rw[D4 hna]at he;have:=lD ga hb he;rw[dc.2 this]at h0a;cases h0a
        ·rw[D2 hna,D4 h0a]at he;exact sy.takes.mono a' a' b ga gb hle he
      ·exact sy.takes.mono a a' b ga gb hle hl
     ·rw[D2 h0b];by_cases h1b:hasV (domAt b c.b) 1=false
      ·rw[D4 h1b];have h1a:hasV (domAt a c.b) 1=false:=by
        cases hh:hasV (domAt a c.b) 1 with
        |false=>rfl
        |true=>rw[dc.2 (hle.2 _ 1 hb.1 (dc.1 hh))]at h1b;cases h1b
       have hone: ∀y∈vals (domAt a c.b),y=0:=λy hy=>by
        have h1:=(tr a ga).1 hta y hy;have h2:y≠1:=λe=>(by rw[e]at hy;rw[dc.2 hy]at h1a;cases h1a);omega
       have hv:vals (domAt a c.b)=[0]:=by
        obtain⟨x,hx⟩:=ga.ne hb.2;exact dG (aF (ga.at_ hb.2).1) (Em _ _) λy=>⟨λhy=>DG.2 (hone y hy),λhy=>by rw[DG.1 hy,<-hone x hx];exact hx⟩
       have h0a: ¬hasV (domAt a c.b) 0=false:=λe=>by
        have:=dc (x:=domAt a c.b) (v:=0);rw[e,hv]at this;simp at this
       by_cases hya:yesW a c=true
       ·rw[D4 hya]at he;have:=lD ga hb he;rw[dc.2 this]at h1a;cases h1a
       ·rw[D2 hya]at he;by_cases hna:noW a c=true
        ·rw[D4 hna,(dP ga hb).2 hv]at he;obtain rfl:=D3 he;exact sn.takes.mono a a b ga gb hle (nst a ga hna)
        ·rw[D2 hna,D2 h0a,D4 h1a]at he;exact sn.takes.mono a a' b ga gb hle he
      ·rw[D2 h1b];exact stay
  ·rw[D2 htb];exact stay
 ·
  have hB:=hab c.b (Dq _ (.head _));have hV: ∀u∈c.vars,domAt a u=domAt b u:=λu hu=>hab u (Do _ hu);have ey:yesW b c=yesW a c:=(by unfold yesW endsW;rw[mQ hV]);have en:noW b c=noW a c:=(by unfold noW endsW;rw[hvn,mQ hV]);rw[ey,en,<-hB];split
  ·rename_i ht;rw[D4 ht]at ha;split
   ·rename_i hy;rw[D4 hy,dP ga hb]at ha;rw[dP gb hb,<-hB];exact ha
   ·rename_i hy;rw[D2 hy]at ha;split
    ·rename_i hn;rw[D4 hn,dP ga hb]at ha;rw[dP gb hb,<-hB];exact ha
    ·rename_i hn;rw[D2 hn]at ha;split
     ·rename_i h0;rw[D4 h0]at ha;exact sy.stays a b ga gb ha hV
     ·rename_i h0;rw[D2 h0]at ha;split
      ·rename_i h1;rw[D4 h1]at ha;exact sn.stays a b ga gb ha hV
      ·rfl
  ·rfl
 ·have hv1:v∉c.vars:=λhm=>hv (Do _ hm);have hv2:v≠c.b:=λe=>hv (Dq _ (e▸.head _));split at he
  ·split at he;·exact(d5 ga hb he).2.2.1 v h0 hv2
   ·split at he;·exact(d5 ga hb he).2.2.1 v h0 hv2
    ·split at he;·exact sy.off a out ga he v h0 hv1
     ·split at he;·exact sn.off a out ga he v h0 hv1
      ·obtain rfl:=D3 he;rfl
  ·obtain rfl:=D3 he;rfl
 ·
  have hB:=he c.b (Dq _ (.head _));have hV: ∀u∈c.vars,vals (domAt e u)=[g u]:=λu hu=>he u (Do _ hu);have py:=sy.point e ge g hV;have pn:=sn.point e ge g hV;have hhn:=AH (c:=bN c) g h.yes.sum.ck h.yes.op h.small;rw[hvn]at hhn;have htr:=tr e ge;rw[hB]at htr;simp only[DG,forall_eq]at htr;by_cases ht:truthR (domAt e c.b)=true
  ·have h01:=htr.1 ht;rw[D4 ht];have hsy:yesW e c=true->dq c.op (dB c.vars c.coefs g) c.rhs=true:=λhy=>(py.1 (yst e ge hy));have hsn:noW e c=true->dq c.op (dB c.vars c.coefs g) c.rhs=false:=λhn=>by
    have:=pn.1 (nst e ge hn);rw[hhn]at this;have:=ER _▸this;exact this
   have e0:hasV (domAt e c.b) 0=false↔g c.b=1:=by
    have:=dc (x:=domAt e c.b) (v:=0);rw[hB,DG]at this;rw[<-Gb,this];omega
   have e1:hasV (domAt e c.b) 1=false↔g c.b=0:=by
    have:=dc (x:=domAt e c.b) (v:=1);rw[hB,DG]at this;rw[<-Gb,this];omega
   by_cases hy:yesW e c=true
   ·rw[D4 hy,dP ge hb,hB,hsy hy];simp;omega
   ·rw[D2 hy];by_cases hn:noW e c=true
    ·rw[D4 hn,dP ge hb,hB,hsn hn];simp;omega
    ·rw[D2 hn];by_cases h1:g c.b=1
     ·rw[D4 (e0.2 h1),py];simp[h1];exact Y
     ·have h2:g c.b=0:=(by omega);rw[D2 (λhh=>h1 (e0.1 hh)),D4 (e1.2 h2),pn,hhn];simp[h2];exact Y
  ·rw[D2 ht];have: ¬(0<=g c.b/\g c.b<=1):=λhh=>ht (htr.2 hh);simp[this]
theorem StepOK.guard {n:Nat}{us:List Int}{P Q:(Int->Int)->Prop}{f:aa->Option aa}{C:aa->Bool}(h:StepOK n us P f)(hm: ∀a b,GoodD n a->GoodD n b->leD a b->C b=true->C a=true)
  (hl: ∀a b,GoodD n a->GoodD n b->(∀u∈us,domAt a u=domAt b u)->C a=C b) (hp: ∀e,GoodD n e->∀g:Int->Int,(∀u∈us,vals (domAt e u)=[g u])->(C e=true↔Q g)):StepOK n us (λg=>Q g->P g) (λd=>if C d=true then f d else some d):=by
 refine⟨⟨λa a' ga he=> ?_,λa a' b ga gb hle he=> ?_⟩,λa b ga gb ha hab=> ?_,λa out ga he v h0 hv=> ?_,λe ge g he=> ?_,h.in'⟩
 ·split at he;·exact h.takes.less a a' ga he
  ·obtain rfl:=D3 he;exact⟨ga,(aY n).refl a⟩
 ·by_cases hc:C b=true
  ·rw[D4 (hm a b ga gb hle hc)]at he;rw[D4 hc];exact h.takes.mono a a' b ga gb hle he
  ·rw[D2 hc];refine⟨b,rfl,(aY n).trans _ _ _ ?_ hle⟩;split at he;·exact(h.takes.less a a' ga he).2
   ·exact D3 he▸(aY n).refl a
 ·rw[<-hl a b ga gb hab];split
  ·rename_i hc;rw[D4 hc]at ha;exact h.stays a b ga gb ha hab
  ·rfl
 ·split at he;·exact h.off a out ga he v h0 hv
  ·obtain rfl:=D3 he;rfl
 ·have hq:=hp e ge g he;by_cases hc:C e=true
  ·rw[D4 hc,h.point e ge g he];exact⟨λh _=>h,λh=>h (hq.1 hc)⟩
  ·rw[D2 hc];exact⟨λ_ h=>DU (hq.2 h) hc,λ_=>rfl⟩
def pO (a b:Int)(d:aa):Option aa:=
 if a=b then some d else
 if domCut (domAt d a) (-1048576) (aN (domAt d b))=[]∨domCut (domAt d b) (az (domAt d a)) 1048576=[]then none else
 some ((d.set a.toNat (domCut (domAt d a) (-1048576) (aN (domAt d b)))).set b.toNat (domCut (domAt d b) (az (domAt d a)) 1048576))
theorem BG {n:Nat}{us:List Int}{P:(Int->Int)->Prop}(hp: ∀g,P g)(hin: ∀u∈us,0<=u/\u.toNat<n):StepOK n us P some:=
 ⟨⟨λa a' ga he=>by obtain rfl:=D3 he;exact⟨ga,(aY n).refl a⟩,λa a' b ga gb hle he=>by obtain rfl:=D3 he;exact⟨b,rfl,hle⟩⟩,λ_ _ _ _ _ _=>rfl,λa out ga he v _ _=>by obtain rfl:=D3 he;rfl,λ_ _ g _=>⟨λ_=>hp g,λ_=>rfl⟩,hin⟩
theorem CF {n:Nat}{a b:Int}(hab:a≠b)(ha:0<=a/\a.toNat<n)(hb:0<=b/\b.toNat<n):SuppS n [a,b] (λl=>decide (l.getD 0 0<=l.getD 1 0)) (pO a b):=by
 have two: ∀g:Int->Int,(decide ((([a,b]:List Int).map g).getD 0 0<=(([a,b]:List Int).map g).getD 1 0)=true)↔g a<=g b:=λg=>(by simp);have ends: ∀d,GoodD n d->∀v:Int,0<=v/\v.toNat<n->aA (domAt d v)/\az (domAt d v)∈vals (domAt d v)/\aN (domAt d v)∈vals (domAt d v)/\∀x∈vals (domAt d v),-1048576<=x/\x<=1048576/\az (domAt d v)<=x/\x<=aN (domAt d v):=λd gd v hv=>by
  obtain⟨h1,h2⟩:=gd.at_ hv.2;have h3:=(gd.few.fine _ (ah (v:=v) (by rw[gd.len];exact hv.2))).val;exact⟨h1,fH h1 h2,o6 h1 h2,λx hx=>⟨(h3 x hx).1,(h3 x hx).2,o5 h1 hx,nM h1 hx⟩⟩
 have pick: ∀(P:Int->Prop) (x y:Int),∃g:Int->Int,g a=x/\g b=y:=λ_ x y=>⟨λu=>if u=a then x else y,D4 Y,D2 (Ne.symm hab)⟩;have hin: ∀u∈[a,b],0<=u/\u.toNat<n:=λu hu=>by
  rcases DO.1 hu with rfl|hu;·exact ha
  ·rw[DG.1 hu];exact hb
 refine⟨λd out gd he=> ?_,λd gd he g hg=> ?_,hin,by simp⟩
 ·obtain⟨oa,la,ma,va⟩:=ends d gd a ha;obtain⟨ob,lb,mb,vb⟩:=ends d gd b hb;have hal:a.toNat<d.length:=(by rw[gd.len];exact ha.2);have hbl:b.toNat<d.length:=(by rw[gd.len];exact hb.2);unfold pO at he;rw[D2 hab]at he;split at he;·cases he
  ·rename_i hne;obtain rfl:=D3 he;obtain⟨x1,x2⟩:=bQ oa (-1048576) (aN (domAt d b));obtain⟨y1,y2⟩:=bQ ob (az (domAt d a)) 1048576;generalize domCut (domAt d a) (-1048576) (aN (domAt d b))=x at*;generalize domCut (domAt d b) (az (domAt d a)) 1048576=y at*;have hd1: ∀v,0<=v->domAt ((d.set a.toNat x).set b.toNat y) v=if v=b then y else if v=a then x else domAt d v:=λv h0=>by
    rw[nQ hb.1 (by rw[E7];exact hbl) h0];split;·rfl
    ·rw[nQ ha.1 hal h0]
   have s1:Sub (d.set a.toNat x) d:=kM λz hz v hv=>by
    rw[aq hal]at hz;exact D3 hz▸((x2 v).1 hv).1
   have s2:Sub ((d.set a.toNat x).set b.toNat y) (d.set a.toNat x):=kM λz hz v hv=>by
    rw[Ds (by omega),aq hbl]at hz;exact D3 hz▸((y2 v).1 hv).1
   have fx:Fine x:=(gd.few.fine _ (ah hal)).cut x1 λv hv=>((x2 v).1 hv).1;have fy:Fine y:=(gd.few.fine _ (ah hbl)).cut y1 λv hv=>((y2 v).1 hv).1;have hno: []∉(d.set a.toNat x).set b.toNat y:=λhm=>by
    have h1: []∉d.set a.toNat x:=λhm=>hne (.inl ((dL hal gd.some').1 hm));exact hne (.inr ((dL (by rw[E7];exact hbl) h1).1 hm))
   refine⟨(GoodD.of_sub gd (Sub.trans s2 s1) (il (il gd.few.fine fx) fy) hno).1,λv hv z=> ?_,λv h0 hv=> ?_⟩
   ·rcases DO.1 hv with rfl|hv
    ·rw[hd1 v ha.1,D2 hab,D4 Y,x2];constructor
     ·rintro⟨h1,_,h2⟩;obtain⟨g,g1,g2⟩:=pick (λ_=>True) z (aN (domAt d b));refine⟨g,λu hu=> ?_,(two g).2 (by omega),g1⟩;rcases DO.1 hu with rfl|hu;·rw[g1];exact h1
      ·rw[DG.1 hu,g2];exact mb
     ·rintro⟨g,g1,g2,rfl⟩;have g2:=(two g).1 g2;have h1:=g1 v (.head _);have h2:=g1 b (.tail _ (.head _));exact⟨h1,(va _ h1).1,by have:=vb _ h2;omega⟩
    ·obtain rfl:=DG.1 hv;rw[hd1 v hb.1,D4 Y,y2];constructor
     ·rintro⟨h1,h2,_⟩;obtain⟨g,g1,g2⟩:=pick (λ_=>True) (az (domAt d a)) z;refine⟨g,λu hu=> ?_,(two g).2 (by omega),g2⟩;rcases DO.1 hu with rfl|hu;·rw[g1];exact la
      ·rw[DG.1 hu,g2];exact h1
     ·rintro⟨g,g1,g2,rfl⟩;have g2:=(two g).1 g2;have h1:=g1 a (.head _);have h2:=g1 v (.tail _ (.head _));exact⟨h2,by have:=va _ h1;omega,(vb _ h2).2.1⟩
   ·have n1:v≠b:=λe=>hv (by rw[e];exact .tail _ (.head _));have n2:v≠a:=λe=>hv (by rw[e];exact .head _);rw[hd1 v h0,D2 n1,D2 n2]
 ·refine DC λhle=> ?_;have hle:=(two g).1 (DD hle);have h1:=hg a (.head _);have h2:=hg b (.tail _ (.head _));obtain⟨oa,la,ma,va⟩:=ends d gd a ha;obtain⟨ob,lb,mb,vb⟩:=ends d gd b hb;have v1:=va _ h1;have v2:=vb _ h2;have e1:=((bQ oa (-1048576) (aN (domAt d b))).2 (g a)).2 ⟨h1,by omega,by omega⟩;have e2:=((bQ ob (az (domAt d a)) 1048576).2 (g b)).2 ⟨h2,by omega,by omega⟩;unfold pO at he;rw[D2 hab]at he;split at he
  ·rename_i hh;rcases hh with hh|hh;·rw[hh]at e1;cases e1
   ·rw[hh]at e2;cases e2
  ·cases he
theorem rp {n:Nat}{a b:Int}(ha:0<=a/\a.toNat<n)(hb:0<=b/\b.toNat<n):StepOK n [a,b] (λg=>g a<=g b) (pO a b):=by
 by_cases hab:a=b
 ·refine StepOK.congr (BG (λg=>by rw[hab];exact EN _) λu hu=> ?_) λd _=>(by unfold pO;rw[D4 hab]);rcases DO.1 hu with rfl|hu;·exact ha
  ·rw[DG.1 hu];exact hb
 ·exact(CF hab ha hb).step.iff λg=>by simp
def mI (c:Con)(k:Nat)(d:aa):Bool:=(List.range k).all (dY d c)
def uY (c:Con)(k:Nat)(d:aa):Option aa:=if mI c k d=true then pO (varAt c k) (varAt c (halfOf c+k)) d else some d
structure LexC (n:Nat)(c:Con):Prop where
 vin: ∀v∈c.vars,0<=v/\v.toNat<n
theorem ja {n:Nat}{c:Con}(h:LexC n c){d:aa}(gd:GoodD n d){j:Nat}(hj:j<halfOf c):dY d c j=true↔varAt c j=varAt c (halfOf c+j)∨∃x,vals (domAt d (varAt c j))=[x]/\vals (domAt d (varAt c (halfOf c+j)))=[x]:=by
 have hh:=jC c;have o1:=gd.at_ (h.vin _ (aK (c:=c) (k:=j) (by omega))).2;have o2:=gd.at_ (h.vin _ (aK (c:=c) (k:=halfOf c+j) (by omega))).2;unfold dY;rw[wG o1.1 o2.1];refine or_congr_right ⟨?_,?_⟩
 ·rintro⟨h1,h2⟩;obtain⟨x,hx⟩:=Fa.1 h1;exact⟨x,hx,by rw[<-h2,hx]⟩
 ·rintro⟨x,h1,h2⟩;exact⟨by rw[h1];rfl,iC o1.1 o2.1 (by rw[h1,h2])⟩
theorem ro {n:Nat}{c:Con}(h:LexC n c){k:Nat}(hk:k<halfOf c):StepOK n c.vars (λg=>(∀j,j<k->g (varAt c j)=g (varAt c (halfOf c+j)))->g (varAt c k)<=g (varAt c (halfOf c+k))) (uY c k):=by
 have hh:=jC c;have m1: ∀j,j<halfOf c->varAt c j∈c.vars/\varAt c (halfOf c+j)∈c.vars:=λj hj=>⟨aK (by omega),aK (by omega)⟩;obtain⟨ha,hb⟩:=m1 k hk;refine StepOK.guard (C:=mI c k) ((rp (h.vin _ ha) (h.vin _ hb)).wide (λu hu=> ?_) h.vin) (λa b ga gb hle hc=> ?_) (λa b ga gb hab=> ?_) (λe ge g he=> ?_)
 ·rcases DO.1 hu with rfl|hu;·exact ha
  ·rw[DG.1 hu];exact hb
 ·refine DI.2 λj hj=> ?_;have hj':=DM.1 hj;have hjh:j<halfOf c:=(by omega);obtain⟨v1,v2⟩:=m1 j hjh;have:=(ja h gb hjh).1 (DI.1 hc j hj);refine(ja h ga hjh).2 (this.imp id ?_);rintro⟨x,h1,h2⟩;have key: ∀v∈c.vars,vals (domAt b v)=[x]->vals (domAt a v)=[x]:=λv hv e=>by
   have hn:=h.vin v hv;obtain⟨y,hy⟩:=ga.ne hn.2;have hsub: ∀z∈vals (domAt a v),z=x:=λz hz=>by
    have:=hle.2 v z hn.1 hz;rw[e]at this;exact DG.1 this
   exact dG (aF (ga.at_ hn.2).1) (Em _ _) λz=>⟨λhz=>DG.2 (hsub z hz),λhz=>by rw[DG.1 hz,<-hsub y hy];exact hy⟩
  exact⟨x,key _ v1 h1,key _ v2 h2⟩
 ·unfold mI;rw[FD,DI,DI];refine forall_congr' λj=>imp_congr_right λhj=> ?_;have hj':=DM.1 hj;obtain⟨v1,v2⟩:=m1 j (by omega);unfold dY;rw[hab _ v1,hab _ v2]
 ·unfold mI;rw[DI];refine forall_congr' λj=> ?_;rw[DM];refine imp_congr_right λhj=> ?_;obtain⟨v1,v2⟩:=m1 j (by omega);rw[ja h ge (by omega),he _ v1,he _ v2];constructor
  ·rintro(e|⟨x,h1,h2⟩);·rw[e]
   ·rw[(List.cons.inj h1).1,(List.cons.inj h2).1]
  ·exact λe=> .inr ⟨_,rfl,by rw[e]⟩
theorem Ax {n:Nat}{c:Con}(h:LexC n c)(d0:aa): ∀(N:Nat) (d:aa) (R:Option aa),Come leD (GoodD n) (uY c) (List.range (halfOf c)) d0 d->cH (dK c) N d=some R->ex leD (GoodD n) (uY c) (List.range (halfOf c)) d0 R:=by
 intro N
 induction N using Nat.strongRecOn with
 |_ N ih=>
  intro d R hd hR;have hh:=jC c;have known: ∀k,k<halfOf c->dY d c k=true->pO (varAt c k) (varAt c (halfOf c+k)) d=some d:=λk hk hp=>by
   have v1:=h.vin _ (aK (c:=c) (k:=k) (by omega));have v2:=h.vin _ (aK (c:=c) (k:=halfOf c+k) (by omega));rcases (ja h hd.fine hk).1 hp with e|⟨x,h1,h2⟩;·unfold pO;rw[D4 e]
   ·refine((rp v1 v2).point d hd.fine (λ_=>x) λu hu=> ?_).2 (EN _);rcases DO.1 hu with rfl|hu;·exact h1
    ·rw[DG.1 hu];exact h2
  have stay: ∀k,k<halfOf c->dY d c k=true->uY c k d=some d:=λk hk hp=>by
   unfold uY;rw[known k hk hp,ite_self]
  by_cases hk:placeO d c=halfOf c
  ·have hst:dK c d= .inl (some d):=(by unfold dK;rw[D4 hk]);obtain rfl:=bf hR hst;refine⟨hd,λk hk2=> ?_⟩;have hk2:=DM.1 hk2;exact stay k hk2 (jS (p:=dY d c) (h:=halfOf c) (j:=k) (by unfold placeO at hk;omega))
  ·have hkl:placeO d c<halfOf c:=(by have:=mg (dY d c) (halfOf c);unfold placeO at hk⊢;omega);have hn:dY d c (placeO d c)=false:=mY hkl;have hbf: ∀j,j<placeO d c->dY d c j=true:=λj hj=>jS hj;have hst:dK c d=(if domCut (domAt d (varAt c (placeO d c))) (-1048576) (aN (domAt d (varAt c (halfOf c+placeO d c))))=[]∨domCut (domAt d (varAt c (halfOf c+placeO d c))) (az (domAt d (varAt c (placeO d c)))) 1048576=[]then .inl none else
    if domCut (domAt d (varAt c (placeO d c))) (-1048576) (aN (domAt d (varAt c (halfOf c+placeO d c))))=domAt d (varAt c (placeO d c))/\domCut (domAt d (varAt c (halfOf c+placeO d c))) (az (domAt d (varAt c (placeO d c)))) 1048576=domAt d (varAt c (halfOf c+placeO d c))then .inl (some d)else
    .inr ((d.set (varAt c (placeO d c)).toNat (domCut (domAt d (varAt c (placeO d c))) (-1048576) (aN (domAt d (varAt c (halfOf c+placeO d c)))))).set (varAt c (halfOf c+placeO d c)).toNat (domCut (domAt d (varAt c (halfOf c+placeO d c))) (az (domAt d (varAt c (placeO d c)))) 1048576))):=by
    unfold dK;rw[D2 hk]
   generalize placeO d c=k at*;have v1:=h.vin _ (aK (c:=c) (k:=k) (by omega));have v2:=h.vin _ (aK (c:=c) (k:=halfOf c+k) (by omega));have hab:varAt c k≠varAt c (halfOf c+k):=λe=>by
    rw[(ja h hd.fine hkl).2 (.inl e)]at hn;cases hn
   have hah:mI c k d=true:=DI.2 λj hj=>hbf j (DM.1 hj);have hcut:uY c k d=pO (varAt c k) (varAt c (halfOf c+k)) d:=D4 hah;have htk:=(ro h hkl).takes;unfold pO at hcut;rw[D2 hab]at hcut;by_cases e1:domCut (domAt d (varAt c k)) (-1048576) (aN (domAt d (varAt c (halfOf c+k))))=[]∨domCut (domAt d (varAt c (halfOf c+k))) (az (domAt d (varAt c k))) 1048576=[]
   ·rw[D4 e1]at hst hcut;obtain rfl:=bf hR hst;exact hd.none (c:=k) (DM.2 hkl) htk hcut
   ·rw[D2 e1]at hst hcut;by_cases e2:domCut (domAt d (varAt c k)) (-1048576) (aN (domAt d (varAt c (halfOf c+k))))=domAt d (varAt c k)/\domCut (domAt d (varAt c (halfOf c+k))) (az (domAt d (varAt c k))) 1048576=domAt d (varAt c (halfOf c+k))
    ·rw[D4 e2]at hst;obtain rfl:=bf hR hst;refine⟨hd,λj hj=> ?_⟩;have hj:=DM.1 hj;by_cases hjk:j<k;·exact stay j hj (hbf j hjk)
     ·by_cases e:j=k
      ·subst e;rw[hcut,e2.1,e2.2,qg (by rw[hd.fine.len];exact v1.2),qg (by rw[hd.fine.len];exact v2.2)]
      ·have:mI c j d=false:=by
        rw[<-Gb];intro ht;have:=DI.1 ht k (DM.2 (by omega));rw[hn]at this;cases this
       unfold uY;rw[this];rfl
    ·rw[D2 e2]at hst;obtain⟨m,hm,hR2⟩:=gU hR hst;exact ih m hm _ R (hd.step (aY n) (c:=k) (DM.2 hkl) htk hcut) hR2
open Classical in
noncomputable def wE (c:Con)(d:aa):Option aa:=if h: ∃R:Option aa,∃N,cH (dK c) N d=some R then h.choose else none
theorem un {c:Con}{d:aa}{R:Option aa}{N:Nat}(h:cH (dK c) N d=some R):R=wE c d:=by
 have hex: ∃R:Option aa,∃N,cH (dK c) N d=some R:=⟨R,N,h⟩;obtain⟨M,hM⟩:=hex.choose_spec;unfold wE;rw[dif_pos hex];exact o9 h hM
theorem tP: ∀(xs ys:List Int),xs.length=ys.length->(dz xs ys<=0↔∀k,k<xs.length->(∀j,j<k->xs.getD j 0=ys.getD j 0)->xs.getD k 0<=ys.getD k 0)
 | [],[],_=>by simp[dz]
 | [],_::_,h=>by simp at h
 |_::_,[],h=>by simp at h
 |x::xs,y::ys,h=>by
  rw[dz];have ih:=tP xs ys (by simpa using h);by_cases h1:x<y
  ·rw[D4 h1];refine⟨λ_ k hk he=> ?_,λ_=>by omega⟩;cases k with
   |zero=>simp;omega
   |succ k=>have:=he 0 (by omega);simp at this;omega
  ·rw[D2 h1];by_cases h2:y<x
   ·rw[D4 (by omega)];refine⟨λh=>by omega,λhh=> ?_⟩;have:=hh 0 (by simp) (λj hj=>by omega);simp at this;omega
   ·rw[D2 (by omega)];have e:x=y:=(by omega);subst e;rw[ih];constructor
    ·intro hh k hk he;cases k with
     |zero=>simp
     |succ k=>
      have:=hh k (by simpa using hk) λj hj=>(by simpa using he (j+1) (by omega));simpa using this
    ·intro hh k hk he;have:=hh (k+1) (by simpa using hk) λj hj=>by
      cases j with
      |zero=>simp
      |succ j=>simpa using he j (by omega)
     simpa using this
theorem Aw {n:Nat}{c:Con}(h:LexC n c)(hl:c.vars.length*8<=140737488355328)(heven:c.vars.length % 2=0):StepOK n c.vars (λg=>dz ((c.vars.map g).take (c.vars.length / 2)) ((c.vars.map g).drop (c.vars.length / 2))<=0) (wE c):=by
 have hE: ∀d,GoodD n d->ex leD (GoodD n) (uY c) (List.range (halfOf c)) d (wE c d):=λd gd=>by
  obtain⟨R,N,h1,_⟩:=qn (c:=c) (d:=d) ⟨hl,λv hv=>by rw[gd.len];exact h.vin v hv⟩ gd.few.fine;rw[D2 gd.some']at h1;rw[<-un h1];exact Ax h d N d R (Come.refl (aY n) gd) h1
 refine(ex.step hE (λk hk=>ro h (DM.1 hk)) h.vin).iff λg=> ?_;have hh:c.vars.length=halfOf c+halfOf c:=(by unfold halfOf;omega);have e:c.vars.length / 2=halfOf c:=rfl;have x1:((c.vars.map g).take (halfOf c)).length=halfOf c:=(by simp;omega);have y1:((c.vars.map g).drop (halfOf c)).length=halfOf c:=(by simp;omega);have x2: ∀k,k<halfOf c->((c.vars.map g).take (halfOf c)).getD k 0=g (varAt c k):=λk hk=>by
  unfold varAt;rw[D0,D0,Ek,D4 hk,DE,D1 (by omega)];rfl
 have y2: ∀k,k<halfOf c->((c.vars.map g).drop (halfOf c)).getD k 0=g (varAt c (halfOf c+k)):=λk hk=>by
  unfold varAt;rw[D0,D0,Ff,DE,D1 (by omega)];rfl
 rw[e,tP _ _ (by rw[x1,y1]),x1];constructor
 ·intro hp k hk he;rw[x2 k hk,y2 k hk];exact hp k (DM.2 hk) λj hj=>by
   have:=he j hj;rwa[x2 j (by omega),y2 j (by omega)]at this
 ·intro hp k hk he;have hk:=DM.1 hk;have:=hp k hk λj hj=>(by rw[x2 j (by omega),y2 j (by omega)];exact he j hj);rwa[x2 k hk,y2 k hk]at this
theorem FewD.smallD {d:aa}(h:FewD d):jo d:=⟨h.small,λx hx=>by have:=(h.fine x hx).len;omega⟩
theorem j4.few {d:aa}(h:FewD d){vars:List Int}(hv:j4 d vars):vars.length*24<=140737488355328:=by
 have:vars.length<=d.length:=by
  have h1:(vars.map Int.toNat).Nodup:=fF hv.1 λx hx y hy e=>by
   have:=(hv.2 x hx).1;have:=(hv.2 y hy).1;omega
  have h2:=mj h1 (b:=List.range d.length) λk hk=>by
   obtain⟨v,hv2,rfl⟩:=DF.1 hk;exact DM.2 (hv.2 v hv2).2
  simpa using h2
 have:=h.small;omega
theorem vu (d:aa)(vars:List Int)(h:FewD d)(hv:j4 d vars)(hne:vars≠[]):Spec Tryz.prog 133 false [aJ d,.agg (cC (BO vars))] (aX (ig d vars)):=by
 have:=s4 d (BO vars) h.smallD h.valD.inb h.valD.len hv.2 (hv.few h);rw[show(BO vars).vars=vars from Y,zY h hv hne]at this;exact this
theorem AL {a b:Int}(h:a<=b)(h1: -1048576<=a)(h2:b<=1048576):Fine [(a,b)]:=by
 have hv:vals [(a,b)]=rng a b:=by
  show rng a b++[]=_;rw[Ex]
 refine⟨⟨λr hr=> ?_,by simp⟩,?_,?_⟩;·obtain rfl:=DG.1 hr;exact h
 ·rw[hv];intro v hm;have:=cF.1 hm;omega
 ·rw[hv];simp[rng];omega
def kg (n:Nat)(g:Int->Int):List Int:=(List.range n).map λj:Nat=>g (j:Int)
theorem A3 (n:Nat)(g:Int->Int):(kg n g).length=n:=by simp[kg]
theorem l4 {n:Nat}{g:Int->Int}{v:Int}(h:0<=v/\v.toNat<n):atR (kg n g) v=g v:=by
 unfold atR kg;rw[D2 (by omega),D0,DE,Ep h.2];show g ((v.toNat:Nat):Int)=g v;congr 1;omega
theorem zE {n:Nat}{a:List Int}(h:a.length=n):kg n (atR a)=a:=by
 subst h;refine FU (A3 _ _) λi h1 h2=> ?_;simp only[kg,FV,List.getElem_range];unfold atR;rw[D2 (by omega)];simp[D0,h2]
theorem rR {vars a b:List Int}(h: ∀u∈vars,atR a u=atR b u):pickedR vars a=pickedR vars b:=EJ h
theorem vD {vars coefs a b:List Int}(h: ∀u∈vars,atR a u=atR b u):sumW vars coefs a=sumW vars coefs b:=by
 unfold sumW;have: ∀(l:List (Int×Int)) (n:Int),(∀p∈l,atR a p.1=atR b p.1)->l.foldl (λn p=>IntKind.i64.wrap (n+IntKind.i64.wrap (p.2*atR a p.1))) n=l.foldl (λn p=>IntKind.i64.wrap (n+IntKind.i64.wrap (p.2*atR b p.1))) n:=by
  intro l
  induction l with
  |nil=>intro n _;rfl
  |cons p l ih=>
   intro n hp;rw[Dn,Dn,hp p (.head _)];exact ih _ λq hq=>hp q (.tail _ hq)
 exact this _ _ λp hp=>h _ (Dv hp).1
theorem uses_mem {c:Con}{u:Int}:u∈usesR c↔u∈c.vars∨c.kind=4/\u=c.b:=by
 unfold usesR;rw[bK];split;·rename_i h;simp[h]
 ·rename_i h;simp[h]
theorem uH {c:Con}{a b:List Int}(h: ∀u∈usesR c,atR a u=atR b u):holdsR c a=holdsR c b:=by
 have hv: ∀u∈c.vars,atR a u=atR b u:=λu hu=>h u (uses_mem.2 (.inl hu));have e1:=rR hv;have e2:soR c a=soR c b:=(by unfold soR;rw[vD hv]);unfold holdsR holds6;rw[e1,e2];by_cases hk:c.kind=4;·rw[h c.b (uses_mem.2 (.inr ⟨hk,rfl⟩))]
 ·simp only[D2 hk]
theorem vE {vars coefs a:List Int}{g:Int->Int}(hl:vars.length=coefs.length)(hck: ∀k∈coefs,CoefOk k)(hw:aj coefs<=4611686018427388928)(ha: ∀u∈vars,atR a u=g u)(hb: ∀u∈vars,-1048576<=g u/\g u<=1048576):sumW vars coefs a=dB vars coefs g:=by
 have key: ∀(l:List (Int×Int)) (n:Int),(∀p∈l,atR a p.1=g p.1/\(-1048576<=g p.1/\g p.1<=1048576)/\CoefOk p.2)->-4611686018427388928<=n-aj (l.map (·.2))->n+aj (l.map (·.2))<=4611686018427388928->
   l.foldl (λn p=>IntKind.i64.wrap (n+IntKind.i64.wrap (p.2*atR a p.1))) n=n+(l.map λp=>p.2*g p.1).sum:=by
  intro l
  induction l with
  |nil=>intro n _ _ _;simp
  |cons p l ih=>
   intro n hp h1 h2;obtain⟨e,b,hk⟩:=hp p (.head _);have m:=d3 p.2 (g p.1) b.1 b.2;have hk2:=hk.2;have hpos:=aV (l.map (·.2));have ew:aj ((p::l).map (·.2))=aG p.2*1048576+aj (l.map (·.2)):=(by simp[aj]);rw[ew]at h1 h2;have hab:=bE p.2;rw[Dn,e,af (n:=p.2*g p.1) (by omega) (by omega),af (by omega) (by omega),ih _ (λq hq=>hp q (.tail _ hq)) (by omega) (by omega)];simp only[DZ,Eb];omega
 have e:(vars.zip coefs).map (·.2)=coefs:=List.map_snd_zip (by omega);have hp:=aV coefs;unfold sumW dB;rw[key _ 0 (λp hp=>⟨ha _ (Dv hp).1,hb _ (Dv hp).1,hck _ (Dv hp).2⟩) (by rw[e];omega) (by rw[e];omega),GJ]
theorem StepOK.iff' {n:Nat}{us:List Int}{P Q:(Int->Int)->Prop}{f:aa->Option aa}(h:StepOK n us P f)(hq: ∀g:Int->Int,(∀u∈us,-1048576<=g u/\g u<=1048576)->(P g↔Q g)):StepOK n us Q f:=by
 refine⟨h.takes,h.stays,h.off,λe ge g he=>(h.point e ge g he).trans (hq g λu hu=> ?_),h.in'⟩;have hm:domAt e u∈e:=ah (by rw[ge.len];exact(h.in' u hu).2);exact(ge.few.fine _ hm).val _ (by rw[he u hu];exact .head _)
theorem nodup_full: ∀(l s:List Int),s.Nodup->(∀x∈s,x∈l)->l.length<=s.length->l.Nodup
 | [],_,_,_,_=> .nil
 |x::l,s,hs,hm,hl=>by
  have hx:x∉l:=λhx=>by
   have:=hs.length_le_of_subset (l₂:=l) λy hy=>by
    rcases DO.1 (hm y hy)with rfl|h;·exact hx
    ·exact h
   simp at hl;omega
  have h2: ∀y∈s.erase x,y∈l:=λy hy=>by
   have:=(hs.mem_erase_iff).1 hy;exact(DO.1 (hm y this.2)).resolve_left this.1
  have h3:=List.length_erase_le (l:=s) (a:=x);have h4:s.length-1<=(s.erase x).length:=by
   rw[List.length_erase];split<;>omega
  exact ED.2 ⟨hx,nodup_full l (s.erase x) (hs.erase x) h2 (by simp at hl;omega)⟩
theorem qb {l:List Int}:(aW l).length=l.length↔l.Nodup:=by
 constructor
 ·intro h;exact nodup_full l (aW l) (dA (b9 l)) (λx hx=>(bK x l).1 hx) (by omega)
 ·intro h;have h1:=(dA (b9 l)).length_le_of_subset (l₂:=l) λx hx=>(bK x l).1 hx;have h2:=h.length_le_of_subset (l₂:=aW l) λx hx=>(bK x l).2 hx;omega
noncomputable def bL (c:Con)(d:aa):Option aa:=
 if c.kind=0 then gS c d else
 if c.kind=1 then ig d c.vars else
 if c.kind=4 then oA c d else
 if c.kind=6 then wE c d else
 lC d (usesR c) λt=>holdsR c (eC d.length (usesR c) t (usesR c).length)
theorem xn {n:Nat}{d:aa}{c:Con}(gd:GoodD n d)(h:SumOk d c):LinC n c:=by
 have hv:j4 d c.vars:=⟨h.nod,h.fine.vin⟩;exact⟨⟨h.fine.len,λv hv=>by have:=h.fine.vin v hv;rwa[gd.len]at this,h.fine.ck,h.nod,h.big,hv.few gd.few⟩,h.pos,h.op⟩
theorem cQ {d:aa}{c:Con}(hc:ConB c)(h:conR d c=0):(0<=c.kind/\c.kind<=6)/\cN d c/\rightR d c=true/\∀u∈usesR c,0<=u/\u.toNat<d.length:=by
 obtain⟨h1,h2⟩:=sC hc h;unfold conR at h;split at h;·cases h
 ·split at h;·cases h
  ·rename_i h3 h4;refine⟨by omega,h1,h2,λu hu=> ?_⟩;have h4:(usesR c).all (inD d)=true:=(by simpa using h4);exact lH.1 (DI.1 h4 u hu)
theorem yY {n:Nat}{c:Con}(hin: ∀u∈usesR c,0<=u/\u.toNat<n)(hne:usesR c≠[]):StepOK n (usesR c) (λg=>holdsR c (kg n g)=true) λd=>lC d (usesR c) λt=>holdsR c (eC d.length (usesR c) t (usesR c).length):=by
 have hnd:(usesR c).Nodup:=dA (b9 _);refine((CD (P:=λt=>holdsR c (eC n (usesR c) t (usesR c).length)) hnd hin hne).step.congr λd gd=>by rw[gd.len]).iff λg=> ?_;rw[uH (b:=kg n g) λu hu=> ?_];rw[l4 (hin u hu)];exact lO g hin hu
def RightC (d:aa)(c:Con):Prop:=conR d c=0∨(c.kind=0/\SumOk d c)
theorem qj {d:aa}{c:Con}(hc:ConB c)(h:RightC d c):(0<=c.kind/\c.kind<=6)/\cN d c/\∀u∈usesR c,0<=u/\u.toNat<d.length:=by
 rcases h with h|⟨hk,hs⟩
 ·obtain⟨h1,h2,_,h3⟩:=cQ hc h;exact⟨h1,h2,h3⟩
 ·refine⟨by omega,⟨hs.fine.vl,hs.fine.vin⟩,λu hu=> ?_⟩;rcases uses_mem.1 hu with hu|⟨h4,_⟩;·exact hs.fine.vin u hu
  ·omega
theorem yJ {n:Nat}{d:aa}{c:Con}(gd:GoodD n d)(hc:ConB c)(h:conR d c=0):StepOK n (usesR c) (λg=>(c.kind=4->0<=g c.b/\g c.b<=1)->holdsR c (kg n g)=true) (bL c):=by
 obtain⟨hk,hv,hr,hin⟩:=cQ hc h;rw[gd.len]at hin;have hpick: ∀g:Int->Int,pickedR c.vars (kg n g)=c.vars.map g:=λg=>EJ λu hu=>l4 (hin u (uses_mem.2 (.inl hu)));have hvu: ∀u∈c.vars,u∈usesR c:=λu hu=>uses_mem.2 (.inl hu);have hdl:=gd.few.small;by_cases h0:c.kind=0
 ·have hs:=xn gd (rM hc h h0 gd.few.fine hdl);refine(((lA hs).wide hvu hin).congr λd gd=>by unfold bL;rw[D4 h0]).iff' λg hg=> ?_;have hb:=hs.sum.big;have:=bE c.rhs;unfold holdsR soR;rw[D4 h0,vE hs.sum.vl hs.sum.ck (by omega) (λu hu=>l4 (hin u (hvu u hu))) λu hu=>hg u (hvu u hu)];exact⟨λh _=>h,λh=>h λe=>by omega⟩
 ·by_cases h1:c.kind=1
  ·have hm:0<c.vars.length/\c.vars.Nodup:=by
    unfold rightR at hr;rw[D2 h0,D4 h1]at hr;simp only[manyR,DJ,DN]at hr;exact hr.2
   refine(((CE (n:=n) ⟨hm.2,λv hv=>hin v (hvu v hv)⟩ (Fm hm.1)).step.wide hvu hin).congr λd gd=>by unfold bL;rw[D2 h0,D4 h1]).iff λg=> ?_;unfold holdsR;rw[D2 h0,D4 h1,hpick,DN,DN,qb];exact⟨λh _=>h,λh=>h λe=>by omega⟩
  ·by_cases h4:c.kind=4
   ·have hrf:=xx hc h h4 gd.few.fine hdl;have hrc:ReifC n c:=by
     refine⟨xn gd hrf.sum,xn gd hrf.sumN,by have:=hrf.b;rwa[gd.len]at this,hrf.apart,?_⟩;obtain⟨_,hbg⟩:=pF (jK h);have:=aV c.coefs;omega
    have hu4: ∀u∈c.vars++[c.b],u∈usesR c:=λu hu=>by
     rcases DT.1 hu with hu|hu;·exact hvu u hu
     ·exact uses_mem.2 (.inr ⟨h4,DG.1 hu⟩)
    refine(((yu hrc).wide hu4 hin).congr λd gd=>by unfold bL;rw[D2 h0,D2 h1,D4 h4]).iff' λg hg=> ?_;have hs:=hrc.yes.sum;have hb:aj c.coefs<=4611686018427388928/\aG c.rhs<=4611686018427388928:=hs.big;have:=bE c.rhs;have e1:sumW c.vars c.coefs (kg n g)=dB c.vars c.coefs g:=vE hs.vl hs.ck (by omega) (λu hu=>l4 (hin u (hvu u hu))) λu hu=>hg u (hvu u hu);have e2:atR (kg n g) c.b=g c.b:=l4 hrc.b;unfold holdsR soR;rw[D2 h0,D2 h1,D2 (by omega),D2 (by omega),D4 h4,e1,e2];simp only[Ey,DJ,DN,ER];exact⟨λh hh=>h (hh h4),λh hh=>h λ_=>hh⟩
   ·by_cases h6:c.kind=6
    ·have hev:c.vars.length % 2=0:=by
      unfold rightR at hr;rw[D2 h0,D2 h1,D2 (by omega),D2 (by omega),D2 h4,D2 (by omega)]at hr;simp only[DJ,DN]at hr;exact hr.2
     refine(((Aw (n:=n) ⟨λv hv=>hin v (hvu v hv)⟩ hv.1 hev).wide hvu hin).congr λd gd=>by unfold bL;rw[D2 h0,D2 h1,D2 h4,D4 h6]).iff λg=> ?_;unfold holdsR holds6;rw[D2 h0,D2 h1,D2 (by omega),D2 (by omega),D2 h4,D2 (by omega),hpick,DN];exact⟨λh _=>h,λh=>h λe=>by omega⟩
    ·have hne:usesR c≠[]:=by
      have hpos:0<c.vars.length:=by
       unfold rightR at hr;rw[D2 h0,D2 h1]at hr;by_cases h2:c.kind=2
       ·rw[D4 h2]at hr;simp only[manyR,DJ,DN]at hr;exact hr.1.2.1
       ·rw[D2 h2]at hr;by_cases h3:c.kind=3
        ·rw[D4 h3]at hr;simp only[manyR,DJ,DN]at hr;omega
        ·rw[D2 h3,D2 h4,D4 (by omega)]at hr;simp only[sumR,DJ,DN]at hr;exact hr.1.2.1.1.2
      intro e;have:=hvu _ (D8 hpos);rw[e]at this;cases this
     refine((yY hin hne).congr λd gd=>by unfold bL;rw[D2 h0,D2 h1,D2 h4,D2 h6]).iff λg=> ?_;exact⟨λh _=>h,λh=>h λe=>DU e h4⟩
theorem tR {n:Nat}{d:aa}{c:Con}(gd:GoodD n d)(hc:ConB c)(h:RightC d c):StepOK n (usesR c) (λg=>(c.kind=4->0<=g c.b/\g c.b<=1)->holdsR c (kg n g)=true) (bL c):=by
 rcases h with h|⟨h0,hs⟩;·exact yJ gd hc h
 ·obtain⟨_,_,hin⟩:=qj hc (.inr ⟨h0,hs⟩);rw[gd.len]at hin;have hvu: ∀u∈c.vars,u∈usesR c:=λu hu=>uses_mem.2 (.inl hu);have hs:=xn gd hs;refine(((lA hs).wide hvu hin).congr λd gd=>by unfold bL;rw[D4 h0]).iff' λg hg=> ?_;have hb:=hs.sum.big;unfold holdsR soR;rw[D4 h0,vE hs.sum.vl hs.sum.ck (by omega) (λu hu=>l4 (hin u (hvu u hu))) λu hu=>hg u (hvu u hu)];exact⟨λh _=>h,λh=>h λe=>by omega⟩
def dC:List Nat->Nat
 | []=>1
 |n::l=>n*dC l
theorem fo: ∀(l m:List Nat),dC (l++m)=dC l*dC m
 | [],m=>by simp[dC]
 |n::l,m=>by rw[Ei,dC,dC,fo l m,Nat.mul_assoc]
theorem qo: ∀{l:List Nat},(∀x∈l,1<=x)->1<=dC l
 | [],_=>DL _
 |n::l,h=>Nat.mul_pos (h n (.head _)) (qo λx hx=>h x (.tail _ hx))
def prodD (d:aa):Nat:=dC (d.map λx=>(vals x).length)
theorem vU (d:aa)(x:List (Int×Int)):prodD (d++[x])=prodD d*(vals x).length:=by
 unfold prodD;rw[EC,fo];simp[dC]
theorem zZ {a b:aa}(hl:a.length=b.length)(h: ∀(i:Nat) x y,a[i]? =some x->b[i]? =some y->(vals x).length<=(vals y).length):prodD a<=prodD b:=by
 induction a generalizing b with
 |nil=>
  cases b with
  |nil=>exact DL _
  |cons y b=>simp at hl
 |cons x a ih=>
  cases b with
  |nil=>simp at hl
  |cons y b=>exact Gs (h 0 x y Y Y) (ih (by simpa using hl) λi u v hu hv=>h (i+1) u v hu hv)
theorem GoodD.one {n:Nat}{d:aa}(h:GoodD n d): ∀x∈d,1<=(vals x).length:=λx hx=>by
 have hok:=(h.few.fine x hx).ok;have:vals x≠[]:=λe=>h.some' ((fg hok).1 e▸hx);exact GK.2 this
theorem qp {n:Nat}{a b:aa}(ha:GoodD n a)(hb:GoodD n b)(h:leD a b):prodD a<=prodD b:=by
 refine zZ (ha.len.trans hb.len.symm) λi x y hx hy=> ?_;have hi:=(D5.1 hx).1;have hj:=(D5.1 hy).1;have h1:=(ha.few.fine x (D7 hx)).ok;refine bS (aF h1) λv hv=> ?_;have:=h.2 (i:Int) v (by omega) (by rw[pA hi,(D5.1 hx).2];exact hv);rwa[pA hj,(D5.1 hy).2]at this
end Go.Proofs.YtopcjbahjjhdmaaGreat
