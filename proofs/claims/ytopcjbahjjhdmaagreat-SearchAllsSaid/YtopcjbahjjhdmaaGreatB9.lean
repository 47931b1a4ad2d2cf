/- The texts FvM, PvD, FvA, FvC, PvC, FvD, FvE, LiH, FvF, PuE, FvG, FvN, FvI, FvJ, FvO, FvP, FvS, FvT, FvU, FvV, FvW, FvH, FvX, FwB of the workplace, joined. -/
import Derived.Test.YtopcjbahjjhdmaaGreatB8
namespace Go.Proofs.YtopcjbahjjhdmaaGreat
open Go Go.RowKit
set_option linter.unusedVariables false
set_option linter.unusedSimpArgs false
set_option maxRecDepth 8000
theorem n5 {p:Int->Bool}{f:FuncId}(caps:List PV)(l:List Int)(hp: ∀v∈l,Spec Tryz.prog f false (.int .i64 v::caps) [.val (.bool (p v))])(hl:l.length*8<=140737488355328):Spec Tryz.prog 169 false [aq l,.fn (.func f) [] caps] [.val (.int .i64 (indexP p l))]:=by
 refine Spec.body Tryz.func169 Y Y Y λw0 Z0=> ?_;refine .B ?_;refine T.K (T.listI l (λpre=> ∀v∈pre,p v=false) (λn pre post=>⟨[(0,.val false (aq l)),(1,.val false (.fn (.func f) [] caps)),(7,.val true (.int .i64 (l.map cI).length)),(8,.val true (.int .i64 n))],[],0⟩) (λ_ _ h=>h) (λv hv=>by cases hv) ?_ ?_)
 ·rintro n pre v post h hn hi ih;have hlt:=bW h hn;have hsp:=hp v (by rw[h];simp);refine .B ?_;refine T.ct2 Y (bV h hn) ?_;refine .B ?_;refine .F (r:=cI v) (aM h hn) ?_;refine .D hsp ?_;refine T.cond Y (λh2=> ?_) (λh2=> ?_)
  ·have h2:p v=true:=h2;refine .B ?_;have e:indexP p l=(n:Int):=by
    unfold indexP;rw[h,HE,FG.2 (by simpa using hi),GU,E6 h2];simp[hn]
   rw[e];exact r1
  ·have h2:p v=false:=h2;refine .B ?_;rw[ai hlt (by omega)];exact T.K (ih (by
    intro x hx;rcases EW.1 hx with hx|hx;·exact hi x hx
    ·rw[EI.1 hx];exact h2))
 ·intro hi;have e:indexP p l= -1:=by
   unfold indexP;rw[FG.2 (by simpa using hi)]
  rw[e];refine .B ?_;refine T.cf2 Y bj ?_;refine .B ?_;exact r1
theorem tK (p:Int->Bool)(l:List Int):(indexP p l= -1/\∀v∈l,p v=false)∨∃i:Nat,i<l.length/\indexP p l=(i:Int)/\p (l.getD i 0)=true/\∀v∈l.take i,p v=false:=by
 unfold indexP;cases h:l.findIdx? p with
 |none=>exact .inl ⟨rfl,by simpa using FG.1 h⟩
 |some i=>
  obtain⟨h1,h2,h3⟩:=Fc.1 h;refine .inr ⟨i,h1,rfl,by rw[aO h1];exact h2,λv hv=> ?_⟩;obtain⟨j,hj⟩:=EK hv;have hjl:=(E8.1 hj).1;have hji:j<i:=(by simp at hjl;omega);have:=h3 j hji;rw[GC hji,E5 (by omega)]at hj;rw[<-E7 hj];simpa using this
structure DelInv (p:Int->Bool)(l:List Int)(j:Nat)(L:List Int):Prop where
 len:L.length=l.length
 le:j<=l.length
 lt:((l.take j).filter λx=> !p x).length<j
 tk:L.take ((l.take j).filter λx=> !p x).length=(l.take j).filter λx=> !p x
 dr:L.drop j=l.drop j
theorem DelInv.at {p:Int->Bool}{l L:List Int}{j:Nat}(h:DelInv p l j L)(hj:j<l.length):L.getD j 0=l.getD j 0:=by
 have h1:=h.dr;have hL:=h.len;rw[EP (by omega),EP hj]at h1;rw[aO (by omega),aO hj];exact(List.cons.inj h1).1
theorem DelInv.step {p:Int->Bool}{l L:List Int}{j:Nat}(h:DelInv p l j L)(hj:j<l.length):
  (p (l.getD j 0)=true->DelInv p l (j+1) L/\((l.take (j+1)).filter λx=> !p x).length=((l.take j).filter λx=> !p x).length)/\
  (p (l.getD j 0)=false->DelInv p l (j+1) (L.set ((l.take j).filter λx=> !p x).length (l.getD j 0))/\((l.take (j+1)).filter λx=> !p x).length=((l.take j).filter λx=> !p x).length+1):=by
 obtain⟨h1,h2,h3,h4,h5⟩:=h;have ht:l.take (j+1)=l.take j++[l.getD j 0]:=(by rw[ED hj,aO hj]);have hd:L.drop (j+1)=l.drop (j+1):=by
  have:=congrArg (List.drop 1) h5;rwa[IE,IE]at this
 refine⟨λhp=> ?_,λhp=> ?_⟩
 ·have e:(l.take (j+1)).filter (λx=> !p x)=(l.take j).filter λx=> !p x:=(by rw[E0]at hp;rw[ht,Fh];simp[hp]);exact⟨⟨h1,hj,by rw[e];omega,by rw[e];exact h4,hd⟩,by rw[e]⟩
 ·have e:(l.take (j+1)).filter (λx=> !p x)=((l.take j).filter λx=> !p x)++[l.getD j 0]:=(by rw[E0]at hp;rw[ht,Fh];simp[hp]);refine⟨⟨by simpa using h1,hj,by rw[e];simp;omega,?_,?_⟩,by rw[e];simp⟩;·rw[e,EZ,FY,ED (by simp;omega),List.getElem_set_self,List.take_set_of_le (EO _),h4]
  ·rw[Hm (by omega)];exact hd
theorem tR {p:Int->Bool}{f:FuncId}(caps:List PV)(l:List Int)(hp: ∀v∈l,Spec Tryz.prog f false (.int .i64 v::caps) [.val (.bool (p v))])(hl:l.length*8<=140737488355328):
  SpecP Tryz.prog 187 [] [] 3 1 (l.map cI) [.fn (.func f) [] caps] ((l.filter λx=> !p x).map cI):=by
 refine SpecP.body Tryz.func187 Y Y Y (λr hr q hq=>by obtain⟨x,_,rfl⟩:=EH.1 hr;simp[cI]at hq;rw[hq];rfl) λw0 v0 Z1=> ?_;have hix:=n5 caps l hp hl;have hcs:=tK p l;generalize indexP p l=i0 at*;refine .B ?_;refine .D hix ?_;rcases hcs with ⟨rfl,hall⟩|⟨i,hi,rfl,hpi,hbe⟩
 ·refine T.ct Y ?_;refine .B ?_;rw[Hp.2 (λx hx=>by rw[hall x hx];rfl)];exact⟨4,0,rfl,rfl,rfl⟩
 ·refine T.cf2 Y (EE (by omega)) ?_;have hf0:(l.take i).filter (λx=> !p x)=l.take i:=Hp.2 (λx hx=>by rw[hbe x hx];rfl);have hf1:(l.take (i+1)).filter (λx=> !p x)=l.take i:=by
   rw[E0]at hpi;rw[ED hi,Fh,hf0,<-aO hi];simp[hpi]
  have hinv:DelInv p l (i+1) l:=⟨rfl,hi,by rw[hf1];simp;omega,by rw[hf1];simp[FO (HH hi)],rfl⟩;refine .B ?_;rw[ai hi hl];refine T.K (T.ind (λs:Nat×Nat×List Int=>⟨[(0,.ref 0),(1,.val false (.fn (.func f) [] caps)),(5,.val true (.int .i64 s.2.1)),(6,.val true (.int .i64 s.1))],[(0,some (.sl 3 1 true (s.2.2.map cI)))],1⟩)
   (λs=>DelInv p l s.1 s.2.2/\s.2.1=((l.take s.1).filter λx=> !p x).length) (λs=>l.length-s.1) (i+1,i,l) ⟨hinv,by simp only;rw[hf1];simp;omega⟩ (λ_ _ h=>h) ?_)
  rintro⟨j,k,L⟩ ⟨hinv,hk⟩ ih;simp only at hinv hk;dsimp only;have hle:=hinv.le;have hlen:=hinv.len;have hlt:=hinv.lt;rw[<-hk]at hlt;refine .B ?_;refine T.cd Y (λh6=> ?_) (λh6=> ?_)
  ·have h6:j<l.length:=(by simp at h6;omega);have hrow:(L.map cI)[((j:Nat):Int).toNat]? =some (cI (l.getD j 0)):=by
    rw[<-hinv.at h6,aO (by omega)];exact ax (by omega)
   obtain⟨hs1,hs2⟩:=hinv.step h6;have hsp:=hp (l.getD j 0) (by rw[aO h6];exact EA _);have hw1:IntKind.i64.wrap ((j:Int)+1)=((j+1:Nat):Int):=ai h6 hl;have hw2:IntKind.i64.wrap ((k:Int)+1)=((k+1:Nat):Int):=ai (l:=l.length) (by omega) hl;have ih1:=λk2 L2 h1 h2=>ih (j+1,k2,L2) ⟨h1,h2⟩ (by show _-_<_-_;omega);rw[<-hk]at hs1 hs2;refine .B ?_;refine J.io Y Y Y Y Y Y Y Y Y (by omega) (by simp;omega) Y ?_;refine .B ?_;refine J.lo Y Y Y Y Y Y (r:=cI (l.getD j 0)) hrow Y ?_;refine .B ?_;refine .D hsp ?_;cases hpv:p (l.getD j 0)with
   |true=>
    obtain⟨a1,a2⟩:=hs1 hpv;refine T.cf Y ?_;refine .B ?_;rw[hw1];exact T.K (ih1 k L a1 a2.symm)
   |false=>
    obtain⟨a1,a2⟩:=hs2 hpv;refine T.ct Y ?_;refine .B ?_;refine J.io Y Y Y Y Y Y Y Y Y (by omega) (by simp;omega) Y ?_;refine .B ?_;refine J.w1 Y Y Y Y Y Y Y Y Y Y Y (enc:=cI) (z:=l.getD j 0) (λ_=>rfl) (by simp;omega) ?_;refine .B ?_;rw[hw1,hw2];exact T.K (ih1 (k+1) _ a1 a2.symm)
  ·have h6:j=l.length:=(by simp at h6;omega);have htk:=hinv.tk;subst h6;rw[<-hk]at htk;rw[Ep]at htk;refine .B ?_;refine J.clr (l:=L) k Y Y Y Y Y Y Y (by omega) Y Y Y (λw=>by kernel_rfl) Y Y Y Y (λ_=>rfl) λu=> ?_;refine .B ?_;refine J.cut (l:=L.take k++List.replicate (L.length-k) 0) k Y Y Y Y Y Y Y (by simp;omega) Y Y ?_;refine .B ?_;rw[show(L.take k++List.replicate (L.length-k) (0:Int)).take k=l.filter λx=> !p x by rw[GY (by simp;omega),HB,Nat.min_self,htk]];exact⟨4,1,rfl,rfl,rfl⟩
def clP (d:aa)(c:Con)(us t:List Int):Bool:=bL c (cS d.length us t us.length)
theorem yS {x k:Int}(hk:k=1∨k= -1):litH (x,k)=true↔x=dU k:=by
 rcases hk with rfl|rfl;·rw[DQ];simp[litH]
 ·rw[DP];simp[litH]
theorem CO {d:aa}{c:Con}(h:ClOk d c)(hk:c.kind=5)(f:Int->Int):clP d c (aT c.vars) ((aT c.vars).map f)=true↔∃p∈c.vars.zip c.coefs,f p.1=dU p.2:=by
 have hin: ∀u∈aT c.vars,0<=u/\u.toNat<d.length:=λu hu=>h.vin u ((bI u _).1 hu);have hat: ∀v∈c.vars,atR (cS d.length (aT c.vars) ((aT c.vars).map f) (aT c.vars).length) v=f v:=λv hv=>mz f hin ((bI v _).2 hv);have hp:pickedR c.vars (cS d.length (aT c.vars) ((aT c.vars).map f) (aT c.vars).length)=c.vars.map f:=F6 λv hv=>hat v hv;unfold clP bL;rw[E4 (by omega),E4 (by omega),E4 (by omega),E4 (by omega),E4 (by omega),E6 hk,hp,Fa];constructor
 ·rintro⟨q,hq,hl⟩;obtain⟨i,hi⟩:=EK hq;rw[Fx]at hi;obtain⟨h1,h2⟩:=hi;rw[EJ]at h1;obtain⟨v,hv,e⟩:=Ej.1 h1;refine⟨(v,q.2),EC (i:=i) (Fx.2 ⟨hv,h2⟩),?_⟩;rw[show q=(q.1,q.2)from Y,yS (h.unit _ (EC h2))]at hl;rw[<-hl,<-e]
 ·rintro⟨p,hp,e⟩;obtain⟨i,hi⟩:=EK hp;rw[Fx]at hi;refine⟨(f p.1,p.2),EC (i:=i) (Fx.2 ⟨by rw[EJ,hi.1];rfl,hi.2⟩),?_⟩;rw[yS (h.unit _ (EC hi.2))];exact e
theorem Ca {c:Con}(hn:c.vars.Nodup){p q:Int×Int}(hp:p∈c.vars.zip c.coefs)(hq:q∈c.vars.zip c.coefs)(h:p.1=q.1):p=q:=by
 obtain⟨i,hi⟩:=EK hp;obtain⟨j,hj⟩:=EK hq;have e:i=j:=by
  rw[Fx]at hi hj;obtain⟨h1,h2⟩:=E8.1 hi.1;obtain⟨h3,h4⟩:=E8.1 hj.1;exact(Ga hn).1 (h2.trans (h.trans h4.symm))
 subst e;exact E7 (hi.symm.trans hj)
theorem wG {d:aa}{c:Con}(h:ClOk d c)(hk:c.kind=5)(hf: ∀x∈d,Fine x):d6 d (aT c.vars) (clP d c (aT c.vars))=kx d c:=by
 have hus: ∀u,u∈aT c.vars↔u∈c.vars:=λu=>bI u _;have hnd:(aT c.vars).Nodup:=dF (ca _);have hin: ∀u∈aT c.vars,0<=u/\u.toNat<d.length:=λu hu=>h.vin u ((hus u).1 hu);have hP:=CO h hk;have hpv: ∀p∈c.vars.zip c.coefs,p.1∈c.vars:=λp hp=>(Ew hp).1;have hlb: ∀p,litB d p=true↔dU p.2∈vals (domAt d p.1):=λp=>dD;unfold d6;rw[yf h.len];by_cases hm: []∈d;·rw[E6 hm,E6 hm]
 rw[E4 hm,E4 hm];have hne: ∀v∈c.vars,∃x,x∈vals (domAt d v):=by
  intro v hv;have hd:=hf _ (ac (h.vin v hv).2);have:domAt d v≠[]:=λe=>hm (e▸ac (h.vin v hv).2);exact⟨_,gg hd.ok this⟩
 obtain⟨g,hg⟩: ∃g:Int->Int,∀v∈c.vars,g v∈vals (domAt d v):=⟨λv=>av (domAt d v),λv hv=>gg (hf _ (ac (h.vin v hv).2)).ok λe=>hm (e▸ac (h.vin v hv).2)⟩;cases hL:(c.vars.zip c.coefs).filter (litB d)with
 |nil=>
  have hno: ∀p∈c.vars.zip c.coefs,litB d p=false:=λp hp=>by
   have:=List.filter_eq_nil_iff.1 hL p hp;simpa using this
  obtain⟨v,hv⟩: ∃v,v∈c.vars:=⟨c.vars[0]'h.pos,EA _⟩;have hvi:=h.vin v hv;obtain⟨y,hy,hyd,hyv⟩:=(lV (P:=clP d c (aT c.vars)) hnd hin v.toNat).2 (by rw[GN hvi.1];exact(hus v).2 hv);have hy0:y=[]:=by
   refine(fq hyd).1 (G7.2 λx hx=> ?_);obtain⟨f,hf1,hf2,_⟩:=(hyv x).1 hx;obtain⟨p,hp,e⟩:=(hP f).1 hf2;have:=hf1 p.1 ((hus _).2 (hpv p hp));rw[e]at this;have:=hno p hp;rw[(hlb p).2 ‹_›]at this;cases this
  subst hy0;unfold gL;rw[E6 (EC hy)];rfl
 |cons p l=>
  have hp:p∈c.vars.zip c.coefs/\litB d p=true:=FB.1 (by rw[hL];exact .head _);have hpl:=(hlb p).1 hp.2;have hpi:=h.vin _ (hpv p hp.1);have hpd:=hf _ (ac hpi.2);cases l with
  |nil=>
   obtain⟨hc1,hc2⟩:=bR hpd.ok (dU p.2) (dU p.2);have hcv: ∀x,x∈vals (domCut (domAt d p.1) (dU p.2) (dU p.2))↔x=dU p.2:=λx=>by
    rw[hc2];constructor;·rintro⟨_,h1,h2⟩;omega
    ·rintro rfl;exact⟨hpl,by omega,by omega⟩
   have hcn:domCut (domAt d p.1) (dU p.2) (dU p.2)≠[]:=λe=>by
    have:=(hcv (dU p.2)).2 Y;rw[e]at this;cases this
   have honly: ∀q∈c.vars.zip c.coefs,litB d q=true->q=p:=λq hq hb=>by
    have:q∈(c.vars.zip c.coefs).filter (litB d):=FB.2 ⟨hq,hb⟩;rw[hL]at this;simpa using this
   have hkeep:clF d [p]=some (d.set p.1.toNat (domCut (domAt d p.1) (dU p.2) (dU p.2))):=by
    show dL d p.1 (dU p.2)=_;unfold dL;rw[E4 hcn]
   rw[hkeep,oO (out:=d.set p.1.toNat (domCut (domAt d p.1) (dU p.2) (dU p.2))) hnd hin (by simp) ?_ ?_ ?_]
   ·unfold gL;rw[E4 λhc=>hcn ((dt hpi.2 hm).1 hc)]
   ·intro x hx;rcases EV hx with hx|rfl;·exact(hf x hx).ok
    ·exact hc1
   ·intro v hv x;have hvc:=(hus v).1 hv;have hvi:=h.vin v hvc;rw[gh hpi.2];by_cases e:p.1.toNat=v.toNat
    ·have e2:p.1=v:=(by omega);rw[E6 e,hcv];subst e2;constructor
     ·rintro rfl;refine⟨λu=>if u=p.1 then dU p.2 else g u,λu hu=> ?_,(hP _).2 ⟨p,hp.1,E6 Y⟩,E6 Y⟩;by_cases e3:u=p.1;·simp only[e3,if_true];exact hpl
      ·simp only[e3,if_false];exact hg u ((hus u).1 hu)
     ·rintro⟨f,hf1,hf2,rfl⟩;obtain⟨q,hq,e3⟩:=(hP f).1 hf2;have:=hf1 q.1 ((hus _).2 (hpv q hq));rw[e3]at this;have:=honly q hq ((hlb q).2 this);subst this;exact e3
    ·have e2:p.1≠v:=λe2=>e (by rw[e2]);rw[E4 e];constructor
     ·intro hx;refine⟨λu=>if u=p.1 then dU p.2 else if u=v then x else g u,λu hu=> ?_,(hP _).2 ⟨p,hp.1,E6 Y⟩,by simp only[Ne.symm e2,if_false,if_true]⟩;by_cases e3:u=p.1;·simp only[e3,if_true];exact hpl
      ·by_cases e4:u=v;·subst e4;simp only[e3,if_false,if_true];exact hx
       ·simp only[e3,e4,if_false];exact hg u ((hus u).1 hu)
     ·rintro⟨f,hf1,_,rfl⟩;exact hf1 v hv
   ·intro i hi;rw[Et];rintro rfl;exact hi (by rw[GN hpi.1];exact(hus _).2 (hpv p hp.1))
  |cons q l=>
   have hq:q∈c.vars.zip c.coefs/\litB d q=true:=FB.1 (by rw[hL];exact .tail _ (.head _));have hql:=(hlb q).1 hq.2;have hpq:p.1≠q.1:=by
    intro e;have e2:=Ca h.nod hp.1 hq.1 e;have hz:(c.vars.zip c.coefs).Nodup:=by
     refine List.Pairwise.of_map (S:=(· ≠ ·)) Prod.fst (λa b hne e=>hne (by rw[e])) ?_;rw[List.map_fst_zip (by rw[h.len];exact EO _)];exact h.nod
    have:=hz.filter (litB d);rw[hL,e2]at this;simp at this
   have hcl:clF d (p::q::l)=some d:=rfl;rw[hcl,oO (out:=d) hnd hin Y (λx hx=>(hf x hx).ok) ?_ (λ_ _=>rfl)];·unfold gL;rw[E4 hm]
   ·intro v hv x;constructor
    ·intro hx;obtain⟨r,hr,hrv⟩: ∃r,(r∈c.vars.zip c.coefs/\dU r.2∈vals (domAt d r.1))/\r.1≠v:=by
      by_cases e:p.1=v;·exact⟨q,⟨hq.1,hql⟩,λe2=>hpq (e.trans e2.symm)⟩
      ·exact⟨p,⟨hp.1,hpl⟩,e⟩
     refine⟨λu=>if u=r.1 then dU r.2 else if u=v then x else g u,λu hu=> ?_,(hP _).2 ⟨r,hr.1,E6 Y⟩,by simp only[Ne.symm hrv,if_false,if_true]⟩;by_cases e3:u=r.1;·simp only[e3,if_true];exact hr.2
     ·by_cases e4:u=v;·subst e4;simp only[e3,if_false,if_true];exact hx
      ·simp only[e3,e4,if_false];exact hg u ((hus u).1 hu)
    ·rintro⟨f,hf1,_,rfl⟩;exact hf1 v hv
theorem tn (d:aa)(c:Con)(us:List Int)(hu:us=aT c.vars)(P:List Int->Bool)(hcl:c.vars.length*8<=140737488355328)(hk:Spec Tryz.prog 209 false [ao d,.agg (cC c),aq us] [.val (ao ((d6 d us P).getD [])),.val (.bool (d6 d us P).isSome)]):
  Spec Tryz.prog 150 false [ao d,.agg (cC c)] [.val (ao ((d6 d us P).getD [])),.val (.bool (d6 d us P).isSome)]:=by
 refine Spec.body Tryz.func150 Y Y Y λw0 Z0=> ?_;have hso:=dI c.vars hcl;rw[<-hu]at hso;generalize (d6 d us P).getD []=D at*;generalize (d6 d us P).isSome=b at*;refine .B ?_;refine .D hso ?_;refine .D hk ?_;exact r2
abbrev jP:=List (Int×List Int)
def mpU (u:jP):Own:= .mp true none (u.map λp=>(Value.int .i64 p.1,aq p.2))
def jg (n:Nat)(o:bF):Option Nat:=(List.range n).find? λi=>(lkA o (i:Int)).getD false
def ny (rows:List (List PV))(ua uu:Value):Own:= .box true [.sl rows,.raw ua,.raw uu]
theorem zQ (rows:List (List PV))(o:bF)(uq ua uu:Value)(hl:rows.length<=4611686018427387904):
  SpecO Tryz.prog 104 false [uq,ua] [ny rows ua uu,mpS o] [.raw uq] [ny rows ua uu,mpS (match jg rows.length o with
   |some i=>dlA o (i:Int)
   |none=>o)] (λ_=>[]) (λ_=>[.int .i64 ((jg rows.length o).getD 0:Nat),.bool (jg rows.length o).isSome]):=by
 refine SpecO.body [1001,1002] [] Tryz.func104 Y Y Y Y λw0 Z1=> ?_;refine T.sub (Rel.derawp (s:=0) (g:=1001) Y Y Y) ?_;refine .B ?_;refine T.K (T.ind (λi:Nat=>⟨[(0,.optr 0 0 0 0),(9,.val true (.int .i64 rows.length)),(10,.val true (.int .i64 i)),(1001,.eq uq 0),(1002,.eq ua 1)],[(0,some (ny rows ua uu)),(1,some (mpS o))],2⟩)
  (λi=>i<=rows.length/\∀j,j<i->(lkA o (j:Int)).getD false=false) (λi=>rows.length-i) 0 ⟨by simp,λj hj=>by omega⟩ (λ_ _ h=>h) ?_)
 rintro i ⟨hi,hb⟩ ih;refine .B ?_;refine T.cd Y (λh1=> ?_) (λh1=> ?_)
 ·have h1:i<rows.length:=(by simpa using h1);refine .B ?_;refine J.sub (Rel.deraw (s:=16) (g:=1002) Y Y) ?_;refine .B ?_;refine J.ml (i:Int) (.bool false) Y Y Y Y Y Y Y Y Y AJ (λ_ _=> .bool _) (oz Tryz.underlying3) (λ_ _ _ h=>cX h) ?_;have hmb:((lkA o (i:Int)).map PV.bool).getD (.bool false)= .bool ((lkA o (i:Int)).getD false):=(by cases lkA o (i:Int)<;>rfl);rw[hmb];by_cases hs:(lkA o (i:Int)).getD false=true
  ·have hn:jg rows.length o=some i:=by
    unfold jg;rw[GD];exact⟨hs,by simpa using h1,λj hj=>by simpa using hb j hj⟩
   rw[hn,hs];refine .B ?_;refine T.ct Y ?_;refine .B ?_;refine J.sub (Rel.deraw (s:=22) (g:=1002) Y Y) ?_;refine .B ?_;refine J.dl (i:Int) Y Y Y Y Y Y Y Y Y Y (oz Tryz.underlying3) (λ_ _ _ h=>cX h) ?_;refine .B ?_;exact⟨[0,1],[],[],⟨rfl,rfl,rfl,rfl,rfl,rfl,trivial⟩,trivial,rfl,.v Y Y Y (λ_=>rfl) (.v Y Y Y (λ_=>rfl) .nil)⟩
  ·rw[eq_false_of_ne_true hs];refine .B ?_;refine T.cf Y ?_;refine .B ?_;have hw:IntKind.i64.wrap ((i:Int)+1)=((i+1:Nat):Int):=(by rw[af (by omega) (by omega)];omega);rw[hw];refine T.K (ih (i+1) ⟨by omega,λj hj=> ?_⟩ (by omega));by_cases e:j=i;·subst e;exact eq_false_of_ne_true hs
   ·exact hb j (by omega)
 ·have h1:i=rows.length:=(by simp at h1;omega);subst h1;have hn:jg rows.length o=none:=by
   unfold jg;rw[GV];intro j hj;rw[hb j (ES.1 hj)];simp
  rw[hn];refine .B ?_;exact⟨[0,1],[],[],⟨rfl,rfl,rfl,rfl,rfl,rfl,trivial⟩,trivial,rfl,.v Y Y Y (λ_=>rfl) (.v Y Y Y (λ_=>rfl) .nil)⟩
def fz (l:List Int)(o:bF):bF:=l.foldl (λo i=>upA o i true) o
theorem CU (w:World):(zeroValue 24).run Tryz.prog w= .ok (.slice none 0 0) w:=by kernel_rfl
theorem t6 (rows:List (List PV))(o:bF)(u:jP)(v:Int)(uq ua uu:Value)(hl: ∀p∈u,p.2.length*8<=140737488355328):
  SpecO Tryz.prog 107 false [uq,ua,uu] [ny rows ua uu,mpS o,mpU u] [.raw uq,.int .i64 v] [ny rows ua uu,mpS (fz ((lkA u v).getD []) o),mpU u] (λ_=>[]) (λ_=>[]):=by
 refine SpecO.body [1001,1002,1003] [] Tryz.func107 Y Y Y Y λw0 Z1=> ?_;refine T.sub (Rel.derawp (s:=0) (g:=1001) Y Y Y) ?_;refine T.sub (Rel.fine (s:=1) Y Y) ?_;refine .B ?_;refine J.sub (Rel.deraw (s:=9) (g:=1003) Y Y) ?_;refine .B ?_;refine J.ml v (.sl []) Y Y Y Y Y Y Y Y Y CU (λ_ _=> .nilsl) (oz Tryz.underlying3) (λ_ _ _ h=>cX h) ?_;have hmb:((lkA u v).map aq).getD (.sl [])=aq ((lkA u v).getD []):=(by cases lkA u v<;>rfl);rw[hmb];have hll:((lkA u v).getD []).length*8<=140737488355328:=by
  cases h:lkA u v with
  |none=>simp
  |some l=>exact hl _ (fk h)
 generalize hL:(lkA u v).getD []=l at*;generalize hR:fz l o=R;refine .B ?_;refine T.K (T.ind (λx:Nat×bF=>⟨[(0,.optr 0 0 0 0),(11,.val true (aq l)),(12,.val true (.int .i64 (l.map cI).length)),(13,.val true (.int .i64 x.1)),(1001,.eq uq 0),(1002,.eq ua 1),(1003,.eq uu 2)],[(0,some (ny rows ua uu)),(1,some (mpS x.2)),(2,some (mpU u))],3⟩)
  (λx=>x.1<=l.length/\fz (l.drop x.1) x.2=R) (λx=>l.length-x.1) (0,o) ⟨by simp,hR⟩ (λ_ _ h=>h) ?_)
 rintro⟨i,s⟩ ⟨hi,hR⟩ ih;simp only at hi hR;dsimp only;refine .B ?_;refine T.cd Y (λh1=> ?_) (λh1=> ?_)
 ·have h1:i<l.length:=(by simpa using h1);rw[EP h1]at hR;refine .B ?_;refine .F (r:=cI l[i]) (ax h1) ?_;refine J.sub (Rel.deraw (s:=20) (g:=1002) Y Y) ?_;refine .B ?_;refine J.mu l[i] true Y Y Y Y Y Y Y Y Y Y Y (oz Tryz.underlying3) (λ_ _ _ h=>cX h) Y ?_;refine .B ?_;rw[ai (l:=l.length) h1 hll];exact T.K (ih (i+1,upA s l[i] true) ⟨by omega,hR⟩ (by show _-_<_-_;omega))
 ·have h1:i=l.length:=(by simp at h1;omega);subst h1;rw[FR]at hR;obtain rfl:s=R:=hR;refine .B ?_;exact⟨[0,1,2],[],[],⟨rfl,rfl,rfl,rfl,rfl,rfl,rfl,rfl,rfl,trivial⟩,trivial,rfl,.nil⟩
abbrev tu:Value:= .slice none 0 0
def fvL (L:uo)(k:Int):Value:=(L.getD k.toNat (tu,[])).1
def ft (u:jP)(i:Int)(vs:List Int):jP:=vs.foldl (λu v=>upA u v ((lkA u v).getD []++[i])) u
def di:Nat->List Con->bF->jP->bF×jP
 |_,[],o,u=>(o,u)
 |i,c::cs,o,u=>di (i+1) cs (upA o i true) (ft u i (usesR c))
def ia (cons:List Con):bF×jP:=di 0 cons [] []
theorem yR {β γ:Type}(f:Int->γ)(a:Int): ∀u:List (Int×β),lkA (u.map λp=>(p.1,f p.1)) a=(lkA u a).map λ_=>f a
 | []=>rfl
 |p::u=>by
  rw[Ek,dp,dp,yR f a u];by_cases h:p.1=a;·simp[h]
  ·simp[h]
theorem yv {β γ:Type}{f f':Int->γ}{a:Int}{y:γ}{x:β}(h2:f' a=y): ∀u:List (Int×β),(u.map (·.1)).Nodup->(∀p∈u,p.1≠a->f' p.1=f p.1)->upA (u.map λp=>(p.1,f p.1)) a y=(upA u a x).map λp=>(p.1,f' p.1)
 | [],_,_=>by simp[upA,fiA,h2]
 |p::u,hn,h1=>by
  have hn:=FH.1 hn;rw[Ek,iD,iD];by_cases h:p.1=a
  ·rw[E6 h,E6 h,Ek,h2];congr 1;refine F6 λq hq=> ?_;have:q.1≠a:=λe=>hn.1 (EH.2 ⟨q,hq,e.trans h.symm⟩);rw[h1 q (.tail _ hq) this]
  ·rw[E4 h,E4 h,Ek,h1 p (.head _) h,yv h2 u hn.2 λq hq=>h1 q (.tail _ hq)]
theorem oD {β:Type}{a:Int}{x:β}: ∀u:List (Int×β),(u.map (·.1)).Nodup->((upA u a x).map (·.1)).Nodup
 | [],_=>by simp[upA,fiA]
 |p::u,hn=>by
  have hn2:=FH.1 hn;rw[iD];by_cases h:p.1=a
  ·rw[E6 h];have e:((a,x)::u).map (·.1)=(p::u).map (·.1):=(by simp[h]);rw[e];exact hn
  ·rw[E4 h,Ek];refine FH.2 ⟨λhm=> ?_,oD u hn2.2⟩;obtain⟨q,hq,e⟩:=EH.1 hm;rcases mem_upA hq with hq|rfl;·exact hn2.1 (EH.2 ⟨q,hq,e⟩)
   ·exact h e.symm
theorem r5 {β:Type}: ∀{u:List (Int×β)},(u.map (·.1)).Nodup->∀{p:Int×β},p∈u->lkA u p.1=some p.2
 |q::u,hn,p,hp=>by
  have hn2:=FH.1 hn;rw[dp];rcases ET.1 hp with rfl|hp;·rw[E6 Y]
  ·have:q.1≠p.1:=λe=>hn2.1 (EH.2 ⟨p,hp,e.symm⟩);rw[E4 this];exact r5 hn2.2 hp
structure UsOk (N t:Nat)(u:jP)(L:uo):Prop where
 rows:L.map (·.2)=(List.range N).map λk:Nat=>((lkA u (k:Int)).getD []).map cI
 nil: ∀k:Nat,lkA u (k:Int)=none->(L.getD k (tu,[])).1=tu
 nod:(u.map (·.1)).Nodup
 ks: ∀p∈u,0<=p.1/\p.1.toNat<N
 len: ∀p∈u,p.2.length<=t
theorem UsOk.at {N t:Nat}{u:jP}{L:uo}(h:UsOk N t u L){k:Nat}(hk:k<N): ∃v,L[k]? =some (v,((lkA u (k:Int)).getD []).map cI)/\fvL L k=v:=by
 have e:(L.map (·.2))[k]? =some (((lkA u (k:Int)).getD []).map cI):=(by rw[h.rows,EJ,Fr hk];rfl);rw[EJ]at e;obtain⟨p,hp,e2⟩:=Ej.1 e;refine⟨p.1,by rw[hp,<-e2],?_⟩;unfold fvL;rw[Eo,E0,hp];rfl
theorem UsOk.put {N t:Nat}{u:jP}{L:uo}(h:UsOk N t u L){v i:Int}(h0:0<=v)(hv:v.toNat<N)(u':Value):
  UsOk N (t+1) (upA u v ((lkA u v).getD []++[i])) (L.set v.toNat (u',((lkA u v).getD []++[i]).map cI))/\
  upA (u.map λp=>(p.1,fvL L p.1)) v u'=(upA u v ((lkA u v).getD []++[i])).map λp=>(p.1,fvL (L.set v.toNat (u',((lkA u v).getD []++[i]).map cI)) p.1):=by
 have hL:L.length=N:=(by have:=congrArg List.length h.rows;simpa using this);have ev:((v.toNat:Nat):Int)=v:=(by omega);have hlen:((lkA u v).getD []).length<=t:=by
  cases hc:lkA u v with
  |none=>simp
  |some l=>exact h.len _ (fk hc)
 refine⟨⟨?_,λk hk=> ?_,oD u h.nod,λp hp=> ?_,λp hp=> ?_⟩,yv ?_ u h.nod λp hp hne=> ?_⟩
 ·rw[Gy,h.rows,rD];refine F6 λj _=> ?_;rw[l9];by_cases e:j=v.toNat;·rw[E6 e,E6 (by omega)];rfl
  ·rw[E4 e,E4 (by omega)]
 ·rw[l9]at hk;split at hk;·cases hk
  ·rename_i hne;rw[E0,Et (by omega),<-E0];exact h.nil k hk
 ·rcases mem_upA hp with hp|rfl;·exact h.ks p hp
  ·exact⟨h0,hv⟩
 ·rcases mem_upA hp with hp|rfl;·have:=h.len p hp;omega
  ·simp;omega
 ·unfold fvL;rw[E0,F2 (by omega)];rfl
 ·have:=h.ks p hp;unfold fvL;rw[E0,Et (by omega),<-E0]
def bP (cons:List Con):PV:= .sl (cons.map cC)
def mpR (u:jP)(L:uo):Own:= .mp true none ((u.map λp=>(p.1,fvL L p.1)).map λp=>(Value.int .i64 p.1,PV.raw p.2))
theorem yk (cons:List Con)(N:Nat)(hc: ∀c∈cons,ConB c)(hN: ∀c∈cons,∀v∈usesR c,0<=v/\v.toNat<N)(hl:cons.length*128<=140737488355328)(hM:((cons.map λc=>(usesR c).length).sum+1)*8<=140737488355328):
  SpecO Tryz.prog 103 true [] [] [bP cons] [] (λns=>[ny (cons.map cC) (ns.getD 1 undef) (ns.getD 2 undef),mpS (ia cons).1,mpU (ia cons).2]) (λns=>[.raw (ns.getD 0 undef)]):=by
 refine SpecO.body [] [1001,1002,1003] Tryz.func103 Y Y Y Y λw0 Z1=> ?_;generalize hM2:(cons.map λc=>(usesR c).length).sum=M at hM;generalize hR:ia cons=R;refine .B ?_;refine J.mm Y Y Y Y ?_;refine J.mm Y Y Y Y ?_;refine J.name 1002 (s:=9) Y Y Y λua=> ?_;refine J.name 1003 (s:=10) Y Y Y λuu=> ?_;refine J.sub (Rel.raw (s:=9) (g:=1002) Y (.inl Y) Y Y Y) ?_;refine J.sub (Rel.raw (s:=10) (g:=1003) Y (.inl Y) Y Y Y) ?_;refine .B ?_;refine T.sub (λa w h=>Rel.fam0 N 3 1 h) ?_;refine T.nameO 1004 3 Y Y λU0=> ?_;refine T.name 1001 (s:=3) Y Y Y λuq=> ?_;have hcl:(cons.map cC).length=cons.length:=EB ..;refine T.K (T.ind (λx:Nat×bF×jP×Value×uo=>⟨[(3,.optr 0 0 0 0),(13,.val true (bP cons)),(14,.val true (.int .i64 (cons.map cC).length)),(15,.val true (.int .i64 x.1)),(1001,.eq uq 0),(1002,.eq ua 1),(1003,.eq uu 2),(1004,.eq x.2.2.2.1 3)],[(0,some (ny (cons.map cC) ua uu)),(1,some (mpS x.2.1)),(2,some (mpR x.2.2.1 x.2.2.2.2)),(3,some (.fam 3 1 true x.2.2.2.2))],4⟩)
  (λx=>x.1<=cons.length/\di x.1 (cons.drop x.1) x.2.1 x.2.2.1=R/\∃t,UsOk N t x.2.2.1 x.2.2.2.2/\t+((cons.drop x.1).map λc=>(usesR c).length).sum<=M) (λx=>cons.length-x.1) (0,[],[],U0,List.replicate N (tu,[]))
  ⟨by simp,hR,0,⟨by simp[List.map_const',xO],λk hk=> ?_,.nil,by simp,by simp⟩,by simp[hM2]⟩ (λ_ _ h=>h) ?_)
 ·show((List.replicate N ((tu,[]):Value×List (List PV))).getD k (tu,[])).1=tu;rw[E0];cases hk:(List.replicate N ((tu,[]):Value×List (List PV)))[k]? with
  |none=>rfl
  |some p=>rw[G0 (EC hk)];rfl
 rintro⟨i,o,u,U,L⟩ ⟨hi,hR,t,hu,ht⟩ ih;simp only at hi hR hu ht;dsimp only;refine .B ?_;refine T.cd Y (λh1=> ?_) (λh1=> ?_)
 ·have h1:i<cons.length:=(by simpa using h1);have hrow:(cons.map cC)[((i:Nat):Int).toNat]? =some (cC cons[i]):=(by simp[h1]);have hcb:=hc _ (EA h1);have hin:=hN _ (EA h1);have hus:=xH cons[i] hcb;rw[EP h1]at hR ht;rw[di]at hR;simp only[Ek,FX]at ht;generalize cons[i]=c at*;generalize usesR c=vs at*;refine .B ?_;refine .F (r:=cC c) hrow ?_;refine .L ?_;refine .B ?_;refine .X ?_;refine J.sub (Rel.deraw (s:=23) (g:=1002) Y Y) ?_;refine .B ?_;refine J.mu (i:Int) true Y Y Y Y Y Y Y Y Y Y Y (oz Tryz.underlying3) (λ_ _ _ h=>cX h) Y ?_;refine .B ?_;refine .D hus.frz ?_;generalize hu1:ft u i vs=u1 at hR;generalize hrest:((cons.drop (i+1)).map λc=>(usesR c).length).sum=rest at ht;refine T.K (T.ind (λx:Nat×jP×Value×uo=>⟨[(3,.optr 0 0 0 0),(4,.val true (.int .i64 i)),(13,.val true (bP cons)),(14,.val true (.int .i64 (cons.map cC).length)),(15,.val true (.int .i64 i)),(26,.val true (aq vs)),(27,.val true (.int .i64 (vs.map cI).length)),(28,.val true (.int .i64 x.1)),(1001,.eq uq 0),(1002,.eq ua 1),(1003,.eq uu 2),(1004,.eq x.2.2.1 3)],[(0,some (ny (cons.map cC) ua uu)),(1,some (mpS (upA o (i:Int) true))),(2,some (mpR x.2.1 x.2.2.2)),(3,some (.fam 3 1 true x.2.2.2))],4⟩)
   (λx=>x.1<=vs.length/\ft x.2.1 i (vs.drop x.1)=u1/\∃t,UsOk N t x.2.1 x.2.2.2/\t+(vs.length-x.1)+rest<=M) (λx=>vs.length-x.1) (0,u,U,L) ⟨by simp,hu1,t,hu,by simp;omega⟩ (λ_ _ h=>h) ?_)
  rintro⟨j,u,U,L⟩ ⟨hj,hu1,t,hu,ht⟩ ih2;simp only at hj hu1 hu ht;dsimp only;refine .B ?_;refine T.cd Y (λh2=> ?_) (λh2=> ?_)
  ·have h2:j<vs.length:=(by simpa using h2);have hv:=hin _ (EA h2);have hvr:(vs.map cI)[((j:Nat):Int).toNat]? =some (cI vs[j]):=ax h2;rw[EP h2]at hu1;generalize vs[j]=v at*;obtain⟨uk,hk,hfv⟩:=hu.at hv.2;have ev:((v.toNat:Nat):Int)=v:=(by omega);rw[ev]at hk hfv;have hpu:=λu'=>hu.put (i:=(i:Int)) hv.1 hv.2 u';have hkl:((lkA u v).getD []).length<=t:=by
    cases hc:lkA u v with
    |none=>simp
    |some l=>exact hu.len _ (fk hc)
   have hval:((lkA (u.map λp=>(p.1,fvL L p.1)) v).map λx=>PV.raw x)=some (.raw uk)∨(lkA (u.map λp=>(p.1,fvL L p.1)) v=none/\tu=uk):=by
    rw[yR];cases hc:lkA u v with
    |some l=>exact .inl (by simp[hfv])
    |none=>
     refine .inr ⟨rfl,?_⟩;have:=hu.nil v.toNat (by rw[ev];exact hc);rw[E0,hk]at this;exact this.symm
   generalize hold:((lkA u v).getD []:List Int)=old at*;refine .B ?_;refine .I (r:=cI v) hvr ?_;refine .M ?_;refine T.sub (λa w h=>Rel.split 1005 v.toNat (q:=3) Y Y hk h) ?_;refine T.rdw 14 Y (by kernel_rfl) Y ?_
   iterate 8 refine J.H Y ?_
   refine J.lr 1003 (q:=2) (u:=uu) Y Y Y Y Y Y Y Y Y ?_;refine J.H Y ?_;refine J.lm 1005 v Y Y Y Y Y Y Y Y Y CU (oz Tryz.underlying3) (λ_ _ _ h=>cX h) hval Y Y ?_;refine J.H Y ?_;refine .V ?_;refine J.ad Y Y Y Y Y Y Y Y Y Y Y Y Y Y Y Y Y Y (cy Y) (by show(List.length _+1)*8<=_;simp;omega) ?_;refine J.nil ⟨rfl,?_⟩;refine J.name 1006 (s:=45) Y Y Y λu'=> ?_;refine J.sub (Rel.raw (s:=45) (g:=1006) Y (.inl Y) Y Y Y) ?_;refine J.sub (Rel.deraw (s:=35) (g:=1003) Y Y) ?_;refine J.mu v u' Y Y Y Y Y Y Y Y Y Y Y (oz Tryz.underlying3) (λ_ _ _ h=>cX h) Y ?_;refine J.sub (λa w h=>Rel.join v.toNat (g:=1006) (q:=5) (n:=6) (rows:=(old++[(i:Int)]).map cI) Y (by rw[F4];rfl) Y Y h) ?_;refine J.nil ?_;refine T.nameO 1004 7 Y Y λU3=> ?_;refine .B ?_;rw[ai (l:=vs.length) h2 (by omega),List.set_set,(hpu u').2];have hih:=ih2 (j+1,upA u v (old++[(i:Int)]),U3,L.set v.toNat (u',(old++[(i:Int)]).map cI)) ⟨by omega,by rw[<-hu1,<-hold];rfl,t+1,(hpu u').1,by show t+1+(vs.length-(j+1))+rest<=M;omega⟩ (by show _-_<_-_;omega);exact T.K hih
  ·have h2:j=vs.length:=(by simp at h2;omega);subst h2;rw[FR]at hu1;obtain rfl:u=u1:=hu1;refine .B ?_;rw[ai (l:=cons.length) h1 (by omega)];have hih:=ih (i+1,upA o (i:Int) true,u,U,L) ⟨by omega,hR,t,hu,by show t+((cons.drop (i+1)).map λc=>(usesR c).length).sum<=M;omega⟩ (by show _-_<_-_;omega);exact T.K hih
 ·have h1:i=cons.length:=(by simp at h1;omega);subst h1;rw[FR,di]at hR;subst hR;have hin: ∀p∈u.map λp=>(Value.int .i64 p.1,fvL L p.1,p.2.map cI),p.2∈L:=by
   intro p hp;obtain⟨q,hq,rfl⟩:=EH.1 hp;have hks:=hu.ks q hq;obtain⟨v,h1,h2⟩:=hu.at hks.2;have ev:((q.1.toNat:Nat):Int)=q.1:=(by omega);rw[ev]at h1 h2;have hlk:lkA u q.1=some q.2:=by
    obtain⟨i,hi⟩:=EK hq;exact r5 hu.nod hq
   rw[hlk]at h1;simp only[h2];exact EC h1
  have hmp:mpR u L= .mp true none ((u.map λp=>(Value.int .i64 p.1,fvL L p.1,p.2.map cI)).map λp=>(p.1,PV.raw p.2.1)):=by
   unfold mpR;rw[Fi,Fi];rfl
  refine T.sub (λa w h=>Rel.meltM (qc:=2) (q:=3) (e:=3) (sz:=1) (frc:=true) (fr:=true) (b:=none) (L:=L) (u.map λp=>(Value.int .i64 p.1,fvL L p.1,p.2.map cI)) hin (λb h=>by obtain⟨u,hu,_⟩:=h;cases hu) (by exact congrArg some hmp) Y Y h) ?_;refine T.sub (Rel.raw (s:=3) (g:=1001) Y (.inr Y) Y Y Y) ?_;rw[show((u.map λp=>(Value.int .i64 p.1,fvL L p.1,p.2.map cI)).map λp=>(p.1,PV.sl p.2.2))=u.map λp=>(Value.int .i64 p.1,aq p.2)from by rw[Fi];rfl];refine .B ?_;exact⟨[],[0,1,2],[uq,ua,uu],trivial,⟨rfl,rfl,rfl,rfl,rfl,rfl,rfl,rfl,rfl,trivial⟩,rfl,.v Y Y Y (λ_=>rfl) .nil⟩
def cW (o:bF)(j:Nat):Bool:=(lkA o (j:Int)).getD false
theorem pT (c:Int): ∀(l:List Int) (o:bF),lkA (fz l o) c=if c∈l then some true else lkA o c
 | [],o=>by simp[fz]
 |x::l,o=>by
  have:=pT c l (upA o x true);rw[show fz (x::l) o=fz l (upA o x true)from Y,this,l9];by_cases h:c∈l;·rw[E6 h,E6 (.tail _ h)]
  ·rw[E4 h];by_cases e:x=c;·rw[E6 e,E6 (by rw[e];exact .head _)]
   ·rw[E4 e,E4 (λhm=>(ET.1 hm).elim (λh2=>e h2.symm) h)]
theorem nS: ∀(l:List Int) (o:bF),(o.map (·.1)).Nodup->((fz l o).map (·.1)).Nodup
 | [],o,h=>h
 |x::l,o,h=>nS l (upA o x true) (oD o h)
theorem y7 {β:Type}(p:Int×β)(l:List (Int×β))(a:Int):dlA (p::l) a=if p.1=a then l else p::dlA l a:=by
 unfold dlA;rw[tN];by_cases h:p.1=a;·rw[E6 h,E6 h];rfl
 ·rw[E4 h,E4 h];cases fiA l a<;>simp
theorem BY {β:Type}(a:Int): ∀l:List (Int×β),(dlA l a).Sublist l
 | []=>by simp[dlA,fiA]
 |p::l=>by
  rw[y7];split;·exact List.sublist_cons_self _ _
  ·exact(BY a l).cons_cons p
theorem C2 {β:Type}(a c:Int): ∀l:List (Int×β),(l.map (·.1)).Nodup->lkA (dlA l a) c=if a=c then none else lkA l c
 | [],_=>by simp[dlA,fiA,xO]
 |p::l,hn=>by
  have hn2:=FH.1 hn;have hno:p.1=c->lkA l c=none:=λe=>by
   cases h:lkA l c with
   |none=>rfl
   |some b=>exact EX (EH.2 ⟨(c,b),fk h,e.symm⟩) hn2.1
  rw[y7];by_cases h:p.1=a
  ·rw[E6 h,dp];by_cases e:a=c;·rw[E6 e];exact hno (h.trans e)
   ·rw[E4 e,E4 (λh2=>e (h.symm.trans h2))]
  ·rw[E4 h,dp,dp,C2 a c l hn2.2];by_cases e:p.1=c;·rw[E6 e,E6 e,E4 (λh2=>h (e.trans h2.symm))]
   ·rw[E4 e,E4 e]
theorem o3 (i c:Int): ∀(vs:List Int) (u:jP),vs.Nodup->(lkA (ft u i vs) c).getD []=if c∈vs then(lkA u c).getD []++[i]else(lkA u c).getD []
 | [],u,_=>by simp[ft]
 |v::vs,u,hn=>by
  have hn2:=FH.1 hn;rw[show ft u i (v::vs)=ft (upA u v ((lkA u v).getD []++[i])) i vs from Y,o3 i c vs _ hn2.2,l9];by_cases e:v=c
  ·subst e;rw[E4 hn2.1,E6 Y,E6 (.head _)];rfl
  ·rw[E4 e];by_cases h:c∈vs;·rw[E6 h,E6 (.tail _ h)]
   ·rw[E4 h,E4 (λhm=>(ET.1 hm).elim (λh2=>e h2.symm) h)]
theorem qN: ∀(cons:List Con) (i:Nat) (o:bF) (u:jP),(o.map (·.1)).Nodup->
  (((di i cons o u).1).map (·.1)).Nodup/\(∀j,cW (di i cons o u).1 j=if i<=j/\j<i+cons.length then true else cW o j)/\
  ∀(v x:Int),x∈(lkA (di i cons o u).2 v).getD []↔x∈(lkA u v).getD []∨∃k c,cons[k]? =some c/\v∈usesR c/\x=((i+k:Nat):Int)
 | [],i,o,u,h=>⟨h,λj=>by rw[E4 (by simp)];rfl,λv x=>by simp[di]⟩
 |c::cons,i,o,u,h=>by
  obtain⟨h1,h2,h3⟩:=qN cons (i+1) (upA o i true) (ft u i (usesR c)) (oD o h);refine⟨h1,λj=> ?_,λv x=> ?_⟩
  ·have e1:cW (upA o i true) j=if i=j then true else cW o j:=by
    unfold cW;rw[l9];by_cases e:i=j;·rw[E6 e,E6 (by omega)];rfl
    ·rw[E4 e,E4 (by omega)]
   rw[di,h2 j,e1];by_cases e:i=j;·rw[E6 e,ite_self,E6 (by simp;omega)]
   ·rw[E4 e];by_cases hj:i+1<=j/\j<i+1+cons.length;·rw[E6 hj,E6 (by simp;omega)]
    ·rw[E4 hj,E4 (by simp;omega)]
  ·rw[di,h3 v x,o3 _ _ (usesR c) u (dF (ca _))];constructor
   ·rintro(hx|⟨k,c',h4,h5,h6⟩)
    ·split at hx
     ·rename_i hv;rcases EW.1 hx with hx|hx;·exact .inl hx
      ·exact .inr ⟨0,c,rfl,hv,by rw[EI.1 hx];rfl⟩
     ·exact .inl hx
    ·exact .inr ⟨k+1,c',by simpa using h4,h5,by rw[h6];congr 1;omega⟩
   ·rintro(hx|⟨k,c',h4,h5,h6⟩)
    ·refine .inl ?_;split;·exact Ex _ hx
     ·exact hx
    ·cases k with
     |zero=>
      simp at h4;subst h4;rw[E6 h5];exact .inl (Ey _ (by rw[h6];exact .head _))
     |succ k=>exact .inr ⟨k,c',by simpa using h4,h5,by rw[h6];congr 1;omega⟩
theorem nF {t:Nat}(i:Int): ∀(vs:List Int) (u:jP),(∀p∈u,p.2.length<=t)->∀p∈ft u i vs,p.2.length<=t+vs.length
 | [],u,h,p,hp=>h p hp
 |v::vs,u,h,p,hp=>by
  have:=nF (t:=t+1) i vs (upA u v ((lkA u v).getD []++[i])) (λq hq=>by
   rcases mem_upA hq with hq|rfl;·have:=h q hq;omega
   ·have:((lkA u v).getD []).length<=t:=by
     cases hc:lkA u v with
     |none=>simp
     |some l=>exact h _ (fk hc)
    simp;omega) p hp
  simp;omega
theorem sT: ∀(cons:List Con) (i t:Nat) (o:bF) (u:jP),(∀p∈u,p.2.length<=t)->∀p∈(di i cons o u).2,p.2.length<=t+(cons.map λc=>(usesR c).length).sum
 | [],i,t,o,u,h,p,hp=>by simpa[di]using h p hp
 |c::cons,i,t,o,u,h,p,hp=>by
  have:=sT cons (i+1) (t+(usesR c).length) (upA o i true) (ft u i (usesR c)) (nF _ _ _ h) p hp;simp only[Ek,FX];omega
def AllEnds (cons:List Con)(d:aa)(R:Option aa):Prop:=eV leD (GoodD d.length) aX cons d R
open Classical in
noncomputable def fL (cons:List Con)(d:aa):Option aa:=if h: ∃R:Option aa,AllEnds cons d R then h.choose else none
theorem eP {cons:List Con}{d:aa}{R:Option aa}(h:AllEnds cons d R):R=fL cons d:=by
 have hex: ∃R:Option aa,AllEnds cons d R:=⟨R,h⟩;unfold fL;rw[dif_pos hex];exact eV.one (aW d.length) (λ_=>Iff.rfl) h hex.choose_spec
theorem qQ {cons:List Con}{d:aa}(h: []∈d):fL cons d=none:=by
 refine(eP (R:=none) ?_).symm;rintro⟨e,ge,hle,_⟩;obtain⟨j,hj⟩:=EK h;have hjl:=(E8.1 hj).1;obtain⟨x,hx⟩:=ge.ne (v:=(j:Int)) (by simpa using hjl);have:=hle.2 j x (by omega) hx;unfold domAt at this;rw[E0,Eo,hj]at this;cases this
theorem leD.sub {n:Nat}{a b:aa}(ga:GoodD n a)(gb:GoodD n b)(h:leD a b):Sub a b:=by
 refine⟨h.1,λi x y hx hy v hv=> ?_⟩;have h1:domAt a (i:Int)=x:=by
  unfold domAt;rw[E0,Eo,hx];rfl
 have h2:domAt b (i:Int)=y:=by
  unfold domAt;rw[E0,Eo,hy];rfl
 have:=h.2 (i:Int) v (by omega) (by rw[h1];exact hv);rwa[h2]at this
theorem f4 {n:Nat}{a b:aa}(ga:GoodD n a)(gb:GoodD n b)(h:leD a b):weight a<=weight b/\(a≠b->weight a<weight b):=jS (leD.sub ga gb h) ga.few.fine gb.few.fine
def ye (m:Nat)(o:bF):Nat:=((List.range m).filter (cW o)).length
theorem CM (m:Nat)(o:bF):ye m o<=m:=by
 have:=Ez (cW o) (List.range m);simpa[ye]using this
structure QInv (cons:List Con)(d:aa)(x:aa×bF):Prop where
 come:Come leD (GoodD d.length) aX cons d x.1
 nod:(x.2.map (·.1)).Nodup
 shut: ∀(j:Nat) c,cons[j]? =some c->cW x.2 j=false->aX c x.1=some x.1
theorem xn {cons:List Con}{d:aa}(gd:GoodD d.length d):QInv cons d (d,(ia cons).1):=by
 obtain⟨h1,h2,_⟩:=qN cons 0 [] [] .nil;refine⟨Come.refl (aW _) gd,h1,λj c hj hb=> ?_⟩;have hjl:=(E8.1 hj).1;have:=h2 j;rw[E6 (by omega)]at this;rw[show cW (d,(ia cons).1).2 j=cW (di 0 cons [] []).1 j from Y,this]at hb;cases hb
theorem A7 {cons:List Con}{d:aa}{x:aa×bF}(h:QInv cons d x)(hn:jg cons.length x.2=none):AllEnds cons d (some x.1):=by
 refine⟨h.come,λc hc=> ?_⟩;obtain⟨j,hj⟩:=EK hc;have hjl:=(E8.1 hj).1;have:=GV.1 hn j (ES.2 hjl);exact h.shut j c hj (by simpa[cW]using this)
theorem zF {cons:List Con}{d:aa}{P:Con->(Int->Int)->Prop}(hs: ∀c∈cons,StepOK d.length (usesR c) (P c) (aX c)){x:aa×bF}{i:Nat}{c:Con}{now:aa}{o2:bF}(h:QInv cons d x)(hi:jg cons.length x.2=some i)(hc:cons[i]? =some c)(hnow:aX c x.1=some now)
  (ho: ∀j,cW o2 j=true↔cW (dlA x.2 (i:Int)) j=true∨∃v c',v<x.1.length/\x.1[v]? ≠now[v]? /\cons[j]? =some c'/\(v:Int)∈usesR c') (hn2:(o2.map (·.1)).Nodup):
  QInv cons d (now,o2)/\weight now*(cons.length+1)+ye cons.length o2<weight x.1*(cons.length+1)+ye cons.length x.2:=by
 have O:=aW d.length;have hcm:=EC hc;have hst:=hs c hcm;have gx:=h.come.fine;have hcome:=h.come.step O hcm hst.takes hnow;have gn:=hcome.fine;have hlo:x.1.length=now.length:=(by rw[gx.len,gn.len]);have hle:=(hst.takes.less _ _ gx hnow).2;have hopen:cW x.2 i=true/\i<cons.length:=by
  unfold jg at hi;rw[GD]at hi;exact⟨hi.1,by simpa using hi.2.1⟩
 have hd: ∀j,cW (dlA x.2 (i:Int)) j=if i=j then false else cW x.2 j:=λj=>by
  unfold cW;rw[C2 _ _ _ h.nod];by_cases e:i=j;·subst e;rw[E6 Y,E6 Y];rfl
  ·rw[E4 (by omega),E4 e]
 have same: ∀j c',cons[j]? =some c'->cW o2 j=false->∀u∈usesR c',domAt x.1 u=domAt now u:=λj c' hj hb u hu=>by
  have hin:=(hs c' (EC hj)).in' u hu;have hne: ¬(x.1[u.toNat]? ≠now[u.toNat]?):=λhne=>by
   have:=(ho j).2 (.inr ⟨u.toNat,c',by rw[gx.len];exact hin.2,hne,hj,by rw[show((u.toNat:Nat):Int)=u by omega];exact hu⟩);rw[hb]at this;cases this
  have e:=Classical.not_not.1 hne;unfold domAt;rw[E0,E0,e]
 refine⟨⟨hcome,hn2,λj c' hj hb=> ?_⟩,?_⟩
 ·have hbd:cW (dlA x.2 (i:Int)) j=false:=by
   cases hh:cW (dlA x.2 (i:Int)) j with
   |false=>rfl
   |true=>rw[(ho j).2 (.inl hh)]at hb;cases hb
  rw[hd j]at hbd;by_cases e:i=j
  ·subst e;rw[hc]at hj;obtain rfl:=E7 hj;have hsm:=same i c hc hb;have e:now=x.1:=jM gn gx λv y h0=>by
    by_cases hv:v∈usesR c;·rw[hsm v hv]
    ·rw[hst.off x.1 now gx hnow v h0 hv]
   show aX c now=some now;rw[e,hnow,e]
  ·rw[E4 e]at hbd;exact(hs c' (EC hj)).stays x.1 now gx gn (h.shut j c' hj hbd) (same j c' hj hb)
 ·have hw:=f4 gn gx hle;by_cases e:now=x.1
  ·subst e;have hcnt:ye cons.length o2<ye cons.length x.2:=by
    refine kq (p:=cW x.2) (q:=cW o2) (List.range cons.length) i (λj hj=> ?_) (ES.2 hopen.2) hopen.1 ?_
    ·rcases (ho j).1 hj with h1|⟨v,_,_,hne,_⟩
     ·rw[hd j]at h1;split at h1;·cases h1
      ·exact h1
     ·exact EX Y hne
    ·cases hb:cW o2 i with
     |false=>rfl
     |true=>
      rcases (ho i).1 hb with h1|⟨v,_,_,hne,_⟩;·rw[hd i,E6 Y]at h1;cases h1
      ·exact EX Y hne
   omega
  ·have h1:=hw.2 e;have h2:=CM cons.length o2;have h3:weight now*(cons.length+1)+(cons.length+1)<=weight x.1*(cons.length+1):=by
    have:=F7 (cons.length+1) h1;rw[GJ]at this;exact this
   omega
def qV (x:List (Int×Int)):Bool:=decide ((vals x).length=1)
def bY (d:aa):Option (List Int):=if d.all qV=true then some (d.map av)else none
def yN (R:Option (List Int)):List RV:=[.own 3 1 ((R.getD []).map cI),.val (.bool R.isSome)]
theorem pj {pre post:aa}{x:List (Int×Int)}(h:qV x=false):bY (pre++x::post)=none:=by
 unfold bY;rw[E4];simp[h]
theorem tL (d:aa)(hd:d.length*24<=140737488355328)(hf: ∀x∈d,Fine x):Spec Tryz.prog 69 false [ao d] (yN (bY d)):=by
 refine Spec.body Tryz.func69 Y Y Y λw0 Z0=> ?_;generalize hR:bY d=R;refine .B ?_;refine .Q ?_;refine T.K (T.listI d (λpre=>pre.all qV=true) (λn pre post=>⟨[(4,.ref 0),(10,.val false (ao d)),(11,.val true (.int .i64 (d.map cD).length)),(12,.val true (.int .i64 n))],[(0,some (.sl 3 1 true ((pre.map av).map cI)))],1⟩) (λ_ _ h=>h) (by simp) ?_ ?_)
 ·rintro n pre x post h hn hi ih;have hlt:=bW h hn;have hfx:=hf x (by rw[h];simp);have hxl:=hfx.len;have hs:=uJ hfx;refine .B ?_;refine T.ct2 Y (bV h hn) ?_;refine .B ?_;refine .F (r:=cD x) (aM h hn) ?_;refine .D (ly x) ?_;have no:qV x=false->R=none:=λhx=>(by rw[<-hR,h];exact pj hx);cases hx:x.isEmpty with
  |true=>
   have hxe:x=[]:=(by simpa using hx);have hR2:=no (by rw[hxe];rfl);subst hR2;refine .B ?_;refine T.ct Y ?_;refine .B ?_;exact⟨_,.ownN Y (.v Y Y Y (λ_=>rfl) .nil)⟩
  |false=>
   refine .B ?_;refine .D (ii x (by omega)) ?_;refine T.cd Y (λh1=> ?_) (λh1=> ?_)
   ·have hR2:=no (EE λe=>by
     rw[hs,e]at h1;exact h1 Y)
    subst hR2;refine .B ?_;exact⟨_,.ownN Y (.v Y Y Y (λ_=>rfl) .nil)⟩
   ·have h1:qV x=true:=EF (by
     have:gp x=1:=Classical.not_not.1 h1;rw[hs]at this;omega)
    refine .B ?_;refine .V ?_;refine J.aI Y Y Y Y Y Y Y Y Y Y Y Y Y Y Y Y Y Y Y (by simp;omega) ?_;refine .B ?_;rw[ai hlt (by omega)];have:=ih (by simp[hi,h1]);rw[F4]at this;exact T.K this
 ·intro hi;have hR:some (d.map av)=R:=(by rw[<-hR,bY,E6 hi]);subst hR;refine .B ?_;refine T.cf2 Y bj ?_;refine .B ?_;exact⟨_,.o Y Y Y (λ_=> .inl Y) (by simp) (.v rfl rfl rfl (λ_=>rfl) .nil)⟩
theorem tc (d:aa)(hd:d.length*24<=140737488355328)(hf: ∀x∈d,Fine x):Spec Tryz.prog 77 false [ao d] (yN (bY d)):=by
 refine Spec.body Tryz.func77 Y Y Y λw0 Z0=> ?_;generalize hR:bY d=R;refine .B ?_;refine .Q ?_;refine T.K (T.ind (λi:Nat=>⟨[(0,.val false (ao d)),(4,.ref 0),(5,.val true (.int .i64 i))],[(0,some (.sl 3 1 true (((d.take i).map av).map cI)))],1⟩) (λi=>i<=d.length/\(d.take i).all qV=true) (λi=>d.length-i) 0 (by simp) (λ_ _ h=>h) ?_);rintro i ⟨hi,ho⟩ ih;refine .B ?_;refine T.cd Y (λh1=> ?_) (λh1=> ?_)
 ·have h1:i<d.length:=(by simpa using h1);have hfx:=hf _ (EA h1);have hv:=bB d[i] (y6 hfx.ok hfx.val) (by have:=hfx.few;omega) (by have:=hfx.len;omega);have hrow:(d.map cD)[((i:Nat):Int).toNat]? =some (cD d[i]):=(by simp[h1]);refine .B ?_;refine .F (r:=cD d[i]) hrow ?_;refine .D hv.frz ?_;refine T.cd Y (λh2=> ?_) (λh2=> ?_)
  ·have h2:qV d[i]=false:=EE λe=>by
    simp only[EB]at h2;exact h2 (by rw[e];rfl)
   have hR2:R=none:=by
    rw[<-hR,<-GA i d,EP h1];exact pj h2
   subst hR2;refine .B ?_;refine .Q ?_;exact⟨_,.o Y Y Y (λ_=> .inl Y) (by simp) (.v rfl rfl rfl (λ_=>rfl) .nil)⟩
  ·have h2:(vals d[i]).length=1:=by
    have:(((vals d[i]).map cI).length:Int)=1:=Classical.not_not.1 h2;rw[EB]at this;omega
   have hlr:vals d[i]=[av d[i]]:=by
    obtain⟨x,hx⟩:=(j0 hfx.ok).1 h2;rw[hx];simp[vals,cH,av]
   rw[hlr];refine .B ?_;refine .F (r:=cI (av d[i])) Y ?_;refine .V ?_;refine J.aI Y Y Y Y Y Y Y Y Y Y Y Y Y Y Y Y Y Y Y (by simp;have:=hfx.few;omega) ?_;refine .B ?_;rw[ai (l:=d.length) h1 (by omega)];have:=ih (i+1) ⟨by omega,by rw[ED h1,Ft,ho];simp[qV,h2]⟩ (by omega);rw[ED h1,F4]at this;exact T.K this
 ·have h1:i=d.length:=(by simp at h1;omega);subst h1;rw[Ep]at ho⊢;have hR:some (d.map av)=R:=(by rw[<-hR,bY,E6 ho]);subst hR;refine .B ?_;exact⟨_,.o Y Y Y (λ_=> .inl Y) (by simp) (.v rfl rfl rfl (λ_=>rfl) .nil)⟩
structure ConsOk (d:aa)(cons:List Con):Prop where
 con: ∀c∈cons,ConB c
 right: ∀c∈cons,RightC d c
 few:cons.length*128<=140737488355328
 uses:((cons.map λc=>(usesR c).length).sum+1)*8<=140737488355328
theorem ConsOk.step {d:aa}{cons:List Con}(h:ConsOk d cons)(gd:GoodD d.length d): ∀c∈cons,StepOK d.length (usesR c) (λg=>(c.kind=4->0<=g c.b/\g c.b<=1)->bL c (o9 d.length g)=true) (aX c):=λc hc=>vC gd (h.con c hc) (h.right c hc)
theorem sH (d:aa)(cons:List Con)(hd:d.length*24<=140737488355328)(hx: ∀x∈d,Fine x/\(vals x).length<=4096)(hc:ConsOk d cons)
  (hone: ∀c∈cons,∀out,GoodD d.length out->leD out d->Spec Tryz.prog 105 false [ao out,.agg (cC c)] (aJ (aX c out))):
  Spec Tryz.prog 67 false [ao d,bP cons] (aJ (fL cons d)):=by
 refine Spec.body Tryz.func67 Y Y Y λw0 Z0=> ?_;generalize hR:fL cons d=R;refine .B ?_;refine T.sub (Rel.own0 (s:=6) 54 1 Y) ?_;refine T.K (T.listI d (λpre=>[]∉pre) (λn pre post=>⟨[(1,.val false (bP cons)),(6,.ref 0),(15,.val false (ao d)),(16,.val true (.int .i64 (d.map cD).length)),(17,.val true (.int .i64 n))],[(0,some (.sl 54 1 true (pre.map cD)))],1⟩) (λ_ _ h=>h) (by simp) ?_ ?_)
 ·rintro n pre x post h hn hi ih;have hlt:=bW h hn;have hxl:=(hx x (by rw[h];simp)).1.len;refine .B ?_;refine T.ct2 Y (bV h hn) ?_;refine .B ?_;refine .F (r:=cD x) (aM h hn) ?_;refine T.cd Y (λh1=> ?_) (λh1=> ?_)
  ·have hxe:x=[]:=(by simp at h1;exact h1);have:R=none:=(by rw[<-hR,qQ (by rw[h,hxe];simp)]);subst this;refine .B ?_;exact⟨_,.ownN Y (.v Y Y Y (λ_=>rfl) .nil)⟩
  ·have hxe:x≠[]:=λe=>h1 (by rw[e];rfl);refine .B ?_;refine .D (bT x (by omega)).frz ?_;refine .V ?_;refine J.aD Y Y Y Y Y Y Y Y Y Y Y Y Y Y Y Y Y Y Y (by omega) ?_;refine .B ?_;rw[ai hlt (by omega)];exact T.K (ih (by simp[hi,Ne.symm hxe]))
 ·intro hne;have gd:GoodD d.length d:=⟨⟨hd,λx h=>(hx x h).1,λx h=>(hx x h).2⟩,rfl,hne⟩;have hst:=hc.step gd;refine .B ?_;refine T.cf2 Y bj ?_;refine .B ?_;have hbg:=yk cons d.length hc.con (λc hcc=>(rA (hc.con c hcc) (hc.right c hcc)).2.2) hc.few hc.uses;refine J.co (qs:=[]) (cs2:=[]) false [] [1001,1002,1003] Y Y Y Y Y Y hbg trivial Y Y Y Y Y Y Y λns hns=> ?_;obtain⟨uq,ua,uu,rfl⟩: ∃uq ua uu,ns=[uq,ua,uu]:=by
   match ns,hns with
   | [a,b,c],_=>exact⟨a,b,c,rfl⟩
  refine .B ?_;have hlen: ∀p∈(ia cons).2,p.2.length*8<=140737488355328:=λp hp=>by
   have:=sT cons 0 0 [] [] (by simp) p hp;have:=hc.uses;omega
  have hlk: ∀(v x:Int),x∈(lkA (ia cons).2 v).getD []↔∃(k:Nat) (c:Con),cons[k]? =some c/\v∈usesR c/\x=(k:Int):=λv x=>by
   have:=(qN cons 0 [] [] .nil).2.2 v x;rw[show(ia cons).2=(di 0 cons [] []).2 from Y,this];simp[xO]
  have hqb:=xn (cons:=cons) gd;generalize (ia cons).1=o0 at*;generalize (ia cons).2=us at*;refine T.K (T.ind (λx:aa×bF=>⟨[(1,.val false (bP cons)),(6,.ref 0),(9,.val true (.raw uq)),(1001,.eq uq 1),(1002,.eq ua 2),(1003,.eq uu 3)],[(0,some (.sl 54 1 true (x.1.map cD))),(1,some ((ny (cons.map cC) ua uu).reg false)),(2,some ((mpS x.2).reg false)),(3,some ((mpU us).reg false))],4⟩)
   (λx=>QInv cons d x) (λx=>weight x.1*(cons.length+1)+ye cons.length x.2) (d,o0) hqb (λ_ _ h=>h) ?_)
  rintro⟨out,o⟩ hq ih;dsimp only;have gx:GoodD d.length out:=hq.come.fine;have hnx:=zQ (cons.map cC) o uq ua uu (by simp;have:=hc.few;omega);rw[EB]at hnx;refine .B ?_;refine J.co (qs:=[1,2]) (cs2:=[(ny (cons.map cC) ua uu).reg false,(mpS o).reg false]) false [1001,1002] [] Y Y Y Y Y Y hnx ⟨rfl,rfl,rfl,rfl,trivial⟩ Y Y Y Y Y Y Y λns hns=> ?_;obtain rfl:ns=[]:=EQ hns;cases hn:jg cons.length o with
  |none=>
   have hfin:=eP (A7 hq hn);rw[hR]at hfin;subst hfin;refine .B ?_;refine T.ct Y ?_;refine .B ?_;exact⟨_,.o Y Y Y (λ_=> .inl Y) (by simp) (.v rfl rfl rfl (λ_=>rfl) .nil)⟩
  |some i=>
   have hil:i<cons.length:=by
    unfold jg at hn;rw[GD]at hn;simpa using hn.2.1
   have hci:cons[i]? =some cons[i]:=E5 hil;have hcm:=EA hil;have hrow:(cons.map cC)[((i:Nat):Int).toNat]? =some (cC cons[i]):=(by simp[hil]);have hsp:=hone _ hcm out gx hq.come.less;have hstc:=hst _ hcm;have hqs:=λnow o2=>zF (o2:=o2) (now:=now) hst hq hn hci;generalize cons[i]=c at*;refine .B ?_;refine T.cf Y ?_;refine .B ?_;refine J.i Y Y Y Y Y Y Y Y Y (r:=cC c) (by simp) hrow rfl ?_;refine .B ?_;refine .C hsp ?_;cases hnow:aX c out with
   |none=>
    have hfin:=eP (d:=d) (R:=none) (show AllEnds cons d none from hq.come.none hcm hstc.takes hnow);rw[hR]at hfin;subst hfin;refine .B ?_;refine T.ct Y ?_;refine .B ?_;exact⟨_,.ownN Y (.v Y Y Y (λ_=>rfl) .nil)⟩
   |some now=>
    have hqs:=λo2=>hqs now o2 hnow;have gn:=(hstc.takes.less _ _ gx hnow).1;refine .B ?_;refine T.cf Y ?_;refine .B ?_;have hlen2:out.length=now.length:=(by rw[gx.len,gn.len]);have hml:((cons.map cC).length:Nat)=cons.length:=EB ..;refine T.K (T.ind (λx:Nat×bF=>⟨[(1,.val false (bP cons)),(6,.ref 0),(9,.val true (.raw uq)),(12,.ref 4),(52,.val true (.int .i64 (out.map cD).length)),(53,.val true (.int .i64 x.1)),(1001,.eq uq 1),(1002,.eq ua 2),(1003,.eq uu 3)],[(0,some (.sl 54 1 true (out.map cD))),(1,some ((ny (cons.map cC) ua uu).reg false)),(2,some ((mpS x.2).reg false)),(3,some ((mpU us).reg false)),(4,some (.sl 54 1 true (now.map cD)))],5⟩)
     (λx=>x.1<=out.length/\(x.2.map (·.1)).Nodup/\∀j,cW x.2 j=true↔cW (dlA o (i:Int)) j=true∨∃(w:Nat) (c':Con),w<x.1/\out[w]? ≠now[w]? /\cons[j]? =some c'/\(w:Int)∈usesR c') (λx=>out.length-x.1) (0,dlA o (i:Int))
     ⟨by simp,hq.nod.sublist ((BY (i:Int) o).map _),λj=>⟨.inl,λh=>h.resolve_right λ⟨w,c',h1,_⟩=>EX h1 (FK w)⟩⟩ (λ_ _ h=>h) ?_)
    rintro⟨v,o2⟩ ⟨hv,hnd,ho⟩ ih2;simp only at hv hnd ho;dsimp only;refine .B ?_;refine T.cd Y (λh1=> ?_) (λh1=> ?_)
    ·have h1:v<out.length:=(by simpa using h1);have h2:v<now.length:=(by omega);have hxl:=(gx.few.fine _ (EA h1)).len;have ra:(out.map cD)[((v:Nat):Int).toNat]? =some (cD out[v]):=(by simp[h1]);have rb:(now.map cD)[((v:Nat):Int).toNat]? =some (cD now[v]):=(by simp[h2]);have ea:out[v]? =some out[v]:=E5 h1;have eb:now[v]? =some now[v]:=E5 h2;have hw1:IntKind.i64.wrap ((v:Int)+1)=((v+1:Nat):Int):=ai (l:=out.length) h1 (by have:=gx.few.small;omega);have hch:=t6 (cons.map cC) o2 us (v:Int) uq ua uu hlen;generalize hxa:out[v]=xa at*;generalize hxb:now[v]=xb at*;refine .B ?_;refine .M ?_;refine J.io Y Y Y Y Y Y Y Y Y (by omega) (by simpa using h1) Y ?_;refine J.lo Y Y Y Y Y Y (r:=cD xa) ra Y ?_;refine .M ?_;refine J.io Y Y Y Y Y Y Y Y Y (by omega) (by simpa using h2) Y ?_;refine J.lo Y Y Y Y Y Y (r:=cD xb) rb Y ?_;refine .M ?_;refine .C (eL xa xb (by omega)) ?_;by_cases hab:xa=xb
     ·rw[EF hab];refine .B ?_;refine T.cf Y ?_;refine .B ?_;rw[hw1];have:=ih2 (v+1,o2) ⟨by omega,hnd,λk=>(ho k).trans (or_congr_right ⟨λ⟨w,c',h3,h4⟩=>⟨w,c',by omega,h4⟩,λ⟨w,c',h3,h4,h5⟩=>⟨w,c',by
       have:w≠v:=λe=>h4 (by rw[e,ea,eb,hab]);omega,h4,h5⟩⟩)⟩ (by show _-_<_-_;omega)
      exact T.K this
     ·rw[EE hab];refine .B ?_;refine T.ct Y ?_;refine .B ?_;refine J.co (qs:=[1,2,3]) (cs2:=[(ny (cons.map cC) ua uu).reg false,(mpS o2).reg false,(mpU us).reg false]) false [1001,1002,1003] [] Y Y Y Y Y Y hch ⟨rfl,rfl,rfl,rfl,rfl,rfl,trivial⟩ Y Y Y Y Y Y Y λns hns=> ?_;obtain rfl:ns=[]:=EQ hns;refine .B ?_;rw[hw1];have hb3: ∀k,cW (fz ((lkA us (v:Int)).getD []) o2) k=true↔cW o2 k=true∨∃c',cons[k]? =some c'/\(v:Int)∈usesR c':=λk=>by
       unfold cW;rw[pT];by_cases hm:(k:Int)∈(lkA us (v:Int)).getD []
       ·rw[E6 hm];obtain⟨k',c',h3,h4,h5⟩:=(hlk _ _).1 hm;obtain rfl:k=k':=(by omega);exact⟨λ_=> .inr ⟨c',h3,h4⟩,λ_=>rfl⟩
       ·rw[E4 hm];exact⟨.inl,λh=>h.resolve_right λ⟨c',h3,h4⟩=>hm ((hlk _ _).2 ⟨k,c',h3,h4,rfl⟩)⟩
      have:=ih2 (v+1,fz ((lkA us (v:Int)).getD []) o2) ⟨by omega,nS _ _ hnd,λk=>by
       rw[hb3 k,ho k];constructor
       ·rintro((h3|⟨w,c',h3,h4,h5⟩)|⟨c',h3,h4⟩);·exact .inl h3
        ·exact .inr ⟨w,c',by omega,h4,h5⟩
        ·exact .inr ⟨v,c',by omega,by rw[ea,eb];exact λe=>hab (E7 e),h3,h4⟩
       ·rintro(h3|⟨w,c',h3,h4,h5⟩);·exact .inl (.inl h3)
        ·by_cases e:w=v;·subst e;exact .inr ⟨c',h5⟩
         ·exact .inl (.inr ⟨w,c',by omega,h4,h5⟩)⟩ (by show _-_<_-_;omega)
      exact T.K this
    ·have h1:v=out.length:=(by simp at h1;omega);subst h1;refine .B ?_;have:=ih (now,o2) (hqs o2 ho hnd).1 (hqs o2 ho hnd).2;exact T.K this
theorem xP {d:aa}{c:Con}{R:Option aa}{N N':Nat}(h:SumOk d c)(h1:LinAns d c R N)(h2:gT d c R N')(hsm: ∀x∈d,x.length*64+1048576<=140737488355328):
  Spec Tryz.prog 139 false [ao d,.agg (cC c)] (aJ R)/\Spec Tryz.prog 145 false [ao d,.agg (cC c)] [.val (ao (R.getD [])),.val (.bool R.isSome)]:=by
 refine⟨(nW d c h.fine hsm R N h1),?_⟩;have hvb: ∀out:aa,out.length=d.length->∀v∈c.vars,0<=v/\v.toNat<out.length:=λout hl v hv=>(by rw[hl];exact h.fine.vin v hv);refine td d c h.fine.len h.fine.vl h.fine.ck h.pos h.fine.vin h.fine.dl h.fine.dom ?_ (λout=>(∀x∈out,Fine x)/\out.length=d.length) (λout hi=>⟨λx hx=>(hi.1 x hx).domB,hi.2⟩)
  (λout hi=>⟨⟨jC _ (hvb out hi.2) hi.1 _ (EO _),by rw[mostD,iN,hi.2]⟩,⟨jC _ (hvb out hi.2) hi.1 _ (EO _),by rw[mostB,iN,hi.2]⟩⟩) ⟨h.fine.dom,rfl⟩ R N' h2
 intro x hx;have hin:=cA (ae d c.vars c.coefs) 0 0 0 0 c.vars.length h.pos (by have:=h.fine.len;simp[ae];omega) (EO _);have hall: ∀x∈rotherW d c,Fine x:=by
  unfold rotherW;simp only;split;·exact h.fine.dom
  ·split
   ·split;·exact fA h.fine.dom ⟨⟨by simp,.nil⟩,by simp[vals],by simp[vals]⟩
    ·exact h.fine.dom
   ·exact fA h.fine.dom (mX (h.fine.dom _ (ac (h.fine.vin _ (az hin.1)).2)) _)
 exact(hall x hx).domB
def jW (k:Int):FuncId:=if k=1 then 133 else if k=2 then 134 else if k=3 then 135 else if k=4 then 136 else if k=5 then 137 else if k=6 then 138 else 139
theorem oP {d:aa}{c:Con}{R:Option aa}(h:Spec Tryz.prog (jW c.kind) false [ao d,.agg (cC c)] (aJ R)):Spec Tryz.prog 105 false [ao d,.agg (cC c)] (aJ R):=by
 refine Spec.body Tryz.func105 Y Y Y λw0 Z0=> ?_;unfold jW at h;refine .B ?_;refine T.cd Y (λh1=> ?_) (λh1=> ?_)
 ·have h1:c.kind=1:=h1;rw[E6 h1]at h;refine .B ?_;refine .D h ?_;exact⟨_,.o Y Y Y (λ_=> .inl Y) (by simp) (.v rfl rfl rfl (λ_=>rfl) .nil)⟩
 ·have h1: ¬c.kind=1:=h1;rw[E4 h1]at h;refine .B ?_;refine T.cd Y (λh1=> ?_) (λh1=> ?_)
  ·have h1:c.kind=2:=h1;rw[E6 h1]at h;refine .B ?_;refine .D h ?_;exact⟨_,.o Y Y Y (λ_=> .inl Y) (by simp) (.v rfl rfl rfl (λ_=>rfl) .nil)⟩
  ·have h1: ¬c.kind=2:=h1;rw[E4 h1]at h;refine .B ?_;refine T.cd Y (λh1=> ?_) (λh1=> ?_)
   ·have h1:c.kind=3:=h1;rw[E6 h1]at h;refine .B ?_;refine .D h ?_;exact⟨_,.o Y Y Y (λ_=> .inl Y) (by simp) (.v rfl rfl rfl (λ_=>rfl) .nil)⟩
   ·have h1: ¬c.kind=3:=h1;rw[E4 h1]at h;refine .B ?_;refine T.cd Y (λh1=> ?_) (λh1=> ?_)
    ·have h1:c.kind=4:=h1;rw[E6 h1]at h;refine .B ?_;refine .D h ?_;exact⟨_,.o Y Y Y (λ_=> .inl Y) (by simp) (.v rfl rfl rfl (λ_=>rfl) .nil)⟩
    ·have h1: ¬c.kind=4:=h1;rw[E4 h1]at h;refine .B ?_;refine T.cd Y (λh1=> ?_) (λh1=> ?_)
     ·have h1:c.kind=5:=h1;rw[E6 h1]at h;refine .B ?_;refine .D h ?_;exact⟨_,.o Y Y Y (λ_=> .inl Y) (by simp) (.v rfl rfl rfl (λ_=>rfl) .nil)⟩
     ·have h1: ¬c.kind=5:=h1;rw[E4 h1]at h;refine .B ?_;refine T.cd Y (λh1=> ?_) (λh1=> ?_)
      ·have h1:c.kind=6:=h1;rw[E6 h1]at h;refine .B ?_;refine .D h ?_;exact⟨_,.o Y Y Y (λ_=> .inl Y) (by simp) (.v rfl rfl rfl (λ_=>rfl) .nil)⟩
      ·have h1: ¬c.kind=6:=h1;rw[E4 h1]at h;refine .B ?_;refine .D h ?_;exact⟨_,.o Y Y Y (λ_=> .inl Y) (by simp) (.v rfl rfl rfl (λ_=>rfl) .nil)⟩
def lR (k:Int):FuncId:=if k=0 then 145 else if k=1 then 146 else if k=2 then 147 else if k=3 then 148 else if k=4 then 149 else if k=5 then 150 else 151
def c5 (R:Option aa):List RV:=[.val (ao (R.getD [])),.val (.bool R.isSome)]
theorem yF {d:aa}{c:Con}{R:Option aa}(h:Spec Tryz.prog (lR c.kind) false [ao d,.agg (cC c)] (c5 R)):Spec Tryz.prog 118 false [ao d,.agg (cC c)] (c5 R):=by
 refine Spec.body Tryz.func118 Y Y Y λw0 Z0=> ?_;unfold lR at h;refine .B ?_;refine T.cd Y (λh1=> ?_) (λh1=> ?_)
 ·have h1:c.kind=0:=h1;rw[E6 h1]at h;refine .B ?_;refine .D h ?_;exact r2
 ·have h1: ¬c.kind=0:=h1;rw[E4 h1]at h;refine .B ?_;refine T.cd Y (λh1=> ?_) (λh1=> ?_)
  ·have h1:c.kind=1:=h1;rw[E6 h1]at h;refine .B ?_;refine .D h ?_;exact r2
  ·have h1: ¬c.kind=1:=h1;rw[E4 h1]at h;refine .B ?_;refine T.cd Y (λh1=> ?_) (λh1=> ?_)
   ·have h1:c.kind=2:=h1;rw[E6 h1]at h;refine .B ?_;refine .D h ?_;exact r2
   ·have h1: ¬c.kind=2:=h1;rw[E4 h1]at h;refine .B ?_;refine T.cd Y (λh1=> ?_) (λh1=> ?_)
    ·have h1:c.kind=3:=h1;rw[E6 h1]at h;refine .B ?_;refine .D h ?_;exact r2
    ·have h1: ¬c.kind=3:=h1;rw[E4 h1]at h;refine .B ?_;refine T.cd Y (λh1=> ?_) (λh1=> ?_)
     ·have h1:c.kind=4:=h1;rw[E6 h1]at h;refine .B ?_;refine .D h ?_;exact r2
     ·have h1: ¬c.kind=4:=h1;rw[E4 h1]at h;refine .B ?_;refine T.cd Y (λh1=> ?_) (λh1=> ?_)
      ·have h1:c.kind=5:=h1;rw[E6 h1]at h;refine .B ?_;refine .D h ?_;exact r2
      ·have h1: ¬c.kind=5:=h1;rw[E4 h1]at h;refine .B ?_;refine .D h ?_;exact r2
theorem to {p q:Nat->Bool}{h:Nat}(e: ∀k,k<h->p k=q k):dJ p h=dJ q h:=by
 by_cases hk:dJ p h<h
 ·refine(jX hk (λj hj=> ?_) ?_).symm;·rw[<-e j (by omega)];exact fu hj
  ·rw[<-e _ hk];exact gM hk
 ·have hle:=e8 p h;have hh:dJ p h=h:=(by omega);rw[hh];refine(ln λj hj=> ?_).symm;rw[<-e j hj];exact fu (h:=h) (by omega)
theorem Bd {d:aa}{c:Con}(hv:bG d c)(hf: ∀x∈d,Fine x):placeO d c=placeR d c:=by
 have hh:=eF c;refine to λk hk=> ?_;have hv1:=hv.2 _ (az (c:=c) (k:=k) (by omega));have hv2:=hv.2 _ (az (c:=c) (k:=halfOf c+k) (by omega));exact BK (hf _ (ac hv1.2)).ok (hf _ (ac hv2.2)).ok
theorem Cg {out:aa}{i j:Nat}{x y z:List (Int×Int)}(hi:i<out.length)(hj:j<out.length)(hij:i≠j)(hz:z∉out):z∈(out.set i x).set j y↔z=x∨z=y:=by
 constructor
 ·intro h;obtain⟨k,hk⟩:=G2.1 h;rw[FP]at hk;split at hk
  ·simp only[FA,hj,if_true,E9]at hk;exact .inr hk.symm
  ·rw[FP]at hk;split at hk
   ·simp only[hi,if_true,E9]at hk;exact .inl hk.symm
   ·exact EX (EC hk) hz
 ·rintro(rfl|rfl)
  ·refine G2.2 ⟨i,?_⟩;rw[Et (Ne.symm hij),F2 hi]
  ·refine G2.2 ⟨j,?_⟩;rw[F2 (by simpa using hj)]
theorem AX {out:aa}{i j:Nat}{x y dx dy:List (Int×Int)}(hi:out[i]? =some dx)(hj:out[j]? =some dy)(hij:i≠j):(out.set i x).set j y=out↔x=dx/\y=dy:=by
 have hil:=(E8.1 hi).1;have hjl:=(E8.1 hj).1;constructor
 ·intro h;constructor
  ·have:((out.set i x).set j y)[i]? =out[i]? :=(by rw[h]);rw[Et (Ne.symm hij),F2 hil,hi]at this;exact E7 this
  ·have:((out.set i x).set j y)[j]? =out[j]? :=(by rw[h]);rw[F2 (by simpa using hjl),hj]at this;exact E7 this
 ·rintro⟨rfl,rfl⟩;have e1:out.set i x=out:=by
   obtain⟨h1,h2⟩:=E8.1 hi;subst h2;exact List.set_getElem_self h1
  rw[e1];obtain⟨h1,h2⟩:=E8.1 hj;subst h2;exact List.set_getElem_self h1
theorem zq {c:Con}{d out:aa}(hv:bG out c)(h:Cutd d out):dG c out=jr c out:=by
 have hh:=eF c;unfold dG jr;rw[Bd hv h.fine];by_cases hk:placeR out c=halfOf c;·rw[E6 hk,E6 hk]
 ·rw[E4 hk,E4 hk];have hkl:placeR out c<halfOf c:=(by have:=e8 (jB out c) (halfOf c);unfold placeR at hk⊢;omega);have hp:jB out c (placeR out c)=false:=gM hkl;have hv1:=hv.2 _ (az (c:=c) (k:=placeR out c) (by omega));have hv2:=hv.2 _ (az (c:=c) (k:=halfOf c+placeR out c) (by omega));have hab:varAt c (placeR out c)≠varAt c (halfOf c+placeR out c):=λe=>(by rw[jB,e]at hp;simp[nh]at hp);simp only;generalize varAt c (placeR out c)=a at*;generalize varAt c (halfOf c+placeR out c)=b at*;have ha:=aj hv1.2;have hb:=aj hv2.2;have fa:=h.fine _ (ac hv1.2);have fb:=h.fine _ (ac hv2.2);have na:=h.ne _ (ac hv1.2);have nb:=h.ne _ (ac hv2.2);generalize domAt out a=da at*;generalize domAt out b=db at*;rw[qC fa.ok na,qC fb.ok nb];simp only;have ex:domCut da (-1048576) (aP db)=cutR da (av da) (aP db):=ya fa.ok λv hv=>by
   have:=mj fa.ok hv;have:=fa.val v hv;omega
  have ey:domCut db (av da) 1048576=cutR db (av da) (max (av da) 1048576):=ya fb.ok λv hv=>by
   have:=fb.val v hv;omega
  rw[ex,ey];generalize cutR da (av da) (aP db)=x;generalize cutR db (av da) (max (av da) 1048576)=y;have hn:([]:List (Int×Int))∉out:=λe=>h.ne _ e Y;have hne:a.toNat≠b.toNat:=(by omega);have m1:(x=[]∨y=[])↔([]∈(out.set a.toNat x).set b.toNat y):=by
   rw[Cg hv1.2 hv2.2 hne hn];exact⟨λh=>h.elim (λh=> .inl h.symm) (λh=> .inr h.symm),λh=>h.elim (λh=> .inl h.symm) (λh=> .inr h.symm)⟩
  have m2:=AX (x:=x) (y:=y) ha hb hne;by_cases h1:x=[]∨y=[];·rw[E6 h1,E6 (m1.1 h1)]
  ·rw[E4 h1,E4 (λh=>h1 (m1.2 h))];by_cases h2:x=da/\y=db;·rw[E6 h2,E6 (m2.2 h2)]
   ·rw[E4 h2,E4 (λh=>h2 (m2.1 h))]
theorem zG {c:Con}{d:aa}{R:Option aa}{N:Nat}(hv:bG d c)(hf: ∀x∈d,Fine x)(hR:if []∈d then R=none else b9 (dG c) N d=some R):if []∈d then R=none else b9 (jr c) N d=some R:=by
 by_cases he: []∈d;·rw[E6 he]at hR⊢;exact hR
 ·rw[E4 he]at hR⊢;have h0:Cutd d d:=⟨rfl,hf,λx hx e=>he (e▸hx),λi x y hx hy v hv=>by rw[hx]at hy;exact E7 hy▸hv⟩;rw[<-hR];refine(sf (λx=>Cutd d x/\bG x c) (λx y hi hs=> ?_) (λx hi=>zq hi.2 hi.1) N d ⟨h0,hv⟩).symm;have:=rp hi.2 hi.1 hs;exact⟨this.1,this.2.1⟩
theorem w6 {c:Con}{out next:aa}(hf: ∀x∈out,Fine x)(hv:bG out c)(hs:jr c out= .inr next): ∀x∈next,Fine x:=by
 have hh:=eF c;unfold jr at hs;split at hs;·cases hs
 ·rename_i hk;have hkl:placeR out c<halfOf c:=(by have:=e8 (jB out c) (halfOf c);unfold placeR at hk⊢;omega);have hv1:=hv.2 _ (az (c:=c) (k:=placeR out c) (by omega));have hv2:=hv.2 _ (az (c:=c) (k:=halfOf c+placeR out c) (by omega));simp only at hs;have fa:=hf _ (ac hv1.2);have fb:=hf _ (ac hv2.2);split at hs;·cases hs
  ·split at hs;·cases hs
   ·obtain rfl:=Sum.inr.inj hs;intro x hx;rcases EV hx with hx|rfl
    ·rcases EV hx with hx|rfl;·exact hf x hx
     ·exact fa.cut (mE fa.ok _ _).1 λv hv=>(((mE fa.ok _ _).2 v).1 hv).1
    ·exact fb.cut (mE fb.ok _ _).1 λv hv=>(((mE fb.ok _ _).2 v).1 hv).1
theorem de {n:Nat}{d:aa}(gd:GoodD n d): ∀x∈d,x.length*64+1048576<=140737488355328:=λx hx=>by
 have:=gd.few.few x hx;have:=bN (gd.few.fine x hx).ok;omega
theorem tH {d:aa}{c:Con}(gd:GoodD d.length d)(h:SumOk d c):Spec Tryz.prog 139 false [ao d,.agg (cC c)] (aJ (fE c d)):=by
 obtain⟨M,hM⟩:=gB h;exact nW d c h.fine (de gd) _ M hM
theorem iS {d:aa}{c:Con}(gd:GoodD d.length d)(h:SumOk d c):Spec Tryz.prog 139 false [ao d,.agg (cC c)] (aJ (fE c d))/\Spec Tryz.prog 145 false [ao d,.agg (cC c)] (c5 (fE c d)):=by
 obtain⟨R,N,N',h1,h2,_⟩:=tG h;obtain⟨M,hM⟩:=gB h;obtain rfl:=tF hM h1;exact xP h h1 h2 (de gd)
theorem y9 {d:aa}{c:Con}(hk:c.kind=1)(hr:rightR d c=true):c=Ax c.vars/\c.vars.Nodup/\c.vars≠[]:=by
 obtain⟨kind,vars,coefs,op,rhs,rows,b⟩:=c;simp only at hk;subst hk;simp only[rightR,noneR,plainR,bareR,manyR,EL,ER,E4 (by decide: ¬(1:Int)=0),E6]at hr;obtain⟨⟨h1,⟨⟨h2,h3⟩,h4⟩,h5⟩,h6,h7⟩:=hr;obtain rfl:=EQ h1;obtain rfl:=EQ h5;subst h2 h3 h4;exact⟨rfl,h7,Gj h6⟩
theorem D7 {d:aa}{c:Con}(gd:GoodD d.length d)(hc:ConB c)(h:conR d c=0)(hk:c.kind=1):Spec Tryz.prog 133 false [ao d,.agg (cC c)] (aJ (dz d c.vars)):=by
 obtain⟨_,hv,hr,_⟩:=cB hc h;obtain⟨e,h1,h2⟩:=y9 hk hr;have a:=o4 d c.vars gd.few ⟨h1,hv.2⟩ h2;rw[<-e]at a;exact a
theorem AH {d:aa}{c:Con}(gd:GoodD d.length d)(hc:ConB c)(h:conR d c=0)(hk:c.kind=1):Spec Tryz.prog 133 false [ao d,.agg (cC c)] (aJ (dz d c.vars))/\Spec Tryz.prog 146 false [ao d,.agg (cC c)] (c5 (dz d c.vars)):=by
 obtain⟨_,hv,hr,_⟩:=cB hc h;obtain⟨e,h1,h2⟩:=y9 hk hr;have hV:jk d c.vars:=⟨h1,hv.2⟩;have a:=o4 d c.vars gd.few hV h2;have b:=xp d c.vars gd.few hV;rw[<-e]at a b;exact⟨a,b⟩
theorem C9 {d:aa}{c:Con}(gd:GoodD d.length d)(h:ReifOk d c):Spec Tryz.prog 136 false [ao d,.agg (cC c)] (aJ (jy c d)):=by
 have hsm:=de gd;have e:jy c d=nP d c (fE (aS c) d) (fE (bi (aS c)) d):=E6 h.truth;rw[e];exact p7 d c h.sum.fine.in_ h.con h.b (λx hx=>by have:=hsm x hx;omega) _ _ (λ_ _ _ _=>tH gd h.sum) (λ_ _ _ _ _=>tH gd h.sumN)
theorem uX {d:aa}{c:Con}(gd:GoodD d.length d)(h:ReifOk d c):Spec Tryz.prog 136 false [ao d,.agg (cC c)] (aJ (jy c d))/\Spec Tryz.prog 149 false [ao d,.agg (cC c)] (c5 (jy c d)):=by
 obtain⟨hs1,hs2⟩:=iS gd h.sum;obtain⟨hn1,hn2⟩:=iS gd h.sumN;have hsf:SumFine d c.vars c.coefs:=h.sum.fine;have hsi:=hsf.in_;have hb:=h.sum.big;have hb2:=h.sumN.big;have ha:=bA (aS c).rhs;have ha2:=bA (bi (aS c)).rhs;have hsm:=de gd;have hy:soW (endsRW d c.vars c.coefs) (aS c)=yesW d c:=(by rw[<-yC hsf (by show ar (aS c).coefs<=_;omega)];rfl);have hz:soW (endsRW d (bi (aS c)).vars (bi (aS c)).coefs) (bi (aS c))=noW d c:=(by rw[<-yC h.sumN.fine (by omega)];rfl);have e:jy c d=nP d c (fE (aS c) d) (fE (bi (aS c)) d):=E6 h.truth;rw[e];refine⟨p7 d c hsi h.con h.b (λx hx=>by have:=hsm x hx;omega) _ _ (λ_ _ _ _=>hs1) (λ_ _ _ _ _=>hn1),?_⟩;rw[<-zD h.b hsf.dom h.truth];exact xh d c hsi h.con h.b _ _ hy hz _ _ (λ_=>hs2) (λ_=>hn2)
theorem CV {c:Con}(h:c.kind≠4):usesR c=aT c.vars:=by unfold usesR;rw[E4 h]
theorem kQ {d:aa}{c:Con}(gd:GoodD d.length d)(hc:ConB c)(h:conR d c=0)(hk:c.kind=5):Spec Tryz.prog 137 false [ao d,.agg (cC c)] (aJ (aX c d)):=by
 have hcl:=sP hc h hk;have hsm:=de gd;have e:aX c d=kx d c:=by
  unfold aX;rw[E4 (by omega),E4 (by omega),E4 (by omega),E4 (by omega),CV (by omega)];exact wG hcl hk gd.few.fine
 rw[e];exact tI d c (CN hcl gd.few.small λx hx=>by have:=hsm x hx;omega)
theorem DR {d:aa}{c:Con}(gd:GoodD d.length d)(hv:bG d c):Spec Tryz.prog 138 false [ao d,.agg (cC c)] (aJ (qX c d)):=by
 obtain⟨R,N,h1,_⟩:=mU (c:=c) (d:=d) hv gd.few.fine;have h2:=h1;rw[E4 gd.some']at h2;obtain rfl:=qe h2;exact pI d c hv ⟨gd.few.small,λx hx=>by have:=de gd x hx;omega⟩ _ N h1
theorem z1 {d:aa}{c:Con}(gd:GoodD d.length d)(hv:bG d c):Spec Tryz.prog 138 false [ao d,.agg (cC c)] (aJ (qX c d))/\Spec Tryz.prog 151 false [ao d,.agg (cC c)] (c5 (qX c d)):=by
 obtain⟨R,N,h1,_⟩:=mU (c:=c) (d:=d) hv gd.few.fine;have h2:=h1;rw[E4 gd.some']at h2;obtain rfl:=qe h2;have hds:=gd.few.small;exact⟨pI d c hv ⟨hds,λx hx=>by have:=de gd x hx;omega⟩ _ N h1,(vc d c hv (by omega) (λout=> ∀x∈out,Fine x) (λout hi x hx=>(hi x hx).domB) (λout next hi hv hs=>w6 hi hv hs) gd.few.fine _ N (zG hv gd.few.fine h1)).frz⟩
theorem As {d:aa}{vs:List Int}{i:Int}(h0:0<=i)(h1:i.toNat<(vs.drop 2).length):elemIn d vs i= !decide (elemM d vs i=[]):=by
 have h2:i.toNat+2<vs.length:=(by simp at h1;omega);unfold elemIn;rw[EF h0,EF h2];rfl
theorem x6 (d:aa)(vs:List Int)(i:Int)(h2:2<=vs.length)(hv: ∀v∈vs,0<=v/\v.toNat<d.length)(hvl:vs.length*8<=140737488355328)(hx: ∀x∈d,x.length*32<=140737488355328):
  Spec Tryz.prog 188 false [.int .i64 i,.ptr [aq (vs.drop 2)],.ptr [ao d],.ptr [.int .i64 (vs.getD 1 0)]] [.val (.bool (!elemIn d vs i))]:=by
 refine Spec.body Tryz.func188 Y Y Y λw0 Z0=> ?_;have hr:=hv (vs.getD 1 0) (dh (by omega));have hrow:(d.map cD)[(vs.getD 1 0).toNat]? =some (cD (domAt d (vs.getD 1 0))):=(by rw[EJ,aj hr.2];rfl);have hM:elemM d vs i=bJ (domAt d (vs.getD (i.toNat+2) 0)) (domAt d (vs.getD 1 0)):=rfl;have hIn:= @As d vs i;have hno: ¬(0<=i/\i.toNat<(vs.drop 2).length)->elemIn d vs i=false:=λh=>by
  unfold elemIn;by_cases h0:0<=i
  ·have: ¬i.toNat+2<vs.length:=λe=>h ⟨h0,by simp;omega⟩;rw[EE this];simp
  ·rw[EE h0];rfl
 have hat: ∀h:i.toNat<(vs.drop 2).length,(vs.drop 2)[i.toNat]=vs.getD (i.toNat+2) 0:=λh=>(by rw[List.getElem_drop,aO (by simp at h;omega)];congr 1;omega);have hin: ∀h:i.toNat<(vs.drop 2).length,vs.getD (i.toNat+2) 0∈vs:=λh=>dh (by simp at h;omega);have hls:(vs.drop 2).length<=vs.length:=(by simp);generalize vs.drop 2=ls at*;generalize vs.getD 1 0=r at*;generalize elemIn d vs i=b at*;generalize elemM d vs i=M at*;refine .B ?_;refine J.g Y Y Y (λh3=> ?_) (λh3=> ?_)
 ·refine .B ?_;rw[hno (by omega)];exact r1
 ·refine .B ?_;refine J.g Y Y Y (λh4=> ?_) (λh4=> ?_)
  ·refine .B ?_;rw[hno (by simp at h4;omega)];exact r1
  ·have h4:i.toNat<ls.length:=(by simp at h4;omega);have hvi:=hv _ (hin h4);have hri:(d.map cD)[(vs.getD (i.toNat+2) 0).toNat]? =some (cD (domAt d (vs.getD (i.toNat+2) 0))):=(by rw[EJ,aj hvi.2];rfl);have hli:(ls.map cI)[i.toNat]? =some (cI (vs.getD (i.toNat+2) 0)):=(by rw[EJ,E5 h4,hat h4];rfl);have hx1:=hx _ (ac hvi.2);have hx2:=hx _ (ac hr.2);rw[hIn (by omega) h4];refine .B ?_;refine J.i Y Y Y Y Y Y Y Y Y (r:=cI (vs.getD (i.toNat+2) 0)) (by omega) hli Y ?_;refine .B ?_;refine J.i Y Y Y Y Y Y Y Y Y (r:=cD (domAt d (vs.getD (i.toNat+2) 0))) hvi.1 hri Y ?_;refine .B ?_;refine J.i Y Y Y Y Y Y Y Y Y (r:=cD (domAt d r)) hr.1 hrow Y ?_;refine .B ?_;refine J.cc Y Y Y Y Y (m5 _ _ (by omega)) Y Y ?_;refine .B ?_;have e:decide (((((bJ (domAt d (vs.getD (i.toNat+2) 0)) (domAt d r)).map cR).length:Nat):Int)=0)= !(!decide (M=[])):=(by rw[hM];simp);exact⟨_,.v Y Y (by rw[<-e]) (λ_=>rfl) .nil⟩
theorem wy {d:aa}{c:Con}(h: []∈d):sJ d c=none:=E6 h
set_option maxHeartbeats 1000000 in
theorem oe {n:Nat}(d:aa)(c:Con)(gd: []∉d->GoodD n d)(fd:FewD d)(hc:ConB c)(hn:c.vars.Nodup)(h3:3<=c.vars.length)(hv: ∀v∈c.vars,0<=v/\v.toNat<d.length):
  Spec Tryz.prog 135 false [ao d,.agg (cC c)] (aJ (sJ d c)):=by
 refine Spec.body Tryz.func135 Y Y Y λw0 Z0=> ?_;generalize hR:sJ d c=R;have hdl:=fd.small;have hx: ∀x∈d,x.length<=4096:=λx hm=>(by have:=bN (fd.fine x hm).ok;have:=fd.few x hm;omega);obtain⟨h1,h2,h5,h4⟩:=hc;refine .B ?_;refine T.sub (Rel.unbx (s:=2) (λ_ h=>h) Y Y) ?_;refine T.sub (Rel.fp (s:=2) Y) ?_;refine T.sub (Rel.unbx (s:=3) (λ_ h=>h) Y Y) ?_;refine T.sub (Rel.own0 (s:=6) 54 1 Y) ?_;refine T.K (T.listI d (λpre=>[]∉pre) (λn pre post=>⟨[(2,.val false (.ptr [ao d])),(3,.fptr false (cC c)),(6,.ref 0),(16,.val false (ao d)),(17,.val true (.int .i64 (d.map cD).length)),(18,.val true (.int .i64 n))],[(0,some (.sl 54 1 true (pre.map cD)))],1⟩) (λ_ _ h=>h) (by simp) ?_ ?_)
 ·rintro n pre x post h hn hi ih;have hlt:=bW h hn;have hxl:=hx x (by rw[h];simp);refine .B ?_;refine T.ct2 Y (bV h hn) ?_;refine .B ?_;refine .F (r:=cD x) (aM h hn) ?_;refine T.cd Y (λh5=> ?_) (λh5=> ?_)
  ·have hxe:x=[]:=(by simp at h5;exact h5);have:R=none:=(by rw[<-hR,wy (by rw[h,hxe];simp)]);subst this;refine .B ?_;exact⟨_,.ownN Y (.v Y Y Y (λ_=>rfl) .nil)⟩
  ·have hxe:x≠[]:=λe=>h5 (by rw[e];rfl);refine .B ?_;refine .D (bT x (by omega)).frz ?_;refine .V ?_;refine J.aD Y Y Y Y Y Y Y Y Y Y Y Y Y Y Y Y Y Y Y (by omega) ?_;refine .B ?_;rw[ai hlt (by omega)];exact T.K (ih (by simp[hi,Ne.symm hxe]))
 ·intro hne;have gd:=gd hne;unfold sJ at hR;rw[E4 hne]at hR;refine .B ?_;refine T.cf2 Y bj ?_;refine .B ?_;have hr0:(c.vars.map cI)[(0:Int).toNat]? =some (cI (c.vars.getD 0 0)):=(by rw[EJ,E5 (show(0:Int).toNat<c.vars.length by simp;omega),aO (by omega)];rfl);have hr1:(c.vars.map cI)[(1:Int).toNat]? =some (cI (c.vars.getD 1 0)):=(by rw[EJ,E5 (show(1:Int).toNat<c.vars.length by simp;omega),aO (by omega)];rfl);refine T.rdw 16 Y (by kernel_rfl) Y ?_;refine .B ?_;refine .F (r:=cI (c.vars.getD 0 0)) hr0 ?_;refine .F (r:=cI (c.vars.getD 1 0)) hr1 ?_;refine J.s3 (enc:=cI) (l:=c.vars) 2 Y Y Y Y Y Y Y Y Y (λ_=>rfl) Y (by omega) ?_;refine .B ?_;refine .L ?_;refine .B ?_;refine .L ?_;refine .B ?_;refine J.wd Y Y Y Y Y Y Y Y Y Y ?_;refine .B ?_;refine J.wd Y Y Y Y Y Y Y Y Y Y ?_;refine .B ?_;refine⟨by kernel_rfl,?_⟩;refine .B ?_;refine J.sub (Rel.unbx (s:=10) (λ_ h=>h) Y Y) ?_;refine J.sub (Rel.fp (s:=10) Y) ?_;refine J.sub (Rel.unbx (s:=11) (λ_ h=>h) Y Y) ?_;refine J.sub (Rel.fp (s:=11) Y) ?_;have hvi:=hv _ (dh (show 0<c.vars.length by omega));have hvr:=hv _ (dh (show 1<c.vars.length by omega));have hdi:=ac hvi.2;have hri:(d.map cD)[(c.vars.getD 0 0).toNat]? =some (cD (domAt d (c.vars.getD 0 0))):=(by rw[EJ,aj hvi.2];rfl);refine J.i Y Y Y Y Y Y Y Y Y (r:=cD (domAt d (c.vars.getD 0 0))) hvi.1 hri Y ?_;refine .B ?_;have hvs:=i5 (domAt d (c.vars.getD 0 0)) (fd.fine _ hdi).domB.1 (by have:=hx _ hdi;omega);rw[EY (show _<=4097 by have:=fd.few _ hdi;omega)]at hvs;refine .D hvs ?_;have hdel:=tR (p:=λi=> !elemIn d c.vars i) (f:=188) [.ptr [aq (c.vars.drop 2)],.ptr [ao d],.ptr [.int .i64 (c.vars.getD 1 0)]] (vals (domAt d (c.vars.getD 0 0))) (λi _=>x6 d c.vars i (by omega) hv (by omega) λx hm=>by have:=hx x hm;omega) (by have:=fd.few _ hdi;omega);rw[show(vals (domAt d (c.vars.getD 0 0))).filter (λx=> !!elemIn d c.vars x)=elemPl d c.vars by simp[elemPl]]at hdel;refine J.cp (cs2:=[]) (qs:=[]) [] Y Y Y Y Y Y Y Y hdel trivial Y Y Y Y Y Y ?_;refine .B ?_;have hpin: ∀i∈elemPl d c.vars,0<=i/\i.toNat+2<c.vars.length:=λi hi=>by
   obtain⟨_,a1,a2,_⟩:=(i4 gd c.vars i).1 hi;exact⟨a1,a2⟩
  have hpll:(elemPl d c.vars).length<=4096:=Em (Ez _ _) (fd.few _ hdi);have hmay:=λl=>wz gd c.vars l;have hrr:(d.map cD)[(c.vars.getD 1 0).toNat]? =some (cD (domAt d (c.vars.getD 1 0))):=(by rw[EJ,aj hvr.2];rfl);unfold tQ at hR;generalize elemPl d c.vars=l at*;refine T.cd Y (λh5=> ?_) (λh5=> ?_)
  ·have h5:l=[]:=(by simp at h5;exact h5);rw[E6 h5]at hR;subst hR;refine .B ?_;exact⟨_,.ownN Y (.v Y Y Y (λ_=>rfl) .nil)⟩
  ·have h5: ¬l=[]:=λe=>h5 (by rw[e];rfl);rw[E4 h5]at hR;refine .B ?_;refine T.sub (Rel.own0 (s:=13) 53 2 Y) ?_;refine T.K (T.list l (λn pre post=>⟨[(2,.val false (.ptr [ao d])),(6,.ref 0),(9,.val true (.int .i64 (c.vars.getD 0 0))),(10,.val true (.ptr [.int .i64 (c.vars.getD 1 0)])),(11,.val false (.ptr [aq (c.vars.drop 2)])),(12,.ref 1),(13,.ref 2),(52,.ref 1),(53,.val true (.int .i64 (l.map cI).length)),(54,.val true (.int .i64 n))],[(0,some (.sl 54 1 true (d.map cD))),(1,some (.sl 3 1 true (l.map cI))),(2,some (.sl 53 2 true ((elemMay d c.vars pre).map cR)))],3⟩) (λ_ _ h=>h) ?_ ?_)
   ·rintro n pre v post h hn ih;have hlt:=bW h hn;have hvv:=hpin v (by rw[h];simp);refine .B ?_;refine T.ct2 Y (bV h hn) ?_;refine .B ?_;refine J.io Y Y Y Y Y Y Y Y Y (by omega) (by simp;omega) Y ?_;refine .B ?_;refine J.lo Y Y Y Y Y Y (r:=cI v) (aM h hn) Y ?_;refine .B ?_;have hvin:=hv _ (dh hvv.2);have hls:((c.vars.drop 2).map cI)[v.toNat]? =some (cI (c.vars.getD (v.toNat+2) 0)):=by
     rw[EJ,Ge,GF 2,E5 hvv.2,aO hvv.2];rfl
    have hrv:(d.map cD)[(c.vars.getD (v.toNat+2) 0).toNat]? =some (cD (domAt d (c.vars.getD (v.toNat+2) 0))):=(by rw[EJ,aj hvin.2];rfl);have hx1:=hx _ (ac hvin.2);have hx2:=hx _ (ac hvr.2);have hmy:=hmay pre;have hme:=eK gd c.vars v;have hmr:=oU hme.1 λx hx=>(gd.few.at _).2.2 x ((hme.2 x).1 hx).1;have hml:(elemM d c.vars v).length<=4096:=by
     have a1:=bN hme.1;have a2:=cq (aG hme.1) λx hx=>((hme.2 x).1 hx).1;have:=(gd.few.at (c.vars.getD (v.toNat+2) 0)).1;omega
    have hnx:elemMay d c.vars (pre++[v])=qj (elemMay d c.vars pre) (elemM d c.vars v):=(by simp[elemMay]);have hmeet:=m5 (domAt d (c.vars.getD (v.toNat+2) 0)) (domAt d (c.vars.getD 1 0)) (by omega);have hjoin:=x8 (elemMay d c.vars pre) (elemM d c.vars v) (by omega) λr hr=>by
     rcases EW.1 hr with hr|hr;·exact hmy.2 r hr
     ·exact hmr r hr
    rw[show bJ (domAt d (c.vars.getD (v.toNat+2) 0)) (domAt d (c.vars.getD 1 0))=elemM d c.vars v from Y]at hmeet;rw[hnx]at ih;have hw1:=ai hlt (by omega);refine J.i Y Y Y Y Y Y Y Y Y (r:=cI (c.vars.getD (v.toNat+2) 0)) (by omega) hls Y ?_;refine .B ?_;refine J.i Y Y Y Y Y Y Y Y Y (r:=cD (domAt d (c.vars.getD (v.toNat+2) 0))) hvin.1 hrv Y ?_;refine .B ?_;refine J.i Y Y Y Y Y Y Y Y Y (r:=cD (domAt d (c.vars.getD 1 0))) hvr.1 hrr Y ?_;refine .B ?_;refine .D hmeet ?_;refine .D hjoin ?_;rw[hw1];exact T.K ih
   ·have hof:=(lA l (by omega)).frz;have hml:=(hmay l).1;generalize elemMay d c.vars l=may at*;generalize domOfP l=of at*;refine .B ?_;refine T.cf2 Y bj ?_;refine .B ?_;refine .D hof ?_;refine J.io Y Y Y Y Y Y Y Y Y hvi.1 (by simp;exact hvi.2) Y ?_;refine J.w1 Y Y Y Y Y Y Y Y Y Y Y (enc:=cD) (z:=of.1) (λ_=>rfl) (by simp;exact hvi.2) ?_;refine J.sub (Rel.frz (s:=13) (λ_ h=>h) Y Y) ?_;refine .B ?_;refine J.io Y Y Y Y Y Y Y Y Y hvr.1 (by simp;exact hvr.2) Y ?_;refine J.w1 Y Y Y Y Y Y Y Y Y Y Y (enc:=cD) (z:=may) (λ_=>rfl) (by simp;exact hvr.2) ?_;refine .B ?_;refine T.cd Y (λh6=> ?_) (λh6=> ?_)
    ·have h6:l.length=1:=(by simp at h6;omega);have hl0:(l.map cI)[(0:Int).toNat]? =some (cI (l.getD 0 0)):=(by rw[EJ,E5 (show(0:Int).toNat<l.length by simp;omega),aO (by omega)];rfl);have hm0:l.getD 0 0∈l:=(by rw[aO (by omega)];exact EA _);obtain⟨b1,b2⟩:=hpin _ hm0;have hvin:=hv _ (dh b2);rw[E6 h6]at hR;generalize l.getD 0 0=i0 at*;have hls:((c.vars.drop 2).map cI)[i0.toNat]? =some (cI (c.vars.getD (i0.toNat+2) 0)):=by
      rw[EJ,Ge,GF 2,E5 b2,aO b2];rfl
     subst hR;refine .B ?_;refine T.rdm 10 Y (by kernel_rfl) Y ?_;refine .B ?_;refine J.io Y Y Y Y Y Y Y Y Y (by omega) (by simp;omega) Y ?_;refine .B ?_;refine J.lo Y Y Y Y Y Y (r:=cI i0) hl0 Y ?_;refine .B ?_;refine J.i Y Y Y Y Y Y Y Y Y (r:=cI (c.vars.getD (i0.toNat+2) 0)) b1 hls Y ?_;refine .B ?_;refine .D (bT may (by omega)).frz ?_;refine J.io Y Y Y Y Y Y Y Y Y hvin.1 (by simp;exact hvin.2) Y ?_;refine .B ?_;refine J.w1 Y Y Y Y Y Y Y Y Y Y Y (enc:=cD) (z:=may) (λ_=>rfl) (by simp;exact hvin.2) ?_;refine .B ?_;exact⟨_,.o Y Y Y (λ_=> .inl Y) (by simp) (.v rfl rfl rfl (λ_=>rfl) .nil)⟩
    ·have h6: ¬l.length=1:=(by simp at h6;omega);rw[E4 h6]at hR;subst hR;refine .B ?_;exact⟨_,.o Y Y Y (λ_=> .inl Y) (by simp) (.v rfl rfl rfl (λ_=>rfl) .nil)⟩
theorem uC {α:Type}{l:List α}{i:Nat}(p:α->Bool)(h:i<l.length):(l.take (i+1)).filter p=(l.take i).filter p++(if p l[i]=true then [l[i]]else []):=by
 rw[ED h,Fh];congr 1;by_cases hp:p l[i]=true;·rw[E6 hp,Fu hp];rfl
 ·rw[E4 hp,G4 hp];rfl
theorem wW (d:aa)(c:Con)(hdl:d.length*24<=140737488355328)(hx: ∀x∈d,x.length*16<=140737488355328)(hc:ConB c)(hv: ∀v∈c.vars,0<=v/\v.toNat<d.length)(hr: ∀r∈c.rows,r.length=c.vars.length):
  Spec Tryz.prog 186 false [ao d,.agg (cC c)] [.own 24 1 ((rowsP d c).map cL)]:=by
 refine Spec.body Tryz.func186 Y Y Y λw0 Z0=> ?_;obtain⟨h1,h2,h3,h4⟩:=hc;refine .B ?_;refine T.scope (λ_ _ h=>h) ?_;refine .B ?_;refine T.sub (Rel.own0 (s:=5) 24 1 Y) ?_;refine T.K (T.ind (λi:Nat=>⟨[(0,.val false (ao d)),(3,.optr 0 0 0 0),(5,.ref 1),(11,.val false (bC c.rows)),(12,.val true (.int .i64 (c.rows.map cL).length)),(13,.val true (.int .i64 i))],[(0,some (.box false (cC c))),(1,some (.sl 24 1 true (((c.rows.take i).filter (lS d c.vars)).map cL)))],2⟩) (λi=>i<=c.rows.length) (λi=>c.rows.length-i) 0 (by simp) (λ_ _ h=>h) ?_);rintro i hi ih;refine .B ?_;refine T.cd Y (λh5=> ?_) (λh5=> ?_)
 ·have h5:i<c.rows.length:=(by simpa using h5);have hrl:=hr _ (EA h5);have hr8:=h4 _ (EA h5);have hfl:((c.rows.take i).filter (lS d c.vars)).length<=i:=Em (Ez _ _) (by simp;omega);have ih1:=ih (i+1) (by omega) (by omega);rw[uC _ h5]at ih1;have hrow:(c.rows.map cL)[((i:Nat):Int).toNat]? =some (cL c.rows[i]):=(by simp[h5]);generalize (c.rows.take i).filter (lS d c.vars)=out at*;generalize c.rows[i]=r at*;have hw1:IntKind.i64.wrap ((i:Int)+1)=((i+1:Nat):Int):=ai (l:=c.rows.length) h5 (by omega);refine .B ?_;refine .F (r:=cL r) hrow ?_;refine T.K (T.ind (λk:Nat=>⟨[(0,.val false (ao d)),(3,.optr 0 0 0 0),(5,.ref 1),(7,.val false (aq r)),(11,.val false (bC c.rows)),(12,.val true (.int .i64 (c.rows.map cL).length)),(13,.val true (.int .i64 i)),(18,.val false (aq c.vars)),(19,.val true (.int .i64 (c.vars.map cI).length)),(20,.val true (.int .i64 k))],[(0,some (.box false (cC c))),(1,some (.sl 24 1 true (out.map cL)))],2⟩)
   (λk=>k<=c.vars.length/\∀j,j<k->hasV (domAt d (c.vars.getD j 0)) (r.getD j 0)=true) (λk=>c.vars.length-k) 0 ⟨by simp,λj hj=>EX hj (FK j)⟩ (λ_ _ h=>h) ?_)
  rintro k ⟨hk,hb⟩ ih2;refine .B ?_;refine T.cd Y (λh6=> ?_) (λh6=> ?_)
  ·have h6:k<c.vars.length:=(by simpa using h6);have h7:k<r.length:=(by omega);have hvk:=hv _ (EA h6);have hdx:=hx _ (ac hvk.2);have hrd:(d.map cD)[c.vars[k].toNat]? =some (cD (domAt d c.vars[k])):=(by simp[aj hvk.2]);have hg1:c.vars.getD k 0=c.vars[k]:=aO h6;have hg2:r.getD k 0=r[k]:=aO h7;have hkv:(c.vars.map cI)[((k:Nat):Int).toNat]? =some (cI c.vars[k]):=ax h6;have hkr:(r.map cI)[((k:Nat):Int).toNat]? =some (cI r[k]):=ax h7;have hno:hasV (domAt d c.vars[k]) r[k]=false->lS d c.vars r=false:=λhf=>by
    cases hh:lS d c.vars r with
    |false=>rfl
    |true=>
     have:=(sY (p:=λv x=>hasV (domAt d v) x) hrl).1 hh k c.vars[k] (E5 h6);rw[hg2]at this;rw[hf]at this;cases this
   have hyes:hasV (domAt d c.vars[k]) r[k]=true->∀j,j<k+1->hasV (domAt d (c.vars.getD j 0)) (r.getD j 0)=true:=λhf j hj=>by
    by_cases e:j=k;·rw[e,hg1,hg2];exact hf
    ·exact hb j (by omega)
   generalize c.vars[k]=v at*;generalize r[k]=x at*;refine .B ?_;refine .F (r:=cI v) hkv ?_;refine J.i Y Y Y Y Y Y Y Y Y (r:=cD (domAt d v)) hvk.1 hrd Y ?_;refine .B ?_;refine .F (r:=cI x) hkr ?_;refine .C (kv (domAt d v) x hdx) ?_;cases hh:hasV (domAt d v) x with
   |false=>
    refine .B ?_;refine T.ct Y ?_;refine .B ?_;rw[hno hh]at ih1;simp only[FC,if_false,FU]at ih1;rw[hw1];exact T.K ih1
   |true=>
    refine .B ?_;refine T.cf Y ?_;refine .B ?_;rw[ai (l:=c.vars.length) h6 (by omega)];exact T.K (ih2 (k+1) ⟨by omega,hyes hh⟩ (by omega))
  ·have h6:k=c.vars.length:=(by simp at h6;omega);subst h6;have hin:lS d c.vars r=true:=(sY (p:=λv x=>hasV (domAt d v) x) hrl).2 λj v hj=>by
    have hjl:=(E8.1 hj).1;have:=hb j hjl;rw[E0,hj]at this;exact this
   rw[hin]at ih1;simp only[if_true]at ih1;refine .B ?_;refine .D (ef r hr8).frz ?_;refine .Z ?_;refine J.a1 (enc:=cL) (x:=r) (B:=24) Y Y Y Y Y Y Y Y Y Y Y Y Y Y Y Y Y Y Y Y (by omega) ?_;refine .B ?_;rw[hw1];exact T.K ih1
 ·have h5:i=c.rows.length:=(by simp at h5;omega);subst h5;rw[Ep];refine .B ?_;exact⟨_,.o Y Y Y (λ_=> .inl Y) (by simp) .nil⟩
theorem wZ {d:aa}{c:Con}(h: []∈d):tabO d c=none:=E6 h
theorem nG (d:aa)(c:Con)(hdl:d.length*24<=140737488355328)(hx: ∀x∈d,(x.length+1)*16<=140737488355328)(hc:ConB c)(hv: ∀v∈c.vars,0<=v/\v.toNat<d.length)(hr: ∀r∈c.rows,r.length=c.vars.length)(hfew:c.rows.length<=1024):
  Spec Tryz.prog 134 false [ao d,.agg (cC c)] (aJ (tabO d c)):=by
 refine Spec.body Tryz.func134 Y Y Y λw0 Z0=> ?_;generalize hR:tabO d c=R;have hcb:=hc;obtain⟨h1,h2,h3,h4⟩:=hc;refine .B ?_;refine T.sub (Rel.own0 (s:=6) 54 1 Y) ?_;refine T.K (T.listI d (λpre=>[]∉pre) (λn pre post=>⟨[(0,.val false (ao d)),(3,.optr 0 0 0 0),(6,.ref 1),(15,.val false (ao d)),(16,.val true (.int .i64 (d.map cD).length)),(17,.val true (.int .i64 n))],[(0,some (.box false (cC c))),(1,some (.sl 54 1 true (pre.map cD)))],2⟩) (λ_ _ h=>h) (by simp) ?_ ?_)
 ·rintro n pre x post h hn hi ih;have hlt:=bW h hn;have hxl:=hx x (by rw[h];simp);refine .B ?_;refine T.ct2 Y (bV h hn) ?_;refine .B ?_;refine .F (r:=cD x) (aM h hn) ?_;refine T.cd Y (λh5=> ?_) (λh5=> ?_)
  ·have hxe:x=[]:=(by simp at h5;exact h5);have:R=none:=(by rw[<-hR,wZ (by rw[h,hxe];simp)]);subst this;refine .B ?_;exact⟨_,.ownN Y (.v Y Y Y (λ_=>rfl) .nil)⟩
  ·have hxe:x≠[]:=λe=>h5 (by rw[e];rfl);refine .B ?_;refine .D (bT x (by omega)).frz ?_;refine .V ?_;refine J.aD Y Y Y Y Y Y Y Y Y Y Y Y Y Y Y Y Y Y Y (by omega) ?_;refine .B ?_;rw[ai hlt (by omega)];exact T.K (ih (by simp[hi,Ne.symm hxe]))
 ·intro hne;unfold tabO at hR;rw[E4 hne]at hR;refine .B ?_;refine T.cf2 Y bj ?_;refine .B ?_;refine .C (wW d c hdl (λx hm=>by have:=hx x hm;omega) hcb hv hr).frz ?_;have hrl:(rowsP d c).length<=1024:=Em (Ez _ _) hfew;have hrr: ∀r∈rowsP d c,r.length=c.vars.length:=λr hm=>hr r (FB.1 hm).1;generalize rowsP d c=rows at*;refine .B ?_;refine T.cd Y (λh5=> ?_) (λh5=> ?_)
  ·have h5:rows=[]:=(by simp at h5;exact h5);rw[E6 h5]at hR;subst hR;refine .B ?_;exact⟨_,.ownN Y (.v Y Y Y (λ_=>rfl) .nil)⟩
  ·have h5: ¬rows=[]:=λe=>h5 (by rw[e];rfl);rw[E4 h5]at hR;refine .B ?_;refine T.K (T.ind (λs:Nat×aa=>⟨[(6,.ref 0),(9,.val true (bC rows)),(37,.val false (aq c.vars)),(38,.val true (.int .i64 (c.vars.map cI).length)),(39,.val true (.int .i64 s.1))],[(0,some (.sl 54 1 true (s.2.map cD)))],1⟩)
    (λs=>s.1<=c.vars.length/\s.2.length=d.length/\some (ig rows (c.vars.drop s.1) s.1 s.2)=R) (λs=>c.vars.length-s.1) (0,d) ⟨by simp,rfl,hR⟩ (λ_ _ h=>h) ?_)
   rintro⟨i,out⟩ ⟨hi,hol,hR⟩ ih;simp only at hi hol hR;dsimp only;refine .B ?_;refine T.cd Y (λh6=> ?_) (λh6=> ?_)
   ·have h6:i<c.vars.length:=(by simpa using h6);have hvi:=hv _ (EA h6);have hkv:(c.vars.map cI)[((i:Nat):Int).toNat]? =some (cI c.vars[i]):=ax h6;rw[EP h6,ig]at hR;generalize c.vars[i]=v at*;refine .B ?_;refine .F (r:=cI v) hkv ?_;refine T.sub (Rel.own0 (s:=12) 3 1 Y) ?_;refine T.K (T.ind (λk:Nat=>⟨[(6,.ref 0),(9,.val true (bC rows)),(10,.val true (.int .i64 i)),(11,.val true (.int .i64 v)),(12,.ref 1),(37,.val false (aq c.vars)),(38,.val true (.int .i64 (c.vars.map cI).length)),(39,.val true (.int .i64 i)),(44,.val true (bC rows)),(45,.val true (.int .i64 (rows.map cL).length)),(46,.val true (.int .i64 k))],[(0,some (.sl 54 1 true (out.map cD))),(1,some (.sl 3 1 true ((iz (rows.take k) i).map cI)))],2⟩)
     (λk=>k<=rows.length) (λk=>rows.length-k) 0 (by simp) (λ_ _ h=>h) ?_)
    rintro k hk ih2;refine .B ?_;refine T.cd Y (λh7=> ?_) (λh7=> ?_)
    ·have h7:k<rows.length:=(by simpa using h7);have hrk:=hrr _ (EA h7);have hrow:(rows.map cL)[((k:Nat):Int).toNat]? =some (cL rows[k]):=(by simp[h7]);have ih3:=ih2 (k+1) (by omega) (by omega);rw[ED h7,show iz (rows.take k++[rows[k]]) i=iz (rows.take k) i++[rows[k].getD i 0]from F4 ..]at ih3;have hcl:(iz (rows.take k) i).length<=1024:=(by simp[iz];omega);generalize rows[k]=r at*;have h8:i<r.length:=(by omega);refine .B ?_;refine .F (r:=cL r) hrow ?_;refine .F (r:=cI r[i]) (ax h8) ?_;refine .V ?_;refine J.aI Y Y Y Y Y Y Y Y Y Y Y Y Y Y Y Y Y Y Y (l:=iz (rows.take k) i) (x:=r[i]) (by omega) ?_;refine .B ?_;rw[ai (l:=rows.length) h7 (by omega)];rw[show r.getD i 0=r[i]from aO h8]at ih3;exact T.K ih3
    ·have h7:k=rows.length:=(by simp at h7;omega);subst h7;rw[Ep];have hcl:(iz rows i).length<=1024:=(by simp[iz];omega);have hof:=(lA (iz rows i) (by omega)).frz;have ih3:=ih (i+1,out.set v.toNat (domOfP (iz rows i)).1) ⟨by omega,by rw[FA];exact hol,hR⟩ (by show _-_<_-_;omega);generalize domOfP (iz rows i)=of at*;refine .B ?_;refine .D hof ?_;refine J.io Y Y Y Y Y Y Y Y Y hvi.1 (by simp[hol];exact hvi.2) Y ?_;refine J.w1 Y Y Y Y Y Y Y Y Y Y Y (enc:=cD) (z:=of.1) (λ_=>rfl) (by omega) ?_;refine .B ?_;rw[ai (l:=c.vars.length) h6 (by omega)];exact T.K ih3
   ·have h6:i=c.vars.length:=(by simp at h6;omega);subst h6;rw[FR,ig]at hR;subst hR;refine .B ?_;exact⟨_,.o Y Y Y (λ_=> .inl Y) (by simp) (.v rfl rfl rfl (λ_=>rfl) .nil)⟩
theorem zw (d:aa)(c:Con)(us:List Int)(hu:us=aT c.vars)(R:Option aa)(hcl:c.vars.length*8<=140737488355328)(hk:Spec Tryz.prog 209 false [ao d,.agg (cC c),aq us] (c5 R)):
  Spec Tryz.prog 147 false [ao d,.agg (cC c)] (c5 R):=by
 refine Spec.body Tryz.func147 Y Y Y λw0 Z0=> ?_;have hso:=dI c.vars hcl;rw[<-hu]at hso;unfold c5 at*;generalize R.getD []=D at*;generalize R.isSome=b at*;refine .B ?_;refine .D hso ?_;refine .D hk ?_;exact r2
theorem xl (d:aa)(c:Con)(us:List Int)(hu:us=aT c.vars)(R:Option aa)(hcl:c.vars.length*8<=140737488355328)(hk:Spec Tryz.prog 209 false [ao d,.agg (cC c),aq us] (c5 R)):
  Spec Tryz.prog 148 false [ao d,.agg (cC c)] (c5 R):=by
 refine Spec.body Tryz.func148 Y Y Y λw0 Z0=> ?_;have hso:=dI c.vars hcl;rw[<-hu]at hso;unfold c5 at*;generalize R.getD []=D at*;generalize R.isSome=b at*;refine .B ?_;refine .D hso ?_;refine .D hk ?_;exact r2
theorem fillW_mem {n:Nat}{us t:List Int}{k:Nat}{x:Int}(h:x∈cS n us t k):x=0∨x∈t:=by
 have key: ∀(l:List (Int×Int)) (a:List Int),x∈l.foldl (λa p=>a.set p.1.toNat p.2) a->x∈a∨∃p∈l,p.2=x:=by
  intro l
  induction l with
  |nil=>intro a h;exact .inl h
  |cons p l ih=>
   intro a h;rcases ih _ h with h|⟨q,hq,e⟩
   ·rcases EV h with h|h;·exact .inl h
    ·exact .inr ⟨p,.head _,h.symm⟩
   ·exact .inr ⟨q,.tail _ hq,e⟩
 rcases key _ _ h with h|⟨p,hp,rfl⟩;·exact .inl (G0 h)
 ·exact .inr (Ew (FI hp)).2
theorem li {d:aa}{c:Con}(gd:GoodD d.length d)(hc:ConB c)(h:conR d c=0)(hk:c.kind=2∨c.kind=3∨c.kind=5)(hp:prodD d<=1048576):Spec Tryz.prog 209 false [ao d,.agg (cC c),aq (usesR c)] (c5 (aX c d)):=by
 obtain⟨_,hv,hr,hin⟩:=cB hc h;have hnd:(usesR c).Nodup:=(by unfold usesR;exact dF (ca _));have hds:=gd.few.small;have hul:(usesR c).length<=d.length:=by
  have h1:((usesR c).map Int.toNat).Nodup:=H9.2 (hnd.imp_of_mem λ{x y} hx hy hne e=>hne (by have:=hin x hx;have:=hin y hy;omega));have h2:=h1.length_le_of_subset (l₂:=List.range d.length) λx hx=>by
   obtain⟨u,hu,rfl⟩:=EH.1 hx;exact ES.2 (hin u hu).2
  simpa using h2
 have e:aX c d=d6 d (usesR c) λt=>bL c (cS d.length (usesR c) t (usesR c).length):=by
  unfold aX;rw[E4 (by omega),E4 (by omega),E4 (by omega),E4 (by omega)]
 have hval: ∀t∈growR ((usesR c).map (domAt d)) (usesR c).length,∀v∈t,-1048576<=v/\v<=1048576:=λt ht v hv=>by
  obtain⟨f,rfl,hfv⟩:=(qq hnd).1 ht;obtain⟨u,hu,rfl⟩:=EH.1 hv;exact(gd.few.at u).2.2 _ (hfv u hu)
 rw[e];refine z7 d c (usesR c) _ (λx hx=>(gd.few.fine x hx).domB) (by omega) (by omega) hin (λm hm=>by have:=BN gd.one hnd hin m hm;omega) hval λt ht=> ?_;refine xV c _ hc (by rw[kr];omega) (λe=> ?_) λe x hx=> ?_;·have:=(sP hc h e).len;omega
 ·rcases fillW_mem hx with rfl|hx;·decide
  ·have:=hval t ht x hx;omega
theorem Cs {d:aa}{c:Con}(gd:GoodD d.length d)(hc:ConB c)(h:conR d c=0)(hp:prodD d<=1048576):Spec Tryz.prog 105 false [ao d,.agg (cC c)] (aJ (aX c d)):=by
 obtain⟨hk0,hv,hr,hin⟩:=cB hc h;have hsm:=de gd
 suffices hh:Spec Tryz.prog (jW c.kind) false [ao d,.agg (cC c)] (aJ (aX c d))from oP hh
 have hcs:c.kind=0∨c.kind=1∨c.kind=2∨c.kind=3∨c.kind=4∨c.kind=5∨c.kind=6:=(by omega);rcases hcs with hk|hk|hk|hk|hk|hk|hk
 ·have e:aX c d=fE c d:=(by unfold aX;rw[E6 hk]);rw[e,hk];exact tH gd (pc hc h hk gd.few.fine gd.few.small)
 ·have e:aX c d=dz d c.vars:=(by unfold aX;rw[E4 (by omega),E6 hk]);rw[e,hk];exact D7 gd hc h hk
 ·have hrr:(∀r∈c.rows,r.length=c.vars.length)/\c.rows.length<=1024:=by
   unfold rightR at hr;rw[E4 (by omega),E4 (by omega),E6 hk]at hr;simp only[manyR,kF,EL,ER,EN]at hr;refine⟨λr hrm=> ?_,hr.2.2⟩;have:=hr.2.1 r hrm;simp only[em,EL,ER]at this;exact this.1
  have hp2:=nG d c gd.few.small (λx hx=>by have:=hsm x hx;omega) hc hv.2 hrr.1 hrr.2;rw[<-uD gd hc h hk]at hp2;rw[hk];exact hp2
 ·have hrr:c.vars.Nodup/\3<=c.vars.length:=by
   unfold rightR at hr;rw[E4 (by omega),E4 (by omega),E4 (by omega),E6 hk]at hr;simp only[manyR,EL,ER]at hr;exact⟨hr.1.2.2,hr.2⟩
  have hp2:=oe (n:=d.length) d c (λ_=>gd) gd.few hc hrr.1 hrr.2 hv.2;rw[<-sI gd hc h hk]at hp2;rw[hk];exact hp2
 ·have e:aX c d=jy c d:=(by unfold aX;rw[E4 (by omega),E4 (by omega),E6 hk]);rw[e,hk];exact C9 gd (ti hc h hk gd.few.fine gd.few.small)
 ·have hp2:=kQ gd hc h hk;rw[hk];exact hp2
 ·have e:aX c d=qX c d:=(by unfold aX;rw[E4 (by omega),E4 (by omega),E4 (by omega),E6 hk]);rw[e,hk];exact DR gd hv
theorem Dc {d:aa}{c:Con}(gd:GoodD d.length d)(hc:ConB c)(h:RightC d c)(hp:prodD d<=1048576):Spec Tryz.prog 105 false [ao d,.agg (cC c)] (aJ (aX c d)):=by
 rcases h with h|⟨hk,hs⟩;·exact Cs gd hc h hp
 ·have e:aX c d=fE c d:=by unfold aX;rw[E6 hk]
  suffices hh:Spec Tryz.prog (jW c.kind) false [ao d,.agg (cC c)] (aJ (aX c d))from oP hh
  rw[e,hk];exact tH gd hs
theorem xD {d:aa}{c:Con}(gd:GoodD d.length d)(hc:ConB c)(h:conR d c=0)(hp:prodD d<=1048576):Spec Tryz.prog 105 false [ao d,.agg (cC c)] (aJ (aX c d))/\Spec Tryz.prog 118 false [ao d,.agg (cC c)] (c5 (aX c d)):=by
 obtain⟨hk0,hv,hr,hin⟩:=cB hc h;have hcl:c.vars.length*8<=140737488355328:=(by have:=hc.1;omega);have hsm:=de gd;have hus:c.kind≠4->usesR c=aT c.vars:=CV
 suffices hh:Spec Tryz.prog (jW c.kind) false [ao d,.agg (cC c)] (aJ (aX c d))/\Spec Tryz.prog (lR c.kind) false [ao d,.agg (cC c)] (c5 (aX c d))from⟨oP hh.1,yF hh.2⟩
 have hcs:c.kind=0∨c.kind=1∨c.kind=2∨c.kind=3∨c.kind=4∨c.kind=5∨c.kind=6:=(by omega);rcases hcs with hk|hk|hk|hk|hk|hk|hk
 ·have e:aX c d=fE c d:=(by unfold aX;rw[E6 hk]);rw[e,hk];exact iS gd (pc hc h hk gd.few.fine gd.few.small)
 ·have e:aX c d=dz d c.vars:=(by unfold aX;rw[E4 (by omega),E6 hk]);rw[e,hk];exact AH gd hc h hk
 ·have hkept:=li gd hc h (.inl hk) hp;have hrr:(∀r∈c.rows,r.length=c.vars.length)/\c.rows.length<=1024:=by
   unfold rightR at hr;rw[E4 (by omega),E4 (by omega),E6 hk]at hr;simp only[manyR,kF,EL,ER,EN]at hr;refine⟨λr hrm=> ?_,hr.2.2⟩;have:=hr.2.1 r hrm;simp only[em,EL,ER]at this;exact this.1
  have hp2:=nG d c gd.few.small (λx hx=>by have:=hsm x hx;omega) hc hv.2 hrr.1 hrr.2;rw[<-uD gd hc h hk]at hp2;rw[hk];exact⟨hp2,zw d c _ (hus (by omega)) _ hcl hkept⟩
 ·have hkept:=li gd hc h (.inr (.inl hk)) hp;have hrr:c.vars.Nodup/\3<=c.vars.length:=by
   unfold rightR at hr;rw[E4 (by omega),E4 (by omega),E4 (by omega),E6 hk]at hr;simp only[manyR,EL,ER]at hr;exact⟨hr.1.2.2,hr.2⟩
  have hp2:=oe (n:=d.length) d c (λ_=>gd) gd.few hc hrr.1 hrr.2 hv.2;rw[<-sI gd hc h hk]at hp2;rw[hk];exact⟨hp2,xl d c _ (hus (by omega)) _ hcl hkept⟩
 ·have e:aX c d=jy c d:=(by unfold aX;rw[E4 (by omega),E4 (by omega),E6 hk]);rw[e,hk];exact uX gd (ti hc h hk gd.few.fine gd.few.small)
 ·have hkept:=li gd hc h (.inr (.inr hk)) hp;have hp2:=kQ gd hc h hk;have h2:=tn d c (usesR c) (hus (by omega)) (λt=>bL c (cS d.length (usesR c) t (usesR c).length)) hcl;have e:aX c d=d6 d (usesR c) λt=>bL c (cS d.length (usesR c) t (usesR c).length):=by
   unfold aX;rw[E4 (by omega),E4 (by omega),E4 (by omega),E4 (by omega)]
  rw[hk];refine⟨hp2,?_⟩;rw[e]at hkept⊢;exact h2 hkept
 ·have e:aX c d=qX c d:=(by unfold aX;rw[E4 (by omega),E4 (by omega),E4 (by omega),E6 hk]);rw[e,hk];exact z1 gd hv
theorem zN {d:aa}{c:Con}(gd:GoodD d.length d)(hc:ConB c)(h:RightC d c)(hp:prodD d<=1048576):Spec Tryz.prog 105 false [ao d,.agg (cC c)] (aJ (aX c d))/\Spec Tryz.prog 118 false [ao d,.agg (cC c)] (c5 (aX c d)):=by
 rcases h with h|⟨hk,hs⟩;·exact xD gd hc h hp
 ·have e:aX c d=fE c d:=by unfold aX;rw[E6 hk]
  suffices hh:Spec Tryz.prog (jW c.kind) false [ao d,.agg (cC c)] (aJ (aX c d))/\Spec Tryz.prog (lR c.kind) false [ao d,.agg (cC c)] (c5 (aX c d))from⟨oP hh.1,yF hh.2⟩
  rw[e,hk];exact iS gd hs
structure RInv (cons:List Con)(d was:aa)(k:Nat)(now:aa):Prop where
 le:k<=cons.length
 come:Come leD (GoodD d.length) aX cons d now
 less:leD now was
 stay:now=was->∀(j:Nat) c,k<=j->cons[j]? =some c->aX c was=some was
theorem zE (d:aa)(cons:List Con)(hd:d.length*24<=140737488355328)(hx: ∀x∈d,Fine x/\(vals x).length<=4096)(hc:ConsOk d cons)
  (hone: ∀c∈cons,∀out,GoodD d.length out->leD out d->Spec Tryz.prog 118 false [ao out,.agg (cC c)] (c5 (aX c out))):
  Spec Tryz.prog 75 false [ao d,bP cons] (c5 (fL cons d)):=by
 refine Spec.body Tryz.func75 Y Y Y λw0 Z0=> ?_;generalize hR:fL cons d=R;have hcl:=hc.few;refine .B ?_;refine .D (dN d (by omega)) ?_;refine T.cd Y (λh1=> ?_) (λh1=> ?_)
 ·have h1: []∈d:=(by simpa using h1);have:R=none:=(by rw[<-hR,qQ h1]);subst this;refine .B ?_;exact r2
 ·have hne: []∉d:=(by simpa using h1);have gd:GoodD d.length d:=⟨⟨hd,λx h=>(hx x h).1,λx h=>(hx x h).2⟩,rfl,hne⟩;have hst:=hc.step gd;refine .B ?_;refine .D (cJ d hd λx h=>(hx x h).1.domB.2.2).frz ?_;refine T.K (T.ind (λx:aa=>⟨[(1,.val false (bP cons)),(6,.val true (ao x))],[],0⟩) (λx=>Come leD (GoodD d.length) aX cons d x) (λx=>weight x) d (Come.refl (aW d.length) gd) (λ_ _ h=>h) ?_);rintro was hcome ih;have gw:=hcome.fine;refine .B ?_;refine .D (cJ was gw.few.small λx h=>(gw.few.fine x h).domB.2.2).frz ?_;have hk0:IntKind.i64.wrap (((cons.map cC).length:Int)-1)=((cons.length:Nat):Int)-1:=(by rw[EB,af (by omega) (by omega)]);rw[hk0];refine T.K (T.ind (λx:Nat×aa=>⟨[(1,.val false (bP cons)),(6,.val true (ao x.2)),(7,.val true (ao was)),(8,.val true (.int .i64 ((x.1:Int)-1)))],[],0⟩) (λx=>RInv cons d was x.1 x.2) (λx=>x.1) (cons.length,was) ⟨EO _,hcome,(aW d.length).refl _,λ_ j c h1 h2=>by have:=(E8.1 h2).1;omega⟩ (λ_ _ h=>h) ?_);rintro⟨k,now⟩ hinv ih2;simp only at hinv;dsimp only;have hle:=hinv.le;refine .B ?_;refine T.cd Y (λh2=> ?_) (λh2=> ?_)
  ·obtain⟨i,rfl⟩: ∃i,k=i+1:=⟨k-1,by omega⟩;have hi:i<cons.length:=(by omega);have hci:cons[i]? =some cons[i]:=E5 hi;have hcm:=EA hi;have hrow:(cons.map cC)[((i:Nat):Int).toNat]? =some (cC cons[i]):=(by simp[hi]);have gn:=hinv.come.fine;have hsp:=hone _ hcm now gn hinv.come.less;have hstc:=hst _ hcm;have e1:(((i+1:Nat):Int)-1)=((i:Nat):Int):=(by omega);rw[e1];generalize cons[i]=c at*;refine .B ?_;refine .F (r:=cC c) hrow ?_;refine .C hsp ?_;cases hnow:aX c now with
   |none=>
    have hfin:=eP (d:=d) (R:=none) (show AllEnds cons d none from hinv.come.none hcm hstc.takes hnow);rw[hR]at hfin;subst hfin;refine .B ?_;refine T.ct Y ?_;refine .B ?_;exact r2
   |some nxt=>
    obtain⟨gx,hlx⟩:=hstc.takes.less _ _ gn hnow;have hin2:RInv cons d was i nxt:=by
     refine⟨by omega,hinv.come.step (aW d.length) hcm hstc.takes hnow,(aW d.length).trans _ _ _ hlx hinv.less,λe j c' hj hcj=> ?_⟩;have he:now=was:=(aW d.length).anti _ _ gn gw hinv.less (by rw[<-e];exact hlx);by_cases hji:j=i
     ·subst hji;rw[hci]at hcj;cases hcj;rw[<-he,hnow,e,he]
     ·exact hinv.stay he j c' (by omega) hcj
    refine .B ?_;refine T.cf Y ?_;refine .B ?_;have hw:IntKind.i64.wrap ((i:Int)-1)=(i:Int)-1:=af (by omega) (by omega);rw[hw];exact T.K (ih2 (i,nxt) hin2 (by show i<i+1;omega))
  ·have hk:k=0:=(by omega);subst hk;have gn:=hinv.come.fine;have hwl:=f4 gn gw hinv.less;refine .B ?_;refine .D (ld was now (by have:=gw.few.small;omega) λx h=>by have:=(gw.few.fine x h).len;omega) ?_;refine T.cd Y (λh3=> ?_) (λh3=> ?_)
   ·have h3:was=now:=(by simpa using h3);have hfin:=eP (d:=d) (R:=some now) ⟨hinv.come,λc hcm=>by
     obtain⟨j,hj⟩:=EK hcm;have:=hinv.stay h3.symm j c (Er _) hj;rwa[h3]at this⟩
    rw[hR]at hfin;subst hfin;refine .B ?_;exact r2
   ·have h3:was≠now:=(by simpa using h3);refine .B ?_;exact T.K (ih now hinv.come (hwl.2 (Ne.symm h3)))
theorem DL {d:List (Int×Int)}(h: ∀i,i<d.length->(d.getD i (0,0)).1<=(d.getD i (0,0)).2/\(0<i->(d.getD (i-1) (0,0)).2+2<=(d.getD i (0,0)).1)):aB d:=by
 induction d with
 |nil=>exact⟨by simp,.nil⟩
 |cons x d ih=>
  have h0:=(h 0 (by simp)).1;have h1:=ih λi hi=>by
   obtain⟨a,b⟩:=h (i+1) (by simp;omega);refine⟨a,λhp=> ?_⟩;obtain⟨j,rfl⟩: ∃j,i=j+1:=⟨i-1,by omega⟩;exact b (by omega)
  refine⟨λr hr=> ?_,Ei.2 ⟨λs hs=> ?_,h1.2⟩⟩
  ·rcases ET.1 hr with rfl|hr;·exact h0
   ·exact h1.1 r hr
  ·cases d with
   |nil=>cases hs
   |cons y d=>
    have h2:=(h 1 (by simp)).2 (by omega);have h2:x.2+2<=y.1:=h2;rcases ET.1 hs with rfl|hs;·exact h2
    ·have:=(Ei.1 h1.2).1 s hs;have:=h1.1 y (.head _);omega
theorem uK {d:List (Int×Int)}(h:aB d):sizeI d=((vals d).length:Nat):=by
 induction d with
 |nil=>rfl
 |cons r d ih=>
  have h0:=h.1 r (.head _);have e:sizeI (r::d)=(r.2-r.1+1)+sizeI d:=rfl;rw[e,ih h.tail,bD,EZ,show(rng r.1 r.2).length=(r.2+1-r.1).toNat by simp[rng]];omega
theorem tZ {d:List (Int×Int)}(h:chkR d=0):Fine d/\(vals d).length<=4096:=by
 unfold chkR at h;split at h;·cases h
 ·rename_i h1;split at h;·cases h
  ·rename_i h2;have hb: ∀i,i<d.length->badR d i=false:=λi hi=>by
    cases e:badR d i with
    |false=>rfl
    |true=>exact EX (Fa.2 ⟨i,ES.2 hi,e⟩) h1
   have hok:aB d:=DL λi hi=>by
    have:=hb i hi;unfold badR at this;simp only[HF,GW,Bool.and_eq_false_iff,decide_eq_false_iff_not]at this;obtain⟨_,_,h5,h6⟩:=this;refine⟨by omega,λhp=> ?_⟩;rcases h6 with h6|h6<;>omega
   have hs:=uK hok;have hln:(vals d).length<=4096:=(by omega);refine⟨⟨hok,λv hv=> ?_,by omega⟩,hln⟩;obtain⟨r,hr,h3,h4⟩:=be.1 hv;obtain⟨i,hi⟩:=EK hr;have hil:=(E8.1 hi).1;have:=hb i hil;unfold badR at this;rw[E0,hi]at this;simp only[Fz,HF,GW,aN,ER]at this;omega
structure Goal where
 kind:Int
 vars:List Int
 coefs:List Int
structure Mod where
 vars:List (ByteArray×List (Int×Int))
 cons:List Con
 goal:Goal
def cV (v:ByteArray×List (Int×Int)):List PV:=[.str v.1,dm v.2]
def cG (g:Goal):List PV:=[.int .i64 g.kind,aq g.vars,aq g.coefs]
def cM (m:Mod):List PV:=[.sl (m.vars.map cV),bP m.cons,.int .i64 m.goal.kind,aq m.goal.vars,aq m.goal.coefs]
def domsM (m:Mod):aa:=m.vars.map (·.2)
structure ModB (m:Mod):Prop where
 vl:m.vars.length<=1024
 vn: ∀v∈m.vars,v.1.size<=1024/\v.2.length<=1024
 cl:m.cons.length<=1024
 cb: ∀c∈m.cons,c.vars.length<=1024/\c.coefs.length<=1024/\c.rows.length<=1024/\∀r∈c.rows,r.length<=1024
 gl:m.goal.vars.length<=1024/\m.goal.coefs.length<=1024
theorem ll (m:Mod)(hm:ModB m):Spec Tryz.prog 29 false [.agg (cM m)] [.own 54 1 ((domsM m).map cD)]:=by
 refine Spec.body Tryz.func29 Y Y Y λw0 Z0=> ?_;obtain⟨h1,h2,_,_,_⟩:=hm;refine .B ?_;refine .Q ?_;refine T.sub (Rel.wk (o:=1) Y) ?_;refine T.K (T.ind (λi:Nat=>⟨[(1,.optr 0 0 0 0),(3,.ref 1),(4,.val true (.int .i64 i))],[(0,some (.box false (cM m))),(1,some (.sl 54 1 false (((domsM m).take i).map cD)))],2⟩) (λi=>i<=m.vars.length) (λi=>m.vars.length-i) 0 (Er _) (λ_ _ h=>h) ?_);rintro i hi ih;refine .B ?_;refine T.cd Y (λh5=> ?_) (λh5=> ?_)
 ·have h5:i<m.vars.length:=(by simpa using h5);have hrow:(m.vars.map cV)[((i:Nat):Int).toNat]? =some (cV m.vars[i]):=(by simp[h5]);have hv:=h2 _ (EA h5);have htk:(domsM m).take (i+1)=(domsM m).take i++[m.vars[i].2]:=by
   rw[ED (by simpa[domsM]using h5)];simp[domsM]
  have hl:=List.length_take_le i (domsM m);have ih1:=ih (i+1) (by omega) (by omega);rw[htk]at ih1;generalize (domsM m).take i=out at*;generalize m.vars[i]=v at*;refine .B ?_;refine .F (r:=cV v) hrow ?_;refine .V ?_;refine J.aD Y Y Y Y Y Y Y Y Y Y Y Y Y Y Y Y Y Y Y (by omega) ?_;refine .B ?_;rw[ai (l:=m.vars.length) h5 (by omega)];exact T.K ih1
 ·have h5:i=m.vars.length:=(by simp at h5;omega);subst h5;rw[EY (by simp[domsM])];have hli:=cJ (domsM m) (by simp[domsM];omega) λx hx=>by
   obtain⟨v,hv,rfl⟩:=EH.1 hx;have:=h2 v hv;omega
  generalize domsM m=d at*;refine .B ?_;refine .D hli ?_;exact⟨_,.o Y Y Y (λ_=> .inl Y) (by simp) .nil⟩
def eU (g:Goal):Con:=⟨0,g.vars,g.coefs,0,0,[],0⟩
def eZ (d:aa)(g:Goal):Int:=if g.kind=1∨g.kind=2 then conR d (eU g)else if g.kind≠0∨0<g.vars.length∨0<g.coefs.length then 44 else 0
theorem Ai (d:aa)(g:Goal)(hg:g.vars.length<=1024/\g.coefs.length<=1024)(hl:d.length*8<=140737488355328)(hd: ∀x∈d,x.length*8<=140737488355328):Spec Tryz.prog 33 false [ao d,.agg (cG g)] [.val (.int .i64 (eZ d g))]:=by
 refine Spec.body Tryz.func33 Y Y Y λw0 Z0=> ?_;have hcb:ConB (eU g):=⟨by simp[eU];omega,by simp[eU];omega,by simp[eU],by simp[eU]⟩;have hcon:=wC d (eU g) hcb hl hd;generalize hR:eZ d g=R;unfold eZ at hR;generalize conR d (eU g)=cr at*;have yes:g.kind=1∨g.kind=2->cr=R:=λh=>(by rw[E6 h]at hR;exact hR);have no: ¬g.kind=1->¬g.kind=2->(if g.kind≠0∨0<g.vars.length∨0<g.coefs.length then(44:Int)else 0)=R:=λa b=>(by rw[E4 (λh=>h.elim a b)]at hR;exact hR);refine .B ?_;refine J.g Y Y Y (λh1=> ?_) (λh1=> ?_)
 ·rw[yes (.inl h1)]at hcon;refine .B ?_;refine T.ct Y ?_;refine .B ?_;refine .D hcon ?_;exact r1
 ·have h1: ¬g.kind=1:=h1;refine .B ?_;refine T.cd Y (λh2=> ?_) (λh2=> ?_)
  ·rw[yes (.inr h2)]at hcon;refine .B ?_;refine .D hcon ?_;exact r1
  ·have h2: ¬g.kind=2:=h2;have no:=no h1 h2;refine .B ?_;refine J.g Y Y Y (λh3=> ?_) (λh3=> ?_)
   ·rw[E6 (.inl h3)]at no;subst no;refine .B ?_;refine T.ct Y ?_;refine .B ?_;exact r1
   ·have h3: ¬g.kind≠0:=h3;refine .B ?_;refine J.g Y Y Y (λh4=> ?_) (λh4=> ?_)
    ·rw[E6 (.inr (.inl (by simpa using h4)))]at no;subst no;refine .B ?_;refine T.ct Y ?_;refine .B ?_;exact r1
    ·refine .B ?_;refine T.cd Y (λh6=> ?_) (λh6=> ?_)
     ·rw[E6 (.inr (.inr (by simpa using h6)))]at no;subst no;refine .B ?_;exact r1
     ·rw[E4 (by
       rintro(h|h|h);·exact h3 h
       ·exact h4 (by simpa using h)
       ·exact h6 (by simpa using h))]at no
      subst no;refine .B ?_;exact r1
def nmM (m:Mod)(i:Nat):ByteArray:=(m.vars.getD i (⟨#[]⟩,[])).1
def dmM (m:Mod)(i:Nat):List (Int×Int):=(m.vars.getD i (⟨#[]⟩,[])).2
def gY (m:Mod)(i:Nat):Bool:=(List.range i).any λk=>(nmM m k).toList==(nmM m i).toList
def varR (m:Mod)(i:Nat):Int:=if gu (nmM m i)=false then 40 else if gY m i=true then 41 else if dmM m i=[]∨chkR (dmM m i)≠0 then 42 else 0
def firstE (l:List Int):Int:=(l.find? (· ≠0)).getD 0
def checkR (m:Mod):Int:=if 64<m.vars.length∨256<m.cons.length then 2 else
 if firstE ((List.range m.vars.length).map (varR m))≠0 then firstE ((List.range m.vars.length).map (varR m))else
 if firstE (m.cons.map (conR (domsM m)))≠0 then firstE (m.cons.map (conR (domsM m)))else eZ (domsM m) m.goal
theorem ko {l:List Int}{i:Nat}{e:Int}(h: ∀j,j<i->∀x,l[j]? =some x->x=0)(hi:l[i]? =some e)(he:e≠0):firstE l=e:=by
 have hlt:=(E8.1 hi).1;have:l.find? (· ≠0)=some e:=by
  rw[List.find?_eq_some_iff_getElem];refine⟨by simpa using he,i,hlt,(E8.1 hi).2,λj hj=> ?_⟩;have:=h j hj _ (E5 (by omega));simp[this]
 unfold firstE;rw[this];rfl
theorem kn {l:List Int}(h: ∀x∈l,x=0):firstE l=0:=by
 have:l.find? (· ≠0)=none:=by
  rw[GV];intro x hx;simp[h x hx]
 unfold firstE;rw[this];rfl
theorem n9 {l:List Int}(h:firstE l=0): ∀x∈l,x=0:=by
 intro x hx;unfold firstE at h;cases hf:l.find? (· ≠0)with
 |none=>
  have:=GV.1 hf x hx;simpa using this
 |some e=>
  rw[hf]at h;have:=List.find?_some hf;simp at this;exact EX h this
theorem jD (m:Mod)(hm:ModB m):Spec Tryz.prog 11 false [.agg (cM m)] [.val (.int .i64 (checkR m))]:=by
 refine Spec.body Tryz.func11 Y Y Y λw0 Z0=> ?_;have hds:=ll m hm;generalize hR:checkR m=R;obtain⟨b1,b2,b3,b4,b5⟩:=hm;have yes:64<m.vars.length∨256<m.cons.length->(2:Int)=R:=λh=>(by rw[<-hR];exact(E6 h).symm);refine .B ?_;refine J.g Y Y Y (λh1=> ?_) (λh1=> ?_)
 ·have e:=yes (.inl (by simp at h1;omega));subst e;refine .B ?_;refine T.ct Y ?_;refine .B ?_;exact r1
 ·refine .B ?_;refine T.cd Y (λh2=> ?_) (λh2=> ?_)
  ·have e:=yes (.inr (by simp at h2;omega));subst e;refine .B ?_;exact r1
  ·have hR:(if firstE ((List.range m.vars.length).map (varR m))≠0 then firstE ((List.range m.vars.length).map (varR m))else
     if firstE (m.cons.map (conR (domsM m)))≠0 then firstE (m.cons.map (conR (domsM m)))else eZ (domsM m) m.goal)=R:=by
    unfold checkR at hR;rw[E4 (by simp at h1 h2;omega)]at hR;exact hR
   have hvar: ∀i,i<m.vars.length->(∀j,j<i->varR m j=0)->varR m i≠0->R=varR m i:=λi hi hb he=>by
    have:firstE ((List.range m.vars.length).map (varR m))=varR m i:=ko (i:=i) (λj hj x hx=>by
     rw[EJ,Fr (by omega)]at hx;rw[<-E7 hx];exact hb j hj) (by rw[EJ,Fr hi];rfl) he
    rw[this,E6 he]at hR;exact hR.symm
   refine .B ?_;refine T.K (T.ind (λi:Nat=>⟨[(1,.optr 0 0 0 0),(3,.val true (.int .i64 i))],[(0,some (.box false (cM m)))],1⟩) (λi=>i<=m.vars.length/\∀j,j<i->varR m j=0) (λi=>m.vars.length-i) 0 ⟨Er _,λj hj=>EX hj (FK j)⟩ (λ_ _ h=>h) ?_);rintro i ⟨hi,hb⟩ ih;refine .B ?_;refine T.cd Y (λh3=> ?_) (λh3=> ?_)
   ·have h3:i<m.vars.length:=(by simpa using h3);have hv:=hvar i h3 hb;have hvi:varR m i=if gu (nmM m i)=false then 40 else if gY m i=true then 41 else if dmM m i=[]∨chkR (dmM m i)≠0 then 42 else 0:=rfl
    have hrowk: ∀k,k<m.vars.length->(m.vars.map cV)[((k:Nat):Int).toNat]? =some (cV (nmM m k,dmM m k)):=λk hk=>by
     rw[Eo,EJ,E5 hk];unfold nmM dmM;rw[E0,E5 hk];rfl
    have hrow:=hrowk i h3;have hbk: ∀k,k<m.vars.length->(nmM m k).size<=1024/\(dmM m k).length<=1024:=λk hk=>by
     unfold nmM dmM;rw[E0,E5 hk];exact b2 _ (EA hk)
    have hns:=zR (nmM m i) (by have:=hbk i h3;omega);refine .B ?_;refine .F (r:=cV (nmM m i,dmM m i)) hrow ?_;refine .D hns ?_;cases hn:gu (nmM m i)
    ·have:R=40:=(by rw[hv (by rw[hvi,E6 hn];decide),hvi,E6 hn]);subst this;refine T.ct Y ?_;refine .B ?_;exact r1
    ·rw[E4 (by rw[hn];simp)]at hvi;refine T.cf Y ?_;refine .B ?_;refine T.K (T.ind (λk:Nat=>⟨[(1,.optr 0 0 0 0),(3,.val true (.int .i64 i)),(4,.val true (.int .i64 k))],[(0,some (.box false (cM m)))],1⟩) (λk=>k<=i/\∀j,j<k->((nmM m j).toList==(nmM m i).toList)=false) (λk=>i-k) 0 ⟨Er _,λj hj=>EX hj (FK j)⟩ (λ_ _ h=>h) ?_);rintro k ⟨hk,hbn⟩ ih2;refine .B ?_;refine T.cd Y (λh4=> ?_) (λh4=> ?_)
     ·have h4:k<i:=(by omega);have hrk:=hrowk k (by omega);have htw:((nmM m k).toList==(nmM m i).toList)=true->gY m i=true:=λh=>Fa.2 ⟨k,ES.2 h4,h⟩;have ih3:=λh:((nmM m k).toList==(nmM m i).toList)=false=>ih2 (k+1) ⟨by omega,λj hj=>by
       by_cases e:j=k;·rw[e];exact h
       ·exact hbn j (by omega)⟩ (by omega)
      refine .B ?_;refine .F (r:=cV (nmM m k,dmM m k)) hrk ?_;refine .F (r:=cV (nmM m i,dmM m i)) hrow ?_;cases he:((nmM m k).toList==(nmM m i).toList)
      ·refine T.cf Y ?_;refine .B ?_;rw[ai (l:=m.vars.length) (n:=k) (by omega) (by omega)];exact T.K (ih3 he)
      ·have ht:=htw he;have:R=41:=(by rw[hv (by rw[hvi,E6 ht];decide),hvi,E6 ht]);subst this;refine T.ct Y ?_;refine .B ?_;exact r1
     ·have h4:k=i:=(by omega);subst h4;have htf:gY m k=false:=by
       unfold gY;rw[Gl];intro j hj;rw[hbn j (ES.1 hj)];simp
      rw[E4 (by rw[htf];simp)]at hvi;have hck:=u4 (dmM m k) (by have:=hbk k h3;omega);have stop:dmM m k=[]∨chkR (dmM m k)≠0->R=42:=λh=>(by rw[hv (by rw[hvi,E6 h];decide),hvi,E6 h]);have goon: ¬dmM m k=[]->¬chkR (dmM m k)≠0->varR m k=0:=λa b=>(by rw[hvi,E4 (λh=>h.elim a b)]);have hw1:IntKind.i64.wrap ((k:Int)+1)=((k+1:Nat):Int):=ai (l:=m.vars.length) h3 (by omega);have ih4:=λh:varR m k=0=>ih (k+1) ⟨by omega,λj hj=>by
       by_cases e:j=k;·rw[e];exact h
       ·exact hb j (by omega)⟩ (by omega)
      generalize varR m k=vr at*;generalize nmM m k=nm at*;generalize dmM m k=dd at*;generalize chkR dd=ck at*;refine .B ?_;refine .F (r:=cV (nm,dd)) hrow ?_;refine J.g Y Y Y (λh5=> ?_) (λh5=> ?_)
      ·have e:=stop (.inl (by simpa using h5));subst e;refine .B ?_;refine T.ct Y ?_;refine .B ?_;exact r1
      ·refine .B ?_;refine .F (r:=cV (nm,dd)) hrow ?_;refine .D hck ?_;refine T.cd Y (λh6=> ?_) (λh6=> ?_)
       ·have e:=stop (.inr h6);subst e;refine .B ?_;exact r1
       ·refine .B ?_;rw[hw1];exact T.K (ih4 (goon (by simpa using h5) h6))
   ·have h3:i=m.vars.length:=(by simp at h3;omega);have hfz:firstE ((List.range m.vars.length).map (varR m))=0:=kn λx hx=>by
     obtain⟨j,hj,rfl⟩:=EH.1 hx;exact hb j (by rw[h3];exact ES.1 hj)
    rw[hfz,E4 (by simp)]at hR;refine .B ?_;refine .D hds.frz ?_;refine T.K (T.ind (λi:Nat=>⟨[(1,.optr 0 0 0 0),(5,.val true (ao (domsM m))),(6,.val true (.int .i64 i))],[(0,some (.box false (cM m)))],1⟩) (λi=>i<=m.cons.length/\∀j,j<i->∀c,m.cons[j]? =some c->conR (domsM m) c=0) (λi=>m.cons.length-i) 0 ⟨Er _,λj hj=>EX hj (FK j)⟩ (λ_ _ h=>h) ?_);rintro k ⟨hk,hbc⟩ ih;have hdl:(domsM m).length*8<=140737488355328:=(by simp[domsM];omega);have hdx: ∀x∈domsM m,x.length*8<=140737488355328:=λx hx=>by
     obtain⟨v,hv,rfl⟩:=EH.1 hx;have:=b2 v hv;omega
    refine .B ?_;refine T.cd Y (λh4=> ?_) (λh4=> ?_)
    ·have h4:k<m.cons.length:=(by simpa[bP]using h4);have hrow:(m.cons.map cC)[((k:Nat):Int).toNat]? =some (cC m.cons[k]):=(by simp[h4]);have hcb:=b4 _ (EA h4);have hcs:=wC (domsM m) m.cons[k] ⟨by omega,by omega,by omega,λr hr=>by have:=hcb.2.2.2 r hr;omega⟩ hdl hdx;have hgk:m.cons[k]? =some m.cons[k]:=E5 h4;have stop:conR (domsM m) m.cons[k]≠0->R=conR (domsM m) m.cons[k]:=λhe=>by
      have:firstE (m.cons.map (conR (domsM m)))=conR (domsM m) m.cons[k]:=ko (i:=k) (λj hj x hx=>by
       rw[EJ]at hx;obtain⟨c,hc,rfl⟩:=Ej.1 hx;exact hbc j hj c hc) (by rw[EJ,hgk];rfl) he
      rw[this,E6 he]at hR;exact hR.symm
     have ih4:=λh:conR (domsM m) m.cons[k]=0=>ih (k+1) ⟨by omega,λj hj c hc=>by
      by_cases e:j=k;·rw[e,hgk]at hc;cases hc;exact h
      ·exact hbc j (by omega) c hc⟩ (by omega)
     generalize m.cons[k]=c at*;generalize conR (domsM m) c=cr at*;refine .B ?_;refine .F (r:=cC c) hrow ?_;refine .D hcs ?_;refine T.cd Y (λh5=> ?_) (λh5=> ?_)
     ·have e:=stop h5;subst e;refine .B ?_;exact r1
     ·have h5:cr=0:=F9 h5;refine .B ?_;rw[ai (l:=m.cons.length) h4 (by omega)];exact T.K (ih4 h5)
    ·have h4:k=m.cons.length:=(by simp[bP]at h4;omega);have hfc:firstE (m.cons.map (conR (domsM m)))=0:=kn λx hx=>by
      obtain⟨c,hc,rfl⟩:=EH.1 hx;obtain⟨j,hj⟩:=EK hc;exact hbc j (by rw[h4];exact(E8.1 hj).1) c hj
     rw[hfc,E4 (by simp)]at hR;have hgs:=Ai (domsM m) m.goal b5 hdl hdx;rw[hR]at hgs;refine .B ?_;refine .D hgs ?_;exact r1
def smallD (d:aa)(most:Nat):Bool:=(List.range d.length).all λk=>decide (prodD (d.take (k+1))<=most)
theorem zt {d:aa}{most:Nat}(h:smallD d most=true)(h1:1<=most):prodD d<=most:=by
 by_cases h0:d=[];·subst h0;exact h1
 ·have hl:=HM.2 h0;have:=EN.1 h (d.length-1) (ES.2 (by omega));rw[show d.length-1+1=d.length by omega,Ep]at this;simpa using this
theorem uQ (d:aa)(most:Nat)(hm:1<=most/\most<=1048576)(fd:FewD d):Spec Tryz.prog 28 false [ao d,.int .i64 most] [.val (.bool (smallD d most))]:=by
 refine Spec.body Tryz.func28 Y Y Y λw0 Z0=> ?_;generalize hR:smallD d most=R;have hds:=fd.small;refine .B ?_;refine T.K (T.ind (λi:Nat=>⟨[(0,.val false (ao d)),(1,.val false (.int .i64 most)),(5,.val true (.int .i64 (prodD (d.take i)))),(6,.val true (.int .i64 i))],[],0⟩) (λi=>i<=d.length/\prodD (d.take i)<=most/\∀j,j<i->prodD (d.take (j+1))<=most) (λi=>d.length-i) 0 ⟨Er _,hm.1,λj hj=>EX hj (FK j)⟩ (λ_ _ h=>h) ?_);rintro i ⟨hi,hp,hb⟩ ih;refine .B ?_;refine T.cd Y (λh1=> ?_) (λh1=> ?_)
 ·have h1:i<d.length:=(by simpa using h1);have hrow:(d.map cD)[((i:Nat):Int).toNat]? =some (cD d[i]):=(by simp[h1]);have hf:=fd.fine _ (EA h1);have hw:=fd.few _ (EA h1);have hvs:=bB d[i] hf.domB.1 (by omega) hf.domB.2.2;have htk:prodD (d.take (i+1))=prodD (d.take i)*(vals d[i]).length:=(by rw[ED h1,pL]);have hno: ¬prodD (d.take (i+1))<=most->R=false:=λh=>by
   rw[<-hR];unfold smallD;rw[H8];exact⟨i,ES.2 h1,by simpa using h⟩
  have ih1:=λh:prodD (d.take (i+1))<=most=>ih (i+1) ⟨by omega,h,λj hj=>by
   by_cases e:j=i;·rw[e];exact h
   ·exact hb j (by omega)⟩ (by omega)
  have hle:prodD (d.take i)*(vals d[i]).length<=1048576*4096:=Hu (by omega) hw;rw[htk]at hno ih1;generalize vals d[i]=l at*;generalize d[i]=x at*;generalize prodD (d.take i)=p at*;have hmul:IntKind.i64.wrap ((p:Int)*((l.map cI).length:Nat))=((p*l.length:Nat):Int):=by
   rw[EB,<-ID,af (by omega) (by omega)]
  refine .B ?_;refine .F (r:=cD x) hrow ?_;refine .D hvs ?_;rw[hmul];refine T.cd Y (λh2=> ?_) (λh2=> ?_)
  ·have e:=hno (by omega);subst e;refine .B ?_;exact r1
  ·refine .B ?_;rw[ai (l:=d.length) h1 (by omega)];exact T.K (ih1 (by omega))
 ·have h1:i=d.length:=(by simp at h1;omega);have:R=true:=by
   rw[<-hR];unfold smallD;rw[EN];intro j hj;have:=hb j (by rw[h1];exact ES.1 hj);simpa using this
  subst this;refine .B ?_;exact r1
def ja (v:ByteArray×List (Int×Int)):ByteArray×List (Int×Int):=(v.1.extract 0 (min v.1.size 20),v.2.take (min v.2.length 12))
def fK (c:Con):Con:=⟨c.kind,c.vars.take (min c.vars.length 14),c.coefs.take (min c.coefs.length 14),c.op,c.rhs,(c.rows.take 20).map λr=>r.take (min r.length 14),c.b⟩
def boundM (m:Mod):Mod:=⟨(m.vars.take 10).map ja,(m.cons.take 16).map fK,⟨m.goal.kind,m.goal.vars.take (min m.goal.vars.length 14),m.goal.coefs.take (min m.goal.coefs.length 14)⟩⟩
structure ModI (m:Mod):Prop where
 vn: ∀v∈m.vars,v.2.length*8<=140737488355328
 vl:m.vars.length*8<=140737488355328
 cl:m.cons.length*8<=140737488355328
 cb: ∀c∈m.cons,c.vars.length*8<=140737488355328/\c.coefs.length*8<=140737488355328/\c.rows.length*8<=140737488355328/\∀r∈c.rows,r.length*8<=140737488355328
 gl:m.goal.vars.length*8<=140737488355328/\m.goal.coefs.length*8<=140737488355328
theorem qL (m:Mod):ModB (boundM m):=by
 refine⟨by simp[boundM];omega,λv hv=> ?_,by simp[boundM];omega,λc hc=> ?_,by simp[boundM];omega⟩
 ·obtain⟨u,_,rfl⟩:=EH.1 hv;simp[ja,ByteArray.size_extract];omega
 ·obtain⟨u,_,rfl⟩:=EH.1 hc;refine⟨by simp[fK];omega,by simp[fK];omega,by simp[fK];omega,λr hr=> ?_⟩;obtain⟨q,_,rfl⟩:=EH.1 hr;simp;omega
def bxM (u1 u2:Value)(g:Goal):List PV:=[.raw u1,.raw u2,.int .i64 g.kind,aq g.vars,aq g.coefs]
set_option maxHeartbeats 1000000 in
theorem yj (m:Mod)(hm:ModI m):Spec Tryz.prog 27 true [.agg (cM m)] [.val (.agg (cM (boundM m)))]:=by
 refine Spec.body Tryz.func27 Y Y Y λw0 Z0=> ?_;obtain⟨b1,b2,b3,b4,b5⟩:=hm;refine .B ?_;refine .L ?_;refine J.nil ?_;refine T.seq ?_;refine T.r ?_;refine J.sub (Rel.unbx (s:=1) (λ_ h=>h) Y Y) ?_;refine J.H Y ?_
 conv=>whnf
 refine J.H Y ?_
 conv=>whnf
 refine J.bz [.raw (.slice none 0 0),.raw (.slice none 0 0),.int .i64 0,.sl [],.sl []] Y Y Y Y Y Y Y Y (λw Z=> .cons (.raw _ Y) (.cons (.raw _ Y) (.cons (.int _ _) (.cons .nilsl (.cons .nilsl .nil))))) (by simp[PV.one]) rfl rfl rfl ?_
 conv=>whnf
 refine .L ?_;refine .W ?_;refine J.nil ?_;refine T.nilO 1001 56 2 Y ?_;refine T.nilO 1002 51 7 Y ?_;refine T.sub (Rel.wk (o:=3) Y) ?_;refine T.sub (Rel.wk (o:=4) Y) ?_;refine T.mids (λu:Value=>⟨[(1,.fptr false (cM m)),(2,.optr 0 0 0 0),(3,.optr 1 0 0 0),(1001,.eq u 2),(1002,.eq (.slice none 0 0) 3)],[(0,some (.box true [.sl [],.sl [],.int .i64 0,.sl [],.sl []])),(1,some (.box false (bxM u (.slice none 0 0) m.goal))),(2,some (.sl 56 2 false ((boundM m).vars.map cV))),(3,some (.sl 51 7 false []))],4⟩) ?_ λu1=> ?_
 ·refine .M ?_;refine T.K (T.ind (λs:Nat×Value=>⟨[(1,.fptr false (cM m)),(2,.optr 0 0 0 0),(3,.optr 1 0 0 0),(4,.val true (.int .i64 s.1)),(1001,.eq s.2 2),(1002,.eq (.slice none 0 0) 3)],[(0,some (.box true [.sl [],.sl [],.int .i64 0,.sl [],.sl []])),(1,some (.box false (bxM s.2 (.slice none 0 0) m.goal))),(2,some (.sl 56 2 false (((m.vars.take s.1).map ja).map cV))),(3,some (.sl 51 7 false []))],4⟩) (λs=>s.1<=min m.vars.length 10) (λs=>10-s.1) (0,.slice none 0 0) (Er _) (λ_ _ h=>by cases h.1) ?_);rintro⟨i,u⟩ hi ih;simp only at hi;refine .B ?_;refine J.g Y Y Y (λh1=> ?_) (λh1=> ?_)
  ·have h1:i<m.vars.length:=(by simpa using h1);refine .B ?_;refine T.cd Y (λh2=> ?_) (λh2=> ?_)
   ·have h2:i<10:=(by omega);have hrow:(m.vars.map cV)[((i:Nat):Int).toNat]? =some (cV m.vars[i]):=(by simp[h1]);have hv:=b1 _ (EA h1);have htk:(m.vars.take (i+1)).map ja=(m.vars.take i).map ja++[ja m.vars[i]]:=(by rw[ED h1,F4];rfl);have hln:((m.vars.take i).map ja).length<=10:=(by simp;omega);have ih1:=λu'=>ih (i+1,u') (by show _<=min _ _;omega) (by show _-_<_-_;omega);simp only[htk,F4]at ih1;generalize (m.vars.take i).map ja=out at*;generalize m.vars[i]=v at*;obtain⟨nm,dd⟩:=v;simp only at hv;refine .B ?_;refine .F (r:=cV (nm,dd)) hrow ?_;refine .L ?_;refine .W ?_;refine .M ?_;refine T.rdw 22 Y (by kernel_rfl) Y ?_;refine J.H Y ?_;refine J.lr 1001 (q:=2) (u:=u) Y Y Y Y Y Y Y Y Y ?_;refine .M ?_;refine J.ss (min nm.size 20) Y Y Y Y Y Y Y (by simp;omega) (Nat.min_le_left _ _) ?_;refine .M ?_;refine .O ?_;refine .M ?_;refine J.s1 (enc:=cR) (l:=dd) (min dd.length 12) Y Y Y Y Y Y Y Y Y (λ_=>rfl) (by simp;omega) (by omega) ?_;refine J.adf (λ_ h=>h) Y Y Y Y Y Y Y Y Y Y Y Y Y Y Y Y Y yU (by show(0+List.length _)*16<=_;simp;omega) ?_;refine .M ?_;refine .V ?_;refine J.ad Y Y Y Y Y Y Y Y Y Y Y Y Y Y Y Y Y Y (cy Y) (by show(List.length _+1)*40<=_;simp;omega) ?_;refine .M ?_;refine⟨by kernel_rfl,?_⟩;refine J.name 1001 (s:=49) Y Y Y λu'=> ?_;refine J.sub (Rel.raw (s:=49) (g:=1001) Y (.inl Y) Y Y Y) ?_;refine .X ?_;rw[ai (l:=m.vars.length) (n:=i) h1 b2];exact T.K (ih1 u')
   ·have e:i=10:=(by omega);subst e;refine .B ?_;exact⟨rfl,u,[1,2,3,1001,1002],[2,3,1001,1002],rfl,rfl⟩
  ·have e:i=m.vars.length:=(by simp at h1;omega);subst e;have e2:m.vars.take 10=m.vars:=EY (by omega);rw[show(boundM m).vars=(m.vars.take 10).map ja from Y,e2,Ep];refine .B ?_;refine T.cf Y ?_;refine .B ?_;exact⟨rfl,u,[1,2,3,1001,1002],[2,3,1001,1002],rfl,rfl⟩
 ·refine T.mids (λu2:Value=>⟨[(1,.fptr false (cM m)),(2,.optr 0 0 0 0),(3,.optr 1 0 0 0),(1001,.eq u1 2),(1002,.eq u2 3)],[(0,some (.box true [.sl [],.sl [],.int .i64 0,.sl [],.sl []])),(1,some (.box false (bxM u1 u2 m.goal))),(2,some (.sl 56 2 false ((boundM m).vars.map cV))),(3,some (.sl 51 7 false ((boundM m).cons.map cC)))],4⟩) ?_ λu2=> ?_
  ·refine .M ?_;refine T.K (T.ind (λs:Nat×Value=>⟨[(1,.fptr false (cM m)),(2,.optr 0 0 0 0),(3,.optr 1 0 0 0),(6,.val true (.int .i64 s.1)),(1001,.eq u1 2),(1002,.eq s.2 3)],[(0,some (.box true [.sl [],.sl [],.int .i64 0,.sl [],.sl []])),(1,some (.box false (bxM u1 s.2 m.goal))),(2,some (.sl 56 2 false ((boundM m).vars.map cV))),(3,some (.sl 51 7 false (((m.cons.take s.1).map fK).map cC)))],4⟩) (λs=>s.1<=min m.cons.length 16) (λs=>16-s.1) (0,.slice none 0 0) (Er _) (λ_ _ h=>by cases h.1) ?_);rintro⟨i,u⟩ hi ih;simp only at hi;refine .B ?_;refine J.g Y Y Y (λh1=> ?_) (λh1=> ?_)
   ·have h1:i<m.cons.length:=(by simpa[bP]using h1);refine .B ?_;refine T.cd Y (λh2=> ?_) (λh2=> ?_)
    ·have h2:i<16:=(by omega);have hrow:(m.cons.map cC)[((i:Nat):Int).toNat]? =some (cC m.cons[i]):=(by simp[h1]);have hv:=b4 _ (EA h1);have htk:(m.cons.take (i+1)).map fK=(m.cons.take i).map fK++[fK m.cons[i]]:=(by rw[ED h1,F4];rfl);have hln:((m.cons.take i).map fK).length<=16:=(by simp;omega);have ih1:=λu'=>ih (i+1,u') (by show _<=min _ _;omega) (by show _-_<_-_;omega);simp only[htk]at ih1;generalize (m.cons.take i).map fK=out at*;generalize m.cons[i]=c at*;obtain⟨kind,vars,coefs,op,rhs,rows,b⟩:=c;simp only at hv;refine .B ?_;refine .F (r:=cC ⟨kind,vars,coefs,op,rhs,rows,b⟩) hrow ?_;refine .L ?_;refine .W ?_;refine .M ?_;refine J.s1 (enc:=cI) (l:=vars) (min vars.length 14) Y Y Y Y Y Y Y Y Y (λ_=>rfl) (by simp;omega) (by omega) ?_;refine .M ?_;refine .W ?_;refine .M ?_;refine J.s1 (enc:=cI) (l:=coefs) (min coefs.length 14) Y Y Y Y Y Y Y Y Y (λ_=>rfl) (by simp;omega) (by omega) ?_;refine .M ?_;refine .W ?_;refine .M ?_;refine .O ?_;refine J.H Y ?_
     conv=>whnf
     refine J.nil ?_;refine T.sub (Rel.wk (o:=5) Y) ?_;refine T.mid ⟨[(1,.fptr false (cM m)),(2,.optr 0 0 0 0),(3,.optr 1 0 0 0),(6,.val true (.int .i64 i)),(7,.optr 4 0 0 0),(8,.ref 5),(1001,.eq u1 2),(1002,.eq u 3)],[(0,some (.box true [.sl [],.sl [],.int .i64 0,.sl [],.sl []])),(1,some (.box false (bxM u1 u m.goal))),(2,some (.sl 56 2 false ((boundM m).vars.map cV))),(3,some (.sl 51 7 false (out.map cC))),(4,some (.box false (cC ⟨kind,vars.take (min vars.length 14),coefs.take (min coefs.length 14),op,rhs,rows,b⟩))),(5,some (.sl 24 1 false (((rows.take 20).map λr=>r.take (min r.length 14)).map cL)))],6⟩ ?_ ?_
     ·refine .M ?_;refine T.K (T.ind (λk:Nat=>⟨[(1,.fptr false (cM m)),(2,.optr 0 0 0 0),(3,.optr 1 0 0 0),(6,.val true (.int .i64 i)),(7,.optr 4 0 0 0),(8,.ref 5),(9,.val true (.int .i64 k)),(1001,.eq u1 2),(1002,.eq u 3)],[(0,some (.box true [.sl [],.sl [],.int .i64 0,.sl [],.sl []])),(1,some (.box false (bxM u1 u m.goal))),(2,some (.sl 56 2 false ((boundM m).vars.map cV))),(3,some (.sl 51 7 false (out.map cC))),(4,some (.box false (cC ⟨kind,vars.take (min vars.length 14),coefs.take (min coefs.length 14),op,rhs,rows,b⟩))),(5,some (.sl 24 1 false (((rows.take k).map λr=>r.take (min r.length 14)).map cL)))],6⟩) (λk=>k<=min rows.length 20) (λk=>20-k) 0 (Er _) (λ_ _ h=>by cases h.1) ?_);rintro k hk ihk;refine .B ?_;refine J.g Y Y Y (λh3=> ?_) (λh3=> ?_)
      ·have h3:k<rows.length:=(by simpa using h3);refine .B ?_;refine T.cd Y (λh4=> ?_) (λh4=> ?_)
       ·have h4:k<20:=(by omega);have hrk:(rows.map cL)[((k:Nat):Int).toNat]? =some (cL rows[k]):=(by simp[h3]);have hr8:=hv.2.2.2 _ (EA h3);have htkr:(rows.take (k+1)).map (λr=>r.take (min r.length 14))=(rows.take k).map (λr=>r.take (min r.length 14))++[rows[k].take (min rows[k].length 14)]:=(by rw[ED h3,F4];rfl);have hlr:((rows.take k).map λr=>r.take (min r.length 14)).length<=20:=(by simp;omega);have ihk1:=ihk (k+1) (by omega) (by omega);rw[htkr]at ihk1;generalize (rows.take k).map (λr=>r.take (min r.length 14))=outr at*;generalize rows[k]=r at*;refine .M ?_;refine T.rdm 15 Y (by kernel_rfl) Y ?_;refine .M ?_;refine .I (r:=cL r) hrk ?_;refine .M ?_;refine .I (r:=cL r) hrk ?_;refine .M ?_;refine J.s1 (enc:=cI) (l:=r) (min r.length 14) Y Y Y Y Y Y Y Y Y (λ_=>rfl) (by simp;omega) (by omega) ?_;refine .M ?_;refine .V ?_;refine .M ?_;refine J.a1 (enc:=cL) (x:=r.take (min r.length 14)) (B:=24) Y Y Y Y Y Y Y Y Y Y Y Y Y Y Y Y Y Y Y Y (by omega) ?_;refine .M ?_;rw[ai (l:=rows.length) (n:=k) h3 (by omega)];exact T.K ihk1
       ·have e:k=20:=(by omega);subst e;refine .B ?_;exact⟨rfl,[1,2,3,6,7,8,1001,1002],[2,3,1001,1002,7,8],rfl,rfl⟩
      ·have e:k=rows.length:=(by simp at h3;omega);have e2:rows.take 20=rows.take k:=(by rw[e,EY (EO _),EY (by omega)]);rw[e2];refine .B ?_;refine T.cf Y ?_;refine .B ?_;exact⟨rfl,[1,2,3,6,7,8,1001,1002],[2,3,1001,1002,7,8],rfl,rfl⟩
     ·refine T.sub (Rel.frz (s:=8) (λ_ h=>h) Y Y) ?_;have hown:=vp ⟨kind,vars.take (min vars.length 14),coefs.take (min coefs.length 14),op,rhs,(rows.take 20).map λr=>r.take (min r.length 14),b⟩ ⟨by simp;omega,by simp;omega,by simp;omega,λx hx=>by
       obtain⟨y,_,rfl⟩:=EH.1 hx;simp;omega⟩
      rw[show fK ⟨kind,vars,coefs,op,rhs,rows,b⟩=⟨kind,vars.take (min vars.length 14),coefs.take (min coefs.length 14),op,rhs,(rows.take 20).map λr=>r.take (min r.length 14),b⟩from Y]at ih1;generalize vars.take (min vars.length 14)=vars2 at*;generalize coefs.take (min coefs.length 14)=coefs2 at*;generalize (rows.take 20).map (λr=>r.take (min r.length 14))=rows2 at*;refine .M ?_;refine .W ?_;refine .M ?_;refine T.rdm 5 Y (by kernel_rfl) Y ?_;refine J.H Y ?_;refine J.lr 1002 (q:=3) (u:=u) Y Y Y Y Y Y Y Y Y ?_;refine .M ?_;refine .C hown ?_;refine .M ?_;refine .V ?_;refine .M ?_;refine J.a1 (enc:=cC) (x:=⟨kind,vars2,coefs2,op,rhs,rows2,b⟩) (B:=104) Y Y Y Y Y Y Y Y Y Y Y Y Y Y Y Y Y Y Y Y (by omega) ?_;refine .M ?_;refine J.name 1002 (s:=118) Y Y Y λu'=> ?_;refine J.sub (Rel.raw (s:=118) (g:=1002) Y (.inl Y) Y Y Y) ?_;refine .W ?_;refine .M ?_;rw[ai (l:=m.cons.length) (n:=i) h1 b3];exact T.K (ih1 u')
    ·have e:i=16:=(by omega);subst e;refine .B ?_;exact⟨rfl,u,[1,2,3,1001,1002],[2,3,1001,1002],rfl,rfl⟩
   ·have e:i=m.cons.length:=(by simp[bP]at h1;omega);subst e;have e2:m.cons.take 16=m.cons:=EY (by omega);rw[show(boundM m).cons=(m.cons.take 16).map fK from Y,e2,Ep];refine .B ?_;refine T.cf Y ?_;refine .B ?_;exact⟨rfl,u,[1,2,3,1001,1002],[2,3,1001,1002],rfl,rfl⟩
  ·refine .M ?_;refine .O ?_;refine .M ?_;refine J.s1 (enc:=cI) (l:=m.goal.vars) (min m.goal.vars.length 14) Y Y Y Y Y Y Y Y Y (λ_=>rfl) (by simp;omega) (by omega) ?_;refine .M ?_;refine J.am (enc:=cI) (l:=([]:List Int)) (l2:=m.goal.vars.take (min m.goal.vars.length 14)) (B:=8) Y Y Y Y Y Y Y Y Y Y Y Y Y Y Y Y Y (λ_=>rfl) Y (by simp;omega) ?_;refine J.sub (Rel.frz (s:=130) (λ_ h=>h) Y Y) ?_;refine .M ?_;refine .W ?_;refine .M ?_;refine .O ?_;refine .M ?_;refine J.s1 (enc:=cI) (l:=m.goal.coefs) (min m.goal.coefs.length 14) Y Y Y Y Y Y Y Y Y (λ_=>rfl) (by simp;omega) (by omega) ?_;refine .M ?_;refine J.am (enc:=cI) (l:=([]:List Int)) (l2:=m.goal.coefs.take (min m.goal.coefs.length 14)) (B:=8) Y Y Y Y Y Y Y Y Y Y Y Y Y Y Y Y Y (λ_=>rfl) Y (by simp;omega) ?_;refine J.sub (Rel.frz (s:=143) (λ_ h=>h) Y Y) ?_;refine .M ?_;refine .W ?_;refine J.sub (λa w h=>Rel.meltB (i:=0) (qc:=1) (q:=2) (g:=1001) (λ_ h=>h) Y Y Y Y Y h) ?_;refine J.sub (λa w h=>Rel.meltB (i:=1) (qc:=1) (q:=3) (g:=1002) (λ_ h=>h) Y Y Y Y Y h) ?_;refine .M ?_;refine .W ?_;refine .M ?_;exact⟨_,.c Y Y Y Y (λh=>by cases h) .nil⟩
def okM (m:Mod)(most:Nat):Bool:=decide (checkR m=0)&&smallD (domsM m) most
structure RightM (m:Mod):Prop where
 b:ModB m
 good:GoodD (domsM m).length (domsM m)
 con: ∀c∈m.cons,ConB c
 right: ∀c∈m.cons,conR (domsM m) c=0
theorem Az {m:Mod}(h:checkR m=0):(∀i,i<m.vars.length->dmM m i≠[]/\chkR (dmM m i)=0)/\∀c∈m.cons,conR (domsM m) c=0:=by
 unfold checkR at h;split at h;·cases h
 ·split at h;·rename_i h1;exact EX h h1
  ·rename_i h1;have h1:firstE ((List.range m.vars.length).map (varR m))=0:=F9 h1;split at h;·rename_i h2;exact EX h h2
   ·rename_i h2;have h2:firstE (m.cons.map (conR (domsM m)))=0:=F9 h2;refine⟨λi hi=> ?_,λc hc=>n9 h2 _ (EH.2 ⟨c,hc,rfl⟩)⟩;have h3:=n9 h1 _ (EH.2 ⟨i,ES.2 hi,rfl⟩);unfold varR at h3;split at h3;·cases h3
    ·split at h3;·cases h3
     ·split at h3;·cases h3
      ·rename_i h4;exact⟨λe=>h4 (.inl e),F9 λe=>h4 (.inr e)⟩
theorem lB {m:Mod}(hb:ModB m)(h:checkR m=0):RightM m:=by
 obtain⟨h1,h2⟩:=Az h;have hx: ∀x∈domsM m,x≠[]/\chkR x=0:=λx hx=>by
  obtain⟨v,hv,rfl⟩:=EH.1 hx;obtain⟨i,hi⟩:=EK hv;have hl:=(E8.1 hi).1;have:=h1 i hl;unfold dmM at this;rw[E0,hi]at this;exact this
 refine⟨hb,⟨⟨by have:=hb.vl;simp[domsM];omega,λx h=>(tZ (hx x h).2).1,λx h=>(tZ (hx x h).2).2⟩,rfl,λh=>(hx _ h).1 Y⟩,λc hc=> ?_,h2⟩;obtain⟨c1,c2,c3,c4⟩:=hb.cb c hc;exact⟨by omega,by omega,by omega,λr hr=>by have:=c4 r hr;omega⟩
theorem vL (m:Mod)(most:Nat)(hm:ModI m)(h1:1<=most/\most<=1048576):Spec Tryz.prog 10 true [.agg (cM m),.int .i64 most] [.val (.agg (cM (boundM m))),.val (.bool (okM (boundM m) most))]:=by
 refine Spec.body Tryz.func10 Y Y Y λw0 Z0=> ?_;have hbs:=yj m hm;have hb:=qL m;have hck:=jD _ hb;have hds:=ll _ hb;have hri:=λh=>lB hb h;have hok:okM (boundM m) most=(decide (checkR (boundM m)=0)&&smallD (domsM (boundM m)) most):=rfl;generalize okM (boundM m) most=ok at*;generalize boundM m=b at*;have hsm:=λh=>uQ (domsM b) most h1 (hri h).good.few;generalize domsM b=d at*;generalize smallD d most=sm at*;generalize checkR b=ck at*;refine .B ?_;refine .L ?_;refine .M ?_;refine .C hbs ?_;refine .M ?_;refine .W ?_;refine .M ?_;refine T.K (?_:T _ _ ⟨[(1,.val false (.int .i64 most)),(2,.optr 0 0 0 0),(4,.optr 1 0 0 0),(5,.val true (.bool false))],[(0,some (.box false (cM b))),(1,some (.box true [.sl [],.sl [],.int .i64 0,.sl [],.sl []]))],2⟩ _);refine T.rdw 11 Y (by kernel_rfl) Y ?_;refine .M ?_;refine .C hck ?_;refine .M ?_;refine J.g Y Y Y (λh2=> ?_) (λh2=> ?_)
 ·refine .M ?_;refine .C hds ?_;refine .M ?_;refine .C (hsm h2) ?_;refine .M ?_;refine J.wd Y Y Y Y Y Y Y Y Y Y ?_;refine .M ?_;refine⟨by kernel_rfl,?_⟩;refine .M ?_;rw[EF h2,Fe]at hok;subst hok;exact⟨_,.c Y Y Y Y (λh=>by cases h) (.v rfl rfl rfl (λh=>by cases h) .nil)⟩
 ·refine .M ?_;refine J.wd Y Y Y Y Y Y Y Y Y Y ?_;refine .M ?_;refine⟨by kernel_rfl,?_⟩;refine .M ?_;have h2: ¬ck=0:=h2;rw[EE h2,GM]at hok;subst hok;exact⟨_,.c Y Y Y Y (λh=>by cases h) (.v rfl rfl rfl (λh=>by cases h) .nil)⟩
theorem zA {n:Nat}{d out:aa}{c:Con}(hc:ConB c)(gd:GoodD n d)(go: ∀v:Int,v.toNat<n->aB (domAt out v))(hle:leD out d)(h:conR d c=0):conR out c=0:=by
 obtain⟨hk,hv,hr,hin⟩:=cB hc h;have hb:=kw h;have tm: ∀v:Int,0<=v->v.toNat<d.length->truthR (domAt d v)=true->truthR (domAt out v)=true:=λv h0 hl ht=>by
  rw[gd.len]at hl;exact(k7 (go v hl)).2 λx hx=>(k7 (gd.at_ hl).1).1 ht x (hle.2 v x h0 hx)
 have hl:out.length=d.length:=hle.1;unfold conR;rw[E4 (by omega),E4,E4,E4 (by rw[hb];simp)]
 ·have hr2:rightR out c=true:=by
   unfold rightR at hr⊢;split;·rename_i h0;rw[E6 h0]at hr;exact hr
   ·rename_i h0;rw[E4 h0]at hr;split;·rename_i h1;rw[E6 h1]at hr;exact hr
    ·rename_i h1;rw[E4 h1]at hr;split;·rename_i h2;rw[E6 h2]at hr;exact hr
     ·rename_i h2;rw[E4 h2]at hr;split;·rename_i h3;rw[E6 h3]at hr;exact hr
      ·rename_i h3;rw[E4 h3]at hr;split
       ·rename_i h4;rw[E6 h4]at hr;simp only[EL]at hr⊢;have hb4:=hin c.b (uses_mem.2 (.inr ⟨h4,rfl⟩));exact⟨⟨hr.1.1,tm c.b hb4.1 hb4.2 hr.1.2⟩,hr.2⟩
       ·rename_i h4;rw[E4 h4]at hr;split
        ·rename_i h5;rw[E6 h5]at hr;simp only[EL]at hr⊢;refine⟨hr.1,EN.2 λi hi=> ?_⟩;have hu:=EN.1 hr.2 i hi;simp only[gX,EL]at hu⊢;have hvi:=hv.2 _ (az (c:=c) (ES.1 hi));exact⟨tm _ hvi.1 hvi.2 hu.1,hu.2⟩
        ·rename_i h5;rw[E4 h5]at hr;exact hr
  rw[hr2];simp
 ·have:(usesR c).all (inD out)=true:=EN.2 λu hu=>mr.2 (by have:=hin u hu;omega);rw[this];simp
def dmQ (a b c d:Int):aa:=[[(a,b)],[(c,d)]]
theorem jN {a b c d:Int}(h1:a<=b)(h2:c<=d)(h3:0<=a)(h4:0<=c)(h5:b<=3)(h6:d<=3):GoodD 2 (dmQ a b c d):=by
 have f1:Fine [(a,b)]:=C1 h1 (by omega) (by omega);have f2:Fine [(c,d)]:=C1 h2 (by omega) (by omega);have key: ∀a b:Int,0<=a->b<=3->(vals [(a,b)]).length<=4096:=λa b h1 h2=>by
  show(rng a b++[]).length<=4096;simp[rng];omega
 refine⟨⟨by simp[dmQ],λx hx=> ?_,λx hx=> ?_⟩,rfl,by simp[dmQ]⟩;·simp[dmQ]at hx;rcases hx with rfl|rfl<;>assumption
 ·simp[dmQ]at hx;rcases hx with rfl|rfl;·exact key _ _ h3 h5
  ·exact key _ _ h4 h6
theorem j7 {d:aa}{c:Con}{R:Option aa}{N:Nat}(gd:GoodD 2 d)(hc:ConB c)(hk:c.kind=0)(hr:conR d c=0)(h:LinAns d c R N):aX c d=R:=by
 obtain⟨M,hM⟩:=gB (pc hc hr hk gd.few.fine gd.few.small);unfold aX;rw[E6 hk];exact tF hM h
theorem Bm {m:Mod}{most:Nat}(hb:ModB m)(h:okM m most=true)(h1:1<=most):RightM m/\prodD (domsM m)<=most:=by
 unfold okM at h;rw[EL,ER]at h;exact⟨lB hb h.1,zt h.2 h1⟩
def mH (a b:Int):Int×Bool:=if smallI a&&smallI b&&smallI (a+b)then(a+b,true)else(0,false)
theorem aZ {n:Int}:smallI n=true↔-4611686018427387904<=n/\n<=4611686018427387904:=by simp[smallI]
theorem xT (n:Int):Spec Tryz.prog 155 false [.int .i64 n] [.val (.int .i64 (if smallI n then n else 0)),.val (.bool (smallI n))]:=by
 refine Spec.body Tryz.func155 Y Y Y λw0 Z0=> ?_;refine T.sub (Rel.fine (s:=0) Y Y) ?_;have hs:=gR [n] (by simp);rw[show [n].all smallI=smallI n by simp]at hs;refine .B ?_;refine .Z ?_;refine .D hs ?_;cases smallI n with
 |false=>
  refine T.ct Y ?_;refine .B ?_;exact r2
 |true=>
  refine T.cf Y ?_;refine .B ?_;exact r2
theorem kg (a b:Int):Spec Tryz.prog 121 false [.int .i64 a,.int .i64 b] [.val (.int .i64 (mH a b).1),.val (.bool (mH a b).2)]:=by
 refine Spec.body Tryz.func121 Y Y Y λw0 Z0=> ?_;have hs:=gR [a,b] (by simp);rw[show [a,b].all smallI=(smallI a&&smallI b)by simp]at hs;have hno: ∀h:(smallI a&&smallI b&&smallI (a+b))=false,mH a b=(0,false):=λh=>(by unfold mH;rw[h];rfl);generalize hR:mH a b=R;refine .B ?_;refine .Z ?_;refine .D hs ?_;cases h0:smallI a&&smallI b with
 |false=>
  have:R=(0,false):=(by rw[<-hR];exact hno (by rw[h0];rfl));subst this;refine .B ?_;refine T.ct Y ?_;refine .B ?_;exact r2
 |true=>
  obtain⟨ha,hb⟩:=Hh.1 h0;have ha:=aZ.1 ha;have hb:=aZ.1 hb;have hw: ¬(0<a/\4611686018427387904-a<b)->¬(a<0/\b< -4611686018427387904-a)->IntKind.i64.wrap (a+b)=a+b:=λh1 h2=>af (by omega) (by omega);have ht:=xT (a+b);have e1:0<a->IntKind.i64.wrap (4611686018427387904-a)=4611686018427387904-a:=λh=>af (by omega) (by omega);have e2:a<0->IntKind.i64.wrap (-4611686018427387904-a)= -4611686018427387904-a:=λh=>af (by omega) (by omega);have stop: ¬smallI (a+b)=true->R=(0,false):=λh=>(by rw[<-hR];exact hno (by rw[h0,Fe];simpa using h));have fin:R=(if smallI (a+b)then a+b else 0,smallI (a+b)):=by
   rw[<-hR];unfold mH;rw[h0,Fe];cases smallI (a+b)<;>rfl
  refine .B ?_;refine J.g Y Y Y (λh1=> ?_) (λh1=> ?_)
  ·have h1:0<a:=h1;refine .B ?_;rw[e1 h1];refine J.g Y Y Y (λh2=> ?_) (λh2=> ?_)
   ·have h2:4611686018427387904-a<b:=h2;have:=stop λh=>(by have:=aZ.1 h;omega);subst this;refine .B ?_;refine T.ct Y ?_;refine .B ?_;exact r2
   ·refine .B ?_;refine J.g Y Y Y (λh3=> ?_) (λh3=> ?_)
    ·have h3:a<0:=h3;omega
    ·have h2: ¬4611686018427387904-a<b:=h2;refine .B ?_;refine T.cf Y ?_;refine .B ?_;rw[hw (by omega) (by omega)];refine .D ht ?_;subst fin;exact r2
  ·have h1: ¬0<a:=h1;refine .B ?_;refine J.g Y Y Y (λh3=> ?_) (λh3=> ?_)
   ·refine .B ?_;rw[e2 h3];refine T.cd Y (λh4=> ?_) (λh4=> ?_)
    ·have h4:b< -4611686018427387904-a:=h4;have:=stop λh=>(by have:=aZ.1 h;omega);subst this;refine .B ?_;exact r2
    ·have h4: ¬b< -4611686018427387904-a:=h4;refine .B ?_;rw[hw (by omega) (by omega)];refine .D ht ?_;subst fin;exact r2
   ·have h3: ¬a<0:=h3;refine .B ?_;refine T.cf Y ?_;refine .B ?_;rw[hw (by omega) (by omega)];refine .D ht ?_;subst fin;exact r2
def AR (a b:Int):Int×Bool:=if smallI a&&smallI b then mH a (-b)else(0,false)
theorem Ab (a b:Int):Spec Tryz.prog 224 false [.int .i64 a,.int .i64 b] [.val (.int .i64 (AR a b).1),.val (.bool (AR a b).2)]:=by
 refine Spec.body Tryz.func224 Y Y Y λw0 Z0=> ?_;have hs:=gR [a,b] (by simp);rw[show [a,b].all smallI=(smallI a&&smallI b)by simp]at hs;have hadd:=kg a (-b);unfold AR;refine .B ?_;refine .Z ?_;refine .D hs ?_;cases h0:smallI a&&smallI b with
 |false=>
  refine T.ct Y ?_;refine .B ?_;exact r2
 |true=>
  obtain⟨ha,hb⟩:=Hh.1 h0;have hb:=aZ.1 hb;rw[E6 Y];refine T.cf Y ?_;refine .B ?_;rw[show(0:Int)-b= -b by omega,show IntKind.i64.wrap (-b)= -b from af (by omega) (by omega)];refine .D hadd ?_;exact r2
theorem pX (n:Int):Spec Tryz.prog 181 false [.int .i64 n] [.val (.int .i64 (if smallI n then aL n else 0)),.val (.bool (smallI n))]:=by
 refine Spec.body Tryz.func181 Y Y Y λw0 Z0=> ?_;have h0:smallI 0=true:=rfl;have key: ∀x:Int,aL n=x->(smallI x=smallI n)->(if smallI n then aL n else 0,smallI n)=mH 0 x:=λx e e2=>by
  unfold mH;rw[h0,Fe,HK,Bool.and_self,e2,e];cases smallI n<;>rfl
 have hsa:=kg 0 n;have hss:=Ab 0 n;refine .B ?_;refine T.cd Y (λh1=> ?_) (λh1=> ?_)
 ·have h1:n<0:=h1;have e:AR 0 n=(if smallI n then aL n else 0,smallI n):=by
   have hsn:smallI (-n)=smallI n:=(by rw[GQ,aZ,aZ];omega);unfold AR;rw[h0,Fe,<-key (-n) (by unfold aL;omega) hsn];cases smallI n<;>rfl
  rw[e]at hss;refine .B ?_;refine .D hss ?_;exact r2
 ·have h1: ¬n<0:=h1;rw[<-key n (by unfold aL;omega) Y]at hsa;refine .B ?_;refine .D hsa ?_;exact r2
theorem zU (l:List Int)(rhs:Int)(hl:l.length*8<=140737488355328)(hw: ∀c∈l,-9223372036854775808<=c/\c<=9223372036854775807):Spec Tryz.prog 131 false [aq l,.int .i64 rhs] [.val (.bool (eN l rhs))]:=by
 refine Spec.body Tryz.func131 Y Y Y λw0 Z0=> ?_;have hs:=pX rhs;have h0:(if smallI rhs then aL rhs else 0)=if smallI rhs then aL rhs else 0:=rfl
 have hin:smallI rhs=true->0<=aL rhs/\aL rhs<=4611686018427387904/\e5 (4611686018427387904-aL rhs) l=eN l rhs:=λh=>by
  have h:=aZ.1 h;refine⟨bA rhs,by unfold aL;omega,?_⟩;unfold eN;rw[E4 (by omega)];rfl
 have hno:smallI rhs=false->eN l rhs=true:=λh=>by
  have h: ¬smallI rhs=true:=(by rw[h];simp);rw[aZ]at h;unfold eN;rw[E6 (by omega)]
 generalize hR:eN l rhs=R at*;have hin2:smallI rhs=true->(if smallI rhs then aL rhs else 0)=aL rhs:=λh=>(by rw[h];rfl);generalize (if smallI rhs then aL rhs else 0)=s0 at*;have hinv:(smallI rhs=true->0<=s0/\s0<=4611686018427387904/\e5 (4611686018427387904-s0) l=R):=λh=>(by rw[hin2 h];exact hin h);generalize smallI rhs=ok0 at*;clear hin hin2;refine .B ?_;refine .D hs ?_;refine T.K (T.ind (λs:Nat×Int×Bool=>⟨[(5,.val true (.int .i64 s.2.1)),(6,.val true (.bool s.2.2)),(16,.val false (aq l)),(17,.val true (.int .i64 (l.map cI).length)),(18,.val true (.int .i64 s.1))],[],0⟩)
  (λs=>s.1<=l.length/\(s.2.2=true->0<=s.2.1/\s.2.1<=4611686018427387904/\e5 (4611686018427387904-s.2.1) (l.drop s.1)=R)/\(s.2.2=false->R=true)) (λs=>l.length-s.1) (0,s0,ok0) ⟨Er _,hinv,hno⟩ (λ_ _ h=>h) ?_)
 rintro⟨i,sum,ok⟩ ⟨hi,hv,hn⟩ ih;refine .B ?_;refine T.cd Y (λh1=> ?_) (λh1=> ?_)
 ·have h6:i<l.length:=(by simpa using h1);have hcw:=hw _ (EA h6);have hms:=pX l[i];have hdr:e5 (4611686018427387904-sum) (l.drop i)=if 4398046511104<l[i]∨l[i]< -4398046511104 then true else if 4611686018427387904-sum-max l[i] (-l[i])*1048576<0 then true else e5 (4611686018427387904-sum-max l[i] (-l[i])*1048576) (l.drop (i+1)):=by
   rw[EP h6,e5]
  have hrow:=ax (enc:=cI) h6;generalize l[i]=c at*;refine .B ?_;refine .F (r:=cI c) hrow ?_;refine .D hms ?_;cases hsc:smallI c with
  |false=>
   have hsc: ¬smallI c=true:=(by rw[hsc];simp);rw[aZ]at hsc;have:R=true:=by
    cases ok with
    |false=>exact hn Y
    |true=>
     obtain⟨_,_,e⟩:=hv Y;rw[<-e,hdr,E6 (by omega)]
   subst this;refine T.cf Y ?_;refine .B ?_;refine T.ct Y ?_;refine .B ?_;exact r1
  |true=>
   have hsc':=aZ.1 hsc;have hac:0<=aL c/\aL c<=4611686018427387904:=⟨bA c,by unfold aL;omega⟩;have hmx:max c (-c)=aL c:=rfl;have hmul:=np (aL c) 1048576 (by omega) (by omega) (by omega) (by omega);refine T.ct Y ?_;refine .B ?_;rw[E6 Y];refine .D hmul ?_;cases hm:smallI (aL c*1048576)with
   |false=>
    have e0:mulI (aL c) 1048576=(0,false):=(by unfold mulI;rw[hm,HG];rfl);have hm: ¬smallI (aL c*1048576)=true:=(by rw[hm];simp);rw[aZ]at hm;have:R=true:=by
     cases ok with
     |false=>exact hn Y
     |true=>
      obtain⟨_,_,e⟩:=hv Y;rw[<-e,hdr,E6 (by unfold aL at hm;omega)]
    subst this;rw[e0];refine .B ?_;refine T.ct Y ?_;refine .B ?_;exact r1
   |true=>
    have hm:=aZ.1 hm;have e0:mulI (aL c) 1048576=(aL c*1048576,true):=by
     unfold mulI;rw[aZ.2 ⟨by omega,by omega⟩,show smallI (aL c*1048576)=true from aZ.2 hm];rfl
    rw[e0];cases ok with
    |false=>
     obtain rfl:=hn Y;refine .B ?_;refine T.ct Y ?_;refine .B ?_;exact r1
    |true=>
     obtain⟨v1,v2,e⟩:=hv Y;simp only at v1 v2 e;have hadd:=kg sum (aL c*1048576);rw[hdr,E4 (by unfold aL at hm;omega),hmx]at e;refine .B ?_;refine T.cf Y ?_;refine .B ?_;refine .D hadd ?_;rw[ai (l:=l.length) h6 (by omega)];refine T.K (ih (i+1,mH sum (aL c*1048576)) ⟨by omega,λh=> ?_,λh=> ?_⟩ (by simp only;omega))
     ·unfold mH at h⊢;split at h
      ·rename_i h5;rw[E6 h5];have h5:=aZ.1 (Hh.1 h5).2;rw[E4 (by omega)]at e;exact⟨by simp only;omega,by simp only;omega,by rw[<-e];congr 1;simp only;omega⟩
      ·cases h
     ·unfold mH at h;split at h;·cases h
      ·rename_i h5;have h5: ¬smallI (sum+aL c*1048576)=true:=λh=>h5 (by rw[aZ.2 ⟨by omega,by omega⟩,aZ.2 hm,h];rfl);rw[aZ]at h5;rw[<-e,E6 (by omega)]
 ·have h7:i=l.length:=(by simp at h1;omega);refine .B ?_;cases ok with
  |false=>
   obtain rfl:=hn Y;exact r1
  |true=>
   obtain⟨_,_,e⟩:=hv Y;rw[h7,FR]at e;exact⟨_,.v Y Y (by rw[<-e];rfl) (λ_=>rfl) .nil⟩
end Go.Proofs.YtopcjbahjjhdmaaGreat
