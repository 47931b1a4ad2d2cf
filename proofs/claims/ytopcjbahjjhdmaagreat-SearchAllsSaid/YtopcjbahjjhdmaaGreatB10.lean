/- The texts FwA, FwC, FwD, FwE, FwF, FwG, FwR, FwS, FwT, FwU, FwQ, PvI, PvJ, PwA, PwB, PwC, PwD, FwH, FwI, FwJ, FwK, FwV, FwW, PwM, FwL, FwM, FwN, FwO, PwE of the workplace, joined. -/
import Derived.Test.YtopcjbahjjhdmaaGreatB9
import Derived.Laws.Strings
namespace Go.Proofs.YtopcjbahjjhdmaaGreat
open Go Go.RowKit
set_option linter.unusedVariables false
set_option linter.unusedSimpArgs false
set_option maxRecDepth 8000
def cCh (p:Int×List (Int×Int)):List PV:=[.int .i64 p.1,dm p.2]
theorem xQ {ns:List Value}{n:Nat}(h:ns.length=n)(hn:n=1): ∃u,ns=[u]:=Gz.1 (h.trans hn)
theorem zm (d:aa)(fd:FewD d):Spec Tryz.prog 68 false [.ptr [ao d]] [.own 54 1 (d.map cD)]:=by
 refine Spec.body Tryz.func68 Y Y Y λw0 Z0=> ?_;have hd:=fd.small;refine T.sub (Rel.pf (s:=0) Y) ?_;refine .B ?_;refine T.sub (Rel.own0 (s:=3) 54 1 Y) ?_;refine T.K (T.listI d (λ_=>True) (λn pre post=>⟨[(3,.ref 0),(9,.val false (ao d)),(10,.val true (.int .i64 (d.map cD).length)),(11,.val true (.int .i64 n))],[(0,some (.sl 54 1 true (pre.map cD)))],1⟩) (λ_ _ h=>h) trivial ?_ ?_)
 ·rintro n pre x post h hn hi ih;have hlt:=bW h hn;have hxl:=(fd.fine x (by rw[h];simp)).len;refine .B ?_;refine T.ct2 Y (bV h hn) ?_;refine .B ?_;refine .F (r:=cD x) (aM h hn) ?_;refine .D (bT x (by omega)).frz ?_;refine .Z ?_;refine J.aD Y Y Y Y Y Y Y Y Y Y Y Y Y Y Y Y Y Y Y (by omega) ?_;refine .B ?_;rw[ai hlt (by omega)];exact T.K (ih trivial)
 ·intro _;refine .B ?_;refine T.cf2 Y bj ?_;refine .B ?_;exact⟨_,.o Y Y Y (λ_=> .inl Y) (by simp) .nil⟩
theorem AO (sb:Nat)(lv cv mv:Value)(d:aa)(i:Int):SpecX Tryz.prog 141 [.pointer (some ⟨sb,0,none⟩),lv] [] [.box true [.raw lv,.raw cv,.raw mv],.sl 54 1 true (d.map cD)] [] [(true,.raw (.pointer (some ⟨sb,0,none⟩))),(true,.int .i64 i)]
  (λ_=>[.box true [.raw lv,.raw cv,.raw mv],.sl 54 1 true (d.map cD)]) (λ_=>[]) true (λ_=>[.bool (decide (0<=i/\i<d.length))]):=by
 refine SpecX.body (fn:=Tryz.f141) [1000,1001] [] Y Y Y Y λw0 Z=> ?_;refine T.sub (Rel.derawp (s:=0) (g:=1000) Y Y Y) ?_;refine .B ?_;refine J.g Y Y Y (λh1=> ?_) (λh1=> ?_)
 ·have h1:0<=i:=h1;have e:decide (0<=i/\i<d.length)=decide (i<((d.map cD).length:Int)):=(by simp[h1]);rw[e];refine .B ?_;refine J.sub (Rel.deraw (s:=12) (g:=1001) Y Y) ?_;refine .B ?_;exact⟨[0,1],[],[],⟨rfl,⟨_,rfl,rfl,rfl⟩,rfl,⟨_,rfl,rfl,rfl⟩,trivial⟩,trivial,rfl,.val Y Y (λ_=>rfl) .nil⟩
 ·have h1: ¬0<=i:=h1;have e:decide (0<=i/\i<d.length)=false:=(by simp[h1]);rw[e];refine .B ?_;exact⟨[0,1],[],[],⟨rfl,⟨_,rfl,rfl,rfl⟩,rfl,⟨_,rfl,rfl,rfl⟩,trivial⟩,trivial,rfl,.val Y Y (λ_=>rfl) .nil⟩
theorem wX (sb:Nat)(lv cv mv:Value)(ch:List (Int×List (Int×Int)))(mk:List Int)(hl:(mk.length+1)*8<=140737488355328):SpecX Tryz.prog 115 [.pointer (some ⟨sb,0,none⟩),cv] [mv] [.box true [.raw lv,.raw cv,.raw mv],.sl 156 2 true (ch.map cCh)] [.sl 3 1 true (mk.map cI)] [(true,.raw (.pointer (some ⟨sb,0,none⟩)))]
  (λns=>[.box true [.raw lv,.raw cv,.raw (ns.getD 0 undef)],.sl 156 2 true (ch.map cCh)]) (λ_=>[.sl 3 1 true ((mk++[(ch.length:Int)]).map cI)]) true (λ_=>[]):=by
 refine SpecX.body (fn:=Tryz.f115) [1000,1001,1002] [1003] Y Y Y Y λw0 Z=> ?_;refine T.sub (Rel.derawp (s:=0) (g:=1000) Y Y Y) ?_;refine T.rdw 14 Y (by kernel_rfl) Y ?_
 iterate 4 refine J.H Y ?_
 refine J.lr 1002 (q:=2) (u:=mv) Y Y Y Y Y Y Y Y Y ?_
 iterate 3 refine J.H Y ?_
 refine J.lr 1001 (q:=1) (u:=cv) Y Y Y Y Y Y Y Y Y ?_;refine .M ?_;refine .V ?_;refine J.ad Y Y Y Y Y Y Y Y Y Y Y Y Y Y Y Y Y Y (cy Y) (by show(List.length _+1)*8<=_;simp;omega) ?_;refine .M ?_;refine⟨by kernel_rfl,?_⟩;refine J.name 1003 (s:=13) Y Y Y λu=> ?_;refine J.sub (Rel.raw (s:=13) (g:=1003) Y (.inl Y) Y Y Y) ?_;refine .X ?_;have e:mk.map cI++[[PV.int .i64 ((ch.map cCh).length:Nat)]]=(mk++[(ch.length:Int)]).map cI:=(by simp[cI]);refine⟨[0,1],[3],[u],⟨rfl,⟨_,rfl,rfl,rfl⟩,rfl,⟨_,rfl,rfl,rfl⟩,trivial⟩,⟨rfl,⟨_,rfl,?_,rfl⟩,trivial⟩,rfl,.nil⟩;rw[<-e];rfl
theorem wA (d:List (Int×Int))(hl:d.length<=1048576):Spec Tryz.prog 127 false [dm d] [.val (.bool (!(List.range d.length).any (badR d)))]:=by
 refine Spec.body Tryz.func127 Y Y Y λw0 Z0=> ?_;generalize hR:(!(List.range d.length).any (badR d))=R;refine .B ?_;refine T.K (T.ind (λi:Nat=>⟨[(0,.val false (dm d)),(5,.val false (dm d)),(6,.val true (.int .i64 (d.map cR).length)),(7,.val true (.int .i64 i))],[],0⟩) (λi=>i<=d.length/\∀j,j<i->badR d j=false) (λi=>d.length-i) 0 ⟨Er _,λj hj=>EX hj (FK j)⟩ (λ_ _ h=>h) ?_);rintro i ⟨hi,hb⟩ ih;refine .B ?_;refine T.cd Y (λh1=> ?_) (λh1=> ?_)
 ·have h6:i<d.length:=(by simpa using h1);have hrow:(d.map cR)[((i:Nat):Int).toNat]? =some (cR (d.getD i (0,0))):=(by simp[h6,E0]);have hprev:0<i->(d.map cR)[(((i-1:Nat)):Int).toNat]? =some (cR (d.getD (i-1) (0,0)))/\aN (d.getD (i-1) (0,0)).2=true:=λh=>by
   refine⟨by rw[Eo,EJ,E5 (show i-1<d.length by omega),E0,E5 (show i-1<d.length by omega)];rfl,?_⟩;have:=hb (i-1) (by omega);unfold badR at this;simp only[HF,GW]at this;exact this.2.1
  have hno:badR d i=true->R=false:=λh=>by
   rw[<-hR,GW];exact Fa.2 ⟨i,ES.2 h6,h⟩
  have hbd:badR d i=(!aN (d.getD i (0,0)).1||(!aN (d.getD i (0,0)).2||(decide ((d.getD i (0,0)).1 > (d.getD i (0,0)).2)||(decide ((i:Int) > 0)&&decide ((d.getD i (0,0)).1-(d.getD (i-1) (0,0)).2<2))))):=rfl;have ih1:=λhbi:badR d i=false=>ih (i+1) ⟨by omega,λj hj=>by
   by_cases e:j=i;·rw[e];exact hbi
   ·exact hb j (by omega)⟩ (by omega)
  have hw1:IntKind.i64.wrap ((i:Int)+1)=((i+1:Nat):Int):=(by rw[af (by omega) (by omega)];omega);have hw2:0<i->IntKind.i64.wrap ((i:Int)-1)=((i-1:Nat):Int):=λh=>(by rw[af (by omega) (by omega)];omega);generalize badR d i=bad at*;generalize d.getD i (0,0)=r at*;generalize d.getD (i-1) (0,0)=p at*;obtain⟨lo,hi2⟩:=r;simp only at*;have v1:=jL lo;have v2:=jL hi2;have wn:IntKind.i64.wrap (p.2+2)=p.2+2∨i=0:=by
   by_cases h0:i=0;·exact .inr h0
   ·have hpv:=(hprev (by omega)).2;simp only[aN,ER]at hpv;exact .inl (af (by omega) (by omega))
  refine .B ?_;refine .F (r:=cR (lo,hi2)) hrow ?_;refine .L ?_;refine .B ?_;refine .X ?_;refine .D v1 ?_;cases a1:aN lo with
  |false=>
   obtain rfl:=hno (by rw[hbd,a1];rfl);refine .B ?_;refine T.ct Y ?_;refine .B ?_;exact r1
  |true=>
   refine .B ?_;refine .D v2 ?_;cases a2:aN hi2 with
   |false=>
    obtain rfl:=hno (by rw[hbd,a1,a2];rfl);refine .B ?_;refine T.ct Y ?_;refine .B ?_;exact r1
   |true=>
    refine .B ?_;refine J.g Y Y Y (λh3=> ?_) (λh3=> ?_)
    ·have h3:lo > hi2:=h3;obtain rfl:=hno (by rw[hbd,a1,a2,EF h3];rfl);refine .B ?_;refine T.ct Y ?_;refine .B ?_;exact r1
    ·have h3: ¬lo > hi2:=h3;refine .B ?_;refine J.g Y Y Y (λh4=> ?_) (λh4=> ?_)
     ·have h4:(i:Int) > 0:=h4;refine .B ?_;rw[hw2 (by omega)];refine .F (r:=cR p) (hprev (by omega)).1 ?_;rw[wn.resolve_right (by omega)];refine T.cd Y (λh5=> ?_) (λh5=> ?_)
      ·have h5:lo<p.2+2:=h5;obtain rfl:=hno (by rw[hbd,a1,a2,EE h3,EF h4,EF (show lo-p.2<2 by omega)];rfl);refine .B ?_;exact r1
      ·have h5: ¬lo<p.2+2:=h5;refine .B ?_;rw[hw1];exact T.K (ih1 (by rw[hbd,a1,a2,EE h3,EF h4,EE (show¬lo-p.2<2 by omega)];rfl))
     ·have h4: ¬(i:Int) > 0:=h4;refine .B ?_;refine T.cf Y ?_;refine .B ?_;rw[hw1];exact T.K (ih1 (by rw[hbd,a1,a2,EE h3,EE h4];rfl))
 ·have h7:i=d.length:=(by simp at h1;omega);have:R=true:=by
   rw[<-hR,FZ,Gl];intro j hj;have:=hb j (by have:=ES.1 hj;omega);rw[this];simp
  subst this;refine .B ?_;exact r1
theorem ru: ∀(l:List (Int×Int)) (n:Int),(∀r∈l,-1048576<=r.1/\r.2<=1048576/\r.1<=r.2)->0<=n->n+l.length*4194304<=4611686018427387904->l.foldl (λn r=>wr (n+wr (wr (r.2-r.1)+1))) n=n+sizeI l
 | [],n,_,_,_=>by simp[sizeI]
 |r::l,n,h,h0,hb=>by
  have hr:=h r (.head _);rw[El]at hb;have e:wr (n+wr (wr (r.2-r.1)+1))=n+(r.2-r.1+1):=by
   simp only[wr];rw[af (n:=r.2-r.1) (by omega) (by omega),af (n:=r.2-r.1+1) (by omega) (by omega),af (by omega) (by omega)]
  rw[En,e,ru l _ (λr hr=>h r (.tail _ hr)) (by omega) (by omega)];simp only[sizeI,Ek,FX];omega
theorem jO (d:List (Int×Int))(hl:d.length<=1048576):Spec Tryz.prog 99 false [dm d] [.val (.int .i64 (chkR d))]:=by
 refine Spec.body Tryz.func99 Y Y Y λw0 Z0=> ?_;have hr:=wA d hl;have hz:=ii d (by omega);unfold chkR;cases hb:(List.range d.length).any (badR d)with
 |true=>
  rw[hb]at hr;refine .B ?_;refine .D hr ?_;refine T.ct Y ?_;refine .B ?_;exact r1
 |false=>
  rw[hb]at hr;have e:gp d=sizeI d:=by
   have:=ru d 0 (λr hr=>by
    obtain⟨i,hi⟩:=EK hr;have hil:=(E8.1 hi).1;have h2:=Gl.1 hb i (ES.2 hil);unfold badR at h2;rw[E0,hi]at h2;simp only[Fz,Fs,not_or,FZ,aN,ER,decide_eq_false_iff_not,Classical.not_not]at h2;omega) (by omega) (by omega)
   rw[HK]at this;exact this
  rw[e]at hz;refine .B ?_;refine .D hr ?_;refine T.cf Y ?_;refine .B ?_;refine .D hz ?_;refine T.cd Y (λh1=> ?_) (λh1=> ?_)
  ·have h1:sizeI d > 4096:=h1;refine .B ?_;exact⟨_,.v Y Y (by rw[E6 h1];rfl) (λ_=>rfl) .nil⟩
  ·have h1: ¬sizeI d > 4096:=h1;refine .B ?_;exact⟨_,.v Y Y (by rw[E4 h1];rfl) (λ_=>rfl) .nil⟩
theorem kL {s:Int×Int}: ∀(b:List (Int×Int)) (lo hi:Int) (out:List (Int×Int)),aB b->s∈b->s.1<=lo->lo<=hi->hi<=s.2->-1048576<=s.2/\s.2<=1048576->bS b lo hi out=(s.2+1,out)
 | [],lo,hi,out,_,h,_,_,_,_=>by cases h
 |y::b,lo,hi,out,hb,h,h1,h2,h3,h4=>by
  have hp:=Ei.1 hb.2;rw[bS];rcases ET.1 h with rfl|h
  ·rw[E4 (by omega),E4 (by omega)];have hw:wr (s.2+1)=s.2+1:=af (by omega) (by omega);rw[hw];have: ∀(b:List (Int×Int)) (o:List (Int×Int)),(∀t∈b,s.2+1<t.1)->bS b (s.2+1) hi o=(s.2+1,o):=by
    intro b
    induction b with
    |nil=>intro o _;rfl
    |cons t b ih=>
     intro o ht;rw[bS,E6 (.inr (by have:=ht t (.head _);omega))];exact ih o λt h=>ht t (.tail _ h)
   exact this b out λt ht=>by have:=hp.1 t ht;omega
  ·have:=hp.1 s h;rw[E6 (.inl (by omega))];exact kL b lo hi out hb.tail h h1 h2 h3 h4
theorem zT {a b:List (Int×Int)}(ha:aB a)(hb:Fine b)(hs: ∀v∈vals a,v∈vals b):eC a b=[]:=by
 have key: ∀(l:List (Int×Int)),(∀r∈l,r∈a)->l.foldl (cP b) []=[]:=by
  intro l
  induction l with
  |nil=>intro _;rfl
  |cons r l ih=>
   intro hl;have hr:=hl r (.head _);have hr1:=ha.1 r hr;obtain⟨s,hsb,h1,h2⟩:=be.1 (hs r.1 (be.2 ⟨r,hr,FS _,hr1⟩));have h3:r.2<=s.2:=by
    apply F9;intro hn;obtain⟨t,htb,h4,h5⟩:=be.1 (hs (s.2+1) (be.2 ⟨r,hr,by omega,by omega⟩));have hsp:=hb.ok.1 s hsb;have htp:=hb.ok.1 t htb;have hne:s≠t:=λe=>(by subst e;omega);have: ∀{l:List (Int×Int)},l.Pairwise (λr s=>r.2+2<=s.1)->s∈l->t∈l->s.2+2<=t.1∨t.2+2<=s.1:=by
     intro l hp
     induction l with
     |nil=>intro h;cases h
     |cons x l ih=>
      intro hs ht;have hx:=Ei.1 hp;rcases ET.1 hs with e1|hs
      ·rcases ET.1 ht with e2|ht;·exact EX (e1.trans e2.symm) hne
       ·rw[e1];exact .inl (hx.1 t ht)
      ·rcases ET.1 ht with e2|ht;·rw[e2];exact .inr (hx.1 s hs)
       ·exact ih hx.2 hs ht
    rcases this hb.ok.2 hsb htb with h|h<;>omega
   have hsv:=hb.val s.2 (be.2 ⟨s,hsb,hb.ok.1 s hsb,FS _⟩);rw[En];have e:cP b [] r=[]:=by
    unfold cP;rw[kL b r.1 r.2 [] hb.ok hsb h1 hr1 h3 hsv,E4 (by simp only;omega)]
   rw[e];exact ih λr h=>hl r (.tail _ h)
 exact key a λr h=>h
theorem wu {x:List (Int×Int)}(hf:Fine x)(hl:(vals x).length<=4096):chkR x=0:=by
 unfold chkR;rw[E4,E4];·rw[uK hf.ok];omega
 ·intro h;obtain⟨i,hi,hb⟩:=Fa.1 h;have hil:=ES.1 hi;have hm:=EA hil;have h0:=hf.ok.1 _ hm;have hv1:=hf.val x[i].1 (be.2 ⟨_,hm,FS _,h0⟩);have hv2:=hf.val x[i].2 (be.2 ⟨_,hm,h0,FS _⟩);have hp:0<i->x[i-1].2+2<=x[i].1:=λh=>Gi.1 hf.ok.2 (i-1) i (by omega) hil (by omega);unfold badR at hb;rw[E0,E5 hil]at hb;simp only[Fz,Fs,FZ,EL,ER,aN,decide_eq_false_iff_not]at hb;rcases hb with hb|hb|hb|⟨h1,h2⟩;·omega
  ·omega
  ·omega
  ·have hpi:=hp (by omega);rw[E0,E5 (show i-1<x.length by omega)]at h2;simp only[Fz]at h2;omega
def chS (ch:List (Int×List (Int×Int)))(i:Nat)(y x:List (Int×Int)):List (Int×List (Int×Int)):=if x=y then ch else ch++[((i:Int),y)]
theorem rk (sb:Nat)(lv cv mv:Value)(d:aa)(ch:List (Int×List (Int×Int)))(i:Nat)(x y:List (Int×Int))(fd:FewD d)(hy:d[i]? =some y)(hx:Fine x)(hxl:(vals x).length<=4096)(hs: ∀v∈vals x,v∈vals y)(hl:(ch.length+1)*32<=140737488355328):
  SpecX Tryz.prog 110 [.pointer (some ⟨sb,0,none⟩),lv] [cv] [.box true [.raw lv,.raw cv,.raw mv],.sl 54 1 true (d.map cD)] [.sl 156 2 true (ch.map cCh)] [(true,.raw (.pointer (some ⟨sb,0,none⟩))),(true,.int .i64 i),(false,dm x)]
  (λns=>[.box true [.raw lv,.raw (ns.getD 0 undef),.raw mv],.sl 54 1 true ((d.set i x).map cD)]) (λ_=>[.sl 156 2 true ((chS ch i y x).map cCh)]) true (λ_=>[.int .i64 0]):=by
 refine SpecX.body (fn:=Tryz.f110) [1000,1001,1002] [1003] Y Y Y Y λw0 Z=> ?_;have hil:=(E8.1 hy).1;have hds:=fd.small;have hym:y∈d:=EC hy;have hyl:=bN (fd.fine y hym).ok;have hyf:=fd.few y hym;have hxd:=bN hx.ok;have his:=AO sb lv cv mv d (i:Int);rw[show decide (0<=(i:Int)/\(i:Int)<d.length)=true from EF ⟨by omega,by omega⟩]at his;have hck:=jO x (by omega);rw[wu hx hxl]at hck;have hmi:=lw x y (by omega) (by
  have:(x.length+1)*(y.length+1)<=4097*4097:=Hu (by omega) (by omega);omega)
 rw[zT hx.ok (fd.fine y hym) hs]at hmi;have hsa:=eL x y (by omega);have hrow:(d.map cD)[((i:Nat):Int).toNat]? =some (cD y):=(by rw[Eo,EJ,hy];rfl);have hcl:=bT x (by omega);refine T.sub (Rel.derawp (s:=0) (g:=1000) Y Y Y) ?_;refine .B ?_;refine J.cx [0,1] [1000,1001] [] his ⟨rfl,⟨_,rfl,rfl,rfl⟩,rfl,⟨_,rfl,rfl,rfl⟩,trivial⟩ (λns hns=> ?_);refine .B ?_;refine T.cf Y ?_;refine .B ?_;refine .D hck ?_;refine T.cf Y ?_;refine .B ?_;refine J.sub (Rel.deraw (s:=24) (g:=1001) Y Y) ?_;refine .B ?_;refine J.io Y Y Y Y Y Y Y Y Y (by omega) (by simpa using hil) Y ?_;refine .B ?_;refine J.lo Y Y Y Y Y Y (r:=cD y) hrow Y ?_;refine .B ?_;refine .D hmi ?_;refine T.cf Y ?_;refine .B ?_;refine J.sub (Rel.deraw (s:=36) (g:=1001) Y Y) ?_;refine .B ?_;refine J.io Y Y Y Y Y Y Y Y Y (by omega) (by simpa using hil) Y ?_;refine .B ?_;refine J.lo Y Y Y Y Y Y (r:=cD y) hrow Y ?_;refine .B ?_;refine .D hsa ?_;by_cases hxy:x=y
 ·rw[EF hxy];refine .B ?_;refine T.sub (Rel.ecp 1003 1002 Y) ?_;refine T.cf Y ?_;refine .B ?_;have e1:chS ch i y x=ch:=E6 hxy;have e2:(d.set i x).map cD=d.map cD:=by
   rw[hxy];have:d.set i y=d:=by
    refine Fo λj=> ?_;by_cases hj:j=i;·rw[hj,F2 hil,hy]
    ·rw[Et (Ne.symm hj)]
   rw[this]
  rw[e1,e2];exact⟨[0,1],[2],[cv],⟨rfl,⟨_,rfl,rfl,rfl⟩,rfl,⟨_,rfl,rfl,rfl⟩,trivial⟩,⟨rfl,⟨_,rfl,rfl,rfl⟩,trivial⟩,rfl,.val Y Y (λ_=>rfl) .nil⟩
 ·rw[EE hxy];refine .B ?_;refine T.ct Y ?_;refine .M ?_;refine T.K (?_:T _ _ ⟨[(0,.optr 0 0 0 0),(1,.val true (.int .i64 i)),(2,.val false (dm x)),(6,.val true (.int .i64 0)),(1000,.eq (.pointer (some ⟨sb,0,none⟩)) 0),(1001,.eq lv 1),(1002,.eq cv 2)],[(0,some (.box true [.raw lv,.raw cv,.raw mv])),(1,some (.sl 54 1 true (d.map cD))),(2,some (.sl 156 2 true (ch.map cCh)))],3⟩ _);refine T.rdw 19 Y (by kernel_rfl) Y ?_
  iterate 4 refine J.H Y ?_
  refine J.lr 1002 (q:=2) (u:=cv) Y Y Y Y Y Y Y Y Y ?_
  iterate 5 refine J.H Y ?_
  refine J.lr 1001 (q:=1) (u:=lv) Y Y Y Y Y Y Y Y Y ?_;refine .M ?_;refine J.io Y Y Y Y Y Y Y Y Y (by omega) (by simpa using hil) Y ?_;refine .M ?_;refine J.lo Y Y Y Y Y Y (r:=cD y) hrow Y ?_;refine .M ?_;refine .V ?_;refine J.ad Y Y Y Y Y Y Y Y Y Y Y Y Y Y Y Y Y Y (cy Y) (by show(List.length _+1)*32<=_;simp;omega) ?_;refine .M ?_;refine⟨by kernel_rfl,?_⟩;refine J.name 1003 (s:=58) Y Y Y λu=> ?_;refine J.sub (Rel.raw (s:=58) (g:=1003) Y (.inl Y) Y Y Y) ?_;refine .W ?_;refine .M ?_;have e:ch.map cCh++[cCh ((i:Int),y)]=(chS ch i y x).map cCh:=(by unfold chS;rw[E4 hxy];simp);have e1:ch.map cCh++[[PV.int .i64 (i:Int),dm y]]=(chS ch i y x).map cCh:=e;refine T.K (?_:T _ _ ⟨[(0,.optr 0 0 0 0),(1,.val true (.int .i64 i)),(2,.val false (dm x)),(6,.val true (.int .i64 0)),(1000,.eq (.pointer (some ⟨sb,0,none⟩)) 0),(1001,.eq lv 1),(1003,.eq u 2)],[(0,some (.box true [.raw lv,.raw u,.raw mv])),(1,some (.sl 54 1 true (d.map cD))),(2,some (.sl 156 2 true (ch.map cCh++[[PV.int .i64 (i:Int),dm y]])))],3⟩ _);rw[e1];refine T.rdm 8 Y (by kernel_rfl) Y ?_
  iterate 4 refine J.H Y ?_
  refine J.lr 1001 (q:=1) (u:=lv) Y Y Y Y Y Y Y Y Y ?_;refine .M ?_;refine .C hcl.frz ?_;refine .M ?_;refine J.io Y Y Y Y Y Y Y Y Y (by omega) (by simpa using hil) Y ?_;refine .M ?_;refine J.w1 Y Y Y Y Y Y Y Y Y Y Y (enc:=cD) (z:=x) (λ_=>rfl) (by simpa using hil) ?_;refine .B ?_;exact⟨[0,1],[2],[u],⟨rfl,⟨_,rfl,rfl,rfl⟩,rfl,⟨_,rfl,rfl,rfl⟩,trivial⟩,⟨rfl,⟨_,rfl,rfl,rfl⟩,trivial⟩,rfl,.val Y Y (λ_=>rfl) .nil⟩
def gK (l:List (Int×List (Int×Int)))(d:aa):aa:=l.foldr (λc d=>d.set c.1.toNat c.2) d
theorem zj (l:List (Int×List (Int×Int)))(c:Int×List (Int×Int))(d:aa):gK (l++[c]) d=gK l (d.set c.1.toNat c.2):=by simp[gK]
theorem wY (sb:Nat)(lv cv mv:Value)(d:aa)(ch tail:List (Int×List (Int×Int)))(mk:List Int)(ht: ∀c∈tail,0<=c.1/\c.1<(d.length:Int))(hd:d.length<4611686018427387904)(hl:(ch++tail).length<4611686018427387904)(hm:mk.length<4611686018427387904):
  SpecXD Tryz.prog 116 [.pointer (some ⟨sb,0,none⟩),lv] [cv,mv] [.box true [.raw lv,.raw cv,.raw mv],.sl 54 1 true (d.map cD)] [.sl 156 2 true ((ch++tail).map cCh),.sl 3 1 true ((mk++[(ch.length:Int)]).map cI)] [(true,.raw (.pointer (some ⟨sb,0,none⟩)))]
  (λns=>[.box true [.raw lv,.raw (ns.getD 0 undef),.raw (ns.getD 1 undef)],.sl 54 1 true ((gK tail d).map cD)]) (λ_=>[.sl 156 2 true (ch.map cCh),.sl 3 1 true (mk.map cI)]) true (λ_=>[.int .i64 0]):=by
 refine SpecXD.body (fn:=Tryz.f116) [1000,1001,1002,1003] [1004,1005] Y Y Y Y λw0 Z=> ?_;refine T.sub (Rel.derawp (s:=0) (g:=1000) Y Y Y) ?_;refine T.known 1003 3 Y Y (by simp) λmb mc emv hmc hm0=> ?_;obtain rfl:mv= .slice (some ⟨mb,0,none⟩) (mk.length+1) mc:=(by rw[emv];simp);rw[EB,EZ,FY]at hmc;clear emv;have emn:(((mk++[(ch.length:Int)]).map cI).length:Int)=(mk.length:Int)+1:=(by simp);have ew:IntKind.wrap .i64 ((mk.length:Int)+1-1)=(mk.length:Int):=(af (by omega) (by omega)).trans (by omega);refine .B ?_;refine J.sub (Rel.deraw (s:=8) (g:=1003) Y Y) ?_;refine .B ?_;refine T.cf2 Y (EE (by rw[emn];omega)) ?_;refine .M ?_;rw[emn];refine T.K (T.ind (λs:Value×List (Int×List (Int×Int))×aa=>⟨[(0,.optr 0 0 0 0),(3,.val true (.int .i64 (mk.length+1))),(1000,.eq (.pointer (some ⟨sb,0,none⟩)) 0),(1001,.eq lv 1),(1002,.eq s.1 2),(1003,.eq (.slice (some ⟨mb,0,none⟩) (mk.length+1) mc) 3)],[(0,some (.box true [.raw lv,.raw s.1,.raw (.slice (some ⟨mb,0,none⟩) (mk.length+1) mc)])),(1,some (.sl 54 1 true (s.2.2.map cD))),(2,some (.sl 156 2 true ((ch++s.2.1).map cCh))),(3,some (.sl 3 1 true ((mk++[(ch.length:Int)]).map cI)))],4⟩)
  (λs=>(∀c∈s.2.1,0<=c.1/\c.1<(d.length:Int))/\s.2.2.length=d.length/\gK s.2.1 s.2.2=gK tail d/\s.2.1.length<=tail.length) (λs=>s.2.1.length) (cv,tail,d) ⟨ht,rfl,rfl,EO _⟩ (λ_ _ h=>h) ?_)
 rintro⟨cu,tl,dd⟩ ⟨h1,h2,h3,h4⟩ ih;dsimp only at h1 h2 h3 h4 ih⊢;refine .M ?_;refine T.rdm 13 Y (by kernel_rfl) Y ?_
 iterate 3 refine J.H Y ?_
 refine J.lr 1002 (q:=2) (u:=cu) Y Y Y Y Y Y Y Y Y ?_
 iterate 4 refine J.H Y ?_
 refine J.lr 1003 (q:=3) (u:= .slice (some ⟨mb,0,none⟩) (mk.length+1) mc) Y Y Y Y Y Y Y Y Y ?_
 iterate 2 refine J.H Y ?_
 rw[ew];refine J.io Y Y Y Y Y Y Y Y Y (by omega) (by simp) rfl ?_;refine J.lo Y Y Y Y Y Y (r:=cI ch.length) (by rw[Eo,EJ,F1 (EO _),HJ];rfl) Y ?_;refine .M ?_;have ecn: ∀l:List (Int×List (Int×Int)),(((ch++l).map cCh).length:Int)=(ch.length:Int)+l.length:=λl=>(by simp);rcases GB tl with rfl|⟨tl,c,rfl⟩
 ·refine T.cf2 Y (EE (by rw[ecn];simp)) ?_;refine .M ?_;rw[ew];refine J.rs mk.length Y (by omega) hm0 Y Y Y Y Y Y Y Y ?_;refine .M ?_;refine .W ?_;refine J.sub (Rel.recut 1003 3 mk.length Y Y (by simp)) ?_;have etk:((mk++[(ch.length:Int)]).map cI).take mk.length=mk.map cI:=(by rw[<-Gp,HW]);rw[etk,<-show dd=gK tail d from h3,FU];refine J.sub (Rel.ecp 1004 1002 Y) ?_;refine J.sub (Rel.ecp 1005 1003 Y) ?_;refine .M ?_;exact⟨[0,1],[2,4],[cu,.slice (some ⟨mb,0,none⟩) mk.length mc],⟨rfl,⟨_,rfl,rfl,rfl⟩,rfl,⟨_,rfl,rfl,rfl⟩,trivial⟩,⟨rfl,⟨_,rfl,rfl,rfl⟩,rfl,⟨_,rfl,rfl,rfl⟩,trivial⟩,rfl,.val Y Y (λ_=>rfl) .nil⟩
 ·rw[G1]at*;refine T.ct2 Y (EF (by rw[ecn];simp;omega)) ?_;refine .M ?_;refine T.canon (keep:=[0,3,1000,1001,1002,1003]) (os:=[1000,1001,1002,1003]) Y ?_;refine T.rdm 13 Y (by kernel_rfl) Y ?_
  iterate 3 refine J.H Y ?_
  refine J.lr 1002 (q:=2) (u:=cu) Y Y Y Y Y Y Y Y Y ?_
  iterate 3 refine J.H Y ?_
  refine J.lr 1002 (q:=2) (u:=cu) Y Y Y Y Y Y Y Y Y ?_
  iterate 2 refine J.H Y ?_
  have ewl:IntKind.wrap .i64 ((((ch++(tl++[c])).map cCh).length:Int)-1)=((ch++tl).length:Int):=by
   rw[ecn,af (by simp;omega) (by simp at *;omega)];simp;omega
  rw[ewl];have hrow:((ch++(tl++[c])).map cCh)[(((ch++tl).length:Nat):Int).toNat]? =some (cCh c):=by
   rw[Eo,EJ,<-F5,F1 (EO _),HJ];rfl
  refine J.io Y Y Y Y Y Y Y Y Y (by omega) (by simp;omega) Y ?_;refine J.lo Y Y Y Y Y Y (r:=cCh c) hrow Y ?_;refine .M ?_;refine .L ?_;refine .M ?_;refine .W ?_;refine .M ?_;refine T.K (?_:T _ _ ⟨[(0,.optr 0 0 0 0),(3,.val true (.int .i64 (mk.length+1))),(4,.optr 4 0 0 0),(1000,.eq (.pointer (some ⟨sb,0,none⟩)) 0),(1001,.eq lv 1),(1002,.eq cu 2),(1003,.eq (.slice (some ⟨mb,0,none⟩) (mk.length+1) mc) 3)],[(0,some (.box true [.raw lv,.raw cu,.raw (.slice (some ⟨mb,0,none⟩) (mk.length+1) mc)])),(1,some (.sl 54 1 true (dd.map cD))),(2,some (.sl 156 2 true ((ch++(tl++[c])).map cCh))),(3,some (.sl 3 1 true ((mk++[(ch.length:Int)]).map cI))),(4,some (.box true (cCh c)))],5⟩ _);refine T.known 1002 2 Y Y (by simp) λcb cc ecu hcc hc0=> ?_;have ecl:((ch++(tl++[c])).map cCh).length=(ch++tl).length+1:=(by simp;omega);rw[ecl]at ecu hcc;subst ecu;refine T.rdm 12 Y (by kernel_rfl) Y ?_
  iterate 8 refine J.H Y ?_
  refine J.lr 1002 (q:=2) (u:= .slice (some ⟨cb,0,none⟩) ((ch++tl).length+1) cc) Y Y Y Y Y Y Y Y Y ?_
  iterate 2 refine J.H Y ?_
  rw[ewl];refine J.rs (ch++tl).length Y (by omega) hc0 Y Y Y Y Y Y Y Y ?_;refine .M ?_;refine .W ?_;refine .M ?_;refine T.sub (Rel.recut 1002 2 (ch++tl).length Y Y (by rw[ecl];omega)) ?_;have etk:((ch++(tl++[c])).map cCh).take (ch++tl).length=(ch++tl).map cCh:=(by rw[<-Gp,<-F5,HW]);rw[etk];have hcd:0<=c.1/\c.1<(d.length:Int):=h1 c (by simp);refine T.K (?_:T _ _ ⟨[(0,.optr 0 0 0 0),(3,.val true (.int .i64 (mk.length+1))),(4,.optr 4 0 0 0),(1000,.eq (.pointer (some ⟨sb,0,none⟩)) 0),(1001,.eq lv 1),(1002,.eq (.slice (some ⟨cb,0,none⟩) (ch++tl).length cc) 2),(1003,.eq (.slice (some ⟨mb,0,none⟩) (mk.length+1) mc) 3)],[(0,some (.box true [.raw lv,.raw (.slice (some ⟨cb,0,none⟩) (ch++tl).length cc),.raw (.slice (some ⟨mb,0,none⟩) (mk.length+1) mc)])),(1,some (.sl 54 1 true (dd.map cD))),(2,some (.sl 156 2 true ((ch++tl).map cCh))),(3,some (.sl 3 1 true ((mk++[(ch.length:Int)]).map cI))),(4,some (.box true (cCh c)))],5⟩ _);refine T.rdm 9 Y (by kernel_rfl) Y ?_
  iterate 4 refine J.H Y ?_
  refine J.lr 1001 (q:=1) (u:=lv) Y Y Y Y Y Y Y Y Y ?_;refine .M ?_;refine J.io Y Y Y Y Y Y Y Y Y hcd.1 (by rw[EB];omega) Y ?_;refine .M ?_;refine J.w1 Y Y Y Y Y Y Y Y Y Y Y (enc:=cD) (z:=c.2) (λ_=>rfl) (by rw[h2];omega) ?_;refine .M ?_;refine T.K (ih (.slice (some ⟨cb,0,none⟩) (ch++tl).length cc,tl,dd.set c.1.toNat c.2) ⟨λx hx=>h1 x (Ex _ hx),by rw[FA];exact h2,by rw[<-zj];exact h3,by rw[EZ]at h4;exact Em (I7 _ _) h4⟩ (by simp))
theorem zl (d:aa)(fd:FewD d)(hs: ∀x∈d,(vals x).length<=4096):
  SpecX Tryz.prog 65 [] [] [] [] [(false,ao d)] (λ_=>[]) (λns=>[.box true [.raw (ns.getD 1 undef),.raw (ns.getD 2 undef),.raw (ns.getD 3 undef)],.sl 54 1 true (d.map cD),.sl 156 2 true [],.sl 3 1 true []]) true (λns=>[.raw (ns.getD 0 undef),.int .i64 0]):=by
 refine SpecX.body (fn:=Tryz.f65) [] [1000,1001,1002,1003] Y Y Y Y λw0 Z=> ?_;have hd:=fd.small
 iterate 1 (refine .A ?_;conv=>whnf)
 refine T.seq ?_;refine T.r ?_;refine J.bzr Y Y Y Y Y Y Y Y Y ?_;refine .M ?_;refine T.nameO 1000 0 Y Y λu=> ?_;refine T.sub (Rel.ownN 1001 54 1) ?_;refine T.sub (Rel.ownN 1002 156 2) ?_;refine T.sub (Rel.ownN 1003 3 1) ?_;refine T.K (T.ind (λs:Value×Nat=>⟨[(4,.optr 0 0 0 0),(10,.val false (ao d)),(11,.val true (.int .i64 (d.map cD).length)),(12,.val true (.int .i64 s.2)),(1000,.eq u 0),(1001,.eq s.1 1),(1002,.eq (.slice none 0 0) 2),(1003,.eq (.slice none 0 0) 3)],[(0,some (.box true [.raw s.1,.raw (.slice none 0 0),.raw (.slice none 0 0)])),(1,some (.sl 54 1 true ((d.take s.2).map cD))),(2,some (.sl 156 2 true [])),(3,some (.sl 3 1 true []))],4⟩)
  (λs=>s.2<=d.length) (λs=>d.length-s.2) (.slice none 0 0,0) (Er _) (λ_ _ h=>h) ?_)
 rintro⟨lv,i⟩ hi ih;dsimp only at hi ih⊢;by_cases h:i<d.length
 ·have hm:d[i]∈d:=EA h;have hf:=fd.fine _ hm;have hxl:=bN hf.ok;have hxs:=hs _ hm;have hck:=jO d[i] (by have:=fd.few _ hm;omega);rw[wu hf (hs _ hm)]at hck;have hrow:(d.map cD)[((i:Nat):Int).toNat]? =some (cD d[i]):=(by rw[Eo,EJ,E5 h];rfl);refine .M ?_;refine T.ct2 Y (EF (by rw[EB];omega)) ?_;refine .M ?_;refine .I (r:=cD d[i]) hrow ?_;refine .M ?_;refine .C hck ?_;refine .M ?_;refine T.cf Y ?_;refine .M ?_;refine T.K (?_:T _ _ ⟨[(4,.optr 0 0 0 0),(6,.val false (dm d[i])),(10,.val false (ao d)),(11,.val true (.int .i64 (d.map cD).length)),(12,.val true (.int .i64 i)),(1000,.eq u 0),(1001,.eq lv 1),(1002,.eq (.slice none 0 0) 2),(1003,.eq (.slice none 0 0) 3)],[(0,some (.box true [.raw lv,.raw (.slice none 0 0),.raw (.slice none 0 0)])),(1,some (.sl 54 1 true ((d.take i).map cD))),(2,some (.sl 156 2 true [])),(3,some (.sl 3 1 true []))],4⟩ _);refine T.rdw 13 Y (by kernel_rfl) Y ?_
  iterate 5 refine J.H Y ?_
  refine J.lr 1001 (q:=1) (u:=lv) Y Y Y Y Y Y Y Y Y ?_;refine .M ?_;refine .C (bT d[i] (by omega)).frz ?_;refine .M ?_;refine .V ?_;refine J.ad Y Y Y Y Y Y Y Y Y Y Y Y Y Y Y Y Y Y (cy Y) (by show(List.length _+1)*24<=_;simp;omega) ?_;refine .M ?_;refine⟨by kernel_rfl,?_⟩;refine J.name 1004 (s:=30) Y Y Y λu2=> ?_;refine J.sub (Rel.raw (s:=30) (g:=1004) Y (.inl Y) Y Y Y) ?_;refine .W ?_;refine .M ?_;rw[ai h (by omega)];have e:(d.take i).map cD++[cD d[i]]=(d.take (i+1)).map cD:=(by rw[ED h,F4];rfl);refine T.K (?_:T _ _ ⟨[(4,.optr 0 0 0 0),(10,.val false (ao d)),(11,.val true (.int .i64 (d.map cD).length)),(12,.val true (.int .i64 ((i+1:Nat):Int))),(1000,.eq u 0),(1002,.eq (.slice none 0 0) 2),(1003,.eq (.slice none 0 0) 3),(1004,.eq u2 1)],[(0,some (.box true [.raw u2,.raw (.slice none 0 0),.raw (.slice none 0 0)])),(1,some (.sl 54 1 true ((d.take i).map cD++[cD d[i]]))),(2,some (.sl 156 2 true [])),(3,some (.sl 3 1 true []))],4⟩ _);rw[e];refine T.sub (Rel.ecp 1001 1004 Y) ?_;exact T.K (ih (u2,i+1) h (by dsimp only;omega))
 ·obtain rfl:i=d.length:=(by omega);rw[Ep];refine .M ?_;refine T.cf2 Y (EE (by rw[EB];omega)) ?_;refine T.sub (Rel.raw (s:=4) (g:=1000) Y (.inr Y) Y Y Y) ?_;refine .M ?_;exact⟨[],[0,1,2,3],[u,lv,.slice none 0 0,.slice none 0 0],trivial,⟨rfl,⟨_,rfl,rfl,rfl⟩,rfl,⟨_,rfl,rfl,rfl⟩,rfl,⟨_,rfl,rfl,rfl⟩,rfl,⟨_,rfl,rfl,rfl⟩,trivial⟩,rfl,.val Y Y (λ_=>rfl) (.val Y Y (λ_=>rfl) .nil)⟩
def gZ {α:Type}(p:α->Bool)(l:List α):Int:=match l.findIdx? p with|some i=>(i:Int)|none=> -1
theorem qo {α:Type}(p:α->Bool)(l:List α):decide (gZ p l>=0)=l.any p:=by
 unfold gZ;cases h:l.findIdx? p with
 |none=>
  have:l.any p=false:=by
   rw[Gl];exact λx hx=>by simpa using FG.1 h x hx
  rw[this];rfl
 |some i=>
  have:l.any p=true:=by
   rw[Fa];obtain⟨h1,h2,_⟩:=Fc.1 h;exact⟨_,EA h1,h2⟩
  rw[this];exact EF (Gg _)
theorem sw {α:Type}{p:α->Bool}{l pre post:List α}{v:α}{n:Nat}(h:l=pre++v::post)(hn:n=pre.length)(hi: ∀x∈pre,p x=false)(h2:p v=true):gZ p l=(n:Int):=by
 unfold gZ;rw[h,HE,FG.2 (by simpa using hi),GU,E6 h2];simp[hn]
theorem sk {α:Type}{p:α->Bool}{l:List α}(hi: ∀x∈l,p x=false):gZ p l= -1:=by
 unfold gZ;rw[FG.2 (by simpa using hi)]
theorem wO {α:Type}{p:α->Bool}{l:List α}{v:α}(hi: ∀x∈l,p x=false)(h2:p v=false): ∀x∈l++[v],p x=false:=by
 intro x hx;rcases EW.1 hx with hx|hx;·exact hi x hx
 ·rw[EI.1 hx];exact h2
theorem wc {p:List (Int×Int)->Bool}{f:FuncId}(caps:List PV)(l:List (List (Int×Int)))(hp: ∀v∈l,Spec Tryz.prog f false (dm v::caps) [.val (.bool (p v))])(hl:l.length*8<=140737488355328):Spec Tryz.prog 111 false [ao l,.fn (.func f) [] caps] [.val (.int .i64 (gZ p l))]:=by
 refine Spec.body Tryz.func111 Y Y Y λw0 Z0=> ?_;refine .B ?_;refine T.K (T.listI l (λpre=> ∀v∈pre,p v=false) (λn pre post=>⟨[(0,.val false (ao l)),(1,.val false (.fn (.func f) [] caps)),(7,.val true (.int .i64 (l.map cD).length)),(8,.val true (.int .i64 n))],[],0⟩) (λ_ _ h=>h) (λv hv=>by cases hv) ?_ ?_)
 ·rintro n pre v post h hn hi ih;have hlt:=bW h hn;have hsp:=hp v (by rw[h];simp);refine .B ?_;refine T.ct2 Y (bV h hn) ?_;refine .B ?_;refine .F (r:=cD v) (aM h hn) ?_;refine .D hsp ?_;refine T.cond Y (λh2=> ?_) (λh2=> ?_)
  ·have h2:p v=true:=h2;refine .B ?_;rw[sw h hn hi h2];exact r1
  ·have h2:p v=false:=h2;refine .B ?_;rw[ai hlt (by omega)];exact T.K (ih (wO hi h2))
 ·intro hi;rw[sk hi];refine .B ?_;refine T.cf2 Y bj ?_;refine .B ?_;exact r1
theorem v7 {p:List Int->Bool}{f:FuncId}(caps:List PV)(l:List (List Int))(hp: ∀v∈l,Spec Tryz.prog f false (aq v::caps) [.val (.bool (p v))])(hl:l.length*8<=140737488355328):Spec Tryz.prog 125 false [bC l,.fn (.func f) [] caps] [.val (.int .i64 (gZ p l))]:=by
 refine Spec.body Tryz.func125 Y Y Y λw0 Z0=> ?_;refine .B ?_;refine T.K (T.listI l (λpre=> ∀v∈pre,p v=false) (λn pre post=>⟨[(0,.val false (bC l)),(1,.val false (.fn (.func f) [] caps)),(7,.val true (.int .i64 (l.map cL).length)),(8,.val true (.int .i64 n))],[],0⟩) (λ_ _ h=>h) (λv hv=>by cases hv) ?_ ?_)
 ·rintro n pre v post h hn hi ih;have hlt:=bW h hn;have hsp:=hp v (by rw[h];simp);refine .B ?_;refine T.ct2 Y (bV h hn) ?_;refine .B ?_;refine .F (r:=cL v) (aM h hn) ?_;refine .D hsp ?_;refine T.cond Y (λh2=> ?_) (λh2=> ?_)
  ·have h2:p v=true:=h2;refine .B ?_;rw[sw h hn hi h2];exact r1
  ·have h2:p v=false:=h2;refine .B ?_;rw[ai hlt (by omega)];exact T.K (ih (wO hi h2))
 ·intro hi;rw[sk hi];refine .B ?_;refine T.cf2 Y bj ?_;refine .B ?_;exact r1
theorem qJ {p:List Int->Bool}{f:FuncId}(caps:List PV)(l:List (List Int))(hp: ∀v∈l,Spec Tryz.prog f false (aq v::caps) [.val (.bool (p v))])(hl:l.length*8<=140737488355328):Spec Tryz.prog 88 false [bC l,.fn (.func f) [] caps] [.val (.bool (l.any p))]:=by
 refine Spec.body Tryz.func88 Y Y Y λw0 Z0=> ?_;refine .B ?_;refine .D (v7 caps l hp hl) ?_;exact⟨_,.v Y Y (congrArg PV.bool (qo p l)) (λ_=>rfl) .nil⟩
theorem eM {p:Int->Bool}{f:FuncId}(caps:List PV)(l:List (Int))(hp: ∀v∈l,Spec Tryz.prog f false (.int .i64 v::caps) [.val (.bool (p v))])(hl:l.length*8<=140737488355328):Spec Tryz.prog 129 false [aq l,.fn (.func f) [] caps] [.val (.bool (l.any p))]:=by
 refine Spec.body Tryz.func129 Y Y Y λw0 Z0=> ?_;refine .B ?_;refine .D (n5 caps l hp hl) ?_;exact⟨_,.v Y Y (congrArg PV.bool (qo p l)) (λ_=>rfl) .nil⟩
theorem rW (l:List Int)(hl:l.length<=1048576):Spec Tryz.prog 175 false [aq l] [.val (.bool (decide l.Nodup))]:=by
 refine Spec.body Tryz.func175 Y Y Y λw0 Z0=> ?_;have hs:(c8 l).length=l.length:=H1 ..;have e:decide l.Nodup=decide ((((aT l).map cI).length:Int)=((l.map cI).length:Int)):=decide_eq_decide.2 (by rw[EB,EB,<-rq];omega);rw[e];refine .B ?_;refine .D (pa l) ?_;refine .D (lO l (by omega)) ?_;refine J.cp (cs2:=[]) (qs:=[]) [] Y Y Y Y Y Y Y Y (i8 _ (by omega)) trivial Y Y Y Y Y Y ?_;rw[i9];refine .B ?_;exact r1
theorem Cu {d:List (Int×Int)}(h: ∀r∈d,r.1<=r.2):eC d [(0,1)]=[]↔truthR d=true:=by
 have h1: ∀(out:List (Int×Int)) (r:Int×Int),r.1<=r.2->(cP [(0,1)] out r=out/\(!(decide (r.1<0)||decide (1<r.2)))=true)∨(∃p,cP [(0,1)] out r=out++p/\p≠[]/\(!(decide (r.1<0)||decide (1<r.2)))=false):=by
  intro out r hr;have hw:wr ((0,1):Int×Int).2=1:=rfl;have hw2:wr (((0,1):Int×Int).2+1)=2:=(by rfl);unfold cP;rw[bS,bS,bS];by_cases h2:((0,1):Int×Int).2<r.1∨r.2<((0,1):Int×Int).1
  ·rw[E6 h2];rw[E6 hr];refine .inr ⟨_,rfl,by simp,?_⟩;have h2:1<r.1∨r.2<0:=h2;have:r.1<0∨1<r.2:=(by omega);rcases this with h|h<;>simp[h]
  ·rw[E4 h2,hw2];have h2: ¬(1<r.1∨r.2<0):=h2;by_cases h3:r.1<((0,1):Int×Int).1
   ·rw[E6 h3];have h3:r.1<0:=h3;refine .inr ?_;split;·exact⟨_,F5 _ _ _,by simp,by simp[h3]⟩
    ·exact⟨_,rfl,by simp,by simp[h3]⟩
   ·rw[E4 h3];have h3: ¬r.1<0:=h3;split
    ·rename_i h4;have h4:2<=r.2:=h4;exact .inr ⟨_,rfl,by simp,by simp[show 1<r.2 by omega]⟩
    ·rename_i h4;have h4: ¬2<=r.2:=h4;exact .inl ⟨rfl,by simp[h3,show¬1<r.2 by omega]⟩
 have key: ∀(l:List (Int×Int)) (out:List (Int×Int)),(∀r∈l,r.1<=r.2)->(∃p,l.foldl (cP [(0,1)]) out=out++p/\(p=[]↔truthR l=true)):=by
  intro l
  induction l with
  |nil=>intro out _;exact⟨[],by simp,by simp[truthR]⟩
  |cons r l ih=>
   intro out hl;have ht:truthR (r::l)=((!(decide (r.1<0)||decide (1<r.2)))&&truthR l):=rfl;rw[En,ht];rcases h1 out r (hl r (.head _))with ⟨e,e2⟩|⟨p,e,hp,e2⟩;·rw[e,e2,Fe];exact ih out λr hr=>hl r (.tail _ hr)
   ·obtain⟨q,h3,h4⟩:=ih (out++p) λr hr=>hl r (.tail _ hr);rw[e,e2,h3,F5];exact⟨p++q,rfl,by simp[hp]⟩
 obtain⟨p,h2,h3⟩:=key d [] h;unfold eC;rw[h2,Ff];exact h3
theorem nU (d:List (Int×Int))(hd:d.length<=1048576)(hr: ∀r∈d,r.1<=r.2):Spec Tryz.prog 172 false [dm d] [.val (.bool (truthR d))]:=by
 refine Spec.body Tryz.func172 Y Y Y λw0 Z0=> ?_;have hm:=lw d [(0,1)] (by simp) (by show(d.length+1)*2*16<=_;omega);have e:truthR d=decide ((((eC d [(0,1)]).map cR).length:Int)=0):=by
  rw[GQ,ER,<-Cu hr,EB];exact⟨λh=>by rw[h];rfl,λh=>EQ (by omega)⟩
 rw[e];refine .B ?_;refine .Z ?_;refine .D hm ?_;exact r1
theorem zy (v:Int):Spec Tryz.prog 222 false [.int .i64 v] [.val (.bool (!aN v))]:=by
 refine Spec.body Tryz.func222 Y Y Y λw0 Z0=> ?_;refine .B ?_;refine J.g Y Y Y (λh=> ?_) (λh=> ?_)
 ·have e:(!aN v)=true:=(by have h:v< -1048576:=h;simp[aN];omega);rw[e];refine .B ?_;exact r1
 ·have e:(!aN v)=decide (v > 1048576):=(by have h: ¬v< -1048576:=h;simp only[aN];rw[GQ];simp;omega);rw[e];refine .B ?_;exact r1
theorem uU (v:Int):Spec Tryz.prog 179 false [.int .i64 v] [.val (.bool (!(decide (v=1)||decide (v= -1))))]:=by
 refine Spec.body Tryz.func179 Y Y Y λw0 Z0=> ?_;refine .B ?_;refine J.g Y Y Y (λh=> ?_) (λh=> ?_)
 ·have h:v≠1:=h;rw[EE h,I2];refine .B ?_;exact⟨_,.v Y Y (by rw[<-decide_not]) (λ_=>rfl) .nil⟩
 ·have h:v=1:=(by have h: ¬(v≠1):=h;omega);rw[EF h,Bool.true_or];refine .B ?_;exact r1
theorem uL (l:List Int)(v:Int)(hl:l.length*8<=140737488355328):Spec Tryz.prog 223 false [aq l,.int .i64 v] [.val (.int .i64 (indexP (λx=>decide (v=x)) l))]:=by
 refine Spec.body Tryz.func223 Y Y Y λw0 Z0=> ?_;refine .B ?_;refine T.K (T.listI l (λpre=> ∀x∈pre,¬v=x) (λn pre post=>⟨[(0,.val false (aq l)),(1,.val false (.int .i64 v)),(7,.val true (.int .i64 (l.map cI).length)),(8,.val true (.int .i64 n))],[],0⟩) (λ_ _ h=>h) (λv hv=>by cases hv) ?_ ?_)
 ·rintro n pre x post h hn hi ih;have hlt:=bW h hn;refine .B ?_;refine T.ct2 Y (bV h hn) ?_;refine .B ?_;refine .F (r:=cI x) (aM h hn) ?_;refine T.cd Y (λh2=> ?_) (λh2=> ?_)
  ·have h2:v=x:=h2;refine .B ?_;have e:indexP (λx=>decide (v=x)) l=(n:Int):=by
    unfold indexP;rw[h,HE,FG.2 (by simpa using hi),GU,E6 (by simpa using h2)];simp[hn]
   rw[e];exact r1
  ·have h2: ¬v=x:=h2;refine .B ?_;rw[ai hlt (by omega)];exact T.K (ih (by
    intro y hy;rcases EW.1 hy with hy|hy;·exact hi y hy
    ·rw[EI.1 hy];exact h2))
 ·intro hi;have e:indexP (λx=>decide (v=x)) l= -1:=by
   unfold indexP;rw[FG.2 (by simpa using hi)]
  rw[e];refine .B ?_;refine T.cf2 Y bj ?_;refine .B ?_;exact r1
theorem jI (l:List Int)(v:Int)(hl:l.length*8<=140737488355328):Spec Tryz.prog 178 false [aq l,.int .i64 v] [.val (.bool (decide (v∈l)))]:=by
 refine Spec.body Tryz.func178 Y Y Y λw0 Z0=> ?_;refine .B ?_;refine .D (uL l v hl) ?_;refine⟨_,.v Y Y ?_ (λ_=>rfl) .nil⟩;simp only[PV.bool.injEq];unfold indexP;cases h:l.findIdx? λx=>decide (v=x)with
 |none=>
  have h1:=FG.1 h;have: ¬v∈l:=λhv=>(by simpa using h1 v hv);rw[EE this];rfl
 |some i=>
  obtain⟨h1,h2,_⟩:=Fc.1 h;have:v∈l:=(by rw[FV h2];exact EA h1);rw[EF this];simp
theorem rR (c:Con)(hv:c.vars.length<=1048576)(hk:c.coefs.length<=1048576):Spec Tryz.prog 180 false [.agg (cC c)] [.val (.bool (sumR c))]:=by
 refine Spec.body Tryz.func180 Y Y Y λw0 Z0=> ?_;have hall:=rW c.vars hv;have hcon:=jI c.coefs 0 (by omega);refine .B ?_;refine J.g Y Y Y (λh1=> ?_) (λh1=> ?_)
 ·have h1:0<c.vars.length:=(by simpa using h1);refine .B ?_;refine J.g Y Y Y (λh2=> ?_) (λh2=> ?_)
  ·have h2:c.vars.length=c.coefs.length:=(by simp at h2;omega);have e:sumR c=(decide c.vars.Nodup&& !decide (0∈c.coefs)):=(by unfold sumR;rw[EF h1,EF h2,I4,I4]);rw[e];generalize decide c.vars.Nodup=nd at*;refine .B ?_;refine .C hall ?_;cases nd
   ·refine .B ?_;exact r1
   ·refine .B ?_;refine .D hcon ?_;exact r1
  ·have h2: ¬c.vars.length=c.coefs.length:=(by simp at h2;omega);have e:sumR c=false:=(by unfold sumR;rw[EE h2,HG,GM]);rw[e];refine .B ?_;exact r1
 ·have h1: ¬0<c.vars.length:=(by simpa using h1);have e:sumR c=false:=(by unfold sumR;rw[EE h1,HG,GM,GM]);rw[e];refine .B ?_;exact r1
theorem xL (c:Con)(hv:c.vars.length<=1048576)(hk:c.coefs.length<=1048576):Spec Tryz.prog 173 false [.agg (cC c)] [.val (.bool (sumR c&&opR c))]:=by
 refine Spec.body Tryz.func173 Y Y Y λw0 Z0=> ?_;have hs:=rR c hv hk;generalize sumR c=sr at*;refine .B ?_;refine .C hs ?_;cases sr
 ·refine .B ?_;exact r1
 ·refine .B ?_;refine J.g Y Y Y (λh1=> ?_) (λh1=> ?_)
  ·have e:(true&&opR c)=decide (c.op<3):=(by unfold opR;rw[EF (show 0<=c.op from h1)];simp;omega);rw[e];refine .B ?_;exact r1
  ·have e:(true&&opR c)=false:=(by unfold opR;rw[EE (show¬0<=c.op from h1)];rfl);rw[e];refine .B ?_;exact r1
theorem vG (c:Con):Spec Tryz.prog 174 false [.agg (cC c)] [.val (.bool (plainR c))]:=by
 refine Spec.body Tryz.func174 Y Y Y λw0 Z0=> ?_;refine .B ?_;refine J.g Y Y Y (λh1=> ?_) (λh1=> ?_)
 ·have h1:c.coefs.length=0:=(by simpa using h1);refine .B ?_;refine J.g Y Y Y (λh2=> ?_) (λh2=> ?_)
  ·have h2:c.op=0:=h2;refine .B ?_;refine J.g Y Y Y (λh3=> ?_) (λh3=> ?_)
   ·have h3:c.rhs=0:=h3;have e:plainR c=decide (c.b=0):=(by unfold plainR bareR;rw[EF h1,EF h2,EF h3];simp);rw[e];refine .B ?_;exact r1
   ·have h3: ¬c.rhs=0:=h3;have e:plainR c=false:=(by unfold plainR bareR;rw[EE h3];simp);rw[e];refine .B ?_;exact r1
  ·have h2: ¬c.op=0:=h2;have e:plainR c=false:=(by unfold plainR bareR;rw[EE h2];simp);rw[e];refine .B ?_;exact r1
 ·have h1: ¬c.coefs.length=0:=(by simpa using h1);have e:plainR c=false:=(by unfold plainR bareR;rw[EE h1];simp);rw[e];refine .B ?_;exact r1
theorem zS (c:Con)(l:List Int)(hl:l.length*8<=140737488355328):Spec Tryz.prog 177 false [.agg (cC c),aq l] [.val (.bool (em c l))]:=by
 refine Spec.body Tryz.func177 Y Y Y λw0 Z0=> ?_;have hcon:=eM (p:=λv=> !aN v) (f:=222) [] l (λv _=>zy v) hl;have e2:(l.any λv=> !aN v)= !l.all aN:=(by rw[GI]);rw[e2]at hcon;refine .B ?_;refine J.g Y Y Y (λh1=> ?_) (λh1=> ?_)
 ·have h1:l.length=c.vars.length:=(by simp at h1;omega);have e:em c l=l.all aN:=(by unfold em;rw[EF h1,Fe]);rw[e];refine .B ?_;refine .D hcon ?_;exact⟨_,.v Y Y (by rw[IC]) (λ_=>rfl) .nil⟩
 ·have h1: ¬l.length=c.vars.length:=(by simp at h1;omega);have e:em c l=false:=(by unfold em;rw[EE h1,GM]);rw[e];refine .B ?_;exact r1
theorem uV (c:Con)(l:List Int)(hl:l.length*8<=140737488355328):Spec Tryz.prog 176 false [aq l,.ptr (cC c)] [.val (.bool (!em c l))]:=by
 refine Spec.body Tryz.func176 Y Y Y λw0 Z0=> ?_;refine .B ?_;refine .D (zS c l hl) ?_;exact r1
theorem te (d:aa)(v:Int)(hv:0<=v/\v.toNat<d.length)(hx: ∀x∈d,x.length<=1048576/\∀r∈x,r.1<=r.2):Spec Tryz.prog 171 false [.int .i64 v,.ptr [ao d]] [.val (.bool (!truthR (domAt d v)))]:=by
 refine Spec.body Tryz.func171 Y Y Y λw0 Z0=> ?_;have hy:d[v.toNat]? =some (domAt d v):=(by unfold domAt;rw[E0,E5 hv.2];rfl);have hm:=EC hy;have ht:=nU (domAt d v) (hx _ hm).1 (hx _ hm).2;refine .B ?_;refine J.i Y Y Y Y Y Y Y Y Y (r:=cD (domAt d v)) hv.1 (by rw[EJ,hy];rfl) Y ?_;refine .B ?_;refine .D ht ?_;exact r1
theorem uW (d:aa)(l:List Int)(hl:l.length*8<=140737488355328)(hv: ∀v∈l,0<=v/\v.toNat<d.length)(hx: ∀x∈d,x.length<=1048576/\∀r∈x,r.1<=r.2):Spec Tryz.prog 170 false [aq l,.ptr [ao d]] [.val (.bool (l.all λv=>truthR (domAt d v)))]:=by
 refine Spec.body Tryz.func170 Y Y Y λw0 Z0=> ?_;have hcon:=eM (p:=λv=> !truthR (domAt d v)) (f:=171) [.ptr [ao d]] l (λv h=>te d v (hv v h) hx) hl;have e2:(l.any λv=> !truthR (domAt d v))= !l.all λv=>truthR (domAt d v):=(by rw[GI]);rw[e2]at hcon;refine .B ?_;refine .D hcon ?_;exact⟨_,.v Y Y (by rw[IC]) (λ_=>rfl) .nil⟩
def zf (d:aa):Prop:= ∀x∈d,x.length<=1048576/\∀r∈x,r.1<=r.2
theorem zi (d:aa)(c:Con)(hl:c.vars.length=c.coefs.length):gW d c=((c.coefs.all λk=>decide (k=1)||decide (k= -1))&&c.vars.all λv=>truthR (domAt d v)):=by
 rw[GQ,EL,gW,EN,EN,EN];have hva: ∀i,i<c.vars.length->∀(h:i<c.vars.length),varAt c i=c.vars[i]:=λi hi h=>(by unfold varAt;rw[E0,E5 h];rfl);have hca: ∀i,∀(h:i<c.coefs.length),coefAt c i=c.coefs[i]:=λi h=>(by unfold coefAt;rw[E0,E5 h];rfl);constructor
 ·intro h;refine⟨λk hk=> ?_,λv hv=> ?_⟩
  ·obtain⟨i,hi,rfl⟩:=Gm.1 hk;have:=h i (ES.2 (by omega));unfold gX at this;rw[hca i hi,EL]at this;exact this.2
  ·obtain⟨i,hi,rfl⟩:=Gm.1 hv;have:=h i (ES.2 hi);unfold gX at this;rw[hva i hi hi,EL]at this;exact this.1
 ·rintro⟨h1,h2⟩ i hi;have hi:=ES.1 hi;unfold gX;rw[hva i hi hi,hca i (by omega),EL];exact⟨h2 _ (EA _),h1 _ (EA _)⟩
theorem vF (d:aa)(c:Con)(hvl:c.vars.length<=1048576)(hkl:c.coefs.length<=1048576)(hrl:c.rows.length<=1048576)(hr: ∀r∈c.rows,r.length*8<=140737488355328)(hv: ∀v∈c.vars,0<=v/\v.toNat<d.length)(hb:c.kind=4->0<=c.b/\c.b.toNat<d.length)(hx:zf d):Spec Tryz.prog 130 false [ao d,.agg (cC c)] [.val (.bool (rightR d c))]:=by
 refine Spec.body Tryz.func130 Y Y Y λw0 Z0=> ?_;refine T.seq ?_;refine T.r ?_
 repeat' first|refine J.e Y Y Y Y ?_|refine J.skip Y Y Y ?_|refine J.bx Y Y Y Y Y Y ?_
 refine J.nil ?_;refine T.sub (Rel.unbx (s:=2) (λb h=>h) Y Y) ?_;refine T.sub (Rel.fp (s:=2) Y) ?_;refine .B ?_;have hsum:=rR c hvl hkl;have hheld:=xL c hvl hkl;have hplain:=vG c;have hall:=rW c.vars hvl;have hrow:=qJ (p:=λr=> !em c r) (f:=176) [.ptr (cC c)] c.rows (λr h=>uV c r (hr r h)) (by omega);rw[<-GI]at hrow;have hunit:=eM (p:=λv=> !(decide (v=1)||decide (v= -1))) (f:=179) [] c.coefs (λv _=>uU v) (by omega);rw[<-GI]at hunit;have htr:=uW d c.vars (by omega) hv hx;have hbm:=jI c.vars c.b (by omega);refine J.g Y Y Y (λh1=> ?_) (λh1=> ?_)
 ·have h1: ¬c.kind=2:=h1;refine .B ?_;refine T.cd Y (λh2=> ?_) (λh2=> ?_)
  ·have h2:0<c.rows.length:=(by simp at h2;omega);have e:rightR d c=false:=by
    have:noneR c=false:=(by unfold noneR;rw[EE (by omega)]);unfold rightR;rw[E4 h1,this]
    repeat' split
    all_goals simp
   rw[e];refine .B ?_;exact r1
  ·have hn:noneR c=true:=(by unfold noneR;simp at h2⊢;omega);refine .B ?_;refine T.cd Y (λhk0=> ?_) (λhk0=> ?_)
   ·have hk0:c.kind=0:=hk0;have e:rightR d c=((sumR c&&opR c)&&decide (c.b=0)):=(by unfold rightR;rw[E6 hk0,hn,Fe]);rw[e];generalize (sumR c&&opR c)=so at*;refine .B ?_;refine .C hheld ?_;cases so
    ·refine .B ?_;exact r1
    ·refine .B ?_;exact r1
   ·have hk0: ¬c.kind=0:=hk0;refine .B ?_;refine T.cd Y (λhk1=> ?_) (λhk1=> ?_)
    ·have hk1:c.kind=1:=hk1;have e:rightR d c=(plainR c&&(decide (0<c.vars.length)&&decide c.vars.Nodup)):=(by unfold rightR;rw[E4 hk0,E6 hk1,hn,Fe];rfl);rw[e];generalize plainR c=pr at*;generalize decide c.vars.Nodup=nd at*;refine .B ?_;refine .C hplain ?_;cases pr
     ·refine .B ?_;exact r1
     ·refine .B ?_;refine J.g Y Y Y (λh3=> ?_) (λh3=> ?_)
      ·rw[EF (show 0<c.vars.length by have h:=h3;rw[EB]at h;omega)];refine .B ?_;refine .D hall ?_;exact r1
      ·rw[EE (show¬0<c.vars.length by have h:=h3;rw[EB]at h;omega)];refine .B ?_;exact r1
    ·have hk1: ¬c.kind=1:=hk1;refine .B ?_;refine T.cf2 Y (EE h1) ?_;refine .B ?_;refine T.cd Y (λhk3=> ?_) (λhk3=> ?_)
     ·have hk3:c.kind=3:=hk3;have e:rightR d c=(plainR c&&(decide (3<=c.vars.length)&&decide c.vars.Nodup)):=by
       unfold rightR;rw[E4 hk0,E4 hk1,E4 h1,E6 hk3,hn,Fe];unfold manyR;generalize plainR c=pr;generalize decide c.vars.Nodup=nd;by_cases h:3<=c.vars.length;·rw[EF h,EF (show 0<c.vars.length by omega)];simp
       ·rw[EE h];simp
      rw[e];generalize plainR c=pr at*;generalize decide c.vars.Nodup=nd at*;refine .B ?_;refine .C hplain ?_;cases pr
      ·refine .B ?_;exact r1
      ·refine .B ?_;refine J.g Y Y Y (λh3=> ?_) (λh3=> ?_)
       ·rw[EF (show 3<=c.vars.length by have h:=h3;rw[EB]at h;omega)];refine .B ?_;refine .D hall ?_;exact r1
       ·rw[EE (show¬3<=c.vars.length by have h:=h3;rw[EB]at h;omega)];refine .B ?_;exact r1
     ·have hk3: ¬c.kind=3:=hk3;refine .B ?_;refine T.cd Y (λhk4=> ?_) (λhk4=> ?_)
      ·have hk4:c.kind=4:=hk4;obtain⟨hb0,hb1⟩:=hb hk4;have hy:d[c.b.toNat]? =some (domAt d c.b):=(by unfold domAt;rw[E0,E5 hb1];rfl);have hm:=EC hy;have ht:=nU (domAt d c.b) (hx _ hm).1 (hx _ hm).2;have e:rightR d c=((sumR c&&opR c)&&truthR (domAt d c.b)&& !decide (c.b∈c.vars)):=(by unfold rightR;rw[E4 hk0,E4 hk1,E4 h1,E4 hk3,E6 hk4,hn,Fe]);rw[e];generalize (sumR c&&opR c)=so at*;generalize truthR (domAt d c.b)=tr at*;refine .B ?_;refine .C hheld ?_;cases so
       ·refine .B ?_;exact r1
       ·refine .B ?_;refine J.i Y Y Y Y Y Y Y Y Y (r:=cD (domAt d c.b)) hb0 (by rw[EJ,hy];rfl) Y ?_;refine .B ?_;refine .C ht ?_;cases tr
        ·refine .B ?_;exact r1
        ·refine .B ?_;refine .D hbm ?_;exact r1
      ·have hk4: ¬c.kind=4:=hk4;refine .B ?_;refine T.cd Y (λhk5=> ?_) (λhk5=> ?_)
       ·have hk5:c.kind=5:=hk5;have e:rightR d c=(bareR c&&(sumR c&&gW d c)):=(by unfold rightR;rw[E4 hk0,E4 hk1,E4 h1,E4 hk3,E4 hk4,E6 hk5,hn,Fe,Bool.and_assoc]);rw[e];refine .B ?_;refine .C hsum ?_;cases hs:sumR c
        ·refine .B ?_;exact⟨_,.v Y Y (by rw[GM,HG]) (λ_=>rfl) .nil⟩
        ·have hlen:c.vars.length=c.coefs.length:=(by unfold sumR at hs;simp at hs;omega);rw[zi d c hlen];generalize (c.coefs.all λk=>decide (k=1)||decide (k= -1))=uc at*;generalize (c.vars.all λv=>truthR (domAt d v))=tv at*;refine .B ?_;refine J.g Y Y Y (λh4=> ?_) (λh4=> ?_)
         ·have h4:c.op=0:=h4;refine .B ?_;refine J.g Y Y Y (λh5=> ?_) (λh5=> ?_)
          ·have h5:c.rhs=0:=h5;refine .B ?_;refine J.g Y Y Y (λh6=> ?_) (λh6=> ?_)
           ·have h6:c.b=0:=h6;have e:bareR c=true:=(by unfold bareR;rw[EF h4,EF h5,EF h6];rfl);rw[e];refine .B ?_;refine .C hunit ?_;cases uc
            ·refine .B ?_;exact r1
            ·refine .B ?_;refine .D htr ?_;exact r1
           ·have h6: ¬c.b=0:=h6;have e:bareR c=false:=(by unfold bareR;rw[EE h6,HG]);rw[e];refine .B ?_;exact r1
          ·have h5: ¬c.rhs=0:=h5;have e:bareR c=false:=(by unfold bareR;rw[EE h5,HG,GM]);rw[e];refine .B ?_;exact r1
         ·have h4: ¬c.op=0:=h4;have e:bareR c=false:=(by unfold bareR;rw[EE h4,GM,GM]);rw[e];refine .B ?_;exact r1
       ·have hk5: ¬c.kind=5:=hk5;have e:rightR d c=(plainR c&&(decide (2<=c.vars.length)&&decide ((c.vars.length:Int).tmod 2=0))):=by
         unfold rightR;rw[E4 hk0,E4 hk1,E4 h1,E4 hk3,E4 hk4,E4 hk5,hn,Fe,Bool.and_assoc];congr 2;rw[decide_eq_decide,Ht (by omega)];omega
        rw[e];generalize plainR c=pr at*;refine .B ?_;refine .C hplain ?_;cases pr
        ·refine .B ?_;exact r1
        ·refine .B ?_;refine J.g Y Y Y (λh3=> ?_) (λh3=> ?_)
         ·rw[EF (show 2<=c.vars.length by have h:=h3;rw[EB]at h;omega)];refine .B ?_;exact⟨_,.v Y Y (by simp) (λ_=>rfl) .nil⟩
         ·rw[EE (show¬2<=c.vars.length by have h:=h3;rw[EB]at h;omega)];refine .B ?_;exact r1
 ·have hk2:c.kind=2:=(by have h1: ¬(c.kind≠2):=h1;omega);refine .B ?_;refine T.cf Y ?_;refine .B ?_;refine T.cf2 Y (EE (by omega)) ?_;refine .B ?_;refine T.cf2 Y (EE (by omega)) ?_;refine .B ?_;refine T.ct2 Y (EF hk2) ?_;refine T.sub (Rel.unbx (s:=3) (λb h=>h) Y Y) ?_;refine T.sub (Rel.fp (s:=3) Y) ?_;have e:rightR d c=(plainR c&&(decide (0<c.vars.length)&&(decide c.vars.Nodup&&(decide (c.rows.length<=1024)&&c.rows.all (em c))))):=by
   unfold rightR manyR kF;rw[E4 (by omega),E4 (by omega),E6 hk2];generalize plainR c=a1;generalize decide (0<c.vars.length)=a2;generalize decide c.vars.Nodup=a3;generalize decide (c.rows.length<=1024)=a4;generalize c.rows.all (em c)=a5;cases a1<;>cases a2<;>cases a3<;>cases a4<;>cases a5<;>rfl
  rw[e];generalize plainR c=pr at*;generalize decide c.vars.Nodup=nd at*;generalize c.rows.all (em c)=ra at*;refine .B ?_;refine .C hplain ?_;cases pr
  ·refine .B ?_;exact r1
  ·refine .B ?_;refine J.g Y Y Y (λh3=> ?_) (λh3=> ?_)
   ·rw[EF (show 0<c.vars.length by have h:=h3;rw[EB]at h;omega)];refine .B ?_;refine .C hall ?_;cases nd
    ·refine .B ?_;exact r1
    ·refine .B ?_;refine J.g Y Y Y (λh4=> ?_) (λh4=> ?_)
     ·rw[EF (show c.rows.length<=1024 by have h:=h4;rw[EB]at h;omega)];refine .B ?_;refine .D hrow ?_;exact⟨_,.v Y Y (by rw[IC];rfl) (λ_=>rfl) .nil⟩
     ·rw[EE (show¬c.rows.length<=1024 by have h:=h4;rw[EB]at h;omega)];refine .B ?_;exact r1
   ·rw[EE (show¬0<c.vars.length by have h:=h3;rw[EB]at h;omega)];refine .B ?_;exact r1
theorem sO (d:aa)(v:Int):Spec Tryz.prog 128 false [.int .i64 v,.ptr [ao d]] [.val (.bool (!inD d v))]:=by
 refine Spec.body Tryz.func128 Y Y Y λw0 Z0=> ?_;have e0:(!inD d v)=(decide (v<0)||decide (v>=((d.map cD).length:Int))):=(by unfold inD;rw[IC,EB]);rw[e0];refine .B ?_;refine J.g Y Y Y (λh1=> ?_) (λh1=> ?_)
 ·rw[EF (show v<0 from h1),Bool.true_or];refine .B ?_;exact r1
 ·rw[EE (show¬v<0 from h1),I2];refine .B ?_;exact r1
structure ConI (c:Con):Prop where
 vl:c.vars.length<=1024
 kl:c.coefs.length<=1024
 rl:c.rows.length<=1024
 rr: ∀r∈c.rows,r.length<=1024
 ki:eN c.coefs c.rhs=false∨∀k∈c.coefs,-9223372036854775808<=k/\k<=9223372036854775807
theorem AL (d:aa)(c:Con):(usesR c).all (inD d)=(c.vars.all (inD d)&&(!decide (c.kind=4)||inD d c.b)):=by
 rw[GQ,EN];constructor
 ·intro h;rw[EL,EN];refine⟨λv hv=>h v (uses_mem.2 (.inl hv)),?_⟩;by_cases hk:c.kind=4;·rw[h c.b (uses_mem.2 (.inr ⟨hk,rfl⟩)),Bool.or_true]
  ·rw[EE hk];rfl
 ·intro h v hv;rw[EL,EN]at h;rcases uses_mem.1 hv with h1|⟨hk,rfl⟩;·exact h.1 v h1
  ·have:=h.2;rwa[EF hk]at this
theorem rV (d:aa)(c:Con)(hc:ConI c)(hx:zf d):Spec Tryz.prog 100 false [ao d,.agg (cC c)] [.val (.int .i64 (conR d c))]:=by
 refine Spec.body Tryz.func100 Y Y Y λw0 Z0=> ?_;have hvl:=hc.vl;have hkl:=hc.kl;have hrl:=hc.rl;have haway:=eM (p:=λv=> !inD d v) (f:=128) [.ptr [ao d]] c.vars (λv _=>sO d v) (by omega);rw[<-GI]at haway;have hawayb:=sO d c.b;have hright:=λ(h1: ∀v∈c.vars,0<=v/\v.toNat<d.length) h2=>vF d c (by omega) (by omega) (by omega) (λr hr=>by have:=hc.rr r hr;omega) h1 h2 hx;have hbig:(∀k∈c.coefs,-9223372036854775808<=k/\k<=9223372036854775807)->_:=λh=>zU c.coefs c.rhs (by omega) h;have hki:=λh:eN c.coefs c.rhs=false=>λk hk=>show -9223372036854775808<=k/\k<=9223372036854775807 by
  have h1:=(qM h).1 k hk;unfold aL at h1;omega
 have hbig:=hbig (hc.ki.elim hki id);refine T.seq ?_;refine T.r ?_
 repeat' first|refine J.e Y Y Y Y ?_|refine J.skip Y Y Y ?_|refine J.bx Y Y Y Y Y Y ?_
 refine J.nil ?_;refine T.sub (Rel.unbx (s:=2) (λb h=>h) Y Y) ?_;refine T.sub (Rel.fp (s:=2) Y) ?_;generalize hR:conR d c=R;unfold conR at hR;refine .B ?_;have bad1:c.kind<0∨6<c.kind->R=44:=λh=>(by rw[E6 h]at hR;exact hR.symm);refine J.g Y Y Y (λh1=> ?_) (λh1=> ?_)
 ·rw[bad1 (.inl h1)];refine .B ?_;refine T.ct Y ?_;refine .B ?_;exact r1
 ·refine .B ?_;refine T.cd Y (λh2=> ?_) (λh2=> ?_)
  ·rw[bad1 (.inr (by have h2:c.kind>=7:=h2;omega))];refine .B ?_;exact r1
  ·rw[E4 (by have h1: ¬c.kind<0:=h1;have h2: ¬c.kind>=7:=h2;omega),AL]at hR;refine .B ?_;refine .C haway ?_;cases ha:c.vars.all (inD d)
   ·rw[ha,GM,E6 Y]at hR;subst hR;refine .B ?_;refine T.ct Y ?_;refine .B ?_;exact r1
   ·rw[ha,Fe]at hR;have hva: ∀v∈c.vars,0<=v/\v.toNat<d.length:=λv hv=>mr.1 (EN.1 ha v hv);refine .B ?_;refine J.g Y Y Y (λh3=> ?_) (λh3=> ?_)
    ·have h3:c.kind=4:=h3;rw[EF h3]at hR;refine .B ?_;refine .C hawayb ?_;cases hbd:inD d c.b
     ·rw[hbd]at hR;have hR:(43:Int)=R:=hR;subst hR;refine .B ?_;refine T.ct Y ?_;refine .B ?_;exact r1
     ·rw[hbd]at hR;have hR:(if rightR d c=false then(44:Int)else if eN c.coefs c.rhs=true then 45 else 0)=R:=hR;have hright:=hright hva λ_=>mr.1 hbd;generalize rightR d c=rr at*;refine .B ?_;refine T.cf Y ?_;refine .B ?_;refine .C hright ?_;cases rr
      ·subst hR;refine .B ?_;refine T.ct Y ?_;refine .B ?_;exact r1
      ·rw[E4 (by simp)]at hR;refine .B ?_;refine T.cf Y ?_;refine .B ?_;refine .D hbig ?_;refine T.cond Y (λh4=> ?_) (λh4=> ?_)
       ·have h4:eN c.coefs c.rhs=true:=h4;rw[E6 h4]at hR;subst hR;refine .B ?_;exact r1
       ·have h4:eN c.coefs c.rhs=false:=h4;rw[E4 (by simp[h4])]at hR;subst hR;refine .B ?_;exact r1
    ·have h3: ¬c.kind=4:=h3;rw[EE h3]at hR;have hR:(if rightR d c=false then(44:Int)else if eN c.coefs c.rhs=true then 45 else 0)=R:=hR;have hright:=hright hva λh=>EX h h3;generalize rightR d c=rr at*;refine .B ?_;refine T.cf Y ?_;refine .B ?_;refine .C hright ?_;cases rr
     ·subst hR;refine .B ?_;refine T.ct Y ?_;refine .B ?_;exact r1
     ·rw[E4 (by simp)]at hR;refine .B ?_;refine T.cf Y ?_;refine .B ?_;refine .D hbig ?_;refine T.cond Y (λh4=> ?_) (λh4=> ?_)
      ·have h4:eN c.coefs c.rhs=true:=h4;rw[E6 h4]at hR;subst hR;refine .B ?_;exact r1
      ·have h4:eN c.coefs c.rhs=false:=h4;rw[E4 (by simp[h4])]at hR;subst hR;refine .B ?_;exact r1
def DS (c:Int):Bool:=decide (c>=97)&&decide (c<=122)
def badC (i:Nat)(c:Int):Bool:= !DS c&&(decide ((i:Int)=0)||(decide (c≠95)&&(decide (c<48)||decide (c > 57))))
theorem Ch {s:ByteArray}{i:Nat}(h:i<s.size):badC i ((Utf8.decode s i).1:Int)=badI i (byteI s i)/\(badI i (byteI s i)=false->(Utf8.decode s i).2=1):=by
 have hb:s.get! i=byteI s i:=by
  unfold byteI;rw[getElem?_pos s i h];show s.data[i]! =_;rw[getElem!_pos s.data i h];rfl
 by_cases hlt:(s.get! i).toNat<128
 ·rw[tS hlt,hb];exact⟨rfl,λ_=>rfl⟩
 ·have hf:=x9 (I6 hlt);rw[hb]at hlt;generalize (Utf8.decode s i).1=c at*;have e1:badI i (byteI s i)=true:=by
   simp only[badI,letB];have: ¬((byteI s i).toNat:Int)<=122:=(by omega);have:((byteI s i).toNat:Int) > 57:=(by omega);have:((byteI s i).toNat:Int)≠95:=(by omega);simp[*]
  have e2:badC i c=true:=by
   simp only[badC,DS];have: ¬(c:Int)<=122:=(by omega);have:(c:Int) > 57:=(by omega);have:(c:Int)≠95:=(by omega);simp[*]
  rw[e1,e2];exact⟨rfl,λh=>by cases h⟩
theorem xJ (s:ByteArray)(hs:s.size<=140737488355328):Spec Tryz.prog 98 false [.str s] [.val (.bool (gu s))]:=by
 refine Spec.body Tryz.func98 Y Y Y λw0 Z0=> ?_;generalize hR:gu s=R;refine .B ?_;cases h0:(s.toList==(⟨#[]⟩:ByteArray).toList)
 ·refine .B ?_;refine T.cd Y (λh1=> ?_) (λh1=> ?_)
  ·have:R=false:=(by rw[<-hR];unfold gu;rw[h0];simp;omega);subst this;refine .B ?_;exact r1
  ·refine .B ?_;refine J.rgs Y Y Y Y Y Y ?_;refine .B ?_;refine T.K (T.ind (λi:Nat=>⟨[(14,.ref 0)],[(0,some (.sit s i))],1⟩) (λi=>i<=s.size/\∀j,j<i->badI j (byteI s j)=false) (λi=>s.size-i) 0 ⟨Er _,λj hj=>EX hj (FK j)⟩ (λ_ _ h=>h) ?_);rintro i ⟨hi,hb⟩ ih;refine .B ?_;refine J.nxs Y Y Y Y Y Y (λh2=> ?_) (λh2=> ?_)
   ·have hyes:R=true:=by
     rw[<-hR];unfold gu;rw[h0];have:((List.range s.size).all λi=> !badI i (byteI s i))=true:=by
      rw[EN];intro j hj;rw[hb j (by have:=ES.1 hj;omega)];rfl
     rw[this];simp;omega
    subst hyes;refine .B ?_;refine T.cf Y ?_;refine .B ?_;exact r1
   ·obtain⟨hbd,hw⟩:=Ch h2;have hno:badI i (byteI s i)=true->R=false:=λh=>by
     rw[<-hR];unfold gu;have:((List.range s.size).all λi=> !badI i (byteI s i))=false:=by
      rw[H8];exact⟨i,ES.2 h2,by rw[h];simp⟩
     rw[this];rfl
    have ih1:=λh:badI i (byteI s i)=false=>ih (i+1) ⟨by omega,λj hj=>by
     by_cases e:j=i;·rw[e];exact h
     ·exact hb j (by omega)⟩ (by omega)
    rw[<-hbd]at hw hno ih1;obtain⟨c,hc⟩: ∃c,c=(Utf8.decode s i).1:=⟨_,rfl⟩;obtain⟨k,hk⟩: ∃k,k=(Utf8.decode s i).2:=⟨_,rfl⟩;rw[<-hc]at hw hno ih1;rw[<-hk]at hw;rw[<-hc,<-hk];have hbc:badC i c=(!(decide ((c:Int)>=97)&&decide ((c:Int)<=122))&&(decide ((i:Int)=0)||(decide ((c:Int)≠95)&&(decide ((c:Int)<48)||decide ((c:Int) > 57))))):=rfl;generalize badC i c=bad at*;refine .B ?_;refine T.ct Y ?_;refine .B ?_;cases h1:decide ((c:Int)>=97)
    ·skip
     refine .B ?_;cases h3:decide ((i:Int)=0)
     ·refine .B ?_;cases h4:decide ((c:Int)≠95)
      ·skip
       refine .B ?_;refine T.cf Y ?_;refine .B ?_;have hb0:bad=false:=(by rw[hbc,h1,h3,h4];rfl);rw[hw hb0];exact T.K (ih1 hb0)
      ·refine .B ?_;cases h5:decide ((c:Int)<48)
       ·refine .B ?_;cases h6:decide ((c:Int) > 57)
        ·skip
         refine .B ?_;refine T.cf Y ?_;refine .B ?_;have hb0:bad=false:=(by rw[hbc,h1,h3,h4,h5,h6];rfl);rw[hw hb0];exact T.K (ih1 hb0)
        ·skip
         refine .B ?_;refine T.ct Y ?_;refine .B ?_;rw[hno (by rw[hbc,h1,h3,h4,h5,h6];rfl)];exact r1
       ·skip
        refine .B ?_;refine T.ct Y ?_;refine .B ?_;rw[hno (by rw[hbc,h1,h3,h4,h5];rfl)];exact r1
     ·skip
      refine .B ?_;refine T.ct Y ?_;refine .B ?_;rw[hno (by rw[hbc,h1,h3];rfl)];exact r1
    ·refine .B ?_;cases h2:decide ((c:Int)<=122)
     ·skip
      refine .B ?_;cases h3:decide ((i:Int)=0)
      ·refine .B ?_;cases h4:decide ((c:Int)≠95)
       ·skip
        refine .B ?_;refine T.cf Y ?_;refine .B ?_;have hb0:bad=false:=(by rw[hbc,h1,h2,h3,h4];rfl);rw[hw hb0];exact T.K (ih1 hb0)
       ·refine .B ?_;cases h5:decide ((c:Int)<48)
        ·refine .B ?_;cases h6:decide ((c:Int) > 57)
         ·skip
          refine .B ?_;refine T.cf Y ?_;refine .B ?_;have hb0:bad=false:=(by rw[hbc,h1,h2,h3,h4,h5,h6];rfl);rw[hw hb0];exact T.K (ih1 hb0)
         ·skip
          refine .B ?_;refine T.ct Y ?_;refine .B ?_;rw[hno (by rw[hbc,h1,h2,h3,h4,h5,h6];rfl)];exact r1
        ·skip
         refine .B ?_;refine T.ct Y ?_;refine .B ?_;rw[hno (by rw[hbc,h1,h2,h3,h4,h5];rfl)];exact r1
      ·skip
       refine .B ?_;refine T.ct Y ?_;refine .B ?_;rw[hno (by rw[hbc,h1,h2,h3];rfl)];exact r1
     ·skip
      refine .B ?_;refine T.cf Y ?_;refine .B ?_;have hb0:bad=false:=(by rw[hbc,h1,h2];rfl);rw[hw hb0];exact T.K (ih1 hb0)
 ·have:R=false:=(by rw[<-hR];unfold gu;rw[h0];simp);subst this;refine .B ?_;refine T.ct Y ?_;refine .B ?_;exact r1
theorem Aq {cons:List Con}{d:aa}(gd:GoodD d.length d)(ht: ∀c∈cons,Takes leD (GoodD d.length) (aX c)):AllEnds cons d (fL cons d):=by
 have key: ∀(k:Nat) (a:aa),Come leD (GoodD d.length) aX cons d a->weight a<k->∃R,AllEnds cons d R:=by
  intro k
  induction k with
  |zero=>intro a _ h;omega
  |succ k ih=>
   intro a hc hk;by_cases hs:fN aX cons a;·exact⟨some a,hc,hs⟩
   ·have: ∃c,c∈cons/\aX c a≠some a:=F9 λh=>hs λc hm=>F9 λe=>h ⟨c,hm,e⟩;obtain⟨c,hm,hne⟩:=this;cases he:aX c a with
    |none=>exact⟨none,hc.none hm (ht c hm) he⟩
    |some b=>
     obtain⟨g1,g2⟩:=(ht c hm).less a b hc.fine he;have:=(f4 g1 hc.fine g2).2 (λe=>hne (by rw[he,e]));exact ih b (hc.step (aW _) hm (ht c hm) he) (by omega)
 obtain⟨R,hR⟩:=key _ d (Come.refl (aW _) gd) (Fd _);rw[<-eP hR];exact hR
theorem oZ: ∀{cons:List Con},(∀c∈cons,c.vars.length<=1024)->(cons.map λc=>(usesR c).length).sum<=cons.length*1025
 | [],_=>by simp
 |c::cons,h=>by
  have h1:=oZ λc hc=>h c (.tail _ hc);have h2:(usesR c).length<=1025:=by
   have h1:=ej (if c.kind=4 then c.vars++[c.b]else c.vars);have h2:(if c.kind=4 then c.vars++[c.b]else c.vars).length<=c.vars.length+1:=(by split<;>simp);have:=h c (.head _);unfold usesR;omega
  simp only[Ek,FX,El];omega
theorem BR {e:aa}(hx: ∀x∈e,Fine x)(v:Int):aB (domAt e v):=by
 unfold domAt;by_cases hv:v.toNat<e.length
 ·rw[E0,E5 hv];exact(hx _ (EA hv)).ok
 ·rw[E0,FD (by omega)];exact⟨by simp,.nil⟩
theorem lj {n:Nat}{d out:aa}{c:Con}(hc:ConB c)(gd:GoodD n d)(hx: ∀x∈out,Fine x)(hle:leD out d)(h:RightC d c):RightC out c:=by
 rcases h with h|⟨hk,hs⟩;·exact .inl (zA hc gd (λv _=>BR hx v) hle h)
 ·have hl:=hle.1;refine .inr ⟨hk,⟨hs.fine.len,hs.fine.vl,λv hv=>by rw[hl];exact hs.fine.vin v hv,hs.fine.ck,hx,by rw[hl];exact hs.fine.dl⟩,hs.nod,hs.pos,hs.op,hs.big⟩
structure RunOk (d:aa)(cons:List Con):Prop where
 gd:GoodD d.length d
 con: ∀c∈cons,c.vars.length<=1024/\ConB c
 right: ∀c∈cons,RightC d c
 prod:prodD d<=1048576
 few:cons.length<=4096
theorem RunOk.step {d:aa}{cons:List Con}(h:RunOk d cons){c:Con}(hc:c∈cons):StepOK d.length (usesR c) (λg=>(c.kind=4->0<=g c.b/\g c.b<=1)->bL c (o9 d.length g)=true) (aX c):=vC h.gd (h.con c hc).2 (h.right c hc)
theorem RunOk.ends {d:aa}{cons:List Con}(h:RunOk d cons):AllEnds cons d (fL cons d):=Aq h.gd λc hc=>(h.step hc).takes
theorem RunOk.less {d e:aa}{cons:List Con}(h:RunOk d cons)(ge:GoodD d.length e)(hle:leD e d):RunOk e cons:=
 ⟨by rw[ge.len];exact ge,h.con,λc hc=>lj (h.con c hc).2 h.gd ge.few.fine hle (h.right c hc),Em (zH ge h.gd hle) h.prod,h.few⟩
theorem RunOk.sub {d:aa}{cons l:List Con}(h:RunOk d cons)(hs: ∀c∈l,c∈cons)(hf:l.length<=4096):RunOk d l:=⟨h.gd,λc hc=>h.con c (hs c hc),λc hc=>h.right c (hs c hc),h.prod,hf⟩
theorem Ds {d e:aa}{cons:List Con}(h:RunOk d cons)(hx: ∀x∈e,Fine x/\(vals x).length<=4096)(hle:leD e d):Spec Tryz.prog 67 false [ao e,bP cons] (aJ (fL cons e)):=by
 have hel:=hle.1;have hd:=h.gd.few.small;have hfw:=h.few;have hu:=oZ λc hc=>(h.con c hc).1;have hok:ConsOk e cons:=⟨λc hc=>(h.con c hc).2,λc hc=>lj (h.con c hc).2 h.gd (λx hm=>(hx x hm).1) hle (h.right c hc),by omega,by omega⟩;exact sH e cons (by omega) hx hok λc hc out go hl=>by
  have ho:=h.less (by rw[<-hel];exact go) ((aW 0).trans _ _ _ hl hle);exact Dc ho.gd (ho.con c hc).2 (ho.right c hc) ho.prod
theorem AG {d e:aa}{cons:List Con}(h:RunOk d cons)(hx: ∀x∈e,Fine x/\(vals x).length<=4096)(hle:leD e d):
  Spec Tryz.prog 67 false [ao e,bP cons] (aJ (fL cons e))/\Spec Tryz.prog 75 false [ao e,bP cons] (c5 (fL cons e)):=by
 have hel:=hle.1;have hd:=h.gd.few.small;have hfw:=h.few;have hu:=oZ λc hc=>(h.con c hc).1;have hok:ConsOk e cons:=⟨λc hc=>(h.con c hc).2,λc hc=>lj (h.con c hc).2 h.gd (λx hm=>(hx x hm).1) hle (h.right c hc),by omega,by omega⟩;have hg: ∀c∈cons,∀out,GoodD e.length out->leD out e->_:=λc hc out go hl=>by
  have ho:=h.less (by rw[<-hel];exact go) ((aW 0).trans _ _ _ hl hle);exact zN ho.gd (ho.con c hc).2 (ho.right c hc) ho.prod
 exact⟨sH e cons (by omega) hx hok λc hc out go hl=>(hg c hc out go hl).1,zE e cons (by omega) hx hok λc hc out go hl=>(hg c hc out go hl).2⟩
theorem GoodD.fx {n:Nat}{d:aa}(h:GoodD n d): ∀x∈d,Fine x/\(vals x).length<=4096:=λx hx=>⟨h.few.fine x hx,h.few.few x hx⟩
theorem leD.rfl' {d:aa}:leD d d:=(aW 0).refl d
theorem zr {n:Nat}{d:aa}(gd:GoodD n d){s:List Int}(h:bY d=some s):s.length=n/\∀u:Int,0<=u->u.toNat<n->vals (domAt d u)=[atR s u]:=by
 unfold bY at h;split at h
 ·rename_i h1;cases h;refine⟨by simp[gd.len],λu h0 hu=> ?_⟩;have hl:u.toNat<d.length:=(by rw[gd.len];exact hu);have h2:qV d[u.toNat]=true:=EN.1 h1 _ (EA hl);have h2:(vals d[u.toNat]).length=1:=FV h2;unfold domAt atR;rw[E4 (by omega),E0,E0,EJ,E5 hl];show vals d[u.toNat]=[av d[u.toNat]];obtain⟨x,hx⟩:=(j0 (gd.few.fine _ (EA hl)).ok).1 h2;rw[hx];simp[vals,cH,av]
 ·cases h
theorem RightM.run {b:Mod}(h:RightM b)(hp:prodD (domsM b)<=1048576):RunOk (domsM b) b.cons:=⟨h.good,λc hc=>⟨(h.b.cb c hc).1,h.con c hc⟩,λc hc=> .inl (h.right c hc),hp,by have:=h.b.cl;omega⟩
theorem Ci {d:aa}{cons:List Con}(h:RunOk d cons){out:aa}(ho:fL cons d=some out):GoodD d.length out/\leD out d/\fN aX cons out/\RunOk out cons/\fL cons out=some out:=by
 have he:=h.ends;rw[ho]at he;obtain⟨hc,hs⟩:=he;have hr:=h.less hc.fine hc.less;refine⟨hc.fine,hc.less,hs,hr,?_⟩;refine(eP (R:=some out) ?_).symm;exact⟨Come.refl (aW _) hr.gd,hs⟩
structure Srch (σ:Type) where
 nodes:Nat
 short:Bool
 over:Bool
 st:σ
def openV (l:aa):Nat:=l.findIdx λx=>decide (1<(vals x).length)
noncomputable def lookG {σ:Type}(left:Int)(con:σ->List Con)(fnd:σ->List Int->σ×Bool):Nat->aa->Srch σ->Srch σ
 |0,_,s=>s
 |n+1,d,s=>
  if left<=(s.nodes:Int)then { s with short:=true,over:=true } else
  match fL (con s.st) d with
  |none=> { s with nodes:=s.nodes+1 }
  |some l=>match bY l with
   |some a=> { s with nodes:=s.nodes+1,st:=(fnd s.st a).1,over:=(fnd s.st a).2 }
   |none=>(vals (l.getD (openV l) [])).foldl (λs x=>if s.over then s else lookG left con fnd n (l.set (openV l) [(x,x)]) s) { s with nodes:=s.nodes+1 }
theorem oH {n:Nat}{l:aa}(gl:GoodD n l)(h:bY l=none):openV l<l.length/\1<(vals (l.getD (openV l) [])).length/\∀i,i<openV l->(vals (l.getD i [])).length=1:=by
 have h1:l.all qV=false:=by
  unfold bY at h;split at h;·cases h
  ·rename_i h1;exact Bool.eq_false_iff.2 h1
 have h2: ∃x∈l,1<(vals x).length:=by
  obtain⟨x,hx,h2⟩:=H8.1 h1;refine⟨x,hx,?_⟩;have h3:=gl.one x hx;have h4:(vals x).length≠1:=λe=>h2 (EF e);omega
 obtain⟨x,hx,h2⟩:=h2;have h3:openV l<l.length:=List.findIdx_lt_length_of_exists ⟨x,hx,EF h2⟩;have hg: ∀i (hi:i<l.length),l.getD i []=l[i]:=λi hi=>(by rw[E0,E5 hi];rfl);refine⟨h3,?_,λi hi=> ?_⟩
 ·rw[hg _ h3];exact FV (List.findIdx_getElem (p:=λx=>decide (1<(vals x).length)) (w:=h3))
 ·have hil:i<l.length:=(by omega);rw[hg i hil];have h4:=List.not_of_lt_findIdx (p:=λx=>decide (1<(vals x).length)) (xs:=l) hi;have h5:=gl.one _ (EA hil);simp only[decide_eq_false_iff_not,Hc]at h4;omega
theorem mG {n:Nat}{l:aa}{v:Nat}(gl:GoodD n l)(hv:v<l.length){x:Int}(hx:x∈vals (l.getD v [])):GoodD n (l.set v [(x,x)])/\leD (l.set v [(x,x)]) l/\(1<(vals (l.getD v [])).length->weight (l.set v [(x,x)])<weight l):=by
 have hg:l.getD v []=l[v]:=(by rw[E0,E5 hv];rfl);have hm:=EA hv;have hr:=(gl.few.fine _ hm).val x (by rw[<-hg];exact hx);refine⟨⟨gl.few.one v hr,by rw[FA];exact gl.len,λhn=> ?_⟩,⟨by simp,λu y h0 hy=> ?_⟩,λh1=> ?_⟩
 ·rcases EV hn with h|h;·exact gl.some' h
  ·cases h
 ·by_cases hu:u.toNat=v
  ·unfold domAt at hy⊢;rw[E0,hu,F2 hv]at hy;rw[hu];simp[vals,cH]at hy;rw[hy];exact hx
  ·unfold domAt at hy⊢;rw[E0,Et (Ne.symm hu)]at hy;rw[E0];exact hy
 ·have:=iB (d:=l) (i:=v) (y:=l[v]) [(x,x)] (E5 hv);have e:(vals [(x,x)]).length=1:=(by simp[vals,cH]);rw[hg]at h1;omega
inductive Reach {σ:Type}(fnd:σ->List Int->σ×Bool)(S:σ->List Int->Prop):σ->σ->Prop
 |refl (s:σ):Reach fnd S s s
 |step {s t:σ} {a:List Int}:Reach fnd S s t->S t a->Reach fnd S s (fnd t a).1
theorem Reach.trans {σ:Type}{fnd:σ->List Int->σ×Bool}{S:σ->List Int->Prop}{r s t:σ}(h:Reach fnd S r s)(k:Reach fnd S s t):Reach fnd S r t:=by
 induction k with
 |refl=>exact h
 |step _ hs ih=>exact ih.step hs
theorem Reach.keep {σ:Type}{fnd:σ->List Int->σ×Bool}{S:σ->List Int->Prop}{s t:σ}{P:σ->Prop}(h:Reach fnd S s t)(hs:P s)(hstep: ∀u a,P u->S u a->P (fnd u a).1):P t:=by
 induction h with
 |refl=>exact hs
 |step _ hs2 ih=>exact hstep _ _ ih hs2
def wS {σ:Type}(d0:aa)(con:σ->List Con)(t:σ)(a:List Int):Prop:= ∃e,GoodD d0.length e/\leD e d0/\fN aX (con t) e/\bY e=some a
structure SrchOK {σ:Type}(d0:aa)(con:σ->List Con)(fnd:σ->List Int->σ×Bool)(I:σ->Prop):Prop where
 run: ∀st,I st->RunOk d0 (con st)
 step: ∀st a,I st->wS d0 con st a->I (fnd st a).1
theorem km {α β:Type}{f:β->α->β}{Q:β->Prop}: ∀{l:List α},(∀s x,x∈l->Q s->Q (f s x))->∀{s:β},Q s->Q (l.foldl f s)
 | [],_,s,h=>h
 |x::l,hf,s,h=>km (λs y hy=>hf s y (.tail _ hy)) (hf s x (.head _) h)
def kK (k:Nat):Nat:=if k=1 then 1 else k+1
def nodeF (d:aa):Nat:=bU (d.map λx=>kK (vals x).length)
theorem vf {l:List Nat}{v:Nat}(hv:v<l.length)(y:Nat):bU (l.set v y)=bU (l.take v)*(y*bU (l.drop (v+1)))/\bU l=bU (l.take v)*(l[v]*bU (l.drop (v+1))):=by
 constructor;·rw[List.set_eq_take_append_cons_drop,E6 hv,ep,bU]
 ·conv=>lhs;rw[<-GA v l,EP hv]
  rw[ep,bU]
theorem pK: ∀{l m:List Nat},l.length=m.length->(∀(i:Nat) x y,l[i]? =some x->m[i]? =some y->x<=y)->bU l<=bU m
 | [],[],_,_=>EO _
 |x::l,y::m,hl,h=>Hu (h 0 x y rfl rfl) (pK (by simpa using hl) λi u v hu hv=>h (i+1) u v hu hv)
 | [],_::_,hl,_=>by simp at hl
 |_::_,[],hl,_=>by simp at hl
theorem xG {n:Nat}{a b:aa}(ga:GoodD n a)(gb:GoodD n b)(h:leD a b):nodeF a<=nodeF b:=by
 refine pK (by simp[h.1]) λi x y hx hy=> ?_;obtain⟨x',hx',rfl⟩: ∃x',a[i]? =some x'/\kK (vals x').length=x:=(by simpa using hx);obtain⟨y',hy',rfl⟩: ∃y',b[i]? =some y'/\kK (vals y').length=y:=(by simpa using hy);have hs:=(h.sub ga gb).2 i x' y' hx' hy';have hm:=EC hx';have h1:=ga.one x' hm;have h2:=cq (aG (ga.few.fine x' hm).ok) hs;unfold kK;split<;>split<;>omega
theorem rP {n:Nat}{d:aa}(gd:GoodD n d):1<=nodeF d:=rH λx hx=>by
 obtain⟨y,hy,rfl⟩:=EH.1 hx;unfold kK;split<;>omega
theorem vD {n:Nat}{l:aa}{v:Nat}(gl:GoodD n l)(hv:v<l.length)(h1:1<(vals (l.getD v [])).length)(x:Int):nodeF l=((vals (l.getD v [])).length+1)*nodeF (l.set v [(x,x)]):=by
 have hg:l.getD v []=l[v]:=(by rw[E0,E5 hv];rfl);rw[hg]at h1⊢;unfold nodeF;rw[Gy];have e1:kK (vals [(x,x)]).length=1:=(by simp[vals,cH,kK]);rw[e1];have hv2:v<(l.map λx=>kK (vals x).length).length:=(by simpa using hv);obtain⟨a,b⟩:=vf hv2 1;rw[a,b,GX];have e2:kK (vals l[v]).length=(vals l[v]).length+1:=(by unfold kK;rw[E4 (by omega)]);rw[e2,Nat.one_mul,Nat.mul_left_comm]
section
variable {σ:Type}{left:Int}{d0:aa}{con:σ->List Con}{fnd:σ->List Int->σ×Bool}{I:σ->Prop}
theorem oI (h:SrchOK d0 con fnd I){d:aa}(gd:GoodD d0.length d)(hle:leD d d0){st:σ}(hi:I st){l:aa}(hl:fL (con st) d=some l):GoodD d0.length l/\leD l d/\leD l d0/\fN aX (con st) l:=by
 have hr:=(h.run st hi).less gd hle;obtain⟨g1,g2,g3,_,_⟩:=Ci hr hl;rw[gd.len]at g1;exact⟨g1,g2,(aW 0).trans _ _ _ g2 hle,g3⟩
structure Goes (left:Int)(d0:aa)(con:σ->List Con)(fnd:σ->List Int->σ×Bool)(I:σ->Prop)(F:Nat)(s r:Srch σ):Prop where
 inv:I r.st
 reach:Reach fnd (wS d0 con) s.st r.st
 nodes:s.nodes<=r.nodes
 most:r.nodes=s.nodes∨(r.nodes:Int)<=left
 keep:s.short=true->r.short=true
 now:s.short=false->r.short=true->r.over=true/\left<s.nodes+F/\left<=r.nodes
 few:r.nodes<=s.nodes+F
theorem iQ (h:SrchOK d0 con fnd I): ∀(n:Nat) (d:aa) (s:Srch σ),weight d<n->GoodD d0.length d->leD d d0->I s.st->Goes left d0 con fnd I (nodeF d) s (lookG left con fnd n d s)
 |0,d,s,hw,_,_,_=>by omega
 |n+1,d,s,hw,gd,hle,hi=>by
  have hF:=rP gd;rw[lookG];split
  ·rename_i hleft;exact⟨hi,.refl _,EO _,.inl Y,λ_=>rfl,λ_ _=>⟨rfl,by omega,hleft⟩,I7 _ _⟩
  ·rename_i hleft;split;·exact⟨hi,.refl _,Nat.le_succ _,.inr (by show((s.nodes+1:Nat):Int)<=left;omega),λh=>h,λh1 h2=>(by rw[h1]at h2;cases h2),by show s.nodes+1<=_;omega⟩
   ·rename_i l hl;obtain⟨gl,hld,hl0,hst⟩:=oI h gd hle hi hl;split
    ·rename_i a ha;have hf:wS d0 con s.st a:=⟨l,gl,hl0,hst,ha⟩;exact⟨h.step _ _ hi hf,.step (.refl _) hf,Nat.le_succ _,.inr (by show((s.nodes+1:Nat):Int)<=left;omega),λh=>h,λh1 h2=>(by rw[h1]at h2;cases h2),by show s.nodes+1<=_;omega⟩
    ·rename_i hno;obtain⟨hv,h1,_⟩:=oH gl hno;have hFm:=xG gl gd hld;generalize openV l=v at*;have hFc:=vD gl hv h1;obtain⟨x0,hx0⟩: ∃x,x∈vals (l.getD v []):=Hg (by omega);have hC: ∀x,nodeF (l.set v [(x,x)])=nodeF (l.set v [(x0,x0)]):=λx=>by
      have a:=hFc x;rw[hFc x0]at a;exact(Nat.eq_of_mul_eq_mul_left (by omega) a).symm
     have hF0:=hFc x0;have hpos:=rP (mG gl hv hx0).1;have hchild:=λx (hx:x∈vals (l.getD v []))=>mG gl hv hx;generalize hxs:vals (l.getD v [])=xs at*;generalize nodeF (l.set v [(x0,x0)])=C at*;have key: ∀(ys:List Int) (t:Srch σ),(∀y∈ys,y∈xs)->I t.st->Goes left d0 con fnd I (ys.length*C) t (ys.foldl (λs x=>if s.over=true then s else lookG left con fnd n (l.set v [(x,x)]) s) t):=by
      intro ys
      induction ys with
      |nil=>intro t _ ht;exact⟨ht,.refl _,EO _,.inl Y,λh=>h,λh1 h2=>(by rw[IF,h1]at h2;cases h2),by simp⟩
      |cons y ys ih=>
       intro t hys ht;rw[En];by_cases ho:t.over=true
       ·rw[E6 ho];obtain⟨a1,a2,a3,a4,a5,a6,a7⟩:=ih t (λz hz=>hys z (.tail _ hz)) ht;have e:(y::ys).length*C=ys.length*C+C:=(by rw[El,GJ]);exact⟨a1,a2,a3,a4,a5,λb1 b2=>by have:=a6 b1 b2;exact⟨this.1,by omega,this.2.2⟩,by omega⟩
       ·rw[E4 ho];have hy:=hys y (.head _);obtain⟨c1,c2,c3⟩:=hchild y hy;have hlc:leD (l.set v [(y,y)]) d0:=(aW 0).trans _ _ _ c2 hl0;have hlw:=(f4 gl gd hld).1;have g:=iQ h n (l.set v [(y,y)]) t (by have:=c3 h1;omega) c1 hlc ht;rw[hC y]at g;obtain⟨b1,b2,b3,b4,b5,b6,b7⟩:=g;generalize lookG left con fnd n (l.set v [(y,y)]) t=u at*;obtain⟨a1,a2,a3,a4,a5,a6,a7⟩:=ih u (λz hz=>hys z (.tail _ hz)) b1;have e:(y::ys).length*C=ys.length*C+C:=(by rw[El,GJ]);refine⟨a1,b2.trans a2,by omega,?_,λh=>a5 (b5 h),λd1 d2=> ?_,by omega⟩
        ·rcases a4 with a4|a4
         ·rcases b4 with b4|b4;·exact .inl (by omega)
          ·exact .inr (by rw[a4];exact b4)
         ·exact .inr a4
        ·cases hu:u.short with
         |true=>
          obtain⟨e1,e2,e3⟩:=b6 d1 hu;have eu:ys.foldl (λs x=>if s.over=true then s else lookG left con fnd n (l.set v [(x,x)]) s) u=u:=by
           refine km (Q:=λs=>s=u) (λs x _ hs=> ?_) Y;rw[hs,E6 e1]
          rw[eu];exact⟨e1,by omega,e3⟩
         |false=>
          obtain⟨e1,e2,e3⟩:=a6 hu d2;exact⟨e1,by omega,e3⟩
     obtain⟨a1,a2,a3,a4,a5,a6,a7⟩:=key xs { s with nodes:=s.nodes+1 } (λ_ h=>h) hi;have e:(xs.length+1)*C=xs.length*C+C:=GJ _ _;exact⟨a1,a2,by have a3:s.nodes+1<=_:=a3;omega,by
      rcases a4 with a4|a4;·exact .inr (by rw[a4];show((s.nodes+1:Nat):Int)<=left;omega)
      ·exact .inr a4,a5,λb1 b2=>by
       obtain⟨e1,e2,e3⟩:=a6 b1 b2;have e2:left<((s.nodes+1:Nat):Int)+((xs.length*C:Nat):Int):=(by exact_mod_cast e2);exact⟨e1,by omega,e3⟩,by have a7:_<=s.nodes+1+xs.length*C:=a7;omega⟩
end
def Am (st:List (List Int))(a:List Int):List (List Int)×Bool:=(st++[a],false)
theorem Bz {d0:aa}{cons:List Con}(h:RunOk d0 cons):SrchOK d0 (λ_=>cons) Am λ_=>True:=⟨λ_ _=>h,λ_ _ _ _=>trivial⟩
theorem xC (x:List (Int×Int))(hf:Fine x):Spec Tryz.prog 112 false [dm x] [.val (.bool (decide (1<(vals x).length)))]:=by
 have hsz:=ii x (by have:=hf.len;omega);rw[po hf]at hsz;refine Spec.body Tryz.func112 Y Y Y λw0 Z0=> ?_;refine .B ?_;refine .D hsz ?_;exact⟨_,.v Y Y (congrArg PV.bool (by by_cases h:1<(vals x).length<;>simp[h]<;>omega)) (λ_=>rfl) .nil⟩
def Bl (d:aa):Int:=gZ (λx=>decide (1<(vals x).length)) d
theorem zM (d:aa)(fd:FewD d):Spec Tryz.prog 71 false [ao d] [.val (.int .i64 (Bl d))]:=by
 refine Spec.body Tryz.func71 Y Y Y λw0 Z0=> ?_;refine .B ?_;refine .D (wc (p:=λx=>decide (1<(vals x).length)) (f:=112) [] d (λv hv=>xC v (fd.fine v hv)) (by have:=fd.small;omega)) ?_;exact r1
theorem Bk {n:Nat}{l:aa}(gl:GoodD n l)(h:bY l=none):Bl l=(openV l:Nat):=by
 obtain⟨h1,h2,_⟩:=oH gl h;unfold Bl gZ openV;have:l.findIdx? (λx=>decide (1<(vals x).length))=some (openV l):=List.findIdx?_eq_some_of_exists (by
  refine⟨l[openV l],EA h1,?_⟩;have hg:l.getD (openV l) []=l[openV l]:=(by rw[E0,E5 h1];rfl);rw[hg]at h2;exact EF h2)
 rw[this];rfl
def dQ:Nat->aa->aa->List (Int×List (Int×Int))
 |i,y::d,x::l=>(if x=y then []else [((i:Int),y)])++dQ (i+1) d l
 |_,_,_=>[]
theorem vV: ∀(d l pre:aa),d.length=l.length->gK (dQ pre.length d l) (pre++l)=pre++d
 | [],[],pre,_=>rfl
 |y::d,x::l,pre,h=>by
  have ih:=vV d l (pre++[x]) (by simpa using h);rw[F5,EZ,FY,F5]at ih;unfold dQ;by_cases e:x=y
  ·subst e;rw[E6 Y];exact ih
  ·rw[E4 e];show((gK (dQ (pre.length+1) d l) (pre++x::l)).set _ _)=_;have ih:gK (dQ (pre.length+1) d l) (pre++x::l)=pre++x::d:=ih;rw[ih];simp
 | [],_::_,_,h=>by simp at h
 |_::_,[],_,h=>by simp at h
theorem BG: ∀(d l:aa) (i:Nat),∀c∈dQ i d l,(i:Int)<=c.1/\c.1<(i+d.length:Nat)
 |y::d,x::l,i,c,h=>by
  unfold dQ at h;rcases EW.1 h with h|h
  ·split at h;·cases h
   ·rw[EI.1 h];exact⟨FS _,by simp;omega⟩
  ·have:=BG d l (i+1) c h;rw[El];omega
 | [],_,_,c,h=>by simp[dQ]at h
 |_::_,[],_,c,h=>by simp[dQ]at h
theorem oN: ∀(d l:aa) (i:Nat),(dQ i d l).length<=d.length
 |y::d,x::l,i=>by
  unfold dQ;have:=oN d l (i+1);rw[EZ,El];split<;>simp<;>omega
 | [],_,_=>by simp[dQ]
 |_::_,[],_=>by simp[dQ]
theorem vW (x y:List (Int×Int)): ∀(d l:aa) (i:Nat),d.length=l.length->dQ i (d++[y]) (l++[x])=dQ i d l++(if x=y then []else [((i+d.length:Nat):Int)].map λi=>(i,y))
 |y'::d,x'::l,i,h=>by
  have ih:=vW x y d l (i+1) (by simpa using h);simp only[Fj,dQ,ih,F5,El];rw[show i+1+d.length=i+(d.length+1)by omega]
 | [],[],i,_=>by simp[dQ]
 | [],_::_,_,h=>by simp at h
 |_::_,[],_,h=>by simp at h
theorem Cy (ch:List (Int×List (Int×Int)))(d l:aa)(x y:List (Int×Int))(h:d.length=l.length):chS (ch++dQ 0 d l) d.length y x=ch++dQ 0 (d++[y]) (l++[x]):=by
 rw[vW x y d l 0 h,Fy];unfold chS;split<;>simp
abbrev kV (m:Mod)(sp:Value)(cons:List Con)(left:Int)(nodes:Int)(short enough:Bool)(found:PV):Own:= .box false [.sl (m.vars.map cV),bP m.cons,.int .i64 m.goal.kind,aq m.goal.vars,aq m.goal.coefs,.raw sp,bP cons,.int .i64 left,.int .i64 nodes,.bool short,.bool enough,found]
abbrev sV (lv cv mv:Value):Own:= .box true [.raw lv,.raw cv,.raw mv]
abbrev dV (d:aa):Own:= .sl 54 1 true (d.map cD)
abbrev chV (ch:List (Int×List (Int×Int))):Own:= .sl 156 2 true (ch.map cCh)
abbrev mkV (mk:List Int):Own:= .sl 3 1 true (mk.map cI)
abbrev pV (b:Nat):Value:= .pointer (some ⟨b,0,none⟩)
theorem BF {ch:List (Int×List (Int×Int))}{d l:aa}{i:Nat}(hl:(ch.length+d.length+1)*32<=140737488355328)(h:i<d.length):((ch++dQ 0 (d.take i) (l.take i)).length+1)*32<=140737488355328:=by
 have htl:=oN (d.take i) (l.take i) 0;have e1:(d.take i).length<=i:=(by rw[F0];exact Nat.min_le_left _ _);have e2:(ch++dQ 0 (d.take i) (l.take i)).length=ch.length+(dQ 0 (d.take i) (l.take i)).length:=EZ;exact Em (F7 32 (by omega)) hl
set_option maxHeartbeats 1000000 in
theorem BE (kb sb:Nat)(lv cv mv:Value)(m:Mod)(cons:List Con)(left nodes:Int)(short enough:Bool)(found:PV)(d l:aa)(ch:List (Int×List (Int×Int)))(fd:FewD d)(fl:FewD l)(hdl:d.length=l.length)(hs: ∀(i:Nat) (x y:List (Int×Int)),l[i]? =some x->d[i]? =some y->∀v∈vals x,v∈vals y)(hl:(ch.length+d.length+1)*32<=140737488355328):
  SpecX Tryz.prog 70 [pV kb,pV sb,lv] [cv] [kV m (pV sb) cons left nodes short enough found,sV lv cv mv,dV d] [chV ch] [(true,.raw (pV kb)),(false,ao l)]
  (λns=>[kV m (pV sb) cons left nodes short enough found,sV lv (ns.getD 0 undef) mv,dV l]) (λ_=>[chV (ch++dQ 0 d l)]) true (λ_=>[]):=by
 refine SpecX.body (fn:=Tryz.f70) [1000,1001,1002,1003] [1003] Y Y Y Y λw0 Z=> ?_;refine T.sub (Rel.derawp (s:=0) (g:=1000) Y Y Y) ?_;refine .B ?_;rw[show chV ch=chV (ch++dQ 0 (d.take 0) (l.take 0))by simp[dQ]];refine T.K (T.ind (λs:Value×Nat=>⟨[(0,.optr 0 0 0 0),(6,.val false (ao l)),(7,.val true (.int .i64 (l.map cD).length)),(8,.val true (.int .i64 s.2)),(1000,.eq (pV kb) 0),(1001,.eq (pV sb) 1),(1002,.eq lv 2),(1003,.eq s.1 3)],[(0,some (kV m (pV sb) cons left nodes short enough found)),(1,some (sV lv s.1 mv)),(2,some (dV (l.take s.2++d.drop s.2))),(3,some (chV (ch++dQ 0 (d.take s.2) (l.take s.2))))],4⟩)
  (λs=>s.2<=l.length) (λs=>l.length-s.2) (cv,0) (Er _) (λ_ _ h=>h) ?_)
 rintro⟨cu,i⟩ hi ih;dsimp only at hi ih⊢;have hlen:=fl.small;by_cases h:i<l.length
 ·have hid:i<d.length:=(by omega);have hrow:(l.map cD)[((i:Nat):Int).toNat]? =some (cD l[i]):=(by rw[Eo,EJ,E5 h];rfl);have hne: ∀x∈l.take i++d.drop i,x∈l∨x∈d:=λx hx=>(EW.1 hx).imp FI Fv;have fd':FewD (l.take i++d.drop i):=⟨by rw[EZ,F0,HZ];omega,λx hx=>(hne x hx).elim (fl.fine x) (fd.fine x),λx hx=>(hne x hx).elim (fl.few x) (fd.few x)⟩;have hat:(l.take i++d.drop i)[i]? =some d[i]:=by
   rw[F1 (by rw[F0];omega),F0,FO (by omega),HJ,Ge,G3,E5 hid]
  have hsv:=hs i l[i] d[i] (E5 h) (E5 hid);have hset:=rk sb lv cu mv (l.take i++d.drop i) (ch++dQ 0 (d.take i) (l.take i)) i l[i] d[i] fd' hat (fl.fine _ (EA h)) (fl.few _ (EA h)) hsv (BF hl hid);have e1:(l.take i++d.drop i).set i l[i]=l.take (i+1)++d.drop (i+1):=by
   rw[H0 _ _ (by rw[F0];omega),F0,FO (by omega),HJ,EP hid,HR,ED h,F5];rfl
  have e2:chS (ch++dQ 0 (d.take i) (l.take i)) i d[i] l[i]=ch++dQ 0 (d.take (i+1)) (l.take (i+1)):=by
   have:=Cy ch (d.take i) (l.take i) l[i] d[i] (by rw[F0,F0];omega);rw[F0,FO (by omega)]at this;rw[this,ED h,ED hid]
  rw[e1,e2]at hset;refine .M ?_;refine T.ct2 Y (EF (by rw[EB];omega)) ?_;refine .M ?_;refine .I (r:=cD l[i]) hrow ?_;refine .M ?_;refine J.cx [1,2,3] [1001,1002,1003] [1004] hset ⟨rfl,⟨_,rfl,rfl,rfl⟩,rfl,⟨_,rfl,rfl,rfl⟩,rfl,⟨_,rfl,rfl,rfl⟩,trivial⟩ (λns hns=> ?_);obtain⟨u,rfl⟩:=xQ hns Y;refine .M ?_;rw[ai h (by omega)];refine T.sub (Rel.ecp 1003 1004 Y) ?_;exact T.K (ih (u,i+1) h (by dsimp only;omega))
 ·obtain rfl:i=l.length:=(by omega);rw[Ep,<-hdl,Ep,FR,FU,hdl];refine .M ?_;refine T.cf2 Y (EE (by rw[EB];omega)) ?_;refine .M ?_;exact⟨[0,1,2],[3],[cu],⟨rfl,⟨_,rfl,rfl,rfl⟩,rfl,⟨_,rfl,rfl,rfl⟩,rfl,⟨_,rfl,rfl,rfl⟩,trivial⟩,⟨rfl,⟨_,rfl,rfl,rfl⟩,trivial⟩,rfl,.nil⟩
theorem ay (c:Own):c.reg c.fr=c:=by cases c<;>rfl
theorem aF (c:Own):(!c.fr||c.fr)=true:=by cases c.fr<;>rfl
structure Fnd (σ:Type) where
 f:FuncId
 caps:List PV
 p1:Value
 p2:Value
 p3:Value
 c1:σ->Value->Value->Own
 c2:σ->Value->Value->Own
 c3:σ->Value->Value->Own
 d1:σ->Own
 d2:σ->Own
 con:σ->List Con
 fnd:σ->List Int->σ×Bool
 sz:σ->Nat
abbrev Fnd.pv {σ:Type}(F:Fnd σ):PV:= .fn (.func F.f) [] F.caps
abbrev wQ {σ:Type}(F:Fnd σ)(kb sb:Nat)(m:Mod)(left:Int)(f:FuncId)(args:List (Bool×PV))(lv cv mv g1 g2:Value)(d e:aa)(ch ch':List (Int×List (Int×Int)))(mk:List Int)(s r:Srch σ):Prop:=
 SpecX Tryz.prog f [pV kb,pV sb,lv,F.p1,F.p2,F.p3] [cv,mv,g1,g2] [kV m (pV sb) (F.con s.st) left s.nodes s.short s.over F.pv,sV lv cv mv,dV d,F.c1 s.st g1 g2,F.c2 s.st g1 g2,F.c3 s.st g1 g2] [chV ch,mkV mk,F.d1 s.st,F.d2 s.st] args
  (λns=>[kV m (pV sb) (F.con r.st) left r.nodes r.short r.over F.pv,sV lv (ns.getD 0 undef) (ns.getD 1 undef),dV e,F.c1 r.st (ns.getD 2 undef) (ns.getD 3 undef),F.c2 r.st (ns.getD 2 undef) (ns.getD 3 undef),F.c3 r.st (ns.getD 2 undef) (ns.getD 3 undef)])
  (λ_=>[chV ch',mkV mk,F.d1 r.st,F.d2 r.st]) true (λ_=>[])
abbrev nE {σ:Type}(F:Fnd σ)(kb sb:Nat)(m:Mod)(left:Int)(sl:List (Nat×SV))(lv cv mv g1 g2:Value)(d:aa)(ch:List (Int×List (Int×Int)))(mk:List Int)(s:Srch σ):St:=
 ⟨sl++[(1000,.eq (pV kb) 0),(1001,.eq (pV sb) 1),(1002,.eq lv 2),(1003,.eq F.p1 3),(1004,.eq F.p2 4),(1005,.eq F.p3 5),(1006,.eq cv 6),(1007,.eq mv 7),(1008,.eq g1 8),(1009,.eq g2 9)],[(0,some (kV m (pV sb) (F.con s.st) left s.nodes s.short s.over F.pv)),(1,some (sV lv cv mv)),(2,some (dV d)),(3,some (F.c1 s.st g1 g2)),(4,some (F.c2 s.st g1 g2)),(5,some (F.c3 s.st g1 g2)),(6,some (chV ch)),(7,some (mkV mk)),(8,some (F.d1 s.st)),(9,some (F.d2 s.st))],10⟩
theorem BD {ns:List Value}{n:Nat}(h:ns.length=n)(hn:n=4): ∃a b c d,ns=[a,b,c,d]:=by
 subst hn
 match ns,h with
 | [a,b,c,d],_=>exact⟨a,b,c,d,rfl⟩
theorem DV {ns:List Value}{n:Nat}(h:ns.length=n)(hn:n=2): ∃a b,ns=[a,b]:=by
 subst hn
 match ns,h with
 | [a,b],_=>exact⟨a,b,rfl⟩
set_option maxHeartbeats 1000000 in
theorem yg {σ:Type}(F:Fnd σ)(kb sb:Nat)(m:Mod)(left:Int)(lv cv mv g1 g2:Value)(l e:aa)(ch tail:List (Int×List (Int×Int)))(mk:List Int)(s r:Srch σ)(v:Nat)(x:Int)(y:List (Int×Int))
  (fl:FewD l) (hy:l[v]? =some y) (hx:x∈vals y) (hne: [(x,x)]≠y) (hlm:(mk.length+1)*8<=140737488355328) (hlc:((ch++[((v:Int),y)]++tail).length+1)*32<=140737488355328) (hel:e.length=l.length) (hlt: ∀c∈tail,0<=c.1/\c.1<(l.length:Int)) (hun:gK tail e=l.set v [(x,x)])
  (hlook: ∀cv mv,wQ F kb sb m left 37 [(true,.raw (pV kb))] lv cv mv g1 g2 (l.set v [(x,x)]) e (ch++[((v:Int),y)]) (ch++[((v:Int),y)]++tail) (mk++[(ch.length:Int)]) s r):
  wQ F kb sb m left 73 [(true,.raw (pV kb)),(true,.int .i64 v),(true,.int .i64 x)] lv cv mv g1 g2 l l ch ch mk s r:=by
 have hvl:=(E8.1 hy).1;have hym:y∈l:=EC hy;have hxr:=(fl.fine y hym).val x hx;have hmark:=λmv=>wX sb lv cv mv ch mk hlm;have hfx:Fine [(x,x)]:=by
  have:=fl.one v hxr;exact this.fine _ (G2.2 ⟨v,F2 hvl⟩)
 have hset:=λmv=>rk sb lv cv mv l ch v [(x,x)] y fl hy hfx (by simp[vals,cH]) (by simpa[vals,cH]using hx) (Em (F7 32 (by simp)) hlc);have e1:chS ch v y [(x,x)]=ch++[((v:Int),y)]:=E4 hne;rw[e1]at hset;have hback:=λcv mv=>wY sb lv cv mv e ch ([((v:Int),y)]++tail) mk (λc hc=>by
  rcases EW.1 hc with hc|hc;·rw[EI.1 hc];exact⟨Gg _,by show(v:Int)<_;omega⟩
  ·have:=hlt c hc;omega) (by have:=fl.small;omega) (by rw[<-F5];omega) (by omega)
 have e2:gK ([((v:Int),y)]++tail) e=l:=by
  show(gK tail e).set ((v:Int)).toNat y=l;rw[Eo,hun,List.set_set];refine Fo λj=> ?_;by_cases hj:j=v;·rw[hj,F2 hvl,hy]
  ·rw[Et (Ne.symm hj)]
 rw[e2,<-F5]at hback;refine SpecX.bodyD (fn:=Tryz.f73) (σ:=Value) (τ:=Value×Value×Value×Value) (v:=pV sb) (x:= .tmp 14) (fx:=true)
  (E1:=λmv=>nE F kb sb m left [(0,.optr 0 0 0 0),(1,.val true (.int .i64 v)),(2,.val true (.int .i64 x))] lv cv mv g1 g2 l ch (mk++[(ch.length:Int)]) s)
  (E2:=λmv=>nE F kb sb m left [(0,.optr 0 0 0 0),(1,.val true (.int .i64 v)),(2,.val true (.int .i64 x)),(14,.val true (.raw (pV sb)))] lv cv mv g1 g2 l ch (mk++[(ch.length:Int)]) s)
  (E3:=λt=>nE F kb sb m left [] lv t.1 t.2.1 t.2.2.1 t.2.2.2 e (ch++[((v:Int),y)]++tail) (mk++[(ch.length:Int)]) r)
  (us2:=[pV sb,lv]) (gs2:=λt=>[t.1,t.2.1]) (cs2:=λt=>[sV lv t.1 t.2.1,dV e]) (ds2:=λt=>[chV (ch++[((v:Int),y)]++tail),mkV (mk++[(ch.length:Int)])])
  (cs2':=λt ns=>[sV lv (ns.getD 0 undef) (ns.getD 1 undef),dV l]) (news2:=λt _=>[chV ch,mkV mk]) (res2:=λ_=>[.int .i64 0])
  4 [1000,1001,1002,1003,1004,1005,1006,1007,1008,1009] [1010,1011,1008,1009] [1001,1002,1006,1007] [1010,1011] [1,2,6,7] Y Y Y Y Y Y Y Y Y (λw0 Z=> ?_) (λw0 Z mv=> ?_) (λmv=>rfl) (λw0 Z mv=> ?_) (λt=>hback t.1 t.2.1) Y (λt=> ?_) (λt=>rfl) Y (λt ns hns=> ?_)
 ·refine T.sub (Rel.derawp (s:=0) (g:=1000) Y Y Y) ?_;refine T.r ?_
  iterate 4 refine J.H Y ?_
  refine J.cx [1,6,7] [1001,1006,1007] [1007] (hmark mv) ⟨rfl,⟨_,rfl,rfl,rfl⟩,rfl,⟨_,rfl,rfl,rfl⟩,rfl,⟨_,rfl,rfl,rfl⟩,trivial⟩ (λns hns=> ?_);obtain⟨u,rfl⟩:=xQ hns Y;refine J.sub (Rel.canon (keep:=[0,1,2,1000,1001,1002,1003,1004,1005,1006,1007,1008,1009]) (os:=[1000,1001,1002,1003,1004,1005,1006,1007,1008,1009]) Y) ?_;exact J.nil ⟨rfl,u,rfl⟩
 ·iterate 4 refine J.H Y ?_
  refine J.sub (Rel.canon (keep:=[0,1,2,14,1000,1001,1002,1003,1004,1005,1006,1007,1008,1009]) (os:=[1000,1001,1002,1003,1004,1005,1006,1007,1008,1009]) Y) ?_;exact J.nil Y
 ·refine .M ?_;refine .V ?_;refine J.cx [1,2,6] [1001,1002,1006] [1006] (hset mv) ⟨rfl,⟨_,rfl,rfl,rfl⟩,rfl,⟨_,rfl,rfl,rfl⟩,rfl,⟨_,rfl,rfl,rfl⟩,trivial⟩ (λns hns=> ?_);obtain⟨u,rfl⟩:=xQ hns Y;refine .M ?_;refine J.cx [0,1,2,3,4,5,10,7,8,9] [1000,1001,1002,1003,1004,1005,1006,1007,1008,1009] [1006,1007,1008,1009] (hlook u mv) ⟨rfl,⟨_,rfl,rfl,rfl⟩,rfl,⟨_,rfl,rfl,rfl⟩,rfl,⟨_,rfl,rfl,rfl⟩,rfl,⟨_,rfl,ay _,aF _⟩,rfl,⟨_,rfl,ay _,aF _⟩,rfl,⟨_,rfl,ay _,aF _⟩,rfl,⟨_,rfl,rfl,rfl⟩,rfl,⟨_,rfl,rfl,rfl⟩,rfl,⟨_,rfl,ay _,aF _⟩,rfl,⟨_,rfl,ay _,aF _⟩,trivial⟩ (λns hns=> ?_);obtain⟨a,b,c,d,rfl⟩:=BD hns Y;refine J.sub (Rel.canon (keep:=[1000,1001,1002,1003,1004,1005,1006,1007,1008,1009]) (os:=[1000,1001,1002,1003,1004,1005,1006,1007,1008,1009]) Y) ?_;exact J.nil ⟨.inl Y,(a,b,c,d),rfl⟩
 ·exact⟨rfl,⟨_,rfl,rfl,rfl⟩,rfl,⟨_,rfl,rfl,rfl⟩,rfl,⟨_,rfl,rfl,rfl⟩,rfl,⟨_,rfl,rfl,rfl⟩,trivial⟩
 ·obtain⟨a,b,rfl⟩:=DV hns Y;exact⟨[0,1,2,3,4,5],[10,11,8,9],[a,b,t.2.2.1,t.2.2.2],⟨rfl,⟨_,rfl,rfl,rfl⟩,rfl,⟨_,rfl,rfl,rfl⟩,rfl,⟨_,rfl,rfl,rfl⟩,rfl,⟨_,rfl,ay _,aF _⟩,rfl,⟨_,rfl,ay _,aF _⟩,rfl,⟨_,rfl,ay _,aF _⟩,trivial⟩,⟨rfl,⟨_,rfl,rfl,rfl⟩,rfl,⟨_,rfl,rfl,rfl⟩,rfl,⟨_,rfl,ay _,aF _⟩,rfl,⟨_,rfl,ay _,aF _⟩,trivial⟩,rfl,.nil⟩
theorem vU: ∀l:List (Bool×PV),leX l l=true
 | []=>rfl
 |p::l=>by
  simp only[leX,vU l,I4];cases p.1<;>rfl
structure FndOK {σ:Type}(F:Fnd σ)(kb sb:Nat)(m:Mod)(left:Int)(d0:aa)(I:σ->Prop):Prop where
 ok: ∀(t:σ) (a:List Int) (g1 g2:Value) (nodes:Int) (short over:Bool),I t->F.sz t<=1099511627776->wS d0 F.con t a->
  SpecX Tryz.prog F.f [pV kb,F.p1,F.p2,F.p3] [g1,g2] [kV m (pV sb) (F.con t) left nodes short over F.pv,F.c1 t g1 g2,F.c2 t g1 g2,F.c3 t g1 g2] [F.d1 t,F.d2 t] ((true,aq a)::AB false F.caps)
  (λns=>[kV m (pV sb) (F.con (F.fnd t a).1) left nodes short over F.pv,F.c1 (F.fnd t a).1 (ns.getD 0 undef) (ns.getD 1 undef),F.c2 (F.fnd t a).1 (ns.getD 0 undef) (ns.getD 1 undef),F.c3 (F.fnd t a).1 (ns.getD 0 undef) (ns.getD 1 undef)]) (λ_=>[F.d1 (F.fnd t a).1,F.d2 (F.fnd t a).1]) true (λ_=>[.bool (F.fnd t a).2])
theorem l8 {σ:Type}{left:Int}{con:σ->List Con}{fnd:σ->List Int->σ×Bool}{sz:σ->Nat}(hz: ∀t a,sz (fnd t a).1<=sz t+1): ∀(n:Nat) (d:aa) (s:Srch σ),sz s.st<=s.nodes->sz (lookG left con fnd n d s).st<=(lookG left con fnd n d s).nodes
 |0,d,s,h=>h
 |n+1,d,s,h=>by
  rw[lookG];split;·exact h
  ·split;·exact HY h
   ·split;·exact Em (hz _ _) (Nat.succ_le_succ h)
    ·refine km (Q:=λs:Srch σ=>sz s.st<=s.nodes) (λs x _ h=> ?_) (HY h);split;·exact h
     ·exact l8 hz n _ _ h
noncomputable def jh {σ:Type}(left:Int)(con:σ->List Con)(d:aa)(s:Srch σ):aa×List (Int×List (Int×Int)):=
 if left<=(s.nodes:Int)then(d,[])else match fL (con s.st) d with
 |none=>(d,[])
 |some l=>match bY l with
  |some _=>(d,[])
  |none=>(l,dQ 0 d l)
theorem Bx {σ:Type}{left:Int}{d0:aa}{con:σ->List Con}{fnd:σ->List Int->σ×Bool}{I:σ->Prop}(h:SrchOK d0 con fnd I){d:aa}(gd:GoodD d0.length d)(hle:leD d d0){s:Srch σ}(hi:I s.st):
  (jh left con d s).1.length=d.length/\(jh left con d s).2.length<=d.length/\(∀c∈(jh left con d s).2,0<=c.1/\c.1<(d.length:Int))/\gK (jh left con d s).2 (jh left con d s).1=d:=by
 unfold jh;split;·exact⟨rfl,Er _,λc hc=>(by cases hc),rfl⟩
 ·split;·exact⟨rfl,Er _,λc hc=>(by cases hc),rfl⟩
  ·rename_i l hl;obtain⟨gl,_⟩:=oI h gd hle hi hl;split;·exact⟨rfl,Er _,λc hc=>(by cases hc),rfl⟩
   ·have e:d.length=l.length:=gd.len.trans gl.len.symm;refine⟨e.symm,oN d l 0,λc hc=> ?_,?_⟩
    ·have:=BG d l 0 c hc;rw[Fy]at this;exact⟨by omega,this.2⟩
    ·have:=vV d l [] e;simpa using this
theorem sD {σ:Type}{f:Srch σ->Int->Srch σ}: ∀(l:List Int) (s:Srch σ),s.over=true->l.foldl (λs x=>if s.over then s else f s x) s=s
 | [],s,_=>rfl
 |x::l,s,h=>by rw[En,E6 h];exact sD l s h
def Dr {α:Type}(a b:List α):List α:=match b with| []=>a|c::t=>a++c::t
theorem ue {α:Type}(a b:List α):Dr a b=a++b:=by cases b<;>simp[Dr]
set_option maxHeartbeats 4000000 in
theorem rZ {σ:Type}(F:Fnd σ)(kb sb:Nat)(m:Mod)(left:Int)(d0:aa)(I:σ->Prop)(hS:SrchOK d0 F.con F.fnd I)(hF:FndOK F kb sb m left d0 I)(hz: ∀t a,F.sz (F.fnd t a).1<=F.sz t+1)(hleft:left<=1099511627776)(hdl:d0.length<=1024):
  ∀(n:Nat) (d:aa) (s:Srch σ) (lv cv mv g1 g2:Value) (ch:List (Int×List (Int×Int))) (mk:List Int),weight d<n->GoodD d0.length d->leD d d0->I s.st->F.sz s.st<=s.nodes->s.over=false->mk.length+n<=1048576->ch.length+n*1026<=1073741824->
  wQ F kb sb m left 37 [(true,.raw (pV kb))] lv cv mv g1 g2 d (jh left F.con d s).1 ch (Dr ch (jh left F.con d s).2) mk s (lookG left F.con F.fnd n d s):=by
 intro n
 induction n with
 |zero=>intro d s lv cv mv g1 g2 ch mk hw;omega
 |succ n ihn=>
  intro d s lv cv mv g1 g2 ch mk hw gd hle hi hsn hov hmk hch;refine SpecX.body (fn:=Tryz.f37) [1000,1001,1002,1003,1004,1005,1006,1007,1008,1009] [1006,1007,1008,1009] Y Y Y Y λw0 Z=> ?_;refine T.sub (Rel.derawp (s:=0) (g:=1000) Y Y Y) ?_;obtain⟨r,hr⟩: ∃r,r=lookG left F.con F.fnd (n+1) d s:=⟨_,rfl⟩;obtain⟨e,he⟩: ∃e,e=jh left F.con d s:=⟨_,rfl⟩;rw[<-hr,<-he];rw[lookG]at hr;unfold jh at he;refine T.sub (Rel.canon (keep:=[0,1000,1001,1002,1003,1004,1005,1006,1007,1008,1009]) (os:=[1000,1001,1002,1003,1004,1005,1006,1007,1008,1009]) Y) ?_;refine .B ?_;refine T.cd Y (λh=> ?_) (λh=> ?_)
  ·rw[E6 h]at hr he;subst hr he;refine .B ?_;refine .X ?_;refine .X ?_;exact⟨[0,1,2,3,4,5],[6,7,8,9],[cv,mv,g1,g2],⟨rfl,⟨_,rfl,rfl,rfl⟩,rfl,⟨_,rfl,rfl,rfl⟩,rfl,⟨_,rfl,rfl,rfl⟩,rfl,⟨_,rfl,ay _,aF _⟩,rfl,⟨_,rfl,ay _,aF _⟩,rfl,⟨_,rfl,ay _,aF _⟩,trivial⟩,⟨rfl,⟨_,rfl,rfl,rfl⟩,rfl,⟨_,rfl,rfl,rfl⟩,rfl,⟨_,rfl,ay _,aF _⟩,rfl,⟨_,rfl,ay _,aF _⟩,trivial⟩,rfl,.nil⟩
  rw[E4 h]at hr he;refine .B ?_;rw[af (by omega) (by omega),<-Int.natCast_succ];refine .W ?_;refine .M ?_;refine T.K (?_:T _ _ (nE F kb sb m left [(0,.optr 0 0 0 0)] lv cv mv g1 g2 d ch mk { s with nodes:=s.nodes+1 }) _);have fd:=gd.few;have hall:=(Ds (hS.run s.st hi) (e:=d) (λx hx=>⟨fd.fine x hx,fd.few x hx⟩) hle).frz;refine T.rdm 16 Y (by kernel_rfl) Y ?_
  iterate 3 refine J.H Y ?_
  refine J.lp 1001 (q:=1) (b:=sb) Y ?_
  iterate 2 refine J.H Y ?_
  refine J.cb 1002 (zm d fd).frz ?_
  iterate 4 refine J.H Y ?_
  refine .C hall ?_;refine .M ?_;clear hall;cases hR:fL (F.con s.st) d with
  |none=>
   rw[hR]at hr he;dsimp only at hr he;subst hr he;refine T.ct Y ?_;refine .M ?_;exact⟨[0,1,2,3,4,5],[6,7,8,9],[cv,mv,g1,g2],⟨rfl,⟨_,rfl,rfl,rfl⟩,rfl,⟨_,rfl,rfl,rfl⟩,rfl,⟨_,rfl,rfl,rfl⟩,rfl,⟨_,rfl,ay _,aF _⟩,rfl,⟨_,rfl,ay _,aF _⟩,rfl,⟨_,rfl,ay _,aF _⟩,trivial⟩,⟨rfl,⟨_,rfl,rfl,rfl⟩,rfl,⟨_,rfl,rfl,rfl⟩,rfl,⟨_,rfl,ay _,aF _⟩,rfl,⟨_,rfl,ay _,aF _⟩,trivial⟩,rfl,.nil⟩
  |some l=>
   rw[hR]at hr he;dsimp only at hr he;obtain⟨gl,hld,hl0,hst⟩:=oI hS gd hle hi hR;have fl:=gl.few;refine T.cf Y ?_;refine T.K (?_:T _ _ (nE F kb sb m left [(0,.optr 0 0 0 0),(2,.val true (ao l))] lv cv mv g1 g2 d ch mk { s with nodes:=s.nodes+1 }) _);refine .M ?_;refine .C (tL l fl.small fl.fine).frz ?_;refine .M ?_;cases hsv:bY l with
   |some a=>
    rw[hsv]at hr he;dsimp only at hr he;subst hr he;refine T.ct Y ?_;refine .M ?_;refine J.cx [0,3,4,5,8,9] [1000,1003,1004,1005,1008,1009] [1008,1009] (hF.ok s.st a g1 g2 ((s.nodes+1:Nat):Int) s.short s.over hi (by omega) ⟨l,gl,hl0,hst,hsv⟩) ⟨rfl,⟨_,rfl,rfl,rfl⟩,rfl,⟨_,rfl,ay _,aF _⟩,rfl,⟨_,rfl,ay _,aF _⟩,rfl,⟨_,rfl,ay _,aF _⟩,rfl,⟨_,rfl,ay _,aF _⟩,rfl,⟨_,rfl,ay _,aF _⟩,trivial⟩ (hle:=vU _) (λns hns=> ?_);obtain⟨a1,a2,rfl⟩:=DV hns Y;refine .M ?_;refine .W ?_;refine .M ?_;exact⟨[0,1,2,3,4,5],[6,7,10,11],[cv,mv,a1,a2],⟨rfl,⟨_,rfl,rfl,rfl⟩,rfl,⟨_,rfl,rfl,rfl⟩,rfl,⟨_,rfl,rfl,rfl⟩,rfl,⟨_,rfl,ay _,aF _⟩,rfl,⟨_,rfl,ay _,aF _⟩,rfl,⟨_,rfl,ay _,aF _⟩,trivial⟩,⟨rfl,⟨_,rfl,rfl,rfl⟩,rfl,⟨_,rfl,rfl,rfl⟩,rfl,⟨_,rfl,ay _,aF _⟩,rfl,⟨_,rfl,ay _,aF _⟩,trivial⟩,rfl,.nil⟩
   |none=>
    rw[hsv]at hr he;dsimp only at hr he;subst he;refine T.cf Y ?_;refine .M ?_;obtain⟨hv,hv1,_⟩:=oH gl hsv;have hop:=zM l fl;rw[Bk gl hsv]at hop;generalize openV l=v at*;have hg:l.getD v []=l[v]:=(by rw[E0,E5 hv];rfl);rw[hg]at hr hv1;have hdl2:=gd.len;have hlay:=BE kb sb lv cv mv m (F.con s.st) left ((s.nodes+1:Nat):Int) s.short s.over F.pv d l ch fd fl (gd.len.trans gl.len.symm) (hld.sub gl gd).2 (Em (F7 32 (by omega:ch.length+d.length+1<=1073741824)) (by decide));refine J.cx [0,1,2,6] [1000,1001,1002,1006] [1006] hlay ⟨rfl,⟨_,rfl,rfl,rfl⟩,rfl,⟨_,rfl,rfl,rfl⟩,rfl,⟨_,rfl,rfl,rfl⟩,rfl,⟨_,rfl,rfl,rfl⟩,trivial⟩ (λns hns=> ?_);obtain⟨u,rfl⟩:=xQ hns Y;refine .M ?_;refine .C hop ?_;refine .M ?_;have hrow:(l.map cD)[((v:Nat):Int).toNat]? =some (cD l[v]):=(by rw[Eo,EJ,E5 hv];rfl);refine .I (r:=cD l[v]) hrow ?_;refine .M ?_;have hym:l[v]∈l:=EA hv;have hyf:=fl.few _ hym;have hys:=(fl.fine _ hym).len;have hdv:=(i5 l[v] (fl.fine _ hym).domB.1 (by omega)).frz;rw[EY (by omega)]at hdv;refine .C hdv ?_;refine .M ?_;generalize hxs:vals l[v]=xs at*;have hxm: ∀x∈xs,x∈vals l[v]:=λx hx=>(by rw[hxs];exact hx);refine T.K (T.ind (λx:Value×Value×Value×Value×Srch σ×Nat=>nE F kb sb m left [(0,.optr 0 0 0 0),(6,.val true (.int .i64 v)),(72,.val true (aq xs)),(73,.val true (.int .i64 (xs.map cI).length)),(74,.val true (.int .i64 x.2.2.2.2.2))] lv x.1 x.2.1 x.2.2.1 x.2.2.2.1 l (ch++dQ 0 d l) mk x.2.2.2.2.1)
     (λx=>x.2.2.2.2.2<=xs.length/\I x.2.2.2.2.1.st/\F.sz x.2.2.2.2.1.st<=x.2.2.2.2.1.nodes/\(xs.drop x.2.2.2.2.2).foldl (λs x=>if s.over then s else lookG left F.con F.fnd n (l.set v [(x,x)]) s) x.2.2.2.2.1=r) (λx=>xs.length-x.2.2.2.2.2) (u,mv,g1,g2,{ s with nodes:=s.nodes+1 },0) ⟨Er _,hi,HY hsn,hr.symm⟩ (λ_ _ h=>h) ?_)
    rintro⟨cu,mu,h1,h2,t,i⟩ ⟨hil,hti,htz,htr⟩ ih;dsimp only at hil hti htz htr ih⊢;by_cases hlt:i<xs.length
    ·refine .M ?_;refine T.ct2 Y (EF (by rw[EB];omega)) ?_;refine .M ?_;have hrw:(xs.map cI)[((i:Nat):Int).toNat]? =some (cI xs[i]):=(by rw[Eo,EJ,E5 hlt];rfl);refine .I (r:=cI xs[i]) hrw ?_;refine .M ?_;refine T.cond Y (λhto=> ?_) (λhto=> ?_)
     ·have hto:t.over=true:=hto;rw[sD _ t hto]at htr;subst htr;refine .M ?_;exact⟨[0,1,2,3,4,5],[6,7,8,9],[cu,mu,h1,h2],⟨rfl,⟨_,rfl,rfl,rfl⟩,rfl,⟨_,rfl,rfl,rfl⟩,rfl,⟨_,rfl,rfl,rfl⟩,rfl,⟨_,rfl,ay _,aF _⟩,rfl,⟨_,rfl,ay _,aF _⟩,rfl,⟨_,rfl,ay _,aF _⟩,trivial⟩,⟨rfl,⟨_,rfl,congrArg chV (ue _ _).symm,rfl⟩,rfl,⟨_,rfl,rfl,rfl⟩,rfl,⟨_,rfl,ay _,aF _⟩,rfl,⟨_,rfl,ay _,aF _⟩,trivial⟩,rfl,.nil⟩
     ·have hto:t.over=false:=hto;have hxi:=hxm _ (EA hlt);obtain⟨gc,hc1,hc2⟩:=mG gl hv (x:=xs[i]) (by rw[hg];exact hxi);have hc0:leD (l.set v [(xs[i],xs[i])]) d0:=(aW 0).trans _ _ _ hc1 hl0;have hwl:=(f4 gl gd hld).1;have hwc:=hc2 (by rw[hg,hxs];exact hv1);obtain⟨k1,k2,k3,k4⟩:=Bx (left:=left) hS gc hc0 (s:=t) hti;rw[FA]at k1 k2 k3;have hcl:=oN d l 0;have hll:=gl.len;have hlk:=λcv mv=>ihn (l.set v [(xs[i],xs[i])]) t lv cv mv h1 h2 (ch++dQ 0 d l++[((v:Int),l[v])]) (mk++[((ch++dQ 0 d l).length:Int)]) (by omega) gc hc0 hti htz hto (by simp;omega) (by simp;omega);rw[ue]at hlk;have hch2:=yg F kb sb m left lv cu mu h1 h2 l (jh left F.con (l.set v [(xs[i],xs[i])]) t).1 (ch++dQ 0 d l) (jh left F.con (l.set v [(xs[i],xs[i])]) t).2 mk t (lookG left F.con F.fnd n (l.set v [(xs[i],xs[i])]) t) v xs[i] l[v] fl (E5 hv) hxi (λe=>by rw[<-hxs,<-e]at hv1;simp[vals,cH]at hv1) (by omega) (Em (F7 32 (by simp;omega:_<=1073741824)) (by decide)) k1 k3 k4 hlk;refine .M ?_;refine J.cx [0,1,2,3,4,5,6,7,8,9] [1000,1001,1002,1003,1004,1005,1006,1007,1008,1009] [1006,1007,1008,1009] hch2 ⟨rfl,⟨_,rfl,rfl,rfl⟩,rfl,⟨_,rfl,rfl,rfl⟩,rfl,⟨_,rfl,rfl,rfl⟩,rfl,⟨_,rfl,ay _,aF _⟩,rfl,⟨_,rfl,ay _,aF _⟩,rfl,⟨_,rfl,ay _,aF _⟩,rfl,⟨_,rfl,rfl,rfl⟩,rfl,⟨_,rfl,rfl,rfl⟩,rfl,⟨_,rfl,ay _,aF _⟩,rfl,⟨_,rfl,ay _,aF _⟩,trivial⟩ (λns hns=> ?_);obtain⟨a1,a2,a3,a4,rfl⟩:=BD hns Y;refine .M ?_;rw[ai hlt (by omega)];have hgo:=(iQ (left:=left) hS n (l.set v [(xs[i],xs[i])]) t (by omega) gc hc0 hti).inv;refine T.K (ih (a1,a2,a3,a4,lookG left F.con F.fnd n (l.set v [(xs[i],xs[i])]) t,i+1) ⟨hlt,hgo,l8 hz n _ _ htz,?_⟩ (by dsimp only;omega));rw[EP hlt,En,E4 (by rw[hto];decide)]at htr;exact htr
    ·obtain rfl:i=xs.length:=(by omega);rw[FR]at htr;have htr:t=r:=htr;subst htr;refine .M ?_;refine T.cf2 Y (EE (by rw[EB];omega)) ?_;refine .M ?_;exact⟨[0,1,2,3,4,5],[6,7,8,9],[cu,mu,h1,h2],⟨rfl,⟨_,rfl,rfl,rfl⟩,rfl,⟨_,rfl,rfl,rfl⟩,rfl,⟨_,rfl,rfl,rfl⟩,rfl,⟨_,rfl,ay _,aF _⟩,rfl,⟨_,rfl,ay _,aF _⟩,rfl,⟨_,rfl,ay _,aF _⟩,trivial⟩,⟨rfl,⟨_,rfl,congrArg chV (ue _ _).symm,rfl⟩,rfl,⟨_,rfl,rfl,rfl⟩,rfl,⟨_,rfl,ay _,aF _⟩,rfl,⟨_,rfl,ay _,aF _⟩,trivial⟩,rfl,.nil⟩
theorem Dk {l:List Con}: ∀r∈l.map cC,r.length=7:=λr hr=>by obtain⟨c,_,rfl⟩:=EH.1 hr;rfl
theorem om (l:List Con)(hl:l.length<=4096):Spec Tryz.prog 43 true [bP l] [.own 51 7 (l.map cC)]:=by
 refine Spec.body Tryz.func43 Y Y Y λw0 Z0=> ?_;refine .B ?_;refine J.nc Y Y Y Y Y Y Y λb hb=> ?_;refine .B ?_;cases b
 ·refine T.cf Y ?_;refine .B ?_;refine .Q ?_;refine J.a Y Y Y Y Y Y Y Y Y Y Y Y Y Y Y Y Y Dk (Em (F7 _ (show 0+(l.map cC).length<=4096 by rw[EB];omega)) (show 4096*104<=140737488355328 by decide)) ?_;refine .B ?_;exact⟨_,.o Y Y Y (λh=>by cases h) (by simp) .nil⟩
 ·have:l=[]:=(by simpa using hb Y);subst this;refine T.ct Y ?_;refine .B ?_;exact⟨_,.ownN Y .nil⟩
theorem p4 (m:Mod)(hm:ModB m):Spec Tryz.prog 66 false [.agg (cM m)] [.own 54 1 ((domsM m).map cD)]:=by
 refine Spec.body Tryz.func66 Y Y Y λw0 Z0=> ?_;obtain⟨h1,h2,_,_,_⟩:=hm;refine .B ?_;refine T.sub (Rel.own0 (s:=3) 54 1 Y) ?_;refine T.K (T.ind (λi:Nat=>⟨[(1,.optr 0 0 0 0),(3,.ref 1),(7,.val false (.sl (m.vars.map cV))),(8,.val true (.int .i64 (m.vars.map cV).length)),(9,.val true (.int .i64 i))],[(0,some (.box false (cM m))),(1,some (.sl 54 1 true (((domsM m).take i).map cD)))],2⟩) (λi=>i<=m.vars.length) (λi=>m.vars.length-i) 0 (Er _) (λ_ _ h=>h) ?_);rintro i hi ih;refine .B ?_;refine T.cd Y (λh5=> ?_) (λh5=> ?_)
 ·have h5:i<m.vars.length:=(by simpa using h5);have hrow:(m.vars.map cV)[((i:Nat):Int).toNat]? =some (cV m.vars[i]):=(by simp[h5]);have hv:=h2 _ (EA h5);have htk:(domsM m).take (i+1)=(domsM m).take i++[m.vars[i].2]:=by
   rw[ED (by simpa[domsM]using h5)];simp[domsM]
  have hl:=List.length_take_le i (domsM m);have ih1:=ih (i+1) (by omega) (by omega);rw[htk]at ih1;generalize (domsM m).take i=out at*;generalize m.vars[i]=v at*;refine .B ?_;refine .F (r:=cV v) hrow ?_;refine .L ?_;refine .X ?_;refine .D (bT v.2 (by omega)).frz ?_;refine .V ?_;refine J.aD Y Y Y Y Y Y Y Y Y Y Y Y Y Y Y Y Y Y Y (by omega) ?_;refine .B ?_;rw[ai (l:=m.vars.length) h5 (by omega)];exact T.K ih1
 ·have h5:i=m.vars.length:=(by simp at h5;omega);subst h5;rw[EY (by simp[domsM])];refine .B ?_;exact⟨_,.o Y Y Y (λ_=> .inl Y) (by simp) .nil⟩
theorem zu (m:Mod)(left e:Int)(he:e≠0)(hck:Spec Tryz.prog 64 false [.agg (cM m)] [.val (.int .i64 e)]):Spec Tryz.prog 35 false [.agg (cM m),.int .i64 left] [.val .nilp,.val (.int .i64 e)]:=by
 refine Spec.body Tryz.func35 Y Y Y λw0 Z0=> ?_;refine .B ?_;refine .D hck ?_;refine T.ct2 Y (by simpa using he) ?_;refine .B ?_;exact r2
theorem nN (m:Mod)(hm:ModB m)(fd:FewD (domsM m))(left:Int)(hck:Spec Tryz.prog 64 false [.agg (cM m)] [.val (.int .i64 0)]):
  SpecX Tryz.prog 35 [] [] [] [] [(false,.agg (cM m)),(true,.int .i64 left)] (λ_=>[]) (λns=>[kV m (ns.getD 1 undef) m.cons left 0 false false .nilf,sV (ns.getD 2 undef) (ns.getD 3 undef) (ns.getD 4 undef),dV (domsM m),chV [],mkV []]) true (λns=>[.raw (ns.getD 0 undef),.int .i64 0]):=by
 refine SpecX.body (fn:=Tryz.f35) [] [1000,1001,1002,1003,1004] Y Y Y Y λw0 Z=> ?_;have hcl:=hm.cl;refine .B ?_;refine .D hck ?_;refine T.cf Y ?_;refine .B ?_;refine .D (p4 m hm).frz ?_;refine J.cx [] [] [1001,1002,1003,1004] (zl (domsM m) fd fd.few) trivial (λns hns=> ?_);obtain⟨p,a,b,c,rfl⟩:=BD hns Y;refine .M ?_;refine T.canon (keep:=[1,2,7,8,1001,1002,1003,1004]) (os:=[2,1001,1002,1003,1004]) Y ?_;refine T.rdm 10 Y (by kernel_rfl) Y ?_;refine .M ?_;refine .C (om m.cons (by omega)).frz ?_
 iterate 5 refine J.H Y ?_
 refine J.nil ?_;refine J.name 1000 (s:=4) Y Y Y λu=> ?_;refine J.sub (Rel.raw (s:=4) (g:=1000) Y (.inr Y) Y Y Y) ?_;refine .M ?_;exact⟨[],[5,1,2,3,4],[u,p,a,b,c],trivial,⟨rfl,⟨_,rfl,rfl,rfl⟩,rfl,⟨_,rfl,rfl,rfl⟩,rfl,⟨_,rfl,rfl,rfl⟩,rfl,⟨_,rfl,rfl,rfl⟩,rfl,⟨_,rfl,rfl,rfl⟩,trivial⟩,rfl,.val Y Y (λ_=>rfl) (.val Y Y (λ_=>rfl) .nil)⟩
theorem xM (d:aa)(g:Goal)(hv:g.vars.length<=1024)(hk:g.coefs.length<=1024)(hi:eN g.coefs 0=false∨∀k∈g.coefs,-9223372036854775808<=k/\k<=9223372036854775807)(hx:zf d):Spec Tryz.prog 101 false [ao d,.agg (cG g)] [.val (.int .i64 (eZ d g))]:=by
 refine Spec.body Tryz.func101 Y Y Y λw0 Z0=> ?_;have hcon:=rV d (eU g) ⟨hv,hk,Er _,λr hr=>(by cases hr),hi⟩ hx;generalize hR:eZ d g=R;unfold eZ at hR;refine .B ?_;refine T.cd Y (λh0=> ?_) (λh0=> ?_)
 ·have h0:g.kind=0:=h0;rw[E4 (by omega)]at hR;refine .B ?_;refine J.g Y Y Y (λh1=> ?_) (λh1=> ?_)
  ·rw[E6 (.inr (.inl (by have h:=h1;rw[EB]at h;omega)))]at hR;subst hR;refine .B ?_;refine T.ct Y ?_;refine .B ?_;exact r1
  ·refine .B ?_;refine T.cd Y (λh2=> ?_) (λh2=> ?_)
   ·rw[E6 (.inr (.inr (by have h:=h2;rw[EB]at h;omega)))]at hR;subst hR;refine .B ?_;exact r1
   ·rw[E4 (by have h:=h1;rw[EB]at h;have h':=h2;rw[EB]at h';omega)]at hR;subst hR;refine .B ?_;exact r1
 ·have h0: ¬g.kind=0:=h0;refine .B ?_;refine T.cd Y (λh1=> ?_) (λh1=> ?_)
  ·have h1:g.kind=1:=h1;rw[E6 (.inl h1)]at hR;subst hR;refine .B ?_;refine T.ct2 Y (EF h1) ?_;refine .B ?_;refine .D hcon ?_;exact r1
  ·have h1: ¬g.kind=1:=h1;refine .B ?_;refine T.cd Y (λh2=> ?_) (λh2=> ?_)
   ·have h2:g.kind=2:=h2;rw[E6 (.inr h2)]at hR;subst hR;refine .B ?_;refine .D hcon ?_;exact r1
   ·have h2: ¬g.kind=2:=h2;rw[E4 (by omega),E6 (.inl h0)]at hR;subst hR;refine .B ?_;exact r1
def hadM (m:Mod)(i:Nat):List (ByteArray×Bool):=(List.range i).map λk=>(nmM m k,true)
theorem sR (a b:ByteArray):(a.toList==b.toList)=decide (a=b):=by
 rw[ByteArray.toList_eq,ByteArray.toList_eq];by_cases h:a=b;·subst h;simp
 ·rw[EE h];simp only[beq_eq_false_iff_ne];intro e;apply h;cases a;cases b;congr;exact Array.toList_inj.1 e
theorem wh (m:Mod)(i:Nat):(lkA (hadM m i) (nmM m i))=if gY m i=true then some true else none:=by
 unfold lkA fiA hadM gY;cases h:((List.range i).map λk=>(nmM m k,true)).findIdx? λp=>decide (p.1=nmM m i)with
 |none=>
  have h1:=FG.1 h;rw[E4];·rfl
  ·rw[Fa];rintro⟨k,hk,hb⟩;rw[sR]at hb;have:=h1 _ (EH.2 ⟨k,hk,rfl⟩);rw[hb]at this;cases this
 |some j=>
  obtain⟨h1,h2,_⟩:=Fc.1 h;have h1':j<i:=(by simpa using h1);rw[E6];·simp[h1']
  ·rw[Fa];refine⟨j,ES.2 h1',?_⟩;rw[sR];simpa using h2
theorem Dm (m:Mod)(i:Nat)(h:gY m i=false):upA (hadM m i) (nmM m i) true=hadM m (i+1):=by
 have h1:=wh m i;rw[h,E4 (by simp)]at h1;unfold upA;have h2:fiA (hadM m i) (nmM m i)=none:=by
  cases h3:fiA (hadM m i) (nmM m i)with
  |none=>rfl
  |some j=>
   unfold lkA at h1;rw[h3]at h1;obtain⟨h4,_⟩:=Fc.1 h3;simp[h4]at h1
 rw[h2];simp[hadM,HQ]
structure ModK (m:Mod):Prop where
 b:ModB m
 ck: ∀c∈m.cons,eN c.coefs c.rhs=false∨∀k∈c.coefs,-9223372036854775808<=k/\k<=9223372036854775807
 gk:eN m.goal.coefs 0=false∨∀k∈m.goal.coefs,-9223372036854775808<=k/\k<=9223372036854775807
theorem j5 (m:Mod)(hm:ModK m):Spec Tryz.prog 64 false [.agg (cM m)] [.val (.int .i64 (checkR m))]:=by
 refine Spec.body Tryz.func64 Y Y Y λw0 Z0=> ?_;obtain⟨hm,hck,hgk⟩:=hm;have hds:=(p4 m hm).frz;generalize hR:checkR m=R;obtain⟨b1,b2,b3,b4,b5⟩:=hm;have yes:64<m.vars.length∨256<m.cons.length->(2:Int)=R:=λh=>(by rw[<-hR];exact(E6 h).symm);refine .B ?_;refine J.g Y Y Y (λh1=> ?_) (λh1=> ?_)
 ·have e:=yes (.inl (by have h:=h1;rw[EB]at h;omega));subst e;refine .B ?_;refine T.ct Y ?_;refine .B ?_;exact r1
 ·refine .B ?_;refine T.cd Y (λh2=> ?_) (λh2=> ?_)
  ·have e:=yes (.inr (by have h:=h2;rw[EB]at h;omega));subst e;refine .B ?_;exact r1
  ·have hR:(if firstE ((List.range m.vars.length).map (varR m))≠0 then firstE ((List.range m.vars.length).map (varR m))else
     if firstE (m.cons.map (conR (domsM m)))≠0 then firstE (m.cons.map (conR (domsM m)))else eZ (domsM m) m.goal)=R:=by
    unfold checkR at hR;rw[E4 (by have h:=h1;rw[EB]at h;have h':=h2;rw[EB]at h';omega)]at hR;exact hR
   have hvar: ∀i,i<m.vars.length->(∀j,j<i->varR m j=0)->varR m i≠0->R=varR m i:=λi hi hb he=>by
    have:firstE ((List.range m.vars.length).map (varR m))=varR m i:=ko (i:=i) (λj hj x hx=>by
     rw[EJ,Fr (by omega)]at hx;rw[<-E7 hx];exact hb j hj) (by rw[EJ,Fr hi];rfl) he
    rw[this,E6 he]at hR;exact hR.symm
   refine .B ?_;refine J.mm Y Y Y Y ?_;refine .B ?_;refine T.K (T.ind (λi:Nat=>⟨[(1,.optr 0 0 0 0),(3,.ref 1),(22,.val false (.sl (m.vars.map cV))),(23,.val true (.int .i64 (m.vars.map cV).length)),(24,.val true (.int .i64 i))],[(0,some (.box false (cM m))),(1,some (.mp true none ((hadM m i).map λp=>(.string p.1,.bool p.2))))],2⟩) (λi=>i<=m.vars.length/\∀j,j<i->varR m j=0) (λi=>m.vars.length-i) 0 ⟨Er _,λj hj=>EX hj (FK j)⟩ (λ_ _ h=>h) ?_);rintro i ⟨hi,hb⟩ ih;refine .B ?_;refine T.cd Y (λh3=> ?_) (λh3=> ?_)
   ·have h3:i<m.vars.length:=(by have h:=h3;rw[EB]at h;omega);have hv:=hvar i h3 hb;have hvi:varR m i=if gu (nmM m i)=false then 40 else if gY m i=true then 41 else if dmM m i=[]∨chkR (dmM m i)≠0 then 42 else 0:=rfl
    have hrow:(m.vars.map cV)[((i:Nat):Int).toNat]? =some (cV (nmM m i,dmM m i)):=by
     rw[Eo,EJ,E5 h3];unfold nmM dmM;rw[E0,E5 h3];rfl
    have hbk:(nmM m i).size<=1024/\(dmM m i).length<=1024:=by
     unfold nmM dmM;rw[E0,E5 h3];exact b2 _ (EA h3)
    have hns:=xJ (nmM m i) (by omega);have hls:=wh m i;have hup:=Dm m i;refine .B ?_;refine .F (r:=cV (nmM m i,dmM m i)) hrow ?_;refine .L ?_;refine .X ?_;refine .D hns ?_;cases hn:gu (nmM m i)
    ·have:R=40:=(by rw[hv (by rw[hvi,E6 hn];decide),hvi,E6 hn]);subst this;refine T.ct Y ?_;refine .B ?_;exact r1
    ·rw[E4 (by rw[hn];simp)]at hvi;refine T.cf Y ?_;refine .B ?_;refine J.ml (nmM m i) (.bool false) Y Y Y Y Y Y Y Y Y AJ (λ_ _=> .bool _) (DW Tryz.underlying9) (λ_ _ _ h=>th h) ?_;rw[hls];cases ht:gY m i
     ·rw[E4 (by rw[ht];simp)]at hvi;have hup:=hup ht;have hck2:=jO (dmM m i) (by omega);have stop:dmM m i=[]∨chkR (dmM m i)≠0->R=42:=λh=>(by rw[hv (by rw[hvi,E6 h];decide),hvi,E6 h]);have goon: ¬dmM m i=[]->¬chkR (dmM m i)≠0->varR m i=0:=λa b=>(by rw[hvi,E4 (λh=>h.elim a b)]);have hw1:IntKind.i64.wrap ((i:Int)+1)=((i+1:Nat):Int):=ai (l:=m.vars.length) h3 (by omega);have ih4:=λh:varR m i=0=>ih (i+1) ⟨by omega,λj hj=>by
       by_cases e:j=i;·rw[e];exact h
       ·exact hb j (by omega)⟩ (by omega)
      generalize varR m i=vr at*;rw[<-hup]at ih4;generalize hadM m i=hm at*;generalize nmM m i=nm at*;generalize dmM m i=dd at*;generalize chkR dd=ck at*;refine .B ?_;refine T.cf Y ?_;refine .B ?_;refine J.g Y Y Y (λh5=> ?_) (λh5=> ?_)
      ·have e:=stop (.inl (by simpa using h5));subst e;refine .B ?_;refine T.ct Y ?_;refine .B ?_;exact r1
      ·refine .B ?_;refine .D hck2 ?_;refine T.cd Y (λh6=> ?_) (λh6=> ?_)
       ·have e:=stop (.inr h6);subst e;refine .B ?_;exact r1
       ·refine .B ?_;refine J.mu nm true Y Y Y Y Y Y Y Y Y Y Y (DW Tryz.underlying9) (λ_ _ _ h=>th h) Y ?_;refine .B ?_;rw[hw1];exact T.K (ih4 (goon (λe=>h5 (by rw[e];rfl)) h6))
     ·have:R=41:=(by rw[hv (by rw[hvi,E6 ht];decide),hvi,E6 ht]);subst this;refine .B ?_;refine T.ct Y ?_;refine .B ?_;exact r1
   ·have h3:i=m.vars.length:=(by have h:=h3;rw[EB]at h;omega);have hfz:firstE ((List.range m.vars.length).map (varR m))=0:=kn λx hx=>by
     obtain⟨j,hj,rfl⟩:=EH.1 hx;exact hb j (by rw[h3];exact ES.1 hj)
    rw[hfz,E4 (by simp)]at hR;have hdv:zf (domsM m):=λx hx=>by
     obtain⟨v,hv,rfl⟩:=EH.1 hx;refine⟨by have:=b2 v hv;omega,?_⟩;obtain⟨j,hj,rfl⟩:=Gm.1 hv;have hvj:=hb j (by omega);unfold varR at hvj;split at hvj;·cases hvj
     ·split at hvj;·cases hvj
      ·split at hvj;·cases hvj
       ·rename_i h6;have h7:chkR (dmM m j)=0:=F9 λe=>h6 (.inr e);unfold dmM at h7;rw[E0,E5 hj]at h7;exact(tZ h7).1.ok.1
    refine .B ?_;refine .D hds ?_;refine T.K (T.ind (λi:Nat=>⟨[(1,.optr 0 0 0 0),(6,.val true (ao (domsM m))),(56,.val false (.sl (m.cons.map cC))),(57,.val true (.int .i64 (m.cons.map cC).length)),(58,.val true (.int .i64 i))],[(0,some (.box false (cM m)))],1⟩) (λi=>i<=m.cons.length/\∀j,j<i->∀c,m.cons[j]? =some c->conR (domsM m) c=0) (λi=>m.cons.length-i) 0 ⟨Er _,λj hj=>EX hj (FK j)⟩ (λ_ _ h=>h) ?_);rintro k ⟨hk,hbc⟩ ih;refine .B ?_;refine T.cd Y (λh4=> ?_) (λh4=> ?_)
    ·have h4:k<m.cons.length:=(by have h:=h4;rw[EB]at h;omega);have hrow:(m.cons.map cC)[((k:Nat):Int).toNat]? =some (cC m.cons[k]):=(by simp[h4]);have hcb:=b4 _ (EA h4);have hcs:=rV (domsM m) m.cons[k] ⟨by omega,by omega,by omega,hcb.2.2.2,hck _ (EA h4)⟩ hdv;have hgk:m.cons[k]? =some m.cons[k]:=E5 h4;have stop:conR (domsM m) m.cons[k]≠0->R=conR (domsM m) m.cons[k]:=λhe=>by
      have:firstE (m.cons.map (conR (domsM m)))=conR (domsM m) m.cons[k]:=ko (i:=k) (λj hj x hx=>by
       rw[EJ]at hx;obtain⟨c,hc,rfl⟩:=Ej.1 hx;exact hbc j hj c hc) (by rw[EJ,hgk];rfl) he
      rw[this,E6 he]at hR;exact hR.symm
     have ih4:=λh:conR (domsM m) m.cons[k]=0=>ih (k+1) ⟨by omega,λj hj c hc=>by
      by_cases e:j=k;·rw[e,hgk]at hc;cases hc;exact h
      ·exact hbc j (by omega) c hc⟩ (by omega)
     generalize m.cons[k]=c at*;generalize conR (domsM m) c=cr at*;refine .B ?_;refine .F (r:=cC c) hrow ?_;refine .L ?_;refine .X ?_;refine .D hcs ?_;refine T.cd Y (λh5=> ?_) (λh5=> ?_)
     ·have e:=stop h5;subst e;refine .B ?_;exact r1
     ·have h5:cr=0:=F9 h5;refine .B ?_;rw[ai (l:=m.cons.length) h4 (by omega)];exact T.K (ih4 h5)
    ·have h4:k=m.cons.length:=(by have h:=h4;rw[EB]at h;omega);have hfc:firstE (m.cons.map (conR (domsM m)))=0:=kn λx hx=>by
      obtain⟨c,hc,rfl⟩:=EH.1 hx;obtain⟨j,hj⟩:=EK hc;exact hbc j (by have:=(E8.1 hj).1;omega) c hj
     rw[hfc,E4 (by simp)]at hR;have hgo:=xM (domsM m) m.goal b5.1 b5.2 hgk hdv;rw[hR]at hgo;refine .B ?_;refine .D hgo ?_;exact r1
theorem AV {D:List (List Int)}{p:PV}(h:Sh (bC D) p): ∃D':List (List Int),p=bC D'/\D'.map List.length=D.map List.length:=by
 cases h with
 |sl rs ts h=>
  have inner: ∀(x:List Int) (ts:List (List PV)),L2 (L2 Sh) (x.map cI) ts->∃x':List Int,ts=x'.map cI/\x'.length=x.length:=by
   intro x
   induction x with
   |nil=>intro ts h;cases h;exact⟨[],rfl,rfl⟩
   |cons r x ih=>
    intro ts h;cases h with
    |cons h1 h2=>
     obtain⟨x',rfl,e⟩:=ih _ h2;cases h1 with
     |cons h3 h4=>
      cases h4;cases h3;rename_i k;exact⟨k::x',rfl,by simp[e]⟩
  have: ∀(D:List (List Int)) (ts:List (List PV)),L2 (L2 Sh) (D.map cL) ts->∃D':List (List Int),ts=D'.map cL/\D'.map List.length=D.map List.length:=by
   intro D
   induction D with
   |nil=>intro ts h;cases h;exact⟨[],rfl,rfl⟩
   |cons x D ih=>
    intro ts h;cases h with
    |cons h1 h2=>
     obtain⟨D',rfl,e⟩:=ih _ h2;cases h1 with
     |cons h3 h4=>
      cases h4;cases h3 with
      |sl rs ts h5=>
       obtain⟨x',rfl,e2⟩:=inner x _ h5;exact⟨x'::D',rfl,by simp[e,e2]⟩
  obtain⟨D',rfl,e⟩:=this D ts h;exact⟨D',rfl,e⟩
def Ae (l:List Int):Prop:= ∀k∈l,-9223372036854775808<=k/\k<=9223372036854775807
structure ModX (m:Mod):Prop where
 i:ModI m
 ck: ∀c∈m.cons,Ae c.coefs
 gk:Ae m.goal.coefs
theorem Dp {m:Mod}(h:ModX m):ModK (boundM m):=by
 refine⟨qL m,λc hc=> .inr ?_,.inr λk hk=>h.gk k (FI hk)⟩;obtain⟨u,hu,rfl⟩:=EH.1 hc;exact λk hk=>h.ck u (FI hu) k (FI hk)
def B8 (cons:List Con)(op:Value):Fnd (List (List Int)):=⟨36,[.raw op],op,.slice none 0 0,.slice none 0 0,λ_ g1 _=> .box true [.raw g1],λ_ _ _=> .sl 3 1 true [],λ_ _ _=> .sl 3 1 true [],λt=> .sl 24 1 true (t.map cL),λ_=> .sl 3 1 true [],λ_=>cons,Am,λt=>t.length⟩
theorem CR (kb sb:Nat)(m:Mod)(left:Int)(d0:aa)(op:Value):FndOK (B8 m.cons op) kb sb m left d0 λ_=>True:=by
 refine⟨λt a g1 g2 nodes short over _ hsz _=> ?_⟩;have hsz:t.length<=1099511627776:=hsz;refine SpecX.body (fn:=Tryz.f36) [1000,1001,1002,1003,1004,1005] [1006,1005] Y Y Y Y λw0 Z=> ?_;refine T.sub (Rel.derawp (s:=1) (g:=1001) Y Y Y) ?_;refine .B ?_;refine J.sub (Rel.deraw (s:=4) (g:=1004) Y Y) ?_;refine .V ?_;refine J.a Y Y Y Y Y Y Y Y Y Y Y Y Y Y Y Y Y (cy Y) (Em (F7 _ (show(t.map cL).length+1<=1099511627777 by rw[EB];omega)) (show 1099511627777*24<=140737488355328 by decide)) ?_;refine J.name 1006 (s:=7) Y Y Y λu=> ?_;refine J.sub (Rel.raw (s:=7) (g:=1006) Y (.inl Y) Y Y Y) ?_;refine .X ?_;have e:t.map cL++[[aq a]]=(t++[a]).map cL:=(by simp[cL]);refine⟨[0,1,2,3],[6,5],[u,g2],⟨rfl,⟨_,rfl,rfl,rfl⟩,rfl,⟨_,rfl,rfl,rfl⟩,rfl,⟨_,rfl,rfl,rfl⟩,rfl,⟨_,rfl,rfl,rfl⟩,trivial⟩,⟨rfl,⟨_,rfl,congrArg (λl=>Own.sl 24 1 true l) e,rfl⟩,rfl,⟨_,rfl,rfl,rfl⟩,trivial⟩,rfl,.val Y Y (λ_=>rfl) .nil⟩
theorem yE (m:Mod)(left e:Int)(he:e≠0)(hck:Spec Tryz.prog 64 false [.agg (cM m)] [.val (.int .i64 e)]):Spec Tryz.prog 13 false [.agg (cM m),.int .i64 left] [.own 24 1 [],.val (.bool false),.val (.int .i64 0),.val (.int .i64 e)]:=by
 refine Spec.body Tryz.func13 Y Y Y λw0 Z0=> ?_;refine .B ?_;refine .D (zu m left e he hck) ?_;refine T.ct2 Y (by simpa using he) ?_;refine .B ?_;exact⟨_,.ownN Y (.v Y Y Y (λ_=>rfl) (.v Y Y Y (λ_=>rfl) (.v Y Y Y (λ_=>rfl) .nil)))⟩
theorem DU {ns:List Value}{n:Nat}(h:ns.length=n)(hn:n=5): ∃a b c d e,ns=[a,b,c,d,e]:=by
 subst hn
 match ns,h with
 | [a,b,c,d,e],_=>exact⟨a,b,c,d,e,rfl⟩
noncomputable def srchA (m:Mod)(left:Int):Srch (List (List Int)):=lookG left (λ_=>m.cons) Am (weight (domsM m)+1) (domsM m) ⟨0,false,false,[]⟩
set_option maxHeartbeats 1000000 in
theorem mP (m:Mod)(hm:ModB m)(hr:RunOk (domsM m) m.cons)(hw:weight (domsM m)<=1000000)(left:Int)(hleft:left<=1099511627776)(hck:Spec Tryz.prog 64 false [.agg (cM m)] [.val (.int .i64 0)]):
  Spec Tryz.prog 13 false [.agg (cM m),.int .i64 left] [.own 24 1 ((srchA m left).st.map cL),.val (.bool (!(srchA m left).short)),.val (.int .i64 (srchA m left).nodes),.val (.int .i64 0)]:=by
 refine Spec.body Tryz.func13 Y Y Y λw0 Z0=> ?_;have hdl:(domsM m).length<=1024:=(by have:=hm.vl;simpa[domsM]using this);refine .B ?_;refine J.cx [] [] [1000,1001,1002,1006,1007] (nN m hm hr.gd.few left hck) trivial (λns hns=> ?_);obtain⟨p,sp,lv,cv,mv,rfl⟩:=DU hns Y;refine .M ?_;refine T.cf Y ?_;refine T.canon (keep:=[8,1000,1001,1002,1006,1007]) (os:=[1000,1001,1002,1006,1007]) Y ?_;refine T.knownp 1000 0 Y Y λkb e1=> ?_;refine T.knownp 1001 1 Y Y λsb e2=> ?_;obtain rfl:p=pV kb:=e1;obtain rfl:sp=pV sb:=e2;refine .M ?_;refine J.alr Y Y Y Y Y Y Y ?_;refine J.name 1003 (s:=10) Y Y Y λop=> ?_;refine J.sub (Rel.raw (s:=10) (g:=1003) Y (.inl Y) Y Y Y) ?_;refine J.sub (Rel.derawp (s:=8) (g:=1000) Y Y Y) ?_;refine .M ?_;refine .W ?_;refine .M ?_;refine J.sub (Rel.ownN 1004 3 1) ?_;refine J.sub (Rel.ownN 1005 3 1) ?_;refine J.sub (Rel.ownN 1008 24 1) ?_;refine J.sub (Rel.ownN 1009 3 1) ?_;refine J.sub (Rel.canon (keep:=[8,10,24,1000,1001,1002,1003,1004,1005,1006,1007,1008,1009]) (os:=[1000,1001,1002,1003,1004,1005,1006,1007,1008,1009]) Y) (?_:J _ _ _ _ (nE (B8 m.cons op) kb sb m left [(8,.optr 0 0 0 0),(10,.val true (.raw op)),(24,.optr 0 0 0 0)] lv cv mv (.slice none 0 0) (.slice none 0 0) (domsM m) [] [] ⟨0,false,false,[]⟩) _);have hlk: ∃e ch',wQ (B8 m.cons op) kb sb m left 37 [(true,.raw (pV kb))] lv cv mv (.slice none 0 0) (.slice none 0 0) (domsM m) e [] ch' [] ⟨0,false,false,[]⟩ (srchA m left):=⟨_,_,rZ (B8 m.cons op) kb sb m left (domsM m) (λ_=>True) (Bz hr) (CR kb sb m left (domsM m) op) (λt a=>Nat.le_of_eq (EZ)) hleft hdl (weight (domsM m)+1) (domsM m) ⟨0,false,false,[]⟩ lv cv mv (.slice none 0 0) (.slice none 0 0) [] [] (Fd _) hr.gd leD.rfl' trivial (Er _) Y (by simp;omega) (by simp;omega)⟩;obtain⟨e,ch',hlk⟩:=hlk;generalize srchA m left=r at*;refine J.cx [0,1,2,3,4,5,6,7,8,9] [1000,1001,1002,1003,1004,1005,1006,1007,1008,1009] [1006,1007,1008,1009] hlk ⟨rfl,⟨_,rfl,rfl,rfl⟩,rfl,⟨_,rfl,rfl,rfl⟩,rfl,⟨_,rfl,rfl,rfl⟩,rfl,⟨_,rfl,rfl,rfl⟩,rfl,⟨_,rfl,rfl,rfl⟩,rfl,⟨_,rfl,rfl,rfl⟩,rfl,⟨_,rfl,rfl,rfl⟩,rfl,⟨_,rfl,rfl,rfl⟩,rfl,⟨_,rfl,rfl,rfl⟩,rfl,⟨_,rfl,rfl,rfl⟩,trivial⟩ (λns hns=> ?_);obtain⟨a1,a2,a3,a4,rfl⟩:=BD hns Y;refine .M ?_;refine T.K (?_:T _ _ (nE (B8 m.cons op) kb sb m left [(8,.optr 0 0 0 0),(10,.val true (.raw op))] lv a1 a2 a3 a4 e ch' [] r) _);refine T.sub (Rel.derawp (s:=10) (g:=1003) Y Y Y) ?_;refine .A ?_
 conv=>whnf
 iterate 14 refine J.H Y ?_
 refine J.nil ?_;refine T.sub (Rel.deraw (s:=4) (g:=1008) Y Y) ?_;refine .B ?_;exact⟨_,.o Y Y Y (λ_=> .inl Y) (by simp) (.v rfl rfl rfl (λ_=>rfl) (.v Y Y Y (λ_=>rfl) (.v Y Y Y (λ_=>rfl) .nil)))⟩
theorem Bv (a:List Int)(v:Int)(hl:a.length*8<=140737488355328):Spec Tryz.prog 91 false [aq a,.int .i64 v] [.val (.int .i64 (atR a v))]:=by
 refine Spec.body Tryz.func91 Y Y Y λw0 Z0=> ?_;unfold atR;refine .B ?_;refine J.g Y Y Y (λh=> ?_) (λh=> ?_)
 ·refine .B ?_;refine T.ct Y ?_;refine .B ?_;exact⟨_,.v Y Y (by rw[E6 h]) (λ_=>rfl) .nil⟩
 ·refine .B ?_;refine T.cd Y (λh2=> ?_) (λh2=> ?_)
  ·refine .B ?_;refine⟨_,.v Y Y ?_ (λ_=>rfl) .nil⟩;rw[E4 h,E0,FD (by simp at h2;omega)];rfl
  ·have h2:v.toNat<a.length:=(by simp at h2;omega);refine .B ?_;refine J.i Y Y Y Y Y Y Y Y Y (r:=cI a[v.toNat]) (by omega) (ax h2) Y ?_;refine .B ?_;refine⟨_,.v Y Y ?_ (λ_=>rfl) .nil⟩;rw[E4 h,E0,E5 h2];rfl
theorem tw (a vars:List Int)(hv:vars.length<=1048576)(hl:a.length*8<=140737488355328):Spec Tryz.prog 81 false [aq a,aq vars] [.own 3 1 ((pickedR vars a).map cI)]:=by
 refine Spec.body Tryz.func81 Y Y Y λw0 Z0=> ?_;refine .B ?_;refine J.mk0 vars.length (by simp) (show 8*vars.length<=_ by omega) (by omega) Y Y Y Y Y Y Y Y Y Y Y ?_;refine .B ?_;refine T.K (T.ind (λi:Nat=>⟨[(0,.val false (aq a)),(5,.ref 0),(11,.val false (aq vars)),(12,.val true (.int .i64 (vars.map cI).length)),(13,.val true (.int .i64 i))],[(0,some (.sl 3 1 true ((pickedR (vars.take i) a).map cI)))],1⟩) (λi=>i<=vars.length) (λi=>vars.length-i) 0 (by simp) (λ_ _ h=>h) ?_);rintro i hi ih;refine .B ?_;refine T.cd Y (λh1=> ?_) (λh1=> ?_)
 ·have h1:i<vars.length:=(by simpa using h1);refine .B ?_;refine .F (r:=cI vars[i]) (ax h1) ?_;refine .D (Bv a vars[i] hl) ?_;refine .V ?_;refine J.aI Y Y Y Y Y Y Y Y Y Y Y Y Y Y Y Y Y Y Y (by simp[pickedR];omega) ?_;refine .B ?_;rw[ai (l:=vars.length) (by omega) (by omega)];have e:pickedR (vars.take i) a++[atR a vars[i]]=pickedR (vars.take (i+1)) a:=by
   rw[ED h1];unfold pickedR;rw[F4];rfl
  rw[e];exact T.K (ih (i+1) (by omega) (by omega))
 ·have h1:i=vars.length:=(by simp at h1;omega);subst h1;refine .B ?_;refine⟨_,.o Y Y (by rw[Ep]) (λ_=> .inl Y) (by simp) .nil⟩
def dotS (a b:List Int):Int:=((a.zip b).map λp=>p.1*p.2).sum
theorem qF: ∀(a b:List Int),(∀k∈a,CoefOk k)->(∀x∈b,-1048576<=x/\x<=1048576)->-ar a<=dotS a b/\dotS a b<=ar a
 |k::a,x::b,ha,hb=>by
  have ih:=qF a b (λk h=>ha k (.tail _ h)) (λx h=>hb x (.tail _ h));have hx:=hb x (.head _);have hm:=eB k x hx.1 hx.2;have e1:ar (k::a)=aL k*1048576+ar a:=(by simp[ar]);have e2:dotS (k::a) (x::b)=k*x+dotS a b:=(by simp[dotS]);rw[e1,e2];generalize k*x=y at*;omega
 | [],b,_,_=>by simp[dotS,ar]
 |k::a,[],ha,_=>by
  have:=bf (k::a);simp[dotS];omega
theorem BX (a b:List Int)(k x:Int)(h:a.length=b.length):dotS (a++[k]) (b++[x])=dotS a b+k*x:=by
 unfold dotS;rw[List.zip_append h];simp
theorem iC: ∀(a:List Int) (i:Nat),ar (a.take i)<=ar a
 | [],i=>by simp
 |k::a,0=>by rw[List.take_zero];exact bf _
 |k::a,i+1=>by
  have:=iC a i;have e: ∀l,ar (k::l)=aL k*1048576+ar l:=λl=>(by simp[ar]);rw[Hl,e,e];omega
theorem Ad (a b:List Int)(hl:a.length=b.length)(hal:a.length*8<=140737488355328)(ha: ∀k∈a,CoefOk k)(hb: ∀x∈b,-1048576<=x/\x<=1048576)(hw:ar a<=4611686018427387904):Spec Tryz.prog 80 false [aq a,aq b] [.val (.int .i64 (dotS a b)),.val (.bool true)]:=by
 refine Spec.body Tryz.func80 Y Y Y λw0 Z0=> ?_;refine .B ?_;refine T.cf2 Y (by simp[hl]) ?_;refine .B ?_;refine T.K (T.ind (λi:Nat=>⟨[(1,.val false (aq b)),(6,.val true (.int .i64 (dotS (a.take i) (b.take i)))),(7,.val true (.bool true)),(17,.val false (aq a)),(18,.val true (.int .i64 (a.map cI).length)),(19,.val true (.int .i64 i))],[],0⟩) (λi=>i<=a.length) (λi=>a.length-i) 0 (by simp) (λ_ _ h=>h) ?_);rintro i hi ih;refine .B ?_;refine T.cd Y (λh1=> ?_) (λh1=> ?_)
 ·have h1:i<a.length:=(by simpa using h1);have h2:i<b.length:=(by omega);refine .B ?_;refine .F (r:=cI a[i]) (ax h1) ?_;refine .F (r:=cI b[i]) (ax h2) ?_;have hx:=hb b[i] (EA h2);have hk:=ha a[i] (EA h1);have hki:=fI hk;have hk2:=hk.2;have hmul:=np a[i] b[i] (by omega) (by omega) (by omega) (by omega);rw[j4 hk hx.1 hx.2]at hmul;have e1:dotS (a.take (i+1)) (b.take (i+1))=dotS (a.take i) (b.take i)+a[i]*b[i]:=by
   rw[ED h1,ED h2,BX _ _ _ _ (by rw[F0,F0];omega)]
  have hlo:=qF (a.take i) (b.take i) (λk h=>ha k (FI h)) (λx h=>hb x (FI h));have hlo2:=qF (a.take (i+1)) (b.take (i+1)) (λk h=>ha k (FI h)) (λx h=>hb x (FI h));have hw1:=iC a i;have hw2:=iC a (i+1);have hm:=eB a[i] b[i] hx.1 hx.2;have hkk:=fI hk;have hadd:=kg (dotS (a.take i) (b.take i)) (a[i]*b[i]);have e2:mH (dotS (a.take i) (b.take i)) (a[i]*b[i])=(dotS (a.take (i+1)) (b.take (i+1)),true):=by
   unfold mH;rw[<-e1,E6];rw[EL,EL,aZ,aZ,aZ];generalize a[i]*b[i]=y at*;omega
  rw[e2]at hadd;have ih1:=ih (i+1) (by omega) (by omega);generalize dotS (a.take (i+1)) (b.take (i+1))=y1 at*;refine .D hmul ?_;refine T.cf Y ?_;refine .B ?_;refine .D hadd ?_;refine T.cf Y ?_;refine .B ?_;rw[ai (l:=a.length) (by omega) (by omega)];exact T.K ih1
 ·have h1:i=a.length:=(by simp at h1;omega);subst h1;refine .B ?_;refine⟨_,.v Y Y (by rw[Ep,hl,Ep]) (λ_=>rfl) (.v Y Y Y (λ_=>rfl) .nil)⟩
def cY (g:Goal)(a:List Int):Int:=if g.kind=0 then 0 else cU g.vars g.coefs a
theorem ku: ∀(vars coefs a:List Int),dotS coefs (pickedR vars a)=cU vars coefs a
 |v::vars,k::coefs,a=>by
  have:=ku vars coefs a;unfold dotS cU pickedR at*;simp only[Ek,G6,FX,this]
 | [],coefs,a=>by simp[dotS,cU,pickedR]
 |_::_,[],a=>by simp[dotS,cU,pickedR]
structure GoalOk (g:Goal):Prop where
 len:g.vars.length=g.coefs.length
 few:g.vars.length<=1024
 ck: ∀k∈g.coefs,CoefOk k
 weight:ar g.coefs<=4611686018427387904
theorem vE (g:Goal)(a:List Int)(hg:g.kind≠0->GoalOk g)(hal:a.length*8<=140737488355328)(ha: ∀x∈a,-1048576<=x/\x<=1048576):Spec Tryz.prog 45 false [.agg (cG g),aq a] [.val (.int .i64 (cY g a))]:=by
 refine Spec.body Tryz.func45 Y Y Y λw0 Z0=> ?_;unfold cY;refine .B ?_;refine T.cd Y (λh1=> ?_) (λh1=> ?_)
 ·rw[E6 h1];refine .B ?_;exact r1
 ·rw[E4 h1];obtain⟨h2,h3,h4,h5⟩:=hg h1;have hat: ∀v,-1048576<=atR a v/\atR a v<=1048576:=λv=>by
   unfold atR;split;·omega
   ·rw[E0];cases h:a[v.toNat]? with
    |none=>simp
    |some x=>exact ha x (EC h)
  have hd:=Ad g.coefs (pickedR g.vars a) (by simp[pickedR,h2]) (by omega) h4 (λx hx=>by obtain⟨v,_,rfl⟩:=EH.1 hx;exact hat v) h5;rw[ku]at hd;refine .B ?_;refine .D (tw a g.vars (by omega) hal).frz ?_;refine .D hd ?_;exact r1
def iA (g:Goal)(v:Int):Con:=⟨0,g.vars,if g.kind=2 then g.coefs.map (- ·)else g.coefs,0,if g.kind=2 then -v-1 else v-1,[],0⟩
theorem wM (g:Goal)(v:Int)(hg:GoalOk g)(hv: -4611686018427387904<=v/\v<=4611686018427387904):Spec Tryz.prog 44 false [.agg (cG g),.int .i64 v] [.val (.agg (cC (iA g v)))]:=by
 refine Spec.body Tryz.func44 Y Y Y λw0 Z0=> ?_;obtain⟨h1,h2,h3,h4⟩:=hg;have hc1:=(ef g.vars (by omega)).frz;have hc2:=ef g.coefs (by omega);refine .B ?_;refine .L ?_;refine .M ?_;refine T.rdm 10 Y (by kernel_rfl) Y ?_;refine .M ?_;refine .C hc1 ?_;refine .M ?_;refine .C hc2 ?_;refine .M ?_;refine J.br Y Y Y Y Y ?_;refine .M ?_;refine .L ?_;refine J.nil ?_;refine J.name 1000 (s:=12) Y Y Y λu=> ?_;refine J.sub (Rel.agraw (s:=15) [(2,1000)] Y Y) ?_;refine .X ?_;refine T.cd Y (λhk=> ?_) (λhk=> ?_)
 ·have e0:iA g v=⟨0,g.vars,g.coefs.map (- ·),0,-v-1,[],0⟩:=(by unfold iA;rw[E6 hk,E6 hk]);rw[e0];refine .B ?_;refine J.sub (Rel.deraw (s:=20) (g:=1000) Y Y) ?_;refine .B ?_;refine T.K (T.ind (λi:Nat=>⟨[(1,.val false (.int .i64 v)),(4,.optr 0 0 0 0),(5,.optr 1 0 0 0),(21,.val true (.int .i64 (g.coefs.map cI).length)),(22,.val true (.int .i64 i)),(1000,.eq u 2)],[(0,some (.box true [.int .i64 0,.sl [],.sl [],.int .i64 0,.int .i64 0,.sl [],.int .i64 0])),(1,some (.box true [.int .i64 0,aq g.vars,.raw u,.int .i64 0,.int .i64 (IntKind.i64.wrap (v-1)),.sl [],.int .i64 0])),(2,some (.sl 3 1 true ((((g.coefs.take i).map (- ·))++g.coefs.drop i).map cI)))],3⟩) (λi=>i<=g.coefs.length) (λi=>g.coefs.length-i) 0 (by simp) (λ_ _ h=>h) ?_);rintro i hi ih;refine .B ?_;refine T.cd Y (λh5=> ?_) (λh5=> ?_)
  ·have h5:i<g.coefs.length:=(by simpa using h5);have hml:((g.coefs.take i).map (- ·)).length=i:=(by simp;omega);have hL:(((g.coefs.take i).map (- ·))++g.coefs.drop i).length=g.coefs.length:=(by rw[EZ,hml,HZ];omega);have hrow:((((g.coefs.take i).map (- ·))++g.coefs.drop i).map cI)[(i:Int).toNat]? =some (cI g.coefs[i]):=by
    rw[Eo,EJ,F1 (by omega),hml,HJ,Ge,G3,E5 h5];rfl
   have hset:(((g.coefs.take i).map (- ·))++g.coefs.drop i).set i (- g.coefs[i])=((g.coefs.take (i+1)).map (- ·))++g.coefs.drop (i+1):=by
    rw[H0 _ _ (by omega),hml,HJ,EP h5,HR,ED h5,F4,F5];rfl
   have hck:=fI (h3 _ (EA h5));refine .M ?_;refine T.rdm 10 Y (by kernel_rfl) Y ?_
   iterate 1 refine J.H Y ?_
   refine J.lr 1000 (q:=2) (u:=u) Y Y Y Y Y Y Y Y Y ?_
   iterate 2 refine J.H Y ?_
   refine J.lr 1000 (q:=2) (u:=u) Y Y Y Y Y Y Y Y Y ?_;refine .M ?_;refine J.io Y Y Y Y Y Y Y Y Y (by omega) (by rw[EB,hL];omega) Y ?_;refine J.lo Y Y Y Y Y Y (r:=cI g.coefs[i]) hrow Y ?_;refine .M ?_;refine J.io Y Y Y Y Y Y Y Y Y (by omega) (by rw[EB,hL];omega) Y ?_;refine J.nil ?_;have ew:IntKind.i64.wrap (0-g.coefs[i])= -g.coefs[i]:=(by rw[af (by omega) (by omega)];omega);rw[ew];refine J.w1 Y Y Y Y Y Y Y Y Y Y Y (z:= -g.coefs[i]) (λ_=>rfl) (by rw[hL];omega) ?_;rw[Eo,hset];refine .M ?_;rw[ai h5 (by omega)];exact T.K (ih (i+1) (by omega) (by omega))
  ·have h5:i=g.coefs.length:=(by simp at h5;omega);subst h5;rw[Ep,FR,FU];refine .B ?_;refine .W ?_;refine J.sub (Rel.cellF 1000 2 (q:=1) (n:=2) (λb h=>h) Y Y Y Y Y) ?_;refine .B ?_;refine .X ?_;exact⟨_,.cell Y Y (by rw[af (n:=0-v) (by omega) (by omega),af (n:=0-v-1) (by omega) (by omega),Int.zero_sub];rfl) (λ_=>rfl) .nil⟩
 ·have e0:iA g v=⟨0,g.vars,g.coefs,0,v-1,[],0⟩:=(by unfold iA;rw[E4 hk,E4 hk]);rw[e0];refine T.sub (Rel.cellF 1000 2 (q:=3) (n:=2) (λb h=>h) Y Y Y Y Y) ?_;refine .B ?_;refine .X ?_;exact⟨_,.cell Y Y (by rw[af (by omega) (by omega)];rfl) (λ_=>rfl) .nil⟩
def BP (g:Goal)(_:Option (List Int))(a:List Int):Option (List Int)×Bool:=(some a,decide (g.kind=0))
def kC (cons:List Con)(g:Goal)(t:Option (List Int)):List Con:=match t with
 |none=>cons
 |some a=>if g.kind=0 then cons else cons++[iA g (cY g a)]
def oo (m:Mod)(kb:Nat)(bp sp kp:Value):Fnd (Option (List Int)):=⟨42,[.raw bp,.raw sp,.ptr (cM m),.raw kp],bp,sp,kp,λt _ _=> .box true [aq (t.getD [])],λt _ _=> .box true [.bool t.isSome],λ_ _ _=> .box true [.raw (pV kb)],λ_=> .sl 3 1 true [],λ_=> .sl 3 1 true [],kC m.cons m.goal,BP m.goal,λ_=>0⟩
theorem iw {σ:Type}{d0:aa}{con:σ->List Con}{t:σ}{a:List Int}(gd:GoodD d0.length d0)(h:wS d0 con t a):a.length=d0.length/\(∀i,i<d0.length->a.getD i 0∈vals (d0.getD i []))/\∀x∈a,-1048576<=x/\x<=1048576:=by
 obtain⟨e,ge,hle,_,hs⟩:=h;obtain⟨s1,s2⟩:=zr ge hs;have hv: ∀i,i<d0.length->a.getD i 0∈vals (d0.getD i []):=λi hi=>by
  have h1:=s2 (i:Int) (by omega) (by omega);have h2:=hle.2 (i:Int) (atR a i) (by omega) (by rw[h1];simp);unfold domAt atR at h2;rwa[E4 (by omega),Eo]at h2
 refine⟨s1,hv,λx hx=> ?_⟩;obtain⟨i,hi,rfl⟩:=Gm.1 hx;have h1:=hv i (by omega);have h1:a[i]∈vals (d0.getD i []):=(by rw[E0 (l:=a),E5 hi]at h1;exact h1);rw[E0,E5 (by omega)]at h1;exact(gd.few.fine _ (EA _)).val _ h1
set_option maxHeartbeats 1000000 in
theorem B1 (kb sb:Nat)(m:Mod)(left:Int)(d0:aa)(gd:GoodD d0.length d0)(hdl:d0.length<=1024)(hcl:m.cons.length<=4095)(hg:m.goal.kind≠0->GoalOk m.goal)(bp sp kp:Value)(I:Option (List Int)->Prop):FndOK (oo m kb bp sp kp) kb sb m left d0 I:=by
 refine⟨λt a g1 g2 nodes short over _ _ hf=> ?_⟩;obtain⟨hal,_,hav⟩:=iw gd hf;refine SpecX.body (fn:=Tryz.f42) [1000,1001,1002,1003,1004,1005] [1004,1005] Y Y Y Y λw0 Z=> ?_;refine T.sub (Rel.derawp (s:=1) (g:=1001) Y Y Y) ?_;refine T.sub (Rel.derawp (s:=2) (g:=1002) Y Y Y) ?_;refine T.sub (Rel.derawp (s:=4) (g:=1003) Y Y Y) ?_;refine .B ?_;refine .W ?_;refine .W ?_;refine J.sub (Rel.canon (keep:=[0,3,4,1000,1001,1002,1003,1004,1005]) (os:=[1000,1001,1002,1003,1004,1005]) Y) (?_:J _ _ _ _ ⟨[(0,.val true (aq a)),(3,.val false (.ptr (cM m))),(4,.optr 3 0 0 0),(1000,.eq (pV kb) 0),(1001,.eq bp 1),(1002,.eq sp 2),(1003,.eq kp 3),(1004,.eq g1 4),(1005,.eq g2 5)],[(0,some (kV m (pV sb) (kC m.cons m.goal t) left nodes short over (oo m kb bp sp kp).pv)),(1,some (.box true [aq a])),(2,some (.box true [.bool true])),(3,some (.box true [.raw (pV kb)])),(4,some (.sl 3 1 true [])),(5,some (.sl 3 1 true []))],6⟩ _);refine .B ?_;refine T.cd Y (λhk=> ?_) (λhk=> ?_)
 ·have e1:(oo m kb bp sp kp).fnd t a=(some a,true):=(by show(some a,decide (m.goal.kind=0))=_;rw[EF hk]);rw[e1];refine .B ?_;have e2: ∀u,kC m.cons m.goal u=m.cons:=λu=>(by cases u with|none=>rfl|some b=>exact E6 hk);refine⟨[0,1,2,3],[4,5],[g1,g2],⟨rfl,⟨_,rfl,?_,rfl⟩,rfl,⟨_,rfl,rfl,rfl⟩,rfl,⟨_,rfl,rfl,rfl⟩,rfl,⟨_,rfl,rfl,rfl⟩,trivial⟩,⟨rfl,⟨_,rfl,rfl,rfl⟩,rfl,⟨_,rfl,rfl,rfl⟩,trivial⟩,rfl,.val Y Y (λ_=>rfl) .nil⟩;show Own.reg _ _=kV m (pV sb) (kC m.cons m.goal (some a)) left nodes short over _;rw[e2,e2];rfl
 ·have e1:(oo m kb bp sp kp).fnd t a=(some a,false):=(by show(some a,decide (m.goal.kind=0))=_;rw[EE hk]);rw[e1];have hgo:=hg hk;have hgo2:=hgo;obtain⟨g4,g5,g6,g7⟩:=hgo2;have hat: ∀v,-1048576<=atR a v/\atR a v<=1048576:=λv=>by
   unfold atR;split;·omega
   ·rw[E0];cases h:a[v.toNat]? with
    |none=>simp
    |some x=>exact hav x (EC h)
  have hvb: -4611686018427387904<=cY m.goal a/\cY m.goal a<=4611686018427387904:=by
   unfold cY;rw[E4 hk,<-ku];have:=qF m.goal.coefs (pickedR m.goal.vars a) g6 (λx hx=>by obtain⟨v,_,rfl⟩:=EH.1 hx;exact hat v);omega
  have hbe:=wM m.goal (cY m.goal a) hgo hvb;have e2:kC m.cons m.goal (some a)=m.cons++[iA m.goal (cY m.goal a)]:=E4 hk;have hva:=vE m.goal a hg (by omega) hav;have hcc:=om m.cons (by omega);refine .M ?_;refine T.rdw 15 Y (by kernel_rfl) Y ?_;refine J.lp 1000 (b:=kb) (q:=0) Y ?_;refine .M ?_;refine .C hcc ?_;refine .M ?_;refine .C hva ?_;refine .M ?_;refine .C hbe ?_;refine .M ?_;refine .V ?_;refine J.ad Y Y Y Y Y Y Y Y Y Y Y Y Y Y Y Y Y Y (cy Y) (Em (F7 _ (show(m.cons.map cC).length+1<=4096 by rw[EB];omega)) (show 4096*104<=140737488355328 by decide)) ?_;refine .M ?_;refine⟨by kernel_rfl,?_⟩;refine J.sub (Rel.frzX (s:=24) (o:=7) Y Y ⟨.inr ⟨1000,_,_,rfl,rfl,by decide⟩,.inr ⟨1001,_,_,rfl,rfl,by decide⟩,.inr ⟨1002,_,_,rfl,rfl,by decide⟩,.inr ⟨1003,_,_,rfl,rfl,by decide⟩,.inr ⟨1004,_,_,rfl,rfl,by decide⟩,.inr ⟨1005,_,_,rfl,rfl,by decide⟩,trivial⟩) ?_;refine .W ?_;refine .M ?_;have e3:m.cons.map cC++[cC (iA m.goal (cY m.goal a))]=(kC m.cons m.goal (some a)).map cC:=(by rw[e2,F4];rfl);refine⟨[0,1,2,3],[4,5],[g1,g2],⟨rfl,⟨_,rfl,?_,rfl⟩,rfl,⟨_,rfl,rfl,rfl⟩,rfl,⟨_,rfl,rfl,rfl⟩,rfl,⟨_,rfl,rfl,rfl⟩,trivial⟩,⟨rfl,⟨_,rfl,rfl,rfl⟩,rfl,⟨_,rfl,rfl,rfl⟩,trivial⟩,rfl,.val Y Y (λ_=>rfl) .nil⟩;show Own.reg _ _=kV m (pV sb) (kC m.cons m.goal (some a)) left nodes short over _;unfold kV bP;rw[<-e3];rfl
theorem goal_kinds {d:aa}{g:Goal}(h:eZ d g=0):(g.kind=0/\g.vars=[]/\g.coefs=[])∨((g.kind=1∨g.kind=2)/\conR d (eU g)=0):=by
 unfold eZ at h;split at h;·rename_i h1;exact .inr ⟨h1,h⟩
 ·split at h;·cases h
  ·rename_i h1 h2;exact .inl ⟨by omega,EQ (by omega),EQ (by omega)⟩
theorem wP (k:Int):aL (-k)=aL k:=by unfold aL;omega
theorem uv (l:List Int):ar (l.map (- ·))=ar l:=by
 unfold ar;rw[Fi];refine congrArg List.sum (F6 λk _=> ?_);show aL (-k)*1048576=_;rw[wP]
structure GoalIn (d:aa)(g:Goal):Prop where
 few:g.vars.length<=1024
 kind:g.kind=0∨((g.kind=1∨g.kind=2)/\SumFine d g.vars g.coefs/\g.vars.Nodup/\0<g.vars.length/\ar g.coefs<=4611686018427387904)
theorem yZ {d:aa}{g:Goal}(gd:GoodD d.length d)(hf:g.vars.length<=1024)(hc:g.coefs.length<=1024)(h:eZ d g=0):GoalIn d g:=by
 refine⟨hf,?_⟩;rcases goal_kinds h with ⟨h1,_⟩|⟨h1,h2⟩;·exact .inl h1
 ·have hcb:ConB (eU g):=⟨by show(g.vars.length+1)*8<=_;omega,by show g.coefs.length*8<=_;omega,by simp[eU],by simp[eU]⟩;have hs:=pc hcb h2 Y gd.few.fine gd.few.small;obtain⟨_,h3⟩:=qM (kw h2);have:=bA (eU g).rhs;exact .inr ⟨h1,hs.fine,hs.nod,hs.pos,by have h3:ar g.coefs+aL (eU g).rhs<=_:=h3;omega⟩
theorem GoalIn.ok {d:aa}{g:Goal}(h:GoalIn d g)(hk:g.kind≠0):GoalOk g:=by
 rcases h.kind with h1|⟨_,h1,_,_,h2⟩;·exact EX h1 hk
 ·exact⟨h1.len,h.few,h1.ck,h2⟩
theorem C3 {a:List Int}(h: ∀x∈a,-1048576<=x/\x<=1048576)(v:Int): -1048576<=atR a v/\atR a v<=1048576:=by
 unfold atR;split;·omega
 ·rw[E0];cases e:a[v.toNat]? with
  |none=>simp
  |some x=>exact h x (EC e)
theorem uw {g:Goal}{a:List Int}(hg:g.kind≠0->GoalOk g)(h: ∀x∈a,-1048576<=x/\x<=1048576): -4611686018427387904<=cY g a/\cY g a<=4611686018427387904:=by
 unfold cY;split;·omega
 ·rename_i hk;obtain⟨_,_,g6,g7⟩:=hg hk;rw[<-ku];have:=qF g.coefs (pickedR g.vars a) g6 (λx hx=>by obtain⟨v,_,rfl⟩:=EH.1 hx;exact C3 h v);omega
theorem AD {d:aa}{g:Goal}(h:GoalIn d g)(hk:g.kind≠0){v:Int}(hv: -4611686018427387904<=v/\v<=4611686018427387904):RightC d (iA g v):=by
 rcases h.kind with h1|⟨h1,h2,h3,h4,h5⟩;·exact EX h1 hk
 ·refine .inr ⟨rfl,?_⟩;unfold iA;by_cases hk2:g.kind=2
  ·rw[E6 hk2,E6 hk2];exact⟨⟨by show g.vars.length=(g.coefs.map (- ·)).length;rw[EB];exact h2.len,h2.vl,h2.vin,λk hk=>by
    obtain⟨j,hj,rfl⟩:=EH.1 hk;have:=h2.ck j hj;exact⟨by have:=this.1;omega,by rw[wP];exact this.2⟩,h2.dom,h2.dl⟩,h3,h4,by show(0:Int)<=0/\(0:Int)<=2;omega,by show ar (g.coefs.map (- ·))<=_;rw[uv];omega,by show aL (-v-1)<=_;unfold aL;omega⟩
  ·rw[E4 hk2,E4 hk2];exact⟨h2,h3,h4,by show(0:Int)<=0/\(0:Int)<=2;omega,by show ar g.coefs<=_;omega,by show aL (v-1)<=_;unfold aL;omega⟩
def IB (t:Option (List Int)):Prop:= ∀a,t=some a->∀x∈a,-1048576<=x/\x<=1048576
theorem vP {d0:aa}{cons:List Con}{g:Goal}(h:RunOk d0 cons)(hl:cons.length<=4095)(hg:GoalIn d0 g):SrchOK d0 (kC cons g) (BP g) IB:=by
 refine⟨λt ht=> ?_,λt a ht hf b e=> ?_⟩
 ·cases t with
  |none=>exact h
  |some a=>
   by_cases hk:g.kind=0
   ·have e:kC cons g (some a)=cons:=E6 hk;rw[e];exact h
   ·have e:kC cons g (some a)=cons++[iA g (cY g a)]:=E4 hk;rw[e];refine⟨h.gd,λc hc=> ?_,λc hc=> ?_,h.prod,by rw[EZ];show _+1<=_;omega⟩
    ·rcases EW.1 hc with hc|hc;·exact h.con c hc
     ·rw[EI.1 hc];have hlen:=(hg.ok hk).len;have hfew:=hg.few;refine⟨hfew,by show(g.vars.length+1)*8<=_;omega,?_,by simp[iA],by simp[iA]⟩;show(iA g _).coefs.length*8<=_;unfold iA;split;·show(g.coefs.map (- ·)).length*8<=_;rw[EB];omega
      ·show g.coefs.length*8<=_;omega
    ·rcases EW.1 hc with hc|hc;·exact h.right c hc
     ·rw[EI.1 hc];exact AD hg hk (uw (λhk=>hg.ok hk) (ht a Y))
 ·cases e;exact(iw h.gd hf).2.2
end Go.Proofs.YtopcjbahjjhdmaaGreat
