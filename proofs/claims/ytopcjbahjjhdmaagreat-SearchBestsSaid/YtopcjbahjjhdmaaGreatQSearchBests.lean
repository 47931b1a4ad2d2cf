/- The statement SearchBests: the law, and its row; ahead of it what it needs (FwW, FwX, PwH, FwY, FxA, PwI, PwJ, PwK, PwL, FxB, FwZ, FxC, FxD, LwGBests, RowA, RowM, RowGBests). -/
import Derived.Test.YtopcjbahjjhdmaaGreatB10
import Derived.Test.YtopcjbahjjhdmaaGreatRows
import Derived.WalkKit
import Derived.ProofKit
import Derived.OpenShut
import Derived.ShutString
import Derived.ChangeOld
import Derived.Below
import Derived.SizedLaws
namespace Go.Proofs.YtopcjbahjjhdmaaGreat
open Go Go.RowKit
set_option linter.unusedVariables false
set_option linter.unusedSimpArgs false
set_option maxRecDepth 8000
def hadM (m:Mod)(i:Nat):List (ByteArray×Bool):=(List.range i).map λk=>(nmM m k,true)
theorem sR (a b:ByteArray):(a.toList==b.toList)=decide (a=b):=by
 rw[ByteArray.toList_eq,ByteArray.toList_eq];by_cases h:a=b;·subst h;simp
 ·rw[EE h];simp only[beq_eq_false_iff_ne];intro e;apply h;cases a;cases b;congr;exact Array.toList_inj.1 e
theorem v8 (m:Mod)(i:Nat):(lkA (hadM m i) (nmM m i))=if gX m i=true then some true else none:=by
 unfold lkA fiA hadM gX;cases h:((List.range i).map λk=>(nmM m k,true)).findIdx? λp=>decide (p.1=nmM m i)with
 |none=>
  have h1:=FA.1 h;rw[E4];·rfl
  ·rw[FU];rintro⟨k,hk,hb⟩;rw[sR]at hb;have:=h1 _ (EH.2 ⟨k,hk,rfl⟩);rw[hb]at this;cases this
 |some j=>
  obtain⟨h1,h2,_⟩:=FX.1 h;have h1':j<i:=(by simpa using h1);rw[E6];·simp[h1']
  ·rw[FU];refine⟨j,ES.2 h1',?_⟩;rw[sR];simpa using h2
theorem Dk (m:Mod)(i:Nat)(h:gX m i=false):upA (hadM m i) (nmM m i) true=hadM m (i+1):=by
 have h1:=v8 m i;rw[h,E4 (by simp)]at h1;unfold upA;have h2:fiA (hadM m i) (nmM m i)=none:=by
  cases h3:fiA (hadM m i) (nmM m i)with
  |none=>rfl
  |some j=>
   unfold lkA at h1;rw[h3]at h1;obtain⟨h4,_⟩:=FX.1 h3;simp[h4]at h1
 rw[h2];simp[hadM,HJ]
structure ModK (m:Mod):Prop where
 b:ModB m
 ck: ∀c∈m.cons,eM c.coefs c.rhs=false∨∀k∈c.coefs,-9223372036854775808<=k/\k<=9223372036854775807
 gk:eM m.goal.coefs 0=false∨∀k∈m.goal.coefs,-9223372036854775808<=k/\k<=9223372036854775807
theorem m5 (m:Mod)(hm:ModK m):Spec Tryz.prog 64 false [.agg (cM m)] [.val (.int .i64 (checkR m))]:=by
 refine Spec.body Tryz.func64 Y Y Y λw0 Z0=> ?_;obtain⟨hm,hck,hgk⟩:=hm;have hds:=(pZ m hm).frz;generalize hR:checkR m=R;obtain⟨b1,b2,b3,b4,b5⟩:=hm;have yes:64<m.vars.length∨256<m.cons.length->(2:Int)=R:=λh=>(by rw[<-hR];exact(E6 h).symm);refine .B ?_;refine J.g Y Y Y (λh1=> ?_) (λh1=> ?_)
 ·have e:=yes (.inl (by have h:=h1;rw[EB]at h;omega));subst e;refine .B ?_;refine T.ct Y ?_;refine .B ?_;exact r1
 ·refine .B ?_;refine T.cd Y (λh2=> ?_) (λh2=> ?_)
  ·have e:=yes (.inr (by have h:=h2;rw[EB]at h;omega));subst e;refine .B ?_;exact r1
  ·have hR:(if firstE ((List.range m.vars.length).map (varR m))≠0 then firstE ((List.range m.vars.length).map (varR m))else
     if firstE (m.cons.map (conR (domsM m)))≠0 then firstE (m.cons.map (conR (domsM m)))else eY (domsM m) m.goal)=R:=by
    unfold checkR at hR;rw[E4 (by have h:=h1;rw[EB]at h;have h':=h2;rw[EB]at h';omega)]at hR;exact hR
   have hvar: ∀i,i<m.vars.length->(∀j,j<i->varR m j=0)->varR m i≠0->R=varR m i:=λi hi hb he=>by
    have:firstE ((List.range m.vars.length).map (varR m))=varR m i:=kq (i:=i) (λj hj x hx=>by
     rw[EI,Fk (by omega)]at hx;rw[<-E7 hx];exact hb j hj) (by rw[EI,Fk hi];rfl) he
    rw[this,E6 he]at hR;exact hR.symm
   refine .B ?_;refine J.mm Y Y Y Y ?_;refine .B ?_;refine T.K (T.ind (λi:Nat=>⟨[(1,.optr 0 0 0 0),(3,.ref 1),(22,.val false (.sl (m.vars.map cV))),(23,.val true (.int .i64 (m.vars.map cV).length)),(24,.val true (.int .i64 i))],[(0,some (.box false (cM m))),(1,some (.mp true none ((hadM m i).map λp=>(.string p.1,.bool p.2))))],2⟩) (λi=>i<=m.vars.length/\∀j,j<i->varR m j=0) (λi=>m.vars.length-i) 0 ⟨Ek _,λj hj=>EX hj (FC j)⟩ (λ_ _ h=>h) ?_);rintro i ⟨hi,hb⟩ ih;refine .B ?_;refine T.cd Y (λh3=> ?_) (λh3=> ?_)
   ·have h3:i<m.vars.length:=(by have h:=h3;rw[EB]at h;omega);have hv:=hvar i h3 hb;have hvi:varR m i=if gu (nmM m i)=false then 40 else if gX m i=true then 41 else if dmM m i=[]∨chkR (dmM m i)≠0 then 42 else 0:=rfl
    have hrow:(m.vars.map cV)[((i:Nat):Int).toNat]? =some (cV (nmM m i,dmM m i)):=by
     rw[Eh,EI,E5 h3];unfold nmM dmM;rw[E0,E5 h3];rfl
    have hbk:(nmM m i).size<=1024/\(dmM m i).length<=1024:=by
     unfold nmM dmM;rw[E0,E5 h3];exact b2 _ (EA h3)
    have hns:=xI (nmM m i) (by omega);have hls:=v8 m i;have hup:=Dk m i;refine .B ?_;refine .F (r:=cV (nmM m i,dmM m i)) hrow ?_;refine .L ?_;refine .X ?_;refine .D hns ?_;cases hn:gu (nmM m i)
    ·have:R=40:=(by rw[hv (by rw[hvi,E6 hn];decide),hvi,E6 hn]);subst this;refine T.ct Y ?_;refine .B ?_;exact r1
    ·rw[E4 (by rw[hn];simp)]at hvi;refine T.cf Y ?_;refine .B ?_;refine J.ml (nmM m i) (.bool false) Y Y Y Y Y Y Y Y Y AG (λ_ _=> .bool _) (DS Tryz.underlying9) (λ_ _ _ h=>th h) ?_;rw[hls];cases ht:gX m i
     ·rw[E4 (by rw[ht];simp)]at hvi;have hup:=hup ht;have hck2:=jO (dmM m i) (by omega);have stop:dmM m i=[]∨chkR (dmM m i)≠0->R=42:=λh=>(by rw[hv (by rw[hvi,E6 h];decide),hvi,E6 h]);have goon: ¬dmM m i=[]->¬chkR (dmM m i)≠0->varR m i=0:=λa b=>(by rw[hvi,E4 (λh=>h.elim a b)]);have hw1:IntKind.i64.wrap ((i:Int)+1)=((i+1:Nat):Int):=ai (l:=m.vars.length) h3 (by omega);have ih4:=λh:varR m i=0=>ih (i+1) ⟨by omega,λj hj=>by
       by_cases e:j=i;·rw[e];exact h
       ·exact hb j (by omega)⟩ (by omega)
      generalize varR m i=vr at*;rw[<-hup]at ih4;generalize hadM m i=hm at*;generalize nmM m i=nm at*;generalize dmM m i=dd at*;generalize chkR dd=ck at*;refine .B ?_;refine T.cf Y ?_;refine .B ?_;refine J.g Y Y Y (λh5=> ?_) (λh5=> ?_)
      ·have e:=stop (.inl (by simpa using h5));subst e;refine .B ?_;refine T.ct Y ?_;refine .B ?_;exact r1
      ·refine .B ?_;refine .D hck2 ?_;refine T.cd Y (λh6=> ?_) (λh6=> ?_)
       ·have e:=stop (.inr h6);subst e;refine .B ?_;exact r1
       ·refine .B ?_;refine J.mu nm true Y Y Y Y Y Y Y Y Y Y Y (DS Tryz.underlying9) (λ_ _ _ h=>th h) Y ?_;refine .B ?_;rw[hw1];exact T.K (ih4 (goon (λe=>h5 (by rw[e];rfl)) h6))
     ·have:R=41:=(by rw[hv (by rw[hvi,E6 ht];decide),hvi,E6 ht]);subst this;refine .B ?_;refine T.ct Y ?_;refine .B ?_;exact r1
   ·have h3:i=m.vars.length:=(by have h:=h3;rw[EB]at h;omega);have hfz:firstE ((List.range m.vars.length).map (varR m))=0:=ko λx hx=>by
     obtain⟨j,hj,rfl⟩:=EH.1 hx;exact hb j (by rw[h3];exact ES.1 hj)
    rw[hfz,E4 (by simp)]at hR;have hdv:zb (domsM m):=λx hx=>by
     obtain⟨v,hv,rfl⟩:=EH.1 hx;refine⟨by have:=b2 v hv;omega,?_⟩;obtain⟨j,hj,rfl⟩:=Gg.1 hv;have hvj:=hb j (by omega);unfold varR at hvj;split at hvj;·cases hvj
     ·split at hvj;·cases hvj
      ·split at hvj;·cases hvj
       ·rename_i h6;have h7:chkR (dmM m j)=0:=F3 λe=>h6 (.inr e);unfold dmM at h7;rw[E0,E5 hj]at h7;exact(tZ h7).1.ok.1
    refine .B ?_;refine .D hds ?_;refine T.K (T.ind (λi:Nat=>⟨[(1,.optr 0 0 0 0),(6,.val true (ak (domsM m))),(56,.val false (.sl (m.cons.map cC))),(57,.val true (.int .i64 (m.cons.map cC).length)),(58,.val true (.int .i64 i))],[(0,some (.box false (cM m)))],1⟩) (λi=>i<=m.cons.length/\∀j,j<i->∀c,m.cons[j]? =some c->conR (domsM m) c=0) (λi=>m.cons.length-i) 0 ⟨Ek _,λj hj=>EX hj (FC j)⟩ (λ_ _ h=>h) ?_);rintro k ⟨hk,hbc⟩ ih;refine .B ?_;refine T.cd Y (λh4=> ?_) (λh4=> ?_)
    ·have h4:k<m.cons.length:=(by have h:=h4;rw[EB]at h;omega);have hrow:(m.cons.map cC)[((k:Nat):Int).toNat]? =some (cC m.cons[k]):=(by simp[h4]);have hcb:=b4 _ (EA h4);have hcs:=rV (domsM m) m.cons[k] ⟨by omega,by omega,by omega,hcb.2.2.2,hck _ (EA h4)⟩ hdv;have hgk:m.cons[k]? =some m.cons[k]:=E5 h4;have stop:conR (domsM m) m.cons[k]≠0->R=conR (domsM m) m.cons[k]:=λhe=>by
      have:firstE (m.cons.map (conR (domsM m)))=conR (domsM m) m.cons[k]:=kq (i:=k) (λj hj x hx=>by
       rw[EI]at hx;obtain⟨c,hc,rfl⟩:=Ed.1 hx;exact hbc j hj c hc) (by rw[EI,hgk];rfl) he
      rw[this,E6 he]at hR;exact hR.symm
     have ih4:=λh:conR (domsM m) m.cons[k]=0=>ih (k+1) ⟨by omega,λj hj c hc=>by
      by_cases e:j=k;·rw[e,hgk]at hc;cases hc;exact h
      ·exact hbc j (by omega) c hc⟩ (by omega)
     generalize m.cons[k]=c at*;generalize conR (domsM m) c=cr at*;refine .B ?_;refine .F (r:=cC c) hrow ?_;refine .L ?_;refine .X ?_;refine .D hcs ?_;refine T.cd Y (λh5=> ?_) (λh5=> ?_)
     ·have e:=stop h5;subst e;refine .B ?_;exact r1
     ·have h5:cr=0:=F3 h5;refine .B ?_;rw[ai (l:=m.cons.length) h4 (by omega)];exact T.K (ih4 h5)
    ·have h4:k=m.cons.length:=(by have h:=h4;rw[EB]at h;omega);have hfc:firstE (m.cons.map (conR (domsM m)))=0:=ko λx hx=>by
      obtain⟨c,hc,rfl⟩:=EH.1 hx;obtain⟨j,hj⟩:=EK hc;exact hbc j (by have:=(E8.1 hj).1;omega) c hj
     rw[hfc,E4 (by simp)]at hR;have hgo:=xK (domsM m) m.goal b5.1 b5.2 hgk hdv;rw[hR]at hgo;refine .B ?_;refine .D hgo ?_;exact r1
theorem k8:Spec Tryz.prog 34 false [] [.val (.agg (cM eW))]:=by
 refine Spec.body Tryz.func34 Y Y Y λw0 Z0=> ?_;refine .B ?_;refine .L ?_;refine .B ?_;refine .Z ?_;refine .V ?_;refine .V ?_;refine .Z ?_;refine .V ?_;refine .V ?_;refine .Z ?_;refine .X ?_;exact⟨_,.cell Y Y Y (λ_=>rfl) .nil⟩
theorem C9:ModK eW:=⟨tq,λc hc=> .inl (by simp[eW]at hc;subst hc;decide +kernel),.inl (by decide +kernel)⟩
theorem Dd:ModK rQ:=⟨De,λc hc=>(by cases hc),.inl (by decide +kernel)⟩
theorem my:Spec Tryz.prog 12 false [] [.val (.bool true)]:=by
 refine Spec.body Tryz.func12 Y Y Y λw0 Z0=> ?_;have hck:=m5 eW C9;rw[Cp]at hck;have hgi:GoalIn (dmQ 0 1 0 1) eW.goal:=yV gp0 (by decide) (by decide) (by decide +kernel);have a1:=(ry eW tq AV (by decide +kernel) 9 (by decide) hck).frz;have a2:=(ry eW tq AV (by decide +kernel) 2 (by decide) hck).frz;have a3:=pt eW tq AV (by decide +kernel) hgi 9 (by decide) hck;rw[Cd]at a1;rw[Ce]at a2;rw[Cc]at a3;have hck2:=m5 rQ Dd;rw[Cu]at hck2;have a4:=(Ch rQ 9 44 (by decide) hck2).frz;have a1:Spec Tryz.prog 13 false [.agg (cM eW),.int .i64 9] [.val (bN [[0,1],[1,0]]),.val (.bool true),.val (.int .i64 3),.val (.int .i64 0)]:=a1;have a2:Spec Tryz.prog 13 false [.agg (cM eW),.int .i64 2] [.val (bN [[0,1]]),.val (.bool false),.val (.int .i64 2),.val (.int .i64 0)]:=a2;have a3:Spec Tryz.prog 18 false [.agg (cM eW),.int .i64 9] [.val (aq [1,0]),.val (.bool true),.val (.bool true),.val (.int .i64 3),.val (.int .i64 0)]:=a3;have a4:Spec Tryz.prog 13 false [.agg (cM rQ),.int .i64 9] [.val (bN []),.val (.bool false),.val (.int .i64 0),.val (.int .i64 44)]:=a4;have l1:=jD [[0,1],[1,0]] [[0,1],[1,0]] (by decide) (by decide);rw[EF Y]at l1;have l2:=jD [[0,1]] [[0,1]] (by decide) (by decide);rw[EF Y]at l2;have l3:=c7 [1,0] [1,0] (by decide);rw[EF Y]at l3;refine .B ?_;refine .D k8 ?_;refine .D a1 ?_;refine .D k8 ?_;refine .D a2 ?_;refine .D k8 ?_;refine .D a3 ?_;refine .D a4 ?_;refine .V ?_;refine .V ?_;refine .V ?_;refine .D l1 ?_;refine .V ?_;refine .V ?_;refine .D l2 ?_;refine .V ?_;refine .D l3 ?_;exact r1
theorem Ax {m:Mod}(h:checkR m=0):m.vars.length<=64/\m.cons.length<=256/\eY (domsM m) m.goal=0:=by
 unfold checkR at h;split at h;·cases h
 ·rename_i h0;split at h;·rename_i h1;exact EX h h1
  ·split at h;·rename_i h1;exact EX h h1
   ·exact⟨by omega,by omega,h⟩
theorem oX: ∀{d:aa},(∀x∈d,(vals x).length<=4096)->weight d<=d.length*4096
 | [],_=>by simp[weight]
 |x::d,h=>by
  have h1:=h x (.head _);have h2:=oX λy hy=>h y (.tail _ hy);unfold weight at*;simp only[Ee,FR,Ef];omega
theorem wz {d:aa}{c:Con}(h:conR d c=0):eM c.coefs c.rhs=false:=kx h
structure Fit (b:Mod):Prop where
 ck:checkR b=0
 mb:ModB b
 r:RightM b
 p:prodD (domsM b)<=1048576
 cl:b.cons.length<=256
 w:weight (domsM b)<=1000000
 g:GoalIn (domsM b) b.goal
 k:ModK b
theorem Fit.run {b:Mod}(h:Fit b):RunOk (domsM b) b.cons:=h.r.run h.p
theorem BN {b:Mod}(hb:ModB b)(hc:checkR b=0)(hp:prodD (domsM b)<=1048576):Fit b:=by
 have hr:=lB hb hc;obtain⟨h1,h2,h3⟩:=Ax hc;have hw:=oX hr.good.few.few;have hl:(domsM b).length=b.vars.length:=(by simp[domsM]);refine⟨hc,hb,hr,hp,h2,by omega,yV hr.good hb.gl.1 hb.gl.2 h3,hb,λc hm=> .inl (wz (hr.right c hm)),?_⟩;rcases goal_kinds h3 with ⟨_,_,h4⟩|⟨_,h4⟩;·rw[h4];exact .inl Y
 ·exact .inl (wz h4)
theorem Dm {m:Mod}{most:Nat}(hb:ModB m)(h:okM m most=true)(h1:1<=most/\most<=1048576):Fit m/\prodD (domsM m)<=most:=by
 have hk:=Bi hb h h1.1;unfold okM at h;rw[EL,ER]at h;exact⟨BN hb h.1 (Ei hk.2 h1.2),hk.2⟩
theorem Fit.turn {b:Mod}(h:Fit b)(hk:b.goal.kind≠0):Fit (yr b):=by
 have hk2:b.goal.kind=1∨b.goal.kind=2:=(h.g.kind.resolve_left hk).1;refine BN ⟨h.mb.vl,h.mb.vn,h.mb.cl,h.mb.cb,⟨h.mb.gl.1,by show(b.goal.coefs.map (- ·)).length<=_;rw[EB];exact h.mb.gl.2⟩⟩ ((wU hk2).trans h.ck) h.p
theorem Ak {b:Mod}(h:Fit b):Spec Tryz.prog 64 false [.agg (cM b)] [.val (.int .i64 0)]:=by
 have:=m5 b h.k;rw[h.ck]at this;exact this
theorem BO {b:Mod}(h:Fit b)(left:Int)(hl:left<=1099511627776):Spec Tryz.prog 18 false [.agg (cM b),.int .i64 left] [.val (aq ((srchB b left).st.getD [])),.val (.bool (srchB b left).st.isSome),.val (.bool (!(srchB b left).short)),.val (.int .i64 (srchB b left).nodes),.val (.int .i64 0)]:=pt b h.mb h.run h.w h.g left hl (Ak h)
theorem BZ {b:Mod}(h:Fit b)(left:Int): ∀a,(srchB b left).st=some a->a.length=(domsM b).length:=by
 have hS:=p8 h.run (by have:=h.cl;omega) h.g;have hg:=iQ (left:=left) hS (weight (domsM b)+1) (domsM b) ⟨0,false,false,none⟩ (FY _) h.r.good leD.rfl' (λa e=>by cases e);exact(hg.reach.keep (P:=λt=> ∀a,t=some a->a.length=(domsM b).length) (λa e=>by cases e) λu a hu hs b e=>by
  cases e;exact(iw h.r.good hs).1)
def CP (g:Goal)(u1 u2 u3:Value):List PV:=[.raw u1,.raw u2,.int .i64 g.kind,aq g.vars,.raw u3]
set_option maxHeartbeats 1000000 in
theorem At (m:Mod)(hm:ModB m):SpecX Tryz.prog 14 [] [] [] [] [(false,.agg (cM m))] (λ_=>[]) (λns=>[.sl 3 1 true (m.goal.coefs.map cI)]) false (λns=>[.agg [.sl (m.vars.map cV),bP m.cons,.int .i64 m.goal.kind,aq m.goal.vars,.raw (ns.getD 0 undef)]]):=by
 refine SpecX.body (fn:=Tryz.f14) [] [1000] Y Y Y Y λw0 Z=> ?_;obtain⟨b1,b2,b3,b4,b5⟩:=hm;have hM: ∀b,¬(∃u∈([]:List Value)++[],VB u b):=λb ⟨u,hu,_⟩=>(by cases hu);refine .B ?_;refine .L ?_;refine .M ?_;refine T.rdw 16 Y (by kernel_rfl) Y ?_;refine .M ?_;refine .O ?_;refine .M ?_;refine J.adf hM Y Y Y Y Y Y Y Y Y Y Y Y Y Y Y Y Y jE (by show(0+List.length _)*8<=_;simp;omega) ?_;refine .M ?_;refine .O ?_;refine .M ?_;refine J.ad Y Y Y Y Y Y Y Y Y Y Y Y Y Y Y Y Y Y jE (by show(0+List.length _)*8<=_;simp;omega) ?_;refine J.br Y Y Y Y Y ?_;refine J.br Y Y Y Y Y ?_;refine .L ?_;refine J.nil ?_;refine⟨by kernel_rfl,?_⟩;refine J.name 1000 (s:=18) Y Y Y λu=> ?_;refine J.sub (Rel.agrawZ (s:=20) [(4,1000)] Y Y) ?_;refine .W ?_;refine J.nil ?_;refine T.nilO 1001 56 2 Y ?_;refine T.nilO 1002 51 7 Y ?_;refine T.sub (Rel.wk (o:=6) Y) ?_;refine T.sub (Rel.wk (o:=7) Y) ?_;refine T.sub (Rel.flat (o:=4) Y (λr hr p hp=>by simp[cI]at hr;obtain⟨x,_,rfl⟩:=hr;simp at hp;subst hp;rfl)) ?_;refine T.canon (keep:=[1,2,3,1000,1001,1002]) (os:=[1,2,3,1000,1001,1002]) Y ?_;refine T.mids (λu1:Value=>⟨[(1,.optr 0 0 0 0),(2,.optr 1 0 0 0),(3,.optr 2 0 0 0),(1000,.eq u 3),(1001,.eq u1 4),(1002,.eq (.slice none 0 0) 5)],[(0,some (.box false (cM m))),(1,some (.box true [.sl [],.sl [],.int .i64 0,.sl [],.sl []])),(2,some (.box false (CP m.goal u1 (.slice none 0 0) u))),(3,some (.sl 3 1 true (m.goal.coefs.map cI))),(4,some (.sl 56 2 false (m.vars.map cV))),(5,some (.sl 51 7 false ([])))],6⟩) ?_ λu1=> ?_
 ·refine .M ?_;refine T.K (T.ind (λs:Nat×Value=>⟨[(1,.optr 0 0 0 0),(2,.optr 1 0 0 0),(3,.optr 2 0 0 0),(4,.val true (.int .i64 s.1)),(1000,.eq u 3),(1001,.eq s.2 4),(1002,.eq (.slice none 0 0) 5)],[(0,some (.box false (cM m))),(1,some (.box true [.sl [],.sl [],.int .i64 0,.sl [],.sl []])),(2,some (.box false (CP m.goal s.2 (.slice none 0 0) u))),(3,some (.sl 3 1 true (m.goal.coefs.map cI))),(4,some (.sl 56 2 false ((m.vars.take s.1).map cV))),(5,some (.sl 51 7 false ([])))],6⟩) (λs=>s.1<=m.vars.length) (λs=>m.vars.length-s.1) (0,.slice none 0 0) (Ek _) (λ_ _ h=>by cases h.1) ?_);rintro⟨i,u1⟩ hi ih;simp only at hi;refine .B ?_;refine T.cd Y (λh1=> ?_) (λh1=> ?_)
  ·have h1:i<m.vars.length:=(by have h:=h1;rw[EB]at h;omega);have hrow:(m.vars.map cV)[((i:Nat):Int).toNat]? =some (cV m.vars[i]):=(by simp[h1]);have hv:=b2 _ (EA h1);have htk:m.vars.take (i+1)=m.vars.take i++[m.vars[i]]:=ED h1;have hln:(m.vars.take i).length<=1024:=(by simp;omega);have ih1:=λu'=>ih (i+1,u') (by show _<=_;omega) (by show _-_<_-_;omega);simp only[htk,Ey]at ih1;generalize m.vars.take i=out at*;generalize m.vars[i]=v at*;obtain⟨nm,dd⟩:=v;simp only at hv;refine .M ?_;refine T.rdw 20 Y (by kernel_rfl) Y ?_;refine J.H Y ?_;refine J.lr 1001 (q:=4) (u:=u1) Y Y Y Y Y Y Y Y Y ?_;refine .M ?_;refine .I (r:=cV (nm,dd)) hrow ?_;refine .M ?_;refine .O ?_;refine .M ?_;refine .I (r:=cV (nm,dd)) hrow ?_;refine .M ?_;refine J.adf hM Y Y Y Y Y Y Y Y Y Y Y Y Y Y Y Y Y yQ (by show(0+List.length _)*16<=_;simp;omega) ?_;refine .M ?_;refine .V ?_;refine J.ad Y Y Y Y Y Y Y Y Y Y Y Y Y Y Y Y Y Y (cy Y) (by show(List.length _+1)*40<=_;simp;omega) ?_;refine .M ?_;refine⟨by kernel_rfl,?_⟩;refine J.name 1001 (s:=46) Y Y Y λu'=> ?_;refine J.sub (Rel.raw (s:=46) (g:=1001) Y (.inl Y) Y Y Y) ?_;refine .X ?_;rw[ai (l:=m.vars.length) (n:=i) h1 (by omega)];exact T.K (ih1 u')
  ·have e:i=m.vars.length:=(by have h:=h1;rw[EB]at h;omega);subst e;rw[Ej];refine .B ?_;exact⟨rfl,u1,[1,2,3,1000,1001,1002],[1,2,3,1000,1001,1002],rfl,rfl⟩
 ·refine T.mids (λu2:Value=>⟨[(1,.optr 0 0 0 0),(2,.optr 1 0 0 0),(3,.optr 2 0 0 0),(1000,.eq u 3),(1001,.eq u1 4),(1002,.eq u2 5)],[(0,some (.box false (cM m))),(1,some (.box true [.sl [],.sl [],.int .i64 0,.sl [],.sl []])),(2,some (.box false (CP m.goal u1 u2 u))),(3,some (.sl 3 1 true (m.goal.coefs.map cI))),(4,some (.sl 56 2 false (m.vars.map cV))),(5,some (.sl 51 7 false (m.cons.map cC)))],6⟩) ?_ λu2=> ?_
  ·refine .M ?_;refine T.K (T.ind (λs:Nat×Value=>⟨[(1,.optr 0 0 0 0),(2,.optr 1 0 0 0),(3,.optr 2 0 0 0),(5,.val true (.int .i64 s.1)),(1000,.eq u 3),(1001,.eq u1 4),(1002,.eq s.2 5)],[(0,some (.box false (cM m))),(1,some (.box true [.sl [],.sl [],.int .i64 0,.sl [],.sl []])),(2,some (.box false (CP m.goal u1 s.2 u))),(3,some (.sl 3 1 true (m.goal.coefs.map cI))),(4,some (.sl 56 2 false (m.vars.map cV))),(5,some (.sl 51 7 false ((m.cons.take s.1).map cC)))],6⟩) (λs=>s.1<=m.cons.length) (λs=>m.cons.length-s.1) (0,.slice none 0 0) (Ek _) (λ_ _ h=>by cases h.1) ?_);rintro⟨i,u2⟩ hi ih;simp only at hi;refine .B ?_;refine T.cd Y (λh1=> ?_) (λh1=> ?_)
   ·have h1:i<m.cons.length:=(by have h:=h1;rw[EB]at h;omega);have hrow:(m.cons.map cC)[((i:Nat):Int).toNat]? =some (cC m.cons[i]):=(by simp[h1]);have hv:=b4 _ (EA h1);have htk:m.cons.take (i+1)=m.cons.take i++[m.cons[i]]:=ED h1;have hln:(m.cons.take i).length<=1024:=(by simp;omega);have hown:=vp m.cons[i] ⟨by omega,by omega,by omega,λr hr=>by have:=hv.2.2.2 r hr;omega⟩;have ih1:=λu'=>ih (i+1,u') (by show _<=_;omega) (by show _-_<_-_;omega);simp only[htk,Ey]at ih1;generalize m.cons.take i=out at*;generalize m.cons[i]=c at*;refine .M ?_;refine T.rdw 11 Y (by kernel_rfl) Y ?_;refine J.H Y ?_;refine J.lr 1002 (q:=5) (u:=u2) Y Y Y Y Y Y Y Y Y ?_;refine .M ?_;refine .I (r:=cC c) hrow ?_;refine .M ?_;refine .C hown ?_;refine .M ?_;refine .V ?_;refine J.ad Y Y Y Y Y Y Y Y Y Y Y Y Y Y Y Y Y Y (cy Y) (Ei (F1 _ (show(out.map cC).length+1<=1025 by rw[EB];omega)) (show 1025*104<=140737488355328 by decide)) ?_;refine .M ?_;refine⟨by kernel_rfl,?_⟩;refine J.name 1002 (s:=64) Y Y Y λu'=> ?_;refine J.sub (Rel.raw (s:=64) (g:=1002) Y (.inl Y) Y Y Y) ?_;refine .X ?_;rw[ai (l:=m.cons.length) (n:=i) h1 (by omega)];exact T.K (ih1 u')
   ·have e:i=m.cons.length:=(by have h:=h1;rw[EB]at h;omega);subst e;rw[Ej];refine .B ?_;exact⟨rfl,u2,[1,2,3,1000,1001,1002],[1,2,3,1000,1001,1002],rfl,rfl⟩
  ·refine T.sub (λa w h=>Rel.meltB (i:=0) (qc:=2) (q:=4) (g:=1001) hM Y Y Y Y Y h) ?_;refine T.sub (λa w h=>Rel.meltB (i:=1) (qc:=2) (q:=5) (g:=1002) hM Y Y Y Y Y h) ?_;refine .B ?_;refine .X ?_;exact⟨[],[3],[u],trivial,⟨rfl,⟨_,rfl,rfl,rfl⟩,trivial⟩,rfl,.cell Y Y Y (λh=>by cases h) .nil⟩
theorem w9 (m:Mod)(hm:ModB m):Spec Tryz.prog 17 false [.agg (cM m),.agg (cM m)] [.val (.bool true)]:=by
 refine Spec.body Tryz.func17 Y Y Y λw0 Z0=> ?_;obtain⟨b1,b2,b3,b4,b5⟩:=hm;have n1:=c7 m.goal.vars m.goal.vars (by omega);have n2:=c7 m.goal.coefs m.goal.coefs (by omega);rw[EF Y]at n1 n2;have hf: ∀p:Prop,¬(p≠p):=λp h=>h Y;refine .B ?_;refine J.g Y Y Y (λh=>EX Y h) (λ_=> ?_);refine .B ?_;refine J.g Y Y Y (λh=>EX Y h) (λ_=> ?_);refine .B ?_;refine J.g Y Y Y (λh=>EX Y h) (λ_=> ?_);refine .B ?_;refine .D n1 ?_;refine .D n2 ?_;refine T.cf Y ?_;refine .B ?_;have hsame: ∀v∈m.vars,Spec Tryz.prog 40 false [dm v.2,dm v.2] [.val (.bool true)]:=λv hv=>by
  have:=rx v.2 v.2 (by have:=(b2 v hv).2;omega);rwa[EF Y]at this
 refine T.K (T.ind (λi:Nat=>⟨[(2,.optr 0 0 0 0),(3,.optr 1 0 0 0),(5,.val true (.int .i64 i))],[(0,some (.box false (cM m))),(1,some (.box false (cM m)))],2⟩) (λi=>i<=m.vars.length) (λi=>m.vars.length-i) 0 (Ek _) (λ_ _ h=>h) ?_);rintro i hi ih;refine .B ?_;refine T.cd Y (λh1=> ?_) (λh1=> ?_)
 ·have h1:i<m.vars.length:=(by have h:=h1;rw[EB]at h;omega);have hrow:(m.vars.map cV)[((i:Nat):Int).toNat]? =some (cV m.vars[i]):=(by simp[h1]);have hsm:=hsame _ (EA h1);generalize m.vars[i]=v at*;obtain⟨nm,dd⟩:=v;refine .M ?_;refine T.rdm 29 Y (by kernel_rfl) Y ?_;refine .M ?_;refine .I (r:=cV (nm,dd)) hrow ?_;refine .M ?_;refine .I (r:=cV (nm,dd)) hrow ?_;refine .M ?_;have hs:(nm.toList==nm.toList)=true:=(by simp);rw[hs];refine .M ?_;refine .I (r:=cV (nm,dd)) hrow ?_;refine .M ?_;refine .I (r:=cV (nm,dd)) hrow ?_;refine .M ?_;refine .C hsm ?_;refine .M ?_;refine T.cf Y ?_;refine .B ?_;rw[ai (l:=m.vars.length) h1 (by omega)];exact T.K (ih (i+1) h1 (by omega))
 ·refine .B ?_;refine T.K (T.ind (λi:Nat=>⟨[(2,.optr 0 0 0 0),(3,.optr 1 0 0 0),(6,.val true (.int .i64 i))],[(0,some (.box false (cM m))),(1,some (.box false (cM m)))],2⟩) (λi=>i<=m.cons.length) (λi=>m.cons.length-i) 0 (Ek _) (λ_ _ h=>h) ?_);rintro k hk ihk;refine .B ?_;refine T.cd Y (λh2=> ?_) (λh2=> ?_)
  ·have h2:k<m.cons.length:=(by have h:=h2;rw[EB]at h;omega);have hrow:(m.cons.map cC)[((k:Nat):Int).toNat]? =some (cC m.cons[k]):=(by simp[h2]);have hc:=b4 _ (EA h2);have hal:=yn m.cons[k] ⟨by omega,by omega,by omega,λr hr=>by have:=hc.2.2.2 r hr;omega⟩;generalize m.cons[k]=c at*;refine .M ?_;refine T.rdm 12 Y (by kernel_rfl) Y ?_;refine .M ?_;refine .I (r:=cC c) hrow ?_;refine .M ?_;refine .I (r:=cC c) hrow ?_;refine .M ?_;refine .C hal ?_;refine .M ?_;refine T.cf Y ?_;refine .B ?_;rw[ai (l:=m.cons.length) h2 (by omega)];exact T.K (ihk (k+1) h2 (by omega))
  ·refine .B ?_;exact r1
def Bnd (a:List Int):Prop:= ∀x∈a,-1048576<=x/\x<=1048576
section
variable {b:Mod}{left:Int}
theorem okB (h:Fit b):SrchOK (domsM b) (jP b.cons b.goal) (Aj b.goal) IB:=p8 h.run (by have:=h.cl;omega) h.g
end
def jQ (best:Bool)(g:Goal)(st:List (List Int)):List Con:=if best=true/\g.kind≠0 then(match st.getLast? with|some a=>[iA g (cY g a)]|none=>[])else []
def ji (best:Bool)(m:Mod)(st:List (List Int)):List Con:=m.cons++jQ best m.goal st
def qv (best:Bool)(g:Goal)(st:List (List Int))(a:List Int):List (List Int)×Bool:=(st++[a],best&&decide (g.kind=0))
def I14 (st:List (List Int)):Prop:= ∀a∈st,Bnd a
theorem wA {m:Mod}(st:List (List Int)):ji false m st=m.cons:=by
 unfold ji jQ;rw[E4 (by simp),FN]
theorem qL {m:Mod}(st:List (List Int)):ji true m st=jP m.cons m.goal st.getLast? :=by
 unfold ji jQ jP;by_cases hk:m.goal.kind=0
 ·rw[E4 (by simp[hk]),FN];cases st.getLast? with
  |none=>rfl
  |some a=>simp only[E6 hk]
 ·rw[E6 ⟨rfl,hk⟩];cases st.getLast? with
  |none=>simp
  |some a=>simp only[E4 hk]
theorem B2 (best:Bool)(g:Goal)(st:List (List Int)):(jQ best g st).length<=1:=by
 unfold jQ;split;·split<;>simp
 ·simp
theorem D7 {b:Mod}(h:Fit b)(best:Bool):SrchOK (domsM b) (ji best b) (qv best b.goal) I14:=by
 refine⟨λst hI=> ?_,λst a hI hf x hx=> ?_⟩
 ·cases best with
  |false=>rw[wA];exact h.run
  |true=>
   rw[qL];exact(okB h).run _ λa ha x hx=>hI a (HY ha) x hx
 ·rcases EW.1 hx with hx|hx;·exact hI x hx
  ·rw[EJ.1 hx];exact(iw h.r.good hf).2.2
theorem r3 {σ τ:Type}{left:Int}{con:σ->List Con}{fnd:σ->List Int->σ×Bool}{con':τ->List Con}{fnd':τ->List Int->τ×Bool}(f:σ->τ)(hc: ∀s,con' (f s)=con s)(hf: ∀s a,fnd' (f s) a=(f (fnd s a).1,(fnd s a).2)):
  ∀(n:Nat) (d:aa) (s:Srch σ),lookG left con' fnd' n d ⟨s.nodes,s.short,s.over,f s.st⟩=⟨(lookG left con fnd n d s).nodes,(lookG left con fnd n d s).short,(lookG left con fnd n d s).over,f (lookG left con fnd n d s).st⟩
 |0,d,s=>rfl
 |n+1,d,s=>by
  rw[lookG,lookG];simp only[hc];split;·rfl
  ·split;·rfl
   ·rename_i l _;split
    ·rename_i a _;simp only[hf]
    ·have key: ∀(ys:List Int) (t:Srch σ),ys.foldl (λs x=>if s.over=true then s else lookG left con' fnd' n (l.set (openV l) [(x,x)]) s) ⟨t.nodes,t.short,t.over,f t.st⟩=⟨(ys.foldl (λs x=>if s.over=true then s else lookG left con fnd n (l.set (openV l) [(x,x)]) s) t).nodes,(ys.foldl (λs x=>if s.over=true then s else lookG left con fnd n (l.set (openV l) [(x,x)]) s) t).short,(ys.foldl (λs x=>if s.over=true then s else lookG left con fnd n (l.set (openV l) [(x,x)]) s) t).over,f (ys.foldl (λs x=>if s.over=true then s else lookG left con fnd n (l.set (openV l) [(x,x)]) s) t).st⟩:=by
      intro ys
      induction ys with
      |nil=>intro t;rfl
      |cons y ys ih=>
       intro t;rw[Eg,Eg];cases ho:t.over with
       |true=>
        simp only[if_true];rw[show(⟨t.nodes,t.short,true,f t.st⟩:Srch τ)=⟨t.nodes,t.short,t.over,f t.st⟩by rw[ho]];exact ih t
       |false=>
        simp only[F5,if_false];rw[show(⟨t.nodes,t.short,false,f t.st⟩:Srch τ)=⟨t.nodes,t.short,t.over,f t.st⟩by rw[ho],r3 f hc hf n _ t];exact ih _
     exact key _ ⟨s.nodes+1,s.short,s.over,s.st⟩
noncomputable def srch14 (best:Bool)(m:Mod)(left:Int):Srch (List (List Int)):=lookG left (ji best m) (qv best m.goal) (weight (domsM m)+1) (domsM m) ⟨0,false,false,[]⟩
theorem AQ (m:Mod)(left:Int):srchB m left=⟨(srch14 true m left).nodes,(srch14 true m left).short,(srch14 true m left).over,(srch14 true m left).st.getLast?⟩:=by
 exact r3 (con:=ji true m) (fnd:=qv true m.goal) (con':=jP m.cons m.goal) (fnd':=Aj m.goal) List.getLast? (λs=>(qL s).symm) (λs a=>by
  show(some a,decide (m.goal.kind=0))=((s++[a]).getLast?,true&&decide (m.goal.kind=0));rw[H9,FV];simp) (weight (domsM m)+1) (domsM m) ⟨0,false,false,[]⟩
set_option maxHeartbeats 1000000 in
theorem u5 (g:Goal)(v:Int)(hg:GoalOk g)(hv: -4611686018427387904<=v/\v<=4611686018427387904):Spec Tryz.prog 78 false [.agg (cG g),.int .i64 v] [.val (.agg (cC (iA g v)))]:=by
 refine Spec.body Tryz.func78 Y Y Y λw0 Z0=> ?_;obtain⟨h1,h2,h3,h4⟩:=hg;have hvr:IntKind.i64.wrap (v-1)=v-1:=ae (by omega) (by omega);have hvn:IntKind.i64.wrap (0-v)=0-v:=ae (by omega) (by omega);have hvn2:IntKind.i64.wrap (0-v-1)=0-v-1:=ae (by omega) (by omega);obtain⟨sg,hsg⟩: ∃sg:Int,sg=if g.kind=2 then -1 else 1:=⟨_,rfl⟩
 obtain⟨rh,hrh⟩: ∃rh:Int,rh=if g.kind=2 then -v-1 else v-1:=⟨_,rfl⟩
 have hbc:iA g v=⟨0,g.vars,g.coefs.map (sg* ·),0,rh,[],0⟩:=by
  unfold iA;rw[hsg,hrh];split
  ·congr 1;exact F0 λk _=>by omega
  ·congr 1
   conv=>lhs;rw[<-List.map_id g.coefs]
   exact F0 λk _=>by show k=1*k;omega
 have hsb:sg=1∨sg= -1:=(by rw[hsg];split<;>simp);rw[hbc];refine .B ?_;refine .L ?_;refine .B ?_;refine .Q ?_;refine J.am (enc:=cI) (l:=([]:List Int)) (l2:=g.vars) (B:=8) Y Y Y Y Y Y Y Y Y Y Y Y Y Y Y Y Y (λ_=>rfl) Y (by show(0+_)*8<=_;omega) ?_;refine J.sub (Rel.flat (o:=3) Y (λr hr p hp=>by simp[cI]at hr;obtain⟨x,_,rfl⟩:=hr;simp at hp;subst hp;rfl)) ?_;refine J.sub (Rel.frz (s:=11) (λ_ h=>h) Y Y) ?_
 iterate 2 refine J.H Y ?_
 rw[hvr];refine J.br Y Y Y Y Y ?_;refine J.sub (Rel.agrawZ (s:=14) [] Y Y) ?_;refine .L ?_;refine .W ?_;refine J.nil ?_;refine T.nilO 1000 3 1 Y ?_;refine T.nilO 1001 24 1 Y ?_;refine T.K (?_:T _ _ ⟨[(1,.val false (.int .i64 v)),(2,.optr 0 0 0 0),(4,.optr 1 0 0 0),(5,.optr 2 0 0 0),(1000,.eq (.slice none 0 0) 3),(1001,.eq (.slice none 0 0) 4)],[(0,some (.box false (cG g))),(1,some (.box true [.int .i64 0,.sl [],.sl [],.int .i64 0,.int .i64 0,.sl [],.int .i64 0])),(2,some (.box true [.int .i64 0,aq g.vars,.raw (.slice none 0 0),.int .i64 0,.int .i64 (v-1),.raw (.slice none 0 0),.int .i64 0])),(3,some (.sl 3 1 true ([]))),(4,some (.sl 24 1 true []))],5⟩ _);refine T.mid ⟨[(1,.val false (.int .i64 v)),(2,.optr 0 0 0 0),(4,.optr 1 0 0 0),(5,.optr 2 0 0 0),(6,.val true (.int .i64 1)),(1000,.eq (.slice none 0 0) 3),(1001,.eq (.slice none 0 0) 4)],[(0,some (.box false (cG g))),(1,some (.box true [.int .i64 0,.sl [],.sl [],.int .i64 0,.int .i64 0,.sl [],.int .i64 0])),(2,some (.box true [.int .i64 0,aq g.vars,.raw (.slice none 0 0),.int .i64 0,.int .i64 (v-1),.raw (.slice none 0 0),.int .i64 0])),(3,some (.sl 3 1 true ([]))),(4,some (.sl 24 1 true []))],5⟩ ?_ ?_
 ·refine .B ?_;exact⟨rfl,[1,2,4,5,6,1000,1001],[2,4,5,1000,1001],rfl,rfl⟩
 refine T.mid ⟨[(1,.val false (.int .i64 v)),(2,.optr 0 0 0 0),(4,.optr 1 0 0 0),(5,.optr 2 0 0 0),(6,.val true (.int .i64 sg)),(1000,.eq (.slice none 0 0) 3),(1001,.eq (.slice none 0 0) 4)],[(0,some (.box false (cG g))),(1,some (.box true [.int .i64 0,.sl [],.sl [],.int .i64 0,.int .i64 0,.sl [],.int .i64 0])),(2,some (.box true [.int .i64 0,aq g.vars,.raw (.slice none 0 0),.int .i64 0,.int .i64 rh,.raw (.slice none 0 0),.int .i64 0])),(3,some (.sl 3 1 true ([]))),(4,some (.sl 24 1 true []))],5⟩ ?_ ?_
 ·refine .B ?_;refine T.cd Y (λhk=> ?_) (λhk=> ?_)
  ·have hk:g.kind=2:=hk;rw[E6 hk]at hsg hrh;subst hsg hrh;refine .B ?_;rw[hvn,hvn2,show(0:Int)-v-1= -v-1 by omega];refine .X ?_;exact⟨rfl,[1,2,4,5,6,1000,1001],[2,4,5,1000,1001],rfl,rfl⟩
  ·have hk: ¬g.kind=2:=hk;rw[E4 hk]at hsg hrh;subst hsg hrh;refine .B ?_;exact⟨rfl,[1,2,4,5,6,1000,1001],[2,4,5,1000,1001],rfl,rfl⟩
 clear hsg hrh hvr hvn hvn2 hbc;refine T.mids (λu:Value=>⟨[(1,.val false (.int .i64 v)),(2,.optr 0 0 0 0),(4,.optr 1 0 0 0),(5,.optr 2 0 0 0),(6,.val true (.int .i64 sg)),(1000,.eq u 3),(1001,.eq (.slice none 0 0) 4)],[(0,some (.box false (cG g))),(1,some (.box true [.int .i64 0,.sl [],.sl [],.int .i64 0,.int .i64 0,.sl [],.int .i64 0])),(2,some (.box true [.int .i64 0,aq g.vars,.raw u,.int .i64 0,.int .i64 rh,.raw (.slice none 0 0),.int .i64 0])),(3,some (.sl 3 1 true ((g.coefs.map (sg* ·)).map cI))),(4,some (.sl 24 1 true []))],5⟩) ?_ λu=> ?_
 ·refine .M ?_;refine T.K (T.ind (λs:Nat×Value=>⟨[(1,.val false (.int .i64 v)),(2,.optr 0 0 0 0),(4,.optr 1 0 0 0),(5,.optr 2 0 0 0),(6,.val true (.int .i64 sg)),(7,.val true (.int .i64 s.1)),(1000,.eq s.2 3),(1001,.eq (.slice none 0 0) 4)],[(0,some (.box false (cG g))),(1,some (.box true [.int .i64 0,.sl [],.sl [],.int .i64 0,.int .i64 0,.sl [],.int .i64 0])),(2,some (.box true [.int .i64 0,aq g.vars,.raw s.2,.int .i64 0,.int .i64 rh,.raw (.slice none 0 0),.int .i64 0])),(3,some (.sl 3 1 true (((g.coefs.take s.1).map (sg* ·)).map cI))),(4,some (.sl 24 1 true []))],5⟩) (λs=>s.1<=g.coefs.length) (λs=>g.coefs.length-s.1) (0,.slice none 0 0) (Ek _) (λ_ _ h=>by cases h.1) ?_);rintro⟨i,u⟩ hi ih;simp only at hi;refine .B ?_;refine T.cd Y (λh5=> ?_) (λh5=> ?_)
  ·have h5:i<g.coefs.length:=(by have h:=h5;rw[EB]at h;omega);have hci:=fI (h3 _ (EA h5));have htk:(g.coefs.take (i+1)).map (sg* ·)=(g.coefs.take i).map (sg* ·)++[sg*g.coefs[i]]:=(by rw[ED h5,Ey];rfl);have hln:((g.coefs.take i).map (sg* ·)).length<=1024:=(by simp;omega);have ih1:=λu'=>ih (i+1,u') (by show _<=_;omega) (by show _-_<_-_;omega);simp only[htk,Ey]at ih1;have hrow:=aA (enc:=cI) h5;have hmul:IntKind.i64.wrap (sg*g.coefs[i])=sg*g.coefs[i]:=(by rcases hsb with h|h<;>rw[h]<;>exact ae (by omega) (by omega));generalize (g.coefs.take i).map (sg* ·)=out at*;generalize g.coefs[i]=k at*;refine .M ?_;refine T.rdw 12 Y (by kernel_rfl) Y ?_;refine J.H Y ?_;refine J.lr 1000 (q:=3) (u:=u) Y Y Y Y Y Y Y Y Y ?_;refine .M ?_;refine .I (r:=cI k) hrow ?_;refine .M ?_;refine .V ?_;rw[hmul];refine J.ad Y Y Y Y Y Y Y Y Y Y Y Y Y Y Y Y Y Y (cy Y) (by show(List.length _+1)*8<=_;simp;omega) ?_;refine .M ?_;refine⟨by kernel_rfl,?_⟩;refine J.name 1000 (s:=39) Y Y Y λu'=> ?_;refine J.sub (Rel.raw (s:=39) (g:=1000) Y (.inl Y) Y Y Y) ?_;refine .X ?_;rw[ai (l:=g.coefs.length) (n:=i) h5 (by omega)];exact T.K (ih1 u')
  ·have e:i=g.coefs.length:=(by have h:=h5;rw[EB]at h;omega);subst e;rw[Ej];refine .B ?_;exact⟨rfl,u,[1,2,4,5,6,1000,1001],[2,4,5,1000,1001],rfl,rfl⟩
 ·refine T.sub (Rel.cellF 1000 2 (q:=2) (n:=3) (λb h=>h) Y Y Y Y Y) ?_;refine T.sub (Rel.cellF 1001 5 (q:=2) (n:=4) (λb h=>h) Y Y Y Y Y) ?_;refine .B ?_;refine .X ?_;exact⟨_,.cell Y Y Y (λ_=>rfl) .nil⟩
abbrev stV (m:Mod)(left:Int)(nodes:Int)(short over:Bool)(fv:Value)(bd:List Con):Own:= .box false [.sl (m.vars.map cV),bP m.cons,.int .i64 m.goal.kind,aq m.goal.vars,aq m.goal.coefs,.int .i64 left,.int .i64 nodes,.bool short,.bool over,.raw fv,bP bd]
theorem xk (sb:Nat)(m:Mod)(left nodes:Int)(short over:Bool)(fv:Value)(bd:List Con)(h1:m.cons.length<=1024)(h2:bd.length<=1024):SpecX Tryz.prog 76 [pV sb] [] [stV m left nodes short over fv bd] [] [(true,.raw (pV sb))] (λ_=>[stV m left nodes short over fv bd]) (λ_=>[]) false (λ_=>[bP (m.cons++bd)]):=by
 refine SpecX.body (fn:=Tryz.f76) [1000] [] Y Y Y Y λw0 Z=> ?_;refine T.sub (Rel.derawp (s:=0) (g:=1000) Y Y Y) ?_;refine .B ?_;refine .Q ?_;refine J.am (enc:=cC) (l:=([]:List Con)) (l2:=m.cons) (B:=104) Y Y Y Y Y Y Y Y Y Y Y Y Y Y Y Y Y (λ_=>rfl) Y (by show(0+_)*104<=_;omega) ?_;refine .B ?_;refine J.am (enc:=cC) (l:=([]:List Con)++m.cons) (l2:=bd) (B:=104) Y Y Y Y Y Y Y Y Y Y Y Y Y Y Y Y Y (λ_=>rfl) Y (by simp;omega) ?_;refine J.sub (Rel.frzX (s:=16) (o:=3) Y Y ⟨.inr ⟨1000,_,_,rfl,rfl,by decide⟩,trivial⟩) ?_;refine .B ?_;exact⟨[0],[],[],⟨rfl,⟨_,rfl,rfl,rfl⟩,trivial⟩,trivial,rfl,.val Y Y (λh=>by cases h) .nil⟩
theorem uN (g:Goal)(a:List Int)(hg:g.kind≠0->GoalOk g)(hvl:g.vars.length<=1024)(hkl:g.coefs.length<=1024)(hal:a.length*8<=140737488355328)(ha: ∀x∈a,-1048576<=x/\x<=1048576):Spec Tryz.prog 24 false [.agg (cG g),aq a] [.val (.int .i64 (cY g a))]:=by
 refine Spec.body Tryz.func24 Y Y Y λw0 Z0=> ?_;have hs:=rz g.vars g.coefs a (by omega) (by omega) hal;refine .B ?_;refine T.cd Y (λh=> ?_) (λh=> ?_)
 ·rw[show cY g a=0 from E6 h];refine .B ?_;exact r1
 ·have hgo:=hg h;have e:sumW g.vars g.coefs a=cY g a:=by
   rw[show cY g a=cU g.vars g.coefs a from E4 h];exact ta (g:=atR a) hgo.len hgo.ck (by have:=hgo.weight;omega) (λ_ _=>rfl) λu _=>C2 ha u
  rw[e]at hs;refine .B ?_;refine .D hs ?_;exact r1
abbrev flV (l:List (List Int)):Own:= .sl 24 1 true (l.map cL)
abbrev rE (sb:Nat)(m:Mod)(best:Bool)(left:Int)(sl:List (Nat×SV))(fv:Value)(s:Srch (List (List Int))):St:=
 ⟨sl++[(1000,.eq (pV sb) 0),(1001,.eq fv 1)],[(0,some (stV m left s.nodes s.short s.over fv (jQ best m.goal s.st))),(1,some (flV s.st))],2⟩
abbrev B9 (sb:Nat)(m:Mod)(best:Bool)(left:Int)(d:aa)(fv dv:Value)(s r:Srch (List (List Int))):Prop:=
 SpecX Tryz.prog 39 [pV sb] [fv,dv] [stV m left s.nodes s.short s.over fv (jQ best m.goal s.st)] [flV s.st,.sl 54 1 true (d.map cD)] [(true,.raw (pV sb)),(true,.raw dv),(true,.bool best)] (λns=>[stV m left r.nodes r.short r.over (ns.getD 0 undef) (jQ best m.goal r.st)]) (λ_=>[flV r.st]) true (λ_=>[])
theorem AC {best:Bool}{g:Goal}(h: ¬(best=true/\g.kind≠0))(st:List (List Int)):jQ best g st=[]:=E4 h
theorem B3 {g:Goal}(hk:g.kind≠0)(st:List (List Int))(a:List Int):jQ true g (st++[a])=[iA g (cY g a)]:=by
 unfold jQ;rw[E6 ⟨rfl,hk⟩,H9];simp
theorem m8 {σ:Type}{left B:Int}{con:σ->List Con}{fnd:σ->List Int->σ×Bool}(hB:left<=B): ∀(n:Nat) (d:aa) (s:Srch σ),(s.nodes:Int)<=B->((lookG left con fnd n d s).nodes:Int)<=B
 |0,d,s,h=>h
 |n+1,d,s,h=>by
  rw[lookG];split;·exact h
  ·have h1:((s.nodes+1:Nat):Int)<=B:=(by omega);split;·exact h1
   ·split;·exact h1
    ·refine kn (Q:=λs:Srch σ=>(s.nodes:Int)<=B) (λs x _ h=> ?_) h1;split;·exact h
     ·exact m8 hB n _ _ h
set_option maxHeartbeats 4000000 in
theorem zu (sb:Nat){m:Mod}(hF:Fit m)(best:Bool)(left:Int)(hleft:left<=1099511627776):
  ∀(n:Nat) (d:aa) (s:Srch (List (List Int))) (fv dv:Value),weight d<n->GoodD (domsM m).length d->leD d (domsM m)->I14 s.st->s.st.length<=s.nodes->(s.nodes:Int)<=1099511627776->
  B9 sb m best left d fv dv s (if s.over=true then s else lookG left (ji best m) (qv best m.goal) n d s):=by
 intro n;have hS:=D7 hF best;have hcl:=hF.cl;have hdl:(domsM m).length<=1024:=by have:=hF.mb.vl;simpa[domsM]using this
 induction n with
 |zero=>intro d s fv dv hw;omega
 |succ n ihn=>
  intro d s fv dv hw gd hle hi hsn hnd;refine SpecX.body (fn:=Tryz.f39) [1000,1001,1002] [1001] Y Y Y Y λw0 Z=> ?_;refine T.sub (Rel.derawp (s:=0) (g:=1000) Y Y Y) ?_;obtain⟨r,hr⟩: ∃r,r=if s.over=true then s else lookG left (ji best m) (qv best m.goal) (n+1) d s:=⟨_,rfl⟩
  rw[<-hr];refine T.sub (Rel.deraw (s:=1) (g:=1002) Y Y) ?_;refine .B ?_;refine T.cond Y (λho=> ?_) (λho=> ?_)
  ·have ho:s.over=true:=ho;rw[E6 ho]at hr;subst hr;refine .B ?_;exact⟨[0],[1],[fv],⟨rfl,⟨_,rfl,rfl,rfl⟩,trivial⟩,⟨rfl,⟨_,rfl,rfl,rfl⟩,trivial⟩,rfl,.nil⟩
  have ho:s.over=false:=ho;rw[E4 (by rw[ho];simp)]at hr;rw[lookG]at hr;refine .B ?_;refine T.cd Y (λh=> ?_) (λh=> ?_)
  ·rw[E6 h]at hr;subst hr;refine .B ?_;refine .X ?_;refine .X ?_;exact⟨[0],[1],[fv],⟨rfl,⟨_,rfl,rfl,rfl⟩,trivial⟩,⟨rfl,⟨_,rfl,rfl,rfl⟩,trivial⟩,rfl,.nil⟩
  rw[E4 h]at hr;refine .B ?_;rw[ae (by omega) (by omega),<-Int.natCast_succ];refine .W ?_;refine .M ?_;refine J.cx [0] [1000] [] (xk sb m left ((s.nodes+1:Nat):Int) s.short s.over fv (jQ best m.goal s.st) (by omega) (Ei (B2 _ _ _) (by omega))) ⟨rfl,⟨_,rfl,rfl,rfl⟩,trivial⟩ (λns hns=> ?_);refine .M ?_;have e0:ns=[]:=EP hns;subst e0;refine .M ?_;have fd:=gd.few;have hall:=(AD (hS.run s.st hi) (e:=d) (λx hx=>⟨fd.fine x hx,fd.few x hx⟩) hle).2.frz;refine .C hall ?_;refine .M ?_;clear hall;cases hR:fL (ji best m s.st) d with
  |none=>
   rw[hR]at hr;dsimp only at hr;subst hr;refine T.ct Y ?_;refine .M ?_;exact⟨[0],[1],[fv],⟨rfl,⟨_,rfl,rfl,rfl⟩,trivial⟩,⟨rfl,⟨_,rfl,rfl,rfl⟩,trivial⟩,rfl,.nil⟩
  |some l=>
   rw[hR]at hr;dsimp only at hr;obtain⟨gl,hld,hl0,hst⟩:=oH hS gd hle hi hR;have fl:=gl.few;refine T.cf Y ?_;refine T.K (?_:T _ _ (rE sb m best left [(0,.optr 0 0 0 0),(2,.val true (.bool best)),(6,.val true (ak l))] fv { s with nodes:=s.nodes+1 }) _);refine .M ?_;refine .C (tc l fl.small fl.fine).frz ?_;refine .M ?_;cases hsv:bY l with
   |some a=>
    rw[hsv]at hr;dsimp only at hr;refine T.ct Y ?_;refine .M ?_;refine J.sub (Rel.deraw (s:=59) (g:=1001) Y Y) ?_;refine .V ?_;refine J.a Y Y Y Y Y Y Y Y Y Y Y Y Y Y Y Y Y (cy Y) (Ei (F1 _ (show(s.st.map cL).length+1<=1099511627777 by rw[EB];omega)) (show 1099511627777*24<=140737488355328 by decide)) ?_;refine J.name 1001 (s:=62) Y Y Y λu=> ?_;refine J.sub (Rel.raw (s:=62) (g:=1001) Y (.inl Y) Y Y Y) ?_;refine .M ?_;refine .W ?_;have e:s.st.map cL++[[aq a]]=(s.st++[a]).map cL:=(by simp[cL]);obtain rfl|rfl:best=false∨best=true:=by cases best<;>simp
    ·subst hr;refine .M ?_;refine T.cf Y ?_;refine .M ?_;refine T.cf Y ?_;refine .M ?_;exact⟨[0],[2],[u],⟨rfl,⟨_,rfl,by rw[ho];rfl,rfl⟩,trivial⟩,⟨rfl,⟨_,rfl,congrArg (λl=>Own.sl 24 1 true l) e,rfl⟩,trivial⟩,rfl,.nil⟩
    ·by_cases hk:m.goal.kind=0
     ·have hr:r=⟨s.nodes+1,s.short,true,s.st++[a]⟩:=(by rw[hr];show Srch.mk _ _ (true&&decide (m.goal.kind=0)) _=_;rw[EF hk];rfl);subst hr;refine .M ?_;refine T.ct2 Y (EF hk) ?_;refine .M ?_;refine .W ?_;refine .M ?_;have eb: ∀st,jQ true m.goal st=[]:=λst=>AC (λh=>h.2 hk) st;refine⟨[0],[2],[u],⟨rfl,⟨_,rfl,?_,rfl⟩,trivial⟩,⟨rfl,⟨_,rfl,congrArg (λl=>Own.sl 24 1 true l) e,rfl⟩,trivial⟩,rfl,.nil⟩;show Own.reg _ _=stV m left (s.nodes+1:Nat) s.short true u (jQ true m.goal (s.st++[a]));rw[eb,eb];rfl
     ·have hr:r=⟨s.nodes+1,s.short,false,s.st++[a]⟩:=(by rw[hr];show Srch.mk _ _ (true&&decide (m.goal.kind=0)) _=_;rw[EE hk];rfl);subst hr;have hgo:=hF.g.ok hk;have hav:=(iw hF.r.good ⟨l,gl,hl0,hst,hsv⟩);have hva:=uN m.goal a (λ_=>hgo) hF.mb.gl.1 hF.mb.gl.2 (by have:=hav.1;omega) hav.2.2;have hbo:=u5 m.goal (cY m.goal a) hgo (uw (λ_=>hgo) hav.2.2);refine .M ?_;refine T.cf2 Y (EE hk) ?_;refine .M ?_;refine T.ct Y ?_;refine .M ?_;refine T.rdm 17 Y (by kernel_rfl) Y ?_;refine .M ?_;refine .C hva ?_;refine .M ?_;refine .C hbo ?_;refine .M ?_;refine .V ?_;refine .M ?_;refine .W ?_;refine .M ?_;refine⟨[0],[2],[u],⟨rfl,⟨_,rfl,?_,rfl⟩,trivial⟩,⟨rfl,⟨_,rfl,congrArg (λl=>Own.sl 24 1 true l) e,rfl⟩,trivial⟩,rfl,.nil⟩;show Own.reg _ _=stV m left (s.nodes+1:Nat) s.short false u (jQ true m.goal (s.st++[a]));rw[B3 hk,ho];rfl
   |none=>
    rw[hsv]at hr;dsimp only at hr;refine T.cf Y ?_;refine .M ?_;obtain⟨hv,hv1,hv2⟩:=oG gl hsv;generalize openV l=v at*;have hll:=gl.len;refine T.K (T.ind (λi:Nat=>rE sb m best left [(0,.optr 0 0 0 0),(2,.val true (.bool best)),(6,.val true (ak l)),(10,.val true (.int .i64 i))] fv { s with nodes:=s.nodes+1 })
     (λi=>i<=v) (λi=>v-i) 0 (Ek _) (λ_ _ h=>h) ?_)
    ·intro i hiv ih;have hil:i<l.length:=(by omega);have hm:=EA hil;have hrow:(l.map cD)[((i:Nat):Int).toNat]? =some (cD l[i]):=(by rw[Eh,EI,E5 hil];rfl);have hfe:=fl.fine _ hm;have hdv:=(bB l[i] hfe.domB.1 (by have:=fl.few _ hm;omega) (by have:=hfe.len;omega)).frz;refine .M ?_;refine .I (r:=cD l[i]) hrow ?_;refine .M ?_;refine .C hdv ?_;refine .M ?_;have hln:((vals l[i]).map cI).length=(vals l[i]).length:=EB ..;by_cases hiv2:i<v
     ·have h1:=hv2 i hiv2;rw[E0,E5 hil]at h1;refine T.ct2 Y (EF (by rw[hln,show(vals l[i]).length=1 from h1];rfl)) ?_;refine .M ?_;rw[ai hil (by omega)];exact T.K (ih (i+1) hiv2 (by omega))
     obtain rfl:i=v:=(by omega);have hg:l.getD i []=l[i]:=(by rw[E0,E5 hil];rfl);rw[hg]at hr hv1;refine T.cf2 Y (EE (by rw[hln];omega)) ?_;refine .M ?_;refine .I (r:=cD l[i]) hrow ?_;refine .M ?_;refine .C hdv ?_;refine .M ?_;have hym:l[i]∈l:=hm;have hwl:=(f5 gl gd hld).1;have hyf:=fl.few _ hym;generalize hxs:vals l[i]=xs at*;have hxm: ∀x∈xs,x∈vals l[i]:=λx hx=>(by rw[hxs];exact hx);refine T.K (T.ind (λx:Value×Srch (List (List Int))×Nat=>rE sb m best left [(0,.optr 0 0 0 0),(2,.val true (.bool best)),(6,.val true (ak l)),(10,.val true (.int .i64 i)),(11,.val true (aq xs)),(12,.val true (.int .i64 x.2.2))] x.1 x.2.1)
      (λx=>x.2.2<=xs.length/\I14 x.2.1.st/\x.2.1.st.length<=x.2.1.nodes/\(x.2.1.nodes:Int)<=1099511627776/\(xs.drop x.2.2).foldl (λs x=>if s.over then s else lookG left (ji best m) (qv best m.goal) n (l.set i [(x,x)]) s) x.2.1=r) (λx=>xs.length-x.2.2) (fv,{ s with nodes:=s.nodes+1 },0) ⟨Ek _,hi,HS hsn,by dsimp only;omega,hr.symm⟩ (λ_ _ h=>h) ?_)
     rintro⟨gv,t,k⟩ ⟨hkl,hti,htz,htn,htr⟩ ih2;dsimp only at hkl hti htz htn htr ih2⊢;by_cases hlt:k<xs.length
     ·refine .M ?_;refine T.ct2 Y (EF (by rw[EB];omega)) ?_;refine .M ?_;refine .C (cJ l fl.small (λx hx=>(fl.fine x hx).domB.2.2)) ?_;refine .M ?_;have hxi:=hxm _ (EA hlt);have hrw:(xs.map cI)[((k:Nat):Int).toNat]? =some (cI xs[k]):=(by rw[Eh,EI,E5 hlt];rfl);refine T.rdw 13 Y (by kernel_rfl) Y ?_;refine .M ?_;refine .I (r:=cI xs[k]) hrw ?_;refine .M ?_;refine .I (r:=cI xs[k]) hrw ?_;refine .M ?_;refine .V ?_;refine .M ?_;refine J.io Y Y Y Y Y Y Y Y Y (by omega) (by simpa using hil) Y ?_;refine .M ?_;refine⟨rfl,?_⟩;refine J.w1 Y Y Y Y Y Y Y Y Y Y Y (enc:=cD) (z:=[(xs[k],xs[k])]) (λ_=>rfl) hil ?_;refine .M ?_;have hc:=mG gl hil (x:=xs[k]) (by rw[hg];exact hxi);obtain⟨gc,hc1,hc2⟩:=hc;refine J.name 1002 (s:=13) Y Y Y λnv=> ?_;refine J.sub (Rel.raw (s:=132) (g:=1002) Y (.inl Y) Y Y Y) ?_;have hlk:=ihn (l.set i [(xs[k],xs[k])]) t gv nv (by have:=hc2 (by rw[hg,hxs];exact hv1);omega) gc ((aW 0).trans _ _ _ hc1 hl0) hti htz htn;refine J.cx [0,1,2] [1000,1001,1002] [1001] hlk ⟨rfl,⟨_,rfl,rfl,rfl⟩,rfl,⟨_,rfl,rfl,rfl⟩,rfl,⟨_,rfl,rfl,rfl⟩,trivial⟩ (λns hns=> ?_);obtain⟨a1,rfl⟩:=xO hns Y;refine .M ?_;rw[ai hlt (by omega)];have hgo:=(iQ (left:=left) hS n (l.set i [(xs[k],xs[k])]) t (by have:=hc2 (by rw[hg,hxs];exact hv1);omega) gc ((aW 0).trans _ _ _ hc1 hl0) hti).inv;refine T.K (ih2 (a1,if t.over=true then t else lookG left (ji best m) (qv best m.goal) n (l.set i [(xs[k],xs[k])]) t,k+1) ?_ (by dsimp only;omega));rw[EQ hlt,Eg]at htr;refine⟨hlt,?_,?_,?_,htr⟩
      ·dsimp only;split;·exact hti
       ·exact hgo
      ·dsimp only;split;·exact htz
       ·exact l7 (sz:=List.length) (λst a=>Nat.le_of_eq (EZ)) n _ _ htz
      ·dsimp only;split;·exact htn
       ·exact m8 hleft n _ _ htn
     ·obtain rfl:k=xs.length:=(by omega);rw[FK]at htr;have htr:t=r:=htr;subst htr;refine .M ?_;refine T.cf2 Y (EE (by rw[EB];omega)) ?_;refine .M ?_;exact⟨[0],[1],[gv],⟨rfl,⟨_,rfl,rfl,rfl⟩,trivial⟩,⟨rfl,⟨_,rfl,rfl,rfl⟩,trivial⟩,rfl,.nil⟩
theorem Rel.unag {K:Ctx}{sl:List (Nat×SV)}{ow:List (Nat×Option Own)}{nx s:Nat}{fr:Bool}{ps:List PV}(hs:lk sl s=some (.val fr (.agg ps)))(a:Act)(w:World)(h:Rel K ⟨sl,ow,nx⟩ a w):Rel K ⟨(s,.tupB true (ps.map (SV.val fr)))::sl,ow,nx⟩ a w:=by
 obtain⟨φ,hφ⟩:=h;obtain⟨v,hv,hr⟩:=hφ.slot s _ hs;have hr:Rep w _ v (.agg ps):=hr;cases hr with
 |agg vs _ h1 h2=>
  refine⟨φ,hφ.reslot (sv:= .tupB true (ps.map (SV.val fr))) hv ⟨vs,rfl,?_⟩ (λx hx=> ?_) Y slot_put⟩
  ·clear hv h2 hs hr;revert h1;generalize vs=us;intro h1
   induction h1 with
   |nil=>exact .nil
   |cons h _ ih=>exact .cons h ih
  ·obtain⟨p,_,rfl⟩:=EH.1 hx;trivial
theorem wL {m:Mod}(hF:Fit m)(left:Int)(hleft:left<=1099511627776):Spec Tryz.prog 19 false [.agg (cM m),.int .i64 left] [.val (aq ((srch14 true m left).st.getLast?.getD [])),.val (.bool (srch14 true m left).st.getLast?.isSome),.val (.bool (!(srch14 true m left).short)),.val (.int .i64 (srch14 true m left).nodes),.val (.int .i64 0)]:=by
 refine Spec.body Tryz.func19 Y Y Y λw0 Z0=> ?_;have hck:=nV m hF.mb;rw[hF.ck]at hck;refine .B ?_;refine .D hck ?_;refine T.cf2 Y (by decide) ?_;refine T.skip ?_;refine T.seq ?_;refine T.r ?_
 iterate 2 refine J.H Y ?_
 refine J.sub (Rel.unag (s:=17) Y) ?_;refine J.br Y Y Y Y Y ?_;refine J.sub (Rel.agrawZ (s:=19) [] Y Y) ?_;refine J.bx Y Y Y Y Y Y ?_;refine J.H Y ?_;refine J.nil ?_;refine T.sub (Rel.canon (keep:=[2,10]) (os:=[2,10]) Y) (?_:T _ _ ⟨[(2,.optr 0 0 0 0),(10,.optr 1 0 0 0)],[(0,some (.box false (cM m))),(1,some (.box false [.sl (m.vars.map cV),bP m.cons,.int .i64 m.goal.kind,aq m.goal.vars,aq m.goal.coefs,.int .i64 left,.int .i64 0,.bool false,.bool false,.raw (.slice none 0 0),.raw (.slice none 0 0)]))],2⟩ _);refine T.sub (Rel.ownN 1003 51 7) ?_;refine T.sub (Rel.cellF 1003 10 (q:=1) (n:=2) (λb h=>h) Y Y Y Y Y) ?_;refine T.sub (Rel.ownN 1001 24 1) ?_;refine T.nameO 1000 1 Y Y λsu=> ?_;refine T.canon (keep:=[2,10,1000,1001]) (os:=[2,1000,1001]) Y ?_;refine T.knownp 1000 1 Y Y λsb e1=> ?_;obtain rfl:su=pV sb:=e1;refine .M ?_;refine .C (ll m hF.mb) ?_;refine J.name 1002 (s:=23) Y Y Y λdv=> ?_;refine J.sub (Rel.raw (s:=23) (g:=1002) Y (.inl Y) Y Y Y) ?_;refine J.sub (Rel.raw (s:=21) (g:=1000) Y (.inr Y) Y Y Y) ?_;have hrk:B9 sb m true left (domsM m) (.slice none 0 0) dv ⟨0,false,false,[]⟩ (srch14 true m left):=zu sb hF true left hleft (weight (domsM m)+1) (domsM m) ⟨0,false,false,[]⟩ (.slice none 0 0) dv (FY _) hF.r.good leD.rfl' (λa h=>by cases h) (Ek _) (by show((0:Nat):Int)<=_;omega);have e0:jQ true m.goal []=[]:=(by unfold jQ;split<;>rfl);unfold B9 at hrk;dsimp only at hrk;rw[e0]at hrk;have hsz:(srch14 true m left).st.length<=(srch14 true m left).nodes:=l7 (sz:=List.length) (λst a=>Nat.le_of_eq (EZ)) _ _ _ (Ek _);have htop:((srch14 true m left).nodes:Int)<=1099511627776:=m8 hleft _ _ _ (by show((0:Nat):Int)<=_;omega);generalize srch14 true m left=r at*;refine J.cx [1,2,3] [1000,1001,1002] [1001] hrk ⟨rfl,⟨_,rfl,rfl,rfl⟩,rfl,⟨_,rfl,rfl,rfl⟩,rfl,⟨_,rfl,rfl,rfl⟩,trivial⟩ (λns hns=> ?_);obtain⟨a1,rfl⟩:=xO hns Y;refine .M ?_;refine J.sub (Rel.deraw (s:=28) (g:=1001) Y Y) ?_;refine .M ?_;have hll:(r.st.map cL).length=r.st.length:=EB ..;by_cases h0:r.st.length=0
 ·have e:r.st=[]:=EP h0;refine T.ct2 Y (EF (by rw[hll];omega)) ?_;rw[e];refine .B ?_;exact⟨_,.v Y Y Y (λ_=>rfl) (.v Y Y Y (λ_=>rfl) (.v Y Y Y (λ_=>rfl) (.v Y Y Y (λ_=>rfl) (.v Y Y Y (λ_=>rfl) .nil))))⟩
 ·refine T.cf2 Y (EE (by rw[hll];omega)) ?_;obtain⟨st,a,e⟩: ∃st a,r.st=st++[a]:=⟨r.st.dropLast,r.st.getLast (λe=>h0 (by rw[e];rfl)),(Hd _).symm⟩;have hrow:(r.st.map cL)[(((st.length:Nat):Int)).toNat]? =some (cL a):=(by rw[Eh,e,EI,Eo (EO _),Gs];rfl);have hl:r.st.length=st.length+1:=(by rw[e];simp);have hg:r.st.getLast? =some a:=(by rw[e];simp);rw[hg];refine T.canon (keep:=[10,11,1000,1001]) (os:=[1000,1001]) Y ?_;refine T.skip ?_;refine .A ?_
  conv=>whnf
  refine .A ?_
  conv=>whnf
  iterate 3 refine J.H Y ?_
  refine J.lr 1001 (q:=1) (u:=a1) Y Y Y Y Y Y Y Y Y ?_;refine .M ?_;rw[show IntKind.i64.wrap (((r.st.map cL).length:Int)-1)=((st.length:Nat):Int)by rw[hll,hl,ae (by omega) (by omega)];omega];refine J.io Y Y Y Y Y Y Y Y Y (by omega) (by rw[hll,hl];omega) Y ?_;refine J.lo Y Y Y Y Y Y (r:=cL a) hrow Y ?_;refine .B ?_;exact⟨_,.v Y Y Y (λ_=>rfl) (.v Y Y Y (λ_=>rfl) (.v Y Y Y (λ_=>rfl) (.v Y Y Y (λ_=>rfl) (.v Y Y Y (λ_=>rfl) .nil))))⟩
set_option maxHeartbeats 1000000 in
theorem xP (m:Mod)(budget:Int)(hm:ModI m):Spec Tryz.prog 4 true [.agg (cM m),.int .i64 budget] [.val (.bool true)]:=by
 refine Spec.body Tryz.func4 Y Y Y λw0 Z0=> ?_;have hrs:=vI m 300 hm (by omega);have hb:=wH m;have hfit:=λh=>(Dm (most:=300) hb h (by omega)).1;generalize okM (boundM m) 300=ok at*;generalize boundM m=b at*;refine .B ?_;refine .D hrs ?_;refine .X ?_;cases ok with
 |false=>
  refine .B ?_;refine T.ct Y ?_;refine .B ?_;refine .D my ?_;exact⟨_,.v Y Y Y (λh=>by cases h) .nil⟩
 |true=>
  have hF:=hfit Y;have hmin:min budget 400<=1099511627776:=(by omega);have s1:=BO hF (min budget 400) hmin;have s2:=wL hF (min budget 400) hmin;have hlen:=BZ hF (min budget 400);rw[AQ b (min budget 400)]at s1 hlen;have hdl:(domsM b).length<=1024:=(by have:=hF.mb.vl;simpa[domsM]using this);have hsm:=w9 b hF.mb;generalize srch14 true b (min budget 400)=r at*;obtain⟨nodes,short,over,st⟩:=r;dsimp only at s1 s2 hlen;have l1:=c7 (st.getLast?.getD []) (st.getLast?.getD []) (by
   cases h:st.getLast? with
   |none=>simp
   |some a=>have:=hlen a h;simp;omega)
  rw[EF Y]at l1;generalize st.getLast?.getD []=best at*;generalize st.getLast?.isSome=some? at*;refine T.cf Y ?_;refine .B ?_;refine J.cx [] [] [1000] (At b hF.mb) trivial (λns hns=> ?_);obtain⟨u,rfl⟩:=xO hns Y;refine .M ?_;refine .L ?_;refine .W ?_;refine .M ?_;refine J.sub (Rel.cellF 1000 4 (q:=2) (n:=1) (λb h=>h) Y Y Y Y Y) ?_;refine .C s1 ?_;refine .M ?_;refine .C s2 ?_;refine .M ?_;refine .C l1 ?_;cases some? <;>cases short
  all_goals
   refine .M ?_;refine J.g Y Y Y (λ_=> ?_) (λh=>EX Y h);refine .M ?_;refine .C hsm ?_;refine .M ?_;refine .C my ?_;refine .M ?_;exact⟨_,.v Y Y Y (λh=>by cases h) .nil⟩
set_option maxRecDepth 100000
section
variable {H:Type}{henc:TypeId×Value->H}{w:World}
theorem gO:dW henc Tryz.prog w 3 cI (λn=> -9223372036854775808<=n/\n<=9223372036854775807):=zJ (by kernel_rfl)
theorem jB:dW henc Tryz.prog w 24 (λl=>[aq l]) (λl=>l.length*8<=reachBytes):=
 (fC (t:=24) (e:=3) (by kernel_rfl) gO (λ_=>by kernel_rfl) (by decide +kernel) (λa p hp=>by simp[cI]at hp;subst hp;rfl)).map id (λ_=>rfl) λl h=>h.1
theorem Bf:dW henc Tryz.prog w 34 (λl=>[bN l]) (λl=>l.length*24<=reachBytes/\∀x∈l,x.length*8<=reachBytes):=
 (fC (t:=34) (e:=24) (by kernel_rfl) jB (λ_=>by kernel_rfl) (by decide +kernel) (λa p hp=>by simp at hp;subst hp;rfl)).map id (λ_=>rfl) λl h=>h
theorem zK:dW henc Tryz.prog w 51 cC ConB:=by
 have h:=ez (henc:=henc) (w:=w) Tryz.underlying51 (aY gO Y (aY jB (by kernel_rfl) (aY jB (by kernel_rfl) (aY gO (by kernel_rfl) (aY gO (by kernel_rfl) (aY Bf (by kernel_rfl) (aY gO (by kernel_rfl) (gr _)))))))) (by kernel_rfl);refine h.map (λx=>(⟨x.1,x.2.1,x.2.2.1,x.2.2.2.1,x.2.2.2.2.1,x.2.2.2.2.2.1,x.2.2.2.2.2.2.1⟩:Con)) (λ_=>rfl) λx h=> ?_;obtain⟨_,h1,h2,_,_,h3,_⟩:=h;have e:reachBytes=140737488351232:=rfl;rw[e]at h1 h2 h3;exact⟨by simp only;omega,by simp only;omega,by simp only;omega,λy hy=>by have:=h3.2 y hy;omega⟩
end
end Go.Proofs.YtopcjbahjjhdmaaGreat
namespace Go.Proofs.YtopcjbahjjhdmaaGreat
open Go Go.RowKit
set_option linter.unusedVariables false
set_option maxRecDepth 100000
section
variable {H:Type}{henc:TypeId×Value->H}{w:World}
theorem Cr:dW henc Tryz.prog w 9 (λs:ByteArray=>[.str s]) (λ_=>True):=by
 intro fuel cs x h _ _;obtain⟨s,rfl,_,_⟩:=DataW.trod_string (show Tryz.prog.underlying 9=some .string by kernel_rfl) h;exact⟨s,.cons (.str _) .nil,trivial⟩
theorem vw:dW henc Tryz.prog w 53 cR (λ_=>True):=by
 have h:=ez (henc:=henc) (w:=w) Tryz.underlying53 (aY gO Y (aY gO (by kernel_rfl) (gr _))) (by kernel_rfl);exact h.map (λx=>(x.1,x.2.1)) (λ_=>rfl) λ_ _=>trivial
theorem Cs:dW henc Tryz.prog w 54 (λl=>[dm l]) (λl=>l.length*16<=reachBytes):=
 (fC (t:=54) (e:=53) (by kernel_rfl) vw (λ_=>by kernel_rfl) (by decide +kernel) (λa p hp=>by simp[cR]at hp;rcases hp with rfl|rfl<;>rfl)).map id (λ_=>rfl) λl h=>h.1
theorem zH:dW henc Tryz.prog w 56 cV (λv=>v.2.length*16<=reachBytes):=by
 have h:=ez (henc:=henc) (w:=w) Tryz.underlying56 (aY Cr Y (aY Cs (by kernel_rfl) (gr _))) (by kernel_rfl);exact h.map (λx=>(x.1,x.2.1)) (λ_=>rfl) λx h=>h.2.1
theorem xx:dW henc Tryz.prog w 22 (λl:List (ByteArray×List (Int×Int))=>[.sl (l.map cV)]) (λl=>l.length*40<=reachBytes/\∀v∈l,v.2.length*16<=reachBytes):=
 (fC (t:=22) (e:=56) (by kernel_rfl) zH (λ_=>by kernel_rfl) (by decide +kernel) (λa p hp=>by simp[cV]at hp;rcases hp with rfl|rfl<;>rfl)).map id (λ_=>rfl) λl h=>h
theorem xA:dW henc Tryz.prog w 51 cC (λc=>c.vars.length*8<=140737488355328/\c.coefs.length*8<=140737488355328/\c.rows.length*8<=140737488355328/\∀r∈c.rows,r.length*8<=140737488355328):=
 zK.map id (λ_=>rfl) λc h=>by obtain⟨h1,h2,h3,h4⟩:=h;exact⟨by simp only[id];omega,h2,by simp only[id];omega,h4⟩
theorem xz:dW henc Tryz.prog w 23 (λl=>[bP l]) (λl=>l.length*104<=reachBytes/\∀c∈l,c.vars.length*8<=140737488355328/\c.coefs.length*8<=140737488355328/\c.rows.length*8<=140737488355328/\∀r∈c.rows,r.length*8<=140737488355328):=
 (fC (t:=23) (e:=51) (by kernel_rfl) xA (λ_=>by kernel_rfl) (by decide +kernel) (λa p hp=>by simp[cC]at hp;rcases hp with rfl|rfl|rfl|rfl|rfl|rfl|rfl<;>rfl)).map id (λ_=>rfl) λl h=>h
theorem xy:dW henc Tryz.prog w 26 cG (λg=>g.vars.length*8<=reachBytes/\g.coefs.length*8<=reachBytes):=by
 have h:=ez (henc:=henc) (w:=w) Tryz.underlying26 (aY gO Y (aY jB (by kernel_rfl) (aY jB (by kernel_rfl) (gr _)))) (by kernel_rfl);exact h.map (λx=>(⟨x.1,x.2.1,x.2.2.1⟩:Goal)) (λ_=>rfl) λx h=>⟨h.2.1,h.2.2.1⟩
theorem zI:dW henc Tryz.prog w 28 cM ModI:=by
 have h:=ez (henc:=henc) (w:=w) Tryz.underlying28 (aY xx Y (aY xz (by kernel_rfl) (aY xy (by kernel_rfl) (gr _)))) (by kernel_rfl);refine h.map (λx=>(⟨x.1,x.2.1,x.2.2.1⟩:Mod)) (λ_=>by simp[cM,cG]) λx h=> ?_;obtain⟨⟨h1,h2⟩,⟨h3,h4⟩,⟨h5,h6⟩,_⟩:=h;have e:reachBytes=140737488351232:=rfl;rw[e]at h1 h3 h5 h6;exact⟨λv hv=>by have:=h2 v hv;rw[e]at this;omega,by simp only;omega,by simp only;omega,h4,by simp only;omega⟩
theorem mod_one (m:Mod): ∀p∈cM m,p.one=true:=by
 intro p hp;simp[cM,bP]at hp;rcases hp with rfl|rfl|rfl|rfl|rfl<;>rfl
end
end Go.Proofs.YtopcjbahjjhdmaaGreat
namespace Go.Proofs.YtopcjbahjjhdmaaGreat.searchBests
open Go.ChangeShapes Go.WideShapes Go.ChangeAt Go.RowKit
theorem own:ownKnob Tryz.prog.godebug=none:=by kernel_rfl
theorem laidOut:laidOutB Tryz.prog=true:=by kernel_rfl
set_option maxRecDepth 100000 in
theorem lifted (os:Os)(started:os.Started)(H:Type)(enc:TypeId×Value->H):
  ReturnsInHanded {} Tryz.checked os 4 .any (Rows.searchBestsSpec.pre6 enc Tryz.prog Tryz.f4 Rows.searchBestsRow.domain false) (Rows.searchBestsSpec.post enc Tryz.prog Tryz.f4 false true false false):=by
 refine returnsInHanded_of_change_sized (C:=Tryz.checked) own started (by kernel_rfl) Tryz.func4
  (ChangeSpec.witness6 (enc:=enc) (C:=Tryz.checked) false ⟨#[],#[.agg #[.slice none 0 0,.slice none 0 0,.int .i64 0,.slice none 0 0,.slice none 0 0],.int .i64 0],[]⟩ 8 (by kernel_rfl) (by kernel_rfl) (by kernel_rfl) (by kernel_rfl)) ?_
 intro W base args ds gs before hval0 hW hcnd hsz0 _;have hsz:(DataW.weightsEach Tryz.prog (Tryz.f4.params.toList++Rows.searchBestsSpec.plain.varTypes Tryz.prog) (ds++gs)).all (· <=reachBytes)=true:=hsz0;have hval: ∀(j:Nat) t v,Tryz.f4.params[j]? =some t->args[j]? =some v->Value.okWide Tryz.prog W .any base t v:=hval0;have hW':=hW;obtain⟨p,q,hA0,hV,rfl,hfz,hnd⟩:=hW;have hA:DataW.TrodAll enc Tryz.prog W 0 (λ_=>true) true Tryz.f4.params.toList args.toList ds p:=hA0;rw[Tryz.params4]at hA hval hsz;obtain⟨v0,vs0,d0,ds0,p0,q0,hargs,rfl,rfl,h0,r0⟩:=trodAll_cons hA;obtain⟨v1,vs1,d1,ds1,p1,q1,rfl,rfl,rfl,h1,r1⟩:=trodAll_cons r0;obtain⟨rfl,rfl,rfl⟩:=trodAll_nil r1;obtain rfl:args= #[v0,v1]:=(by cases args;simp_all);obtain⟨rfl,rfl⟩:=trodVars_none hV;have hv0:=hval 0 28 v0 Y Y;obtain⟨cs0,rfl,_,_⟩: ∃cs,v0= .agg cs/\cs.size=Tryz.prog.cellsOf 28/\Row.okWide Tryz.prog W .any base 28 cs:=by
  unfold Value.okWide at hv0;rw[Tryz.underlying28]at hv0;exact hv0
 have k0:=h0;have lt0: ∀x∈p0,x.block<W.heap.size:=(by obtain⟨m,hm⟩:=k0;exact DataW.trod_lt m _ _ _ hm);obtain⟨fuel0,hf0⟩:=h0;obtain⟨budget,rfl,rfl,rfl,w1⟩:=open_int Tryz.underlying3 (hval 1 3 v1 Y Y) h1;have hw:(DataW.weightsEach Tryz.prog (28::3::Rows.searchBestsSpec.plain.varTypes Tryz.prog) (d0:: .lit (.int .i64 budget)::[])).all (· <=reachBytes)=true:=hsz;rw[DataW.weightsEach,Fm,EL]at hw;obtain⟨hw0,hw⟩:=hw;rw[DataW.weightsEach,Fm,EL]at hw;obtain⟨hw1,hw⟩:=hw;obtain⟨m,hrep0,hm⟩:=zI fuel0 _ (d0,p0) hf0 hw0 (nf hfz λp hp=>by simp[hp]);clear hA0 hval0 hsz0 hsz hw;have hcs0:(Value.agg cs0).cells.toList=cs0.toList:=rfl;rw[hcs0]at hrep0;have harg0:Rep W (λ_=>True) (.agg cs0) (.agg (cM m)):=by
  have:=Rep.agg (w:=W) (Z:=λ_=>True) cs0.toList (cM m) hrep0 (mod_one m);simpa using this
 refine((xP m budget hm).out W (λ_=>True) [.agg cs0,.int .i64 budget] (.cons harg0 (.cons (.int _ _) .nil))).mono λe W' ⟨rs,he,bel,hret⟩=> ?_;have hrs:rs=[.bool true]:=by
  have h:=hret.each;cases h with
  |cons h1 h2=>cases h2;cases h1;rfl
 subst hrs;subst he;exact⟨_,rfl,_,_,_,[],_,[],hW',trodAll_mk1 (shut_bool Tryz.underlying4 _),trodAll_cons_mk (Below.trod laidOut (by kernel_rfl) (FO (by kernel_rfl)) k0 bel lt0) (trodAll_cons_mk (shut_int Tryz.underlying3 w1) trodAll_mk0),rfl,bel.frame _,λh=>by cases h⟩
theorem over:Rows.searchBestsRow.holds Tryz.pinned (OpenSpec.ofChange Rows.searchBestsSpec):=
 OpenClaim.holds_of_wide 4 Tryz.f4 Y Y Y Y Y Y Y ⟨rfl,rfl,rfl,rfl,rfl⟩ Y Y Y Y Y (by kernel_rfl) Tryz.func4 (by kernel_rfl)
  (FO (by kernel_rfl)) (by unfold Func.isWrapper;first|(rw[E6 (by decide +kernel)];kernel_rfl)|(rw[E4 (by decide +kernel)];exact⟨rfl,rfl⟩))
  (λos started H enc _=>lifted os started H enc)
theorem proved:Rows.SearchBestsSaid:=over
#print axioms proved
end Go.Proofs.YtopcjbahjjhdmaaGreat.searchBests
namespace Go.Proofs.YtopcjbahjjhdmaaGreat
theorem searchBests_holds:Rows.SearchBestsSaid:=searchBests.proved
end Go.Proofs.YtopcjbahjjhdmaaGreat
