/- The statement SearchOnes: the law, and its row; ahead of it what it needs (FwP, PwF, PwG, FwR, FwS, FwT, FwU, FwQ, FwV, FwW, FwX, PwH, PwI, PwJ, PwK, PwN, FwY, FxE, FxH, FwZ, LwGWhole, LwGOnes, RowA, RowM, RowGOnes). -/
import Derived.Test.YtopcjbahjjhdmaaGreatB9
import Derived.Laws.Strings
import Derived.Test.YtopcjbahjjhdmaaGreatRows
import Derived.WalkKit
import Derived.ProofKit
import Derived.OpenShut
import Derived.ShutString
import Derived.ChangeOld
import Derived.Below
import Derived.SizedLaws
namespace Go.Proofs.YtopcjbahjjhdmaaGreat
open Go Go.RowKit
set_option linter.unusedVariables false
set_option linter.unusedSimpArgs false
set_option maxRecDepth 8000
noncomputable def srchB (m:Mod)(left:Int):Srch (Option (List Int)):=lookG left (mG m.cons m.goal) (BI m.goal) (weight (domsM m)+1) (domsM m) ⟨0,false,false,none⟩
set_option maxHeartbeats 1000000 in
theorem vL (m:Mod)(hm:ModB m)(hr:RunOk (domsM m) m.cons)(hw:weight (domsM m)<=1000000)(hg:GoalIn (domsM m) m.goal)(left:Int)(hleft:left<=1099511627776)(hck:Spec Tryz.prog 64 false [.agg (cM m)] [.val (.int .i64 0)]):
  Spec Tryz.prog 18 false [.agg (cM m),.int .i64 left] [.val (ao ((srchB m left).st.getD [])),.val (.bool (srchB m left).st.isSome),.val (.bool (!(srchB m left).short)),.val (.int .i64 (srchB m left).nodes),.val (.int .i64 0)]:=by
 refine Spec.body Tryz.func18 Y Y Y λw0 Z0=> ?_;have hdl:(domsM m).length<=1024:=(by have:=hm.vl;simpa[domsM]using this);have hcl:=hm.cl;refine .B ?_;refine J.cx [] [] [1000,1001,1002,1006,1007] (mW m hm hr.gd.few left hck) trivial (λns hns=> ?_);obtain⟨p,sp,lv,cv,mv,rfl⟩:=C0 hns Y;refine .M ?_;refine .L ?_;refine .W ?_;refine .M ?_;refine T.cf Y ?_;refine T.canon (keep:=[2,9,1000,1001,1002,1006,1007]) (os:=[1000,1001,1002,1006,1007,9,2]) Y ?_;refine T.knownp 1000 0 Y Y λkb e1=> ?_;refine T.knownp 1001 1 Y Y λsb e2=> ?_;obtain rfl:p=pV kb:=e1;obtain rfl:sp=pV sb:=e2;refine .M ?_;refine .L ?_;refine .M ?_;refine .L ?_;refine .W ?_;refine .M ?_;refine J.name 1003 (s:=11) Y Y Y λbp=> ?_;refine J.name 1004 (s:=12) Y Y Y λop=> ?_;refine J.name 1005 (s:=9) Y Y Y λkp=> ?_;refine J.sub (Rel.raw (s:=11) (g:=1003) Y (.inr Y) Y Y Y) ?_;refine J.sub (Rel.raw (s:=12) (g:=1004) Y (.inr Y) Y Y Y) ?_;refine J.sub (Rel.raw (s:=9) (g:=1005) Y (.inr Y) Y Y Y) ?_;refine J.sub (Rel.unbx (s:=2) (λb h=>h) Y Y) ?_;refine J.sub (Rel.fp (s:=2) Y) ?_;refine J.sub (Rel.derawp (s:=22) (g:=1000) Y Y Y) ?_;refine .M ?_;refine .W ?_;refine .M ?_;refine J.sub (Rel.derawp (s:=9) (g:=1005) Y Y Y) ?_;refine .M ?_;refine J.sub (Rel.ownN 1008 3 1) ?_;refine J.sub (Rel.ownN 1009 3 1) ?_;refine J.sub (Rel.canon (keep:=[9,11,12,26,1000,1001,1002,1003,1004,1005,1006,1007,1008,1009]) (os:=[1000,1001,1002,1003,1004,1005,1006,1007,1008,1009]) Y) (?_:J _ _ _ _ (nE (nk m kb bp op kp) kb sb m left [(9,.optr 5 0 0 0),(11,.val true (.raw bp)),(12,.val true (.raw op)),(26,.val true (.raw (pV kb)))] lv cv mv (.slice none 0 0) (.slice none 0 0) (domsM m) [] [] ⟨0,false,false,none⟩) _);have hlk: ∃e ch',vo (nk m kb bp op kp) kb sb m left 37 [(true,.raw (pV kb))] lv cv mv (.slice none 0 0) (.slice none 0 0) (domsM m) e [] ch' [] ⟨0,false,false,none⟩ (srchB m left):=⟨_,_,qI (nk m kb bp op kp) kb sb m left (domsM m) IB (At hr (by omega) hg) (AU kb sb m left (domsM m) hr.gd hdl (by omega) (λhk=>hg.ok hk) bp op kp IB) (λt a=>Dz _) hleft hdl (weight (domsM m)+1) (domsM m) ⟨0,false,false,none⟩ lv cv mv (.slice none 0 0) (.slice none 0 0) [] [] (Eh _) hr.gd leD.rfl' (λa e=>by cases e) (Dz _) rfl (by simp;omega) (by simp;omega)⟩;obtain⟨e,ch',hlk⟩:=hlk;generalize srchB m left=r at*;refine J.cx [0,1,2,3,4,5,6,7,8,9] [1000,1001,1002,1003,1004,1005,1006,1007,1008,1009] [1006,1007,1008,1009] hlk ⟨rfl,⟨_,rfl,rfl,rfl⟩,rfl,⟨_,rfl,rfl,rfl⟩,rfl,⟨_,rfl,rfl,rfl⟩,rfl,⟨_,rfl,rfl,rfl⟩,rfl,⟨_,rfl,rfl,rfl⟩,rfl,⟨_,rfl,rfl,rfl⟩,rfl,⟨_,rfl,rfl,rfl⟩,rfl,⟨_,rfl,rfl,rfl⟩,rfl,⟨_,rfl,rfl,rfl⟩,rfl,⟨_,rfl,rfl,rfl⟩,trivial⟩ (λns hns=> ?_);obtain⟨a1,a2,a3,a4,rfl⟩:=AA hns Y;refine .M ?_;refine T.K (?_:T _ _ (nE (nk m kb bp op kp) kb sb m left [(9,.optr 5 0 0 0),(11,.val true (.raw bp)),(12,.val true (.raw op))] lv a1 a2 a3 a4 e ch' [] r) _);refine T.sub (Rel.derawp (s:=11) (g:=1003) Y Y Y) ?_;refine T.sub (Rel.derawp (s:=12) (g:=1004) Y Y Y) ?_;refine .A ?_
 conv=>whnf
 iterate 2 refine J.H Y ?_
 refine J.lp 1000 (b:=kb) (q:=0) Y ?_
 iterate 4 refine J.H Y ?_
 refine J.lp 1000 (b:=kb) (q:=0) Y ?_
 iterate 8 refine J.H Y ?_
 refine J.nil ?_;refine .B ?_;exact⟨_,.v Y Y Y (λ_=>rfl) (.v Y Y Y (λ_=>rfl) (.v Y Y Y (λ_=>rfl) (.v Y Y Y (λ_=>rfl) (.v Y Y Y (λ_=>rfl) .nil))))⟩
def kS:Con:=⟨0,[0,1],[1,1],1,1,[],0⟩
def kT:Con:=⟨0,[0,1],[-2,-1],0,-2,[],0⟩
def eB:Mod:=⟨[(⟨#[120]⟩,[(0,1)]),(⟨#[121]⟩,[(0,1)])],[kS],⟨2,[0,1],[2,1]⟩⟩
theorem wH:ConB kS:=by simp[ConB,kS]
theorem C3:ConB kT:=by simp[ConB,kT]
theorem gp0:GoodD 2 (dmQ 0 1 0 1):=jk (by decide) (by decide) (by decide) (by decide) (by decide) (by decide)
theorem gp1:GoodD 2 (dmQ 0 0 0 1):=jk (by decide) (by decide) (by decide) (by decide) (by decide) (by decide)
theorem gp2:GoodD 2 (dmQ 0 0 1 1):=jk (by decide) (by decide) (by decide) (by decide) (by decide) (by decide)
theorem gp3:GoodD 2 (dmQ 1 1 0 1):=jk (by decide) (by decide) (by decide) (by decide) (by decide) (by decide)
theorem gp4:GoodD 2 (dmQ 1 1 0 0):=jk (by decide) (by decide) (by decide) (by decide) (by decide) (by decide)
theorem CR:bL kS (dmQ 0 1 0 1)=some (dmQ 0 1 0 1):=jw (N:=5) gp0 wH Y (by decide +kernel) (by unfold LinAns;rw[D2 (by decide),D2 (by decide)];decide +kernel)
theorem CQ:bL kS (dmQ 0 0 0 1)=some (dmQ 0 0 1 1):=jw (N:=5) gp1 wH Y (by decide +kernel) (by unfold LinAns;rw[D2 (by decide),D2 (by decide)];decide +kernel)
theorem CP:bL kS (dmQ 0 0 1 1)=some (dmQ 0 0 1 1):=jw (N:=5) gp2 wH Y (by decide +kernel) (by unfold LinAns;rw[D2 (by decide),D2 (by decide)];decide +kernel)
theorem B1:bL kS (dmQ 1 1 0 1)=some (dmQ 1 1 0 0):=jw (N:=5) gp3 wH Y (by decide +kernel) (by unfold LinAns;rw[D2 (by decide),D2 (by decide)];decide +kernel)
theorem B0:bL kS (dmQ 1 1 0 0)=some (dmQ 1 1 0 0):=jw (N:=5) gp4 wH Y (by decide +kernel) (by unfold LinAns;rw[D2 (by decide),D2 (by decide)];decide +kernel)
theorem CO:bL kT (dmQ 1 1 0 0)=some (dmQ 1 1 0 0):=jw (N:=5) gp4 C3 Y (by decide +kernel) (by unfold LinAns;rw[D2 (by decide),D2 (by decide)];decide +kernel)
theorem zP:RunOk (dmQ 0 1 0 1) [kS]:=by
 refine⟨gp0,λc hc=> ?_,λc hc=> .inl ?_,by decide +kernel,by decide⟩;·simp at hc;subst hc;exact⟨by decide,wH⟩
 ·simp at hc;subst hc;decide +kernel
theorem Dg:RunOk (dmQ 0 1 0 1) [kS,kT]:=by
 refine⟨gp0,λc hc=> ?_,λc hc=> .inl ?_,by decide +kernel,by decide⟩
 ·simp at hc;rcases hc with rfl|rfl;·exact⟨by decide,wH⟩
  ·exact⟨by decide,C3⟩
 ·simp at hc;rcases hc with rfl|rfl<;>decide +kernel
theorem leP {a b c d:Int}(h:0<=a/\b<=1/\0<=c/\d<=1):leD (dmQ a b c d) (dmQ 0 1 0 1):=by
 refine⟨rfl,λu x h0 hx=> ?_⟩;unfold domAt at hx⊢
 match hn:u.toNat with
 |0=>rw[hn]at hx;simp[dmQ,vals,cF]at hx⊢;omega
 |1=>rw[hn]at hx;simp[dmQ,vals,cF]at hx⊢;omega
 |n+2=>rw[hn]at hx;simp[dmQ,vals]at hx
theorem Dd:f7 [kS] (dmQ 0 1 0 1)=some (dmQ 0 1 0 1):=by
 refine(fC (R:=some (dmQ 0 1 0 1)) ⟨?_,λc hc=> ?_⟩).symm;·exact Come.refl (aY 2) gp0
 simp at hc;subst hc;exact CR
theorem AY:f7 [kS] (dmQ 0 0 0 1)=some (dmQ 0 0 1 1):=by
 have hs:=(zP.less (e:=dmQ 0 0 0 1) gp1 (leP (by decide))).step (c:=kS) (by simp);refine(fC (R:=some (dmQ 0 0 1 1)) ⟨?_,λc hc=> ?_⟩).symm;·exact(Come.refl (aY 2) gp1).step (aY 2) (c:=kS) (by simp) hs.takes CQ
 simp at hc;subst hc;exact CP
theorem Dc:f7 [kS] (dmQ 1 1 0 1)=some (dmQ 1 1 0 0):=by
 have hs:=(zP.less (e:=dmQ 1 1 0 1) gp3 (leP (by decide))).step (c:=kS) (by simp);refine(fC (R:=some (dmQ 1 1 0 0)) ⟨?_,λc hc=> ?_⟩).symm;·exact(Come.refl (aY 2) gp3).step (aY 2) (c:=kS) (by simp) hs.takes B1
 simp at hc;subst hc;exact B0
theorem Db:f7 [kS,kT] (dmQ 1 1 0 1)=some (dmQ 1 1 0 0):=by
 have hs:=(Dg.less (e:=dmQ 1 1 0 1) gp3 (leP (by decide))).step (c:=kS) (by simp);refine(fC (R:=some (dmQ 1 1 0 0)) ⟨?_,λc hc=> ?_⟩).symm;·exact(Come.refl (aY 2) gp3).step (aY 2) (c:=kS) (by simp) hs.takes B1
 simp at hc;rcases hc with rfl|rfl;·exact B0
 ·exact CO
theorem ug {σ:Type}{left:Int}{con:σ->List Con}{fnd:σ->List Int->σ×Bool}{n:Nat}{d l:aa}{s:Srch σ}{a:List Int}(h1:(s.nodes:Int)<left)(h2:f7 (con s.st) d=some l)(h3:cB l=some a):lookG left con fnd (n+1) d s= { s with nodes:=s.nodes+1,st:=(fnd s.st a).1,over:=(fnd s.st a).2 }:=by
 rw[lookG,D2 (by omega),h2];simp only[h3]
theorem wB {σ:Type}{left:Int}{con:σ->List Con}{fnd:σ->List Int->σ×Bool}{n:Nat}{s:Srch σ}(h1:(s.nodes:Int)<left)(h2:con s.st=[kS]):lookG left con fnd (n+1) (dmQ 0 1 0 1) s=[0,1].foldl (λs x=>if s.over then s else lookG left con fnd n (dmQ x x 0 1) s) { s with nodes:=s.nodes+1 }:=by
 rw[lookG,D2 (by omega),h2,Dd];have h3:cB (dmQ 0 1 0 1)=none:=(by decide +kernel);simp only[h3];have h4:openV (dmQ 0 1 0 1)=0:=(by decide +kernel);rw[h4];rfl
theorem A6:srchA eB 9=⟨3,false,false,[[0,1],[1,0]]⟩:=by
 show lookG 9 (λ_=>[kS]) ny 5 (dmQ 0 1 0 1) ⟨0,false,false,[]⟩=_;rw[wB (by decide) Y,Dn,D2 (by decide),ug (n:=3) (by decide) AY (a:=[0,1]) (by decide +kernel),Dn,D2 (by decide),ug (n:=3) (by decide) Dc (a:=[1,0]) (by decide +kernel)];rfl
theorem A7:srchA eB 2=⟨2,true,true,[[0,1]]⟩:=by
 show lookG 2 (λ_=>[kS]) ny 5 (dmQ 0 1 0 1) ⟨0,false,false,[]⟩=_;rw[wB (by decide) Y,Dn,D2 (by decide),ug (n:=3) (by decide) AY (a:=[0,1]) (by decide +kernel),Dn,D2 (by decide),lookG,D4 (by decide)];rfl
theorem A5:srchB eB 9=⟨3,false,false,some [1,0]⟩:=by
 show lookG 9 (mG [kS] ⟨2,[0,1],[2,1]⟩) (BI ⟨2,[0,1],[2,1]⟩) 5 (dmQ 0 1 0 1) ⟨0,false,false,none⟩=_;rw[wB (by decide) Y,Dn,D2 (by decide),ug (n:=3) (by decide) AY (a:=[0,1]) (by decide +kernel),Dn,D2 (by decide),ug (n:=3) (by decide) (show f7 (mG [kS] ⟨2,[0,1],[2,1]⟩ (some [0,1])) (dmQ 1 1 0 1)=_ from Db) (a:=[1,0]) (by decide +kernel)];rfl
theorem Bh:checkR eB=0:=by decide +kernel
theorem rS:ModB eB:=⟨by decide,λv hv=>by simp[eB]at hv;rcases hv with rfl|rfl<;>exact⟨by decide,by decide⟩,by decide,λc hc=>by simp[eB]at hc;subst hc;exact⟨by decide,by decide,by decide,by simp[kS]⟩,⟨by decide,by decide⟩⟩
def qz:Mod:=⟨[],[],⟨9,[],[]⟩⟩
theorem Br:checkR qz=44:=by decide +kernel
theorem Cj:ModB qz:=⟨by decide,λv hv=>(by cases hv),by decide,λc hc=>(by cases hc),⟨by decide,by decide⟩⟩
def iW (g:Goal):Goal:=⟨3-g.kind,g.vars,g.coefs.map (- ·)⟩
def xk (m:Mod):Mod:=⟨m.vars,m.cons,iW m.goal⟩
theorem xZ: ∀(l:List Int) (room:Int),eD room (l.map (- ·))=eD room l
 | [],room=>rfl
 |k::l,room=>by
  rw[DZ,eD,eD,xZ l];have e:max (-k) (- -k)=max k (-k):=(by omega);rw[e];by_cases h:4398046511104<k∨k< -4398046511104;·rw[D4 h,D4 (by omega)]
  ·rw[D2 h,D2 (by omega)]
theorem zB (d:aa)(g:Goal):conR d (dI (iW g))=conR d (dI g):=by
 have h1:sumR (dI (iW g))=sumR (dI g):=by
  unfold sumR dI iW;simp only[D9];congr 2;rw[decide_eq_decide,DF];constructor
  ·rintro⟨k,hk,h⟩;have e:k=0:=(by omega);rw[e]at hk;exact hk
  ·intro h;exact⟨0,h,by omega⟩
 have h2:ei (dI (iW g)).coefs (dI (iW g)).rhs=ei (dI g).coefs (dI g).rhs:=by
  unfold ei;show(if _ then true else eD _ (g.coefs.map (- ·)))=_;rw[xZ];rfl
 have h3:rightR d (dI (iW g))=rightR d (dI g):=by
  unfold rightR;rw[D4 (show(dI (iW g)).kind=0 from Y),D4 (show(dI g).kind=0 from Y),h1];rfl
 unfold conR;rw[h2,h3];rfl
theorem yc {d:aa}{g:Goal}(hk:g.kind=1∨g.kind=2):dQ d (iW g)=dQ d g:=by
 unfold dQ;rw[D4 (show(iW g).kind=1∨(iW g).kind=2 by show 3-g.kind=1∨3-g.kind=2;omega),D4 hk,zB]
theorem vw {m:Mod}(hk:m.goal.kind=1∨m.goal.kind=2):checkR (xk m)=checkR m:=by
 unfold checkR;rw[show dQ (domsM (xk m)) (xk m).goal=dQ (domsM m) m.goal from yc hk];rfl
theorem qF (l:List Int)(hl:l.length<=1048576):Spec Tryz.prog 175 false [ao l] [.val (.bool (decide l.Nodup))]:=by
 refine Spec.body Tryz.func175 Y Y Y λw0 Z0=> ?_;have hs:(cO l).length=l.length:=G3 ..;have e:decide l.Nodup=decide ((((aW l).map cI).length:Int)=((l.map cI).length:Int)):=decide_eq_decide.2 (by rw[D9,D9,<-qb];omega);rw[e];refine .B ?_;refine .D (n5 l) ?_;refine .D (kQ l (by omega)) ?_;refine J.cp (cs2:=[]) (qs:=[]) [] Y Y Y Y Y Y Y Y (iF _ (by omega)) trivial Y Y Y Y Y Y ?_;rw[iG];refine .B ?_;exact r1
theorem Bu {d:List (Int×Int)}(h: ∀r∈d,r.1<=r.2):d4 d [(0,1)]=[]↔truthR d=true:=by
 have h1: ∀(out:List (Int×Int)) (r:Int×Int),r.1<=r.2->(cE [(0,1)] out r=out/\(!(decide (r.1<0)||decide (1<r.2)))=true)∨(∃p,cE [(0,1)] out r=out++p/\p≠[]/\(!(decide (r.1<0)||decide (1<r.2)))=false):=by
  intro out r hr;have hw:wr ((0,1):Int×Int).2=1:=rfl;have hw2:wr (((0,1):Int×Int).2+1)=2:=(by rfl);unfold cE;rw[bM,bM,bM];by_cases h2:((0,1):Int×Int).2<r.1∨r.2<((0,1):Int×Int).1
  ·rw[D4 h2];rw[D4 hr];refine .inr ⟨_,rfl,by simp,?_⟩;have h2:1<r.1∨r.2<0:=h2;have:r.1<0∨1<r.2:=(by omega);rcases this with h|h<;>simp[h]
  ·rw[D2 h2,hw2];have h2: ¬(1<r.1∨r.2<0):=h2;by_cases h3:r.1<((0,1):Int×Int).1
   ·rw[D4 h3];have h3:r.1<0:=h3;refine .inr ?_;split;·exact⟨_,E4 _ _ _,by simp,by simp[h3]⟩
    ·exact⟨_,rfl,by simp,by simp[h3]⟩
   ·rw[D2 h3];have h3: ¬r.1<0:=h3;split
    ·rename_i h4;have h4:2<=r.2:=h4;exact .inr ⟨_,rfl,by simp,by simp[show 1<r.2 by omega]⟩
    ·rename_i h4;have h4: ¬2<=r.2:=h4;exact .inl ⟨rfl,by simp[h3,show¬1<r.2 by omega]⟩
 have key: ∀(l:List (Int×Int)) (out:List (Int×Int)),(∀r∈l,r.1<=r.2)->(∃p,l.foldl (cE [(0,1)]) out=out++p/\(p=[]↔truthR l=true)):=by
  intro l
  induction l with
  |nil=>intro out _;exact⟨[],by simp,by simp[truthR]⟩
  |cons r l ih=>
   intro out hl;have ht:truthR (r::l)=((!(decide (r.1<0)||decide (1<r.2)))&&truthR l):=rfl;rw[Dn,ht];rcases h1 out r (hl r (.head _))with ⟨e,e2⟩|⟨p,e,hp,e2⟩;·rw[e,e2,EU];exact ih out λr hr=>hl r (.tail _ hr)
   ·obtain⟨q,h3,h4⟩:=ih (out++p) λr hr=>hl r (.tail _ hr);rw[e,e2,h3,E4];exact⟨p++q,rfl,by simp[hp]⟩
 obtain⟨p,h2,h3⟩:=key d [] h;unfold d4;rw[h2,Ea];exact h3
theorem m5 (d:List (Int×Int))(hd:d.length<=1048576)(hr: ∀r∈d,r.1<=r.2):Spec Tryz.prog 172 false [dm d] [.val (.bool (truthR d))]:=by
 refine Spec.body Tryz.func172 Y Y Y λw0 Z0=> ?_;have hm:=kw d [(0,1)] (by simp) (by show(d.length+1)*2*16<=_;omega);have e:truthR d=decide ((((d4 d [(0,1)]).map cR).length:Int)=0):=by
  rw[FD,DN,<-Bu hr,D9];exact⟨λh=>by rw[h];rfl,λh=>DP (by omega)⟩
 rw[e];refine .B ?_;refine .Z ?_;refine .D hm ?_;exact r1
theorem yq (v:Int):Spec Tryz.prog 222 false [.int .i64 v] [.val (.bool (!aH v))]:=by
 refine Spec.body Tryz.func222 Y Y Y λw0 Z0=> ?_;refine .B ?_;refine J.g Y Y Y (λh=> ?_) (λh=> ?_)
 ·have e:(!aH v)=true:=(by have h:v< -1048576:=h;simp[aH];omega);rw[e];refine .B ?_;exact r1
 ·have e:(!aH v)=decide (v > 1048576):=(by have h: ¬v< -1048576:=h;simp only[aH];rw[FD];simp;omega);rw[e];refine .B ?_;exact r1
theorem tt (v:Int):Spec Tryz.prog 179 false [.int .i64 v] [.val (.bool (!(decide (v=1)||decide (v= -1))))]:=by
 refine Spec.body Tryz.func179 Y Y Y λw0 Z0=> ?_;refine .B ?_;refine J.g Y Y Y (λh=> ?_) (λh=> ?_)
 ·have h:v≠1:=h;rw[DC h,H4];refine .B ?_;exact⟨_,.v Y Y (by rw[<-decide_not]) (λ_=>rfl) .nil⟩
 ·have h:v=1:=(by have h: ¬(v≠1):=h;omega);rw[DD h,Bool.true_or];refine .B ?_;exact r1
theorem tj (l:List Int)(v:Int)(hl:l.length*8<=140737488355328):Spec Tryz.prog 223 false [ao l,.int .i64 v] [.val (.int .i64 (indexP (λx=>decide (v=x)) l))]:=by
 refine Spec.body Tryz.func223 Y Y Y λw0 Z0=> ?_;refine .B ?_;refine T.K (T.listI l (λpre=> ∀x∈pre,¬v=x) (λn pre post=>⟨[(0,.val false (ao l)),(1,.val false (.int .i64 v)),(7,.val true (.int .i64 (l.map cI).length)),(8,.val true (.int .i64 n))],[],0⟩) (λ_ _ h=>h) (λv hv=>by cases hv) ?_ ?_)
 ·rintro n pre x post h hn hi ih;have hlt:=cg h hn;refine .B ?_;refine T.ct2 Y (ce h hn) ?_;refine .B ?_;refine .F (r:=cI x) (aS h hn) ?_;refine T.cd Y (λh2=> ?_) (λh2=> ?_)
  ·have h2:v=x:=h2;refine .B ?_;have e:indexP (λx=>decide (v=x)) l=(n:Int):=by
    unfold indexP;rw[h,GD,EE.2 (by simpa using hi),FR,D4 (by simpa using h2)];simp[hn]
   rw[e];exact r1
  ·have h2: ¬v=x:=h2;refine .B ?_;rw[ak hlt (by omega)];exact T.K (ih (by
    intro y hy;rcases DT.1 hy with hy|hy;·exact hi y hy
    ·rw[DG.1 hy];exact h2))
 ·intro hi;have e:indexP (λx=>decide (v=x)) l= -1:=by
   unfold indexP;rw[EE.2 (by simpa using hi)]
  rw[e];refine .B ?_;refine T.cf2 Y bA ?_;refine .B ?_;exact r1
theorem je (l:List Int)(v:Int)(hl:l.length*8<=140737488355328):Spec Tryz.prog 178 false [ao l,.int .i64 v] [.val (.bool (decide (v∈l)))]:=by
 refine Spec.body Tryz.func178 Y Y Y λw0 Z0=> ?_;refine .B ?_;refine .D (tj l v hl) ?_;refine⟨_,.v Y Y ?_ (λ_=>rfl) .nil⟩;simp only[PV.bool.injEq];unfold indexP;cases h:l.findIdx? λx=>decide (v=x)with
 |none=>
  have h1:=EE.1 h;have: ¬v∈l:=λhv=>(by simpa using h1 v hv);rw[DC this];rfl
 |some i=>
  obtain⟨h1,h2,_⟩:=Ec.1 h;have:v∈l:=(by rw[EL h2];exact D8 h1);rw[DD this];simp
theorem qA (c:Con)(hv:c.vars.length<=1048576)(hk:c.coefs.length<=1048576):Spec Tryz.prog 180 false [.agg (cC c)] [.val (.bool (sumR c))]:=by
 refine Spec.body Tryz.func180 Y Y Y λw0 Z0=> ?_;have hall:=qF c.vars hv;have hcon:=je c.coefs 0 (by omega);refine .B ?_;refine J.g Y Y Y (λh1=> ?_) (λh1=> ?_)
 ·have h1:0<c.vars.length:=(by simpa using h1);refine .B ?_;refine J.g Y Y Y (λh2=> ?_) (λh2=> ?_)
  ·have h2:c.vars.length=c.coefs.length:=(by simp at h2;omega);have e:sumR c=(decide c.vars.Nodup&& !decide (0∈c.coefs)):=(by unfold sumR;rw[DD h1,DD h2,Gc,Gc]);rw[e];generalize decide c.vars.Nodup=nd at*;refine .B ?_;refine .C hall ?_;cases nd
   ·refine .B ?_;exact r1
   ·refine .B ?_;refine .D hcon ?_;exact r1
  ·have h2: ¬c.vars.length=c.coefs.length:=(by simp at h2;omega);have e:sumR c=false:=(by unfold sumR;rw[DC h2,GF,FK]);rw[e];refine .B ?_;exact r1
 ·have h1: ¬0<c.vars.length:=(by simpa using h1);have e:sumR c=false:=(by unfold sumR;rw[DC h1,GF,FK,FK]);rw[e];refine .B ?_;exact r1
theorem wy (c:Con)(hv:c.vars.length<=1048576)(hk:c.coefs.length<=1048576):Spec Tryz.prog 173 false [.agg (cC c)] [.val (.bool (sumR c&&opR c))]:=by
 refine Spec.body Tryz.func173 Y Y Y λw0 Z0=> ?_;have hs:=qA c hv hk;generalize sumR c=sr at*;refine .B ?_;refine .C hs ?_;cases sr
 ·refine .B ?_;exact r1
 ·refine .B ?_;refine J.g Y Y Y (λh1=> ?_) (λh1=> ?_)
  ·have e:(true&&opR c)=decide (c.op<3):=(by unfold opR;rw[DD (show 0<=c.op from h1)];simp;omega);rw[e];refine .B ?_;exact r1
  ·have e:(true&&opR c)=false:=(by unfold opR;rw[DC (show¬0<=c.op from h1)];rfl);rw[e];refine .B ?_;exact r1
theorem tW (c:Con):Spec Tryz.prog 174 false [.agg (cC c)] [.val (.bool (plainR c))]:=by
 refine Spec.body Tryz.func174 Y Y Y λw0 Z0=> ?_;refine .B ?_;refine J.g Y Y Y (λh1=> ?_) (λh1=> ?_)
 ·have h1:c.coefs.length=0:=(by simpa using h1);refine .B ?_;refine J.g Y Y Y (λh2=> ?_) (λh2=> ?_)
  ·have h2:c.op=0:=h2;refine .B ?_;refine J.g Y Y Y (λh3=> ?_) (λh3=> ?_)
   ·have h3:c.rhs=0:=h3;have e:plainR c=decide (c.b=0):=(by unfold plainR bareR;rw[DD h1,DD h2,DD h3];simp);rw[e];refine .B ?_;exact r1
   ·have h3: ¬c.rhs=0:=h3;have e:plainR c=false:=(by unfold plainR bareR;rw[DC h3];simp);rw[e];refine .B ?_;exact r1
  ·have h2: ¬c.op=0:=h2;have e:plainR c=false:=(by unfold plainR bareR;rw[DC h2];simp);rw[e];refine .B ?_;exact r1
 ·have h1: ¬c.coefs.length=0:=(by simpa using h1);have e:plainR c=false:=(by unfold plainR bareR;rw[DC h1];simp);rw[e];refine .B ?_;exact r1
theorem yN (c:Con)(l:List Int)(hl:l.length*8<=140737488355328):Spec Tryz.prog 177 false [.agg (cC c),ao l] [.val (.bool (ez c l))]:=by
 refine Spec.body Tryz.func177 Y Y Y λw0 Z0=> ?_;have hcon:=eh (p:=λv=> !aH v) (f:=222) [] l (λv _=>yq v) hl;have e2:(l.any λv=> !aH v)= !l.all aH:=(by rw[FI]);rw[e2]at hcon;refine .B ?_;refine J.g Y Y Y (λh1=> ?_) (λh1=> ?_)
 ·have h1:l.length=c.vars.length:=(by simp at h1;omega);have e:ez c l=l.all aH:=(by unfold ez;rw[DD h1,EU]);rw[e];refine .B ?_;refine .D hcon ?_;exact⟨_,.v Y Y (by rw[HD]) (λ_=>rfl) .nil⟩
 ·have h1: ¬l.length=c.vars.length:=(by simp at h1;omega);have e:ez c l=false:=(by unfold ez;rw[DC h1,FK]);rw[e];refine .B ?_;exact r1
theorem tu (c:Con)(l:List Int)(hl:l.length*8<=140737488355328):Spec Tryz.prog 176 false [ao l,.ptr (cC c)] [.val (.bool (!ez c l))]:=by
 refine Spec.body Tryz.func176 Y Y Y λw0 Z0=> ?_;refine .B ?_;refine .D (yN c l hl) ?_;exact r1
theorem rO (d:aa)(v:Int)(hv:0<=v/\v.toNat<d.length)(hx: ∀x∈d,x.length<=1048576/\∀r∈x,r.1<=r.2):Spec Tryz.prog 171 false [.int .i64 v,.ptr [aJ d]] [.val (.bool (!truthR (domAt d v)))]:=by
 refine Spec.body Tryz.func171 Y Y Y λw0 Z0=> ?_;have hy:d[v.toNat]? =some (domAt d v):=(by unfold domAt;rw[D0,D1 hv.2];rfl);have hm:=D7 hy;have ht:=m5 (domAt d v) (hx _ hm).1 (hx _ hm).2;refine .B ?_;refine J.i Y Y Y Y Y Y Y Y Y (r:=cD (domAt d v)) hv.1 (by rw[DE,hy];rfl) Y ?_;refine .B ?_;refine .D ht ?_;exact r1
theorem tw (d:aa)(l:List Int)(hl:l.length*8<=140737488355328)(hv: ∀v∈l,0<=v/\v.toNat<d.length)(hx: ∀x∈d,x.length<=1048576/\∀r∈x,r.1<=r.2):Spec Tryz.prog 170 false [ao l,.ptr [aJ d]] [.val (.bool (l.all λv=>truthR (domAt d v)))]:=by
 refine Spec.body Tryz.func170 Y Y Y λw0 Z0=> ?_;have hcon:=eh (p:=λv=> !truthR (domAt d v)) (f:=171) [.ptr [aJ d]] l (λv h=>rO d v (hv v h) hx) hl;have e2:(l.any λv=> !truthR (domAt d v))= !l.all λv=>truthR (domAt d v):=(by rw[FI]);rw[e2]at hcon;refine .B ?_;refine .D hcon ?_;exact⟨_,.v Y Y (by rw[HD]) (λ_=>rfl) .nil⟩
def x7 (d:aa):Prop:= ∀x∈d,x.length<=1048576/\∀r∈x,r.1<=r.2
theorem ya (d:aa)(c:Con)(hl:c.vars.length=c.coefs.length):gz d c=((c.coefs.all λk=>decide (k=1)||decide (k= -1))&&c.vars.all λv=>truthR (domAt d v)):=by
 rw[FD,DJ,gz,DI,DI,DI];have hva: ∀i,i<c.vars.length->∀(h:i<c.vars.length),varAt c i=c.vars[i]:=λi hi h=>(by unfold varAt;rw[D0,D1 h];rfl);have hca: ∀i,∀(h:i<c.coefs.length),coefAt c i=c.coefs[i]:=λi h=>(by unfold coefAt;rw[D0,D1 h];rfl);constructor
 ·intro h;refine⟨λk hk=> ?_,λv hv=> ?_⟩
  ·obtain⟨i,hi,rfl⟩:=Fr.1 hk;have:=h i (DM.2 (by omega));unfold gA at this;rw[hca i hi,DJ]at this;exact this.2
  ·obtain⟨i,hi,rfl⟩:=Fr.1 hv;have:=h i (DM.2 hi);unfold gA at this;rw[hva i hi hi,DJ]at this;exact this.1
 ·rintro⟨h1,h2⟩ i hi;have hi:=DM.1 hi;unfold gA;rw[hva i hi hi,hca i (by omega),DJ];exact⟨h2 _ (D8 _),h1 _ (D8 _)⟩
theorem tV (d:aa)(c:Con)(hvl:c.vars.length<=1048576)(hkl:c.coefs.length<=1048576)(hrl:c.rows.length<=1048576)(hr: ∀r∈c.rows,r.length*8<=140737488355328)(hv: ∀v∈c.vars,0<=v/\v.toNat<d.length)(hb:c.kind=4->0<=c.b/\c.b.toNat<d.length)(hx:x7 d):Spec Tryz.prog 130 false [aJ d,.agg (cC c)] [.val (.bool (rightR d c))]:=by
 refine Spec.body Tryz.func130 Y Y Y λw0 Z0=> ?_;refine T.seq ?_;refine T.r ?_
 repeat' first|refine J.e Y Y Y Y ?_|refine J.skip Y Y Y ?_|refine J.bx Y Y Y Y Y Y ?_
 refine J.nil ?_;refine T.sub (Rel.unbx (s:=2) (λb h=>h) Y Y) ?_;refine T.sub (Rel.fp (s:=2) Y) ?_;refine .B ?_;have hsum:=qA c hvl hkl;have hheld:=wy c hvl hkl;have hplain:=tW c;have hall:=qF c.vars hvl;have hrow:=pD (p:=λr=> !ez c r) (f:=176) [.ptr (cC c)] c.rows (λr h=>tu c r (hr r h)) (by omega);rw[<-FI]at hrow;have hunit:=eh (p:=λv=> !(decide (v=1)||decide (v= -1))) (f:=179) [] c.coefs (λv _=>tt v) (by omega);rw[<-FI]at hunit;have htr:=tw d c.vars (by omega) hv hx;have hbm:=je c.vars c.b (by omega);refine J.g Y Y Y (λh1=> ?_) (λh1=> ?_)
 ·have h1: ¬c.kind=2:=h1;refine .B ?_;refine T.cd Y (λh2=> ?_) (λh2=> ?_)
  ·have h2:0<c.rows.length:=(by simp at h2;omega);have e:rightR d c=false:=by
    have:noneR c=false:=(by unfold noneR;rw[DC (by omega)]);unfold rightR;rw[D2 h1,this]
    repeat' split
    all_goals simp
   rw[e];refine .B ?_;exact r1
  ·have hn:noneR c=true:=(by unfold noneR;simp at h2⊢;omega);refine .B ?_;refine T.cd Y (λhk0=> ?_) (λhk0=> ?_)
   ·have hk0:c.kind=0:=hk0;have e:rightR d c=((sumR c&&opR c)&&decide (c.b=0)):=(by unfold rightR;rw[D4 hk0,hn,EU]);rw[e];generalize (sumR c&&opR c)=so at*;refine .B ?_;refine .C hheld ?_;cases so
    ·refine .B ?_;exact r1
    ·refine .B ?_;exact r1
   ·have hk0: ¬c.kind=0:=hk0;refine .B ?_;refine T.cd Y (λhk1=> ?_) (λhk1=> ?_)
    ·have hk1:c.kind=1:=hk1;have e:rightR d c=(plainR c&&(decide (0<c.vars.length)&&decide c.vars.Nodup)):=(by unfold rightR;rw[D2 hk0,D4 hk1,hn,EU];rfl);rw[e];generalize plainR c=pr at*;generalize decide c.vars.Nodup=nd at*;refine .B ?_;refine .C hplain ?_;cases pr
     ·refine .B ?_;exact r1
     ·refine .B ?_;refine J.g Y Y Y (λh3=> ?_) (λh3=> ?_)
      ·rw[DD (show 0<c.vars.length by have h:=h3;rw[D9]at h;omega)];refine .B ?_;refine .D hall ?_;exact r1
      ·rw[DC (show¬0<c.vars.length by have h:=h3;rw[D9]at h;omega)];refine .B ?_;exact r1
    ·have hk1: ¬c.kind=1:=hk1;refine .B ?_;refine T.cf2 Y (DC h1) ?_;refine .B ?_;refine T.cd Y (λhk3=> ?_) (λhk3=> ?_)
     ·have hk3:c.kind=3:=hk3;have e:rightR d c=(plainR c&&(decide (3<=c.vars.length)&&decide c.vars.Nodup)):=by
       unfold rightR;rw[D2 hk0,D2 hk1,D2 h1,D4 hk3,hn,EU];unfold manyR;generalize plainR c=pr;generalize decide c.vars.Nodup=nd;by_cases h:3<=c.vars.length;·rw[DD h,DD (show 0<c.vars.length by omega)];simp
       ·rw[DC h];simp
      rw[e];generalize plainR c=pr at*;generalize decide c.vars.Nodup=nd at*;refine .B ?_;refine .C hplain ?_;cases pr
      ·refine .B ?_;exact r1
      ·refine .B ?_;refine J.g Y Y Y (λh3=> ?_) (λh3=> ?_)
       ·rw[DD (show 3<=c.vars.length by have h:=h3;rw[D9]at h;omega)];refine .B ?_;refine .D hall ?_;exact r1
       ·rw[DC (show¬3<=c.vars.length by have h:=h3;rw[D9]at h;omega)];refine .B ?_;exact r1
     ·have hk3: ¬c.kind=3:=hk3;refine .B ?_;refine T.cd Y (λhk4=> ?_) (λhk4=> ?_)
      ·have hk4:c.kind=4:=hk4;obtain⟨hb0,hb1⟩:=hb hk4;have hy:d[c.b.toNat]? =some (domAt d c.b):=(by unfold domAt;rw[D0,D1 hb1];rfl);have hm:=D7 hy;have ht:=m5 (domAt d c.b) (hx _ hm).1 (hx _ hm).2;have e:rightR d c=((sumR c&&opR c)&&truthR (domAt d c.b)&& !decide (c.b∈c.vars)):=(by unfold rightR;rw[D2 hk0,D2 hk1,D2 h1,D2 hk3,D4 hk4,hn,EU]);rw[e];generalize (sumR c&&opR c)=so at*;generalize truthR (domAt d c.b)=tr at*;refine .B ?_;refine .C hheld ?_;cases so
       ·refine .B ?_;exact r1
       ·refine .B ?_;refine J.i Y Y Y Y Y Y Y Y Y (r:=cD (domAt d c.b)) hb0 (by rw[DE,hy];rfl) Y ?_;refine .B ?_;refine .C ht ?_;cases tr
        ·refine .B ?_;exact r1
        ·refine .B ?_;refine .D hbm ?_;exact r1
      ·have hk4: ¬c.kind=4:=hk4;refine .B ?_;refine T.cd Y (λhk5=> ?_) (λhk5=> ?_)
       ·have hk5:c.kind=5:=hk5;have e:rightR d c=(bareR c&&(sumR c&&gz d c)):=(by unfold rightR;rw[D2 hk0,D2 hk1,D2 h1,D2 hk3,D2 hk4,D4 hk5,hn,EU,Bool.and_assoc]);rw[e];refine .B ?_;refine .C hsum ?_;cases hs:sumR c
        ·refine .B ?_;exact⟨_,.v Y Y (by rw[FK,GF]) (λ_=>rfl) .nil⟩
        ·have hlen:c.vars.length=c.coefs.length:=(by unfold sumR at hs;simp at hs;omega);rw[ya d c hlen];generalize (c.coefs.all λk=>decide (k=1)||decide (k= -1))=uc at*;generalize (c.vars.all λv=>truthR (domAt d v))=tv at*;refine .B ?_;refine J.g Y Y Y (λh4=> ?_) (λh4=> ?_)
         ·have h4:c.op=0:=h4;refine .B ?_;refine J.g Y Y Y (λh5=> ?_) (λh5=> ?_)
          ·have h5:c.rhs=0:=h5;refine .B ?_;refine J.g Y Y Y (λh6=> ?_) (λh6=> ?_)
           ·have h6:c.b=0:=h6;have e:bareR c=true:=(by unfold bareR;rw[DD h4,DD h5,DD h6];rfl);rw[e];refine .B ?_;refine .C hunit ?_;cases uc
            ·refine .B ?_;exact r1
            ·refine .B ?_;refine .D htr ?_;exact r1
           ·have h6: ¬c.b=0:=h6;have e:bareR c=false:=(by unfold bareR;rw[DC h6,GF]);rw[e];refine .B ?_;exact r1
          ·have h5: ¬c.rhs=0:=h5;have e:bareR c=false:=(by unfold bareR;rw[DC h5,GF,FK]);rw[e];refine .B ?_;exact r1
         ·have h4: ¬c.op=0:=h4;have e:bareR c=false:=(by unfold bareR;rw[DC h4,FK,FK]);rw[e];refine .B ?_;exact r1
       ·have hk5: ¬c.kind=5:=hk5;have e:rightR d c=(plainR c&&(decide (2<=c.vars.length)&&decide ((c.vars.length:Int).tmod 2=0))):=by
         unfold rightR;rw[D2 hk0,D2 hk1,D2 h1,D2 hk3,D2 hk4,D2 hk5,hn,EU,Bool.and_assoc];congr 2;rw[decide_eq_decide,Gr (by omega)];omega
        rw[e];generalize plainR c=pr at*;refine .B ?_;refine .C hplain ?_;cases pr
        ·refine .B ?_;exact r1
        ·refine .B ?_;refine J.g Y Y Y (λh3=> ?_) (λh3=> ?_)
         ·rw[DD (show 2<=c.vars.length by have h:=h3;rw[D9]at h;omega)];refine .B ?_;exact⟨_,.v Y Y (by simp) (λ_=>rfl) .nil⟩
         ·rw[DC (show¬2<=c.vars.length by have h:=h3;rw[D9]at h;omega)];refine .B ?_;exact r1
 ·have hk2:c.kind=2:=(by have h1: ¬(c.kind≠2):=h1;omega);refine .B ?_;refine T.cf Y ?_;refine .B ?_;refine T.cf2 Y (DC (by omega)) ?_;refine .B ?_;refine T.cf2 Y (DC (by omega)) ?_;refine .B ?_;refine T.ct2 Y (DD hk2) ?_;refine T.sub (Rel.unbx (s:=3) (λb h=>h) Y Y) ?_;refine T.sub (Rel.fp (s:=3) Y) ?_;have e:rightR d c=(plainR c&&(decide (0<c.vars.length)&&(decide c.vars.Nodup&&(decide (c.rows.length<=1024)&&c.rows.all (ez c))))):=by
   unfold rightR manyR kU;rw[D2 (by omega),D2 (by omega),D4 hk2];generalize plainR c=a1;generalize decide (0<c.vars.length)=a2;generalize decide c.vars.Nodup=a3;generalize decide (c.rows.length<=1024)=a4;generalize c.rows.all (ez c)=a5;cases a1<;>cases a2<;>cases a3<;>cases a4<;>cases a5<;>rfl
  rw[e];generalize plainR c=pr at*;generalize decide c.vars.Nodup=nd at*;generalize c.rows.all (ez c)=ra at*;refine .B ?_;refine .C hplain ?_;cases pr
  ·refine .B ?_;exact r1
  ·refine .B ?_;refine J.g Y Y Y (λh3=> ?_) (λh3=> ?_)
   ·rw[DD (show 0<c.vars.length by have h:=h3;rw[D9]at h;omega)];refine .B ?_;refine .C hall ?_;cases nd
    ·refine .B ?_;exact r1
    ·refine .B ?_;refine J.g Y Y Y (λh4=> ?_) (λh4=> ?_)
     ·rw[DD (show c.rows.length<=1024 by have h:=h4;rw[D9]at h;omega)];refine .B ?_;refine .D hrow ?_;exact⟨_,.v Y Y (by rw[HD];rfl) (λ_=>rfl) .nil⟩
     ·rw[DC (show¬c.rows.length<=1024 by have h:=h4;rw[D9]at h;omega)];refine .B ?_;exact r1
   ·rw[DC (show¬0<c.vars.length by have h:=h3;rw[D9]at h;omega)];refine .B ?_;exact r1
theorem rq (d:aa)(v:Int):Spec Tryz.prog 128 false [.int .i64 v,.ptr [aJ d]] [.val (.bool (!inD d v))]:=by
 refine Spec.body Tryz.func128 Y Y Y λw0 Z0=> ?_;have e0:(!inD d v)=(decide (v<0)||decide (v>=((d.map cD).length:Int))):=(by unfold inD;rw[HD,D9]);rw[e0];refine .B ?_;refine J.g Y Y Y (λh1=> ?_) (λh1=> ?_)
 ·rw[DD (show v<0 from h1),Bool.true_or];refine .B ?_;exact r1
 ·rw[DC (show¬v<0 from h1),H4];refine .B ?_;exact r1
structure ConI (c:Con):Prop where
 vl:c.vars.length<=1024
 kl:c.coefs.length<=1024
 rl:c.rows.length<=1024
 rr: ∀r∈c.rows,r.length<=1024
 ki:ei c.coefs c.rhs=false∨∀k∈c.coefs,-9223372036854775808<=k/\k<=9223372036854775807
theorem zA (d:aa)(c:Con):(usesR c).all (inD d)=(c.vars.all (inD d)&&(!decide (c.kind=4)||inD d c.b)):=by
 rw[FD,DI];constructor
 ·intro h;rw[DJ,DI];refine⟨λv hv=>h v (uses_mem.2 (.inl hv)),?_⟩;by_cases hk:c.kind=4;·rw[h c.b (uses_mem.2 (.inr ⟨hk,rfl⟩)),Bool.or_true]
  ·rw[DC hk];rfl
 ·intro h v hv;rw[DJ,DI]at h;rcases uses_mem.1 hv with h1|⟨hk,rfl⟩;·exact h.1 v h1
  ·have:=h.2;rwa[DD hk]at this
theorem qE (d:aa)(c:Con)(hc:ConI c)(hx:x7 d):Spec Tryz.prog 100 false [aJ d,.agg (cC c)] [.val (.int .i64 (conR d c))]:=by
 refine Spec.body Tryz.func100 Y Y Y λw0 Z0=> ?_;have hvl:=hc.vl;have hkl:=hc.kl;have hrl:=hc.rl;have haway:=eh (p:=λv=> !inD d v) (f:=128) [.ptr [aJ d]] c.vars (λv _=>rq d v) (by omega);rw[<-FI]at haway;have hawayb:=rq d c.b;have hright:=λ(h1: ∀v∈c.vars,0<=v/\v.toNat<d.length) h2=>tV d c (by omega) (by omega) (by omega) (λr hr=>by have:=hc.rr r hr;omega) h1 h2 hx;have hbig:(∀k∈c.coefs,-9223372036854775808<=k/\k<=9223372036854775807)->_:=λh=>yP c.coefs c.rhs (by omega) h;have hki:=λh:ei c.coefs c.rhs=false=>λk hk=>show -9223372036854775808<=k/\k<=9223372036854775807 by
  have h1:=(pF h).1 k hk;unfold aG at h1;omega
 have hbig:=hbig (hc.ki.elim hki id);refine T.seq ?_;refine T.r ?_
 repeat' first|refine J.e Y Y Y Y ?_|refine J.skip Y Y Y ?_|refine J.bx Y Y Y Y Y Y ?_
 refine J.nil ?_;refine T.sub (Rel.unbx (s:=2) (λb h=>h) Y Y) ?_;refine T.sub (Rel.fp (s:=2) Y) ?_;generalize hR:conR d c=R;unfold conR at hR;refine .B ?_;have bad1:c.kind<0∨6<c.kind->R=44:=λh=>(by rw[D4 h]at hR;exact hR.symm);refine J.g Y Y Y (λh1=> ?_) (λh1=> ?_)
 ·rw[bad1 (.inl h1)];refine .B ?_;refine T.ct Y ?_;refine .B ?_;exact r1
 ·refine .B ?_;refine T.cd Y (λh2=> ?_) (λh2=> ?_)
  ·rw[bad1 (.inr (by have h2:c.kind>=7:=h2;omega))];refine .B ?_;exact r1
  ·rw[D2 (by have h1: ¬c.kind<0:=h1;have h2: ¬c.kind>=7:=h2;omega),zA]at hR;refine .B ?_;refine .C haway ?_;cases ha:c.vars.all (inD d)
   ·rw[ha,FK,D4 Y]at hR;subst hR;refine .B ?_;refine T.ct Y ?_;refine .B ?_;exact r1
   ·rw[ha,EU]at hR;have hva: ∀v∈c.vars,0<=v/\v.toNat<d.length:=λv hv=>lH.1 (DI.1 ha v hv);refine .B ?_;refine J.g Y Y Y (λh3=> ?_) (λh3=> ?_)
    ·have h3:c.kind=4:=h3;rw[DD h3]at hR;refine .B ?_;refine .C hawayb ?_;cases hbd:inD d c.b
     ·rw[hbd]at hR;have hR:(43:Int)=R:=hR;subst hR;refine .B ?_;refine T.ct Y ?_;refine .B ?_;exact r1
     ·rw[hbd]at hR;have hR:(if rightR d c=false then(44:Int)else if ei c.coefs c.rhs=true then 45 else 0)=R:=hR;have hright:=hright hva λ_=>lH.1 hbd;generalize rightR d c=rr at*;refine .B ?_;refine T.cf Y ?_;refine .B ?_;refine .C hright ?_;cases rr
      ·subst hR;refine .B ?_;refine T.ct Y ?_;refine .B ?_;exact r1
      ·rw[D2 (by simp)]at hR;refine .B ?_;refine T.cf Y ?_;refine .B ?_;refine .D hbig ?_;refine T.cond Y (λh4=> ?_) (λh4=> ?_)
       ·have h4:ei c.coefs c.rhs=true:=h4;rw[D4 h4]at hR;subst hR;refine .B ?_;exact r1
       ·have h4:ei c.coefs c.rhs=false:=h4;rw[D2 (by simp[h4])]at hR;subst hR;refine .B ?_;exact r1
    ·have h3: ¬c.kind=4:=h3;rw[DC h3]at hR;have hR:(if rightR d c=false then(44:Int)else if ei c.coefs c.rhs=true then 45 else 0)=R:=hR;have hright:=hright hva λh=>DU h h3;generalize rightR d c=rr at*;refine .B ?_;refine T.cf Y ?_;refine .B ?_;refine .C hright ?_;cases rr
     ·subst hR;refine .B ?_;refine T.ct Y ?_;refine .B ?_;exact r1
     ·rw[D2 (by simp)]at hR;refine .B ?_;refine T.cf Y ?_;refine .B ?_;refine .D hbig ?_;refine T.cond Y (λh4=> ?_) (λh4=> ?_)
      ·have h4:ei c.coefs c.rhs=true:=h4;rw[D4 h4]at hR;subst hR;refine .B ?_;exact r1
      ·have h4:ei c.coefs c.rhs=false:=h4;rw[D2 (by simp[h4])]at hR;subst hR;refine .B ?_;exact r1
def CY (c:Int):Bool:=decide (c>=97)&&decide (c<=122)
def badC (i:Nat)(c:Int):Bool:= !CY c&&(decide ((i:Int)=0)||(decide (c≠95)&&(decide (c<48)||decide (c > 57))))
theorem Ba {s:ByteArray}{i:Nat}(h:i<s.size):badC i ((Utf8.decode s i).1:Int)=badI i (byteI s i)/\(badI i (byteI s i)=false->(Utf8.decode s i).2=1):=by
 have hb:s.get! i=byteI s i:=by
  unfold byteI;rw[getElem?_pos s i h];show s.data[i]! =_;rw[getElem!_pos s.data i h];rfl
 by_cases hlt:(s.get! i).toNat<128
 ·rw[sw hlt,hb];exact⟨rfl,λ_=>rfl⟩
 ·have hf:=wX (H7 hlt);rw[hb]at hlt;generalize (Utf8.decode s i).1=c at*;have e1:badI i (byteI s i)=true:=by
   simp only[badI,letB];have: ¬((byteI s i).toNat:Int)<=122:=(by omega);have:((byteI s i).toNat:Int) > 57:=(by omega);have:((byteI s i).toNat:Int)≠95:=(by omega);simp[*]
  have e2:badC i c=true:=by
   simp only[badC,CY];have: ¬(c:Int)<=122:=(by omega);have:(c:Int) > 57:=(by omega);have:(c:Int)≠95:=(by omega);simp[*]
  rw[e1,e2];exact⟨rfl,λh=>by cases h⟩
theorem wx (s:ByteArray)(hs:s.size<=140737488355328):Spec Tryz.prog 98 false [.str s] [.val (.bool (fQ s))]:=by
 refine Spec.body Tryz.func98 Y Y Y λw0 Z0=> ?_;generalize hR:fQ s=R;refine .B ?_;cases h0:(s.toList==(⟨#[]⟩:ByteArray).toList)
 ·refine .B ?_;refine T.cd Y (λh1=> ?_) (λh1=> ?_)
  ·have:R=false:=(by rw[<-hR];unfold fQ;rw[h0];simp;omega);subst this;refine .B ?_;exact r1
  ·refine .B ?_;refine J.rgs Y Y Y Y Y Y ?_;refine .B ?_;refine T.K (T.ind (λi:Nat=>⟨[(14,.ref 0)],[(0,some (.sit s i))],1⟩) (λi=>i<=s.size/\∀j,j<i->badI j (byteI s j)=false) (λi=>s.size-i) 0 ⟨Dz _,λj hj=>DU hj (EO j)⟩ (λ_ _ h=>h) ?_);rintro i ⟨hi,hb⟩ ih;refine .B ?_;refine J.nxs Y Y Y Y Y Y (λh2=> ?_) (λh2=> ?_)
   ·have hyes:R=true:=by
     rw[<-hR];unfold fQ;rw[h0];have:((List.range s.size).all λi=> !badI i (byteI s i))=true:=by
      rw[DI];intro j hj;rw[hb j (by have:=DM.1 hj;omega)];rfl
     rw[this];simp;omega
    subst hyes;refine .B ?_;refine T.cf Y ?_;refine .B ?_;exact r1
   ·obtain⟨hbd,hw⟩:=Ba h2;have hno:badI i (byteI s i)=true->R=false:=λh=>by
     rw[<-hR];unfold fQ;have:((List.range s.size).all λi=> !badI i (byteI s i))=false:=by
      rw[FY];exact⟨i,DM.2 h2,by rw[h];simp⟩
     rw[this];rfl
    have ih1:=λh:badI i (byteI s i)=false=>ih (i+1) ⟨by omega,λj hj=>by
     by_cases e:j=i;·rw[e];exact h
     ·exact hb j (by omega)⟩ (by omega)
    rw[<-hbd]at hw hno ih1;obtain⟨c,hc⟩: ∃c,c=(Utf8.decode s i).1:=⟨_,rfl⟩;obtain⟨k,hk⟩: ∃k,k=(Utf8.decode s i).2:=⟨_,rfl⟩;rw[<-hc]at hw hno ih1;rw[<-hk]at hw;rw[<-hc,<-hk];have hbc:badC i c=(!(decide ((c:Int)>=97)&&decide ((c:Int)<=122))&&(decide ((i:Int)=0)||(decide ((c:Int)≠95)&&(decide ((c:Int)<48)||decide ((c:Int) > 57))))):=rfl;generalize badC i c=bad at*;refine .B ?_;refine T.ct Y ?_;refine .B ?_;cases h1:decide ((c:Int)>=97)
    ·skip
     refine .B ?_;cases h3:decide ((i:Int)=0)
     ·refine .B ?_;cases h4:decide ((c:Int)≠95)
      ·skip
       refine .B ?_;refine T.cf Y ?_;refine .B ?_;have hb0:bad=false:=(by rw[hbc,h1,h3,h4];rfl);rw[hw hb0];exact T.K (ih1 hb0)
      ·refine .B ?_;cases h5:decide ((c:Int)<48)
       ·refine .B ?_;cases h6:decide ((c:Int) > 57)
        ·skip
         refine .B ?_;refine T.cf Y ?_;refine .B ?_;have hb0:bad=false:=(by rw[hbc,h1,h3,h4,h5,h6];rfl);rw[hw hb0];exact T.K (ih1 hb0)
        ·skip
         refine .B ?_;refine T.ct Y ?_;refine .B ?_;rw[hno (by rw[hbc,h1,h3,h4,h5,h6];rfl)];exact r1
       ·skip
        refine .B ?_;refine T.ct Y ?_;refine .B ?_;rw[hno (by rw[hbc,h1,h3,h4,h5];rfl)];exact r1
     ·skip
      refine .B ?_;refine T.ct Y ?_;refine .B ?_;rw[hno (by rw[hbc,h1,h3];rfl)];exact r1
    ·refine .B ?_;cases h2:decide ((c:Int)<=122)
     ·skip
      refine .B ?_;cases h3:decide ((i:Int)=0)
      ·refine .B ?_;cases h4:decide ((c:Int)≠95)
       ·skip
        refine .B ?_;refine T.cf Y ?_;refine .B ?_;have hb0:bad=false:=(by rw[hbc,h1,h2,h3,h4];rfl);rw[hw hb0];exact T.K (ih1 hb0)
       ·refine .B ?_;cases h5:decide ((c:Int)<48)
        ·refine .B ?_;cases h6:decide ((c:Int) > 57)
         ·skip
          refine .B ?_;refine T.cf Y ?_;refine .B ?_;have hb0:bad=false:=(by rw[hbc,h1,h2,h3,h4,h5,h6];rfl);rw[hw hb0];exact T.K (ih1 hb0)
         ·skip
          refine .B ?_;refine T.ct Y ?_;refine .B ?_;rw[hno (by rw[hbc,h1,h2,h3,h4,h5,h6];rfl)];exact r1
        ·skip
         refine .B ?_;refine T.ct Y ?_;refine .B ?_;rw[hno (by rw[hbc,h1,h2,h3,h4,h5];rfl)];exact r1
      ·skip
       refine .B ?_;refine T.ct Y ?_;refine .B ?_;rw[hno (by rw[hbc,h1,h2,h3];rfl)];exact r1
     ·skip
      refine .B ?_;refine T.cf Y ?_;refine .B ?_;have hb0:bad=false:=(by rw[hbc,h1,h2];rfl);rw[hw hb0];exact T.K (ih1 hb0)
 ·have:R=false:=(by rw[<-hR];unfold fQ;rw[h0];simp);subst this;refine .B ?_;refine T.ct Y ?_;refine .B ?_;exact r1
theorem wz (d:aa)(g:Goal)(hv:g.vars.length<=1024)(hk:g.coefs.length<=1024)(hi:ei g.coefs 0=false∨∀k∈g.coefs,-9223372036854775808<=k/\k<=9223372036854775807)(hx:x7 d):Spec Tryz.prog 101 false [aJ d,.agg (cG g)] [.val (.int .i64 (dQ d g))]:=by
 refine Spec.body Tryz.func101 Y Y Y λw0 Z0=> ?_;have hcon:=qE d (dI g) ⟨hv,hk,Dz _,λr hr=>(by cases hr),hi⟩ hx;generalize hR:dQ d g=R;unfold dQ at hR;refine .B ?_;refine T.cd Y (λh0=> ?_) (λh0=> ?_)
 ·have h0:g.kind=0:=h0;rw[D2 (by omega)]at hR;refine .B ?_;refine J.g Y Y Y (λh1=> ?_) (λh1=> ?_)
  ·rw[D4 (.inr (.inl (by have h:=h1;rw[D9]at h;omega)))]at hR;subst hR;refine .B ?_;refine T.ct Y ?_;refine .B ?_;exact r1
  ·refine .B ?_;refine T.cd Y (λh2=> ?_) (λh2=> ?_)
   ·rw[D4 (.inr (.inr (by have h:=h2;rw[D9]at h;omega)))]at hR;subst hR;refine .B ?_;exact r1
   ·rw[D2 (by have h:=h1;rw[D9]at h;have h':=h2;rw[D9]at h';omega)]at hR;subst hR;refine .B ?_;exact r1
 ·have h0: ¬g.kind=0:=h0;refine .B ?_;refine T.cd Y (λh1=> ?_) (λh1=> ?_)
  ·have h1:g.kind=1:=h1;rw[D4 (.inl h1)]at hR;subst hR;refine .B ?_;refine T.ct2 Y (DD h1) ?_;refine .B ?_;refine .D hcon ?_;exact r1
  ·have h1: ¬g.kind=1:=h1;refine .B ?_;refine T.cd Y (λh2=> ?_) (λh2=> ?_)
   ·have h2:g.kind=2:=h2;rw[D4 (.inr h2)]at hR;subst hR;refine .B ?_;refine .D hcon ?_;exact r1
   ·have h2: ¬g.kind=2:=h2;rw[D2 (by omega),D4 (.inl h0)]at hR;subst hR;refine .B ?_;exact r1
def hadM (m:Mod)(i:Nat):List (ByteArray×Bool):=(List.range i).map λk=>(nmM m k,true)
theorem ry (a b:ByteArray):(a.toList==b.toList)=decide (a=b):=by
 rw[ByteArray.toList_eq,ByteArray.toList_eq];by_cases h:a=b;·subst h;simp
 ·rw[DC h];simp only[beq_eq_false_iff_ne];intro e;apply h;cases a;cases b;congr;exact Array.toList_inj.1 e
theorem uI (m:Mod)(i:Nat):(lkA (hadM m i) (nmM m i))=if eH m i=true then some true else none:=by
 unfold lkA fiA hadM eH;cases h:((List.range i).map λk=>(nmM m k,true)).findIdx? λp=>decide (p.1=nmM m i)with
 |none=>
  have h1:=EE.1 h;rw[D2];·rfl
  ·rw[EZ];rintro⟨k,hk,hb⟩;rw[ry]at hb;have:=h1 _ (DF.2 ⟨k,hk,rfl⟩);rw[hb]at this;cases this
 |some j=>
  obtain⟨h1,h2,_⟩:=Ec.1 h;have h1':j<i:=(by simpa using h1);rw[D4];·simp[h1']
  ·rw[EZ];refine⟨j,DM.2 h1',?_⟩;rw[ry];simpa using h2
theorem Cq (m:Mod)(i:Nat)(h:eH m i=false):upA (hadM m i) (nmM m i) true=hadM m (i+1):=by
 have h1:=uI m i;rw[h,D2 (by simp)]at h1;unfold upA;have h2:fiA (hadM m i) (nmM m i)=none:=by
  cases h3:fiA (hadM m i) (nmM m i)with
  |none=>rfl
  |some j=>
   unfold lkA at h1;rw[h3]at h1;obtain⟨h4,_⟩:=Ec.1 h3;simp[h4]at h1
 rw[h2];simp[hadM,G0]
structure ModK (m:Mod):Prop where
 b:ModB m
 ck: ∀c∈m.cons,ei c.coefs c.rhs=false∨∀k∈c.coefs,-9223372036854775808<=k/\k<=9223372036854775807
 gk:ei m.goal.coefs 0=false∨∀k∈m.goal.coefs,-9223372036854775808<=k/\k<=9223372036854775807
theorem mr (m:Mod)(hm:ModK m):Spec Tryz.prog 64 false [.agg (cM m)] [.val (.int .i64 (checkR m))]:=by
 refine Spec.body Tryz.func64 Y Y Y λw0 Z0=> ?_;obtain⟨hm,hck,hgk⟩:=hm;have hds:=(oT m hm).frz;generalize hR:checkR m=R;obtain⟨b1,b2,b3,b4,b5⟩:=hm;have yes:64<m.vars.length∨256<m.cons.length->(2:Int)=R:=λh=>(by rw[<-hR];exact(D4 h).symm);refine .B ?_;refine J.g Y Y Y (λh1=> ?_) (λh1=> ?_)
 ·have e:=yes (.inl (by have h:=h1;rw[D9]at h;omega));subst e;refine .B ?_;refine T.ct Y ?_;refine .B ?_;exact r1
 ·refine .B ?_;refine T.cd Y (λh2=> ?_) (λh2=> ?_)
  ·have e:=yes (.inr (by have h:=h2;rw[D9]at h;omega));subst e;refine .B ?_;exact r1
  ·have hR:(if firstE ((List.range m.vars.length).map (varR m))≠0 then firstE ((List.range m.vars.length).map (varR m))else
     if firstE (m.cons.map (conR (domsM m)))≠0 then firstE (m.cons.map (conR (domsM m)))else dQ (domsM m) m.goal)=R:=by
    unfold checkR at hR;rw[D2 (by have h:=h1;rw[D9]at h;have h':=h2;rw[D9]at h';omega)]at hR;exact hR
   have hvar: ∀i,i<m.vars.length->(∀j,j<i->varR m j=0)->varR m i≠0->R=varR m i:=λi hi hb he=>by
    have:firstE ((List.range m.vars.length).map (varR m))=varR m i:=jF (i:=i) (λj hj x hx=>by
     rw[DE,Ep (by omega)]at hx;rw[<-D3 hx];exact hb j hj) (by rw[DE,Ep hi];rfl) he
    rw[this,D4 he]at hR;exact hR.symm
   refine .B ?_;refine J.mm Y Y Y Y ?_;refine .B ?_;refine T.K (T.ind (λi:Nat=>⟨[(1,.optr 0 0 0 0),(3,.ref 1),(22,.val false (.sl (m.vars.map cV))),(23,.val true (.int .i64 (m.vars.map cV).length)),(24,.val true (.int .i64 i))],[(0,some (.box false (cM m))),(1,some (.mp true none ((hadM m i).map λp=>(.string p.1,.bool p.2))))],2⟩) (λi=>i<=m.vars.length/\∀j,j<i->varR m j=0) (λi=>m.vars.length-i) 0 ⟨Dz _,λj hj=>DU hj (EO j)⟩ (λ_ _ h=>h) ?_);rintro i ⟨hi,hb⟩ ih;refine .B ?_;refine T.cd Y (λh3=> ?_) (λh3=> ?_)
   ·have h3:i<m.vars.length:=(by have h:=h3;rw[D9]at h;omega);have hv:=hvar i h3 hb;have hvi:varR m i=if fQ (nmM m i)=false then 40 else if eH m i=true then 41 else if dmM m i=[]∨chkR (dmM m i)≠0 then 42 else 0:=rfl
    have hrow:(m.vars.map cV)[((i:Nat):Int).toNat]? =some (cV (nmM m i,dmM m i)):=by
     rw[DW,DE,D1 h3];unfold nmM dmM;rw[D0,D1 h3];rfl
    have hbk:(nmM m i).size<=1024/\(dmM m i).length<=1024:=by
     unfold nmM dmM;rw[D0,D1 h3];exact b2 _ (D8 h3)
    have hns:=wx (nmM m i) (by omega);have hls:=uI m i;have hup:=Cq m i;refine .B ?_;refine .F (r:=cV (nmM m i,dmM m i)) hrow ?_;refine .L ?_;refine .X ?_;refine .D hns ?_;cases hn:fQ (nmM m i)
    ·have:R=40:=(by rw[hv (by rw[hvi,D4 hn];decide),hvi,D4 hn]);subst this;refine T.ct Y ?_;refine .B ?_;exact r1
    ·rw[D2 (by rw[hn];simp)]at hvi;refine T.cf Y ?_;refine .B ?_;refine J.ml (nmM m i) (.bool false) Y Y Y Y Y Y Y Y Y zx (λ_ _=> .bool _) (C2 Tryz.underlying9) (λ_ _ _ h=>rP h) ?_;rw[hls];cases ht:eH m i
     ·rw[D2 (by rw[ht];simp)]at hvi;have hup:=hup ht;have hck2:=jl (dmM m i) (by omega);have stop:dmM m i=[]∨chkR (dmM m i)≠0->R=42:=λh=>(by rw[hv (by rw[hvi,D4 h];decide),hvi,D4 h]);have goon: ¬dmM m i=[]->¬chkR (dmM m i)≠0->varR m i=0:=λa b=>(by rw[hvi,D2 (λh=>h.elim a b)]);have hw1:IntKind.i64.wrap ((i:Int)+1)=((i+1:Nat):Int):=ak (l:=m.vars.length) h3 (by omega);have ih4:=λh:varR m i=0=>ih (i+1) ⟨by omega,λj hj=>by
       by_cases e:j=i;·rw[e];exact h
       ·exact hb j (by omega)⟩ (by omega)
      generalize varR m i=vr at*;rw[<-hup]at ih4;generalize hadM m i=hm at*;generalize nmM m i=nm at*;generalize dmM m i=dd at*;generalize chkR dd=ck at*;refine .B ?_;refine T.cf Y ?_;refine .B ?_;refine J.g Y Y Y (λh5=> ?_) (λh5=> ?_)
      ·have e:=stop (.inl (by simpa using h5));subst e;refine .B ?_;refine T.ct Y ?_;refine .B ?_;exact r1
      ·refine .B ?_;refine .D hck2 ?_;refine T.cd Y (λh6=> ?_) (λh6=> ?_)
       ·have e:=stop (.inr h6);subst e;refine .B ?_;exact r1
       ·refine .B ?_;refine J.mu nm true Y Y Y Y Y Y Y Y Y Y Y (C2 Tryz.underlying9) (λ_ _ _ h=>rP h) Y ?_;refine .B ?_;rw[hw1];exact T.K (ih4 (goon (λe=>h5 (by rw[e];rfl)) h6))
     ·have:R=41:=(by rw[hv (by rw[hvi,D4 ht];decide),hvi,D4 ht]);subst this;refine .B ?_;refine T.ct Y ?_;refine .B ?_;exact r1
   ·have h3:i=m.vars.length:=(by have h:=h3;rw[D9]at h;omega);have hfz:firstE ((List.range m.vars.length).map (varR m))=0:=fI λx hx=>by
     obtain⟨j,hj,rfl⟩:=DF.1 hx;exact hb j (by rw[h3];exact DM.1 hj)
    rw[hfz,D2 (by simp)]at hR;have hdv:x7 (domsM m):=λx hx=>by
     obtain⟨v,hv,rfl⟩:=DF.1 hx;refine⟨by have:=b2 v hv;omega,?_⟩;obtain⟨j,hj,rfl⟩:=Fr.1 hv;have hvj:=hb j (by omega);unfold varR at hvj;split at hvj;·cases hvj
     ·split at hvj;·cases hvj
      ·split at hvj;·cases hvj
       ·rename_i h6;have h7:chkR (dmM m j)=0:=E0 λe=>h6 (.inr e);unfold dmM at h7;rw[D0,D1 hj]at h7;exact(sG h7).1.ok.1
    refine .B ?_;refine .D hds ?_;refine T.K (T.ind (λi:Nat=>⟨[(1,.optr 0 0 0 0),(6,.val true (aJ (domsM m))),(56,.val false (.sl (m.cons.map cC))),(57,.val true (.int .i64 (m.cons.map cC).length)),(58,.val true (.int .i64 i))],[(0,some (.box false (cM m)))],1⟩) (λi=>i<=m.cons.length/\∀j,j<i->∀c,m.cons[j]? =some c->conR (domsM m) c=0) (λi=>m.cons.length-i) 0 ⟨Dz _,λj hj=>DU hj (EO j)⟩ (λ_ _ h=>h) ?_);rintro k ⟨hk,hbc⟩ ih;refine .B ?_;refine T.cd Y (λh4=> ?_) (λh4=> ?_)
    ·have h4:k<m.cons.length:=(by have h:=h4;rw[D9]at h;omega);have hrow:(m.cons.map cC)[((k:Nat):Int).toNat]? =some (cC m.cons[k]):=(by simp[h4]);have hcb:=b4 _ (D8 h4);have hcs:=qE (domsM m) m.cons[k] ⟨by omega,by omega,by omega,hcb.2.2.2,hck _ (D8 h4)⟩ hdv;have hgk:m.cons[k]? =some m.cons[k]:=D1 h4;have stop:conR (domsM m) m.cons[k]≠0->R=conR (domsM m) m.cons[k]:=λhe=>by
      have:firstE (m.cons.map (conR (domsM m)))=conR (domsM m) m.cons[k]:=jF (i:=k) (λj hj x hx=>by
       rw[DE]at hx;obtain⟨c,hc,rfl⟩:=DY.1 hx;exact hbc j hj c hc) (by rw[DE,hgk];rfl) he
      rw[this,D4 he]at hR;exact hR.symm
     have ih4:=λh:conR (domsM m) m.cons[k]=0=>ih (k+1) ⟨by omega,λj hj c hc=>by
      by_cases e:j=k;·rw[e,hgk]at hc;cases hc;exact h
      ·exact hbc j (by omega) c hc⟩ (by omega)
     generalize m.cons[k]=c at*;generalize conR (domsM m) c=cr at*;refine .B ?_;refine .F (r:=cC c) hrow ?_;refine .L ?_;refine .X ?_;refine .D hcs ?_;refine T.cd Y (λh5=> ?_) (λh5=> ?_)
     ·have e:=stop h5;subst e;refine .B ?_;exact r1
     ·have h5:cr=0:=E0 h5;refine .B ?_;rw[ak (l:=m.cons.length) h4 (by omega)];exact T.K (ih4 h5)
    ·have h4:k=m.cons.length:=(by have h:=h4;rw[D9]at h;omega);have hfc:firstE (m.cons.map (conR (domsM m)))=0:=fI λx hx=>by
      obtain⟨c,hc,rfl⟩:=DF.1 hx;obtain⟨j,hj⟩:=DH hc;exact hbc j (by have:=(D5.1 hj).1;omega) c hj
     rw[hfc,D2 (by simp)]at hR;have hgo:=wz (domsM m) m.goal b5.1 b5.2 hgk hdv;rw[hR]at hgo;refine .B ?_;refine .D hgo ?_;exact r1
theorem kj:Spec Tryz.prog 34 false [] [.val (.agg (cM eB))]:=by
 refine Spec.body Tryz.func34 Y Y Y λw0 Z0=> ?_;refine .B ?_;refine .L ?_;refine .B ?_;refine .Z ?_;refine .V ?_;refine .V ?_;refine .Z ?_;refine .V ?_;refine .V ?_;refine .Z ?_;refine .X ?_;exact⟨_,.cell Y Y Y (λ_=>rfl) .nil⟩
theorem Ce:ModK eB:=⟨rS,λc hc=> .inl (by simp[eB]at hc;subst hc;decide +kernel),.inl (by decide +kernel)⟩
theorem Ci:ModK qz:=⟨Cj,λc hc=>(by cases hc),.inl (by decide +kernel)⟩
theorem iy:Spec Tryz.prog 12 false [] [.val (.bool true)]:=by
 refine Spec.body Tryz.func12 Y Y Y λw0 Z0=> ?_;have hck:=mr eB Ce;rw[Bh]at hck;have hgi:GoalIn (dmQ 0 1 0 1) eB.goal:=xR gp0 (by decide) (by decide) (by decide +kernel);have a1:=(l6 eB rS zP (by decide +kernel) 9 (by decide) hck).frz;have a2:=(l6 eB rS zP (by decide +kernel) 2 (by decide) hck).frz;have a3:=vL eB rS zP (by decide +kernel) hgi 9 (by decide) hck;rw[A6]at a1;rw[A7]at a2;rw[A5]at a3;have hck2:=mr qz Ci;rw[Br]at hck2;have a4:=(A9 qz 9 44 (by decide) hck2).frz;have a1:Spec Tryz.prog 13 false [.agg (cM eB),.int .i64 9] [.val (bT [[0,1],[1,0]]),.val (.bool true),.val (.int .i64 3),.val (.int .i64 0)]:=a1;have a2:Spec Tryz.prog 13 false [.agg (cM eB),.int .i64 2] [.val (bT [[0,1]]),.val (.bool false),.val (.int .i64 2),.val (.int .i64 0)]:=a2;have a3:Spec Tryz.prog 18 false [.agg (cM eB),.int .i64 9] [.val (ao [1,0]),.val (.bool true),.val (.bool true),.val (.int .i64 3),.val (.int .i64 0)]:=a3;have a4:Spec Tryz.prog 13 false [.agg (cM qz),.int .i64 9] [.val (bT []),.val (.bool false),.val (.int .i64 0),.val (.int .i64 44)]:=a4;have l1:=jb [[0,1],[1,0]] [[0,1],[1,0]] (by decide) (by decide);rw[DD Y]at l1;have l2:=jb [[0,1]] [[0,1]] (by decide) (by decide);rw[DD Y]at l2;have l3:=mi [1,0] [1,0] (by decide);rw[DD Y]at l3;refine .B ?_;refine .D kj ?_;refine .D a1 ?_;refine .D kj ?_;refine .D a2 ?_;refine .D kj ?_;refine .D a3 ?_;refine .D a4 ?_;refine .V ?_;refine .V ?_;refine .V ?_;refine .D l1 ?_;refine .V ?_;refine .V ?_;refine .D l2 ?_;refine .V ?_;refine .D l3 ?_;exact r1
theorem rv {m:Mod}(h:checkR m=0):m.vars.length<=64/\m.cons.length<=256/\dQ (domsM m) m.goal=0:=by
 unfold checkR at h;split at h;·cases h
 ·rename_i h0;split at h;·rename_i h1;exact DU h h1
  ·split at h;·rename_i h1;exact DU h h1
   ·exact⟨by omega,by omega,h⟩
theorem nV: ∀{d:aa},(∀x∈d,(vals x).length<=4096)->weight d<=d.length*4096
 | [],_=>by simp[weight]
 |x::d,h=>by
  have h1:=h x (.head _);have h2:=nV λy hy=>h y (.tail _ hy);unfold weight at*;simp only[DZ,Eb,Dp];omega
theorem u0 {d:aa}{c:Con}(h:conR d c=0):ei c.coefs c.rhs=false:=jK h
structure Fit (b:Mod):Prop where
 ck:checkR b=0
 mb:ModB b
 r:RightM b
 p:prodD (domsM b)<=1048576
 cl:b.cons.length<=256
 w:weight (domsM b)<=1000000
 g:GoalIn (domsM b) b.goal
 k:ModK b
theorem Fit.run {b:Mod}(h:Fit b):RunOk (domsM b) b.cons:=h.r.run h.p
theorem wP {b:Mod}(hb:ModB b)(hc:checkR b=0)(hp:prodD (domsM b)<=1048576):Fit b:=by
 have hr:=kD hb hc;obtain⟨h1,h2,h3⟩:=rv hc;have hw:=nV hr.good.few.few;have hl:(domsM b).length=b.vars.length:=(by simp[domsM]);refine⟨hc,hb,hr,hp,h2,by omega,xR hr.good hb.gl.1 hb.gl.2 h3,hb,λc hm=> .inl (u0 (hr.right c hm)),?_⟩;rcases goal_kinds h3 with ⟨_,_,h4⟩|⟨_,h4⟩;·rw[h4];exact .inl Y
 ·exact .inl (u0 h4)
theorem Cs {m:Mod}{most:Nat}(hb:ModB m)(h:okM m most=true)(h1:1<=most/\most<=1048576):Fit m/\prodD (domsM m)<=most:=by
 have hk:=Ah hb h h1.1;unfold okM at h;rw[DJ,DN]at h;exact⟨wP hb h.1 (Du hk.2 h1.2),hk.2⟩
theorem Fit.turn {b:Mod}(h:Fit b)(hk:b.goal.kind≠0):Fit (xk b):=by
 have hk2:b.goal.kind=1∨b.goal.kind=2:=(h.g.kind.resolve_left hk).1;refine wP ⟨h.mb.vl,h.mb.vn,h.mb.cl,h.mb.cb,⟨h.mb.gl.1,by show(b.goal.coefs.map (- ·)).length<=_;rw[D9];exact h.mb.gl.2⟩⟩ ((vw hk2).trans h.ck) h.p
theorem zc {b:Mod}(h:Fit b):Spec Tryz.prog 64 false [.agg (cM b)] [.val (.int .i64 0)]:=by
 have:=mr b h.k;rw[h.ck]at this;exact this
theorem BJ {b:Mod}(h:Fit b)(left:Int)(hl:left<=1099511627776):Spec Tryz.prog 13 false [.agg (cM b),.int .i64 left] [.own 24 1 ((srchA b left).st.map cL),.val (.bool (!(srchA b left).short)),.val (.int .i64 (srchA b left).nodes),.val (.int .i64 0)]:=l6 b h.mb h.run h.w left hl (zc h)
theorem lookG_os {σ:Type}{left:Int}{con:σ->List Con}{fnd:σ->List Int->σ×Bool}(hf: ∀st a,(fnd st a).2=false): ∀(n:Nat) (d:aa) (s:Srch σ),s.over=s.short->(lookG left con fnd n d s).over=(lookG left con fnd n d s).short∨(lookG left con fnd n d s).over=false/\s.over=true
 |0,d,s,h=> .inl h
 |n+1,d,s,h=>by
  rw[lookG];split;·exact .inl Y
  ·split;·exact .inl h
   ·split
    ·rename_i a _;cases hs:s.over with
     |true=>exact .inr ⟨hf _ _,rfl⟩
     |false=>exact .inl (by rw[hs]at h;show(fnd s.st a).2=s.short;rw[hf,h])
    ·left
     refine jE (Q:=λs:Srch σ=>s.over=s.short) (λt x _ ht=> ?_) h;split;·exact ht
     ·rename_i ho;rcases lookG_os hf n _ t ht with h1|⟨_,h1⟩;·exact h1
      ·exact DU h1 ho
section
variable {b:Mod}{left:Int}
theorem CK (h:Fit b)(left:Int):(srchA b left).over=(srchA b left).short:=by
 rcases lookG_os (left:=left) (con:=λ_:List (List Int)=>b.cons) (fnd:=ny) (λ_ _=>rfl) (weight (domsM b)+1) (domsM b) ⟨0,false,false,[]⟩ rfl with h1|⟨_,h1⟩;·exact h1
 ·cases h1
theorem B8 (h:Fit b)(hs:(srchA b left).short=false):(srchA b left).st=eX b.cons (domsM b):=by
 have ho:=CK h left;rw[hs]at ho;exact qJ h.run (weight (domsM b)+1) (domsM b) ⟨0,false,false,[]⟩ (Eh _) h.r.good leD.rfl' Y ho
end
theorem CN {b:Mod}(h:Fit b)(h1: ∀x∈domsM b,(vals x).length=1):(srchA b 1).nodes=1/\(srchA b 1).short=false/\(srchA b 1).st=eX b.cons (domsM b):=by
 have key:(srchA b 1).nodes=1/\(srchA b 1).short=false:=by
  unfold srchA;rw[lookG,D2 (by decide)];split;·exact⟨rfl,rfl⟩
  ·rename_i l hl;split;·exact⟨rfl,rfl⟩
   ·rename_i hno;exfalso;obtain⟨gl,hle,_⟩:=nF h.run hl;obtain⟨hv,h2,_⟩:=lf gl hno;have hs:=(hle.sub gl h.r.good).2;have hvb:openV l<(domsM b).length:=(by have:=gl.len;omega);have h3:=hs (openV l) l[openV l] (domsM b)[openV l] (D1 hv) (D1 hvb);rw[D0,D1 hv]at h2;have h4:=bS (aF (gl.few.fine _ (D8 hv)).ok) h3;have h5:=h1 _ (D8 hvb);simp only[Ed]at h2;omega
 exact⟨key.1,key.2,B8 h key.2⟩
theorem yI {cons:List Con}{d:aa}{v:List Int}(hv:d=v.map λx=>[(x,x)]):eX cons d=if(cons.all λc=>holdsR c v)=true then [v]else []:=by
 have hg: ∀k,k<=v.length->bq d k=[v.take k]:=λk=>by
  induction k with
  |zero=>intro _;rfl
  |succ k ih=>
   intro hk;have hd:vals (d.getD k [])=[v[k]]:=by
    rw[hv,D0,DE,D1 (by omega)];simp[vals,bl]
   rw[bq,ih (by omega),hd,DB (by omega)];rfl
 have hl:d.length=v.length:=(by rw[hv,D9]);unfold eX;rw[hl,hg _ (DL _),DS (DL _),GH,List.filter_nil]
abbrev A1:=List (ByteArray×List (Int×Int))
def eN (l:A1)(v:List Int):Nat->A1
 |0=>l
 |i+1=>(eN l v i).set i (((eN l v i).getD i (⟨#[]⟩,[])).1,[(v.getD i 0,v.getD i 0)])
def dn (b:Mod)(v:List Int)(i:Nat):Mod:=⟨eN b.vars v i,b.cons,b.goal⟩
theorem fP (l:A1)(v:List Int): ∀i,(eN l v i).length=l.length
 |0=>rfl
 |i+1=>by rw[eN,E7,fP l v i]
theorem nI (l:A1)(v:List Int)(j:Nat): ∀i,((eN l v i).getD j (⟨#[]⟩,[])).1=(l.getD j (⟨#[]⟩,[])).1
 |0=>rfl
 |i+1=>by
  rw[<-nI l v j i,eN];rw[D0,EK,D0,D0];by_cases h:i=j
  ·subst h;by_cases h2:i<(eN l v i).length;·simp[h2]
   ·simp[h2]
  ·simp[h]
theorem jv (l:A1)(v:List Int)(j:Nat)(hj:j<l.length): ∀i,((eN l v i).getD j (⟨#[]⟩,[])).2=if j<i then [(v.getD j 0,v.getD j 0)]else(l.getD j (⟨#[]⟩,[])).2
 |0=>by simp[eN]
 |i+1=>by
  have ih:=jv l v j hj i;have hl:=fP l v i;rw[eN,D0,EK];by_cases h:i=j
  ·subst h;simp[hl,hj]
  ·rw[D2 h,<-D0,ih];by_cases h2:j<i;·rw[D4 h2,D4 (by omega)]
   ·rw[D2 h2,D2 (by omega)]
theorem fK (m:Mod)(i:Nat):(domsM m).getD i []=dmM m i:=by
 unfold domsM dmM;rw[D0,D0,DE];cases m.vars[i]? <;>rfl
theorem Af (b:Mod)(v:List Int)(i:Nat):domsM (dn b v (i+1))=(domsM (dn b v i)).set i [(v.getD i 0,v.getD i 0)]:=by
 show(eN b.vars v (i+1)).map (·.2)=((eN b.vars v i).map (·.2)).set i _;rw[eN,Fz]
theorem zo {m:Mod}(h:checkR m=0)(j:Nat)(hj:j<m.vars.length):varR m j=0:=by
 unfold checkR at h;split at h;·cases h
 ·split at h;·rename_i h1;exact DU h h1
  ·rename_i h1;have h1:firstE ((List.range m.vars.length).map (varR m))=0:=E0 h1;exact jh h1 _ (DF.2 ⟨j,DM.2 hj,rfl⟩)
theorem BT {k:Int}(h: -1048576<=k/\k<=1048576):chkR [(k,k)]=0:=by
 have h1:badR [(k,k)] 0=false:=by
  have hv:aH k=true:=DD h;simp[badR,hv]
 have h2:sizeI [(k,k)]=1:=(by simp[sizeI]);unfold chkR;rw[h2,D2 (by simp[G0,h1]),D2 (by decide)]
section
variable {b:Mod}{v:List Int}
theorem oO (h:Fit b)(hv: ∀j,j<b.vars.length->v.getD j 0∈vals (dmM b j)): ∀i,i<=b.vars.length->GoodD (domsM b).length (domsM (dn b v i))/\leD (domsM (dn b v i)) (domsM b)
 |0,_=>⟨h.r.good,leD.rfl'⟩
 |i+1,hi=>by
  obtain⟨g1,g2⟩:=oO h hv i (by omega);have hlen:(domsM (dn b v i)).length=b.vars.length:=(by rw[g1.len];simp[domsM]);have e:(domsM (dn b v i)).getD i []=dmM b i:=by
   rw[fK];exact(jv b.vars v i (by omega) i).trans (D2 (by omega))
  obtain⟨c1,c2,_⟩:=jm g1 (v:=i) (by omega) (x:=v.getD i 0) (by rw[e];exact hv i (by omega));rw[Af];exact⟨c1,(aY 0).trans _ _ _ c2 g2⟩
theorem wl (h:ModB b)(v:List Int): ∀i,i<=b.vars.length->∀x∈eN b.vars v i,x.1.size<=1024/\x.2.length<=1024
 |0,_,x,hx=>h.vn x hx
 |i+1,hi,x,hx=>by
  have hl:=fP b.vars v i;rw[eN]at hx;rcases DV hx with h1|h1;·exact wl h v i (by omega) x h1
  ·rw[h1];refine⟨?_,by simp⟩;have hil:i<(eN b.vars v i).length:=(by omega);rw[D0,D1 hil];exact(wl h v i (by omega) _ (D8 hil)).1
theorem Fit.one (h:Fit b)(hv: ∀j,j<b.vars.length->v.getD j 0∈vals (dmM b j)){i:Nat}(hi:i<=b.vars.length):Fit (dn b v i):=by
 obtain⟨g1,g2⟩:=oO h hv i hi;obtain⟨k1,k2,k3⟩:=rv h.ck;have hl:=fP b.vars v i;have hcon: ∀c,ConB c->conR (domsM b) c=0->conR (domsM (dn b v i)) c=0:=λc hc h0=>vR hc h.r.good g1 g2 h0;refine wP ⟨by show(eN b.vars v i).length<=_;rw[hl];exact h.mb.vl,wl h.mb v i hi,h.mb.cl,h.mb.cb,h.mb.gl⟩ ?_ (Du (qp g1 h.r.good g2) h.p);have hv0:firstE ((List.range (dn b v i).vars.length).map (varR (dn b v i)))=0:=fI λx hx=>by
  obtain⟨j,hj,rfl⟩:=DF.1 hx;have hj:j<b.vars.length:=(by have:=DM.1 hj;have e:(dn b v i).vars.length=b.vars.length:=hl;omega);have h0:=zo h.ck j hj;have hn: ∀k,nmM (dn b v i) k=nmM b k:=λk=>nI b.vars v k i;have ht:eH (dn b v i) j=eH b j:=(by unfold eH;simp only[hn]);have hd:dmM (dn b v i) j≠[]/\chkR (dmM (dn b v i) j)=0:=by
   have e:dmM (dn b v i) j=if j<i then [(v.getD j 0,v.getD j 0)]else dmM b j:=jv b.vars v j hj i
   rw[e];split
   ·refine⟨by simp,BT ?_⟩;have hm:dmM b j∈domsM b:=by
     rw[<-fK,D0,D1 (by simp[domsM];omega)];exact D8 _
    exact(h.r.good.few.fine _ hm).val _ (hv j hj)
   ·exact(ru h.ck).1 j hj
  unfold varR at h0⊢;rw[hn,ht];split at h0;·cases h0
  ·split at h0;·cases h0
   ·rw[D2 (by assumption),D2 (by assumption),D2 (by rintro(h1|h1);exact hd.1 h1;exact h1 hd.2)]
 have hc0:firstE ((dn b v i).cons.map (conR (domsM (dn b v i))))=0:=fI λx hx=>by
  obtain⟨c,hc,rfl⟩:=DF.1 hx;exact hcon c (h.r.con c hc) (h.r.right c hc)
 unfold checkR;rw[hv0,hc0,D2 (by show¬(64<(eN b.vars v i).length∨256<b.cons.length);omega),D2 (by simp),D2 (by simp)];show dQ (domsM (dn b v i)) b.goal=0;have hgl:=h.mb.gl;unfold dQ at k3⊢;split at k3
 ·rename_i hk;rw[D4 hk];exact hcon (dI b.goal) ⟨by show(b.goal.vars.length+1)*8<=_;omega,by show b.goal.coefs.length*8<=_;omega,by simp[dI],by simp[dI]⟩ k3
 ·rename_i hk;rw[D2 hk];exact k3
theorem wj (h:Fit b)(hv: ∀j,j<b.vars.length->v.getD j 0∈vals (dmM b j)){a:List Int}(ha:solvesR b a=true->v=a){i:Nat}(hi:i<=b.vars.length):solvesR (dn b v i) a=solvesR b a:=by
 obtain⟨g1,g2⟩:=oO h hv i hi;have hn:(domsM b).length=b.vars.length:=(by simp[domsM]);rw[FD,dH];rw[g1.len];constructor
 ·rintro⟨h1,h2,h3⟩;refine dH.2 ⟨h1,λj hj=> ?_,h3⟩;have:=g2.2 (j:Int) (a.getD j 0) (by omega) (by unfold domAt;rw[DW];exact h2 j hj);unfold domAt at this;rwa[DW]at this
 ·intro h0;have hva:=ha h0;obtain⟨h1,h2,h3⟩:=dH.1 h0;refine⟨h1,λj hj=> ?_,h3⟩;have e:(domsM (dn b v i)).getD j []=if j<i then [(v.getD j 0,v.getD j 0)]else dmM b j:=by rw[fK];exact jv b.vars v j (by omega) i
  rw[e];split;·rw[hva];simp[vals,bl]
  ·have:=h2 j hj;rwa[fK]at this
theorem Bm (hl:v.length=b.vars.length):domsM (dn b v b.vars.length)=v.map λx=>[(x,x)]:=by
 have hl2:=fP b.vars v b.vars.length;refine FU (by simp[domsM,dn,hl2,hl]) λj h1 h2=> ?_;have hj:j<b.vars.length:=(by have:j<v.length:=(by simpa using h2);omega);have e:(domsM (dn b v b.vars.length)).getD j []=[(v.getD j 0,v.getD j 0)]:=(by rw[fK];exact(jv b.vars v j hj _).trans (D4 hj));rw[D0,D1 h1]at e;simp only[Ed]at e;rw[e,FV,D0,D1 (by omega)];rfl
theorem Ae (h:Fit b)(hv: ∀j,j<b.vars.length->v.getD j 0∈vals (dmM b j))(hl:v.length=b.vars.length):(srchA (dn b v b.vars.length) 1).nodes=1/\(srchA (dn b v b.vars.length) 1).short=false/\(srchA (dn b v b.vars.length) 1).st=if solvesR (dn b v b.vars.length) v=true then [v]else []:=by
 have hF:=h.one hv (DL _);have he:=Bm (b:=b) hl;obtain⟨h1,h2,h3⟩:=CN hF (by rw[he];intro x hx;obtain⟨k,_,rfl⟩:=DF.1 hx;simp[vals,bl]);refine⟨h1,h2,h3.trans ?_⟩;rw[yI he];show(if(b.cons.all λc=>holdsR c v)=true then [v]else [])=_;have:(b.cons.all λc=>holdsR c v)=true↔solvesR (dn b v b.vars.length) v=true:=by
  rw[dH,he,DI];refine⟨λh4=>⟨by simp,λj hj=> ?_,h4⟩,λh4=>h4.2.2⟩;have hj:j<v.length:=(by simpa using hj);simp[hj,vals,bl]
 by_cases h5:solvesR (dn b v b.vars.length) v=true;·rw[D4 h5,D4 (this.2 h5)]
 ·rw[D2 h5,D2 (λh6=>h5 (this.1 h6))]
end
def oneK (b:Mod)(a:List Int):List Int:=if solvesR b a=true then a else b.vars.map λx=>(vals x.2).headD 0
set_option maxHeartbeats 1000000 in
theorem ve (m:Mod)(hm:ModI m):SpecX Tryz.prog 27 [] [] [] [] [(false,.agg (cM m))] (λ_=>[]) (λns=>[.sl 56 2 false ((boundM m).vars.map cV)]) false (λns=>[.agg [.raw (ns.getD 0 undef),bF (boundM m).cons,.int .i64 m.goal.kind,ao (boundM m).goal.vars,ao (boundM m).goal.coefs]]):=by
 refine SpecX.body (fn:=Tryz.f27) [] [1001] Y Y Y Y λw0 Z=> ?_;have hM: ∀b,¬(∃u∈([]:List Value)++[],VB u b):=λb ⟨u,hu,_⟩=>(by cases hu);obtain⟨b1,b2,b3,b4,b5⟩:=hm;refine .B ?_;refine .L ?_;refine J.nil ?_;refine T.seq ?_;refine T.r ?_;refine J.sub (Rel.unbx (s:=1) hM Y Y) ?_;refine J.H Y ?_
 conv=>whnf
 refine J.H Y ?_
 conv=>whnf
 refine J.bz [.raw (.slice none 0 0),.raw (.slice none 0 0),.int .i64 0,.sl [],.sl []] Y Y Y Y Y Y Y Y (λw Z=> .cons (.raw _ Y) (.cons (.raw _ Y) (.cons (.int _ _) (.cons .nilsl (.cons .nilsl .nil))))) (by simp[PV.one]) rfl rfl rfl ?_
 conv=>whnf
 refine .L ?_;refine .W ?_;refine J.nil ?_;refine T.nilO 1001 56 2 Y ?_;refine T.nilO 1002 51 7 Y ?_;refine T.sub (Rel.wk (o:=3) Y) ?_;refine T.sub (Rel.wk (o:=4) Y) ?_;refine T.mids (λu:Value=>⟨[(1,.fptr false (cM m)),(2,.optr 0 0 0 0),(3,.optr 1 0 0 0),(1001,.eq u 2),(1002,.eq (.slice none 0 0) 3)],[(0,some (.box true [.sl [],.sl [],.int .i64 0,.sl [],.sl []])),(1,some (.box false (bxM u (.slice none 0 0) m.goal))),(2,some (.sl 56 2 false ((boundM m).vars.map cV))),(3,some (.sl 51 7 false []))],4⟩) ?_ λu1=> ?_
 ·refine .M ?_;refine T.K (T.ind (λs:Nat×Value=>⟨[(1,.fptr false (cM m)),(2,.optr 0 0 0 0),(3,.optr 1 0 0 0),(4,.val true (.int .i64 s.1)),(1001,.eq s.2 2),(1002,.eq (.slice none 0 0) 3)],[(0,some (.box true [.sl [],.sl [],.int .i64 0,.sl [],.sl []])),(1,some (.box false (bxM s.2 (.slice none 0 0) m.goal))),(2,some (.sl 56 2 false (((m.vars.take s.1).map iI).map cV))),(3,some (.sl 51 7 false []))],4⟩) (λs=>s.1<=min m.vars.length 10) (λs=>10-s.1) (0,.slice none 0 0) (Dz _) (λ_ _ h=>by cases h.1) ?_);rintro⟨i,u⟩ hi ih;simp only at hi;refine .B ?_;refine J.g Y Y Y (λh1=> ?_) (λh1=> ?_)
  ·have h1:i<m.vars.length:=(by simpa using h1);refine .B ?_;refine T.cd Y (λh2=> ?_) (λh2=> ?_)
   ·have h2:i<10:=(by omega);have hrow:(m.vars.map cV)[((i:Nat):Int).toNat]? =some (cV m.vars[i]):=(by simp[h1]);have hv:=b1 _ (D8 h1);have htk:(m.vars.take (i+1)).map iI=(m.vars.take i).map iI++[iI m.vars[i]]:=(by rw[DB h1,EC];rfl);have hln:((m.vars.take i).map iI).length<=10:=(by simp;omega);have ih1:=λu'=>ih (i+1,u') (by show _<=min _ _;omega) (by show _-_<_-_;omega);simp only[htk,EC]at ih1;generalize (m.vars.take i).map iI=out at*;generalize m.vars[i]=v at*;obtain⟨nm,dd⟩:=v;simp only at hv;refine .B ?_;refine .F (r:=cV (nm,dd)) hrow ?_;refine .L ?_;refine .W ?_;refine .M ?_;refine T.rdw 22 Y (by kernel_rfl) Y ?_;refine J.H Y ?_;refine J.lr 1001 (q:=2) (u:=u) Y Y Y Y Y Y Y Y Y ?_;refine .M ?_;refine J.ss (min nm.size 20) Y Y Y Y Y Y Y (by simp;omega) (Nat.min_le_left _ _) ?_;refine .M ?_;refine .O ?_;refine .M ?_;refine J.s1 (enc:=cR) (l:=dd) (min dd.length 12) Y Y Y Y Y Y Y Y Y (λ_=>rfl) (by simp;omega) (by omega) ?_;refine J.adf hM Y Y Y Y Y Y Y Y Y Y Y Y Y Y Y Y Y Az (by show(0+List.length _)*16<=_;simp;omega) ?_;refine .M ?_;refine .V ?_;refine J.ad Y Y Y Y Y Y Y Y Y Y Y Y Y Y Y Y Y Y (c9 Y) (by show(List.length _+1)*40<=_;simp;omega) ?_;refine .M ?_;refine⟨by kernel_rfl,?_⟩;refine J.name 1001 (s:=49) Y Y Y λu'=> ?_;refine J.sub (Rel.raw (s:=49) (g:=1001) Y (.inl Y) Y Y Y) ?_;refine .X ?_;rw[ak (l:=m.vars.length) (n:=i) h1 b2];exact T.K (ih1 u')
   ·have e:i=10:=(by omega);subst e;refine .B ?_;exact⟨rfl,u,[1,2,3,1001,1002],[2,3,1001,1002],rfl,rfl⟩
  ·have e:i=m.vars.length:=(by simp at h1;omega);subst e;have e2:m.vars.take 10=m.vars:=DS (by omega);rw[show(boundM m).vars=(m.vars.take 10).map iI from Y,e2,E8];refine .B ?_;refine T.cf Y ?_;refine .B ?_;exact⟨rfl,u,[1,2,3,1001,1002],[2,3,1001,1002],rfl,rfl⟩
 ·refine T.mids (λu2:Value=>⟨[(1,.fptr false (cM m)),(2,.optr 0 0 0 0),(3,.optr 1 0 0 0),(1001,.eq u1 2),(1002,.eq u2 3)],[(0,some (.box true [.sl [],.sl [],.int .i64 0,.sl [],.sl []])),(1,some (.box false (bxM u1 u2 m.goal))),(2,some (.sl 56 2 false ((boundM m).vars.map cV))),(3,some (.sl 51 7 false ((boundM m).cons.map cC)))],4⟩) ?_ λu2=> ?_
  ·refine .M ?_;refine T.K (T.ind (λs:Nat×Value=>⟨[(1,.fptr false (cM m)),(2,.optr 0 0 0 0),(3,.optr 1 0 0 0),(6,.val true (.int .i64 s.1)),(1001,.eq u1 2),(1002,.eq s.2 3)],[(0,some (.box true [.sl [],.sl [],.int .i64 0,.sl [],.sl []])),(1,some (.box false (bxM u1 s.2 m.goal))),(2,some (.sl 56 2 false ((boundM m).vars.map cV))),(3,some (.sl 51 7 false (((m.cons.take s.1).map e9).map cC)))],4⟩) (λs=>s.1<=min m.cons.length 16) (λs=>16-s.1) (0,.slice none 0 0) (Dz _) (λ_ _ h=>by cases h.1) ?_);rintro⟨i,u⟩ hi ih;simp only at hi;refine .B ?_;refine J.g Y Y Y (λh1=> ?_) (λh1=> ?_)
   ·have h1:i<m.cons.length:=(by simpa[bF]using h1);refine .B ?_;refine T.cd Y (λh2=> ?_) (λh2=> ?_)
    ·have h2:i<16:=(by omega);have hrow:(m.cons.map cC)[((i:Nat):Int).toNat]? =some (cC m.cons[i]):=(by simp[h1]);have hv:=b4 _ (D8 h1);have htk:(m.cons.take (i+1)).map e9=(m.cons.take i).map e9++[e9 m.cons[i]]:=(by rw[DB h1,EC];rfl);have hln:((m.cons.take i).map e9).length<=16:=(by simp;omega);have ih1:=λu'=>ih (i+1,u') (by show _<=min _ _;omega) (by show _-_<_-_;omega);simp only[htk]at ih1;generalize (m.cons.take i).map e9=out at*;generalize m.cons[i]=c at*;obtain⟨kind,vars,coefs,op,rhs,rows,b⟩:=c;simp only at hv;refine .B ?_;refine .F (r:=cC ⟨kind,vars,coefs,op,rhs,rows,b⟩) hrow ?_;refine .L ?_;refine .W ?_;refine .M ?_;refine J.s1 (enc:=cI) (l:=vars) (min vars.length 14) Y Y Y Y Y Y Y Y Y (λ_=>rfl) (by simp;omega) (by omega) ?_;refine .M ?_;refine .W ?_;refine .M ?_;refine J.s1 (enc:=cI) (l:=coefs) (min coefs.length 14) Y Y Y Y Y Y Y Y Y (λ_=>rfl) (by simp;omega) (by omega) ?_;refine .M ?_;refine .W ?_;refine .M ?_;refine .O ?_;refine J.H Y ?_
     conv=>whnf
     refine J.nil ?_;refine T.sub (Rel.wk (o:=5) Y) ?_;refine T.mid ⟨[(1,.fptr false (cM m)),(2,.optr 0 0 0 0),(3,.optr 1 0 0 0),(6,.val true (.int .i64 i)),(7,.optr 4 0 0 0),(8,.ref 5),(1001,.eq u1 2),(1002,.eq u 3)],[(0,some (.box true [.sl [],.sl [],.int .i64 0,.sl [],.sl []])),(1,some (.box false (bxM u1 u m.goal))),(2,some (.sl 56 2 false ((boundM m).vars.map cV))),(3,some (.sl 51 7 false (out.map cC))),(4,some (.box false (cC ⟨kind,vars.take (min vars.length 14),coefs.take (min coefs.length 14),op,rhs,rows,b⟩))),(5,some (.sl 24 1 false (((rows.take 20).map λr=>r.take (min r.length 14)).map cL)))],6⟩ ?_ ?_
     ·refine .M ?_;refine T.K (T.ind (λk:Nat=>⟨[(1,.fptr false (cM m)),(2,.optr 0 0 0 0),(3,.optr 1 0 0 0),(6,.val true (.int .i64 i)),(7,.optr 4 0 0 0),(8,.ref 5),(9,.val true (.int .i64 k)),(1001,.eq u1 2),(1002,.eq u 3)],[(0,some (.box true [.sl [],.sl [],.int .i64 0,.sl [],.sl []])),(1,some (.box false (bxM u1 u m.goal))),(2,some (.sl 56 2 false ((boundM m).vars.map cV))),(3,some (.sl 51 7 false (out.map cC))),(4,some (.box false (cC ⟨kind,vars.take (min vars.length 14),coefs.take (min coefs.length 14),op,rhs,rows,b⟩))),(5,some (.sl 24 1 false (((rows.take k).map λr=>r.take (min r.length 14)).map cL)))],6⟩) (λk=>k<=min rows.length 20) (λk=>20-k) 0 (Dz _) (λ_ _ h=>by cases h.1) ?_);rintro k hk ihk;refine .B ?_;refine J.g Y Y Y (λh3=> ?_) (λh3=> ?_)
      ·have h3:k<rows.length:=(by simpa using h3);refine .B ?_;refine T.cd Y (λh4=> ?_) (λh4=> ?_)
       ·have h4:k<20:=(by omega);have hrk:(rows.map cL)[((k:Nat):Int).toNat]? =some (cL rows[k]):=(by simp[h3]);have hr8:=hv.2.2.2 _ (D8 h3);have htkr:(rows.take (k+1)).map (λr=>r.take (min r.length 14))=(rows.take k).map (λr=>r.take (min r.length 14))++[rows[k].take (min rows[k].length 14)]:=(by rw[DB h3,EC];rfl);have hlr:((rows.take k).map λr=>r.take (min r.length 14)).length<=20:=(by simp;omega);have ihk1:=ihk (k+1) (by omega) (by omega);rw[htkr]at ihk1;generalize (rows.take k).map (λr=>r.take (min r.length 14))=outr at*;generalize rows[k]=r at*;refine .M ?_;refine T.rdm 15 Y (by kernel_rfl) Y ?_;refine .M ?_;refine .I (r:=cL r) hrk ?_;refine .M ?_;refine .I (r:=cL r) hrk ?_;refine .M ?_;refine J.s1 (enc:=cI) (l:=r) (min r.length 14) Y Y Y Y Y Y Y Y Y (λ_=>rfl) (by simp;omega) (by omega) ?_;refine .M ?_;refine .V ?_;refine .M ?_;refine J.a1 (enc:=cL) (x:=r.take (min r.length 14)) (B:=24) Y Y Y Y Y Y Y Y Y Y Y Y Y Y Y Y Y Y Y Y (by omega) ?_;refine .M ?_;rw[ak (l:=rows.length) (n:=k) h3 (by omega)];exact T.K ihk1
       ·have e:k=20:=(by omega);subst e;refine .B ?_;exact⟨rfl,[1,2,3,6,7,8,1001,1002],[2,3,1001,1002,7,8],rfl,rfl⟩
      ·have e:k=rows.length:=(by simp at h3;omega);have e2:rows.take 20=rows.take k:=(by rw[e,DS (DL _),DS (by omega)]);rw[e2];refine .B ?_;refine T.cf Y ?_;refine .B ?_;exact⟨rfl,[1,2,3,6,7,8,1001,1002],[2,3,1001,1002,7,8],rfl,rfl⟩
     ·refine T.sub (Rel.frz (s:=8) hM Y Y) ?_;have hown:=z6 ⟨kind,vars.take (min vars.length 14),coefs.take (min coefs.length 14),op,rhs,(rows.take 20).map λr=>r.take (min r.length 14),b⟩ ⟨by simp;omega,by simp;omega,by simp;omega,λx hx=>by
       obtain⟨y,_,rfl⟩:=DF.1 hx;simp;omega⟩
      rw[show e9 ⟨kind,vars,coefs,op,rhs,rows,b⟩=⟨kind,vars.take (min vars.length 14),coefs.take (min coefs.length 14),op,rhs,(rows.take 20).map λr=>r.take (min r.length 14),b⟩from Y]at ih1;generalize vars.take (min vars.length 14)=vars2 at*;generalize coefs.take (min coefs.length 14)=coefs2 at*;generalize (rows.take 20).map (λr=>r.take (min r.length 14))=rows2 at*;refine .M ?_;refine .W ?_;refine .M ?_;refine T.rdm 5 Y (by kernel_rfl) Y ?_;refine J.H Y ?_;refine J.lr 1002 (q:=3) (u:=u) Y Y Y Y Y Y Y Y Y ?_;refine .M ?_;refine .C hown ?_;refine .M ?_;refine .V ?_;refine .M ?_;refine J.a1 (enc:=cC) (x:=⟨kind,vars2,coefs2,op,rhs,rows2,b⟩) (B:=104) Y Y Y Y Y Y Y Y Y Y Y Y Y Y Y Y Y Y Y Y (by omega) ?_;refine .M ?_;refine J.name 1002 (s:=118) Y Y Y λu'=> ?_;refine J.sub (Rel.raw (s:=118) (g:=1002) Y (.inl Y) Y Y Y) ?_;refine .W ?_;refine .M ?_;rw[ak (l:=m.cons.length) (n:=i) h1 b3];exact T.K (ih1 u')
    ·have e:i=16:=(by omega);subst e;refine .B ?_;exact⟨rfl,u,[1,2,3,1001,1002],[2,3,1001,1002],rfl,rfl⟩
   ·have e:i=m.cons.length:=(by simp[bF]at h1;omega);subst e;have e2:m.cons.take 16=m.cons:=DS (by omega);rw[show(boundM m).cons=(m.cons.take 16).map e9 from Y,e2,E8];refine .B ?_;refine T.cf Y ?_;refine .B ?_;exact⟨rfl,u,[1,2,3,1001,1002],[2,3,1001,1002],rfl,rfl⟩
  ·refine .M ?_;refine .O ?_;refine .M ?_;refine J.s1 (enc:=cI) (l:=m.goal.vars) (min m.goal.vars.length 14) Y Y Y Y Y Y Y Y Y (λ_=>rfl) (by simp;omega) (by omega) ?_;refine .M ?_;refine J.am (enc:=cI) (l:=([]:List Int)) (l2:=m.goal.vars.take (min m.goal.vars.length 14)) (B:=8) Y Y Y Y Y Y Y Y Y Y Y Y Y Y Y Y Y (λ_=>rfl) Y (by simp;omega) ?_;refine J.sub (Rel.frz (s:=130) hM Y Y) ?_;refine .M ?_;refine .W ?_;refine .M ?_;refine .O ?_;refine .M ?_;refine J.s1 (enc:=cI) (l:=m.goal.coefs) (min m.goal.coefs.length 14) Y Y Y Y Y Y Y Y Y (λ_=>rfl) (by simp;omega) (by omega) ?_;refine .M ?_;refine J.am (enc:=cI) (l:=([]:List Int)) (l2:=m.goal.coefs.take (min m.goal.coefs.length 14)) (B:=8) Y Y Y Y Y Y Y Y Y Y Y Y Y Y Y Y Y (λ_=>rfl) Y (by simp;omega) ?_;refine J.sub (Rel.frz (s:=143) hM Y Y) ?_;refine .M ?_;refine .W ?_;refine J.sub (λa w h=>Rel.meltB (i:=1) (qc:=1) (q:=3) (g:=1002) hM Y Y Y Y Y h) ?_;refine .M ?_;refine .W ?_;refine .M ?_;exact⟨[],[2],[u1],trivial,⟨rfl,⟨_,rfl,rfl,rfl⟩,trivial⟩,rfl,.cell Y Y Y (λh=>by cases h) .nil⟩
theorem r3 (m:Mod)(most:Nat)(hm:ModI m)(h1:1<=most/\most<=1048576):SpecX Tryz.prog 10 [] [] [] [] [(false,.agg (cM m)),(true,.int .i64 most)] (λ_=>[]) (λns=>[.sl 56 2 false ((boundM m).vars.map cV)]) false (λns=>[.agg [.raw (ns.getD 0 undef),bF (boundM m).cons,.int .i64 m.goal.kind,ao (boundM m).goal.vars,ao (boundM m).goal.coefs],.bool (okM (boundM m) most)]):=by
 refine SpecX.body (fn:=Tryz.f10) [] [1000] Y Y Y Y λw0 Z=> ?_;have hbs:=ve m hm;have hb:=vc m;have hck:=t6 _ hb;have hds:=oB _ hb;have hri:=λh=>kD hb h;have hok:okM (boundM m) most=(decide (checkR (boundM m)=0)&&smallD (domsM (boundM m)) most):=rfl;have hk:m.goal.kind=(boundM m).goal.kind:=rfl;rw[hk]at hbs⊢;generalize okM (boundM m) most=ok at*;generalize boundM m=b at*;have hsm:=λh=>tp (domsM b) most h1 (hri h).good.few;generalize domsM b=d at*;generalize smallD d most=sm at*;generalize checkR b=ck at*;refine .B ?_;refine .L ?_;refine .M ?_;refine J.cx [] [] [1000] hbs trivial (λns hns=> ?_);obtain⟨u,rfl⟩:=yW hns Y;refine .M ?_;refine .W ?_;refine .M ?_;refine T.rdw 11 Y (by kernel_rfl) Y ?_;refine .M ?_;refine J.ca 1000 hck ?_;refine .M ?_;refine J.g Y Y Y (λh2=> ?_) (λh2=> ?_)
 ·refine .M ?_;refine J.ca 1000 hds ?_;refine .M ?_;refine .C (hsm h2) ?_;refine .M ?_;refine J.wd Y Y Y Y Y Y Y Y Y Y ?_;refine .M ?_;refine⟨by kernel_rfl,?_⟩;refine .M ?_;rw[DD h2,EU]at hok;subst hok;exact⟨[],[2],[u],trivial,⟨rfl,⟨_,rfl,rfl,rfl⟩,trivial⟩,rfl,.cell Y Y Y (λh=>by cases h) (.v rfl rfl rfl (λh=>by cases h) .nil)⟩
 ·refine .M ?_;refine J.wd Y Y Y Y Y Y Y Y Y Y ?_;refine .M ?_;refine⟨by kernel_rfl,?_⟩;refine .M ?_;rw[DC h2,FK]at hok;subst hok;exact⟨[],[2],[u],trivial,⟨rfl,⟨_,rfl,rfl,rfl⟩,trivial⟩,rfl,.cell Y Y Y (λh=>by cases h) (.v rfl rfl rfl (λh=>by cases h) .nil)⟩
theorem zq (m:Mod):(domsM (boundM m)).length<=10:=by simp[domsM,boundM];omega
theorem BH {d:List (Int×Int)}{x:Int×Int}{l:List (Int×Int)}(h:d=x::l)(hx:x.1<=x.2):(vals d).headD 0=x.1:=by
 subst h;unfold vals;rw[F2];rw[gJ hx];rfl
section
variable {b:Mod}{a:List Int}
theorem Ag (h:Fit b):(oneK b a).length=b.vars.length:=by
 unfold oneK;split
 ·rename_i hs;rw[(dH.1 hs).1];simp[domsM]
 ·simp
theorem Bo (h:Fit b): ∀j,j<b.vars.length->(oneK b a).getD j 0∈vals (dmM b j):=λj hj=>by
 unfold oneK;split
 ·rename_i hs;have:=(dH.1 hs).2.1 j (by simp[domsM];omega);rwa[fK]at this
 ·have hm:b.vars[j].2∈domsM b:=DF.2 ⟨_,D8 hj,rfl⟩;have h1:=h.r.good.one _ hm;have e:dmM b j=b.vars[j].2:=(by unfold dmM;rw[D0,D1 hj];rfl);rw[e,D0,DE,D1 hj];simp only[EG,Ed];cases hv:vals b.vars[j].2 with
  |nil=>rw[hv]at h1;simp at h1
  |cons y t=>simp
theorem tS (h:solvesR b a=true):oneK b a=a:=D4 h
theorem Bn (h:solvesR b a=false):oneK b a=b.vars.map λx=>(vals x.2).headD 0:=D2 (by rw[h];simp)
end
set_option maxHeartbeats 1000000 in
theorem yX (m:Mod)(a:List Int)(hm:ModI m)(ha:a.length*8<=140737488355328):Spec Tryz.prog 8 true [.agg (cM m),ao a] [.val (.bool true)]:=by
 refine Spec.body Tryz.func8 Y Y Y λw0 Z0=> ?_;have hrs:=r3 m 300 hm (by omega);have hb:=vc m;have hfit:=λh=>Cs (most:=300) hb h (by omega);have hbl:=zq m;have hk:m.goal.kind=(boundM m).goal.kind:=rfl;rw[hk]at hrs;generalize okM (boundM m) 300=ok at*;generalize boundM m=b at*;refine .B ?_;refine J.cx [] [] [1000] hrs trivial (λns hns=> ?_);obtain⟨u,rfl⟩:=yW hns Y;refine .B ?_;refine .X ?_;cases ok with
 |false=>
  refine T.ct Y ?_;refine .B ?_;refine .D iy ?_;exact⟨_,.v Y Y Y (λh=>by cases h) .nil⟩
 |true=>
  obtain⟨hF,hp⟩:=hfit Y;have hdl:(domsM b).length=b.vars.length:=(by simp[domsM]);have hv:=Bo (a:=a) hF;have hvl:=Ag (a:=a) hF;have hsrch:=Ae hF hv hvl;have hsolA: ∀i,i<=b.vars.length->Spec Tryz.prog 23 false [.agg (cM (dn b (oneK b a) i)),ao a] [.val (.bool (solvesR b a))]:=λi hi=>by
   have hO:=hF.one hv hi;have:=mU (dn b (oneK b a) i) a hO.mb hO.r.good.few hO.r.right ha;rwa[wj hF hv (λh=>tS h) hi]at this
  have hO:=hF.one hv (DL _);have s1:=(BJ hO 1 (by omega)).frz;have sv:=mU (dn b (oneK b a) b.vars.length) (oneK b a) hO.mb hO.r.good.few hO.r.right (by omega);have hvl0:=hF.mb.vl;have hbs: ∀i (h:i<b.vars.length),∃(lo hi:Int) (l:List (Int×Int)),b.vars[i].2=(lo,hi)::l/\(solvesR b a=false->(oneK b a).getD i 0=lo):=λi h=>by
   have hm:b.vars[i].2∈domsM b:=DF.2 ⟨_,D8 h,rfl⟩;cases e:b.vars[i].2 with
   |nil=>rw[e]at hm;exact DU hm hF.r.good.some'
   |cons x l=>
    refine⟨x.1,x.2,l,rfl,λhs=> ?_⟩;have hx:x.1<=x.2:=(hF.r.good.few.fine _ hm).ok.1 x (by rw[e];exact .head _);have:(oneK b a).getD i 0=(vals b.vars[i].2).headD 0:=(by rw[Bn hs,D0,DE,D1 h];rfl);rw[this];exact BH e hx
  have hyes:=λh=>tS (b:=b) (a:=a) h;have hset: ∀i (h:i<b.vars.length),eN b.vars (oneK b a) (i+1)=(eN b.vars (oneK b a) i).set i (b.vars[i].1,[((oneK b a).getD i 0,(oneK b a).getD i 0)]):=λi h=>by
   rw[eN,nI,D0 (l:=b.vars),D1 h];rfl
  have hrow: ∀i (h:i<b.vars.length),((eN b.vars (oneK b a) i).map cV)[((i:Nat):Int).toNat]? =some (cV b.vars[i]):=λi h=>by
   have h1:=nI b.vars (oneK b a) i i;have h2:=jv b.vars (oneK b a) i h i;have hl:=fP b.vars (oneK b a) i;rw[D2 (by omega)]at h2;rw[D0,D0,D1 (by omega),D1 h]at h1 h2;rw[DW,DE,D1 (by omega)];exact congrArg (λv=>some (cV v)) (Prod.ext h1 h2)
  have hend: ∀(v:List Int),v=oneK b a->v.take b.vars.length=v:=λv e=>DS (by rw[e];omega);have hlens: ∀i,(eN b.vars (oneK b a) i).length=b.vars.length:=fP b.vars (oneK b a);have hals:solvesR b a=true->a.length=b.vars.length:=λh=>(dH.1 h).1.trans hdl;have hO0:eN b.vars (oneK b a) 0=b.vars:=rfl;have hcm: ∀i,cM (dn b (oneK b a) i)=[.sl ((eN b.vars (oneK b a) i).map cV),bF b.cons,.int .i64 b.goal.kind,ao b.goal.vars,ao b.goal.coefs]:=λi=>rfl;simp only[hcm]at hsolA s1 sv;obtain⟨f1,f2,f3⟩:=hsrch;rw[f1,f2,f3]at s1;generalize solvesR (dn b (oneK b a) b.vars.length) (oneK b a)=is at*;generalize solvesR b a=sa at*;obtain⟨W,hW⟩: ∃W,W=eN b.vars (oneK b a):=⟨_,rfl⟩;rw[<-hW]at hset hrow hlens hO0 hsolA s1 sv;clear hO hv hend f1 f2 f3 hcm hW;have htk: ∀i,i<b.vars.length->(oneK b a).take (i+1)=(oneK b a).take i++[(oneK b a).getD i 0]:=λi h=>by
   rw[DB (by omega),D0,D1 (by omega)];rfl
  generalize oneK b a=v at*;refine T.cf Y ?_;refine .B ?_;refine .Q ?_;have e0:b.vars.map cV=(W 0).map cV:=(by rw[hO0]);rw[e0];refine T.K (T.ind (λi:Nat=>⟨[(1,.val false (ao a)),(2,.optr 0 0 0 0),(6,.ref 1),(7,.val true (.int .i64 i)),(1000,.eq u 2)],[(0,some (.box false [.raw u,bF b.cons,.int .i64 b.goal.kind,ao b.goal.vars,ao b.goal.coefs])),(1,some (.sl 3 1 true ((v.take i).map cI))),(2,some (.sl 56 2 false ((W i).map cV)))],3⟩) (λi=>i<=b.vars.length) (λi=>b.vars.length-i) 0 (Dz _) (λ_ _ h=>h) ?_);rintro i hi ih;refine .B ?_;refine J.sub (Rel.deraw (s:=25) (g:=1000) Y Y) ?_;refine .B ?_;refine T.cd Y (λh1=> ?_) (λh1=> ?_)
  ·have hil:i<b.vars.length:=(by have h:=h1;rw[D9,hlens]at h;omega);clear h1;obtain⟨lo,hi2,rl,hd,hlo⟩:=hbs i hil;have hr:=hrow i hil;have ih1:=ih (i+1) hil (by omega);rw[hset i hil,htk i hil]at ih1;have hy:sa=true->i<a.length/\a[i]? =some (v.getD i 0):=λh=>by
    have h2:=hals h;rw[hyes h];exact⟨by omega,by rw[D0,D1 (by omega)];rfl⟩
   have hsol:=hsolA i (by omega);generalize v.getD i 0=k at*;have hWl:=hlens i;generalize W i=Wi at*;generalize b.vars[i]=v0 at*;obtain⟨nm,dd⟩:=v0;simp only at hd;subst hd;refine .B ?_;refine J.sub (Rel.deraw (s:=31) (g:=1000) Y Y) ?_;refine .B ?_;refine J.io Y Y Y Y Y Y Y Y Y (by omega) (by rw[D9];omega) Y ?_;refine .B ?_;refine J.lo Y Y Y Y Y Y (r:=cV (nm,(lo,hi2)::rl)) hr Y ?_;refine .B ?_;refine J.i Y Y Y Y Y Y Y Y Y (r:=cR (lo,hi2)) (by decide) Y Y ?_
   iterate 3 refine J.H Y ?_
   refine J.nil ?_;refine T.mid ⟨[(1,.val false (ao a)),(2,.optr 0 0 0 0),(6,.ref 1),(7,.val true (.int .i64 i)),(8,.val true (.int .i64 k)),(1000,.eq u 2)],[(0,some (.box false [.raw u,bF b.cons,.int .i64 b.goal.kind,ao b.goal.vars,ao b.goal.coefs])),(1,some (.sl 3 1 true ((v.take i).map cI))),(2,some (.sl 56 2 false (Wi.map cV)))],3⟩ ?_ ?_
   ·refine T.seq ?_;by_cases h5:i<a.length
    ·have h5':((i:Nat):Int)<((a.map cI).length:Int):=(by simp;omega);refine T.lend [(7,.int .i64 i),(8,.int .i64 lo)] [(1,ao a),(2,.ptr [.sl (Wi.map cV),bF b.cons,.int .i64 b.goal.kind,ao b.goal.vars,ao b.goal.coefs]),(6,ao (v.take i))] [] [(47,.bool sa),(7,.int .i64 i),(8,.int .i64 lo)] [1000] ⟨⟨⟨_,rfl⟩,rfl⟩,⟨⟨_,rfl⟩,rfl⟩,trivial⟩ ⟨⟨_,rfl,.val⟩,⟨_,rfl,.box Y (.step (i:=0) (g:=1000) Y Y Y .refl)⟩,⟨_,rfl,.ref Y⟩,trivial⟩ ⟨⟨_,_,rfl⟩,trivial⟩ (λw1 vs=> ?_) ?_
     ·refine .B ?_;refine J.g Y Y Y (λ_=> ?_) (λh=>DU h5' h);refine .B ?_;refine .D hsol ?_;exact⟨rfl,⟨rfl,rfl,rfl,trivial⟩,⟨_,rfl,rfl⟩,⟨_,rfl,rfl⟩,⟨_,rfl,rfl⟩,trivial⟩
     ·show T _ _ _ _;cases sa with
      |true=>
       have hra:(a.map cI)[((i:Nat):Int).toNat]? =some (cI k):=(by rw[DW,DE,(hy Y).2];rfl);refine T.ct Y ?_;refine .B ?_;refine .F (r:=cI k) hra ?_;exact⟨rfl,[1,2,6,7,8,1000],[2,6,1000],rfl,rfl⟩
      |false=>
       obtain rfl:=hlo Y;refine T.cf Y ?_;refine .B ?_;exact⟨rfl,[1,2,6,7,8,1000],[2,6,1000],rfl,rfl⟩
    ·have h5': ¬((i:Nat):Int)<((a.map cI).length:Int):=(by simp;omega);have hsa:sa=false:=by
      cases sa with
      |false=>rfl
      |true=>exact DU (hy Y).1 h5
     obtain rfl:=hlo hsa;refine T.lend [(7,.int .i64 i),(8,.int .i64 k)] [(1,ao a),(2,.ptr [.sl (Wi.map cV),bF b.cons,.int .i64 b.goal.kind,ao b.goal.vars,ao b.goal.coefs]),(6,ao (v.take i))] [] [(47,.bool false),(7,.int .i64 i),(8,.int .i64 k)] [1000] ⟨⟨⟨_,rfl⟩,rfl⟩,⟨⟨_,rfl⟩,rfl⟩,trivial⟩ ⟨⟨_,rfl,.val⟩,⟨_,rfl,.box Y (.step (i:=0) (g:=1000) Y Y Y .refl)⟩,⟨_,rfl,.ref Y⟩,trivial⟩ ⟨⟨_,_,rfl⟩,trivial⟩ (λw1 vs=> ?_) ?_
     ·refine .B ?_;refine J.g Y Y Y (λh=>DU h h5') (λ_=> ?_);refine .B ?_;exact⟨rfl,⟨rfl,rfl,rfl,trivial⟩,⟨_,rfl,rfl⟩,⟨_,rfl,rfl⟩,⟨_,rfl,rfl⟩,trivial⟩
     ·show T _ _ _ _;refine T.cf Y ?_;refine .B ?_;exact⟨rfl,[1,2,6,7,8,1000],[2,6,1000],rfl,rfl⟩
   ·refine .B ?_;refine .Z ?_;refine J.sub (Rel.deraw (s:=53) (g:=1000) Y Y) ?_;refine J.io Y Y Y Y Y Y Y Y Y (by omega) (by rw[D9];omega) Y ?_;refine .B ?_;refine J.W ?_ (hc:=Be hr (by show _+1<=2;decide));refine .B ?_;refine .V ?_;refine J.aI Y Y Y Y Y Y Y Y Y Y Y Y Y Y Y Y Y Y Y (by simp;omega) ?_;refine .B ?_;rw[ak (l:=b.vars.length) hil (by omega)];rw[Fz]at ih1;exact T.K ih1
  ·have e:i=b.vars.length:=(by have h:=h1;rw[D9,hlens]at h;omega);subst e;rw[DS (by omega)];have l1:=jb [v] [v] (by simp) (λx hx=>by rw[DG.1 hx];omega);rw[DD Y]at l1;have hM: ∀x:Nat,¬False:=λ_ h=>h;generalize W b.vars.length=Wn at*;refine T.sub (Rel.cellF 1000 0 (q:=0) (n:=2) (λ_ h=>h) Y Y Y Y Y) ?_;refine T.sub (Rel.frz (s:=6) (λ_ h=>h) Y Y) ?_;cases is with
   |true=>
    have s1:Spec Tryz.prog 13 false [.agg [.sl (Wn.map cV),bF b.cons,.int .i64 b.goal.kind,ao b.goal.vars,ao b.goal.coefs],.int .i64 1] [.val (bT [v]),.val (.bool true),.val (.int .i64 1),.val (.int .i64 0)]:=by
     rw[D4 Y]at s1;exact s1
    refine .B ?_;refine .D s1 ?_;refine .D sv ?_;refine T.cf2 Y (by simp) ?_;refine .B ?_;refine .Z ?_;refine .D l1 ?_;refine .D iy ?_;exact⟨_,.v Y Y Y (λh=>by cases h) .nil⟩
   |false=>
    have s1:Spec Tryz.prog 13 false [.agg [.sl (Wn.map cV),bF b.cons,.int .i64 b.goal.kind,ao b.goal.vars,ao b.goal.coefs],.int .i64 1] [.val (bT []),.val (.bool true),.val (.int .i64 1),.val (.int .i64 0)]:=by
     rw[D2 (by simp)]at s1;exact s1
    refine .B ?_;refine .D s1 ?_;refine .D sv ?_;refine T.cf2 Y (by simp) ?_;refine .B ?_;refine .D iy ?_;exact⟨_,.v Y Y Y (λh=>by cases h) .nil⟩
set_option maxRecDepth 100000
section
variable {H:Type}{henc:TypeId×Value->H}{w:World}
theorem gr:dF henc Tryz.prog w 3 cI (λn=> -9223372036854775808<=n/\n<=9223372036854775807):=yF (by kernel_rfl)
theorem gP:dF henc Tryz.prog w 24 (λl=>[ao l]) (λl=>l.length*8<=reachBytes):=
 (eY (t:=24) (e:=3) (by kernel_rfl) gr (λ_=>by kernel_rfl) (by decide +kernel) (λa p hp=>by simp[cI]at hp;subst hp;rfl)).map id (λ_=>rfl) λl h=>h.1
theorem Ab:dF henc Tryz.prog w 34 (λl=>[bT l]) (λl=>l.length*24<=reachBytes/\∀x∈l,x.length*8<=reachBytes):=
 (eY (t:=34) (e:=24) (by kernel_rfl) gP (λ_=>by kernel_rfl) (by decide +kernel) (λa p hp=>by simp at hp;subst hp;rfl)).map id (λ_=>rfl) λl h=>h
theorem yG:dF henc Tryz.prog w 51 cC ConB:=by
 have h:=dZ (henc:=henc) (w:=w) Tryz.underlying51 (aP gr Y (aP gP (by kernel_rfl) (aP gP (by kernel_rfl) (aP gr (by kernel_rfl) (aP gr (by kernel_rfl) (aP Ab (by kernel_rfl) (aP gr (by kernel_rfl) (fO _)))))))) (by kernel_rfl);refine h.map (λx=>(⟨x.1,x.2.1,x.2.2.1,x.2.2.2.1,x.2.2.2.2.1,x.2.2.2.2.2.1,x.2.2.2.2.2.2.1⟩:Con)) (λ_=>rfl) λx h=> ?_;obtain⟨_,h1,h2,_,_,h3,_⟩:=h;have e:reachBytes=140737488351232:=rfl;rw[e]at h1 h2 h3;exact⟨by simp only;omega,by simp only;omega,by simp only;omega,λy hy=>by have:=h3.2 y hy;omega⟩
end
end Go.Proofs.YtopcjbahjjhdmaaGreat
namespace Go.Proofs.YtopcjbahjjhdmaaGreat
open Go Go.RowKit
set_option linter.unusedVariables false
set_option maxRecDepth 100000
section
variable {H:Type}{henc:TypeId×Value->H}{w:World}
theorem Bj:dF henc Tryz.prog w 9 (λs:ByteArray=>[.str s]) (λ_=>True):=by
 intro fuel cs x h _ _;obtain⟨s,rfl,_,_⟩:=DataW.trod_string (show Tryz.prog.underlying 9=some .string by kernel_rfl) h;exact⟨s,.cons (.str _) .nil,trivial⟩
theorem tQ:dF henc Tryz.prog w 53 cR (λ_=>True):=by
 have h:=dZ (henc:=henc) (w:=w) Tryz.underlying53 (aP gr Y (aP gr (by kernel_rfl) (fO _))) (by kernel_rfl);exact h.map (λx=>(x.1,x.2.1)) (λ_=>rfl) λ_ _=>trivial
theorem Bk:dF henc Tryz.prog w 54 (λl=>[dm l]) (λl=>l.length*16<=reachBytes):=
 (eY (t:=54) (e:=53) (by kernel_rfl) tQ (λ_=>by kernel_rfl) (by decide +kernel) (λa p hp=>by simp[cR]at hp;rcases hp with rfl|rfl<;>rfl)).map id (λ_=>rfl) λl h=>h.1
theorem yD:dF henc Tryz.prog w 56 cV (λv=>v.2.length*16<=reachBytes):=by
 have h:=dZ (henc:=henc) (w:=w) Tryz.underlying56 (aP Bj Y (aP Bk (by kernel_rfl) (fO _))) (by kernel_rfl);exact h.map (λx=>(x.1,x.2.1)) (λ_=>rfl) λx h=>h.2.1
theorem wc:dF henc Tryz.prog w 22 (λl:List (ByteArray×List (Int×Int))=>[.sl (l.map cV)]) (λl=>l.length*40<=reachBytes/\∀v∈l,v.2.length*16<=reachBytes):=
 (eY (t:=22) (e:=56) (by kernel_rfl) yD (λ_=>by kernel_rfl) (by decide +kernel) (λa p hp=>by simp[cV]at hp;rcases hp with rfl|rfl<;>rfl)).map id (λ_=>rfl) λl h=>h
theorem wh:dF henc Tryz.prog w 51 cC (λc=>c.vars.length*8<=140737488355328/\c.coefs.length*8<=140737488355328/\c.rows.length*8<=140737488355328/\∀r∈c.rows,r.length*8<=140737488355328):=
 yG.map id (λ_=>rfl) λc h=>by obtain⟨h1,h2,h3,h4⟩:=h;exact⟨by simp only[id];omega,h2,by simp only[id];omega,h4⟩
theorem wg:dF henc Tryz.prog w 23 (λl=>[bF l]) (λl=>l.length*104<=reachBytes/\∀c∈l,c.vars.length*8<=140737488355328/\c.coefs.length*8<=140737488355328/\c.rows.length*8<=140737488355328/\∀r∈c.rows,r.length*8<=140737488355328):=
 (eY (t:=23) (e:=51) (by kernel_rfl) wh (λ_=>by kernel_rfl) (by decide +kernel) (λa p hp=>by simp[cC]at hp;rcases hp with rfl|rfl|rfl|rfl|rfl|rfl|rfl<;>rfl)).map id (λ_=>rfl) λl h=>h
theorem we:dF henc Tryz.prog w 26 cG (λg=>g.vars.length*8<=reachBytes/\g.coefs.length*8<=reachBytes):=by
 have h:=dZ (henc:=henc) (w:=w) Tryz.underlying26 (aP gr Y (aP gP (by kernel_rfl) (aP gP (by kernel_rfl) (fO _)))) (by kernel_rfl);exact h.map (λx=>(⟨x.1,x.2.1,x.2.2.1⟩:Goal)) (λ_=>rfl) λx h=>⟨h.2.1,h.2.2.1⟩
theorem yE:dF henc Tryz.prog w 28 cM ModI:=by
 have h:=dZ (henc:=henc) (w:=w) Tryz.underlying28 (aP wc Y (aP wg (by kernel_rfl) (aP we (by kernel_rfl) (fO _)))) (by kernel_rfl);refine h.map (λx=>(⟨x.1,x.2.1,x.2.2.1⟩:Mod)) (λ_=>by simp[cM,cG]) λx h=> ?_;obtain⟨⟨h1,h2⟩,⟨h3,h4⟩,⟨h5,h6⟩,_⟩:=h;have e:reachBytes=140737488351232:=rfl;rw[e]at h1 h3 h5 h6;exact⟨λv hv=>by have:=h2 v hv;rw[e]at this;omega,by simp only;omega,by simp only;omega,h4,by simp only;omega⟩
theorem Bt (m:Mod): ∀p∈cM m,p.one=true:=by
 intro p hp;simp[cM,bF]at hp;rcases hp with rfl|rfl|rfl|rfl|rfl<;>rfl
end
end Go.Proofs.YtopcjbahjjhdmaaGreat
namespace Go.Proofs.YtopcjbahjjhdmaaGreat.searchOnes
open Go.ChangeShapes Go.WideShapes Go.ChangeAt Go.RowKit
theorem own:ownKnob Tryz.prog.godebug=none:=by kernel_rfl
theorem laidOut:laidOutB Tryz.prog=true:=by kernel_rfl
set_option maxRecDepth 100000 in
theorem lifted (os:Os)(started:os.Started)(H:Type)(enc:TypeId×Value->H):
  ReturnsInHanded {} Tryz.checked os 8 .any (Rows.searchOnesSpec.pre6 enc Tryz.prog Tryz.f8 Rows.searchOnesRow.domain false) (Rows.searchOnesSpec.post enc Tryz.prog Tryz.f8 false true false false):=by
 refine returnsInHanded_of_change_sized (C:=Tryz.checked) own started (by kernel_rfl) Tryz.func8
  (ChangeSpec.witness6 (enc:=enc) (C:=Tryz.checked) false ⟨#[],#[.agg #[.slice none 0 0,.slice none 0 0,.int .i64 0,.slice none 0 0,.slice none 0 0],.slice none 0 0],[]⟩ 8 (by kernel_rfl) (by kernel_rfl) (by kernel_rfl) (by kernel_rfl)) ?_
 intro W base args ds gs before hval0 hW hcnd hsz0 _;have hsz:(DataW.weightsEach Tryz.prog (Tryz.f8.params.toList++Rows.searchOnesSpec.plain.varTypes Tryz.prog) (ds++gs)).all (· <=reachBytes)=true:=hsz0;have hval: ∀(j:Nat) t v,Tryz.f8.params[j]? =some t->args[j]? =some v->Value.okWide Tryz.prog W .any base t v:=hval0;have hW':=hW;obtain⟨p,q,hA0,hV,rfl,hfz,hnd⟩:=hW;have hA:DataW.TrodAll enc Tryz.prog W 0 (λ_=>true) true Tryz.f8.params.toList args.toList ds p:=hA0;rw[Tryz.params8]at hA hval hsz;obtain⟨v0,vs0,d0,ds0,p0,q0,hargs,rfl,rfl,h0,r0⟩:=trodAll_cons hA;obtain⟨v1,vs1,d1,ds1,p1,q1,rfl,rfl,rfl,h1,r1⟩:=trodAll_cons r0;obtain⟨rfl,rfl,rfl⟩:=trodAll_nil r1;obtain rfl:args= #[v0,v1]:=(by cases args;simp_all);obtain⟨rfl,rfl⟩:=trodVars_none hV;have hv0:=hval 0 28 v0 Y Y;obtain⟨cs0,rfl,_,_⟩: ∃cs,v0= .agg cs/\cs.size=Tryz.prog.cellsOf 28/\Row.okWide Tryz.prog W .any base 28 cs:=by
  unfold Value.okWide at hv0;rw[Tryz.underlying28]at hv0;exact hv0
 have k0:=h0;have lt0: ∀x∈p0,x.block<W.heap.size:=(by obtain⟨m,hm⟩:=k0;exact DataW.trod_lt m _ _ _ hm);obtain⟨fuel0,hf0⟩:=h0;obtain⟨sa1,sn1,sc1,rfl,_⟩:=okWide_slice Tryz.underlying24 (hval 1 24 v1 Y Y);have k1:=h1;have lt1: ∀x∈p1,x.block<W.heap.size:=(by obtain⟨m,hm⟩:=k1;exact DataW.trod_lt m _ _ _ hm);obtain⟨fuel1,hf1⟩:=h1;have hw:(DataW.weightsEach Tryz.prog (28::24::Rows.searchOnesSpec.plain.varTypes Tryz.prog) (d0::d1::[])).all (· <=reachBytes)=true:=hsz;rw[DataW.weightsEach,Er,DJ]at hw;obtain⟨hw0,hw⟩:=hw;rw[DataW.weightsEach,Er,DJ]at hw;obtain⟨hw1,hw⟩:=hw;obtain⟨m,hrep0,hm⟩:=yE fuel0 _ (d0,p0) hf0 hw0 (nf hfz λp hp=>by simp[hp]);obtain⟨a,hrep1,ha⟩:=gP fuel1 _ (d1,p1) hf1 hw1 (nf hfz λp hp=>by simp[hp]);have ha:a.length*8<=140737488355328:=(by have e:reachBytes=140737488351232:=rfl;have:a.length*8<=reachBytes:=ha;omega);clear hA0 hval0 hsz0 hsz hw;have hcs0:(Value.agg cs0).cells.toList=cs0.toList:=rfl;rw[hcs0]at hrep0;have harg0:Rep W (λ_=>True) (.agg cs0) (.agg (cM m)):=by
  have:=Rep.agg (w:=W) (Z:=λ_=>True) cs0.toList (cM m) hrep0 (Bt m);simpa using this
 have harg1:Rep W (λ_=>True) (.slice sa1 sn1 sc1) (ao a):=by
  have h:L2 (Rep W λ_=>True) [.slice sa1 sn1 sc1] [ao a]:=hrep1;cases h with
  |cons h1 _=>exact h1
 refine((yX m a hm ha).out W (λ_=>True) [.agg cs0,.slice sa1 sn1 sc1] (.cons harg0 (.cons harg1 .nil))).mono λe W' ⟨rs,he,bel,hret⟩=> ?_;have hrs:rs=[.bool true]:=by
  have h:=hret.each;cases h with
  |cons h1 h2=>cases h2;cases h1;rfl
 subst hrs;subst he;exact⟨_,rfl,_,_,_,[],_,[],hW',trodAll_mk1 (shut_bool Tryz.underlying4 _),trodAll_cons_mk (Below.trod laidOut (by kernel_rfl) (EL (by kernel_rfl)) k0 bel lt0) (trodAll_cons_mk (Below.trod laidOut (by kernel_rfl) (EL (by kernel_rfl)) k1 bel lt1) trodAll_mk0),rfl,bel.frame _,λh=>by cases h⟩
theorem over:Rows.searchOnesRow.holds Tryz.pinned (OpenSpec.ofChange Rows.searchOnesSpec):=
 OpenClaim.holds_of_wide 8 Tryz.f8 Y Y Y Y Y Y Y ⟨rfl,rfl,rfl,rfl,rfl⟩ Y Y Y Y Y (by kernel_rfl) Tryz.func8 (by kernel_rfl)
  (EL (by kernel_rfl)) (by unfold Func.isWrapper;first|(rw[D4 (by decide +kernel)];kernel_rfl)|(rw[D2 (by decide +kernel)];exact⟨rfl,rfl⟩))
  (λos started H enc _=>lifted os started H enc)
theorem proved:Rows.SearchOnesSaid:=over
#print axioms proved
end Go.Proofs.YtopcjbahjjhdmaaGreat.searchOnes
namespace Go.Proofs.YtopcjbahjjhdmaaGreat
theorem searchOnes_holds:Rows.SearchOnesSaid:=searchOnes.proved
end Go.Proofs.YtopcjbahjjhdmaaGreat
