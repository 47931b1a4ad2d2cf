/- The statement SearchAlls: the law, and its row; ahead of it what it needs (FwP, PwF, PwG, FwX, PwH, FwY, FxA, PwI, PwJ, PwK, PwL, FxB, FwZ, FxC, FxD, LwGAlls, RowA, RowM, RowMX, RowGAlls). -/
import Derived.Test.YtopcjbahjjhdmaaGreatB10
import Derived.Test.YtopcjbahjjhdmaaGreatRows
import Derived.WalkKit
import Derived.ProofKit
import Derived.OpenShut
import Derived.ShutString
import Derived.ChangeOld
import Derived.Below
import Derived.SizedLaws
namespace Go.Proofs.YtopcjbahjjhdmaaGreat
open Go Go.RowKit
set_option linter.unusedVariables false
set_option linter.unusedSimpArgs false
set_option maxRecDepth 8000
noncomputable def srchB (m:Mod)(left:Int):Srch (Option (List Int)):=lookG left (kC m.cons m.goal) (BP m.goal) (weight (domsM m)+1) (domsM m) ⟨0,false,false,none⟩
set_option maxHeartbeats 1000000 in
theorem xc (m:Mod)(hm:ModB m)(hr:RunOk (domsM m) m.cons)(hw:weight (domsM m)<=1000000)(hg:GoalIn (domsM m) m.goal)(left:Int)(hleft:left<=1099511627776)(hck:Spec Tryz.prog 64 false [.agg (cM m)] [.val (.int .i64 0)]):
  Spec Tryz.prog 18 false [.agg (cM m),.int .i64 left] [.val (aq ((srchB m left).st.getD [])),.val (.bool (srchB m left).st.isSome),.val (.bool (!(srchB m left).short)),.val (.int .i64 (srchB m left).nodes),.val (.int .i64 0)]:=by
 refine Spec.body Tryz.func18 Y Y Y λw0 Z0=> ?_;have hdl:(domsM m).length<=1024:=(by have:=hm.vl;simpa[domsM]using this);have hcl:=hm.cl;refine .B ?_;refine J.cx [] [] [1000,1001,1002,1006,1007] (nN m hm hr.gd.few left hck) trivial (λns hns=> ?_);obtain⟨p,sp,lv,cv,mv,rfl⟩:=DU hns Y;refine .M ?_;refine .L ?_;refine .W ?_;refine .M ?_;refine T.cf Y ?_;refine T.canon (keep:=[2,9,1000,1001,1002,1006,1007]) (os:=[1000,1001,1002,1006,1007,9,2]) Y ?_;refine T.knownp 1000 0 Y Y λkb e1=> ?_;refine T.knownp 1001 1 Y Y λsb e2=> ?_;obtain rfl:p=pV kb:=e1;obtain rfl:sp=pV sb:=e2;refine .M ?_;refine .L ?_;refine .M ?_;refine .L ?_;refine .W ?_;refine .M ?_;refine J.name 1003 (s:=11) Y Y Y λbp=> ?_;refine J.name 1004 (s:=12) Y Y Y λop=> ?_;refine J.name 1005 (s:=9) Y Y Y λkp=> ?_;refine J.sub (Rel.raw (s:=11) (g:=1003) Y (.inr Y) Y Y Y) ?_;refine J.sub (Rel.raw (s:=12) (g:=1004) Y (.inr Y) Y Y Y) ?_;refine J.sub (Rel.raw (s:=9) (g:=1005) Y (.inr Y) Y Y Y) ?_;refine J.sub (Rel.unbx (s:=2) (λb h=>h) Y Y) ?_;refine J.sub (Rel.fp (s:=2) Y) ?_;refine J.sub (Rel.derawp (s:=22) (g:=1000) Y Y Y) ?_;refine .M ?_;refine .W ?_;refine .M ?_;refine J.sub (Rel.derawp (s:=9) (g:=1005) Y Y Y) ?_;refine .M ?_;refine J.sub (Rel.ownN 1008 3 1) ?_;refine J.sub (Rel.ownN 1009 3 1) ?_;refine J.sub (Rel.canon (keep:=[9,11,12,26,1000,1001,1002,1003,1004,1005,1006,1007,1008,1009]) (os:=[1000,1001,1002,1003,1004,1005,1006,1007,1008,1009]) Y) (?_:J _ _ _ _ (nE (oo m kb bp op kp) kb sb m left [(9,.optr 5 0 0 0),(11,.val true (.raw bp)),(12,.val true (.raw op)),(26,.val true (.raw (pV kb)))] lv cv mv (.slice none 0 0) (.slice none 0 0) (domsM m) [] [] ⟨0,false,false,none⟩) _);have hlk: ∃e ch',wQ (oo m kb bp op kp) kb sb m left 37 [(true,.raw (pV kb))] lv cv mv (.slice none 0 0) (.slice none 0 0) (domsM m) e [] ch' [] ⟨0,false,false,none⟩ (srchB m left):=⟨_,_,rZ (oo m kb bp op kp) kb sb m left (domsM m) IB (vP hr (by omega) hg) (B1 kb sb m left (domsM m) hr.gd hdl (by omega) (λhk=>hg.ok hk) bp op kp IB) (λt a=>Er _) hleft hdl (weight (domsM m)+1) (domsM m) ⟨0,false,false,none⟩ lv cv mv (.slice none 0 0) (.slice none 0 0) [] [] (Fd _) hr.gd leD.rfl' (λa e=>by cases e) (Er _) rfl (by simp;omega) (by simp;omega)⟩;obtain⟨e,ch',hlk⟩:=hlk;generalize srchB m left=r at*;refine J.cx [0,1,2,3,4,5,6,7,8,9] [1000,1001,1002,1003,1004,1005,1006,1007,1008,1009] [1006,1007,1008,1009] hlk ⟨rfl,⟨_,rfl,rfl,rfl⟩,rfl,⟨_,rfl,rfl,rfl⟩,rfl,⟨_,rfl,rfl,rfl⟩,rfl,⟨_,rfl,rfl,rfl⟩,rfl,⟨_,rfl,rfl,rfl⟩,rfl,⟨_,rfl,rfl,rfl⟩,rfl,⟨_,rfl,rfl,rfl⟩,rfl,⟨_,rfl,rfl,rfl⟩,rfl,⟨_,rfl,rfl,rfl⟩,rfl,⟨_,rfl,rfl,rfl⟩,trivial⟩ (λns hns=> ?_);obtain⟨a1,a2,a3,a4,rfl⟩:=BD hns Y;refine .M ?_;refine T.K (?_:T _ _ (nE (oo m kb bp op kp) kb sb m left [(9,.optr 5 0 0 0),(11,.val true (.raw bp)),(12,.val true (.raw op))] lv a1 a2 a3 a4 e ch' [] r) _);refine T.sub (Rel.derawp (s:=11) (g:=1003) Y Y Y) ?_;refine T.sub (Rel.derawp (s:=12) (g:=1004) Y Y Y) ?_;refine .A ?_
 conv=>whnf
 iterate 2 refine J.H Y ?_
 refine J.lp 1000 (b:=kb) (q:=0) Y ?_
 iterate 4 refine J.H Y ?_
 refine J.lp 1000 (b:=kb) (q:=0) Y ?_
 iterate 8 refine J.H Y ?_
 refine J.nil ?_;refine .B ?_;exact⟨_,.v Y Y Y (λ_=>rfl) (.v Y Y Y (λ_=>rfl) (.v Y Y Y (λ_=>rfl) (.v Y Y Y (λ_=>rfl) (.v Y Y Y (λ_=>rfl) .nil))))⟩
def kS:Con:=⟨0,[0,1],[1,1],1,1,[],0⟩
def kT:Con:=⟨0,[0,1],[-2,-1],0,-2,[],0⟩
def eX:Mod:=⟨[(⟨#[120]⟩,[(0,1)]),(⟨#[121]⟩,[(0,1)])],[kS],⟨2,[0,1],[2,1]⟩⟩
theorem xS:ConB kS:=by simp[ConB,kS]
theorem DX:ConB kT:=by simp[ConB,kT]
theorem gp0:GoodD 2 (dmQ 0 1 0 1):=jN (by decide) (by decide) (by decide) (by decide) (by decide) (by decide)
theorem gp1:GoodD 2 (dmQ 0 0 0 1):=jN (by decide) (by decide) (by decide) (by decide) (by decide) (by decide)
theorem gp2:GoodD 2 (dmQ 0 0 1 1):=jN (by decide) (by decide) (by decide) (by decide) (by decide) (by decide)
theorem gp3:GoodD 2 (dmQ 1 1 0 1):=jN (by decide) (by decide) (by decide) (by decide) (by decide) (by decide)
theorem gp4:GoodD 2 (dmQ 1 1 0 0):=jN (by decide) (by decide) (by decide) (by decide) (by decide) (by decide)
theorem DK:aX kS (dmQ 0 1 0 1)=some (dmQ 0 1 0 1):=j7 (N:=5) gp0 xS Y (by decide +kernel) (by unfold LinAns;rw[E4 (by decide),E4 (by decide)];decide +kernel)
theorem DJ:aX kS (dmQ 0 0 0 1)=some (dmQ 0 0 1 1):=j7 (N:=5) gp1 xS Y (by decide +kernel) (by unfold LinAns;rw[E4 (by decide),E4 (by decide)];decide +kernel)
theorem DI:aX kS (dmQ 0 0 1 1)=some (dmQ 0 0 1 1):=j7 (N:=5) gp2 xS Y (by decide +kernel) (by unfold LinAns;rw[E4 (by decide),E4 (by decide)];decide +kernel)
theorem CY:aX kS (dmQ 1 1 0 1)=some (dmQ 1 1 0 0):=j7 (N:=5) gp3 xS Y (by decide +kernel) (by unfold LinAns;rw[E4 (by decide),E4 (by decide)];decide +kernel)
theorem CX:aX kS (dmQ 1 1 0 0)=some (dmQ 1 1 0 0):=j7 (N:=5) gp4 xS Y (by decide +kernel) (by unfold LinAns;rw[E4 (by decide),E4 (by decide)];decide +kernel)
theorem DH:aX kT (dmQ 1 1 0 0)=some (dmQ 1 1 0 0):=j7 (N:=5) gp4 DX Y (by decide +kernel) (by unfold LinAns;rw[E4 (by decide),E4 (by decide)];decide +kernel)
theorem AZ:RunOk (dmQ 0 1 0 1) [kS]:=by
 refine⟨gp0,λc hc=> ?_,λc hc=> .inl ?_,by decide +kernel,by decide⟩;·simp at hc;subst hc;exact⟨by decide,xS⟩
 ·simp at hc;subst hc;decide +kernel
theorem Ed:RunOk (dmQ 0 1 0 1) [kS,kT]:=by
 refine⟨gp0,λc hc=> ?_,λc hc=> .inl ?_,by decide +kernel,by decide⟩
 ·simp at hc;rcases hc with rfl|rfl;·exact⟨by decide,xS⟩
  ·exact⟨by decide,DX⟩
 ·simp at hc;rcases hc with rfl|rfl<;>decide +kernel
theorem leP {a b c d:Int}(h:0<=a/\b<=1/\0<=c/\d<=1):leD (dmQ a b c d) (dmQ 0 1 0 1):=by
 refine⟨rfl,λu x h0 hx=> ?_⟩;unfold domAt at hx⊢
 match hn:u.toNat with
 |0=>rw[hn]at hx;simp[dmQ,vals,cQ]at hx⊢;omega
 |1=>rw[hn]at hx;simp[dmQ,vals,cQ]at hx⊢;omega
 |n+2=>rw[hn]at hx;simp[dmQ,vals]at hx
theorem Ea:fL [kS] (dmQ 0 1 0 1)=some (dmQ 0 1 0 1):=by
 refine(eP (R:=some (dmQ 0 1 0 1)) ⟨?_,λc hc=> ?_⟩).symm;·exact Come.refl (aW 2) gp0
 simp at hc;subst hc;exact DK
theorem B7:fL [kS] (dmQ 0 0 0 1)=some (dmQ 0 0 1 1):=by
 have hs:=(AZ.less (e:=dmQ 0 0 0 1) gp1 (leP (by decide))).step (c:=kS) (by simp);refine(eP (R:=some (dmQ 0 0 1 1)) ⟨?_,λc hc=> ?_⟩).symm;·exact(Come.refl (aW 2) gp1).step (aW 2) (c:=kS) (by simp) hs.takes DJ
 simp at hc;subst hc;exact DI
theorem D9:fL [kS] (dmQ 1 1 0 1)=some (dmQ 1 1 0 0):=by
 have hs:=(AZ.less (e:=dmQ 1 1 0 1) gp3 (leP (by decide))).step (c:=kS) (by simp);refine(eP (R:=some (dmQ 1 1 0 0)) ⟨?_,λc hc=> ?_⟩).symm;·exact(Come.refl (aW 2) gp3).step (aW 2) (c:=kS) (by simp) hs.takes CY
 simp at hc;subst hc;exact CX
theorem D8:fL [kS,kT] (dmQ 1 1 0 1)=some (dmQ 1 1 0 0):=by
 have hs:=(Ed.less (e:=dmQ 1 1 0 1) gp3 (leP (by decide))).step (c:=kS) (by simp);refine(eP (R:=some (dmQ 1 1 0 0)) ⟨?_,λc hc=> ?_⟩).symm;·exact(Come.refl (aW 2) gp3).step (aW 2) (c:=kS) (by simp) hs.takes CY
 simp at hc;rcases hc with rfl|rfl;·exact CX
 ·exact DH
theorem vO {σ:Type}{left:Int}{con:σ->List Con}{fnd:σ->List Int->σ×Bool}{n:Nat}{d l:aa}{s:Srch σ}{a:List Int}(h1:(s.nodes:Int)<left)(h2:fL (con s.st) d=some l)(h3:bY l=some a):lookG left con fnd (n+1) d s= { s with nodes:=s.nodes+1,st:=(fnd s.st a).1,over:=(fnd s.st a).2 }:=by
 rw[lookG,E4 (by omega),h2];simp only[h3]
theorem xN {σ:Type}{left:Int}{con:σ->List Con}{fnd:σ->List Int->σ×Bool}{n:Nat}{s:Srch σ}(h1:(s.nodes:Int)<left)(h2:con s.st=[kS]):lookG left con fnd (n+1) (dmQ 0 1 0 1) s=[0,1].foldl (λs x=>if s.over then s else lookG left con fnd n (dmQ x x 0 1) s) { s with nodes:=s.nodes+1 }:=by
 rw[lookG,E4 (by omega),h2,Ea];have h3:bY (dmQ 0 1 0 1)=none:=(by decide +kernel);simp only[h3];have h4:openV (dmQ 0 1 0 1)=0:=(by decide +kernel);rw[h4];rfl
theorem Cd:srchA eX 9=⟨3,false,false,[[0,1],[1,0]]⟩:=by
 show lookG 9 (λ_=>[kS]) Am 5 (dmQ 0 1 0 1) ⟨0,false,false,[]⟩=_;rw[xN (by decide) Y,En,E4 (by decide),vO (n:=3) (by decide) B7 (a:=[0,1]) (by decide +kernel),En,E4 (by decide),vO (n:=3) (by decide) D9 (a:=[1,0]) (by decide +kernel)];rfl
theorem Ce:srchA eX 2=⟨2,true,true,[[0,1]]⟩:=by
 show lookG 2 (λ_=>[kS]) Am 5 (dmQ 0 1 0 1) ⟨0,false,false,[]⟩=_;rw[xN (by decide) Y,En,E4 (by decide),vO (n:=3) (by decide) B7 (a:=[0,1]) (by decide +kernel),En,E4 (by decide),lookG,E6 (by decide)];rfl
theorem Cc:srchB eX 9=⟨3,false,false,some [1,0]⟩:=by
 show lookG 9 (kC [kS] ⟨2,[0,1],[2,1]⟩) (BP ⟨2,[0,1],[2,1]⟩) 5 (dmQ 0 1 0 1) ⟨0,false,false,none⟩=_;rw[xN (by decide) Y,En,E4 (by decide),vO (n:=3) (by decide) B7 (a:=[0,1]) (by decide +kernel),En,E4 (by decide),vO (n:=3) (by decide) (show fL (kC [kS] ⟨2,[0,1],[2,1]⟩ (some [0,1])) (dmQ 1 1 0 1)=_ from D8) (a:=[1,0]) (by decide +kernel)];rfl
theorem Co:checkR eX=0:=by decide +kernel
theorem tq:ModB eX:=⟨by decide,λv hv=>by simp[eX]at hv;rcases hv with rfl|rfl<;>exact⟨by decide,by decide⟩,by decide,λc hc=>by simp[eX]at hc;subst hc;exact⟨by decide,by decide,by decide,by simp[kS]⟩,⟨by decide,by decide⟩⟩
def rQ:Mod:=⟨[],[],⟨9,[],[]⟩⟩
theorem Ct:checkR rQ=44:=by decide +kernel
theorem Dg:ModB rQ:=⟨by decide,λv hv=>(by cases hv),by decide,λc hc=>(by cases hc),⟨by decide,by decide⟩⟩
def jp (g:Goal):Goal:=⟨3-g.kind,g.vars,g.coefs.map (- ·)⟩
def yw (m:Mod):Mod:=⟨m.vars,m.cons,jp m.goal⟩
theorem za: ∀(l:List Int) (room:Int),e5 room (l.map (- ·))=e5 room l
 | [],room=>rfl
 |k::l,room=>by
  rw[Ek,e5,e5,za l];have e:max (-k) (- -k)=max k (-k):=(by omega);rw[e];by_cases h:4398046511104<k∨k< -4398046511104;·rw[E6 h,E6 (by omega)]
  ·rw[E4 h,E4 (by omega)]
theorem AM (d:aa)(g:Goal):conR d (eU (jp g))=conR d (eU g):=by
 have h1:sumR (eU (jp g))=sumR (eU g):=by
  unfold sumR eU jp;simp only[EB];congr 2;rw[decide_eq_decide,EH];constructor
  ·rintro⟨k,hk,h⟩;have e:k=0:=(by omega);rw[e]at hk;exact hk
  ·intro h;exact⟨0,h,by omega⟩
 have h2:eN (eU (jp g)).coefs (eU (jp g)).rhs=eN (eU g).coefs (eU g).rhs:=by
  unfold eN;show(if _ then true else e5 _ (g.coefs.map (- ·)))=_;rw[za];rfl
 have h3:rightR d (eU (jp g))=rightR d (eU g):=by
  unfold rightR;rw[E6 (show(eU (jp g)).kind=0 from Y),E6 (show(eU g).kind=0 from Y),h1];rfl
 unfold conR;rw[h2,h3];rfl
theorem zk {d:aa}{g:Goal}(hk:g.kind=1∨g.kind=2):eZ d (jp g)=eZ d g:=by
 unfold eZ;rw[E6 (show(jp g).kind=1∨(jp g).kind=2 by show 3-g.kind=1∨3-g.kind=2;omega),E6 hk,AM]
theorem wV {m:Mod}(hk:m.goal.kind=1∨m.goal.kind=2):checkR (yw m)=checkR m:=by
 unfold checkR;rw[show eZ (domsM (yw m)) (yw m).goal=eZ (domsM m) m.goal from zk hk];rfl
theorem k8:Spec Tryz.prog 34 false [] [.val (.agg (cM eX))]:=by
 refine Spec.body Tryz.func34 Y Y Y λw0 Z0=> ?_;refine .B ?_;refine .L ?_;refine .B ?_;refine .Z ?_;refine .V ?_;refine .V ?_;refine .Z ?_;refine .V ?_;refine .V ?_;refine .Z ?_;refine .X ?_;exact⟨_,.cell Y Y Y (λ_=>rfl) .nil⟩
theorem Db:ModK eX:=⟨tq,λc hc=> .inl (by simp[eX]at hc;subst hc;decide +kernel),.inl (by decide +kernel)⟩
theorem Df:ModK rQ:=⟨Dg,λc hc=>(by cases hc),.inl (by decide +kernel)⟩
theorem iY:Spec Tryz.prog 12 false [] [.val (.bool true)]:=by
 refine Spec.body Tryz.func12 Y Y Y λw0 Z0=> ?_;have hck:=j5 eX Db;rw[Co]at hck;have hgi:GoalIn (dmQ 0 1 0 1) eX.goal:=yZ gp0 (by decide) (by decide) (by decide +kernel);have a1:=(mP eX tq AZ (by decide +kernel) 9 (by decide) hck).frz;have a2:=(mP eX tq AZ (by decide +kernel) 2 (by decide) hck).frz;have a3:=xc eX tq AZ (by decide +kernel) hgi 9 (by decide) hck;rw[Cd]at a1;rw[Ce]at a2;rw[Cc]at a3;have hck2:=j5 rQ Df;rw[Ct]at hck2;have a4:=(yE rQ 9 44 (by decide) hck2).frz;have a1:Spec Tryz.prog 13 false [.agg (cM eX),.int .i64 9] [.val (bC [[0,1],[1,0]]),.val (.bool true),.val (.int .i64 3),.val (.int .i64 0)]:=a1;have a2:Spec Tryz.prog 13 false [.agg (cM eX),.int .i64 2] [.val (bC [[0,1]]),.val (.bool false),.val (.int .i64 2),.val (.int .i64 0)]:=a2;have a3:Spec Tryz.prog 18 false [.agg (cM eX),.int .i64 9] [.val (aq [1,0]),.val (.bool true),.val (.bool true),.val (.int .i64 3),.val (.int .i64 0)]:=a3;have a4:Spec Tryz.prog 13 false [.agg (cM rQ),.int .i64 9] [.val (bC []),.val (.bool false),.val (.int .i64 0),.val (.int .i64 44)]:=a4;have l1:=gQ [[0,1],[1,0]] [[0,1],[1,0]] (by decide) (by decide);rw[EF Y]at l1;have l2:=gQ [[0,1]] [[0,1]] (by decide) (by decide);rw[EF Y]at l2;have l3:=du [1,0] [1,0] (by decide);rw[EF Y]at l3;refine .B ?_;refine .D k8 ?_;refine .D a1 ?_;refine .D k8 ?_;refine .D a2 ?_;refine .D k8 ?_;refine .D a3 ?_;refine .D a4 ?_;refine .V ?_;refine .V ?_;refine .V ?_;refine .D l1 ?_;refine .V ?_;refine .V ?_;refine .D l2 ?_;refine .V ?_;refine .D l3 ?_;exact r1
theorem AA {m:Mod}(h:checkR m=0):m.vars.length<=64/\m.cons.length<=256/\eZ (domsM m) m.goal=0:=by
 unfold checkR at h;split at h;·cases h
 ·rename_i h0;split at h;·rename_i h1;exact EX h h1
  ·split at h;·rename_i h1;exact EX h h1
   ·exact⟨by omega,by omega,h⟩
theorem oY: ∀{d:aa},(∀x∈d,(vals x).length<=4096)->weight d<=d.length*4096
 | [],_=>by simp[weight]
 |x::d,h=>by
  have h1:=h x (.head _);have h2:=oY λy hy=>h y (.tail _ hy);unfold weight at*;simp only[Ek,FX,El];omega
theorem wD {d:aa}{c:Con}(h:conR d c=0):eN c.coefs c.rhs=false:=kw h
structure Fit (b:Mod):Prop where
 ck:checkR b=0
 mb:ModB b
 r:RightM b
 p:prodD (domsM b)<=1048576
 cl:b.cons.length<=256
 w:weight (domsM b)<=1000000
 g:GoalIn (domsM b) b.goal
 k:ModK b
theorem Fit.run {b:Mod}(h:Fit b):RunOk (domsM b) b.cons:=h.r.run h.p
theorem BQ {b:Mod}(hb:ModB b)(hc:checkR b=0)(hp:prodD (domsM b)<=1048576):Fit b:=by
 have hr:=lB hb hc;obtain⟨h1,h2,h3⟩:=AA hc;have hw:=oY hr.good.few.few;have hl:(domsM b).length=b.vars.length:=(by simp[domsM]);refine⟨hc,hb,hr,hp,h2,by omega,yZ hr.good hb.gl.1 hb.gl.2 h3,hb,λc hm=> .inl (wD (hr.right c hm)),?_⟩;rcases goal_kinds h3 with ⟨_,_,h4⟩|⟨_,h4⟩;·rw[h4];exact .inl Y
 ·exact .inl (wD h4)
theorem Do {m:Mod}{most:Nat}(hb:ModB m)(h:okM m most=true)(h1:1<=most/\most<=1048576):Fit m/\prodD (domsM m)<=most:=by
 have hk:=Bm hb h h1.1;unfold okM at h;rw[EL,ER]at h;exact⟨BQ hb h.1 (Em hk.2 h1.2),hk.2⟩
theorem Fit.turn {b:Mod}(h:Fit b)(hk:b.goal.kind≠0):Fit (yw b):=by
 have hk2:b.goal.kind=1∨b.goal.kind=2:=(h.g.kind.resolve_left hk).1;refine BQ ⟨h.mb.vl,h.mb.vn,h.mb.cl,h.mb.cb,⟨h.mb.gl.1,by show(b.goal.coefs.map (- ·)).length<=_;rw[EB];exact h.mb.gl.2⟩⟩ ((wV hk2).trans h.ck) h.p
theorem An {b:Mod}(h:Fit b):Spec Tryz.prog 64 false [.agg (cM b)] [.val (.int .i64 0)]:=by
 have:=j5 b h.k;rw[h.ck]at this;exact this
theorem CI {b:Mod}(h:Fit b)(left:Int)(hl:left<=1099511627776):Spec Tryz.prog 13 false [.agg (cM b),.int .i64 left] [.own 24 1 ((srchA b left).st.map cL),.val (.bool (!(srchA b left).short)),.val (.int .i64 (srchA b left).nodes),.val (.int .i64 0)]:=mP b h.mb h.run h.w left hl (An h)
def CP (g:Goal)(u1 u2 u3:Value):List PV:=[.raw u1,.raw u2,.int .i64 g.kind,aq g.vars,.raw u3]
set_option maxHeartbeats 1000000 in
theorem Aw (m:Mod)(hm:ModB m):SpecX Tryz.prog 14 [] [] [] [] [(false,.agg (cM m))] (λ_=>[]) (λns=>[.sl 3 1 true (m.goal.coefs.map cI)]) false (λns=>[.agg [.sl (m.vars.map cV),bP m.cons,.int .i64 m.goal.kind,aq m.goal.vars,.raw (ns.getD 0 undef)]]):=by
 refine SpecX.body (fn:=Tryz.f14) [] [1000] Y Y Y Y λw0 Z=> ?_;obtain⟨b1,b2,b3,b4,b5⟩:=hm;have hM: ∀b,¬(∃u∈([]:List Value)++[],VB u b):=λb ⟨u,hu,_⟩=>(by cases hu);refine .B ?_;refine .L ?_;refine .M ?_;refine T.rdw 16 Y (by kernel_rfl) Y ?_;refine .M ?_;refine .O ?_;refine .M ?_;refine J.adf hM Y Y Y Y Y Y Y Y Y Y Y Y Y Y Y Y Y jE (by show(0+List.length _)*8<=_;simp;omega) ?_;refine .M ?_;refine .O ?_;refine .M ?_;refine J.ad Y Y Y Y Y Y Y Y Y Y Y Y Y Y Y Y Y Y jE (by show(0+List.length _)*8<=_;simp;omega) ?_;refine J.br Y Y Y Y Y ?_;refine J.br Y Y Y Y Y ?_;refine .L ?_;refine J.nil ?_;refine⟨by kernel_rfl,?_⟩;refine J.name 1000 (s:=18) Y Y Y λu=> ?_;refine J.sub (Rel.agrawZ (s:=20) [(4,1000)] Y Y) ?_;refine .W ?_;refine J.nil ?_;refine T.nilO 1001 56 2 Y ?_;refine T.nilO 1002 51 7 Y ?_;refine T.sub (Rel.wk (o:=6) Y) ?_;refine T.sub (Rel.wk (o:=7) Y) ?_;refine T.sub (Rel.flat (o:=4) Y (λr hr p hp=>by simp[cI]at hr;obtain⟨x,_,rfl⟩:=hr;simp at hp;subst hp;rfl)) ?_;refine T.canon (keep:=[1,2,3,1000,1001,1002]) (os:=[1,2,3,1000,1001,1002]) Y ?_;refine T.mids (λu1:Value=>⟨[(1,.optr 0 0 0 0),(2,.optr 1 0 0 0),(3,.optr 2 0 0 0),(1000,.eq u 3),(1001,.eq u1 4),(1002,.eq (.slice none 0 0) 5)],[(0,some (.box false (cM m))),(1,some (.box true [.sl [],.sl [],.int .i64 0,.sl [],.sl []])),(2,some (.box false (CP m.goal u1 (.slice none 0 0) u))),(3,some (.sl 3 1 true (m.goal.coefs.map cI))),(4,some (.sl 56 2 false (m.vars.map cV))),(5,some (.sl 51 7 false ([])))],6⟩) ?_ λu1=> ?_
 ·refine .M ?_;refine T.K (T.ind (λs:Nat×Value=>⟨[(1,.optr 0 0 0 0),(2,.optr 1 0 0 0),(3,.optr 2 0 0 0),(4,.val true (.int .i64 s.1)),(1000,.eq u 3),(1001,.eq s.2 4),(1002,.eq (.slice none 0 0) 5)],[(0,some (.box false (cM m))),(1,some (.box true [.sl [],.sl [],.int .i64 0,.sl [],.sl []])),(2,some (.box false (CP m.goal s.2 (.slice none 0 0) u))),(3,some (.sl 3 1 true (m.goal.coefs.map cI))),(4,some (.sl 56 2 false ((m.vars.take s.1).map cV))),(5,some (.sl 51 7 false ([])))],6⟩) (λs=>s.1<=m.vars.length) (λs=>m.vars.length-s.1) (0,.slice none 0 0) (Er _) (λ_ _ h=>by cases h.1) ?_);rintro⟨i,u1⟩ hi ih;simp only at hi;refine .B ?_;refine T.cd Y (λh1=> ?_) (λh1=> ?_)
  ·have h1:i<m.vars.length:=(by have h:=h1;rw[EB]at h;omega);have hrow:(m.vars.map cV)[((i:Nat):Int).toNat]? =some (cV m.vars[i]):=(by simp[h1]);have hv:=b2 _ (EA h1);have htk:m.vars.take (i+1)=m.vars.take i++[m.vars[i]]:=ED h1;have hln:(m.vars.take i).length<=1024:=(by simp;omega);have ih1:=λu'=>ih (i+1,u') (by show _<=_;omega) (by show _-_<_-_;omega);simp only[htk,F4]at ih1;generalize m.vars.take i=out at*;generalize m.vars[i]=v at*;obtain⟨nm,dd⟩:=v;simp only at hv;refine .M ?_;refine T.rdw 20 Y (by kernel_rfl) Y ?_;refine J.H Y ?_;refine J.lr 1001 (q:=4) (u:=u1) Y Y Y Y Y Y Y Y Y ?_;refine .M ?_;refine .I (r:=cV (nm,dd)) hrow ?_;refine .M ?_;refine .O ?_;refine .M ?_;refine .I (r:=cV (nm,dd)) hrow ?_;refine .M ?_;refine J.adf hM Y Y Y Y Y Y Y Y Y Y Y Y Y Y Y Y Y yU (by show(0+List.length _)*16<=_;simp;omega) ?_;refine .M ?_;refine .V ?_;refine J.ad Y Y Y Y Y Y Y Y Y Y Y Y Y Y Y Y Y Y (cy Y) (by show(List.length _+1)*40<=_;simp;omega) ?_;refine .M ?_;refine⟨by kernel_rfl,?_⟩;refine J.name 1001 (s:=46) Y Y Y λu'=> ?_;refine J.sub (Rel.raw (s:=46) (g:=1001) Y (.inl Y) Y Y Y) ?_;refine .X ?_;rw[ai (l:=m.vars.length) (n:=i) h1 (by omega)];exact T.K (ih1 u')
  ·have e:i=m.vars.length:=(by have h:=h1;rw[EB]at h;omega);subst e;rw[Ep];refine .B ?_;exact⟨rfl,u1,[1,2,3,1000,1001,1002],[1,2,3,1000,1001,1002],rfl,rfl⟩
 ·refine T.mids (λu2:Value=>⟨[(1,.optr 0 0 0 0),(2,.optr 1 0 0 0),(3,.optr 2 0 0 0),(1000,.eq u 3),(1001,.eq u1 4),(1002,.eq u2 5)],[(0,some (.box false (cM m))),(1,some (.box true [.sl [],.sl [],.int .i64 0,.sl [],.sl []])),(2,some (.box false (CP m.goal u1 u2 u))),(3,some (.sl 3 1 true (m.goal.coefs.map cI))),(4,some (.sl 56 2 false (m.vars.map cV))),(5,some (.sl 51 7 false (m.cons.map cC)))],6⟩) ?_ λu2=> ?_
  ·refine .M ?_;refine T.K (T.ind (λs:Nat×Value=>⟨[(1,.optr 0 0 0 0),(2,.optr 1 0 0 0),(3,.optr 2 0 0 0),(5,.val true (.int .i64 s.1)),(1000,.eq u 3),(1001,.eq u1 4),(1002,.eq s.2 5)],[(0,some (.box false (cM m))),(1,some (.box true [.sl [],.sl [],.int .i64 0,.sl [],.sl []])),(2,some (.box false (CP m.goal u1 s.2 u))),(3,some (.sl 3 1 true (m.goal.coefs.map cI))),(4,some (.sl 56 2 false (m.vars.map cV))),(5,some (.sl 51 7 false ((m.cons.take s.1).map cC)))],6⟩) (λs=>s.1<=m.cons.length) (λs=>m.cons.length-s.1) (0,.slice none 0 0) (Er _) (λ_ _ h=>by cases h.1) ?_);rintro⟨i,u2⟩ hi ih;simp only at hi;refine .B ?_;refine T.cd Y (λh1=> ?_) (λh1=> ?_)
   ·have h1:i<m.cons.length:=(by have h:=h1;rw[EB]at h;omega);have hrow:(m.cons.map cC)[((i:Nat):Int).toNat]? =some (cC m.cons[i]):=(by simp[h1]);have hv:=b4 _ (EA h1);have htk:m.cons.take (i+1)=m.cons.take i++[m.cons[i]]:=ED h1;have hln:(m.cons.take i).length<=1024:=(by simp;omega);have hown:=vp m.cons[i] ⟨by omega,by omega,by omega,λr hr=>by have:=hv.2.2.2 r hr;omega⟩;have ih1:=λu'=>ih (i+1,u') (by show _<=_;omega) (by show _-_<_-_;omega);simp only[htk,F4]at ih1;generalize m.cons.take i=out at*;generalize m.cons[i]=c at*;refine .M ?_;refine T.rdw 11 Y (by kernel_rfl) Y ?_;refine J.H Y ?_;refine J.lr 1002 (q:=5) (u:=u2) Y Y Y Y Y Y Y Y Y ?_;refine .M ?_;refine .I (r:=cC c) hrow ?_;refine .M ?_;refine .C hown ?_;refine .M ?_;refine .V ?_;refine J.ad Y Y Y Y Y Y Y Y Y Y Y Y Y Y Y Y Y Y (cy Y) (Em (F7 _ (show(out.map cC).length+1<=1025 by rw[EB];omega)) (show 1025*104<=140737488355328 by decide)) ?_;refine .M ?_;refine⟨by kernel_rfl,?_⟩;refine J.name 1002 (s:=64) Y Y Y λu'=> ?_;refine J.sub (Rel.raw (s:=64) (g:=1002) Y (.inl Y) Y Y Y) ?_;refine .X ?_;rw[ai (l:=m.cons.length) (n:=i) h1 (by omega)];exact T.K (ih1 u')
   ·have e:i=m.cons.length:=(by have h:=h1;rw[EB]at h;omega);subst e;rw[Ep];refine .B ?_;exact⟨rfl,u2,[1,2,3,1000,1001,1002],[1,2,3,1000,1001,1002],rfl,rfl⟩
  ·refine T.sub (λa w h=>Rel.meltB (i:=0) (qc:=2) (q:=4) (g:=1001) hM Y Y Y Y Y h) ?_;refine T.sub (λa w h=>Rel.meltB (i:=1) (qc:=2) (q:=5) (g:=1002) hM Y Y Y Y Y h) ?_;refine .B ?_;refine .X ?_;exact⟨[],[3],[u],trivial,⟨rfl,⟨_,rfl,rfl,rfl⟩,trivial⟩,rfl,.cell Y Y Y (λh=>by cases h) .nil⟩
theorem xd (m:Mod)(hm:ModB m):Spec Tryz.prog 17 false [.agg (cM m),.agg (cM m)] [.val (.bool true)]:=by
 refine Spec.body Tryz.func17 Y Y Y λw0 Z0=> ?_;obtain⟨b1,b2,b3,b4,b5⟩:=hm;have n1:=du m.goal.vars m.goal.vars (by omega);have n2:=du m.goal.coefs m.goal.coefs (by omega);rw[EF Y]at n1 n2;have hf: ∀p:Prop,¬(p≠p):=λp h=>h Y;refine .B ?_;refine J.g Y Y Y (λh=>EX Y h) (λ_=> ?_);refine .B ?_;refine J.g Y Y Y (λh=>EX Y h) (λ_=> ?_);refine .B ?_;refine J.g Y Y Y (λh=>EX Y h) (λ_=> ?_);refine .B ?_;refine .D n1 ?_;refine .D n2 ?_;refine T.cf Y ?_;refine .B ?_;have hsame: ∀v∈m.vars,Spec Tryz.prog 40 false [dm v.2,dm v.2] [.val (.bool true)]:=λv hv=>by
  have:=rx v.2 v.2 (by have:=(b2 v hv).2;omega);rwa[EF Y]at this
 refine T.K (T.ind (λi:Nat=>⟨[(2,.optr 0 0 0 0),(3,.optr 1 0 0 0),(5,.val true (.int .i64 i))],[(0,some (.box false (cM m))),(1,some (.box false (cM m)))],2⟩) (λi=>i<=m.vars.length) (λi=>m.vars.length-i) 0 (Er _) (λ_ _ h=>h) ?_);rintro i hi ih;refine .B ?_;refine T.cd Y (λh1=> ?_) (λh1=> ?_)
 ·have h1:i<m.vars.length:=(by have h:=h1;rw[EB]at h;omega);have hrow:(m.vars.map cV)[((i:Nat):Int).toNat]? =some (cV m.vars[i]):=(by simp[h1]);have hsm:=hsame _ (EA h1);generalize m.vars[i]=v at*;obtain⟨nm,dd⟩:=v;refine .M ?_;refine T.rdm 29 Y (by kernel_rfl) Y ?_;refine .M ?_;refine .I (r:=cV (nm,dd)) hrow ?_;refine .M ?_;refine .I (r:=cV (nm,dd)) hrow ?_;refine .M ?_;have hs:(nm.toList==nm.toList)=true:=(by simp);rw[hs];refine .M ?_;refine .I (r:=cV (nm,dd)) hrow ?_;refine .M ?_;refine .I (r:=cV (nm,dd)) hrow ?_;refine .M ?_;refine .C hsm ?_;refine .M ?_;refine T.cf Y ?_;refine .B ?_;rw[ai (l:=m.vars.length) h1 (by omega)];exact T.K (ih (i+1) h1 (by omega))
 ·refine .B ?_;refine T.K (T.ind (λi:Nat=>⟨[(2,.optr 0 0 0 0),(3,.optr 1 0 0 0),(6,.val true (.int .i64 i))],[(0,some (.box false (cM m))),(1,some (.box false (cM m)))],2⟩) (λi=>i<=m.cons.length) (λi=>m.cons.length-i) 0 (Er _) (λ_ _ h=>h) ?_);rintro k hk ihk;refine .B ?_;refine T.cd Y (λh2=> ?_) (λh2=> ?_)
  ·have h2:k<m.cons.length:=(by have h:=h2;rw[EB]at h;omega);have hrow:(m.cons.map cC)[((k:Nat):Int).toNat]? =some (cC m.cons[k]):=(by simp[h2]);have hc:=b4 _ (EA h2);have hal:=yq m.cons[k] ⟨by omega,by omega,by omega,λr hr=>by have:=hc.2.2.2 r hr;omega⟩;generalize m.cons[k]=c at*;refine .M ?_;refine T.rdm 12 Y (by kernel_rfl) Y ?_;refine .M ?_;refine .I (r:=cC c) hrow ?_;refine .M ?_;refine .I (r:=cC c) hrow ?_;refine .M ?_;refine .C hal ?_;refine .M ?_;refine T.cf Y ?_;refine .B ?_;rw[ai (l:=m.cons.length) h2 (by omega)];exact T.K (ihk (k+1) h2 (by omega))
  ·refine .B ?_;exact r1
def Bnd (a:List Int):Prop:= ∀x∈a,-1048576<=x/\x<=1048576
section
variable {b:Mod}{left:Int}
theorem okB (h:Fit b):SrchOK (domsM b) (kC b.cons b.goal) (BP b.goal) IB:=vP h.run (by have:=h.cl;omega) h.g
end
def lE (best:Bool)(g:Goal)(st:List (List Int)):List Con:=if best=true/\g.kind≠0 then(match st.getLast? with|some a=>[iA g (cY g a)]|none=>[])else []
def jj (best:Bool)(m:Mod)(st:List (List Int)):List Con:=m.cons++lE best m.goal st
def qv (best:Bool)(g:Goal)(st:List (List Int))(a:List Int):List (List Int)×Bool:=(st++[a],best&&decide (g.kind=0))
def I14 (st:List (List Int)):Prop:= ∀a∈st,Bnd a
theorem ol {m:Mod}(st:List (List Int)):jj false m st=m.cons:=by
 unfold jj lE;rw[E4 (by simp),FU]
theorem yb {m:Mod}(st:List (List Int)):jj true m st=kC m.cons m.goal st.getLast? :=by
 unfold jj lE kC;by_cases hk:m.goal.kind=0
 ·rw[E4 (by simp[hk]),FU];cases st.getLast? with
  |none=>rfl
  |some a=>simp only[E6 hk]
 ·rw[E6 ⟨rfl,hk⟩];cases st.getLast? with
  |none=>simp
  |some a=>simp only[E4 hk]
theorem B3 (best:Bool)(g:Goal)(st:List (List Int)):(lE best g st).length<=1:=by
 unfold lE;split;·split<;>simp
 ·simp
theorem DM {b:Mod}(h:Fit b)(best:Bool):SrchOK (domsM b) (jj best b) (qv best b.goal) I14:=by
 refine⟨λst hI=> ?_,λst a hI hf x hx=> ?_⟩
 ·cases best with
  |false=>rw[ol];exact h.run
  |true=>
   rw[yb];exact(okB h).run _ λa ha x hx=>hI a (He ha) x hx
 ·rcases EW.1 hx with hx|hx;·exact hI x hx
  ·rw[EI.1 hx];exact(iw h.r.good hf).2.2
noncomputable def srch14 (best:Bool)(m:Mod)(left:Int):Srch (List (List Int)):=lookG left (jj best m) (qv best m.goal) (weight (domsM m)+1) (domsM m) ⟨0,false,false,[]⟩
theorem AT (m:Mod)(left:Int):srch14 false m left=srchA m left:=by
 have h1:jj false m=λ_=>m.cons:=funext ol;have h2:qv false m.goal=Am:=rfl;unfold srch14 srchA;rw[h1,h2]
set_option maxHeartbeats 1000000 in
theorem u5 (g:Goal)(v:Int)(hg:GoalOk g)(hv: -4611686018427387904<=v/\v<=4611686018427387904):Spec Tryz.prog 78 false [.agg (cG g),.int .i64 v] [.val (.agg (cC (iA g v)))]:=by
 refine Spec.body Tryz.func78 Y Y Y λw0 Z0=> ?_;obtain⟨h1,h2,h3,h4⟩:=hg;have hvr:IntKind.i64.wrap (v-1)=v-1:=af (by omega) (by omega);have hvn:IntKind.i64.wrap (0-v)=0-v:=af (by omega) (by omega);have hvn2:IntKind.i64.wrap (0-v-1)=0-v-1:=af (by omega) (by omega);obtain⟨sg,hsg⟩: ∃sg:Int,sg=if g.kind=2 then -1 else 1:=⟨_,rfl⟩
 obtain⟨rh,hrh⟩: ∃rh:Int,rh=if g.kind=2 then -v-1 else v-1:=⟨_,rfl⟩
 have hbc:iA g v=⟨0,g.vars,g.coefs.map (sg* ·),0,rh,[],0⟩:=by
  unfold iA;rw[hsg,hrh];split
  ·congr 1;exact F6 λk _=>by omega
  ·congr 1
   conv=>lhs;rw[<-List.map_id g.coefs]
   exact F6 λk _=>by show k=1*k;omega
 have hsb:sg=1∨sg= -1:=(by rw[hsg];split<;>simp);rw[hbc];refine .B ?_;refine .L ?_;refine .B ?_;refine .Q ?_;refine J.am (enc:=cI) (l:=([]:List Int)) (l2:=g.vars) (B:=8) Y Y Y Y Y Y Y Y Y Y Y Y Y Y Y Y Y (λ_=>rfl) Y (by show(0+_)*8<=_;omega) ?_;refine J.sub (Rel.flat (o:=3) Y (λr hr p hp=>by simp[cI]at hr;obtain⟨x,_,rfl⟩:=hr;simp at hp;subst hp;rfl)) ?_;refine J.sub (Rel.frz (s:=11) (λ_ h=>h) Y Y) ?_
 iterate 2 refine J.H Y ?_
 rw[hvr];refine J.br Y Y Y Y Y ?_;refine J.sub (Rel.agrawZ (s:=14) [] Y Y) ?_;refine .L ?_;refine .W ?_;refine J.nil ?_;refine T.nilO 1000 3 1 Y ?_;refine T.nilO 1001 24 1 Y ?_;refine T.K (?_:T _ _ ⟨[(1,.val false (.int .i64 v)),(2,.optr 0 0 0 0),(4,.optr 1 0 0 0),(5,.optr 2 0 0 0),(1000,.eq (.slice none 0 0) 3),(1001,.eq (.slice none 0 0) 4)],[(0,some (.box false (cG g))),(1,some (.box true [.int .i64 0,.sl [],.sl [],.int .i64 0,.int .i64 0,.sl [],.int .i64 0])),(2,some (.box true [.int .i64 0,aq g.vars,.raw (.slice none 0 0),.int .i64 0,.int .i64 (v-1),.raw (.slice none 0 0),.int .i64 0])),(3,some (.sl 3 1 true ([]))),(4,some (.sl 24 1 true []))],5⟩ _);refine T.mid ⟨[(1,.val false (.int .i64 v)),(2,.optr 0 0 0 0),(4,.optr 1 0 0 0),(5,.optr 2 0 0 0),(6,.val true (.int .i64 1)),(1000,.eq (.slice none 0 0) 3),(1001,.eq (.slice none 0 0) 4)],[(0,some (.box false (cG g))),(1,some (.box true [.int .i64 0,.sl [],.sl [],.int .i64 0,.int .i64 0,.sl [],.int .i64 0])),(2,some (.box true [.int .i64 0,aq g.vars,.raw (.slice none 0 0),.int .i64 0,.int .i64 (v-1),.raw (.slice none 0 0),.int .i64 0])),(3,some (.sl 3 1 true ([]))),(4,some (.sl 24 1 true []))],5⟩ ?_ ?_
 ·refine .B ?_;exact⟨rfl,[1,2,4,5,6,1000,1001],[2,4,5,1000,1001],rfl,rfl⟩
 refine T.mid ⟨[(1,.val false (.int .i64 v)),(2,.optr 0 0 0 0),(4,.optr 1 0 0 0),(5,.optr 2 0 0 0),(6,.val true (.int .i64 sg)),(1000,.eq (.slice none 0 0) 3),(1001,.eq (.slice none 0 0) 4)],[(0,some (.box false (cG g))),(1,some (.box true [.int .i64 0,.sl [],.sl [],.int .i64 0,.int .i64 0,.sl [],.int .i64 0])),(2,some (.box true [.int .i64 0,aq g.vars,.raw (.slice none 0 0),.int .i64 0,.int .i64 rh,.raw (.slice none 0 0),.int .i64 0])),(3,some (.sl 3 1 true ([]))),(4,some (.sl 24 1 true []))],5⟩ ?_ ?_
 ·refine .B ?_;refine T.cd Y (λhk=> ?_) (λhk=> ?_)
  ·have hk:g.kind=2:=hk;rw[E6 hk]at hsg hrh;subst hsg hrh;refine .B ?_;rw[hvn,hvn2,show(0:Int)-v-1= -v-1 by omega];refine .X ?_;exact⟨rfl,[1,2,4,5,6,1000,1001],[2,4,5,1000,1001],rfl,rfl⟩
  ·have hk: ¬g.kind=2:=hk;rw[E4 hk]at hsg hrh;subst hsg hrh;refine .B ?_;exact⟨rfl,[1,2,4,5,6,1000,1001],[2,4,5,1000,1001],rfl,rfl⟩
 clear hsg hrh hvr hvn hvn2 hbc;refine T.mids (λu:Value=>⟨[(1,.val false (.int .i64 v)),(2,.optr 0 0 0 0),(4,.optr 1 0 0 0),(5,.optr 2 0 0 0),(6,.val true (.int .i64 sg)),(1000,.eq u 3),(1001,.eq (.slice none 0 0) 4)],[(0,some (.box false (cG g))),(1,some (.box true [.int .i64 0,.sl [],.sl [],.int .i64 0,.int .i64 0,.sl [],.int .i64 0])),(2,some (.box true [.int .i64 0,aq g.vars,.raw u,.int .i64 0,.int .i64 rh,.raw (.slice none 0 0),.int .i64 0])),(3,some (.sl 3 1 true ((g.coefs.map (sg* ·)).map cI))),(4,some (.sl 24 1 true []))],5⟩) ?_ λu=> ?_
 ·refine .M ?_;refine T.K (T.ind (λs:Nat×Value=>⟨[(1,.val false (.int .i64 v)),(2,.optr 0 0 0 0),(4,.optr 1 0 0 0),(5,.optr 2 0 0 0),(6,.val true (.int .i64 sg)),(7,.val true (.int .i64 s.1)),(1000,.eq s.2 3),(1001,.eq (.slice none 0 0) 4)],[(0,some (.box false (cG g))),(1,some (.box true [.int .i64 0,.sl [],.sl [],.int .i64 0,.int .i64 0,.sl [],.int .i64 0])),(2,some (.box true [.int .i64 0,aq g.vars,.raw s.2,.int .i64 0,.int .i64 rh,.raw (.slice none 0 0),.int .i64 0])),(3,some (.sl 3 1 true (((g.coefs.take s.1).map (sg* ·)).map cI))),(4,some (.sl 24 1 true []))],5⟩) (λs=>s.1<=g.coefs.length) (λs=>g.coefs.length-s.1) (0,.slice none 0 0) (Er _) (λ_ _ h=>by cases h.1) ?_);rintro⟨i,u⟩ hi ih;simp only at hi;refine .B ?_;refine T.cd Y (λh5=> ?_) (λh5=> ?_)
  ·have h5:i<g.coefs.length:=(by have h:=h5;rw[EB]at h;omega);have hci:=fI (h3 _ (EA h5));have htk:(g.coefs.take (i+1)).map (sg* ·)=(g.coefs.take i).map (sg* ·)++[sg*g.coefs[i]]:=(by rw[ED h5,F4];rfl);have hln:((g.coefs.take i).map (sg* ·)).length<=1024:=(by simp;omega);have ih1:=λu'=>ih (i+1,u') (by show _<=_;omega) (by show _-_<_-_;omega);simp only[htk,F4]at ih1;have hrow:=ax (enc:=cI) h5;have hmul:IntKind.i64.wrap (sg*g.coefs[i])=sg*g.coefs[i]:=(by rcases hsb with h|h<;>rw[h]<;>exact af (by omega) (by omega));generalize (g.coefs.take i).map (sg* ·)=out at*;generalize g.coefs[i]=k at*;refine .M ?_;refine T.rdw 12 Y (by kernel_rfl) Y ?_;refine J.H Y ?_;refine J.lr 1000 (q:=3) (u:=u) Y Y Y Y Y Y Y Y Y ?_;refine .M ?_;refine .I (r:=cI k) hrow ?_;refine .M ?_;refine .V ?_;rw[hmul];refine J.ad Y Y Y Y Y Y Y Y Y Y Y Y Y Y Y Y Y Y (cy Y) (by show(List.length _+1)*8<=_;simp;omega) ?_;refine .M ?_;refine⟨by kernel_rfl,?_⟩;refine J.name 1000 (s:=39) Y Y Y λu'=> ?_;refine J.sub (Rel.raw (s:=39) (g:=1000) Y (.inl Y) Y Y Y) ?_;refine .X ?_;rw[ai (l:=g.coefs.length) (n:=i) h5 (by omega)];exact T.K (ih1 u')
  ·have e:i=g.coefs.length:=(by have h:=h5;rw[EB]at h;omega);subst e;rw[Ep];refine .B ?_;exact⟨rfl,u,[1,2,4,5,6,1000,1001],[2,4,5,1000,1001],rfl,rfl⟩
 ·refine T.sub (Rel.cellF 1000 2 (q:=2) (n:=3) (λb h=>h) Y Y Y Y Y) ?_;refine T.sub (Rel.cellF 1001 5 (q:=2) (n:=4) (λb h=>h) Y Y Y Y Y) ?_;refine .B ?_;refine .X ?_;exact⟨_,.cell Y Y Y (λ_=>rfl) .nil⟩
abbrev stV (m:Mod)(left:Int)(nodes:Int)(short over:Bool)(fv:Value)(bd:List Con):Own:= .box false [.sl (m.vars.map cV),bP m.cons,.int .i64 m.goal.kind,aq m.goal.vars,aq m.goal.coefs,.int .i64 left,.int .i64 nodes,.bool short,.bool over,.raw fv,bP bd]
theorem xm (sb:Nat)(m:Mod)(left nodes:Int)(short over:Bool)(fv:Value)(bd:List Con)(h1:m.cons.length<=1024)(h2:bd.length<=1024):SpecX Tryz.prog 76 [pV sb] [] [stV m left nodes short over fv bd] [] [(true,.raw (pV sb))] (λ_=>[stV m left nodes short over fv bd]) (λ_=>[]) false (λ_=>[bP (m.cons++bd)]):=by
 refine SpecX.body (fn:=Tryz.f76) [1000] [] Y Y Y Y λw0 Z=> ?_;refine T.sub (Rel.derawp (s:=0) (g:=1000) Y Y Y) ?_;refine .B ?_;refine .Q ?_;refine J.am (enc:=cC) (l:=([]:List Con)) (l2:=m.cons) (B:=104) Y Y Y Y Y Y Y Y Y Y Y Y Y Y Y Y Y (λ_=>rfl) Y (by show(0+_)*104<=_;omega) ?_;refine .B ?_;refine J.am (enc:=cC) (l:=([]:List Con)++m.cons) (l2:=bd) (B:=104) Y Y Y Y Y Y Y Y Y Y Y Y Y Y Y Y Y (λ_=>rfl) Y (by simp;omega) ?_;refine J.sub (Rel.frzX (s:=16) (o:=3) Y Y ⟨.inr ⟨1000,_,_,rfl,rfl,by decide⟩,trivial⟩) ?_;refine .B ?_;exact⟨[0],[],[],⟨rfl,⟨_,rfl,rfl,rfl⟩,trivial⟩,trivial,rfl,.val Y Y (λh=>by cases h) .nil⟩
theorem uN (g:Goal)(a:List Int)(hg:g.kind≠0->GoalOk g)(hvl:g.vars.length<=1024)(hkl:g.coefs.length<=1024)(hal:a.length*8<=140737488355328)(ha: ∀x∈a,-1048576<=x/\x<=1048576):Spec Tryz.prog 24 false [.agg (cG g),aq a] [.val (.int .i64 (cY g a))]:=by
 refine Spec.body Tryz.func24 Y Y Y λw0 Z0=> ?_;have hs:=ry g.vars g.coefs a (by omega) (by omega) hal;refine .B ?_;refine T.cd Y (λh=> ?_) (λh=> ?_)
 ·rw[show cY g a=0 from E6 h];refine .B ?_;exact r1
 ·have hgo:=hg h;have e:sumW g.vars g.coefs a=cY g a:=by
   rw[show cY g a=cU g.vars g.coefs a from E4 h];exact ta (g:=atR a) hgo.len hgo.ck (by have:=hgo.weight;omega) (λ_ _=>rfl) λu _=>C3 ha u
  rw[e]at hs;refine .B ?_;refine .D hs ?_;exact r1
abbrev flV (l:List (List Int)):Own:= .sl 24 1 true (l.map cL)
abbrev rE (sb:Nat)(m:Mod)(best:Bool)(left:Int)(sl:List (Nat×SV))(fv:Value)(s:Srch (List (List Int))):St:=
 ⟨sl++[(1000,.eq (pV sb) 0),(1001,.eq fv 1)],[(0,some (stV m left s.nodes s.short s.over fv (lE best m.goal s.st))),(1,some (flV s.st))],2⟩
abbrev C5 (sb:Nat)(m:Mod)(best:Bool)(left:Int)(d:aa)(fv dv:Value)(s r:Srch (List (List Int))):Prop:=
 SpecX Tryz.prog 39 [pV sb] [fv,dv] [stV m left s.nodes s.short s.over fv (lE best m.goal s.st)] [flV s.st,.sl 54 1 true (d.map cD)] [(true,.raw (pV sb)),(true,.raw dv),(true,.bool best)] (λns=>[stV m left r.nodes r.short r.over (ns.getD 0 undef) (lE best m.goal r.st)]) (λ_=>[flV r.st]) true (λ_=>[])
theorem AF {best:Bool}{g:Goal}(h: ¬(best=true/\g.kind≠0))(st:List (List Int)):lE best g st=[]:=E4 h
theorem B4 {g:Goal}(hk:g.kind≠0)(st:List (List Int))(a:List Int):lE true g (st++[a])=[iA g (cY g a)]:=by
 unfold lE;rw[E6 ⟨rfl,hk⟩,Hd];simp
theorem m8 {σ:Type}{left B:Int}{con:σ->List Con}{fnd:σ->List Int->σ×Bool}(hB:left<=B): ∀(n:Nat) (d:aa) (s:Srch σ),(s.nodes:Int)<=B->((lookG left con fnd n d s).nodes:Int)<=B
 |0,d,s,h=>h
 |n+1,d,s,h=>by
  rw[lookG];split;·exact h
  ·have h1:((s.nodes+1:Nat):Int)<=B:=(by omega);split;·exact h1
   ·split;·exact h1
    ·refine km (Q:=λs:Srch σ=>(s.nodes:Int)<=B) (λs x _ h=> ?_) h1;split;·exact h
     ·exact m8 hB n _ _ h
set_option maxHeartbeats 4000000 in
theorem zz (sb:Nat){m:Mod}(hF:Fit m)(best:Bool)(left:Int)(hleft:left<=1099511627776):
  ∀(n:Nat) (d:aa) (s:Srch (List (List Int))) (fv dv:Value),weight d<n->GoodD (domsM m).length d->leD d (domsM m)->I14 s.st->s.st.length<=s.nodes->(s.nodes:Int)<=1099511627776->
  C5 sb m best left d fv dv s (if s.over=true then s else lookG left (jj best m) (qv best m.goal) n d s):=by
 intro n;have hS:=DM hF best;have hcl:=hF.cl;have hdl:(domsM m).length<=1024:=by have:=hF.mb.vl;simpa[domsM]using this
 induction n with
 |zero=>intro d s fv dv hw;omega
 |succ n ihn=>
  intro d s fv dv hw gd hle hi hsn hnd;refine SpecX.body (fn:=Tryz.f39) [1000,1001,1002] [1001] Y Y Y Y λw0 Z=> ?_;refine T.sub (Rel.derawp (s:=0) (g:=1000) Y Y Y) ?_;obtain⟨r,hr⟩: ∃r,r=if s.over=true then s else lookG left (jj best m) (qv best m.goal) (n+1) d s:=⟨_,rfl⟩
  rw[<-hr];refine T.sub (Rel.deraw (s:=1) (g:=1002) Y Y) ?_;refine .B ?_;refine T.cond Y (λho=> ?_) (λho=> ?_)
  ·have ho:s.over=true:=ho;rw[E6 ho]at hr;subst hr;refine .B ?_;exact⟨[0],[1],[fv],⟨rfl,⟨_,rfl,rfl,rfl⟩,trivial⟩,⟨rfl,⟨_,rfl,rfl,rfl⟩,trivial⟩,rfl,.nil⟩
  have ho:s.over=false:=ho;rw[E4 (by rw[ho];simp)]at hr;rw[lookG]at hr;refine .B ?_;refine T.cd Y (λh=> ?_) (λh=> ?_)
  ·rw[E6 h]at hr;subst hr;refine .B ?_;refine .X ?_;refine .X ?_;exact⟨[0],[1],[fv],⟨rfl,⟨_,rfl,rfl,rfl⟩,trivial⟩,⟨rfl,⟨_,rfl,rfl,rfl⟩,trivial⟩,rfl,.nil⟩
  rw[E4 h]at hr;refine .B ?_;rw[af (by omega) (by omega),<-Int.natCast_succ];refine .W ?_;refine .M ?_;refine J.cx [0] [1000] [] (xm sb m left ((s.nodes+1:Nat):Int) s.short s.over fv (lE best m.goal s.st) (by omega) (Em (B3 _ _ _) (by omega))) ⟨rfl,⟨_,rfl,rfl,rfl⟩,trivial⟩ (λns hns=> ?_);refine .M ?_;have e0:ns=[]:=EQ hns;subst e0;refine .M ?_;have fd:=gd.few;have hall:=(AG (hS.run s.st hi) (e:=d) (λx hx=>⟨fd.fine x hx,fd.few x hx⟩) hle).2.frz;refine .C hall ?_;refine .M ?_;clear hall;cases hR:fL (jj best m s.st) d with
  |none=>
   rw[hR]at hr;dsimp only at hr;subst hr;refine T.ct Y ?_;refine .M ?_;exact⟨[0],[1],[fv],⟨rfl,⟨_,rfl,rfl,rfl⟩,trivial⟩,⟨rfl,⟨_,rfl,rfl,rfl⟩,trivial⟩,rfl,.nil⟩
  |some l=>
   rw[hR]at hr;dsimp only at hr;obtain⟨gl,hld,hl0,hst⟩:=oI hS gd hle hi hR;have fl:=gl.few;refine T.cf Y ?_;refine T.K (?_:T _ _ (rE sb m best left [(0,.optr 0 0 0 0),(2,.val true (.bool best)),(6,.val true (ao l))] fv { s with nodes:=s.nodes+1 }) _);refine .M ?_;refine .C (tc l fl.small fl.fine).frz ?_;refine .M ?_;cases hsv:bY l with
   |some a=>
    rw[hsv]at hr;dsimp only at hr;refine T.ct Y ?_;refine .M ?_;refine J.sub (Rel.deraw (s:=59) (g:=1001) Y Y) ?_;refine .V ?_;refine J.a Y Y Y Y Y Y Y Y Y Y Y Y Y Y Y Y Y (cy Y) (Em (F7 _ (show(s.st.map cL).length+1<=1099511627777 by rw[EB];omega)) (show 1099511627777*24<=140737488355328 by decide)) ?_;refine J.name 1001 (s:=62) Y Y Y λu=> ?_;refine J.sub (Rel.raw (s:=62) (g:=1001) Y (.inl Y) Y Y Y) ?_;refine .M ?_;refine .W ?_;have e:s.st.map cL++[[aq a]]=(s.st++[a]).map cL:=(by simp[cL]);obtain rfl|rfl:best=false∨best=true:=by cases best<;>simp
    ·subst hr;refine .M ?_;refine T.cf Y ?_;refine .M ?_;refine T.cf Y ?_;refine .M ?_;exact⟨[0],[2],[u],⟨rfl,⟨_,rfl,by rw[ho];rfl,rfl⟩,trivial⟩,⟨rfl,⟨_,rfl,congrArg (λl=>Own.sl 24 1 true l) e,rfl⟩,trivial⟩,rfl,.nil⟩
    ·by_cases hk:m.goal.kind=0
     ·have hr:r=⟨s.nodes+1,s.short,true,s.st++[a]⟩:=(by rw[hr];show Srch.mk _ _ (true&&decide (m.goal.kind=0)) _=_;rw[EF hk];rfl);subst hr;refine .M ?_;refine T.ct2 Y (EF hk) ?_;refine .M ?_;refine .W ?_;refine .M ?_;have eb: ∀st,lE true m.goal st=[]:=λst=>AF (λh=>h.2 hk) st;refine⟨[0],[2],[u],⟨rfl,⟨_,rfl,?_,rfl⟩,trivial⟩,⟨rfl,⟨_,rfl,congrArg (λl=>Own.sl 24 1 true l) e,rfl⟩,trivial⟩,rfl,.nil⟩;show Own.reg _ _=stV m left (s.nodes+1:Nat) s.short true u (lE true m.goal (s.st++[a]));rw[eb,eb];rfl
     ·have hr:r=⟨s.nodes+1,s.short,false,s.st++[a]⟩:=(by rw[hr];show Srch.mk _ _ (true&&decide (m.goal.kind=0)) _=_;rw[EE hk];rfl);subst hr;have hgo:=hF.g.ok hk;have hav:=(iw hF.r.good ⟨l,gl,hl0,hst,hsv⟩);have hva:=uN m.goal a (λ_=>hgo) hF.mb.gl.1 hF.mb.gl.2 (by have:=hav.1;omega) hav.2.2;have hbo:=u5 m.goal (cY m.goal a) hgo (uw (λ_=>hgo) hav.2.2);refine .M ?_;refine T.cf2 Y (EE hk) ?_;refine .M ?_;refine T.ct Y ?_;refine .M ?_;refine T.rdm 17 Y (by kernel_rfl) Y ?_;refine .M ?_;refine .C hva ?_;refine .M ?_;refine .C hbo ?_;refine .M ?_;refine .V ?_;refine .M ?_;refine .W ?_;refine .M ?_;refine⟨[0],[2],[u],⟨rfl,⟨_,rfl,?_,rfl⟩,trivial⟩,⟨rfl,⟨_,rfl,congrArg (λl=>Own.sl 24 1 true l) e,rfl⟩,trivial⟩,rfl,.nil⟩;show Own.reg _ _=stV m left (s.nodes+1:Nat) s.short false u (lE true m.goal (s.st++[a]));rw[B4 hk,ho];rfl
   |none=>
    rw[hsv]at hr;dsimp only at hr;refine T.cf Y ?_;refine .M ?_;obtain⟨hv,hv1,hv2⟩:=oH gl hsv;generalize openV l=v at*;have hll:=gl.len;refine T.K (T.ind (λi:Nat=>rE sb m best left [(0,.optr 0 0 0 0),(2,.val true (.bool best)),(6,.val true (ao l)),(10,.val true (.int .i64 i))] fv { s with nodes:=s.nodes+1 })
     (λi=>i<=v) (λi=>v-i) 0 (Er _) (λ_ _ h=>h) ?_)
    ·intro i hiv ih;have hil:i<l.length:=(by omega);have hm:=EA hil;have hrow:(l.map cD)[((i:Nat):Int).toNat]? =some (cD l[i]):=(by rw[Eo,EJ,E5 hil];rfl);have hfe:=fl.fine _ hm;have hdv:=(bB l[i] hfe.domB.1 (by have:=fl.few _ hm;omega) (by have:=hfe.len;omega)).frz;refine .M ?_;refine .I (r:=cD l[i]) hrow ?_;refine .M ?_;refine .C hdv ?_;refine .M ?_;have hln:((vals l[i]).map cI).length=(vals l[i]).length:=EB ..;by_cases hiv2:i<v
     ·have h1:=hv2 i hiv2;rw[E0,E5 hil]at h1;refine T.ct2 Y (EF (by rw[hln,show(vals l[i]).length=1 from h1];rfl)) ?_;refine .M ?_;rw[ai hil (by omega)];exact T.K (ih (i+1) hiv2 (by omega))
     obtain rfl:i=v:=(by omega);have hg:l.getD i []=l[i]:=(by rw[E0,E5 hil];rfl);rw[hg]at hr hv1;refine T.cf2 Y (EE (by rw[hln];omega)) ?_;refine .M ?_;refine .I (r:=cD l[i]) hrow ?_;refine .M ?_;refine .C hdv ?_;refine .M ?_;have hym:l[i]∈l:=hm;have hwl:=(f4 gl gd hld).1;have hyf:=fl.few _ hym;generalize hxs:vals l[i]=xs at*;have hxm: ∀x∈xs,x∈vals l[i]:=λx hx=>(by rw[hxs];exact hx);refine T.K (T.ind (λx:Value×Srch (List (List Int))×Nat=>rE sb m best left [(0,.optr 0 0 0 0),(2,.val true (.bool best)),(6,.val true (ao l)),(10,.val true (.int .i64 i)),(11,.val true (aq xs)),(12,.val true (.int .i64 x.2.2))] x.1 x.2.1)
      (λx=>x.2.2<=xs.length/\I14 x.2.1.st/\x.2.1.st.length<=x.2.1.nodes/\(x.2.1.nodes:Int)<=1099511627776/\(xs.drop x.2.2).foldl (λs x=>if s.over then s else lookG left (jj best m) (qv best m.goal) n (l.set i [(x,x)]) s) x.2.1=r) (λx=>xs.length-x.2.2) (fv,{ s with nodes:=s.nodes+1 },0) ⟨Er _,hi,HY hsn,by dsimp only;omega,hr.symm⟩ (λ_ _ h=>h) ?_)
     rintro⟨gv,t,k⟩ ⟨hkl,hti,htz,htn,htr⟩ ih2;dsimp only at hkl hti htz htn htr ih2⊢;by_cases hlt:k<xs.length
     ·refine .M ?_;refine T.ct2 Y (EF (by rw[EB];omega)) ?_;refine .M ?_;refine .C (cJ l fl.small (λx hx=>(fl.fine x hx).domB.2.2)) ?_;refine .M ?_;have hxi:=hxm _ (EA hlt);have hrw:(xs.map cI)[((k:Nat):Int).toNat]? =some (cI xs[k]):=(by rw[Eo,EJ,E5 hlt];rfl);refine T.rdw 13 Y (by kernel_rfl) Y ?_;refine .M ?_;refine .I (r:=cI xs[k]) hrw ?_;refine .M ?_;refine .I (r:=cI xs[k]) hrw ?_;refine .M ?_;refine .V ?_;refine .M ?_;refine J.io Y Y Y Y Y Y Y Y Y (by omega) (by simpa using hil) Y ?_;refine .M ?_;refine⟨rfl,?_⟩;refine J.w1 Y Y Y Y Y Y Y Y Y Y Y (enc:=cD) (z:=[(xs[k],xs[k])]) (λ_=>rfl) hil ?_;refine .M ?_;have hc:=mG gl hil (x:=xs[k]) (by rw[hg];exact hxi);obtain⟨gc,hc1,hc2⟩:=hc;refine J.name 1002 (s:=13) Y Y Y λnv=> ?_;refine J.sub (Rel.raw (s:=132) (g:=1002) Y (.inl Y) Y Y Y) ?_;have hlk:=ihn (l.set i [(xs[k],xs[k])]) t gv nv (by have:=hc2 (by rw[hg,hxs];exact hv1);omega) gc ((aW 0).trans _ _ _ hc1 hl0) hti htz htn;refine J.cx [0,1,2] [1000,1001,1002] [1001] hlk ⟨rfl,⟨_,rfl,rfl,rfl⟩,rfl,⟨_,rfl,rfl,rfl⟩,rfl,⟨_,rfl,rfl,rfl⟩,trivial⟩ (λns hns=> ?_);obtain⟨a1,rfl⟩:=xQ hns Y;refine .M ?_;rw[ai hlt (by omega)];have hgo:=(iQ (left:=left) hS n (l.set i [(xs[k],xs[k])]) t (by have:=hc2 (by rw[hg,hxs];exact hv1);omega) gc ((aW 0).trans _ _ _ hc1 hl0) hti).inv;refine T.K (ih2 (a1,if t.over=true then t else lookG left (jj best m) (qv best m.goal) n (l.set i [(xs[k],xs[k])]) t,k+1) ?_ (by dsimp only;omega));rw[EP hlt,En]at htr;refine⟨hlt,?_,?_,?_,htr⟩
      ·dsimp only;split;·exact hti
       ·exact hgo
      ·dsimp only;split;·exact htz
       ·exact l8 (sz:=List.length) (λst a=>Nat.le_of_eq (EZ)) n _ _ htz
      ·dsimp only;split;·exact htn
       ·exact m8 hleft n _ _ htn
     ·obtain rfl:k=xs.length:=(by omega);rw[FR]at htr;have htr:t=r:=htr;subst htr;refine .M ?_;refine T.cf2 Y (EE (by rw[EB];omega)) ?_;refine .M ?_;exact⟨[0],[1],[gv],⟨rfl,⟨_,rfl,rfl,rfl⟩,trivial⟩,⟨rfl,⟨_,rfl,rfl,rfl⟩,trivial⟩,rfl,.nil⟩
theorem Rel.unag {K:Ctx}{sl:List (Nat×SV)}{ow:List (Nat×Option Own)}{nx s:Nat}{fr:Bool}{ps:List PV}(hs:lk sl s=some (.val fr (.agg ps)))(a:Act)(w:World)(h:Rel K ⟨sl,ow,nx⟩ a w):Rel K ⟨(s,.tupB true (ps.map (SV.val fr)))::sl,ow,nx⟩ a w:=by
 obtain⟨φ,hφ⟩:=h;obtain⟨v,hv,hr⟩:=hφ.slot s _ hs;have hr:Rep w _ v (.agg ps):=hr;cases hr with
 |agg vs _ h1 h2=>
  refine⟨φ,hφ.reslot (sv:= .tupB true (ps.map (SV.val fr))) hv ⟨vs,rfl,?_⟩ (λx hx=> ?_) Y slot_put⟩
  ·clear hv h2 hs hr;revert h1;generalize vs=us;intro h1
   induction h1 with
   |nil=>exact .nil
   |cons h _ ih=>exact .cons h ih
  ·obtain⟨p,_,rfl⟩:=EH.1 hx;trivial
theorem yp {m:Mod}(hF:Fit m)(left:Int)(hleft:left<=1099511627776):Spec Tryz.prog 15 false [.agg (cM m),.int .i64 left] [.own 24 1 ((srch14 false m left).st.map cL),.val (.bool (!(srch14 false m left).short)),.val (.int .i64 (srch14 false m left).nodes),.val (.int .i64 0)]:=by
 refine Spec.body Tryz.func15 Y Y Y λw0 Z0=> ?_;have hck:=jD m hF.mb;rw[hF.ck]at hck;refine .B ?_;refine .D hck ?_;refine T.cf2 Y (by decide) ?_;refine T.skip ?_;refine T.seq ?_;refine T.r ?_
 iterate 2 refine J.H Y ?_
 refine J.sub (Rel.unag (s:=15) Y) ?_;refine J.br Y Y Y Y Y ?_;refine J.sub (Rel.agrawZ (s:=17) [] Y Y) ?_;refine J.bx Y Y Y Y Y Y ?_;refine J.H Y ?_;refine J.nil ?_;refine T.sub (Rel.canon (keep:=[2,9]) (os:=[2,9]) Y) (?_:T _ _ ⟨[(2,.optr 0 0 0 0),(9,.optr 1 0 0 0)],[(0,some (.box false (cM m))),(1,some (.box false [.sl (m.vars.map cV),bP m.cons,.int .i64 m.goal.kind,aq m.goal.vars,aq m.goal.coefs,.int .i64 left,.int .i64 0,.bool false,.bool false,.raw (.slice none 0 0),.raw (.slice none 0 0)]))],2⟩ _);refine T.sub (Rel.ownN 1003 51 7) ?_;refine T.sub (Rel.cellF 1003 10 (q:=1) (n:=2) (λb h=>h) Y Y Y Y Y) ?_;refine T.sub (Rel.ownN 1001 24 1) ?_;refine T.nameO 1000 1 Y Y λsu=> ?_;refine T.canon (keep:=[2,9,1000,1001]) (os:=[2,1000,1001]) Y ?_;refine T.knownp 1000 1 Y Y λsb e1=> ?_;obtain rfl:su=pV sb:=e1;refine .M ?_;refine .C (ll m hF.mb) ?_;refine J.name 1002 (s:=21) Y Y Y λdv=> ?_;refine J.sub (Rel.raw (s:=21) (g:=1002) Y (.inl Y) Y Y Y) ?_;refine J.sub (Rel.raw (s:=19) (g:=1000) Y (.inr Y) Y Y Y) ?_;have hrk:C5 sb m false left (domsM m) (.slice none 0 0) dv ⟨0,false,false,[]⟩ (srch14 false m left):=zz sb hF false left hleft (weight (domsM m)+1) (domsM m) ⟨0,false,false,[]⟩ (.slice none 0 0) dv (Fd _) hF.r.good leD.rfl' (λa h=>by cases h) (Er _) (by show((0:Nat):Int)<=_;omega);generalize srch14 false m left=r at*;refine J.cx [1,2,3] [1000,1001,1002] [1001] hrk ⟨rfl,⟨_,rfl,rfl,rfl⟩,rfl,⟨_,rfl,rfl,rfl⟩,rfl,⟨_,rfl,rfl,rfl⟩,trivial⟩ (λns hns=> ?_);obtain⟨a1,rfl⟩:=xQ hns Y;refine .M ?_;refine T.canon (keep:=[9,1001]) (os:=[9,1001]) Y ?_;refine .A ?_
 conv=>whnf
 iterate 17 refine J.H Y ?_
 refine J.nil ?_;refine T.sub (Rel.deraw (s:=4) (g:=1001) Y Y) ?_;refine .B ?_;exact⟨_,.o Y Y Y (λ_=> .inl Y) (by simp) (.v rfl rfl rfl (λ_=>rfl) (.v Y Y Y (λ_=>rfl) (.v Y Y Y (λ_=>rfl) .nil)))⟩
theorem CQ {b:Mod}(h:Fit b)(left:Int): ∀a∈(srch14 false b left).st,a.length=(domsM b).length:=by
 have hg:=iQ (left:=left) (DM h false) (weight (domsM b)+1) (domsM b) ⟨0,false,false,[]⟩ (Fd _) h.r.good leD.rfl' (λa e=>by cases e);refine hg.reach.keep (P:=λt=> ∀a∈t,a.length=(domsM b).length) (λa e=>by cases e) λu a hu hs c hc=> ?_;rcases EW.1 hc with hc|hc;·exact hu c hc
 ·rw[EI.1 hc];exact(iw h.r.good hs).1
set_option maxHeartbeats 1000000 in
theorem z2 (m:Mod)(budget:Int)(hm:ModX m):Spec Tryz.prog 3 true [.agg (cM m),.int .i64 budget] [.val (.bool true)]:=by
 refine Spec.body Tryz.func3 Y Y Y λw0 Z0=> ?_;have hrs:=vL m 300 hm.i (by omega);have hb:=qL m;have hfit:=λh=>(Do (most:=300) hb h (by omega)).1;have hck:=jD _ hb;have hmk:=j5 _ (Dp hm);generalize okM (boundM m) 300=ok at*;generalize boundM m=b at*;have hno:=λhe=>yE b (min budget 400) (checkR b) he hmk;clear hmk;refine .B ?_;refine .D hrs ?_;refine .X ?_;cases ok with
 |false=>
  refine .B ?_;refine .D hck ?_;refine T.cd Y (λhe=> ?_) (λhe=> ?_)
  ·refine .B ?_;refine .D iY ?_;exact⟨_,.v Y Y Y (λh=>by cases h) .nil⟩
  ·refine .B ?_;refine T.ct Y ?_;refine .B ?_;refine .D (hno he) ?_;refine .D hck ?_;refine J.g Y Y Y (λ_=> ?_) (λh=>EX Y h);refine .B ?_;refine .D iY ?_;exact⟨_,.v Y Y Y (λh=>by cases h) .nil⟩
 |true=>
  have hF:=hfit Y;have hmin:min budget 400<=1099511627776:=(by omega);have s1:=(CI hF (min budget 400) hmin).frz;have s2:=(yp hF (min budget 400) hmin).frz;have hsz:(srch14 false b (min budget 400)).st.length<=(srch14 false b (min budget 400)).nodes:=l8 (sz:=List.length) (λst a=>Nat.le_of_eq (EZ)) _ _ _ (Er _);have htop:((srch14 false b (min budget 400)).nodes:Int)<=1099511627776:=m8 hmin _ _ _ (by show((0:Nat):Int)<=_;omega);have hdl:(domsM b).length<=1024:=(by have:=hF.mb.vl;simpa[domsM]using this);have hln: ∀a∈(srch14 false b (min budget 400)).st,a.length<=1024:=λa ha=>(by rw[CQ hF _ a ha];exact hdl);rw[<-AT b (min budget 400)]at s1;have hsm:=xd b hF.mb;generalize srch14 false b (min budget 400)=r at*;obtain⟨nodes,short,over,st⟩:=r;dsimp only at s1 s2 hsz htop hln;have l1:=gQ st st (by omega) (λx hx=>by have:=hln x hx;omega);rw[EF Y]at l1;refine .B ?_;refine T.cf Y ?_;refine .B ?_;refine T.cf Y ?_;refine .B ?_;refine J.cx [] [] [1000] (Aw b hF.mb) trivial (λns hns=> ?_);obtain⟨u,rfl⟩:=xQ hns Y;refine .M ?_;refine .L ?_;refine .W ?_;refine J.sub (Rel.cellF 1000 4 (q:=2) (n:=1) (λb h=>h) Y Y Y Y Y) ?_;refine J.sub (Rel.unbx (s:=2) (λ_ h=>h) Y Y) ?_;refine J.sub (Rel.unbx (s:=11) (λ_ h=>h) Y Y) ?_;refine J.nil ?_;refine T.canon (keep:=[2,6,11]) (os:=[]) Y ?_;refine T.sub (Rel.fp (s:=2) Y) ?_;refine T.sub (Rel.fp (s:=11) Y) ?_;refine T.snap [2,11] [6] λw1 vs hfx=> ?_;have hfx2:=hfx 2 _ _ Y;have hfx11:=hfx 11 _ _ Y;clear hfx;refine T.K (?_:T _ _ ⟨[(2,.fix (vs 2) (.ptr (cM b))),(6,.val true (.int .i64 (min budget 400))),(11,.fix (vs 11) (.ptr (cM b)))],[],0⟩ _);refine .B ?_;refine .D s1 ?_;refine .D s2 ?_;refine .C l1 ?_;have hbb: ∀z:Bool,(!(z==z))=false:=λz=>(by cases z<;>rfl);cases short
  all_goals
   refine .B ?_;refine J.g Y Y Y (λh=>EX Y h) (λ_=> ?_);refine .B ?_;refine T.cd Y (λh=>EX Y h) (λ_=> ?_);refine .B ?_;refine T.K (T.ind (λs:Nat×List (List Int)=>⟨[(2,.fix (vs 2) (.ptr (cM b))),(11,.fix (vs 11) (.ptr (cM b))),(12,.val true (bC s.2)),(20,.val true (.int .i64 s.1))],[],0⟩) (λs=>s.1<=st.length/\s.2.map List.length=st.map List.length) (λs=>st.length-s.1) (0,st) ⟨by simp,rfl⟩ (λ_ _ h=>h) ?_);rintro⟨i,D1⟩ ⟨hi,hD1⟩ ih;have hl1:D1.length=st.length:=(by have:=congrArg List.length hD1;simpa using this);refine .B ?_;refine T.cd Y (λh4=> ?_) (λh4=> ?_)
   ·have h4:i<D1.length:=(by simpa using h4);refine .B ?_;refine T.K (T.ind (λs:Nat×List (List Int)=>⟨[(2,.fix (vs 2) (.ptr (cM b))),(11,.fix (vs 11) (.ptr (cM b))),(12,.val true (bC s.2)),(20,.val true (.int .i64 i)),(21,.val true (.int .i64 s.1))],[],0⟩) (λs=>s.1<=D1[i].length/\s.2.map List.length=st.map List.length) (λs=>D1[i].length-s.1) (0,D1) ⟨by simp,hD1⟩ (λ_ _ h=>h) ?_);rintro⟨k,D2⟩ ⟨hk,hD2⟩ ih2;have hl2:D2.length=st.length:=(by have:=congrArg List.length hD2;simpa using this);have hi2:i<D2.length:=(by omega);have hle:D2[i].length=D1[i].length:=by
     have e2:(D2.map List.length)[i]? =(D1.map List.length)[i]? :=(by rw[hD2.trans hD1.symm]);simpa[E5 hi2,E5 h4]using e2
    have hsz:D1[i].length*8<=140737488355328:=by
     have e2:(D1.map List.length)[i]? =(st.map List.length)[i]? :=(by rw[hD1]);have hi3:i<st.length:=(by omega);simp only[EJ,E5 h4,E5 hi3,FJ,E9]at e2;have:=hln st[i] (EA hi3);omega
    refine .B ?_;refine .F (r:=cL D2[i]) (ax hi2) ?_;refine T.cd Y (λh5=> ?_) (λh5=> ?_)
    ·have h5:k<D2[i].length:=(by simpa using h5);refine .B ?_;refine .F (r:=cL D2[i]) (ax hi2) ?_;refine .F (r:=cI D2[i][k]) (ax h5) ?_;refine J.tr (s:=12) (D:=bC D2) [2,11] [20,21] (λ_ h=>h) (λ_ h=>h) Y Y Y Y Y Y Y Y (λq u p hq h=>by
      simp only[ET,HI,or_false]at hq;rcases hq with rfl|rfl;·cases h;exact hfx2
      ·cases h;exact hfx11) λD3 hsh=> ?_
     obtain⟨D3,rfl,e3⟩:=AV hsh;refine .B ?_;rw[ai (l:=D1[i].length) (by omega) (by omega)];exact T.K (ih2 (k+1,D3) ⟨by omega,e3.trans hD2⟩ (by simp only;omega))
    ·have h5:k=D2[i].length:=(by simp at h5;omega);refine .B ?_;rw[ai (l:=st.length) (by omega) (by omega)];exact T.K (ih (i+1,D2) ⟨by omega,hD2⟩ (by simp only;omega))
   ·refine .B ?_;refine .D hsm ?_;refine .D iY ?_;exact⟨_,.v Y Y Y (λh=>by cases h) .nil⟩
set_option maxRecDepth 100000
section
variable {H:Type}{henc:TypeId×Value->H}{w:World}
theorem gO:dW henc Tryz.prog w 3 cI (λn=> -9223372036854775808<=n/\n<=9223372036854775807):=rN (by kernel_rfl)
theorem pS:dW henc Tryz.prog w 24 (λl=>[aq l]) (λl=>l.length*8<=reachBytes):=
 (d5 (t:=24) (e:=3) (by kernel_rfl) gO (λ_=>by kernel_rfl) (by decide +kernel) (λa p hp=>by simp[cI]at hp;subst hp;rfl)).map id (λ_=>rfl) λl h=>h.1
theorem Bj:dW henc Tryz.prog w 34 (λl=>[bC l]) (λl=>l.length*24<=reachBytes/\∀x∈l,x.length*8<=reachBytes):=
 (d5 (t:=34) (e:=24) (by kernel_rfl) pS (λ_=>by kernel_rfl) (by decide +kernel) (λa p hp=>by simp at hp;subst hp;rfl)).map id (λ_=>rfl) λl h=>h
end
section
variable {H:Type}{henc:TypeId×Value->H}{w:World}
theorem Cq:dW henc Tryz.prog w 9 (λs:ByteArray=>[.str s]) (λ_=>True):=by
 intro fuel cs x h _ _;obtain⟨s,rfl,_,_⟩:=DataW.trod_string (show Tryz.prog.underlying 9=some .string by kernel_rfl) h;exact⟨s,.cons (.str _) .nil,trivial⟩
theorem vw:dW henc Tryz.prog w 53 cR (λ_=>True):=by
 have h:=eA (henc:=henc) (w:=w) Tryz.underlying53 (aY gO Y (aY gO (by kernel_rfl) (gr _))) (by kernel_rfl);exact h.map (λx=>(x.1,x.2.1)) (λ_=>rfl) λ_ _=>trivial
theorem Cr:dW henc Tryz.prog w 54 (λl=>[dm l]) (λl=>l.length*16<=reachBytes):=
 (d5 (t:=54) (e:=53) (by kernel_rfl) vw (λ_=>by kernel_rfl) (by decide +kernel) (λa p hp=>by simp[cR]at hp;rcases hp with rfl|rfl<;>rfl)).map id (λ_=>rfl) λl h=>h.1
theorem zL:dW henc Tryz.prog w 56 cV (λv=>v.2.length*16<=reachBytes):=by
 have h:=eA (henc:=henc) (w:=w) Tryz.underlying56 (aY Cq Y (aY Cr (by kernel_rfl) (gr _))) (by kernel_rfl);exact h.map (λx=>(x.1,x.2.1)) (λ_=>rfl) λx h=>h.2.1
theorem xz:dW henc Tryz.prog w 22 (λl:List (ByteArray×List (Int×Int))=>[.sl (l.map cV)]) (λl=>l.length*40<=reachBytes/\∀v∈l,v.2.length*16<=reachBytes):=
 (d5 (t:=22) (e:=56) (by kernel_rfl) zL (λ_=>by kernel_rfl) (by decide +kernel) (λa p hp=>by simp[cV]at hp;rcases hp with rfl|rfl<;>rfl)).map id (λ_=>rfl) λl h=>h
theorem mod_one (m:Mod): ∀p∈cM m,p.one=true:=by
 intro p hp;simp[cM,bP]at hp;rcases hp with rfl|rfl|rfl|rfl|rfl<;>rfl
end
end Go.Proofs.YtopcjbahjjhdmaaGreat
namespace Go.Proofs.YtopcjbahjjhdmaaGreat
open Go Go.RowKit
set_option linter.unusedVariables false
set_option maxRecDepth 100000
section
variable {H:Type}{henc:TypeId×Value->H}{w:World}
theorem vB:dW henc Tryz.prog w 24 (λl=>[aq l]) (λl=>l.length*8<=reachBytes/\Ae l):=
 (d5 (t:=24) (e:=3) (by kernel_rfl) (rN (by kernel_rfl)) (λ_=>by kernel_rfl) (by decide +kernel) (λa p hp=>by simp[cI]at hp;subst hp;rfl)).map id (λ_=>rfl) λl h=>⟨h.1,λk hk=>h.2 k hk⟩
theorem xB:dW henc Tryz.prog w 51 cC (λc=>(c.vars.length*8<=140737488355328/\c.coefs.length*8<=140737488355328/\c.rows.length*8<=140737488355328/\∀r∈c.rows,r.length*8<=140737488355328)/\Ae c.coefs):=by
 have h:=eA (henc:=henc) (w:=w) Tryz.underlying51 (aY gO Y (aY pS (by kernel_rfl) (aY vB (by kernel_rfl) (aY gO (by kernel_rfl) (aY gO (by kernel_rfl) (aY Bj (by kernel_rfl) (aY gO (by kernel_rfl) (gr _)))))))) (by kernel_rfl);refine h.map (λx=>(⟨x.1,x.2.1,x.2.2.1,x.2.2.2.1,x.2.2.2.2.1,x.2.2.2.2.2.1,x.2.2.2.2.2.2.1⟩:Con)) (λ_=>rfl) λx h=> ?_;obtain⟨_,h1,h2,_,_,h3,_⟩:=h;have e:reachBytes=140737488351232:=rfl;rw[e]at h1 h2 h3;exact⟨⟨by simp only;omega,by have:=h2.1;simp only;omega,by simp only;omega,λy hy=>by have:=h3.2 y hy;omega⟩,h2.2⟩
theorem vA:dW henc Tryz.prog w 23 (λl=>[bP l]) (λl=>l.length*104<=reachBytes/\∀c∈l,(c.vars.length*8<=140737488355328/\c.coefs.length*8<=140737488355328/\c.rows.length*8<=140737488355328/\∀r∈c.rows,r.length*8<=140737488355328)/\Ae c.coefs):=
 (d5 (t:=23) (e:=51) (by kernel_rfl) xB (λ_=>by kernel_rfl) (by decide +kernel) (λa p hp=>by simp[cC]at hp;rcases hp with rfl|rfl|rfl|rfl|rfl|rfl|rfl<;>rfl)).map id (λ_=>rfl) λl h=>h
theorem vz:dW henc Tryz.prog w 26 cG (λg=>g.vars.length*8<=reachBytes/\g.coefs.length*8<=reachBytes/\Ae g.coefs):=by
 have h:=eA (henc:=henc) (w:=w) Tryz.underlying26 (aY gO Y (aY pS (by kernel_rfl) (aY vB (by kernel_rfl) (gr _)))) (by kernel_rfl);exact h.map (λx=>(⟨x.1,x.2.1,x.2.2.1⟩:Goal)) (λ_=>rfl) λx h=>⟨h.2.1,h.2.2.1⟩
theorem xA:dW henc Tryz.prog w 28 cM ModX:=by
 have h:=eA (henc:=henc) (w:=w) Tryz.underlying28 (aY xz Y (aY vA (by kernel_rfl) (aY vz (by kernel_rfl) (gr _)))) (by kernel_rfl);refine h.map (λx=>(⟨x.1,x.2.1,x.2.2.1⟩:Mod)) (λ_=>by simp[cM,cG]) λx h=> ?_;obtain⟨⟨h1,h2⟩,⟨h3,h4⟩,⟨h5,h6,h7⟩,_⟩:=h;have e:reachBytes=140737488351232:=rfl;rw[e]at h1 h3 h5 h6;exact⟨⟨λv hv=>by have:=h2 v hv;rw[e]at this;omega,by simp only;omega,by simp only;omega,λc hc=>(h4 c hc).1,by simp only;omega⟩,λc hc=>(h4 c hc).2,h7⟩
end
end Go.Proofs.YtopcjbahjjhdmaaGreat
namespace Go.Proofs.YtopcjbahjjhdmaaGreat.searchAlls
open Go.ChangeShapes Go.WideShapes Go.ChangeAt Go.RowKit
theorem own:ownKnob Tryz.prog.godebug=none:=by kernel_rfl
theorem laidOut:laidOutB Tryz.prog=true:=by kernel_rfl
set_option maxRecDepth 100000 in
theorem lifted (os:Os)(started:os.Started)(H:Type)(enc:TypeId×Value->H):
  ReturnsInHanded {} Tryz.checked os 3 .any (Rows.searchAllsSpec.pre6 enc Tryz.prog Tryz.f3 Rows.searchAllsRow.domain false) (Rows.searchAllsSpec.post enc Tryz.prog Tryz.f3 false true false false):=by
 refine returnsInHanded_of_change_sized (C:=Tryz.checked) own started (by kernel_rfl) Tryz.func3
  (ChangeSpec.witness6 (enc:=enc) (C:=Tryz.checked) false ⟨#[],#[.agg #[.slice none 0 0,.slice none 0 0,.int .i64 0,.slice none 0 0,.slice none 0 0],.int .i64 0],[]⟩ 8 (by kernel_rfl) (by kernel_rfl) (by kernel_rfl) (by kernel_rfl)) ?_
 intro W base args ds gs before hval0 hW hcnd hsz0 _;have hsz:(DataW.weightsEach Tryz.prog (Tryz.f3.params.toList++Rows.searchAllsSpec.plain.varTypes Tryz.prog) (ds++gs)).all (· <=reachBytes)=true:=hsz0;have hval: ∀(j:Nat) t v,Tryz.f3.params[j]? =some t->args[j]? =some v->Value.okWide Tryz.prog W .any base t v:=hval0;have hW':=hW;obtain⟨p,q,hA0,hV,rfl,hfz,hnd⟩:=hW;have hA:DataW.TrodAll enc Tryz.prog W 0 (λ_=>true) true Tryz.f3.params.toList args.toList ds p:=hA0;rw[Tryz.params3]at hA hval hsz;obtain⟨v0,vs0,d0,ds0,p0,q0,hargs,rfl,rfl,h0,r0⟩:=trodAll_cons hA;obtain⟨v1,vs1,d1,ds1,p1,q1,rfl,rfl,rfl,h1,r1⟩:=trodAll_cons r0;obtain⟨rfl,rfl,rfl⟩:=trodAll_nil r1;obtain rfl:args= #[v0,v1]:=(by cases args;simp_all);obtain⟨rfl,rfl⟩:=trodVars_none hV;have hv0:=hval 0 28 v0 Y Y;obtain⟨cs0,rfl,_,_⟩: ∃cs,v0= .agg cs/\cs.size=Tryz.prog.cellsOf 28/\Row.okWide Tryz.prog W .any base 28 cs:=by
  unfold Value.okWide at hv0;rw[Tryz.underlying28]at hv0;exact hv0
 have k0:=h0;have lt0: ∀x∈p0,x.block<W.heap.size:=(by obtain⟨m,hm⟩:=k0;exact DataW.trod_lt m _ _ _ hm);obtain⟨fuel0,hf0⟩:=h0;obtain⟨budget,rfl,rfl,rfl,w1⟩:=open_int Tryz.underlying3 (hval 1 3 v1 Y Y) h1;have hw:(DataW.weightsEach Tryz.prog (28::3::Rows.searchAllsSpec.plain.varTypes Tryz.prog) (d0:: .lit (.int .i64 budget)::[])).all (· <=reachBytes)=true:=hsz;rw[DataW.weightsEach,Ft,EL]at hw;obtain⟨hw0,hw⟩:=hw;rw[DataW.weightsEach,Ft,EL]at hw;obtain⟨hw1,hw⟩:=hw;obtain⟨m,hrep0,hm⟩:=xA fuel0 _ (d0,p0) hf0 hw0 (nf hfz λp hp=>by simp[hp]);clear hA0 hval0 hsz0 hsz hw;have hcs0:(Value.agg cs0).cells.toList=cs0.toList:=rfl;rw[hcs0]at hrep0;have harg0:Rep W (λ_=>True) (.agg cs0) (.agg (cM m)):=by
  have:=Rep.agg (w:=W) (Z:=λ_=>True) cs0.toList (cM m) hrep0 (mod_one m);simpa using this
 refine((z2 m budget hm).out W (λ_=>True) [.agg cs0,.int .i64 budget] (.cons harg0 (.cons (.int _ _) .nil))).mono λe W' ⟨rs,he,bel,hret⟩=> ?_;have hrs:rs=[.bool true]:=by
  have h:=hret.each;cases h with
  |cons h1 h2=>cases h2;cases h1;rfl
 subst hrs;subst he;exact⟨_,rfl,_,_,_,[],_,[],hW',trodAll_mk1 (shut_bool Tryz.underlying4 _),trodAll_cons_mk (Below.trod laidOut (by kernel_rfl) (FV (by kernel_rfl)) k0 bel lt0) (trodAll_cons_mk (shut_int Tryz.underlying3 w1) trodAll_mk0),rfl,bel.frame _,λh=>by cases h⟩
theorem over:Rows.searchAllsRow.holds Tryz.pinned (OpenSpec.ofChange Rows.searchAllsSpec):=
 OpenClaim.holds_of_wide 3 Tryz.f3 Y Y Y Y Y Y Y ⟨rfl,rfl,rfl,rfl,rfl⟩ Y Y Y Y Y (by kernel_rfl) Tryz.func3 (by kernel_rfl)
  (FV (by kernel_rfl)) (by unfold Func.isWrapper;first|(rw[E6 (by decide +kernel)];kernel_rfl)|(rw[E4 (by decide +kernel)];exact⟨rfl,rfl⟩))
  (λos started H enc _=>lifted os started H enc)
theorem proved:Rows.SearchAllsSaid:=over
#print axioms proved
end Go.Proofs.YtopcjbahjjhdmaaGreat.searchAlls
namespace Go.Proofs.YtopcjbahjjhdmaaGreat
theorem searchAlls_holds:Rows.SearchAllsSaid:=searchAlls.proved
end Go.Proofs.YtopcjbahjjhdmaaGreat
