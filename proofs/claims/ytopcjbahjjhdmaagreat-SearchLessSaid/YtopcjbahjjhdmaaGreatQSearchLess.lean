/- The statement SearchLess: the law, and its row; ahead of it what it needs (FwO, PwE, FwP, PwF, PwG, FwR, FwS, FwT, FwU, FwQ, FwV, FwW, FwX, PwH, PwI, PwJ, PwK, FwZ, LwGWhole, FwY, LwGLess, RowA, RowM, RowGLess). -/
import Derived.Test.YtopcjbahjjhdmaaGreatB9
import Derived.Laws.Strings
import Derived.Test.YtopcjbahjjhdmaaGreatRows
import Derived.WalkKit
import Derived.ProofKit
import Derived.OpenShut
import Derived.ShutString
import Derived.ChangeOld
import Derived.Below
import Derived.SizedLaws
namespace Go.Proofs.YtopcjbahjjhdmaaGreat
open Go Go.RowKit
set_option linter.unusedVariables false
set_option linter.unusedSimpArgs false
set_option maxRecDepth 8000
def Bh (g:Goal)(_:Option (List Int))(a:List Int):Option (List Int)×Bool:=(some a,decide (g.kind=0))
def mr (cons:List Con)(g:Goal)(t:Option (List Int)):List Con:=match t with
 |none=>cons
 |some a=>if g.kind=0 then cons else cons++[ku g (eE g a)]
def m3 (m:Mod)(kb:Nat)(bp sp kp:Value):Fnd (Option (List Int)):=⟨42,[.raw bp,.raw sp,.ptr (cM m),.raw kp],bp,sp,kp,fun t _ _=> .box true [av (t.getD [])],fun t _ _=> .box true [.bool t.isSome],fun _ _ _=> .box true [.raw (pV kb)],fun _=> .sl 3 1 true [],fun _=> .sl 3 1 true [],mr m.cons m.goal,Bh m.goal,fun _=>0⟩
theorem qP {σ:Type}{d0:aa}{con:σ→List Con}{t:σ}{a:List Int}(gd:GoodD d0.length d0)(h:uX d0 con t a):a.length=d0.length∧(∀i,i<d0.length→a.getD i 0∈vals (d0.getD i []))∧∀x∈a,-1048576≤x∧x≤1048576:=by
 obtain⟨e,ge,hle,_,hs⟩:=h
 obtain⟨s1,s2⟩:=pS ge hs
 have hv: ∀i,i<d0.length→a.getD i 0∈vals (d0.getD i []):=fun i hi=>by
  have h1:=s2 (i:Int) (by omega) (by omega)
  have h2:=hle.2 (i:Int) (atR a i) (by omega) (by rw[h1];simp)
  unfold domAt atR at h2
  rwa[if_neg (by omega),D1]at h2
 refine⟨s1,hv,fun x hx=> ?_⟩
 obtain⟨i,hi,rfl⟩:=List.mem_iff_getElem.1 hx
 have h1:=hv i (by omega)
 have h1:a[i]∈vals (d0.getD i []):=by rw[C0 (l:=a),C1 hi]at h1;exact h1
 rw[C0,C1 (by omega)]at h1
 exact(gd.few.fine _ (C5 _)).val _ h1
set_option maxHeartbeats 1000000 in
theorem AB (kb sb:Nat)(m:Mod)(left:Int)(d0:aa)(gd:GoodD d0.length d0)(hdl:d0.length≤1024)(hcl:m.cons.length≤4095)(hg:m.goal.kind≠0→GoalOk m.goal)(bp sp kp:Value)(I:Option (List Int)→Prop):FndOK (m3 m kb bp sp kp) kb sb m left d0 I:=by
 refine⟨fun t a g1 g2 nodes short over _ _ hf=> ?_⟩
 obtain⟨hal,_,hav⟩:=qP gd hf
 refine SpecX.body (fn:=Tryz.f42) [1000,1001,1002,1003,1004,1005] [1004,1005] rfl rfl rfl rfl fun w0 Z=> ?_
 refine T.sub (Rel.derawp (s:=1) (g:=1001) rfl rfl rfl) ?_
 refine T.sub (Rel.derawp (s:=2) (g:=1002) rfl rfl rfl) ?_
 refine T.sub (Rel.derawp (s:=4) (g:=1003) rfl rfl rfl) ?_
 refine .B ?_
 refine .W ?_
 refine .W ?_
 refine J.sub (Rel.canon (keep:=[0,3,4,1000,1001,1002,1003,1004,1005]) (os:=[1000,1001,1002,1003,1004,1005]) rfl) (?_:J _ _ _ _ ⟨[(0,.val true (av a)),(3,.val false (.ptr (cM m))),(4,.optr 3 0 0 0),(1000,.eq (pV kb) 0),(1001,.eq bp 1),(1002,.eq sp 2),(1003,.eq kp 3),(1004,.eq g1 4),(1005,.eq g2 5)],[(0,some (kV m (pV sb) (mr m.cons m.goal t) left nodes short over (m3 m kb bp sp kp).pv)),(1,some (.box true [av a])),(2,some (.box true [.bool true])),(3,some (.box true [.raw (pV kb)])),(4,some (.sl 3 1 true [])),(5,some (.sl 3 1 true []))],6⟩ _)
 refine .B ?_
 refine T.cd rfl (fun hk=> ?_) (fun hk=> ?_)
 ·have e1:(m3 m kb bp sp kp).fnd t a=(some a,true):=by show(some a,decide (m.goal.kind=0))=_;rw[decide_eq_true hk]
  rw[e1]
  refine .B ?_
  have e2: ∀u,mr m.cons m.goal u=m.cons:=fun u=>by cases u with|none=>rfl|some b=>exact if_pos hk
  refine⟨[0,1,2,3],[4,5],[g1,g2],⟨rfl,⟨_,rfl,?_,rfl⟩,rfl,⟨_,rfl,rfl,rfl⟩,rfl,⟨_,rfl,rfl,rfl⟩,rfl,⟨_,rfl,rfl,rfl⟩,trivial⟩,⟨rfl,⟨_,rfl,rfl,rfl⟩,rfl,⟨_,rfl,rfl,rfl⟩,trivial⟩,rfl,.val rfl rfl (fun _=>rfl) .nil⟩
  show Own.reg _ _=kV m (pV sb) (mr m.cons m.goal (some a)) left nodes short over _
  rw[e2,e2]
  rfl
 ·have e1:(m3 m kb bp sp kp).fnd t a=(some a,false):=by show(some a,decide (m.goal.kind=0))=_;rw[decide_eq_false hk]
  rw[e1]
  have hgo:=hg hk
  have hgo2:=hgo
  obtain⟨g4,g5,g6,g7⟩:=hgo2
  have hat: ∀v,-1048576≤atR a v∧atR a v≤1048576:=fun v=>by
   unfold atR
   split
   ·omega
   ·rw[C0]
    cases h:a[v.toNat]? with
    |none=>simp
    |some x=>exact hav x (C4 h)
  have hvb: -4611686018427387904≤eE m.goal a∧eE m.goal a≤4611686018427387904:=by
   unfold eE
   rw[if_neg hk,←jx]
   have:=pa m.goal.coefs (pickedR m.goal.vars a) g6 (fun x hx=>by obtain⟨v,_,rfl⟩:=List.mem_map.1 hx;exact hat v)
   omega
  have hbe:=uR m.goal (eE m.goal a) hgo hvb
  have e2:mr m.cons m.goal (some a)=m.cons++[ku m.goal (eE m.goal a)]:=if_neg hk
  have hva:=tC m.goal a hg (by omega) hav
  have hcc:=mZ m.cons (by omega)
  refine .M ?_
  refine T.rdw 15 rfl (by kernel_rfl) rfl ?_
  refine J.lp 1000 (b:=kb) (q:=0) rfl ?_
  refine .M ?_
  refine .C hcc ?_
  refine .M ?_
  refine .C hva ?_
  refine .M ?_
  refine .C hbe ?_
  refine .M ?_
  refine .V ?_
  refine J.ad rfl rfl rfl rfl rfl rfl rfl rfl rfl rfl rfl rfl rfl rfl rfl rfl rfl rfl (cB rfl) (D3 (DJ _ (show(m.cons.map cC).length+1≤4096 by rw[C6];omega)) (show 4096*104≤140737488355328 by decide)) ?_
  refine .M ?_
  refine⟨by kernel_rfl,?_⟩
  refine J.sub (Rel.frzX (s:=24) (o:=7) rfl rfl ⟨.inr ⟨1000,_,_,rfl,rfl,by decide⟩,.inr ⟨1001,_,_,rfl,rfl,by decide⟩,.inr ⟨1002,_,_,rfl,rfl,by decide⟩,.inr ⟨1003,_,_,rfl,rfl,by decide⟩,.inr ⟨1004,_,_,rfl,rfl,by decide⟩,.inr ⟨1005,_,_,rfl,rfl,by decide⟩,trivial⟩) ?_
  refine .W ?_
  refine .M ?_
  have e3:m.cons.map cC++[cC (ku m.goal (eE m.goal a))]=(mr m.cons m.goal (some a)).map cC:=by rw[e2,DF];rfl
  refine⟨[0,1,2,3],[4,5],[g1,g2],⟨rfl,⟨_,rfl,?_,rfl⟩,rfl,⟨_,rfl,rfl,rfl⟩,rfl,⟨_,rfl,rfl,rfl⟩,rfl,⟨_,rfl,rfl,rfl⟩,trivial⟩,⟨rfl,⟨_,rfl,rfl,rfl⟩,rfl,⟨_,rfl,rfl,rfl⟩,trivial⟩,rfl,.val rfl rfl (fun _=>rfl) .nil⟩
  show Own.reg _ _=kV m (pV sb) (mr m.cons m.goal (some a)) left nodes short over _
  unfold kV cN
  rw[←e3]
  rfl
theorem goal_kinds {d:aa}{g:Goal}(h:ez d g=0):(g.kind=0∧g.vars=[]∧g.coefs=[])∨((g.kind=1∨g.kind=2)∧conR d (ei g)=0):=by
 unfold ez at h
 split at h
 ·rename_i h1;exact .inr ⟨h1,h⟩
 ·split at h
  ·cases h
  ·rename_i h1 h2
   exact .inl ⟨by omega,CT (by omega),CT (by omega)⟩
theorem uU (k:Int):aG (-k)=aG k:=by unfold aG;omega
theorem sD (l:List Int):aj (l.map (- ·))=aj l:=by
 unfold aj
 rw[Dz]
 refine congrArg List.sum (DS fun k _=> ?_)
 show aG (-k)*1048576=_
 rw[uU]
structure GoalIn (d:aa)(g:Goal):Prop where
 few:g.vars.length≤1024
 kind:g.kind=0∨((g.kind=1∨g.kind=2)∧SumFine d g.vars g.coefs∧g.vars.Nodup∧0<g.vars.length∧aj g.coefs≤4611686018427387904)
theorem xt {d:aa}{g:Goal}(gd:GoodD d.length d)(hf:g.vars.length≤1024)(hc:g.coefs.length≤1024)(h:ez d g=0):GoalIn d g:=by
 refine⟨hf,?_⟩
 rcases goal_kinds h with ⟨h1,_⟩|⟨h1,h2⟩
 ·exact .inl h1
 ·have hcb:ConB (ei g):=⟨by show(g.vars.length+1)*8≤_;omega,by show g.coefs.length*8≤_;omega,by simp[ei],by simp[ei]⟩
  have hs:=rt hcb h2 rfl gd.few.fine gd.few.small
  obtain⟨_,h3⟩:=pj (jz h2)
  have:=bE (ei g).rhs
  exact .inr ⟨h1,hs.fine,hs.nod,hs.pos,by have h3:aj g.coefs+aG (ei g).rhs≤_:=h3;omega⟩
theorem GoalIn.ok {d:aa}{g:Goal}(h:GoalIn d g)(hk:g.kind≠0):GoalOk g:=by
 rcases h.kind with h1|⟨_,h1,_,_,h2⟩
 ·exact absurd h1 hk
 ·exact⟨h1.len,h.few,h1.ck,h2⟩
theorem CF {a:List Int}(h: ∀x∈a,-1048576≤x∧x≤1048576)(v:Int): -1048576≤atR a v∧atR a v≤1048576:=by
 unfold atR
 split
 ·omega
 ·rw[C0]
  cases e:a[v.toNat]? with
  |none=>simp
  |some x=>exact h x (C4 e)
theorem zc {g:Goal}{a:List Int}(hg:g.kind≠0→GoalOk g)(h: ∀x∈a,-1048576≤x∧x≤1048576): -4611686018427387904≤eE g a∧eE g a≤4611686018427387904:=by
 unfold eE
 split
 ·omega
 ·rename_i hk
  obtain⟨_,_,g6,g7⟩:=hg hk
  rw[←jx]
  have:=pa g.coefs (pickedR g.vars a) g6 (fun x hx=>by obtain⟨v,_,rfl⟩:=List.mem_map.1 hx;exact CF h v)
  omega
theorem y7 {d:aa}{g:Goal}(h:GoalIn d g)(hk:g.kind≠0){v:Int}(hv: -4611686018427387904≤v∧v≤4611686018427387904):RightC d (ku g v):=by
 rcases h.kind with h1|⟨h1,h2,h3,h4,h5⟩
 ·exact absurd h1 hk
 ·refine .inr ⟨rfl,?_⟩
  unfold ku
  by_cases hk2:g.kind=2
  ·rw[if_pos hk2,if_pos hk2]
   exact⟨⟨by show g.vars.length=(g.coefs.map (- ·)).length;rw[C6];exact h2.len,h2.vl,h2.vin,fun k hk=>by
    obtain⟨j,hj,rfl⟩:=List.mem_map.1 hk
    have:=h2.ck j hj
    exact⟨by have:=this.1;omega,by rw[uU];exact this.2⟩,h2.dom,h2.dl⟩,h3,h4,by show(0:Int)≤0∧(0:Int)≤2;omega,by show aj (g.coefs.map (- ·))≤_;rw[sD];omega,by show aG (-v-1)≤_;unfold aG;omega⟩
  ·rw[if_neg hk2,if_neg hk2]
   exact⟨h2,h3,h4,by show(0:Int)≤0∧(0:Int)≤2;omega,by show aj g.coefs≤_;omega,by show aG (v-1)≤_;unfold aG;omega⟩
def IB (t:Option (List Int)):Prop:= ∀a,t=some a→∀x∈a,-1048576≤x∧x≤1048576
theorem Ac {d0:aa}{cons:List Con}{g:Goal}(h:RunOk d0 cons)(hl:cons.length≤4095)(hg:GoalIn d0 g):SrchOK d0 (mr cons g) (Bh g) IB:=by
 refine⟨fun t ht=> ?_,fun t a ht hf b e=> ?_⟩
 ·cases t with
  |none=>exact h
  |some a=>
   by_cases hk:g.kind=0
   ·have e:mr cons g (some a)=cons:=if_pos hk
    rw[e];exact h
   ·have e:mr cons g (some a)=cons++[ku g (eE g a)]:=if_neg hk
    rw[e]
    refine⟨h.gd,fun c hc=> ?_,fun c hc=> ?_,h.prod,by rw[CW];show _+1≤_;omega⟩
    ·rcases List.mem_append.1 hc with hc|hc
     ·exact h.con c hc
     ·rw[List.mem_singleton.1 hc]
      have hlen:=(hg.ok hk).len
      have hfew:=hg.few
      refine⟨hfew,by show(g.vars.length+1)*8≤_;omega,?_,by simp[ku],by simp[ku]⟩
      show(ku g _).coefs.length*8≤_
      unfold ku
      split
      ·show(g.coefs.map (- ·)).length*8≤_;rw[C6];omega
      ·show g.coefs.length*8≤_;omega
    ·rcases List.mem_append.1 hc with hc|hc
     ·exact h.right c hc
     ·rw[List.mem_singleton.1 hc]
      exact y7 hg hk (zc (fun hk=>hg.ok hk) (ht a rfl))
 ·cases e
  exact(qP h.gd hf).2.2
noncomputable def srchB (m:Mod)(left:Int):Srch (Option (List Int)):=lookG left (mr m.cons m.goal) (Bh m.goal) (weight (domsM m)+1) (domsM m) ⟨0,false,false,none⟩
set_option maxHeartbeats 1000000 in
theorem vo (m:Mod)(hm:ModB m)(hr:RunOk (domsM m) m.cons)(hw:weight (domsM m)≤1000000)(hg:GoalIn (domsM m) m.goal)(left:Int)(hleft:left≤1099511627776)(hck:Spec Tryz.prog 64 false [.agg (cM m)] [.val (.int .i64 0)]):
  Spec Tryz.prog 18 false [.agg (cM m),.int .i64 left] [.val (av ((srchB m left).st.getD [])),.val (.bool (srchB m left).st.isSome),.val (.bool (!(srchB m left).short)),.val (.int .i64 (srchB m left).nodes),.val (.int .i64 0)]:=by
 refine Spec.body Tryz.func18 rfl rfl rfl fun w0 Z0=> ?_
 have hdl:(domsM m).length≤1024:=by have:=hm.vl;simpa[domsM]using this
 have hcl:=hm.cl
 refine .B ?_
 refine J.cx [] [] [1000,1001,1002,1006,1007] (mI m hm hr.gd.few left hck) trivial (fun ns hns=> ?_)
 obtain⟨p,sp,lv,cv,mv,rfl⟩:=Cv hns rfl
 refine .M ?_
 refine .L ?_
 refine .W ?_
 refine .M ?_
 refine T.cf rfl ?_
 refine T.canon (keep:=[2,9,1000,1001,1002,1006,1007]) (os:=[1000,1001,1002,1006,1007,9,2]) rfl ?_
 refine T.knownp 1000 0 rfl rfl fun kb e1=> ?_
 refine T.knownp 1001 1 rfl rfl fun sb e2=> ?_
 obtain rfl:p=pV kb:=e1
 obtain rfl:sp=pV sb:=e2
 refine .M ?_
 refine .L ?_
 refine .M ?_
 refine .L ?_
 refine .W ?_
 refine .M ?_
 refine J.name 1003 (s:=11) rfl rfl rfl fun bp=> ?_
 refine J.name 1004 (s:=12) rfl rfl rfl fun op=> ?_
 refine J.name 1005 (s:=9) rfl rfl rfl fun kp=> ?_
 refine J.sub (Rel.raw (s:=11) (g:=1003) rfl (.inr rfl) rfl rfl rfl) ?_
 refine J.sub (Rel.raw (s:=12) (g:=1004) rfl (.inr rfl) rfl rfl rfl) ?_
 refine J.sub (Rel.raw (s:=9) (g:=1005) rfl (.inr rfl) rfl rfl rfl) ?_
 refine J.sub (Rel.unbx (s:=2) (fun b h=>h) rfl rfl) ?_
 refine J.sub (Rel.fp (s:=2) rfl) ?_
 refine J.sub (Rel.derawp (s:=22) (g:=1000) rfl rfl rfl) ?_
 refine .M ?_
 refine .W ?_
 refine .M ?_
 refine J.sub (Rel.derawp (s:=9) (g:=1005) rfl rfl rfl) ?_
 refine .M ?_
 refine J.sub (Rel.ownN 1008 3 1) ?_
 refine J.sub (Rel.ownN 1009 3 1) ?_
 refine J.sub (Rel.canon (keep:=[9,11,12,26,1000,1001,1002,1003,1004,1005,1006,1007,1008,1009]) (os:=[1000,1001,1002,1003,1004,1005,1006,1007,1008,1009]) rfl) (?_:J _ _ _ _ (nE (m3 m kb bp op kp) kb sb m left [(9,.optr 5 0 0 0),(11,.val true (.raw bp)),(12,.val true (.raw op)),(26,.val true (.raw (pV kb)))] lv cv mv (.slice none 0 0) (.slice none 0 0) (domsM m) [] [] ⟨0,false,false,none⟩) _)
 have hlk: ∃e ch',uV (m3 m kb bp op kp) kb sb m left 37 [(true,.raw (pV kb))] lv cv mv (.slice none 0 0) (.slice none 0 0) (domsM m) e [] ch' [] ⟨0,false,false,none⟩ (srchB m left):=⟨_,_,qq (m3 m kb bp op kp) kb sb m left (domsM m) IB (Ac hr (by omega) hg) (AB kb sb m left (domsM m) hr.gd hdl (by omega) (fun hk=>hg.ok hk) bp op kp IB) (fun t a=>DC _) hleft hdl (weight (domsM m)+1) (domsM m) ⟨0,false,false,none⟩ lv cv mv (.slice none 0 0) (.slice none 0 0) [] [] (Di _) hr.gd leD.rfl' (fun a e=>by cases e) (DC _) rfl (by simp;omega) (by simp;omega)⟩
 obtain⟨e,ch',hlk⟩:=hlk
 generalize srchB m left=r at*
 refine J.cx [0,1,2,3,4,5,6,7,8,9] [1000,1001,1002,1003,1004,1005,1006,1007,1008,1009] [1006,1007,1008,1009] hlk ⟨rfl,⟨_,rfl,rfl,rfl⟩,rfl,⟨_,rfl,rfl,rfl⟩,rfl,⟨_,rfl,rfl,rfl⟩,rfl,⟨_,rfl,rfl,rfl⟩,rfl,⟨_,rfl,rfl,rfl⟩,rfl,⟨_,rfl,rfl,rfl⟩,rfl,⟨_,rfl,rfl,rfl⟩,rfl,⟨_,rfl,rfl,rfl⟩,rfl,⟨_,rfl,rfl,rfl⟩,rfl,⟨_,rfl,rfl,rfl⟩,trivial⟩ (fun ns hns=> ?_)
 obtain⟨a1,a2,a3,a4,rfl⟩:=Ah hns rfl
 refine .M ?_
 refine T.K (?_:T _ _ (nE (m3 m kb bp op kp) kb sb m left [(9,.optr 5 0 0 0),(11,.val true (.raw bp)),(12,.val true (.raw op))] lv a1 a2 a3 a4 e ch' [] r) _)
 refine T.sub (Rel.derawp (s:=11) (g:=1003) rfl rfl rfl) ?_
 refine T.sub (Rel.derawp (s:=12) (g:=1004) rfl rfl rfl) ?_
 refine .A ?_
 conv=>whnf
 iterate 2 refine J.H rfl ?_
 refine J.lp 1000 (b:=kb) (q:=0) rfl ?_
 iterate 4 refine J.H rfl ?_
 refine J.lp 1000 (b:=kb) (q:=0) rfl ?_
 iterate 8 refine J.H rfl ?_
 refine J.nil ?_
 refine .B ?_
 exact⟨_,.v rfl rfl rfl (fun _=>rfl) (.v rfl rfl rfl (fun _=>rfl) (.v rfl rfl rfl (fun _=>rfl) (.v rfl rfl rfl (fun _=>rfl) (.v rfl rfl rfl (fun _=>rfl) .nil))))⟩
def kS:Con:=⟨0,[0,1],[1,1],1,1,[],0⟩
def kT:Con:=⟨0,[0,1],[-2,-1],0,-2,[],0⟩
def ex:Mod:=⟨[(⟨#[120]⟩,[(0,1)]),(⟨#[121]⟩,[(0,1)])],[kS],⟨2,[0,1],[2,1]⟩⟩
theorem wc:ConB kS:=by simp[ConB,kS]
theorem Cy:ConB kT:=by simp[ConB,kT]
theorem gp0:GoodD 2 (dmQ 0 1 0 1):=jb (by decide) (by decide) (by decide) (by decide) (by decide) (by decide)
theorem gp1:GoodD 2 (dmQ 0 0 0 1):=jb (by decide) (by decide) (by decide) (by decide) (by decide) (by decide)
theorem gp2:GoodD 2 (dmQ 0 0 1 1):=jb (by decide) (by decide) (by decide) (by decide) (by decide) (by decide)
theorem gp3:GoodD 2 (dmQ 1 1 0 1):=jb (by decide) (by decide) (by decide) (by decide) (by decide) (by decide)
theorem gp4:GoodD 2 (dmQ 1 1 0 0):=jb (by decide) (by decide) (by decide) (by decide) (by decide) (by decide)
theorem Cm:bK kS (dmQ 0 1 0 1)=some (dmQ 0 1 0 1):=jk (N:=5) gp0 wc rfl (by decide +kernel) (by unfold LinAns;rw[if_neg (by decide),if_neg (by decide)];decide +kernel)
theorem Cl:bK kS (dmQ 0 0 0 1)=some (dmQ 0 0 1 1):=jk (N:=5) gp1 wc rfl (by decide +kernel) (by unfold LinAns;rw[if_neg (by decide),if_neg (by decide)];decide +kernel)
theorem Ck:bK kS (dmQ 0 0 1 1)=some (dmQ 0 0 1 1):=jk (N:=5) gp2 wc rfl (by decide +kernel) (by unfold LinAns;rw[if_neg (by decide),if_neg (by decide)];decide +kernel)
theorem BB:bK kS (dmQ 1 1 0 1)=some (dmQ 1 1 0 0):=jk (N:=5) gp3 wc rfl (by decide +kernel) (by unfold LinAns;rw[if_neg (by decide),if_neg (by decide)];decide +kernel)
theorem BA:bK kS (dmQ 1 1 0 0)=some (dmQ 1 1 0 0):=jk (N:=5) gp4 wc rfl (by decide +kernel) (by unfold LinAns;rw[if_neg (by decide),if_neg (by decide)];decide +kernel)
theorem Cj:bK kT (dmQ 1 1 0 0)=some (dmQ 1 1 0 0):=jk (N:=5) gp4 Cy rfl (by decide +kernel) (by unfold LinAns;rw[if_neg (by decide),if_neg (by decide)];decide +kernel)
theorem zy:RunOk (dmQ 0 1 0 1) [kS]:=by
 refine⟨gp0,fun c hc=> ?_,fun c hc=> .inl ?_,by decide +kernel,by decide⟩
 ·simp at hc;subst hc;exact⟨by decide,wc⟩
 ·simp at hc;subst hc;decide +kernel
theorem CM:RunOk (dmQ 0 1 0 1) [kS,kT]:=by
 refine⟨gp0,fun c hc=> ?_,fun c hc=> .inl ?_,by decide +kernel,by decide⟩
 ·simp at hc
  rcases hc with rfl|rfl
  ·exact⟨by decide,wc⟩
  ·exact⟨by decide,Cy⟩
 ·simp at hc
  rcases hc with rfl|rfl<;>decide +kernel
theorem leP {a b c d:Int}(h:0≤a∧b≤1∧0≤c∧d≤1):leD (dmQ a b c d) (dmQ 0 1 0 1):=by
 refine⟨rfl,fun u x h0 hx=> ?_⟩
 unfold domAt at hx⊢
 match hn:u.toNat with
 |0=>rw[hn]at hx;simp[dmQ,vals,cF]at hx⊢;omega
 |1=>rw[hn]at hx;simp[dmQ,vals,cF]at hx⊢;omega
 |n+2=>rw[hn]at hx;simp[dmQ,vals]at hx
theorem CJ:fS [kS] (dmQ 0 1 0 1)=some (dmQ 0 1 0 1):=by
 refine(fu (R:=some (dmQ 0 1 0 1)) ⟨?_,fun c hc=> ?_⟩).symm
 ·exact Come.refl (aZ 2) gp0
 simp at hc;subst hc;exact Cm
theorem AF:fS [kS] (dmQ 0 0 0 1)=some (dmQ 0 0 1 1):=by
 have hs:=(zy.less (e:=dmQ 0 0 0 1) gp1 (leP (by decide))).step (c:=kS) (by simp)
 refine(fu (R:=some (dmQ 0 0 1 1)) ⟨?_,fun c hc=> ?_⟩).symm
 ·exact(Come.refl (aZ 2) gp1).step (aZ 2) (c:=kS) (by simp) hs.takes Cl
 simp at hc;subst hc;exact Ck
theorem CI:fS [kS] (dmQ 1 1 0 1)=some (dmQ 1 1 0 0):=by
 have hs:=(zy.less (e:=dmQ 1 1 0 1) gp3 (leP (by decide))).step (c:=kS) (by simp)
 refine(fu (R:=some (dmQ 1 1 0 0)) ⟨?_,fun c hc=> ?_⟩).symm
 ·exact(Come.refl (aZ 2) gp3).step (aZ 2) (c:=kS) (by simp) hs.takes BB
 simp at hc;subst hc;exact BA
theorem CH:fS [kS,kT] (dmQ 1 1 0 1)=some (dmQ 1 1 0 0):=by
 have hs:=(CM.less (e:=dmQ 1 1 0 1) gp3 (leP (by decide))).step (c:=kS) (by simp)
 refine(fu (R:=some (dmQ 1 1 0 0)) ⟨?_,fun c hc=> ?_⟩).symm
 ·exact(Come.refl (aZ 2) gp3).step (aZ 2) (c:=kS) (by simp) hs.takes BB
 simp at hc
 rcases hc with rfl|rfl
 ·exact BA
 ·exact Cj
theorem tP {σ:Type}{left:Int}{con:σ→List Con}{fnd:σ→List Int→σ×Bool}{n:Nat}{d l:aa}{s:Srch σ}{a:List Int}(h1:(s.nodes:Int)<left)(h2:fS (con s.st) d=some l)(h3:cA l=some a):lookG left con fnd (n+1) d s= { s with nodes:=s.nodes+1,st:=(fnd s.st a).1,over:=(fnd s.st a).2 }:=by
 rw[lookG,if_neg (by omega),h2]
 simp only[h3]
theorem vX {σ:Type}{left:Int}{con:σ→List Con}{fnd:σ→List Int→σ×Bool}{n:Nat}{s:Srch σ}(h1:(s.nodes:Int)<left)(h2:con s.st=[kS]):lookG left con fnd (n+1) (dmQ 0 1 0 1) s=[0,1].foldl (fun s x=>if s.over then s else lookG left con fnd n (dmQ x x 0 1) s) { s with nodes:=s.nodes+1 }:=by
 rw[lookG,if_neg (by omega),h2,CJ]
 have h3:cA (dmQ 0 1 0 1)=none:=by decide +kernel
 simp only[h3]
 have h4:openV (dmQ 0 1 0 1)=0:=by decide +kernel
 rw[h4]
 rfl
theorem AM:srchA ex 9=⟨3,false,false,[[0,1],[1,0]]⟩:=by
 show lookG 9 (fun _=>[kS]) mj 5 (dmQ 0 1 0 1) ⟨0,false,false,[]⟩=_
 rw[vX (by decide) rfl,CZ,if_neg (by decide),tP (n:=3) (by decide) AF (a:=[0,1]) (by decide +kernel),CZ,if_neg (by decide),tP (n:=3) (by decide) CI (a:=[1,0]) (by decide +kernel)]
 rfl
theorem AN:srchA ex 2=⟨2,true,true,[[0,1]]⟩:=by
 show lookG 2 (fun _=>[kS]) mj 5 (dmQ 0 1 0 1) ⟨0,false,false,[]⟩=_
 rw[vX (by decide) rfl,CZ,if_neg (by decide),tP (n:=3) (by decide) AF (a:=[0,1]) (by decide +kernel),CZ,if_neg (by decide),lookG,if_pos (by decide)]
 rfl
theorem AL:srchB ex 9=⟨3,false,false,some [1,0]⟩:=by
 show lookG 9 (mr [kS] ⟨2,[0,1],[2,1]⟩) (Bh ⟨2,[0,1],[2,1]⟩) 5 (dmQ 0 1 0 1) ⟨0,false,false,none⟩=_
 rw[vX (by decide) rfl,CZ,if_neg (by decide),tP (n:=3) (by decide) AF (a:=[0,1]) (by decide +kernel),CZ,if_neg (by decide),tP (n:=3) (by decide) (show fS (mr [kS] ⟨2,[0,1],[2,1]⟩ (some [0,1])) (dmQ 1 1 0 1)=_ from CH) (a:=[1,0]) (by decide +kernel)]
 rfl
theorem AW:checkR ex=0:=by decide +kernel
theorem rB:ModB ex:=⟨by decide,fun v hv=>by simp[ex]at hv;rcases hv with rfl|rfl<;>exact⟨by decide,by decide⟩,by decide,fun c hc=>by simp[ex]at hc;subst hc;exact⟨by decide,by decide,by decide,by simp[kS]⟩,⟨by decide,by decide⟩⟩
def qg:Mod:=⟨[],[],⟨9,[],[]⟩⟩
theorem A3:checkR qg=44:=by decide +kernel
theorem BR:ModB qg:=⟨by decide,fun v hv=>(by cases hv),by decide,fun c hc=>(by cases hc),⟨by decide,by decide⟩⟩
def iM (g:Goal):Goal:=⟨3-g.kind,g.vars,g.coefs.map (- ·)⟩
def wR (m:Mod):Mod:=⟨m.vars,m.cons,iM m.goal⟩
theorem xC: ∀(l:List Int) (room:Int),eB room (l.map (- ·))=eB room l
 | [],room=>rfl
 |k::l,room=>by
  rw[CY,eB,eB,xC l]
  have e:max (-k) (- -k)=max k (-k):=by omega
  rw[e]
  by_cases h:4398046511104<k∨k< -4398046511104
  ·rw[if_pos h,if_pos (by omega)]
  ·rw[if_neg h,if_neg (by omega)]
theorem zf (d:aa)(g:Goal):conR d (ei (iM g))=conR d (ei g):=by
 have h1:sumR (ei (iM g))=sumR (ei g):=by
  unfold sumR ei iM
  simp only[C6]
  congr 2
  rw[decide_eq_decide,EX]
  constructor
  ·rintro⟨k,hk,h⟩
   have e:k=0:=by omega
   rw[e]at hk;exact hk
  ·intro h
   exact⟨0,h,by omega⟩
 have h2:ee (ei (iM g)).coefs (ei (iM g)).rhs=ee (ei g).coefs (ei g).rhs:=by
  unfold ee
  show(if _ then true else eB _ (g.coefs.map (- ·)))=_
  rw[xC];rfl
 have h3:rightR d (ei (iM g))=rightR d (ei g):=by
  unfold rightR
  rw[if_pos (show(ei (iM g)).kind=0 from rfl),if_pos (show(ei g).kind=0 from rfl),h1];rfl
 unfold conR
 rw[h2,h3];rfl
theorem xM {d:aa}{g:Goal}(hk:g.kind=1∨g.kind=2):ez d (iM g)=ez d g:=by
 unfold ez
 rw[if_pos (show(iM g).kind=1∨(iM g).kind=2 by show 3-g.kind=1∨3-g.kind=2;omega),if_pos hk,zf]
theorem u4 {m:Mod}(hk:m.goal.kind=1∨m.goal.kind=2):checkR (wR m)=checkR m:=by
 unfold checkR
 rw[show ez (domsM (wR m)) (wR m).goal=ez (domsM m) m.goal from xM hk]
 rfl
theorem qn (l:List Int)(hl:l.length≤1048576):Spec Tryz.prog 175 false [av l] [.val (.bool (decide l.Nodup))]:=by
 refine Spec.body Tryz.func175 rfl rfl rfl fun w0 Z0=> ?_
 have hs:(cP l).length=l.length:=F2 ..
 have e:decide l.Nodup=decide ((((aV l).map cI).length:Int)=((l.map cI).length:Int)):=decide_eq_decide.2 (by rw[C6,C6,←pR];omega)
 rw[e]
 refine .B ?_
 refine .C (nN l) ?_
 refine .B ?_
 refine .C (kF l (by omega)) ?_
 refine .B ?_
 refine J.cp (cs2:=[]) (qs:=[]) [] rfl rfl rfl rfl rfl rfl rfl rfl (iv _ (by omega)) trivial rfl rfl rfl rfl rfl rfl ?_
 rw[iw]
 refine .B ?_
 exact r1
theorem A5 {d:List (Int×Int)}(h: ∀r∈d,r.1≤r.2):dY d [(0,1)]=[]↔truthR d=true:=by
 have h1: ∀(out:List (Int×Int)) (r:Int×Int),r.1≤r.2→(cE [(0,1)] out r=out∧(!(decide (r.1<0)||decide (1<r.2)))=true)∨(∃p,cE [(0,1)] out r=out++p∧p≠[]∧(!(decide (r.1<0)||decide (1<r.2)))=false):=by
  intro out r hr
  have hw:wr ((0,1):Int×Int).2=1:=rfl
  have hw2:wr (((0,1):Int×Int).2+1)=2:=by rfl
  unfold cE
  rw[bL,bL,bL]
  by_cases h2:((0,1):Int×Int).2<r.1∨r.2<((0,1):Int×Int).1
  ·rw[if_pos h2]
   rw[if_pos hr]
   refine .inr ⟨_,rfl,by simp,?_⟩
   have h2:1<r.1∨r.2<0:=h2
   have:r.1<0∨1<r.2:=by omega
   rcases this with h|h<;>simp[h]
  ·rw[if_neg h2,hw2]
   have h2: ¬(1<r.1∨r.2<0):=h2
   by_cases h3:r.1<((0,1):Int×Int).1
   ·rw[if_pos h3]
    have h3:r.1<0:=h3
    refine .inr ?_
    split
    ·exact⟨_,DD _ _ _,by simp,by simp[h3]⟩
    ·exact⟨_,rfl,by simp,by simp[h3]⟩
   ·rw[if_neg h3]
    have h3: ¬r.1<0:=h3
    split
    ·rename_i h4
     have h4:2≤r.2:=h4
     exact .inr ⟨_,rfl,by simp,by simp[show 1<r.2 by omega]⟩
    ·rename_i h4
     have h4: ¬2≤r.2:=h4
     exact .inl ⟨rfl,by simp[h3,show¬1<r.2 by omega]⟩
 have key: ∀(l:List (Int×Int)) (out:List (Int×Int)),(∀r∈l,r.1≤r.2)→(∃p,l.foldl (cE [(0,1)]) out=out++p∧(p=[]↔truthR l=true)):=by
  intro l
  induction l with
  |nil=>intro out _;exact⟨[],by simp,by simp[truthR]⟩
  |cons r l ih=>
   intro out hl
   have ht:truthR (r::l)=((!(decide (r.1<0)||decide (1<r.2)))&&truthR l):=rfl
   rw[CZ,ht]
   rcases h1 out r (hl r (.head _))with ⟨e,e2⟩|⟨p,e,hp,e2⟩
   ·rw[e,e2,Da];exact ih out fun r hr=>hl r (.tail _ hr)
   ·obtain⟨q,h3,h4⟩:=ih (out++p) fun r hr=>hl r (.tail _ hr)
    rw[e,e2,h3,DD]
    exact⟨p++q,rfl,by simp[hp]⟩
 obtain⟨p,h2,h3⟩:=key d [] h
 unfold dY
 rw[h2,Df];exact h3
theorem mO (d:List (Int×Int))(hd:d.length≤1048576)(hr: ∀r∈d,r.1≤r.2):Spec Tryz.prog 172 false [dm d] [.val (.bool (truthR d))]:=by
 refine Spec.body Tryz.func172 rfl rfl rfl fun w0 Z0=> ?_
 have hm:=j9 d [(0,1)] (by simp) (by show(d.length+1)*2*16≤_;omega)
 have e:truthR d=decide ((((dY d [(0,1)]).map cR).length:Int)=0):=by
  rw[EQ,decide_eq_true_eq,←A5 hr,C6]
  exact⟨fun h=>by rw[h];rfl,fun h=>CT (by omega)⟩
 rw[e]
 refine .B ?_
 refine .V ?_
 refine .B ?_
 refine .C hm ?_
 refine .B ?_
 exact r1
theorem x3 (v:Int):Spec Tryz.prog 222 false [.int .i64 v] [.val (.bool (!aH v))]:=by
 refine Spec.body Tryz.func222 rfl rfl rfl fun w0 Z0=> ?_
 refine .B ?_
 refine J.g rfl rfl rfl (fun h=> ?_) (fun h=> ?_)
 ·have e:(!aH v)=true:=by have h:v< -1048576:=h;simp[aH];omega
  rw[e]
  refine .B ?_
  exact r1
 ·have e:(!aH v)=decide (v > 1048576):=by have h: ¬v< -1048576:=h;simp only[aH];rw[EQ];simp;omega
  rw[e]
  refine .B ?_
  exact r1
theorem sZ (v:Int):Spec Tryz.prog 179 false [.int .i64 v] [.val (.bool (!(decide (v=1)||decide (v= -1))))]:=by
 refine Spec.body Tryz.func179 rfl rfl rfl fun w0 Z0=> ?_
 refine .B ?_
 refine J.g rfl rfl rfl (fun h=> ?_) (fun h=> ?_)
 ·have h:v≠1:=h
  rw[decide_eq_false h,G2]
  refine .B ?_
  exact⟨_,.v rfl rfl (by rw[←decide_not]) (fun _=>rfl) .nil⟩
 ·have h:v=1:=by have h: ¬(v≠1):=h;omega
  rw[decide_eq_true h,Bool.true_or]
  refine .B ?_
  exact r1
theorem sT (l:List Int)(v:Int)(hl:l.length*8≤140737488355328):Spec Tryz.prog 223 false [av l,.int .i64 v] [.val (.int .i64 (indexP (fun x=>decide (v=x)) l))]:=by
 refine Spec.body Tryz.func223 rfl rfl rfl fun w0 Z0=> ?_
 refine .B ?_
 refine T.K (T.listI l (fun pre=> ∀x∈pre,¬v=x) (fun n pre post=>⟨[(0,.val false (av l)),(1,.val false (.int .i64 v)),(7,.val true (.int .i64 (l.map cI).length)),(8,.val true (.int .i64 n))],[],0⟩) (fun _ _ h=>h) (fun v hv=>by cases hv) ?_ ?_)
 ·rintro n pre x post h hn hi ih
  have hlt:=bY h hn
  refine .B ?_
  refine T.ct2 rfl (bX h hn) ?_
  refine .B ?_
  refine .I (r:=cI x) (aS h hn) ?_
  refine .B ?_
  refine T.cd rfl (fun h2=> ?_) (fun h2=> ?_)
  ·have h2:v=x:=h2
   refine .B ?_
   have e:indexP (fun x=>decide (v=x)) l=(n:Int):=by
    unfold indexP
    rw[h,FC,List.findIdx?_eq_none_iff.2 (by simpa using hi),ET,if_pos (by simpa using h2)]
    simp[hn]
   rw[e]
   exact r1
  ·have h2: ¬v=x:=h2
   refine .B ?_
   rw[ak hlt (by omega)]
   exact T.K (ih (by
    intro y hy
    rcases List.mem_append.1 hy with hy|hy
    ·exact hi y hy
    ·rw[List.mem_singleton.1 hy];exact h2))
 ·intro hi
  have e:indexP (fun x=>decide (v=x)) l= -1:=by
   unfold indexP
   rw[List.findIdx?_eq_none_iff.2 (by simpa using hi)]
  rw[e]
  refine .B ?_
  refine T.cf2 rfl bl ?_
  refine .B ?_
  exact r1
theorem i6 (l:List Int)(v:Int)(hl:l.length*8≤140737488355328):Spec Tryz.prog 178 false [av l,.int .i64 v] [.val (.bool (decide (v∈l)))]:=by
 refine Spec.body Tryz.func178 rfl rfl rfl fun w0 Z0=> ?_
 refine .B ?_
 refine .C (sT l v hl) ?_
 refine .B ?_
 refine⟨_,.v rfl rfl ?_ (fun _=>rfl) .nil⟩
 simp only[PV.bool.injEq]
 unfold indexP
 cases h:l.findIdx? fun x=>decide (v=x)with
 |none=>
  have h1:=List.findIdx?_eq_none_iff.1 h
  have: ¬v∈l:=fun hv=>by simpa using h1 v hv
  rw[decide_eq_false this];rfl
 |some i=>
  obtain⟨h1,h2,_⟩:=List.findIdx?_eq_some_iff_getElem.1 h
  have:v∈l:=by rw[of_decide_eq_true h2];exact C5 h1
  rw[decide_eq_true this]
  simp
theorem qh (c:Con)(hv:c.vars.length≤1048576)(hk:c.coefs.length≤1048576):Spec Tryz.prog 180 false [.agg (cC c)] [.val (.bool (sumR c))]:=by
 refine Spec.body Tryz.func180 rfl rfl rfl fun w0 Z0=> ?_
 have hall:=qn c.vars hv
 have hcon:=i6 c.coefs 0 (by omega)
 refine .B ?_
 refine J.g rfl rfl rfl (fun h1=> ?_) (fun h1=> ?_)
 ·have h1:0<c.vars.length:=by simpa using h1
  refine .B ?_
  refine J.g rfl rfl rfl (fun h2=> ?_) (fun h2=> ?_)
  ·have h2:c.vars.length=c.coefs.length:=by simp at h2;omega
   have e:sumR c=(decide c.vars.Nodup&& !decide (0∈c.coefs)):=by unfold sumR;rw[decide_eq_true h1,decide_eq_true h2,Fd,Fd]
   rw[e]
   generalize decide c.vars.Nodup=nd at*
   refine .B ?_
   refine .C hall ?_
   cases nd
   ·refine .B ?_
    exact r1
   ·refine .B ?_
    refine .C hcon ?_
    refine .B ?_
    exact r1
  ·have h2: ¬c.vars.length=c.coefs.length:=by simp at h2;omega
   have e:sumR c=false:=by unfold sumR;rw[decide_eq_false h2,FG,EM]
   rw[e]
   refine .B ?_
   exact r1
 ·have h1: ¬0<c.vars.length:=by simpa using h1
  have e:sumR c=false:=by unfold sumR;rw[decide_eq_false h1,FG,EM,EM]
  rw[e]
  refine .B ?_
  exact r1
theorem vU (c:Con)(hv:c.vars.length≤1048576)(hk:c.coefs.length≤1048576):Spec Tryz.prog 173 false [.agg (cC c)] [.val (.bool (sumR c&&opR c))]:=by
 refine Spec.body Tryz.func173 rfl rfl rfl fun w0 Z0=> ?_
 have hs:=qh c hv hk
 generalize sumR c=sr at*
 refine .B ?_
 refine .C hs ?_
 cases sr
 ·refine .B ?_
  exact r1
 ·refine .B ?_
  refine J.g rfl rfl rfl (fun h1=> ?_) (fun h1=> ?_)
  ·have e:(true&&opR c)=decide (c.op<3):=by unfold opR;rw[decide_eq_true (show 0≤c.op from h1)];simp;omega
   rw[e]
   refine .B ?_
   exact r1
  ·have e:(true&&opR c)=false:=by unfold opR;rw[decide_eq_false (show¬0≤c.op from h1)];rfl
   rw[e]
   refine .B ?_
   exact r1
theorem tE (c:Con):Spec Tryz.prog 174 false [.agg (cC c)] [.val (.bool (plainR c))]:=by
 refine Spec.body Tryz.func174 rfl rfl rfl fun w0 Z0=> ?_
 refine .B ?_
 refine J.g rfl rfl rfl (fun h1=> ?_) (fun h1=> ?_)
 ·have h1:c.coefs.length=0:=by simpa using h1
  refine .B ?_
  refine J.g rfl rfl rfl (fun h2=> ?_) (fun h2=> ?_)
  ·have h2:c.op=0:=h2
   refine .B ?_
   refine J.g rfl rfl rfl (fun h3=> ?_) (fun h3=> ?_)
   ·have h3:c.rhs=0:=h3
    have e:plainR c=decide (c.b=0):=by unfold plainR bareR;rw[decide_eq_true h1,decide_eq_true h2,decide_eq_true h3];simp
    rw[e]
    refine .B ?_
    exact r1
   ·have h3: ¬c.rhs=0:=h3
    have e:plainR c=false:=by unfold plainR bareR;rw[decide_eq_false h3];simp
    rw[e]
    refine .B ?_
    exact r1
  ·have h2: ¬c.op=0:=h2
   have e:plainR c=false:=by unfold plainR bareR;rw[decide_eq_false h2];simp
   rw[e]
   refine .B ?_
   exact r1
 ·have h1: ¬c.coefs.length=0:=by simpa using h1
  have e:plainR c=false:=by unfold plainR bareR;rw[decide_eq_false h1];simp
  rw[e]
  refine .B ?_
  exact r1
theorem yq (c:Con)(l:List Int)(hl:l.length*8≤140737488355328):Spec Tryz.prog 177 false [.agg (cC c),av l] [.val (.bool (em c l))]:=by
 refine Spec.body Tryz.func177 rfl rfl rfl fun w0 Z0=> ?_
 have hcon:=d9 (p:=fun v=> !aH v) (f:=222) [] l (fun v _=>x3 v) hl
 have e2:(l.any fun v=> !aH v)= !l.all aH:=by rw[EK]
 rw[e2]at hcon
 refine .B ?_
 refine J.g rfl rfl rfl (fun h1=> ?_) (fun h1=> ?_)
 ·have h1:l.length=c.vars.length:=by simp at h1;omega
  have e:em c l=l.all aH:=by unfold em;rw[decide_eq_true h1,Da]
  rw[e]
  refine .B ?_
  refine .C hcon ?_
  refine .B ?_
  exact⟨_,.v rfl rfl (by rw[GB]) (fun _=>rfl) .nil⟩
 ·have h1: ¬l.length=c.vars.length:=by simp at h1;omega
  have e:em c l=false:=by unfold em;rw[decide_eq_false h1,EM]
  rw[e]
  refine .B ?_
  exact r1
theorem s4 (c:Con)(l:List Int)(hl:l.length*8≤140737488355328):Spec Tryz.prog 176 false [av l,.ptr (cC c)] [.val (.bool (!em c l))]:=by
 refine Spec.body Tryz.func176 rfl rfl rfl fun w0 Z0=> ?_
 refine .B ?_
 refine .C (yq c l hl) ?_
 refine .B ?_
 exact r1
theorem rx (d:aa)(v:Int)(hv:0≤v∧v.toNat<d.length)(hx: ∀x∈d,x.length≤1048576∧∀r∈x,r.1≤r.2):Spec Tryz.prog 171 false [.int .i64 v,.ptr [aJ d]] [.val (.bool (!truthR (domAt d v)))]:=by
 refine Spec.body Tryz.func171 rfl rfl rfl fun w0 Z0=> ?_
 have hy:d[v.toNat]? =some (domAt d v):=by unfold domAt;rw[C0,C1 hv.2];rfl
 have hm:=C4 hy
 have ht:=mO (domAt d v) (hx _ hm).1 (hx _ hm).2
 refine .B ?_
 refine J.i rfl rfl rfl rfl rfl rfl rfl rfl rfl (r:=cD (domAt d v)) hv.1 (by rw[C8,hy];rfl) rfl ?_
 refine .B ?_
 refine .C ht ?_
 refine .B ?_
 exact r1
theorem s5 (d:aa)(l:List Int)(hl:l.length*8≤140737488355328)(hv: ∀v∈l,0≤v∧v.toNat<d.length)(hx: ∀x∈d,x.length≤1048576∧∀r∈x,r.1≤r.2):Spec Tryz.prog 170 false [av l,.ptr [aJ d]] [.val (.bool (l.all fun v=>truthR (domAt d v)))]:=by
 refine Spec.body Tryz.func170 rfl rfl rfl fun w0 Z0=> ?_
 have hcon:=d9 (p:=fun v=> !truthR (domAt d v)) (f:=171) [.ptr [aJ d]] l (fun v h=>rx d v (hv v h) hx) hl
 have e2:(l.any fun v=> !truthR (domAt d v))= !l.all fun v=>truthR (domAt d v):=by rw[EK]
 rw[e2]at hcon
 refine .B ?_
 refine .C hcon ?_
 refine .B ?_
 exact⟨_,.v rfl rfl (by rw[GB]) (fun _=>rfl) .nil⟩
def xH (d:aa):Prop:= ∀x∈d,x.length≤1048576∧∀r∈x,r.1≤r.2
theorem xK (d:aa)(c:Con)(hl:c.vars.length=c.coefs.length):f9 d c=((c.coefs.all fun k=>decide (k=1)||decide (k= -1))&&c.vars.all fun v=>truthR (domAt d v)):=by
 rw[EQ,CR,f9,DA,DA,DA]
 have hva: ∀i,i<c.vars.length→∀(h:i<c.vars.length),varAt c i=c.vars[i]:=fun i hi h=>by unfold varAt;rw[C0,C1 h];rfl
 have hca: ∀i,∀(h:i<c.coefs.length),coefAt c i=c.coefs[i]:=fun i h=>by unfold coefAt;rw[C0,C1 h];rfl
 constructor
 ·intro h
  refine⟨fun k hk=> ?_,fun v hv=> ?_⟩
  ·obtain⟨i,hi,rfl⟩:=List.mem_iff_getElem.1 hk
   have:=h i (List.mem_range.2 (by omega))
   unfold gg at this
   rw[hca i hi,CR]at this
   exact this.2
  ·obtain⟨i,hi,rfl⟩:=List.mem_iff_getElem.1 hv
   have:=h i (List.mem_range.2 hi)
   unfold gg at this
   rw[hva i hi hi,CR]at this
   exact this.1
 ·rintro⟨h1,h2⟩ i hi
  have hi:=List.mem_range.1 hi
  unfold gg
  rw[hva i hi hi,hca i (by omega),CR]
  exact⟨h2 _ (C5 _),h1 _ (C5 _)⟩
theorem tD (d:aa)(c:Con)(hvl:c.vars.length≤1048576)(hkl:c.coefs.length≤1048576)(hrl:c.rows.length≤1048576)(hr: ∀r∈c.rows,r.length*8≤140737488355328)(hv: ∀v∈c.vars,0≤v∧v.toNat<d.length)(hb:c.kind=4→0≤c.b∧c.b.toNat<d.length)(hx:xH d):Spec Tryz.prog 130 false [aJ d,.agg (cC c)] [.val (.bool (rightR d c))]:=by
 refine Spec.body Tryz.func130 rfl rfl rfl fun w0 Z0=> ?_
 refine T.seq ?_
 refine T.r ?_
 repeat' first|refine J.e rfl rfl rfl rfl ?_|refine J.skip rfl rfl rfl ?_|refine J.bx rfl rfl rfl rfl rfl rfl ?_
 refine J.nil ?_
 refine T.sub (Rel.unbx (s:=2) (fun b h=>h) rfl rfl) ?_
 refine T.sub (Rel.fp (s:=2) rfl) ?_
 refine .B ?_
 have hsum:=qh c hvl hkl
 have hheld:=vU c hvl hkl
 have hplain:=tE c
 have hall:=qn c.vars hvl
 have hrow:=pg (p:=fun r=> !em c r) (f:=176) [.ptr (cC c)] c.rows (fun r h=>s4 c r (hr r h)) (by omega)
 rw[←EK]at hrow
 have hunit:=d9 (p:=fun v=> !(decide (v=1)||decide (v= -1))) (f:=179) [] c.coefs (fun v _=>sZ v) (by omega)
 rw[←EK]at hunit
 have htr:=s5 d c.vars (by omega) hv hx
 have hbm:=i6 c.vars c.b (by omega)
 refine J.g rfl rfl rfl (fun h1=> ?_) (fun h1=> ?_)
 ·have h1: ¬c.kind=2:=h1
  refine .B ?_
  refine T.cd rfl (fun h2=> ?_) (fun h2=> ?_)
  ·have h2:0<c.rows.length:=by simp at h2;omega
   have e:rightR d c=false:=by
    have:noneR c=false:=by unfold noneR;rw[decide_eq_false (by omega)]
    unfold rightR
    rw[if_neg h1,this]
    repeat' split
    all_goals simp
   rw[e]
   refine .B ?_
   exact r1
  ·have hn:noneR c=true:=by unfold noneR;simp at h2⊢;omega
   refine .B ?_
   refine T.cd rfl (fun hk0=> ?_) (fun hk0=> ?_)
   ·have hk0:c.kind=0:=hk0
    have e:rightR d c=((sumR c&&opR c)&&decide (c.b=0)):=by unfold rightR;rw[if_pos hk0,hn,Da]
    rw[e]
    generalize (sumR c&&opR c)=so at*
    refine .B ?_
    refine .C hheld ?_
    cases so
    ·refine .B ?_
     exact r1
    ·refine .B ?_
     exact r1
   ·have hk0: ¬c.kind=0:=hk0
    refine .B ?_
    refine T.cd rfl (fun hk1=> ?_) (fun hk1=> ?_)
    ·have hk1:c.kind=1:=hk1
     have e:rightR d c=(plainR c&&(decide (0<c.vars.length)&&decide c.vars.Nodup)):=by unfold rightR;rw[if_neg hk0,if_pos hk1,hn,Da];rfl
     rw[e]
     generalize plainR c=pr at*
     generalize decide c.vars.Nodup=nd at*
     refine .B ?_
     refine .C hplain ?_
     cases pr
     ·refine .B ?_
      exact r1
     ·refine .B ?_
      refine J.g rfl rfl rfl (fun h3=> ?_) (fun h3=> ?_)
      ·rw[decide_eq_true (show 0<c.vars.length by have h:=h3;rw[C6]at h;omega)]
       refine .B ?_
       refine .C hall ?_
       refine .B ?_
       exact r1
      ·rw[decide_eq_false (show¬0<c.vars.length by have h:=h3;rw[C6]at h;omega)]
       refine .B ?_
       exact r1
    ·have hk1: ¬c.kind=1:=hk1
     refine .B ?_
     refine T.cf2 rfl (decide_eq_false h1) ?_
     refine .B ?_
     refine T.cd rfl (fun hk3=> ?_) (fun hk3=> ?_)
     ·have hk3:c.kind=3:=hk3
      have e:rightR d c=(plainR c&&(decide (3≤c.vars.length)&&decide c.vars.Nodup)):=by
       unfold rightR
       rw[if_neg hk0,if_neg hk1,if_neg h1,if_pos hk3,hn,Da]
       unfold manyR
       generalize plainR c=pr
       generalize decide c.vars.Nodup=nd
       by_cases h:3≤c.vars.length
       ·rw[decide_eq_true h,decide_eq_true (show 0<c.vars.length by omega)];simp
       ·rw[decide_eq_false h];simp
      rw[e]
      generalize plainR c=pr at*
      generalize decide c.vars.Nodup=nd at*
      refine .B ?_
      refine .C hplain ?_
      cases pr
      ·refine .B ?_
       exact r1
      ·refine .B ?_
       refine J.g rfl rfl rfl (fun h3=> ?_) (fun h3=> ?_)
       ·rw[decide_eq_true (show 3≤c.vars.length by have h:=h3;rw[C6]at h;omega)]
        refine .B ?_
        refine .C hall ?_
        refine .B ?_
        exact r1
       ·rw[decide_eq_false (show¬3≤c.vars.length by have h:=h3;rw[C6]at h;omega)]
        refine .B ?_
        exact r1
     ·have hk3: ¬c.kind=3:=hk3
      refine .B ?_
      refine T.cd rfl (fun hk4=> ?_) (fun hk4=> ?_)
      ·have hk4:c.kind=4:=hk4
       obtain⟨hb0,hb1⟩:=hb hk4
       have hy:d[c.b.toNat]? =some (domAt d c.b):=by unfold domAt;rw[C0,C1 hb1];rfl
       have hm:=C4 hy
       have ht:=mO (domAt d c.b) (hx _ hm).1 (hx _ hm).2
       have e:rightR d c=((sumR c&&opR c)&&truthR (domAt d c.b)&& !decide (c.b∈c.vars)):=by unfold rightR;rw[if_neg hk0,if_neg hk1,if_neg h1,if_neg hk3,if_pos hk4,hn,Da]
       rw[e]
       generalize (sumR c&&opR c)=so at*
       generalize truthR (domAt d c.b)=tr at*
       refine .B ?_
       refine .C hheld ?_
       cases so
       ·refine .B ?_
        exact r1
       ·refine .B ?_
        refine J.i rfl rfl rfl rfl rfl rfl rfl rfl rfl (r:=cD (domAt d c.b)) hb0 (by rw[C8,hy];rfl) rfl ?_
        refine .B ?_
        refine .C ht ?_
        cases tr
        ·refine .B ?_
         exact r1
        ·refine .B ?_
         refine .C hbm ?_
         refine .B ?_
         exact r1
      ·have hk4: ¬c.kind=4:=hk4
       refine .B ?_
       refine T.cd rfl (fun hk5=> ?_) (fun hk5=> ?_)
       ·have hk5:c.kind=5:=hk5
        have e:rightR d c=(bareR c&&(sumR c&&f9 d c)):=by unfold rightR;rw[if_neg hk0,if_neg hk1,if_neg h1,if_neg hk3,if_neg hk4,if_pos hk5,hn,Da,Bool.and_assoc]
        rw[e]
        refine .B ?_
        refine .C hsum ?_
        cases hs:sumR c
        ·refine .B ?_
         exact⟨_,.v rfl rfl (by rw[EM,FG]) (fun _=>rfl) .nil⟩
        ·have hlen:c.vars.length=c.coefs.length:=by unfold sumR at hs;simp at hs;omega
         rw[xK d c hlen]
         generalize (c.coefs.all fun k=>decide (k=1)||decide (k= -1))=uc at*
         generalize (c.vars.all fun v=>truthR (domAt d v))=tv at*
         refine .B ?_
         refine J.g rfl rfl rfl (fun h4=> ?_) (fun h4=> ?_)
         ·have h4:c.op=0:=h4
          refine .B ?_
          refine J.g rfl rfl rfl (fun h5=> ?_) (fun h5=> ?_)
          ·have h5:c.rhs=0:=h5
           refine .B ?_
           refine J.g rfl rfl rfl (fun h6=> ?_) (fun h6=> ?_)
           ·have h6:c.b=0:=h6
            have e:bareR c=true:=by unfold bareR;rw[decide_eq_true h4,decide_eq_true h5,decide_eq_true h6];rfl
            rw[e]
            refine .B ?_
            refine .C hunit ?_
            cases uc
            ·refine .B ?_
             exact r1
            ·refine .B ?_
             refine .C htr ?_
             refine .B ?_
             exact r1
           ·have h6: ¬c.b=0:=h6
            have e:bareR c=false:=by unfold bareR;rw[decide_eq_false h6,FG]
            rw[e]
            refine .B ?_
            exact r1
          ·have h5: ¬c.rhs=0:=h5
           have e:bareR c=false:=by unfold bareR;rw[decide_eq_false h5,FG,EM]
           rw[e]
           refine .B ?_
           exact r1
         ·have h4: ¬c.op=0:=h4
          have e:bareR c=false:=by unfold bareR;rw[decide_eq_false h4,EM,EM]
          rw[e]
          refine .B ?_
          exact r1
       ·have hk5: ¬c.kind=5:=hk5
        have e:rightR d c=(plainR c&&(decide (2≤c.vars.length)&&decide ((c.vars.length:Int).tmod 2=0))):=by
         unfold rightR
         rw[if_neg hk0,if_neg hk1,if_neg h1,if_neg hk3,if_neg hk4,if_neg hk5,hn,Da,Bool.and_assoc]
         congr 2
         rw[decide_eq_decide,Fr (by omega)]
         omega
        rw[e]
        generalize plainR c=pr at*
        refine .B ?_
        refine .C hplain ?_
        cases pr
        ·refine .B ?_
         exact r1
        ·refine .B ?_
         refine J.g rfl rfl rfl (fun h3=> ?_) (fun h3=> ?_)
         ·rw[decide_eq_true (show 2≤c.vars.length by have h:=h3;rw[C6]at h;omega)]
          refine .B ?_
          exact⟨_,.v rfl rfl (by simp) (fun _=>rfl) .nil⟩
         ·rw[decide_eq_false (show¬2≤c.vars.length by have h:=h3;rw[C6]at h;omega)]
          refine .B ?_
          exact r1
 ·have hk2:c.kind=2:=by have h1: ¬(c.kind≠2):=h1;omega
  refine .B ?_
  refine T.cf rfl ?_
  refine .B ?_
  refine T.cf2 rfl (decide_eq_false (by omega)) ?_
  refine .B ?_
  refine T.cf2 rfl (decide_eq_false (by omega)) ?_
  refine .B ?_
  refine T.ct2 rfl (decide_eq_true hk2) ?_
  refine T.sub (Rel.unbx (s:=3) (fun b h=>h) rfl rfl) ?_
  refine T.sub (Rel.fp (s:=3) rfl) ?_
  have e:rightR d c=(plainR c&&(decide (0<c.vars.length)&&(decide c.vars.Nodup&&(decide (c.rows.length≤1024)&&c.rows.all (em c))))):=by
   unfold rightR manyR kH
   rw[if_neg (by omega),if_neg (by omega),if_pos hk2]
   generalize plainR c=a1
   generalize decide (0<c.vars.length)=a2
   generalize decide c.vars.Nodup=a3
   generalize decide (c.rows.length≤1024)=a4
   generalize c.rows.all (em c)=a5
   cases a1<;>cases a2<;>cases a3<;>cases a4<;>cases a5<;>rfl
  rw[e]
  generalize plainR c=pr at*
  generalize decide c.vars.Nodup=nd at*
  generalize c.rows.all (em c)=ra at*
  refine .B ?_
  refine .C hplain ?_
  cases pr
  ·refine .B ?_
   exact r1
  ·refine .B ?_
   refine J.g rfl rfl rfl (fun h3=> ?_) (fun h3=> ?_)
   ·rw[decide_eq_true (show 0<c.vars.length by have h:=h3;rw[C6]at h;omega)]
    refine .B ?_
    refine .C hall ?_
    cases nd
    ·refine .B ?_
     exact r1
    ·refine .B ?_
     refine J.g rfl rfl rfl (fun h4=> ?_) (fun h4=> ?_)
     ·rw[decide_eq_true (show c.rows.length≤1024 by have h:=h4;rw[C6]at h;omega)]
      refine .B ?_
      refine .C hrow ?_
      refine .B ?_
      exact⟨_,.v rfl rfl (by rw[GB];rfl) (fun _=>rfl) .nil⟩
     ·rw[decide_eq_false (show¬c.rows.length≤1024 by have h:=h4;rw[C6]at h;omega)]
      refine .B ?_
      exact r1
   ·rw[decide_eq_false (show¬0<c.vars.length by have h:=h3;rw[C6]at h;omega)]
    refine .B ?_
    exact r1
theorem qX (d:aa)(v:Int):Spec Tryz.prog 128 false [.int .i64 v,.ptr [aJ d]] [.val (.bool (!inD d v))]:=by
 refine Spec.body Tryz.func128 rfl rfl rfl fun w0 Z0=> ?_
 have e0:(!inD d v)=(decide (v<0)||decide (v≥((d.map cD).length:Int))):=by unfold inD;rw[GB,C6]
 rw[e0]
 refine .B ?_
 refine J.g rfl rfl rfl (fun h1=> ?_) (fun h1=> ?_)
 ·rw[decide_eq_true (show v<0 from h1),Bool.true_or]
  refine .B ?_
  exact r1
 ·rw[decide_eq_false (show¬v<0 from h1),G2]
  refine .B ?_
  exact r1
structure ConI (c:Con):Prop where
 vl:c.vars.length≤1024
 kl:c.coefs.length≤1024
 rl:c.rows.length≤1024
 rr: ∀r∈c.rows,r.length≤1024
 ki:ee c.coefs c.rhs=false∨∀k∈c.coefs,-9223372036854775808≤k∧k≤9223372036854775807
theorem ze (d:aa)(c:Con):(usesR c).all (inD d)=(c.vars.all (inD d)&&(!decide (c.kind=4)||inD d c.b)):=by
 rw[EQ,DA]
 constructor
 ·intro h
  rw[CR,DA]
  refine⟨fun v hv=>h v (uses_mem.2 (.inl hv)),?_⟩
  by_cases hk:c.kind=4
  ·rw[h c.b (uses_mem.2 (.inr ⟨hk,rfl⟩)),Bool.or_true]
  ·rw[decide_eq_false hk];rfl
 ·intro h v hv
  rw[CR,DA]at h
  rcases uses_mem.1 hv with h1|⟨hk,rfl⟩
  ·exact h.1 v h1
  ·have:=h.2
   rwa[decide_eq_true hk]at this
theorem qm (d:aa)(c:Con)(hc:ConI c)(hx:xH d):Spec Tryz.prog 100 false [aJ d,.agg (cC c)] [.val (.int .i64 (conR d c))]:=by
 refine Spec.body Tryz.func100 rfl rfl rfl fun w0 Z0=> ?_
 have hvl:=hc.vl
 have hkl:=hc.kl
 have hrl:=hc.rl
 have haway:=d9 (p:=fun v=> !inD d v) (f:=128) [.ptr [aJ d]] c.vars (fun v _=>qX d v) (by omega)
 rw[←EK]at haway
 have hawayb:=qX d c.b
 have hright:=fun(h1: ∀v∈c.vars,0≤v∧v.toNat<d.length) h2=>tD d c (by omega) (by omega) (by omega) (fun r hr=>by have:=hc.rr r hr;omega) h1 h2 hx
 have hbig:(∀k∈c.coefs,-9223372036854775808≤k∧k≤9223372036854775807)→_:=fun h=>yu c.coefs c.rhs (by omega) h
 have hki:=fun h:ee c.coefs c.rhs=false=>fun k hk=>show -9223372036854775808≤k∧k≤9223372036854775807 by
  have h1:=(pj h).1 k hk
  unfold aG at h1
  omega
 have hbig:=hbig (hc.ki.elim hki id)
 refine T.seq ?_
 refine T.r ?_
 repeat' first|refine J.e rfl rfl rfl rfl ?_|refine J.skip rfl rfl rfl ?_|refine J.bx rfl rfl rfl rfl rfl rfl ?_
 refine J.nil ?_
 refine T.sub (Rel.unbx (s:=2) (fun b h=>h) rfl rfl) ?_
 refine T.sub (Rel.fp (s:=2) rfl) ?_
 generalize hR:conR d c=R
 unfold conR at hR
 refine .B ?_
 have bad1:c.kind<0∨6<c.kind→R=44:=fun h=>by rw[if_pos h]at hR;exact hR.symm
 refine J.g rfl rfl rfl (fun h1=> ?_) (fun h1=> ?_)
 ·rw[bad1 (.inl h1)]
  refine .B ?_
  refine T.ct rfl ?_
  refine .B ?_
  exact r1
 ·refine .B ?_
  refine T.cd rfl (fun h2=> ?_) (fun h2=> ?_)
  ·rw[bad1 (.inr (by have h2:c.kind≥7:=h2;omega))]
   refine .B ?_
   exact r1
  ·rw[if_neg (by have h1: ¬c.kind<0:=h1;have h2: ¬c.kind≥7:=h2;omega),ze]at hR
   refine .B ?_
   refine .C haway ?_
   cases ha:c.vars.all (inD d)
   ·rw[ha,EM,if_pos rfl]at hR
    subst hR
    refine .B ?_
    refine T.ct rfl ?_
    refine .B ?_
    exact r1
   ·rw[ha,Da]at hR
    have hva: ∀v∈c.vars,0≤v∧v.toNat<d.length:=fun v hv=>ln.1 (List.all_eq_true.1 ha v hv)
    refine .B ?_
    refine J.g rfl rfl rfl (fun h3=> ?_) (fun h3=> ?_)
    ·have h3:c.kind=4:=h3
     rw[decide_eq_true h3]at hR
     refine .B ?_
     refine .C hawayb ?_
     cases hbd:inD d c.b
     ·rw[hbd]at hR
      have hR:(43:Int)=R:=hR
      subst hR
      refine .B ?_
      refine T.ct rfl ?_
      refine .B ?_
      exact r1
     ·rw[hbd]at hR
      have hR:(if rightR d c=false then(44:Int)else if ee c.coefs c.rhs=true then 45 else 0)=R:=hR
      have hright:=hright hva fun _=>ln.1 hbd
      generalize rightR d c=rr at*
      refine .B ?_
      refine T.cf rfl ?_
      refine .B ?_
      refine .C hright ?_
      cases rr
      ·subst hR
       refine .B ?_
       refine T.ct rfl ?_
       refine .B ?_
       exact r1
      ·rw[if_neg (by simp)]at hR
       refine .B ?_
       refine T.cf rfl ?_
       refine .B ?_
       refine .C hbig ?_
       refine .B ?_
       refine T.cond rfl (fun h4=> ?_) (fun h4=> ?_)
       ·have h4:ee c.coefs c.rhs=true:=h4
        rw[if_pos h4]at hR
        subst hR
        refine .B ?_
        exact r1
       ·have h4:ee c.coefs c.rhs=false:=h4
        rw[if_neg (by simp[h4])]at hR
        subst hR
        refine .B ?_
        exact r1
    ·have h3: ¬c.kind=4:=h3
     rw[decide_eq_false h3]at hR
     have hR:(if rightR d c=false then(44:Int)else if ee c.coefs c.rhs=true then 45 else 0)=R:=hR
     have hright:=hright hva fun h=>absurd h h3
     generalize rightR d c=rr at*
     refine .B ?_
     refine T.cf rfl ?_
     refine .B ?_
     refine .C hright ?_
     cases rr
     ·subst hR
      refine .B ?_
      refine T.ct rfl ?_
      refine .B ?_
      exact r1
     ·rw[if_neg (by simp)]at hR
      refine .B ?_
      refine T.cf rfl ?_
      refine .B ?_
      refine .C hbig ?_
      refine .B ?_
      refine T.cond rfl (fun h4=> ?_) (fun h4=> ?_)
      ·have h4:ee c.coefs c.rhs=true:=h4
       rw[if_pos h4]at hR
       subst hR
       refine .B ?_
       exact r1
      ·have h4:ee c.coefs c.rhs=false:=h4
       rw[if_neg (by simp[h4])]at hR
       subst hR
       refine .B ?_
       exact r1
def Ct (c:Int):Bool:=decide (c≥97)&&decide (c≤122)
def badC (i:Nat)(c:Int):Bool:= !Ct c&&(decide ((i:Int)=0)||(decide (c≠95)&&(decide (c<48)||decide (c > 57))))
theorem AQ {s:ByteArray}{i:Nat}(h:i<s.size):badC i ((Utf8.decode s i).1:Int)=badI i (byteI s i)∧(badI i (byteI s i)=false→(Utf8.decode s i).2=1):=by
 have hb:s.get! i=byteI s i:=by
  unfold byteI
  rw[getElem?_pos s i h]
  show s.data[i]! =_
  rw[getElem!_pos s.data i h];rfl
 by_cases hlt:(s.get! i).toNat<128
 ·rw[rX hlt,hb]
  exact⟨rfl,fun _=>rfl⟩
 ·have hf:=wy (G6 hlt)
  rw[hb]at hlt
  generalize (Utf8.decode s i).1=c at*
  have e1:badI i (byteI s i)=true:=by
   simp only[badI,letB]
   have: ¬((byteI s i).toNat:Int)≤122:=by omega
   have:((byteI s i).toNat:Int) > 57:=by omega
   have:((byteI s i).toNat:Int)≠95:=by omega
   simp[*]
  have e2:badC i c=true:=by
   simp only[badC,Ct]
   have: ¬(c:Int)≤122:=by omega
   have:(c:Int) > 57:=by omega
   have:(c:Int)≠95:=by omega
   simp[*]
  rw[e1,e2]
  exact⟨rfl,fun h=>by cases h⟩
theorem vT (s:ByteArray)(hs:s.size≤140737488355328):Spec Tryz.prog 98 false [.str s] [.val (.bool (fG s))]:=by
 refine Spec.body Tryz.func98 rfl rfl rfl fun w0 Z0=> ?_
 generalize hR:fG s=R
 refine .B ?_
 cases h0:(s.toList==(⟨#[]⟩:ByteArray).toList)
 ·refine .B ?_
  refine T.cd rfl (fun h1=> ?_) (fun h1=> ?_)
  ·have:R=false:=by rw[←hR];unfold fG;rw[h0];simp;omega
   subst this
   refine .B ?_
   exact r1
  ·refine .B ?_
   refine J.rgs rfl rfl rfl rfl rfl rfl ?_
   refine .B ?_
   refine T.K (T.ind (fun i:Nat=>⟨[(14,.ref 0)],[(0,some (.sit s i))],1⟩) (fun i=>i≤s.size∧∀j,j<i→badI j (byteI s j)=false) (fun i=>s.size-i) 0 ⟨DC _,fun j hj=>absurd hj (DY j)⟩ (fun _ _ h=>h) ?_)
   rintro i ⟨hi,hb⟩ ih
   refine .B ?_
   refine J.nxs rfl rfl rfl rfl rfl rfl (fun h2=> ?_) (fun h2=> ?_)
   ·have hyes:R=true:=by
     rw[←hR]
     unfold fG
     rw[h0]
     have:((List.range s.size).all fun i=> !badI i (byteI s i))=true:=by
      rw[DA]
      intro j hj
      rw[hb j (by have:=List.mem_range.1 hj;omega)];rfl
     rw[this]
     simp;omega
    subst hyes
    refine .B ?_
    refine T.cf rfl ?_
    refine .B ?_
    exact r1
   ·obtain⟨hbd,hw⟩:=AQ h2
    have hno:badI i (byteI s i)=true→R=false:=fun h=>by
     rw[←hR]
     unfold fG
     have:((List.range s.size).all fun i=> !badI i (byteI s i))=false:=by
      rw[FV]
      exact⟨i,List.mem_range.2 h2,by rw[h];simp⟩
     rw[this];rfl
    have ih1:=fun h:badI i (byteI s i)=false=>ih (i+1) ⟨by omega,fun j hj=>by
     by_cases e:j=i
     ·rw[e];exact h
     ·exact hb j (by omega)⟩ (by omega)
    rw[←hbd]at hw hno ih1
    obtain⟨c,hc⟩: ∃c,c=(Utf8.decode s i).1:=⟨_,rfl⟩
    obtain⟨k,hk⟩: ∃k,k=(Utf8.decode s i).2:=⟨_,rfl⟩
    rw[←hc]at hw hno ih1
    rw[←hk]at hw
    rw[←hc,←hk]
    have hbc:badC i c=(!(decide ((c:Int)≥97)&&decide ((c:Int)≤122))&&(decide ((i:Int)=0)||(decide ((c:Int)≠95)&&(decide ((c:Int)<48)||decide ((c:Int) > 57))))):=rfl
    generalize badC i c=bad at*
    refine .B ?_
    refine T.ct rfl ?_
    refine .B ?_
    cases h1:decide ((c:Int)≥97)
    ·skip
     refine .B ?_
     cases h3:decide ((i:Int)=0)
     ·refine .B ?_
      cases h4:decide ((c:Int)≠95)
      ·skip
       refine .B ?_
       refine T.cf rfl ?_
       refine .B ?_
       have hb0:bad=false:=by rw[hbc,h1,h3,h4];rfl
       rw[hw hb0]
       exact T.K (ih1 hb0)
      ·refine .B ?_
       cases h5:decide ((c:Int)<48)
       ·refine .B ?_
        cases h6:decide ((c:Int) > 57)
        ·skip
         refine .B ?_
         refine T.cf rfl ?_
         refine .B ?_
         have hb0:bad=false:=by rw[hbc,h1,h3,h4,h5,h6];rfl
         rw[hw hb0]
         exact T.K (ih1 hb0)
        ·skip
         refine .B ?_
         refine T.ct rfl ?_
         refine .B ?_
         rw[hno (by rw[hbc,h1,h3,h4,h5,h6];rfl)]
         exact r1
       ·skip
        refine .B ?_
        refine T.ct rfl ?_
        refine .B ?_
        rw[hno (by rw[hbc,h1,h3,h4,h5];rfl)]
        exact r1
     ·skip
      refine .B ?_
      refine T.ct rfl ?_
      refine .B ?_
      rw[hno (by rw[hbc,h1,h3];rfl)]
      exact r1
    ·refine .B ?_
     cases h2:decide ((c:Int)≤122)
     ·skip
      refine .B ?_
      cases h3:decide ((i:Int)=0)
      ·refine .B ?_
       cases h4:decide ((c:Int)≠95)
       ·skip
        refine .B ?_
        refine T.cf rfl ?_
        refine .B ?_
        have hb0:bad=false:=by rw[hbc,h1,h2,h3,h4];rfl
        rw[hw hb0]
        exact T.K (ih1 hb0)
       ·refine .B ?_
        cases h5:decide ((c:Int)<48)
        ·refine .B ?_
         cases h6:decide ((c:Int) > 57)
         ·skip
          refine .B ?_
          refine T.cf rfl ?_
          refine .B ?_
          have hb0:bad=false:=by rw[hbc,h1,h2,h3,h4,h5,h6];rfl
          rw[hw hb0]
          exact T.K (ih1 hb0)
         ·skip
          refine .B ?_
          refine T.ct rfl ?_
          refine .B ?_
          rw[hno (by rw[hbc,h1,h2,h3,h4,h5,h6];rfl)]
          exact r1
        ·skip
         refine .B ?_
         refine T.ct rfl ?_
         refine .B ?_
         rw[hno (by rw[hbc,h1,h2,h3,h4,h5];rfl)]
         exact r1
      ·skip
       refine .B ?_
       refine T.ct rfl ?_
       refine .B ?_
       rw[hno (by rw[hbc,h1,h2,h3];rfl)]
       exact r1
     ·skip
      refine .B ?_
      refine T.cf rfl ?_
      refine .B ?_
      have hb0:bad=false:=by rw[hbc,h1,h2];rfl
      rw[hw hb0]
      exact T.K (ih1 hb0)
 ·have:R=false:=by rw[←hR];unfold fG;rw[h0];simp
  subst this
  refine .B ?_
  refine T.ct rfl ?_
  refine .B ?_
  exact r1
theorem vV (d:aa)(g:Goal)(hv:g.vars.length≤1024)(hk:g.coefs.length≤1024)(hi:ee g.coefs 0=false∨∀k∈g.coefs,-9223372036854775808≤k∧k≤9223372036854775807)(hx:xH d):Spec Tryz.prog 101 false [aJ d,.agg (cG g)] [.val (.int .i64 (ez d g))]:=by
 refine Spec.body Tryz.func101 rfl rfl rfl fun w0 Z0=> ?_
 have hcon:=qm d (ei g) ⟨hv,hk,DC _,fun r hr=>(by cases hr),hi⟩ hx
 generalize hR:ez d g=R
 unfold ez at hR
 refine .B ?_
 refine T.cd rfl (fun h0=> ?_) (fun h0=> ?_)
 ·have h0:g.kind=0:=h0
  rw[if_neg (by omega)]at hR
  refine .B ?_
  refine J.g rfl rfl rfl (fun h1=> ?_) (fun h1=> ?_)
  ·rw[if_pos (.inr (.inl (by have h:=h1;rw[C6]at h;omega)))]at hR
   subst hR
   refine .B ?_
   refine T.ct rfl ?_
   refine .B ?_
   exact r1
  ·refine .B ?_
   refine T.cd rfl (fun h2=> ?_) (fun h2=> ?_)
   ·rw[if_pos (.inr (.inr (by have h:=h2;rw[C6]at h;omega)))]at hR
    subst hR
    refine .B ?_
    exact r1
   ·rw[if_neg (by have h:=h1;rw[C6]at h;have h':=h2;rw[C6]at h';omega)]at hR
    subst hR
    refine .B ?_
    exact r1
 ·have h0: ¬g.kind=0:=h0
  refine .B ?_
  refine T.cd rfl (fun h1=> ?_) (fun h1=> ?_)
  ·have h1:g.kind=1:=h1
   rw[if_pos (.inl h1)]at hR
   subst hR
   refine .B ?_
   refine T.ct2 rfl (decide_eq_true h1) ?_
   refine .B ?_
   refine .C hcon ?_
   refine .B ?_
   exact r1
  ·have h1: ¬g.kind=1:=h1
   refine .B ?_
   refine T.cd rfl (fun h2=> ?_) (fun h2=> ?_)
   ·have h2:g.kind=2:=h2
    rw[if_pos (.inr h2)]at hR
    subst hR
    refine .B ?_
    refine .C hcon ?_
    refine .B ?_
    exact r1
   ·have h2: ¬g.kind=2:=h2
    rw[if_neg (by omega),if_pos (.inl h0)]at hR
    subst hR
    refine .B ?_
    exact r1
def hadM (m:Mod)(i:Nat):List (ByteArray×Bool):=(List.range i).map fun k=>(nmM m k,true)
theorem q7 (a b:ByteArray):(a.toList==b.toList)=decide (a=b):=by
 rw[ByteArray.toList_eq,ByteArray.toList_eq]
 by_cases h:a=b
 ·subst h;simp
 ·rw[decide_eq_false h]
  simp only[beq_eq_false_iff_ne]
  intro e
  apply h
  cases a;cases b
  congr
  exact Array.toList_inj.1 e
theorem ul (m:Mod)(i:Nat):(lkA (hadM m i) (nmM m i))=if gh m i=true then some true else none:=by
 unfold lkA fiA hadM gh
 cases h:((List.range i).map fun k=>(nmM m k,true)).findIdx? fun p=>decide (p.1=nmM m i)with
 |none=>
  have h1:=List.findIdx?_eq_none_iff.1 h
  rw[if_neg]
  ·rfl
  ·rw[EJ]
   rintro⟨k,hk,hb⟩
   rw[q7]at hb
   have:=h1 _ (List.mem_map.2 ⟨k,hk,rfl⟩)
   rw[hb]at this;cases this
 |some j=>
  obtain⟨h1,h2,_⟩:=List.findIdx?_eq_some_iff_getElem.1 h
  have h1':j<i:=by simpa using h1
  rw[if_pos]
  ·simp[h1']
  ·rw[EJ]
   refine⟨j,List.mem_range.2 h1',?_⟩
   rw[q7]
   simpa using h2
theorem BW (m:Mod)(i:Nat)(h:gh m i=false):upA (hadM m i) (nmM m i) true=hadM m (i+1):=by
 have h1:=ul m i
 rw[h,if_neg (by simp)]at h1
 unfold upA
 have h2:fiA (hadM m i) (nmM m i)=none:=by
  cases h3:fiA (hadM m i) (nmM m i)with
  |none=>rfl
  |some j=>
   unfold lkA at h1
   rw[h3]at h1
   obtain⟨h4,_⟩:=List.findIdx?_eq_some_iff_getElem.1 h3
   simp[h4]at h1
 rw[h2]
 simp[hadM,FM]
structure ModK (m:Mod):Prop where
 b:ModB m
 ck: ∀c∈m.cons,ee c.coefs c.rhs=false∨∀k∈c.coefs,-9223372036854775808≤k∧k≤9223372036854775807
 gk:ee m.goal.coefs 0=false∨∀k∈m.goal.coefs,-9223372036854775808≤k∧k≤9223372036854775807
theorem l5 (m:Mod)(hm:ModK m):Spec Tryz.prog 64 false [.agg (cM m)] [.val (.int .i64 (checkR m))]:=by
 refine Spec.body Tryz.func64 rfl rfl rfl fun w0 Z0=> ?_
 obtain⟨hm,hck,hgk⟩:=hm
 have hds:=(oE m hm).frz
 generalize hR:checkR m=R
 obtain⟨b1,b2,b3,b4,b5⟩:=hm
 have yes:64<m.vars.length∨256<m.cons.length→(2:Int)=R:=fun h=>by rw[←hR];exact(if_pos h).symm
 refine .B ?_
 refine J.g rfl rfl rfl (fun h1=> ?_) (fun h1=> ?_)
 ·have e:=yes (.inl (by have h:=h1;rw[C6]at h;omega))
  subst e
  refine .B ?_
  refine T.ct rfl ?_
  refine .B ?_
  exact r1
 ·refine .B ?_
  refine T.cd rfl (fun h2=> ?_) (fun h2=> ?_)
  ·have e:=yes (.inr (by have h:=h2;rw[C6]at h;omega))
   subst e
   refine .B ?_
   exact r1
  ·have hR:(if firstE ((List.range m.vars.length).map (varR m))≠0 then firstE ((List.range m.vars.length).map (varR m))else
     if firstE (m.cons.map (conR (domsM m)))≠0 then firstE (m.cons.map (conR (domsM m)))else ez (domsM m) m.goal)=R:=by
    unfold checkR at hR
    rw[if_neg (by have h:=h1;rw[C6]at h;have h':=h2;rw[C6]at h';omega)]at hR
    exact hR
   have hvar: ∀i,i<m.vars.length→(∀j,j<i→varR m j=0)→varR m i≠0→R=varR m i:=fun i hi hb he=>by
    have:firstE ((List.range m.vars.length).map (varR m))=varR m i:=ju (i:=i) (fun j hj x hx=>by
     rw[C8,Du (by omega)]at hx
     rw[←C2 hx]
     exact hb j hj) (by rw[C8,Du hi];rfl) he
    rw[this,if_pos he]at hR
    exact hR.symm
   refine .B ?_
   refine J.mm rfl rfl rfl rfl ?_
   refine .B ?_
   refine T.K (T.ind (fun i:Nat=>⟨[(1,.optr 0 0 0 0),(3,.ref 1),(22,.val false (.sl (m.vars.map cV))),(23,.val true (.int .i64 (m.vars.map cV).length)),(24,.val true (.int .i64 i))],[(0,some (.box false (cM m))),(1,some (.mp true none ((hadM m i).map fun p=>(.string p.1,.bool p.2))))],2⟩) (fun i=>i≤m.vars.length∧∀j,j<i→varR m j=0) (fun i=>m.vars.length-i) 0 ⟨DC _,fun j hj=>absurd hj (DY j)⟩ (fun _ _ h=>h) ?_)
   rintro i ⟨hi,hb⟩ ih
   refine .B ?_
   refine T.cd rfl (fun h3=> ?_) (fun h3=> ?_)
   ·have h3:i<m.vars.length:=by have h:=h3;rw[C6]at h;omega
    have hv:=hvar i h3 hb
    have hvi:varR m i=if fG (nmM m i)=false then 40 else if gh m i=true then 41 else if dmM m i=[]∨chkR (dmM m i)≠0 then 42 else 0:=rfl
    have hrow:(m.vars.map cV)[((i:Nat):Int).toNat]? =some (cV (nmM m i,dmM m i)):=by
     rw[D1,C8,C1 h3]
     unfold nmM dmM
     rw[C0,C1 h3];rfl
    have hbk:(nmM m i).size≤1024∧(dmM m i).length≤1024:=by
     unfold nmM dmM
     rw[C0,C1 h3]
     exact b2 _ (C5 h3)
    have hns:=vT (nmM m i) (by omega)
    have hls:=ul m i
    have hup:=BW m i
    refine .B ?_
    refine .I (r:=cV (nmM m i,dmM m i)) hrow ?_
    refine .B ?_
    refine .L ?_
    refine .W ?_
    refine .B ?_
    refine .C hns ?_
    refine .B ?_
    cases hn:fG (nmM m i)
    ·have:R=40:=by rw[hv (by rw[hvi,if_pos hn];decide),hvi,if_pos hn]
     subst this
     refine T.ct rfl ?_
     refine .B ?_
     exact r1
    ·rw[if_neg (by rw[hn];simp)]at hvi
     refine T.cf rfl ?_
     refine .B ?_
     refine J.ml (nmM m i) (.bool false) rfl rfl rfl rfl rfl rfl rfl rfl rfl za (fun _ _=> .bool _) (Cx Tryz.underlying9) (fun _ _ _ h=>ry h) ?_
     rw[hls]
     cases ht:gh m i
     ·rw[if_neg (by rw[ht];simp)]at hvi
      have hup:=hup ht
      have hck2:=jc (dmM m i) (by omega)
      have stop:dmM m i=[]∨chkR (dmM m i)≠0→R=42:=fun h=>by rw[hv (by rw[hvi,if_pos h];decide),hvi,if_pos h]
      have goon: ¬dmM m i=[]→¬chkR (dmM m i)≠0→varR m i=0:=fun a b=>by rw[hvi,if_neg (fun h=>h.elim a b)]
      have hw1:IntKind.i64.wrap ((i:Int)+1)=((i+1:Nat):Int):=ak (l:=m.vars.length) h3 (by omega)
      have ih4:=fun h:varR m i=0=>ih (i+1) ⟨by omega,fun j hj=>by
       by_cases e:j=i
       ·rw[e];exact h
       ·exact hb j (by omega)⟩ (by omega)
      generalize varR m i=vr at*
      rw[←hup]at ih4
      generalize hadM m i=hm at*
      generalize nmM m i=nm at*
      generalize dmM m i=dd at*
      generalize chkR dd=ck at*
      refine .B ?_
      refine T.cf rfl ?_
      refine .B ?_
      refine J.g rfl rfl rfl (fun h5=> ?_) (fun h5=> ?_)
      ·have e:=stop (.inl (by simpa using h5))
       subst e
       refine .B ?_
       refine T.ct rfl ?_
       refine .B ?_
       exact r1
      ·refine .B ?_
       refine .C hck2 ?_
       refine .B ?_
       refine T.cd rfl (fun h6=> ?_) (fun h6=> ?_)
       ·have e:=stop (.inr h6)
        subst e
        refine .B ?_
        exact r1
       ·refine .B ?_
        refine J.mu nm true rfl rfl rfl rfl rfl rfl rfl rfl rfl rfl rfl (Cx Tryz.underlying9) (fun _ _ _ h=>ry h) rfl ?_
        refine .B ?_
        rw[hw1]
        exact T.K (ih4 (goon (fun e=>h5 (by rw[e];rfl)) h6))
     ·have:R=41:=by rw[hv (by rw[hvi,if_pos ht];decide),hvi,if_pos ht]
      subst this
      refine .B ?_
      refine T.ct rfl ?_
      refine .B ?_
      exact r1
   ·have h3:i=m.vars.length:=by have h:=h3;rw[C6]at h;omega
    have hfz:firstE ((List.range m.vars.length).map (varR m))=0:=gL fun x hx=>by
     obtain⟨j,hj,rfl⟩:=List.mem_map.1 hx
     exact hb j (by rw[h3];exact List.mem_range.1 hj)
    rw[hfz,if_neg (by simp)]at hR
    have hdv:xH (domsM m):=fun x hx=>by
     obtain⟨v,hv,rfl⟩:=List.mem_map.1 hx
     refine⟨by have:=b2 v hv;omega,?_⟩
     obtain⟨j,hj,rfl⟩:=List.mem_iff_getElem.1 hv
     have hvj:=hb j (by omega)
     unfold varR at hvj
     split at hvj
     ·cases hvj
     ·split at hvj
      ·cases hvj
      ·split at hvj
       ·cases hvj
       ·rename_i h6
        have h7:chkR (dmM m j)=0:=Classical.byContradiction fun e=>h6 (.inr e)
        unfold dmM at h7
        rw[C0,C1 hj]at h7
        exact(r7 h7).1.ok.1
    refine .B ?_
    refine .C hds ?_
    refine .B ?_
    refine T.K (T.ind (fun i:Nat=>⟨[(1,.optr 0 0 0 0),(6,.val true (aJ (domsM m))),(56,.val false (.sl (m.cons.map cC))),(57,.val true (.int .i64 (m.cons.map cC).length)),(58,.val true (.int .i64 i))],[(0,some (.box false (cM m)))],1⟩) (fun i=>i≤m.cons.length∧∀j,j<i→∀c,m.cons[j]? =some c→conR (domsM m) c=0) (fun i=>m.cons.length-i) 0 ⟨DC _,fun j hj=>absurd hj (DY j)⟩ (fun _ _ h=>h) ?_)
    rintro k ⟨hk,hbc⟩ ih
    refine .B ?_
    refine T.cd rfl (fun h4=> ?_) (fun h4=> ?_)
    ·have h4:k<m.cons.length:=by have h:=h4;rw[C6]at h;omega
     have hrow:(m.cons.map cC)[((k:Nat):Int).toNat]? =some (cC m.cons[k]):=by simp[h4]
     have hcb:=b4 _ (C5 h4)
     have hcs:=qm (domsM m) m.cons[k] ⟨by omega,by omega,by omega,hcb.2.2.2,hck _ (C5 h4)⟩ hdv
     have hgk:m.cons[k]? =some m.cons[k]:=C1 h4
     have stop:conR (domsM m) m.cons[k]≠0→R=conR (domsM m) m.cons[k]:=fun he=>by
      have:firstE (m.cons.map (conR (domsM m)))=conR (domsM m) m.cons[k]:=ju (i:=k) (fun j hj x hx=>by
       rw[C8]at hx
       obtain⟨c,hc,rfl⟩:=Option.map_eq_some_iff.1 hx
       exact hbc j hj c hc) (by rw[C8,hgk];rfl) he
      rw[this,if_pos he]at hR
      exact hR.symm
     have ih4:=fun h:conR (domsM m) m.cons[k]=0=>ih (k+1) ⟨by omega,fun j hj c hc=>by
      by_cases e:j=k
      ·rw[e,hgk]at hc;cases hc;exact h
      ·exact hbc j (by omega) c hc⟩ (by omega)
     generalize m.cons[k]=c at*
     generalize conR (domsM m) c=cr at*
     refine .B ?_
     refine .I (r:=cC c) hrow ?_
     refine .B ?_
     refine .L ?_
     refine .W ?_
     refine .B ?_
     refine .C hcs ?_
     refine .B ?_
     refine T.cd rfl (fun h5=> ?_) (fun h5=> ?_)
     ·have e:=stop h5
      subst e
      refine .B ?_
      exact r1
     ·have h5:cr=0:=Classical.byContradiction h5
      refine .B ?_
      rw[ak (l:=m.cons.length) h4 (by omega)]
      exact T.K (ih4 h5)
    ·have h4:k=m.cons.length:=by have h:=h4;rw[C6]at h;omega
     have hfc:firstE (m.cons.map (conR (domsM m)))=0:=gL fun x hx=>by
      obtain⟨c,hc,rfl⟩:=List.mem_map.1 hx
      obtain⟨j,hj⟩:=C9 hc
      exact hbc j (by have:=(List.getElem?_eq_some_iff.1 hj).1;omega) c hj
     rw[hfc,if_neg (by simp)]at hR
     have hgo:=vV (domsM m) m.goal b5.1 b5.2 hgk hdv
     rw[hR]at hgo
     refine .B ?_
     refine .C hgo ?_
     refine .B ?_
     exact r1
theorem jX:Spec Tryz.prog 34 false [] [.val (.agg (cM ex))]:=by
 refine Spec.body Tryz.func34 rfl rfl rfl fun w0 Z0=> ?_
 refine .B ?_
 refine .L ?_
 refine .B ?_
 refine .V ?_
 refine .B ?_
 refine .V ?_
 refine .V ?_
 refine .V ?_
 refine .B ?_
 refine .V ?_
 refine .V ?_
 refine .V ?_
 refine .B ?_
 refine .W ?_
 refine .B ?_
 exact⟨_,.cell rfl rfl rfl (fun _=>rfl) .nil⟩
theorem BM:ModK ex:=⟨rB,fun c hc=> .inl (by simp[ex]at hc;subst hc;decide +kernel),.inl (by decide +kernel)⟩
theorem BQ:ModK qg:=⟨BR,fun c hc=>(by cases hc),.inl (by decide +kernel)⟩
theorem ik:Spec Tryz.prog 12 false [] [.val (.bool true)]:=by
 refine Spec.body Tryz.func12 rfl rfl rfl fun w0 Z0=> ?_
 have hck:=l5 ex BM
 rw[AW]at hck
 have hgi:GoalIn (dmQ 0 1 0 1) ex.goal:=xt gp0 (by decide) (by decide) (by decide +kernel)
 have a1:=(lO ex rB zy (by decide +kernel) 9 (by decide) hck).frz
 have a2:=(lO ex rB zy (by decide +kernel) 2 (by decide) hck).frz
 have a3:=vo ex rB zy (by decide +kernel) hgi 9 (by decide) hck
 rw[AM]at a1
 rw[AN]at a2
 rw[AL]at a3
 have hck2:=l5 qg BQ
 rw[A3]at hck2
 have a4:=(AP qg 9 44 (by decide) hck2).frz
 have a1:Spec Tryz.prog 13 false [.agg (cM ex),.int .i64 9] [.val (bR [[0,1],[1,0]]),.val (.bool true),.val (.int .i64 3),.val (.int .i64 0)]:=a1
 have a2:Spec Tryz.prog 13 false [.agg (cM ex),.int .i64 2] [.val (bR [[0,1]]),.val (.bool false),.val (.int .i64 2),.val (.int .i64 0)]:=a2
 have a3:Spec Tryz.prog 18 false [.agg (cM ex),.int .i64 9] [.val (av [1,0]),.val (.bool true),.val (.bool true),.val (.int .i64 3),.val (.int .i64 0)]:=a3
 have a4:Spec Tryz.prog 13 false [.agg (cM qg),.int .i64 9] [.val (bR []),.val (.bool false),.val (.int .i64 0),.val (.int .i64 44)]:=a4
 have l1:=iZ [[0,1],[1,0]] [[0,1],[1,0]] (by decide) (by decide)
 rw[decide_eq_true rfl]at l1
 have l2:=iZ [[0,1]] [[0,1]] (by decide) (by decide)
 rw[decide_eq_true rfl]at l2
 have l3:=lX [1,0] [1,0] (by decide)
 rw[decide_eq_true rfl]at l3
 refine .B ?_
 refine .C jX ?_
 refine .B ?_
 refine .C a1 ?_
 refine .B ?_
 refine .C jX ?_
 refine .B ?_
 refine .C a2 ?_
 refine .B ?_
 refine .C jX ?_
 refine .B ?_
 refine .C a3 ?_
 refine .B ?_
 refine .C a4 ?_
 refine .B ?_
 refine .V ?_
 refine .V ?_
 refine .V ?_
 refine .C l1 ?_
 refine .B ?_
 refine .V ?_
 refine .V ?_
 refine .C l2 ?_
 refine .B ?_
 refine .V ?_
 refine .C l3 ?_
 refine .B ?_
 exact r1
theorem qZ {m:Mod}(h:checkR m=0):m.vars.length≤64∧m.cons.length≤256∧ez (domsM m) m.goal=0:=by
 unfold checkR at h
 split at h
 ·cases h
 ·rename_i h0
  split at h
  ·rename_i h1;exact absurd h h1
  ·split at h
   ·rename_i h1;exact absurd h h1
   ·exact⟨by omega,by omega,h⟩
theorem nG: ∀{d:aa},(∀x∈d,(vals x).length≤4096)→weight d≤d.length*4096
 | [],_=>by simp[weight]
 |x::d,h=>by
  have h1:=h x (.head _)
  have h2:=nG fun y hy=>h y (.tail _ hy)
  unfold weight at*
  simp only[CY,Dg,D0]
  omega
theorem uH {d:aa}{c:Con}(h:conR d c=0):ee c.coefs c.rhs=false:=jz h
structure Fit (b:Mod):Prop where
 ck:checkR b=0
 mb:ModB b
 r:RightM b
 p:prodD (domsM b)≤1048576
 cl:b.cons.length≤256
 w:weight (domsM b)≤1000000
 g:GoalIn (domsM b) b.goal
 k:ModK b
theorem Fit.run {b:Mod}(h:Fit b):RunOk (domsM b) b.cons:=h.r.run h.p
theorem wm {b:Mod}(hb:ModB b)(hc:checkR b=0)(hp:prodD (domsM b)≤1048576):Fit b:=by
 have hr:=ko hb hc
 obtain⟨h1,h2,h3⟩:=qZ hc
 have hw:=nG hr.good.few.few
 have hl:(domsM b).length=b.vars.length:=by simp[domsM]
 refine⟨hc,hb,hr,hp,h2,by omega,xt hr.good hb.gl.1 hb.gl.2 h3,hb,fun c hm=> .inl (uH (hr.right c hm)),?_⟩
 rcases goal_kinds h3 with ⟨_,_,h4⟩|⟨_,h4⟩
 ·rw[h4];exact .inl rfl
 ·exact .inl (uH h4)
theorem BY {m:Mod}{most:Nat}(hb:ModB m)(h:okM m most=true)(h1:1≤most∧most≤1048576):Fit m∧prodD (domsM m)≤most:=by
 have hk:=zU hb h h1.1
 unfold okM at h
 rw[CR,decide_eq_true_eq]at h
 exact⟨wm hb h.1 (D3 hk.2 h1.2),hk.2⟩
theorem Fit.turn {b:Mod}(h:Fit b)(hk:b.goal.kind≠0):Fit (wR b):=by
 have hk2:b.goal.kind=1∨b.goal.kind=2:=(h.g.kind.resolve_left hk).1
 refine wm ⟨h.mb.vl,h.mb.vn,h.mb.cl,h.mb.cb,⟨h.mb.gl.1,by show(b.goal.coefs.map (- ·)).length≤_;rw[C6];exact h.mb.gl.2⟩⟩ ((u4 hk2).trans h.ck) h.p
theorem yN {b:Mod}(h:Fit b):Spec Tryz.prog 64 false [.agg (cM b)] [.val (.int .i64 0)]:=by
 have:=l5 b h.k
 rw[h.ck]at this
 exact this
theorem xw {b:Mod}(h:Fit b)(left:Int)(hl:left≤1099511627776):Spec Tryz.prog 13 false [.agg (cM b),.int .i64 left] [.own 24 1 ((srchA b left).st.map cL),.val (.bool (!(srchA b left).short)),.val (.int .i64 (srchA b left).nodes),.val (.int .i64 0)]:=lO b h.mb h.run h.w left hl (yN h)
theorem lookG_os {σ:Type}{left:Int}{con:σ→List Con}{fnd:σ→List Int→σ×Bool}(hf: ∀st a,(fnd st a).2=false): ∀(n:Nat) (d:aa) (s:Srch σ),s.over=s.short→(lookG left con fnd n d s).over=(lookG left con fnd n d s).short∨(lookG left con fnd n d s).over=false∧s.over=true
 |0,d,s,h=> .inl h
 |n+1,d,s,h=>by
  rw[lookG]
  split
  ·exact .inl rfl
  ·split
   ·exact .inl h
   ·split
    ·rename_i a _
     cases hs:s.over with
     |true=>exact .inr ⟨hf _ _,rfl⟩
     |false=>exact .inl (by rw[hs]at h;show(fnd s.st a).2=s.short;rw[hf,h])
    ·left
     refine jt (Q:=fun s:Srch σ=>s.over=s.short) (fun t x _ ht=> ?_) h
     split
     ·exact ht
     ·rename_i ho
      rcases lookG_os hf n _ t ht with h1|⟨_,h1⟩
      ·exact h1
      ·exact absurd h1 ho
theorem zY {d:aa}:nodeF d≤bA (d.map fun x=>(vals x).length+1):=by
 refine j5 (by simp) fun i x y hx hy=> ?_
 obtain⟨x',hx',rfl⟩: ∃x',d[i]? =some x'∧iD (vals x').length=x:=by simpa using hx
 obtain⟨y',hy',rfl⟩: ∃y',d[i]? =some y'∧(vals y').length+1=y:=by simpa using hy
 rw[hx']at hy'
 cases hy'
 unfold iD
 split<;>omega
def enoughN (d:aa):Nat:=2*bA (d.map fun x=>(vals x).length+1)+1
section
variable {b:Mod}{left:Int}
theorem CA (h:Fit b)(left:Int):Goes left (domsM b) (fun _=>b.cons) mj (fun _=>True) (nodeF (domsM b)) ⟨0,false,false,[]⟩ (srchA b left):=kd (tR h.run) (weight (domsM b)+1) (domsM b) ⟨0,false,false,[]⟩ (Di _) h.r.good leD.rfl' trivial
theorem zu (h:Fit b)(hl:(enoughN (domsM b):Int)≤left):(srchA b left).short=false:=by
 cases hs:(srchA b left).short with
 |false=>rfl
 |true=>
  have h1:=((CA h left).now rfl hs).2.1
  have h2:=zY (d:=domsM b)
  unfold enoughN at hl
  simp only at h1
  omega
theorem Cg (h:Fit b)(left:Int):(srchA b left).over=(srchA b left).short:=by
 rcases lookG_os (left:=left) (con:=fun _:List (List Int)=>b.cons) (fnd:=mj) (fun _ _=>rfl) (weight (domsM b)+1) (domsM b) ⟨0,false,false,[]⟩ rfl with h1|⟨_,h1⟩
 ·exact h1
 ·cases h1
theorem zb (h:Fit b)(hs:(srchA b left).short=false):(srchA b left).st=solsR b.cons (domsM b):=by
 have ho:=Cg h left
 rw[hs]at ho
 exact qr h.run (weight (domsM b)+1) (domsM b) ⟨0,false,false,[]⟩ (Di _) h.r.good leD.rfl' rfl ho
end
theorem zr {cons:List Con}{d:aa}: ∀a∈solsR cons d,a.length=d.length:=fun a ha=>(nR.1 ha).1.1
def Bnd (a:List Int):Prop:= ∀x∈a,-1048576≤x∧x≤1048576
section
variable {b:Mod}{left:Int}
theorem zt (h:Fit b): ∀a∈solsR b.cons (domsM b),Bnd a:=fun a ha x hx=>by
 obtain⟨⟨h1,h2⟩,_⟩:=nR.1 ha
 obtain⟨i,hi,rfl⟩:=List.mem_iff_getElem.1 hx
 have h3:=h2 i (by omega)
 rw[C0 (l:=a),C1 hi]at h3
 rw[C0,C1 (by omega)]at h3
 exact(h.r.good.few.fine _ (C5 _)).val _ h3
end
theorem xV {pre post:List Con}{c:Con}{d:aa}:solsR (pre++c::post) d=(solsR (pre++post) d).filter fun a=>holdsR c a:=by
 unfold solsR
 rw[List.filter_filter]
 refine FX fun a _=> ?_
 rw[Dm,Dm,EW]
 generalize (pre.all fun c=>holdsR c a)=x
 generalize holdsR c a=y
 generalize (post.all fun c=>holdsR c a)=z
 cases x<;>cases y<;>cases z<;>rfl
def zo (P:Nat→Nat):Nat→Int
 |0=>1
 |i+1=>P (i+1)
theorem uB (m:Mod)(hm:ModB m)(fd:FewD (domsM m))(hb:enoughN (domsM m)≤1099511627776):Spec Tryz.prog 22 false [.agg (cM m)] [.val (.int .i64 (enoughN (domsM m)))]:=by
 refine Spec.body Tryz.func22 rfl rfl rfl fun w0 Z0=> ?_
 obtain⟨b1,b2,b3,b4,b5⟩:=hm
 have hlen:(domsM m).length=m.vars.length:=by simp[domsM]
 obtain⟨P,hP⟩: ∃P:Nat→Nat,P=fun i=>bA (((domsM m).take i).map fun x=>(vals x).length+1):=⟨_,rfl⟩
 have hPs: ∀i (h:i<m.vars.length),P (i+1)=P i*((vals m.vars[i].2).length+1):=fun i h=>by
  rw[hP]
  simp only
  rw[C7 (by omega),DF,du]
  simp[bA,domsM]
 have hPm: ∀i,i≤m.vars.length→P i≤549755813888:=fun i hi=>by
  have h1:bA ((domsM m).map fun x=>(vals x).length+1)≤549755813888:=by unfold enoughN at hb;omega
  rw[hP]
  simp only
  have e:bA ((domsM m).map fun x=>(vals x).length+1)=bA (((domsM m).take i).map fun x=>(vals x).length+1)*bA (((domsM m).drop i).map fun x=>(vals x).length+1):=by
   rw[←du,←DF,E7]
  have h2:1≤bA (((domsM m).drop i).map fun x=>(vals x).length+1):=lT fun x hx=>by
   obtain⟨y,_,rfl⟩:=List.mem_map.1 hx;omega
  rw[e]at h1
  exact D3 (Eu _ h2) h1
 refine .B ?_
 refine T.K (T.ind (fun i:Nat=>⟨[(1,.optr 0 0 0 0),(3,.val true (.int .i64 (zo P i))),(4,.val true (.int .i64 i))],[(0,some (.box false (cM m)))],1⟩) (fun i=>i≤m.vars.length) (fun i=>m.vars.length-i) 0 (DC _) (fun _ _ h=>h) ?_)
 rintro i hi ih
 have hP0:P 0=1:=by rw[hP];rfl
 have hQ: ∀i,zo P i=P i:=fun i=>by cases i with|zero=>rw[hP0];rfl|succ i=>rfl
 simp only[hQ]at ih⊢
 refine .B ?_
 refine T.cd rfl (fun h1=> ?_) (fun h1=> ?_)
 ·have h1:i<m.vars.length:=by have h:=h1;rw[C6]at h;omega
  have hrow:(m.vars.map cV)[((i:Nat):Int).toNat]? =some (cV m.vars[i]):=by simp[h1]
  have hx:m.vars[i].2∈domsM m:=List.mem_map.2 ⟨_,C5 h1,rfl⟩
  have hd:=(fd.fine _ hx).domB
  have hval:=mz m.vars[i].2 hd.1 (by have:=hd.2.1;omega) hd.2.2
  have hmul:=hPs i h1
  have hle:=hPm (i+1) h1
  have hvl:=fd.few _ hx
  have ih1:=ih (i+1) h1 (by omega)
  rw[hmul]at hle ih1
  generalize m.vars[i]=v at*
  refine .B ?_
  refine .I (r:=cV v) hrow ?_
  refine .B ?_
  refine .C hval ?_
  refine .B ?_
  rw[C6,ae (n:=((vals v.2).length:Int)+1) (by omega) (by omega)]
  have e2:(P i:Int)*(((vals v.2).length:Int)+1)=((P i*((vals v.2).length+1):Nat):Int):=by push_cast;rfl
  rw[e2,ae (n:=((P i*((vals v.2).length+1):Nat):Int)) (by omega) (by omega),ak (l:=m.vars.length) (n:=i) h1 (by omega)]
  exact T.K ih1
 ·have e:i=m.vars.length:=by have h:=h1;rw[C6]at h;omega
  subst e
  have e3:enoughN (domsM m)=2*P m.vars.length+1:=by rw[hP];simp only;rw[CV (by omega)];rfl
  have hle:=hPm _ (CS _)
  rw[e3]
  refine .B ?_
  exact⟨_,.v rfl rfl (by rw[ae (n:=2*(P m.vars.length:Int)) (by omega) (by omega),ae (by omega) (by omega)];congr 1) (fun _=>rfl) .nil⟩
theorem zJ {l:List Nat}(h: ∀x∈l,1≤x):bA (l.map (· +1))≤2 ^ l.length*bA l:=by
 induction l with
 |nil=>simp[bA]
 |cons x l ih=>
  have h1:=h x (.head _)
  have h2:=ih fun y hy=>h y (.tail _ hy)
  rw[CY,bA,bA,D0,Nat.pow_succ]
  calc (x+1)*bA (l.map (· +1))≤(2*x)*(2 ^ l.length*bA l):=FE (by omega) h2
   _=2 ^ l.length*2*(x*bA l):=by rw[Nat.mul_comm 2 x,GF x 2,Fz x 2,Nat.mul_comm (2 ^ l.length) 2,GF 2,Fz x]
theorem yQ {d:aa}(gd:GoodD d.length d)(hl:d.length≤10)(hp:prodD d≤300):enoughN d≤614401:=by
 have h1:=zJ (l:=d.map fun x=>(vals x).length) (fun x hx=>by
  obtain⟨y,hy,rfl⟩:=List.mem_map.1 hx
  have:=gd.one y hy
  omega)
 rw[Dz,C6]at h1
 have h2:2 ^ d.length≤1024:=D3 (Nat.pow_le_pow_right (by omega) hl) (by decide)
 have h3:2 ^ d.length*bA (d.map fun x=>(vals x).length)≤1024*300:=FE h2 hp
 unfold enoughN
 have h4:bA (d.map fun x=>(vals x).length+1)=bA (d.map ((· +1)∘fun x=>(vals x).length)):=rfl
 omega
theorem y5 (m:Mod):(domsM (boundM m)).length≤10:=by simp[domsM,boundM];omega
def Br (g:Goal)(u1 u2 u3:Value):List PV:=[.raw u1,.raw u2,.int .i64 g.kind,av g.vars,.raw u3]
set_option maxHeartbeats 1000000 in
theorem yZ (m:Mod)(hm:ModB m):SpecX Tryz.prog 14 [] [] [] [] [(false,.agg (cM m))] (fun _=>[]) (fun ns=>[.sl 3 1 true (m.goal.coefs.map cI)]) false (fun ns=>[.agg [.sl (m.vars.map cV),cN m.cons,.int .i64 m.goal.kind,av m.goal.vars,.raw (ns.getD 0 undef)]]):=by
 refine SpecX.body (fn:=Tryz.f14) [] [1000] rfl rfl rfl rfl fun w0 Z=> ?_
 obtain⟨b1,b2,b3,b4,b5⟩:=hm
 have hM: ∀b,¬(∃u∈([]:List Value)++[],VB u b):=fun b ⟨u,hu,_⟩=>by cases hu
 refine .B ?_
 refine .L ?_
 refine .M ?_
 refine T.rdw 16 rfl (by kernel_rfl) rfl ?_
 refine .M ?_
 refine .O ?_
 refine .M ?_
 refine J.adf hM rfl rfl rfl rfl rfl rfl rfl rfl rfl rfl rfl rfl rfl rfl rfl rfl rfl oL (by show(0+List.length _)*8≤_;simp;omega) ?_
 refine .M ?_
 refine .O ?_
 refine .M ?_
 refine J.ad rfl rfl rfl rfl rfl rfl rfl rfl rfl rfl rfl rfl rfl rfl rfl rfl rfl rfl oL (by show(0+List.length _)*8≤_;simp;omega) ?_
 refine J.br rfl rfl rfl rfl rfl ?_
 refine J.br rfl rfl rfl rfl rfl ?_
 refine .L ?_
 refine J.nil ?_
 refine⟨by kernel_rfl,?_⟩
 refine J.name 1000 (s:=18) rfl rfl rfl fun u=> ?_
 refine J.sub (Rel.agrawZ (s:=20) [(4,1000)] rfl rfl) ?_
 refine .W ?_
 refine J.nil ?_
 refine T.nilO 1001 56 2 rfl ?_
 refine T.nilO 1002 51 7 rfl ?_
 refine T.sub (Rel.wk (o:=6) rfl) ?_
 refine T.sub (Rel.wk (o:=7) rfl) ?_
 refine T.sub (Rel.flat (o:=4) rfl (fun r hr p hp=>by simp[cI]at hr;obtain⟨x,_,rfl⟩:=hr;simp at hp;subst hp;rfl)) ?_
 refine T.canon (keep:=[1,2,3,1000,1001,1002]) (os:=[1,2,3,1000,1001,1002]) rfl ?_
 refine T.mids (fun u1:Value=>⟨[(1,.optr 0 0 0 0),(2,.optr 1 0 0 0),(3,.optr 2 0 0 0),(1000,.eq u 3),(1001,.eq u1 4),(1002,.eq (.slice none 0 0) 5)],[(0,some (.box false (cM m))),(1,some (.box true [.sl [],.sl [],.int .i64 0,.sl [],.sl []])),(2,some (.box false (Br m.goal u1 (.slice none 0 0) u))),(3,some (.sl 3 1 true (m.goal.coefs.map cI))),(4,some (.sl 56 2 false (m.vars.map cV))),(5,some (.sl 51 7 false ([])))],6⟩) ?_ fun u1=> ?_
 ·refine .M ?_
  refine T.K (T.ind (fun s:Nat×Value=>⟨[(1,.optr 0 0 0 0),(2,.optr 1 0 0 0),(3,.optr 2 0 0 0),(4,.val true (.int .i64 s.1)),(1000,.eq u 3),(1001,.eq s.2 4),(1002,.eq (.slice none 0 0) 5)],[(0,some (.box false (cM m))),(1,some (.box true [.sl [],.sl [],.int .i64 0,.sl [],.sl []])),(2,some (.box false (Br m.goal s.2 (.slice none 0 0) u))),(3,some (.sl 3 1 true (m.goal.coefs.map cI))),(4,some (.sl 56 2 false ((m.vars.take s.1).map cV))),(5,some (.sl 51 7 false ([])))],6⟩) (fun s=>s.1≤m.vars.length) (fun s=>m.vars.length-s.1) (0,.slice none 0 0) (DC _) (fun _ _ h=>by cases h.1) ?_)
  rintro⟨i,u1⟩ hi ih
  simp only at hi
  refine .B ?_
  refine T.cd rfl (fun h1=> ?_) (fun h1=> ?_)
  ·have h1:i<m.vars.length:=by have h:=h1;rw[C6]at h;omega
   have hrow:(m.vars.map cV)[((i:Nat):Int).toNat]? =some (cV m.vars[i]):=by simp[h1]
   have hv:=b2 _ (C5 h1)
   have htk:m.vars.take (i+1)=m.vars.take i++[m.vars[i]]:=C7 h1
   have hln:(m.vars.take i).length≤1024:=by simp;omega
   have ih1:=fun u'=>ih (i+1,u') (by show _≤_;omega) (by show _-_<_-_;omega)
   simp only[htk,DF]at ih1
   generalize m.vars.take i=out at*
   generalize m.vars[i]=v at*
   obtain⟨nm,dd⟩:=v
   simp only at hv
   refine .M ?_
   refine T.rdw 20 rfl (by kernel_rfl) rfl ?_
   refine J.H rfl ?_
   refine J.lr 1001 (q:=4) (u:=u1) rfl rfl rfl rfl rfl rfl rfl rfl rfl ?_
   refine .M ?_
   refine .I (r:=cV (nm,dd)) hrow ?_
   refine .M ?_
   refine .O ?_
   refine .M ?_
   refine .I (r:=cV (nm,dd)) hrow ?_
   refine .M ?_
   refine J.adf hM rfl rfl rfl rfl rfl rfl rfl rfl rfl rfl rfl rfl rfl rfl rfl rfl rfl xo (by show(0+List.length _)*16≤_;simp;omega) ?_
   refine .M ?_
   refine .V ?_
   refine J.ad rfl rfl rfl rfl rfl rfl rfl rfl rfl rfl rfl rfl rfl rfl rfl rfl rfl rfl (cB rfl) (by show(List.length _+1)*40≤_;simp;omega) ?_
   refine .M ?_
   refine⟨by kernel_rfl,?_⟩
   refine J.name 1001 (s:=46) rfl rfl rfl fun u'=> ?_
   refine J.sub (Rel.raw (s:=46) (g:=1001) rfl (.inl rfl) rfl rfl rfl) ?_
   refine .W ?_
   refine .B ?_
   rw[ak (l:=m.vars.length) (n:=i) h1 (by omega)]
   exact T.K (ih1 u')
  ·have e:i=m.vars.length:=by have h:=h1;rw[C6]at h;omega
   subst e
   rw[DE]
   refine .B ?_
   exact⟨rfl,u1,[1,2,3,1000,1001,1002],[1,2,3,1000,1001,1002],rfl,rfl⟩
 ·refine T.mids (fun u2:Value=>⟨[(1,.optr 0 0 0 0),(2,.optr 1 0 0 0),(3,.optr 2 0 0 0),(1000,.eq u 3),(1001,.eq u1 4),(1002,.eq u2 5)],[(0,some (.box false (cM m))),(1,some (.box true [.sl [],.sl [],.int .i64 0,.sl [],.sl []])),(2,some (.box false (Br m.goal u1 u2 u))),(3,some (.sl 3 1 true (m.goal.coefs.map cI))),(4,some (.sl 56 2 false (m.vars.map cV))),(5,some (.sl 51 7 false (m.cons.map cC)))],6⟩) ?_ fun u2=> ?_
  ·refine .M ?_
   refine T.K (T.ind (fun s:Nat×Value=>⟨[(1,.optr 0 0 0 0),(2,.optr 1 0 0 0),(3,.optr 2 0 0 0),(5,.val true (.int .i64 s.1)),(1000,.eq u 3),(1001,.eq u1 4),(1002,.eq s.2 5)],[(0,some (.box false (cM m))),(1,some (.box true [.sl [],.sl [],.int .i64 0,.sl [],.sl []])),(2,some (.box false (Br m.goal u1 s.2 u))),(3,some (.sl 3 1 true (m.goal.coefs.map cI))),(4,some (.sl 56 2 false (m.vars.map cV))),(5,some (.sl 51 7 false ((m.cons.take s.1).map cC)))],6⟩) (fun s=>s.1≤m.cons.length) (fun s=>m.cons.length-s.1) (0,.slice none 0 0) (DC _) (fun _ _ h=>by cases h.1) ?_)
   rintro⟨i,u2⟩ hi ih
   simp only at hi
   refine .B ?_
   refine T.cd rfl (fun h1=> ?_) (fun h1=> ?_)
   ·have h1:i<m.cons.length:=by have h:=h1;rw[C6]at h;omega
    have hrow:(m.cons.map cC)[((i:Nat):Int).toNat]? =some (cC m.cons[i]):=by simp[h1]
    have hv:=b4 _ (C5 h1)
    have htk:m.cons.take (i+1)=m.cons.take i++[m.cons[i]]:=C7 h1
    have hln:(m.cons.take i).length≤1024:=by simp;omega
    have hown:=tn m.cons[i] ⟨by omega,by omega,by omega,fun r hr=>by have:=hv.2.2.2 r hr;omega⟩
    have ih1:=fun u'=>ih (i+1,u') (by show _≤_;omega) (by show _-_<_-_;omega)
    simp only[htk,DF]at ih1
    generalize m.cons.take i=out at*
    generalize m.cons[i]=c at*
    refine .M ?_
    refine T.rdw 11 rfl (by kernel_rfl) rfl ?_
    refine J.H rfl ?_
    refine J.lr 1002 (q:=5) (u:=u2) rfl rfl rfl rfl rfl rfl rfl rfl rfl ?_
    refine .M ?_
    refine .I (r:=cC c) hrow ?_
    refine .M ?_
    refine .C hown ?_
    refine .M ?_
    refine .V ?_
    refine J.ad rfl rfl rfl rfl rfl rfl rfl rfl rfl rfl rfl rfl rfl rfl rfl rfl rfl rfl (cB rfl) (D3 (DJ _ (show(out.map cC).length+1≤1025 by rw[C6];omega)) (show 1025*104≤140737488355328 by decide)) ?_
    refine .M ?_
    refine⟨by kernel_rfl,?_⟩
    refine J.name 1002 (s:=64) rfl rfl rfl fun u'=> ?_
    refine J.sub (Rel.raw (s:=64) (g:=1002) rfl (.inl rfl) rfl rfl rfl) ?_
    refine .W ?_
    refine .B ?_
    rw[ak (l:=m.cons.length) (n:=i) h1 (by omega)]
    exact T.K (ih1 u')
   ·have e:i=m.cons.length:=by have h:=h1;rw[C6]at h;omega
    subst e
    rw[DE]
    refine .B ?_
    exact⟨rfl,u2,[1,2,3,1000,1001,1002],[1,2,3,1000,1001,1002],rfl,rfl⟩
  ·refine T.sub (fun a w h=>Rel.meltB (i:=0) (qc:=2) (q:=4) (g:=1001) hM rfl rfl rfl rfl rfl h) ?_
   refine T.sub (fun a w h=>Rel.meltB (i:=1) (qc:=2) (q:=5) (g:=1002) hM rfl rfl rfl rfl rfl h) ?_
   refine .B ?_
   refine .W ?_
   refine .B ?_
   exact⟨[],[3],[u],trivial,⟨rfl,⟨_,rfl,rfl,rfl⟩,trivial⟩,rfl,.cell rfl rfl rfl (fun h=>by cases h) .nil⟩
def cg (b:Mod)(j:Nat):Mod:=⟨b.vars,b.cons.take j++b.cons.drop (j+1),b.goal⟩
theorem tX {b:Mod}{j:Nat}: ∀c∈(cg b j).cons,c∈b.cons:=fun c hc=>by
 rcases List.mem_append.1 hc with h|h
 ·exact Dh h
 ·exact Dr h
theorem Fit.less {b:Mod}(h:Fit b)(j:Nat):Fit (cg b j):=by
 have hl:(cg b j).cons.length≤b.cons.length:=by show(b.cons.take j++b.cons.drop (j+1)).length≤_;rw[CW,D8,FH];omega
 have hcl:=h.mb.cl
 refine wm ⟨h.mb.vl,h.mb.vn,by omega,fun c hc=>h.mb.cb c (tX c hc),h.mb.gl⟩ ?_ h.p
 obtain⟨h1,h2,h3⟩:=qZ h.ck
 have hck:=h.ck
 unfold checkR at hck⊢
 rw[if_neg (by omega)]at hck
 rw[if_neg (by show¬(64<b.vars.length∨256<(cg b j).cons.length);omega)]
 have e1:firstE ((List.range (cg b j).vars.length).map (varR (cg b j)))=firstE ((List.range b.vars.length).map (varR b)):=rfl
 have e2:firstE ((cg b j).cons.map (conR (domsM (cg b j))))=0:=gL fun x hx=>by
  obtain⟨c,hc,rfl⟩:=List.mem_map.1 hx
  exact h.r.right c (tX c hc)
 rw[e1,e2]
 split at hck
 ·rename_i h4;exact absurd hck h4
 ·rename_i h4
  rw[if_neg h4,if_neg (by simp)]
  exact h3
set_option maxHeartbeats 1000000 in
theorem yA (m:Mod)(k:Int)(hm:ModI m):Spec Tryz.prog 6 true [.agg (cM m),.int .i64 k] [.val (.bool true)]:=by
 refine Spec.body Tryz.func6 rfl rfl rfl fun w0 Z0=> ?_
 have hrs:=tL m 300 hm (by omega)
 have hb:=uO m
 have hfit:=fun h=>BY (most:=300) hb h (by omega)
 have hbl:=y5 m
 generalize okM (boundM m) 300=ok at*
 generalize boundM m=b at*
 refine .B ?_
 refine .C hrs ?_
 refine .B ?_
 refine .W ?_
 refine .B ?_
 cases ok with
 |false=>
  refine .B ?_
  refine T.ct rfl ?_
  refine .B ?_
  refine .C ik ?_
  refine .B ?_
  exact⟨_,.v rfl rfl rfl (fun h=>by cases h) .nil⟩
 |true=>
  obtain⟨hF,hp⟩:=hfit rfl
  refine .B ?_
  refine T.cd rfl (fun hz=> ?_) (fun hz=> ?_)
  ·refine .B ?_
   refine .C ik ?_
   refine .B ?_
   exact⟨_,.v rfl rfl rfl (fun h=>by cases h) .nil⟩
  ·have hz:0<b.cons.length:=by
    have h:=hz
    rw[C6]at h
    omega
   have hcl:=hF.cl
   have hz2:((b.cons.map cC).length:Int)≠0:=by rw[C6];omega
   obtain⟨j,hj,hjl⟩: ∃j:Nat,(wK k).tmod (b.cons.length:Int)=(j:Nat)∧j<b.cons.length:=by
    have h1:=Bt k
    have h2:=Int.tmod_nonneg (b.cons.length:Int) h1.1
    have h3:=Int.tmod_lt_of_pos (wK k) (b:=(b.cons.length:Int)) (by omega)
    exact⟨((wK k).tmod (b.cons.length:Int)).toNat,by omega,by omega⟩
   have hL:=hF.less j
   have hen:=yQ hF.r.good hbl hp
   have se:=uB b hF.mb hF.r.good.few (by omega)
   have s1:=(xw hF (enoughN (domsM b)) (by omega)).frz
   have s2:=(xw hL (enoughN (domsM b)) (by omega)).frz
   have hshA:=zu (left:=enoughN (domsM b)) hF (DO _)
   have hshL:=zu (b:=cg b j) (left:=enoughN (domsM b)) hL (DO _)
   have hwA:=zb hF hshA
   have hwL:=zb hL hshL
   rw[hshA,hwA]at s1
   rw[hshL,hwL]at s2
   have hcut:b.cons=b.cons.take j++b.cons[j]::b.cons.drop (j+1):=by
    conv=>lhs;rw[←E7 j b.cons,CU hjl]
   have hAL:solsR b.cons (domsM b)=(solsR (cg b j).cons (domsM (cg b j))).filter fun a=>holdsR b.cons[j] a:=by
    conv=>lhs;rw[hcut]
    exact xV
   have hsl:=zr (cons:=(cg b j).cons) (d:=domsM (cg b j))
   have hdl:(domsM (cg b j)).length≤10:=hbl
   have hbn:=zt hL
   have hcm:=C5 hjl
   have hcb:=hF.r.con _ hcm
   have hcr:=hF.r.right _ hcm
   have hgood:=hF.r.good
   have hholds:=fun a (ha:a∈solsR (cg b j).cons (domsM (cg b j)))=>wh b.cons[j] a hcb (by rw[hsl a ha];omega) (fun h5=>by have:=(qY hcb hcr h5).len;omega) (fun _ x hx=>by have:=hbn a ha x hx;omega)
   have hcnt:(solsR (cg b j).cons (domsM (cg b j))).length≤1048576:=by
    have h1:=DN (fun a=>(cg b j).cons.all fun c=>holdsR c a) (bi (domsM (cg b j)) (domsM (cg b j)).length)
    have h2:=mV (domsM (cg b j)) _ (CS _)
    rw[CV (CS _)]at h2
    unfold solsR
    have:=hL.p
    omega
   have hrow:(b.cons.map cC)[((j:Nat):Int).toNat]? =some (cC b.cons[j]):=aO hjl
   have q1:=iZ (solsR b.cons (domsM b)) ((solsR (cg b j).cons (domsM (cg b j))).filter fun a=>holdsR b.cons[j] a) (by rw[hAL];have:=DN (fun a=>holdsR b.cons[j] a) (solsR (cg b j).cons (domsM (cg b j)));omega) (fun x hx=>by rw[hAL]at hx;rw[hsl x (List.mem_filter.1 hx).1];omega)
   rw[decide_eq_true hAL]at q1
   have elm:cM (cg b j)=[.sl (b.vars.map cV),.sl ((b.cons.take j).map cC++(b.cons.drop (j+1)).map cC),.int .i64 b.goal.kind,av b.goal.vars,av b.goal.coefs]:=by rw[←DF];rfl
   rw[elm]at s2
   generalize solsR b.cons (domsM b)=A at*
   generalize solsR (cg b j).cons (domsM (cg b j))=B at*
   generalize b.cons[j]=c at*
   have s1:Spec Tryz.prog 13 false [.agg (cM b),.int .i64 (enoughN (domsM b))] [.val (bR A),.val (.bool true),.val (.int .i64 (srchA b (enoughN (domsM b))).nodes),.val (.int .i64 0)]:=s1
   generalize (srchA b (enoughN (domsM b))).nodes=n1 at*
   generalize (srchA (cg b j) (enoughN (domsM b))).nodes=n2 at*
   generalize enoughN (domsM b)=en at*
   refine .B ?_
   refine J.cx [] [] [1000] (yZ b hF.mb) trivial (fun ns hns=> ?_)
   obtain⟨u,rfl⟩:=Ai hns rfl
   refine .M ?_
   refine .L ?_
   refine .W ?_
   refine .M ?_
   refine J.rm rfl rfl rfl rfl rfl rfl hz2 ?_
   rw[C6,show IntKind.i64.wrap (BitVec.ofInt IntKind.i64.bits k &&& BitVec.ofInt IntKind.i64.bits 65535).toNat=wK k from rfl,hj]
   refine .M ?_
   refine .O ?_
   refine .M ?_
   refine J.s1 (enc:=cC) (l:=b.cons) j rfl rfl rfl rfl rfl rfl rfl rfl rfl (fun _=>rfl) rfl (by omega) ?_
   refine .M ?_
   refine J.am (enc:=cC) (l:=([]:List Con)) (l2:=b.cons.take j) (B:=104) rfl rfl rfl rfl rfl rfl rfl rfl rfl rfl rfl rfl rfl rfl rfl rfl rfl (fun _=>rfl) rfl (by rw[D8];show(0+_)*104≤_;omega) ?_
   refine J.name 1001 (s:=45) rfl rfl rfl fun u2=> ?_
   refine J.sub (Rel.raw (s:=45) (g:=1001) rfl (.inl rfl) rfl rfl rfl) ?_
   refine .M ?_
   refine .W ?_
   refine .M ?_
   refine T.rdw 9 rfl (by kernel_rfl) rfl ?_
   refine J.H rfl ?_
   refine J.lr 1001 (q:=4) (u:=u2) rfl rfl rfl rfl rfl rfl rfl rfl rfl ?_
   refine .M ?_
   rw[ak (l:=b.cons.length) hjl (by omega)]
   refine J.s3 (enc:=cC) (l:=b.cons) (j+1) rfl rfl rfl rfl rfl rfl rfl rfl rfl (fun _=>rfl) rfl (by omega) ?_
   refine J.ad rfl rfl rfl rfl rfl rfl rfl rfl rfl rfl rfl rfl rfl rfl rfl rfl rfl rfl Ag (by show(List.length _+List.length _)*104≤_;simp;omega) ?_
   refine .M ?_
   refine⟨by kernel_rfl,?_⟩
   refine J.name 1002 (s:=54) rfl rfl rfl fun u3=> ?_
   refine J.sub (Rel.raw (s:=54) (g:=1002) rfl (.inl rfl) rfl rfl rfl) ?_
   refine .W ?_
   refine J.nil ?_
   refine T.canon (keep:=[2,6,7,1000,1002]) (os:=[2,6,1000,1002]) rfl ?_
   refine T.sub (Rel.cellF 1000 4 (q:=1) (n:=2) (fun b h=>h) rfl rfl rfl rfl rfl) ?_
   refine T.sub (Rel.cellF 1002 1 (q:=1) (n:=3) (fun b h=>h) rfl rfl rfl rfl rfl) ?_
   refine .M ?_
   refine T.rdm 13 rfl (by kernel_rfl) rfl ?_
   refine .M ?_
   refine .C se ?_
   refine .M ?_
   refine .C s1 ?_
   refine .M ?_
   refine T.rdm 13 rfl (by kernel_rfl) rfl ?_
   refine .M ?_
   refine .C se ?_
   refine .M ?_
   refine .C s2 ?_
   refine .M ?_
   refine T.cf rfl ?_
   refine .M ?_
   refine .O ?_
   refine .B ?_
   refine T.K (T.listI B (fun _=>True) (fun n pre post=>⟨[(2,.optr 0 0 0 0),(7,.val true (.int .i64 j)),(8,.val true (bR A)),(12,.val true (bR B)),(16,.ref 1),(17,.val true (.int .i64 n))],[(0,some (.box false (cM b))),(1,some (.sl 24 1 true ((pre.filter fun a=>holdsR c a).map cL)))],2⟩) (fun _ _ h=>h) trivial ?_ ?_)
   ·rintro n pre a post h hn _ ih
    have hlt:=bY h hn
    have hsp:=hholds a (by rw[h];simp)
    have hra:=aS (enc:=cL) h hn
    have hpl:(pre.filter fun a=>holdsR c a).length≤B.length:=by
     have:=DN (fun a=>holdsR c a) pre
     rw[h];simp;omega
    have ih1:=ih trivial
    rw[EV,DF]at ih1
    refine .B ?_
    refine T.ct2 rfl (bX h hn) ?_
    refine .M ?_
    refine T.rdm 10 rfl (by kernel_rfl) rfl ?_
    refine .M ?_
    refine .I (r:=cC c) hrow ?_
    refine .M ?_
    refine .I (r:=cL a) hra ?_
    refine .M ?_
    refine .C hsp ?_
    refine .M ?_
    cases hs:holdsR c a with
    |true=>
     rw[show [a].filter (fun a=>holdsR c a)=[a]by rw[Ev,if_pos hs];rfl]at ih1
     refine T.ct rfl ?_
     refine .B ?_
     refine .I (r:=cL a) hra ?_
     refine .B ?_
     refine .V ?_
     refine J.a rfl rfl rfl rfl rfl rfl rfl rfl rfl rfl rfl rfl rfl rfl rfl rfl rfl (cB rfl) (by show((List.map cL _).length+1)*24≤_;rw[C6];omega) ?_
     refine .B ?_
     rw[ak hlt (by omega)]
     exact T.K ih1
    |false=>
     rw[show [a].filter (fun a=>holdsR c a)=[]by rw[Ev,if_neg (by rw[hs];simp)];rfl,Ez,Dv]at ih1
     refine T.cf rfl ?_
     refine .B ?_
     rw[ak hlt (by omega)]
     exact T.K ih1
   ·intro _
    refine .B ?_
    refine T.cf2 rfl bl ?_
    refine .B ?_
    refine .C q1 ?_
    refine .B ?_
    refine .C ik ?_
    refine .B ?_
    exact⟨_,.v rfl rfl rfl (fun h=>by cases h) .nil⟩
set_option maxRecDepth 100000
section
variable {H:Type}{henc:TypeId×Value→H}{w:World}
theorem fZ:dE henc Tryz.prog w 3 cI (fun n=> -9223372036854775808≤n∧n≤9223372036854775807):=yi (by kernel_rfl)
theorem iY:dE henc Tryz.prog w 24 (fun l=>[av l]) (fun l=>l.length*8≤reachBytes):=
 (eT (t:=24) (e:=3) (by kernel_rfl) fZ (fun _=>by kernel_rfl) (by decide +kernel) (fun a p hp=>by simp[cI]at hp;subst hp;rfl)).map id (fun _=>rfl) fun l h=>h.1
theorem zR:dE henc Tryz.prog w 34 (fun l=>[bR l]) (fun l=>l.length*24≤reachBytes∧∀x∈l,x.length*8≤reachBytes):=
 (eT (t:=34) (e:=24) (by kernel_rfl) iY (fun _=>by kernel_rfl) (by decide +kernel) (fun a p hp=>by simp at hp;subst hp;rfl)).map id (fun _=>rfl) fun l h=>h
theorem yj:dE henc Tryz.prog w 51 cC ConB:=by
 have h:=dW (henc:=henc) (w:=w) Tryz.underlying51 (aP fZ rfl (aP iY (by kernel_rfl) (aP iY (by kernel_rfl) (aP fZ (by kernel_rfl) (aP fZ (by kernel_rfl) (aP zR (by kernel_rfl) (aP fZ (by kernel_rfl) (fF _)))))))) (by kernel_rfl)
 refine h.map (fun x=>(⟨x.1,x.2.1,x.2.2.1,x.2.2.2.1,x.2.2.2.2.1,x.2.2.2.2.2.1,x.2.2.2.2.2.2.1⟩:Con)) (fun _=>rfl) fun x h=> ?_
 obtain⟨_,h1,h2,_,_,h3,_⟩:=h
 have e:reachBytes=140737488351232:=rfl
 rw[e]at h1 h2 h3
 exact⟨by simp only;omega,by simp only;omega,by simp only;omega,fun y hy=>by have:=h3.2 y hy;omega⟩
end
end Go.Proofs.YtopcjbahjjhdmaaGreat
namespace Go.Proofs.YtopcjbahjjhdmaaGreat
open Go Go.RowKit
set_option linter.unusedVariables false
set_option maxRecDepth 100000
section
variable {H:Type}{henc:TypeId×Value→H}{w:World}
theorem AY:dE henc Tryz.prog w 9 (fun s:ByteArray=>[.str s]) (fun _=>True):=by
 intro fuel cs x h _ _
 obtain⟨s,rfl,_,_⟩:=DataW.trod_string (show Tryz.prog.underlying 9=some .string by kernel_rfl) h
 exact⟨s,.cons (.str _) .nil,trivial⟩
theorem tt:dE henc Tryz.prog w 53 cR (fun _=>True):=by
 have h:=dW (henc:=henc) (w:=w) Tryz.underlying53 (aP fZ rfl (aP fZ (by kernel_rfl) (fF _))) (by kernel_rfl)
 exact h.map (fun x=>(x.1,x.2.1)) (fun _=>rfl) fun _ _=>trivial
theorem AZ:dE henc Tryz.prog w 54 (fun l=>[dm l]) (fun l=>l.length*16≤reachBytes):=
 (eT (t:=54) (e:=53) (by kernel_rfl) tt (fun _=>by kernel_rfl) (by decide +kernel) (fun a p hp=>by simp[cR]at hp;rcases hp with rfl|rfl<;>rfl)).map id (fun _=>rfl) fun l h=>h.1
theorem yg:dE henc Tryz.prog w 56 cV (fun v=>v.2.length*16≤reachBytes):=by
 have h:=dW (henc:=henc) (w:=w) Tryz.underlying56 (aP AY rfl (aP AZ (by kernel_rfl) (fF _))) (by kernel_rfl)
 exact h.map (fun x=>(x.1,x.2.1)) (fun _=>rfl) fun x h=>h.2.1
theorem vI:dE henc Tryz.prog w 22 (fun l:List (ByteArray×List (Int×Int))=>[.sl (l.map cV)]) (fun l=>l.length*40≤reachBytes∧∀v∈l,v.2.length*16≤reachBytes):=
 (eT (t:=22) (e:=56) (by kernel_rfl) yg (fun _=>by kernel_rfl) (by decide +kernel) (fun a p hp=>by simp[cV]at hp;rcases hp with rfl|rfl<;>rfl)).map id (fun _=>rfl) fun l h=>h
theorem vL:dE henc Tryz.prog w 51 cC (fun c=>c.vars.length*8≤140737488355328∧c.coefs.length*8≤140737488355328∧c.rows.length*8≤140737488355328∧∀r∈c.rows,r.length*8≤140737488355328):=
 yj.map id (fun _=>rfl) fun c h=>by obtain⟨h1,h2,h3,h4⟩:=h;exact⟨by simp only[id];omega,h2,by simp only[id];omega,h4⟩
theorem vK:dE henc Tryz.prog w 23 (fun l=>[cN l]) (fun l=>l.length*104≤reachBytes∧∀c∈l,c.vars.length*8≤140737488355328∧c.coefs.length*8≤140737488355328∧c.rows.length*8≤140737488355328∧∀r∈c.rows,r.length*8≤140737488355328):=
 (eT (t:=23) (e:=51) (by kernel_rfl) vL (fun _=>by kernel_rfl) (by decide +kernel) (fun a p hp=>by simp[cC]at hp;rcases hp with rfl|rfl|rfl|rfl|rfl|rfl|rfl<;>rfl)).map id (fun _=>rfl) fun l h=>h
theorem vJ:dE henc Tryz.prog w 26 cG (fun g=>g.vars.length*8≤reachBytes∧g.coefs.length*8≤reachBytes):=by
 have h:=dW (henc:=henc) (w:=w) Tryz.underlying26 (aP fZ rfl (aP iY (by kernel_rfl) (aP iY (by kernel_rfl) (fF _)))) (by kernel_rfl)
 exact h.map (fun x=>(⟨x.1,x.2.1,x.2.2.1⟩:Goal)) (fun _=>rfl) fun x h=>⟨h.2.1,h.2.2.1⟩
theorem yh:dE henc Tryz.prog w 28 cM ModI:=by
 have h:=dW (henc:=henc) (w:=w) Tryz.underlying28 (aP vI rfl (aP vK (by kernel_rfl) (aP vJ (by kernel_rfl) (fF _)))) (by kernel_rfl)
 refine h.map (fun x=>(⟨x.1,x.2.1,x.2.2.1⟩:Mod)) (fun _=>by simp[cM,cG]) fun x h=> ?_
 obtain⟨⟨h1,h2⟩,⟨h3,h4⟩,⟨h5,h6⟩,_⟩:=h
 have e:reachBytes=140737488351232:=rfl
 rw[e]at h1 h3 h5 h6
 exact⟨fun v hv=>by have:=h2 v hv;rw[e]at this;omega,by simp only;omega,by simp only;omega,h4,by simp only;omega⟩
theorem A4 (m:Mod): ∀p∈cM m,p.one=true:=by
 intro p hp
 simp[cM,cN]at hp
 rcases hp with rfl|rfl|rfl|rfl|rfl<;>rfl
end
end Go.Proofs.YtopcjbahjjhdmaaGreat
namespace Go.Proofs.YtopcjbahjjhdmaaGreat.searchLess
open Go.ChangeShapes Go.WideShapes Go.ChangeAt Go.RowKit
theorem own:ownKnob Tryz.prog.godebug=none:=by kernel_rfl
theorem laidOut:laidOutB Tryz.prog=true:=by kernel_rfl
set_option maxRecDepth 100000 in
theorem lifted (os:Os)(started:os.Started)(H:Type)(enc:TypeId×Value→H):
  ReturnsInHanded {} Tryz.checked os 6 .any (Rows.searchLessSpec.pre6 enc Tryz.prog Tryz.f6 Rows.searchLessRow.domain false) (Rows.searchLessSpec.post enc Tryz.prog Tryz.f6 false true false false):=by
 refine returnsInHanded_of_change_sized (C:=Tryz.checked) own started (by kernel_rfl) Tryz.func6
  (ChangeSpec.witness6 (enc:=enc) (C:=Tryz.checked) false ⟨#[],#[.agg #[.slice none 0 0,.slice none 0 0,.int .i64 0,.slice none 0 0,.slice none 0 0],.int .i64 0],[]⟩ 8 (by kernel_rfl) (by kernel_rfl) (by kernel_rfl) (by kernel_rfl)) ?_
 intro W base args ds gs before hval0 hW hcnd hsz0 _
 have hsz:(DataW.weightsEach Tryz.prog (Tryz.f6.params.toList++Rows.searchLessSpec.plain.varTypes Tryz.prog) (ds++gs)).all (· ≤reachBytes)=true:=hsz0
 have hval: ∀(j:Nat) t v,Tryz.f6.params[j]? =some t→args[j]? =some v→Value.okWide Tryz.prog W .any base t v:=hval0
 have hW':=hW
 obtain⟨p,q,hA0,hV,rfl,hfz,hnd⟩:=hW
 have hA:DataW.TrodAll enc Tryz.prog W 0 (fun _=>true) true Tryz.f6.params.toList args.toList ds p:=hA0
 rw[Tryz.params6]at hA hval hsz
 obtain⟨v0,vs0,d0,ds0,p0,q0,hargs,rfl,rfl,h0,r0⟩:=trodAll_cons hA
 obtain⟨v1,vs1,d1,ds1,p1,q1,rfl,rfl,rfl,h1,r1⟩:=trodAll_cons r0
 obtain⟨rfl,rfl,rfl⟩:=trodAll_nil r1
 obtain rfl:args= #[v0,v1]:=by cases args;simp_all
 obtain⟨rfl,rfl⟩:=trodVars_none hV
 have hv0:=hval 0 28 v0 rfl rfl
 obtain⟨cs0,rfl,_,_⟩: ∃cs,v0= .agg cs∧cs.size=Tryz.prog.cellsOf 28∧Row.okWide Tryz.prog W .any base 28 cs:=by
  unfold Value.okWide at hv0
  rw[Tryz.underlying28]at hv0
  exact hv0
 have k0:=h0
 have lt0: ∀x∈p0,x.block<W.heap.size:=by obtain⟨m,hm⟩:=k0;exact DataW.trod_lt m _ _ _ hm
 obtain⟨fuel0,hf0⟩:=h0
 obtain⟨k,rfl,rfl,rfl,w1⟩:=open_int Tryz.underlying3 (hval 1 3 v1 rfl rfl) h1
 have hw:(DataW.weightsEach Tryz.prog (28::3::Rows.searchLessSpec.plain.varTypes Tryz.prog) (d0:: .lit (.int .i64 k)::[])).all (· ≤reachBytes)=true:=hsz
 rw[DataW.weightsEach,Dm,CR]at hw
 obtain⟨hw0,hw⟩:=hw
 rw[DataW.weightsEach,Dm,CR]at hw
 obtain⟨hw1,hw⟩:=hw
 obtain⟨m,hrep0,hm⟩:=yh fuel0 _ (d0,p0) hf0 hw0 (nf hfz fun p hp=>by simp[hp])
 clear hA0 hval0 hsz0 hsz hw
 have hcs0:(Value.agg cs0).cells.toList=cs0.toList:=rfl
 rw[hcs0]at hrep0
 have harg0:Rep W (fun _=>True) (.agg cs0) (.agg (cM m)):=by
  have:=Rep.agg (w:=W) (Z:=fun _=>True) cs0.toList (cM m) hrep0 (A4 m)
  simpa using this
 refine((yA m k hm).out W (fun _=>True) [.agg cs0,.int .i64 k] (.cons harg0 (.cons (.int _ _) .nil))).mono fun e W' ⟨rs,he,bel,hret⟩=> ?_
 have hrs:rs=[.bool true]:=by
  have h:=hret.each
  cases h with
  |cons h1 h2=>cases h2;cases h1;rfl
 subst hrs
 subst he
 exact⟨_,rfl,_,_,_,[],_,[],hW',trodAll_mk1 (shut_bool Tryz.underlying4 _),trodAll_cons_mk (Below.trod laidOut (by kernel_rfl) (of_decide_eq_true (by kernel_rfl)) k0 bel lt0) (trodAll_cons_mk (shut_int Tryz.underlying3 w1) trodAll_mk0),rfl,bel.frame _,fun h=>by cases h⟩
theorem over:Rows.searchLessRow.holds Tryz.pinned (OpenSpec.ofChange Rows.searchLessSpec):=
 OpenClaim.holds_of_wide 6 Tryz.f6 rfl rfl rfl rfl rfl rfl rfl ⟨rfl,rfl,rfl,rfl,rfl⟩ rfl rfl rfl rfl rfl (by kernel_rfl) Tryz.func6 (by kernel_rfl)
  (of_decide_eq_true (by kernel_rfl)) (by unfold Func.isWrapper;first|(rw[if_pos (by decide +kernel)];kernel_rfl)|(rw[if_neg (by decide +kernel)];exact⟨rfl,rfl⟩))
  (fun os started H enc _=>lifted os started H enc)
theorem proved:Rows.SearchLessSaid:=over
#print axioms proved
end Go.Proofs.YtopcjbahjjhdmaaGreat.searchLess
namespace Go.Proofs.YtopcjbahjjhdmaaGreat
theorem searchLess_holds:Rows.SearchLessSaid:=searchLess.proved
end Go.Proofs.YtopcjbahjjhdmaaGreat
