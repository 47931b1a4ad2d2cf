/- The texts LiE, LiF, PuG, FgC, FgD, PuF, FgE, LiG, PuH, PuK, PuS, LiI, PuU, PuV, PuW, PuX, PuY, PuZ, PvA, FuJ, PvB, PvH, ShD, ShC, FvB of the workplace, joined. -/
import Derived.Test.YtopcjbahjjhdmaaGreatB6
import Derived.Ground.SlsfProg
import Derived.Shelf.SlSortCmp.WholeK
import Derived.Test.YtopcjbahjjhdmaaGreatProg
import Derived.Shelf.Slices.CompactI
import Derived.Shelf.SlicesE.DeleteFunc
namespace Go.Proofs.YtopcjbahjjhdmaaGreat
open Go Go.RowKit
set_option linter.unusedVariables false
set_option linter.unusedSimpArgs false
theorem Ah (lo hi:Int):(rng lo hi).length=(hi+1-lo).toNat:=by simp[rng]
theorem sA {d:List (Int×Int)}(h:Fine d):fC d=((vals d).length:Nat):=by
 have hb:=h.domB.1
 have hf:=h.few
 have hok:=h.ok
 have key: ∀(d:List (Int×Int)) (n:Nat),InB d→(∀r∈d,r.1≤r.2)→n+(vals d).length≤1000000000000000→d.foldl (fun n r=>wr (n+wr (wr (r.2-r.1)+1))) (n:Int)=((n+(vals d).length:Nat):Int):=by
  intro d
  induction d with
  |nil=>intro n _ _ _;simp[vals]
  |cons r d ih=>
   intro n hb ho hl
   have h1:=hb r (.head _)
   have h2:=ho r (.head _)
   rw[bg,List.length_append,Ah]at hl⊢
   rw[List.foldl_cons]
   have e:wr ((n:Int)+wr (wr (r.2-r.1)+1))=((n+(r.2+1-r.1).toNat:Nat):Int):=by
    simp only[wr]
    rw[ac (n:=r.2-r.1) (by omega) (by omega),ac (n:=r.2-r.1+1) (by omega) (by omega),ac (by omega) (by omega)]
    omega
   rw[e,ih _ (fun r hr=>hb r (.tail _ hr)) (fun r hr=>ho r (.tail _ hr)) (by omega)]
   congr 1
   omega
 have:=key d 0 hb hok.1 (by omega)
 simpa[fC]using this
def jD (x:Int)(r:Int×Int):List (Int×Int):=if x<r.1∨r.2<x then [r]else(if r.1<x then [(r.1,x-1)]else [])++(if x<r.2 then [(x+1,r.2)]else [])
theorem td {a:List (Int×Int)}{x:Int}(ho: ∀r∈a,r.1≤r.2)(hx: -9223372036854000000≤x∧x≤9223372036854000000):dX a [(x,x)]=a.flatMap (jD x):=by
 have key: ∀(a:List (Int×Int)) (out:List (Int×Int)),(∀r∈a,r.1≤r.2)→a.foldl (cz [(x,x)]) out=out++a.flatMap (jD x):=by
  intro a
  induction a with
  |nil=>intro out _;simp
  |cons r a ih=>
   intro out ho
   have h1:=ho r (.head _)
   have e:cz [(x,x)] out r=out++jD x r:=by
    unfold cz jD
    simp only[bI,wr]
    rw[ac (n:=x+1) (by omega) (by omega),ac (n:=x-1) (by omega) (by omega)]
    by_cases h2:x<r.1∨r.2<x
    ·rw[if_pos h2,if_pos h2]
     simp only
     rw[if_pos h1]
    ·rw[if_neg h2,if_neg h2]
     simp only
     by_cases h3:r.1<x<;>by_cases h4:x<r.2
     ·rw[if_pos (show x+1≤r.2 by omega),if_pos h3,if_pos h3,if_pos h4,List.append_assoc]
     ·rw[if_neg (show¬x+1≤r.2 by omega),if_pos h3,if_pos h3,if_neg h4,List.append_nil]
     ·rw[if_pos (show x+1≤r.2 by omega),if_neg h3,if_neg h3,if_pos h4,List.nil_append]
     ·rw[if_neg (show¬x+1≤r.2 by omega),if_neg h3,if_neg h3,if_neg h4];simp
   rw[List.foldl_cons,e,ih _ fun r hr=>ho r (.tail _ hr),List.flatMap_cons,List.append_assoc]
 unfold dX
 rw[key a [] ho]
 rfl
theorem nY {x:Int}{r s:Int×Int}(h:r.1≤r.2)(hs:s∈jD x r):r.1≤s.1∧s.1≤s.2∧s.2≤r.2:=by
 unfold jD at hs
 split at hs
 ·simp only[List.mem_singleton]at hs;subst hs;omega
 ·rcases List.mem_append.1 hs with hs|hs
  ·split at hs
   ·simp only[List.mem_singleton]at hs;subst hs;simp only;omega
   ·cases hs
  ·split at hs
   ·simp only[List.mem_singleton]at hs;subst hs;simp only;omega
   ·cases hs
theorem y8 {a:List (Int×Int)}{x:Int}(h:ax a):ax (a.flatMap (jD x)):=by
 refine⟨fun s hs=> ?_,?_⟩
 ·obtain⟨r,hr,hs⟩:=List.mem_flatMap.1 hs
  exact(nY (h.1 r hr) hs).2.1
 ·induction a with
  |nil=>exact .nil
  |cons r a ih=>
   have hp:=List.pairwise_cons.1 h.2
   rw[List.flatMap_cons]
   refine List.pairwise_append.2 ⟨?_,ih h.tail,fun s hs t ht=> ?_⟩
   ·unfold jD
    split
    ·simp
    ·split<;>split<;>simp
     omega
   ·obtain⟨q,hq,ht⟩:=List.mem_flatMap.1 ht
    have h1:=nY (h.1 r (.head _)) hs
    have h2:=nY (h.1 q (.tail _ hq)) ht
    have:=hp.1 q hq
    omega
theorem pO {x v:Int}{r:Int×Int}:(∃s∈jD x r,s.1≤v∧v≤s.2)↔r.1≤v∧v≤r.2∧v≠x:=by
 unfold jD
 constructor
 ·rintro⟨s,hs,h1,h2⟩
  split at hs
  ·simp only[List.mem_singleton]at hs;subst hs;omega
  ·rcases List.mem_append.1 hs with hs|hs
   ·split at hs
    ·simp only[List.mem_singleton]at hs;subst hs;simp only at h1 h2;omega
    ·cases hs
   ·split at hs
    ·simp only[List.mem_singleton]at hs;subst hs;simp only at h1 h2;omega
    ·cases hs
 ·rintro⟨h1,h2,h3⟩
  by_cases hc:x<r.1∨r.2<x
  ·rw[if_pos hc];exact⟨r,.head _,h1,h2⟩
  ·rw[if_neg hc]
   by_cases hv:v<x
   ·exact⟨(r.1,x-1),List.mem_append_left _ (by rw[if_pos (by omega)];exact .head _),h1,by simp only;omega⟩
   ·exact⟨(x+1,r.2),List.mem_append_right _ (by rw[if_pos (by omega)];exact .head _),by simp only;omega,h2⟩
theorem zn {a:List (Int×Int)}{x:Int}(h:ax a)(hx: -9223372036854000000≤x∧x≤9223372036854000000):ax (dX a [(x,x)])∧∀v,v∈vals (dX a [(x,x)])↔v∈vals a∧v≠x:=by
 rw[td h.1 hx]
 refine⟨y8 h,fun v=> ?_⟩
 rw[aQ,aQ]
 constructor
 ·rintro⟨s,hs,h1⟩
  obtain⟨r,hr,hs⟩:=List.mem_flatMap.1 hs
  have:=pO.1 ⟨s,hs,h1⟩
  exact⟨⟨r,hr,this.1,this.2.1⟩,this.2.2⟩
 ·rintro⟨⟨r,hr,h1,h2⟩,h3⟩
  obtain⟨s,hs,h4⟩:=pO.2 ⟨h1,h2,h3⟩
  exact⟨s,List.mem_flatMap.2 ⟨r,hr,hs⟩,h4⟩
theorem wK {x:List (Int×Int)}(h:Fine x)(hne:x≠[])(h1: ¬1<(vals x).length): ∃v,x=[(v,v)]∧vals x=[v]∧-1048576≤v∧v≤1048576:=by
 have hv:(vals x).length=1:=by
  have:vals x≠[]:=fun e=>hne ((eZ h.ok).1 e)
  cases hx:vals x with
  |nil=>exact absurd hx this
  |cons a l=>rw[hx]at h1;simp at h1⊢;exact h1
 obtain⟨v,rfl⟩:=(kL h.ok).1 hv
 have e:vals [(v,v)]=[v]:=by simp[vals,cy]
 have:=h.val v (by rw[e];exact .head _)
 exact⟨v,rfl,e,this⟩
theorem fe {B:Int}(hB:B≤4611686018427388928): ∀(ts:List (List (Int×Int)×Int)) (i:Nat) (op:Int) (s:Int) (m a:Nat),fZ ts→(∀t∈ts,t.1≠[])→-B≤s-aW ts→s+aW ts≤B→(op<0∧m=0∨0≤op∧m=1∧op=a∧-(B-1048576)≤s-aW ts∧s+aW ts≤B-1048576)→
  (c7 i ts op s=none∧1<(ar i ts m s a).1)∨∃s',-B≤s'∧s'≤B∧((∃op',op'<0∧c7 i ts op s=some (op',s')∧∃a',ar i ts m s a=(0,s',a'))∨∃a':Nat,-(B-1048576)≤s'∧s'≤B-1048576∧c7 i ts op s=some ((a':Int),s')∧ar i ts m s a=(1,s',a'))
 | [],i,op,s,m,a,_,_,h1,h2,hr=>by
  have e:aW []=0:=by simp[aW,ai]
  rw[e]at h1 h2 hr
  refine .inr ⟨s,by omega,by omega,?_⟩
  rcases hr with ⟨ho,rfl⟩|⟨ho,rfl,rfl,h3,h4⟩
  ·exact .inl ⟨op,ho,rfl,a,rfl⟩
  ·exact .inr ⟨a,by omega,by omega,rfl,rfl⟩
 |t::ts,i,op,s,m,a,h,hne,h1,h2,hr=>by
  have hf:=h t (.head _)
  have hx:=hne t (.head _)
  have hp:=c9 ts
  have ha:=bC t.2
  rw[cq]at h1 h2 hr
  have hk1:1≤aF t.2:=by have:=hf.2.1;unfold aF;omega
  rw[c7,ar,sA hf.1]
  by_cases hc:1<(vals t.1).length
  ·rw[if_pos (show(1:Int)<((vals t.1).length:Nat)by omega),if_pos hc]
   rcases hr with ⟨ho,rfl⟩|⟨ho,rfl,rfl,h3,h4⟩
   ·rw[if_neg (by omega)]
    exact fe hB ts (i+1) i s 1 i (fun t ht=>h t (.tail _ ht)) (fun t ht=>hne t (.tail _ ht)) (by omega) (by omega) (.inr ⟨by omega,rfl,rfl,by omega,by omega⟩)
   ·rw[if_pos (by omega)]
    refine .inl ⟨rfl,?_⟩
    have mono: ∀(ts:List (List (Int×Int)×Int)) (i m:Nat) (s:Int) (a:Nat),m≤(ar i ts m s a).1:=by
     intro ts
     induction ts with
     |nil=>intro i m s a;exact Nat.le_refl _
     |cons t ts ih=>
      intro i m s a
      rw[ar]
      split
      ·exact Nat.le_trans (Nat.le_succ m) (ih _ _ _ _)
      ·exact ih _ _ _ _
    exact mono ts (i+1) 2 s i
  ·rw[if_neg (show¬(1:Int)<((vals t.1).length:Nat)by omega),if_neg hc]
   obtain⟨v,e1,e2,b1,b2⟩:=wK hf.1 hx hc
   have hm:=dW t.2 v b1 b2
   have hck:=hf.2.2
   have el:(endW t.1 t.2 false).1=t.2*v:=by
    rw[(rC hf.1 hx hf.2).1,e1]
    simp[ce,aw,aL]
   have er:wr (t.2*hd0 (vals t.1))=t.2*v:=by
    rw[e2]
    simp only[hd0,wr,List.getD_cons_zero]
    rw[ac (by omega) (by omega)]
   have es:wr (s+t.2*v)=s+t.2*v:=by rw[wr,ac (by omega) (by omega)]
   rw[el,er,es]
   exact fe hB ts (i+1) op (s+t.2*v) m a (fun t ht=>h t (.tail _ ht)) (fun t ht=>hne t (.tail _ ht)) (by omega) (by omega) (hr.imp id fun⟨q1,q2,q3,q4,q5⟩=>⟨q1,q2,q3,by omega,by omega⟩)
theorem yR {d:aa}{v:Int}(h:v.toNat<d.length):d.set v.toNat (domAt d v)=d:=by
 refine List.ext_getElem? fun i=> ?_
 by_cases e:v.toNat=i
 ·subst e;rw[List.getElem?_set_self h,ak h]
 ·rw[List.getElem?_set_ne e]
theorem dF {d:aa}{i:Nat}{x:List (Int×Int)}(hi:i<d.length)(hne: []∉d): []∈d.set i x↔x=[]:=by
 constructor
 ·intro h
  rcases List.mem_or_eq_of_mem_set h with h|h
  ·exact absurd h hne
  ·exact h.symm
 ·rintro rfl
  exact List.mem_iff_getElem?.2 ⟨i,List.getElem?_set_self hi⟩
theorem wG {α:Type}{l:List α}:0<l.length↔l≠[]:=by cases l<;>simp
theorem xJ {x:List (Int×Int)}{k s rhs:Int}(hx:Fine x)(hk:CoefOk k)(h1: -4611686018426340352≤s∧s≤4611686018426340352)(h2: -9223372036853729280≤rhs-s∧rhs-s≤9223372036853729280):
  ((wr (rhs-s)).tmod k=0→dX x [(wr ((wr (rhs-s)).tdiv k),wr ((wr (rhs-s)).tdiv k))]=cW ((vals x).filter fun v=>decide (wr (s+wr (k*v))≠rhs)))∧
  (¬(wr (rhs-s)).tmod k=0→cW ((vals x).filter fun v=>decide (wr (s+wr (k*v))≠rhs))=x):=by
 have hck:=hk.2
 have hmem: ∀w,w∈vals x→(wr (s+wr (k*w))=rhs↔k*w=rhs-s):=by
  intro w hw
  have b:=hx.val w hw
  have m:=dW k w b.1 b.2
  simp only[wr]
  rw[ac (n:=k*w) (by omega) (by omega),ac (by omega) (by omega)]
  omega
 have er:wr (rhs-s)=rhs-s:=by rw[wr,ac (by omega) (by omega)]
 rw[er]
 have et:=Int.mul_tdiv_add_tmod (rhs-s) k
 have hq: -9223372036853729280≤(rhs-s).tdiv k∧(rhs-s).tdiv k≤9223372036853729280:=by
  have:=Int.natAbs_tdiv_le_natAbs (rhs-s) k
  omega
 have hu:=fA (p:=fun w=>decide (wr (s+wr (k*w))≠rhs)) (aE hx.ok)
 constructor
 ·intro hz
  rw[hz,Int.add_zero]at et
  clear hz
  generalize (rhs-s).tdiv k=q at*
  have eq:wr q=q:=by rw[wr,ac (by omega) (by omega)]
  rw[eq]
  obtain⟨m1,m2⟩:=zn (x:=q) hx.ok (by omega)
  refine ik m1 (fU hu) (dP (aE m1) (aE (fU hu)) fun v=> ?_)
  rw[m2,bG hu,List.mem_filter]
  refine and_congr_right fun hv=> ?_
  rw[decide_eq_true_eq,ne_eq,ne_eq,hmem v hv,←et]
  refine not_congr ⟨fun e=>by rw[e],fun e=>Int.eq_of_mul_eq_mul_left hk.1 e⟩
 ·intro hz
  have e:((vals x).filter fun w=>decide (wr (s+wr (k*w))≠rhs))=vals x:=by
   refine List.filter_eq_self.2 fun w hw=> ?_
   rw[decide_eq_true]
   intro e
   have e2:=(hmem w hw).1 e
   rw[←e2,Int.mul_tmod_right]at hz
   exact hz rfl
  rw[e,eD hx.ok]
theorem fD {d:aa}{c:Con}(h:bD c d)(hpos:0<c.vars.length):(if(otherW d c).2 then some (otherW d c).1 else none)=if []∈bP d c then none else some (bP d c):=by
 have hw:=cw (d:=d) h.fine.len
 have hb:=h.big
 have har:aF c.rhs=max c.rhs (-c.rhs):=rfl
 have hin:=cO (ab d c.vars c.coefs) 0 0 0 0 c.vars.length hpos (by have:=h.fine.len;simp[ab];omega) (Nat.le_refl _)
 have key:=fe (B:=ai c.coefs) (by omega) (ab d c.vars c.coefs) 0 (-1) 0 0 0 (de h.fine) (eN h) (by omega) (by omega) (.inl ⟨by omega,rfl⟩)
 unfold otherW bP
 simp only
 rcases key with ⟨e1,e2⟩|⟨s,hs1,hs2,⟨op,ho,e1,a,e2⟩|⟨a,hs3,hs4,e1,e2⟩⟩
 ·rw[e1,if_pos e2,if_neg h.ne]
  rfl
 ·rw[e1,e2]
  simp only[Nat.not_lt_zero,if_false,if_true,if_pos ho]
  have hv:=h.fine.vin _ (aJ (c:=c) (k:=0) hpos)
  by_cases hs:s=c.rhs
  ·rw[if_pos hs,if_pos ((dF hv.2 h.ne).2 rfl),decide_eq_false (by simpa using hs)]
   rfl
  ·rw[if_neg hs,if_neg h.ne,decide_eq_true hs]
   rfl
 ·rw[e1]
  rw[e2]at hin⊢
  simp only[Nat.lt_irrefl,if_false,Nat.one_ne_zero,Int.toNat_natCast,if_neg (show¬(a:Int)<0 by omega)]
  have hal:a<c.vars.length:=hin.1
  have hac:a<c.coefs.length:=by have:=h.fine.len;omega
  have hv:=h.fine.vin _ (aJ (c:=c) (k:=a) hal)
  have hk:=h.fine.ck (coefAt c a) (by unfold coefAt;rw[aM hac];exact List.getElem_mem _)
  have hx:=h.fine.dom _ (af hv.2)
  obtain⟨o1,o2⟩:=xJ (s:=s) (rhs:=c.rhs) hx hk (by omega) (by omega)
  by_cases hz:(wr (c.rhs-s)).tmod (coefAt c a)=0
  ·rw[if_pos hz]
   simp only[o1 hz]
   by_cases he:cW ((vals (domAt d (varAt c a))).filter fun v=>decide (wr (s+wr (coefAt c a*v))≠c.rhs))=[]
   ·rw[if_pos ((dF hv.2 h.ne).2 he),he]
    rfl
   ·rw[if_neg (fun hm=>he ((dF hv.2 h.ne).1 hm)),decide_eq_true (wG.2 he)]
    rfl
  ·rw[if_neg hz,o2 hz,yR hv.2,if_neg h.ne]
   have:0<(domAt d (varAt c a)).length:=wG.2 fun e=>h.ne (e▸af hv.2)
   simp only
   rw[decide_eq_true this]
   rfl
theorem xH {x:List (Int×Int)}(h:Fine x)(p:Int→Bool):Fine (cW ((vals x).filter p)):=by
 have hu:=fA (p:=p) (aE h.ok)
 refine h.cut (fU hu) fun v hv=> ?_
 rw[bG hu]at hv
 exact(List.mem_filter.1 hv).1
theorem iM {d:aa}{c:Con}(h:bD c d)(hpos:0<c.vars.length):(bP d c).length=d.length∧∀x∈bP d c,Fine x:=by
 have hin:=cO (ab d c.vars c.coefs) 0 0 0 0 c.vars.length hpos (by have:=h.fine.len;simp[ab];omega) (Nat.le_refl _)
 unfold bP
 simp only
 split
 ·exact⟨rfl,h.fine.dom⟩
 ·split
  ·split
   ·exact⟨by simp,gX h.fine.dom ⟨⟨by simp,.nil⟩,by simp[vals],by simp[vals]⟩⟩
   ·exact⟨rfl,h.fine.dom⟩
  ·exact⟨by simp,gX h.fine.dom (xH (h.fine.dom _ (af (h.fine.vin _ (aJ hin.1)).2)) _)⟩
theorem SumOk.whole {d:aa}{c:Con}(h:SumOk d c)(hne: []∉d):bD c d:=⟨h.fine,h.nod,hne,h.big⟩
theorem wS {d:aa}{c:Con}(h:SumOk d c): ∃R N N',LinAns d c R N∧lu d c R N'∧∀out,R=some out→out.length=d.length∧[]∉out∧∀x∈out,Fine x:=by
 by_cases hne: []∈d
 ·exact⟨none,0,0,by rw[LinAns,if_pos hne],by rw[lu,if_pos hne],fun out h=>by cases h⟩
 ·have hw:=h.whole hne
  have hm:tc d c=M1 c d:=od hw
  by_cases h2:c.op=2
  ·have hs:=fD hw h.pos
   obtain⟨r1,r2⟩:=iM hw h.pos
   refine⟨if []∈bP d c then none else some (bP d c),0,0,by rw[LinAns,if_neg hne,if_pos h2,hs],by rw[lu,if_neg hne,if_pos h2],fun out ho=> ?_⟩
   split at ho
   ·cases ho
   ·rename_i hn
    obtain rfl:=Option.some.inj ho
    exact⟨r1,hn,r2⟩
  ·have hfin: ∀N R,cB (eX c) N d=some R→∀out,R=some out→out.length=d.length∧[]∉out∧∀x∈out,Fine x:=by
    intro N R hR out ho
    have hst: ∀x y,(bD c x∧x.length=d.length)→eX c x= .inr y→bD c y∧y.length=d.length:=by
     rintro x y ⟨hx,hl⟩ hy
     rw[dh hx]at hy
     obtain⟨f1,s1⟩:=ee hx
     by_cases h1: []∈M1 c x
     ·rw[if_pos h1]at hy;cases hy
     ·have hw1:bD c (M1 c x):=Whole.most hx h1
      obtain⟨f2,s2⟩:=ee hw1.back
      rw[if_neg h1]at hy
      split at hy
      ·cases hy
      ·split at hy
       ·cases hy
       ·rename_i h3
        split at hy
        ·cases hy
        ·obtain rfl:=Sum.inr.inj hy
         exact⟨hw1.unback (Whole.most hw1.back h3),s2.1.trans (s1.1.trans hl)⟩
    obtain⟨z,⟨hz,hzl⟩,hs⟩:=oA (fun x=>bD c x∧x.length=d.length) hst N d R ⟨hw,rfl⟩ hR
    rw[dh hz,ho]at hs
    obtain⟨f1,s1⟩:=ee hz
    by_cases h1: []∈M1 c z
    ·rw[if_pos h1]at hs;cases hs
    ·have hw1:bD c (M1 c z):=Whole.most hz h1
     obtain⟨f2,s2⟩:=ee hw1.back
     rw[if_neg h1]at hs
     split at hs
     ·obtain rfl:=Option.some.inj (Sum.inl.inj hs)
      exact⟨s1.1.trans hzl,h1,f1⟩
     ·split at hs
      ·cases hs
      ·rename_i h3
       split at hs
       ·obtain rfl:=Option.some.inj (Sum.inl.inj hs)
        exact⟨s2.1.trans (s1.1.trans hzl),h3,f2⟩
       ·cases hs
   obtain⟨N,R,hR⟩:=Bh hw
   by_cases h0:c.op=0
   ·have hs:=dh hw
    have e:R=if []∈M1 c d then none else some (M1 c d):=by
     by_cases h1: []∈M1 c d
     ·rw[if_pos h1]at hs⊢
      exact(aX hR hs).symm
     ·rw[if_neg h1,if_pos h0]at hs
      rw[if_neg h1]
      exact(aX hR hs).symm
    refine⟨R,N,1,by rw[LinAns,if_neg hne,if_neg h2];exact hR,?_,hfin N R hR⟩
    rw[lu,if_neg hne,if_neg h2,hm]
    have hd:=nz (c:=c) (d:=M1 c d) (fun hn=>Whole.most hw hn)
    rw[if_neg (fun hh=>by have:=hh.1;omega)]at hd
    simp only[cB,hd,e]
   ·have h1:c.op=1:=by have:=h.op;omega
    obtain⟨N',hN⟩:=tD h1 N d R hw hR
    exact⟨R,N,N',by rw[LinAns,if_neg hne,if_neg h2];exact hR,by rw[lu,if_neg hne,if_neg h2,hm];exact hN,hfin N R hR⟩
structure ReifOk (d:aa)(c:Con):Prop where
 sum:SumOk d (bJ c)
 sumN:SumOk d (bL (bJ c))
 con:ConB (bJ c)
 b:0≤c.b∧c.b.toNat<d.length
 truth:truthR (domAt d c.b)=true
 apart:c.b∉c.vars
theorem Bd {d:aa}{c:Con}(h:SumOk d c)(hw:ai c.coefs+aF c.rhs≤4611686018427387904):SumOk d (bL c):=by
 obtain⟨h1,h2,h3,h4,h5⟩:=h
 obtain⟨kind,vars,coefs,op,rhs,rows,b⟩:=c
 simp only at h1 h2 h3 h4 h5 hw
 have hwp:=aS coefs
 have ha: -aF rhs≤rhs∧rhs≤aF rhs:=by unfold aF;omega
 unfold bL
 simp only
 split
 ·have e1:wr (0-rhs)= -rhs:=by rw[wr,ac (by omega) (by omega)];omega
  have e2:wr (wr (0-rhs)-1)= -rhs-1:=by rw[e1,wr,ac (by omega) (by omega)]
  refine⟨h1.back,h2,h3,h4,?_⟩
  simp only
  rw[dc _ h1.ck,e2]
  unfold aF at*
  omega
 ·split
  ·exact⟨h1,h2,h3,⟨by show(0:Int)≤2;omega,by show(2:Int)≤2;omega⟩,h5⟩
  ·split
   ·exact⟨h1,h2,h3,⟨by show(0:Int)≤1;omega,by show(1:Int)≤2;omega⟩,h5⟩
   ·exact⟨h1,h2,h3,h4,h5⟩
theorem wF {d:aa}{c:Con}(hc:ConB c)(h:conR d c=0)(hk:c.kind=4)(hf: ∀x∈d,Fine x)(hdl:d.length*24≤140737488355328):ReifOk d c:=by
 obtain⟨hv,hr⟩:=rI hc h
 obtain⟨h1,h2⟩:=oY (jt h)
 have hb:0≤c.b∧c.b.toNat<d.length:=by
  unfold conR at h
  split at h
  ·cases h
  ·split at h
   ·cases h
   ·rename_i hu
    exact(qQ hc (by simpa using hu)).2 hk
 unfold rightR at hr
 rw[if_neg (by omega),if_neg (by omega),if_neg (by omega),if_neg (by omega),if_pos hk]at hr
 simp only[sumR,opR,Bool.and_eq_true,decide_eq_true_eq,Bool.not_eq_true',decide_eq_false_iff_not]at hr
 obtain⟨⟨⟨⟨_,⟨⟨h4,h5⟩,h6⟩,h7⟩,h8⟩,h9⟩,h10⟩:=hr
 have hs:SumOk d (bJ c):=⟨⟨h6,hv.1,hv.2,fun k hk=>⟨fun e=>h7 (e▸hk),h1 k hk⟩,hf,hdl⟩,h4,h5,h8,by show ai c.coefs≤_∧aF c.rhs≤_;have:=bC c.rhs;have:=aS c.coefs;omega⟩
 exact⟨hs,Bd hs h2,⟨hc.1,hc.2.1,by simp[bJ],by simp[bJ]⟩,hb,h9,h10⟩
set_option maxRecDepth 8000
def litB (d:aa)(p:Int×Int):Bool:=hasV (domAt d p.1) (dz p.2)
def pg (d:aa):Nat→List (Int×Int)→Int→Option Int
 |_,[],op=>some op
 |i,p::l,op=>if litB d p=false then pg d (i+1) l op else if 0≤op then none else pg d (i+1) l i
def ng (d:aa)(c:Con)(r:Option Int):Option aa:=
 match r with
 |none=>some d
 |some op=>if op<0 then none else dA d (varAt c op.toNat) (dz (coefAt c op.toNat))
def ju (d:aa)(c:Con):Option aa:=if []∈d then none else ng d c (pg d 0 (c.vars.zip c.coefs) (-1))
structure ClIn (d:aa)(c:Con):Prop where
 len:c.vars.length=c.coefs.length
 vl:c.vars.length*8≤140737488355328
 vin: ∀v∈c.vars,0≤v∧v.toNat<d.length
 dl:d.length*24≤140737488355328
 dom: ∀x∈d,(x.length+1)*16≤140737488355328
theorem rt (d:aa)(c:Con)(h:ClIn d c):Spec Tryz.prog 137 false [aH d,.agg (cC c)] (aU (ju d c)):=by
 refine Spec.body Tryz.func137 rfl rfl rfl fun w0 Z0=> ?_
 obtain⟨hlen,hvl,hvin,hdl,hdom⟩:=h
 have hown:=qv d hdl (fun x hm=>by have:=hdom x hm;omega)
 unfold ju
 refine .B ?_
 refine .C hown ?_
 refine .B ?_
 by_cases hm: []∈d
 ·rw[if_pos hm,if_pos hm,decide_eq_true hm]
  refine T.ct rfl ?_
  refine .B ?_
  exact⟨_,.ownN rfl (.v rfl rfl rfl (fun _=>rfl) .nil)⟩
 ·rw[if_neg hm,if_neg hm,decide_eq_false hm]
  refine T.cf rfl ?_
  generalize hres:pg d 0 (c.vars.zip c.coefs) (-1)=res
  refine .B ?_
  refine T.K (T.ind (fun s:Nat×Int=>⟨[(3,.optr 0 0 0 0),(6,.ref 1),(8,.val true (.int .i64 s.2)),(19,.val false (aA c.vars)),(20,.val true (.int .i64 (c.vars.map cI).length)),(21,.val true (.int .i64 s.1))],[(0,some (.box false (cC c))),(1,some (.sl 54 1 true (d.map cD)))],2⟩)
   (fun s=>s.1≤c.vars.length∧pg d s.1 ((c.vars.zip c.coefs).drop s.1) s.2=res∧s.2<s.1) (fun s=>c.vars.length-s.1) (0,-1) ⟨by simp,hres,by decide⟩ (fun _ _ h=>h) ?_)
  rintro⟨i,op⟩ ⟨hil,he,hop⟩ ih
  simp only at hil he hop
  dsimp only
  refine .B ?_
  refine T.cd rfl (fun h1=> ?_) (fun h1=> ?_)
  ·have h1:i<c.vars.length:=by simpa using h1
   have h2:i<c.coefs.length:=by omega
   have hv:=hvin _ (List.getElem_mem h1)
   have hx:=hdom _ (af hv.2)
   have hrow:(d.map cD)[c.vars[i].toNat]? =some (cD (domAt d c.vars[i])):=by simp[ak hv.2]
   have hz:i<(c.vars.zip c.coefs).length:=by simp;omega
   rw[List.drop_eq_getElem_cons hz,List.getElem_zip,pg]at he
   have hhas:=jr (domAt d c.vars[i]) (dz c.coefs[i]) (by omega)
   have hlb:litB d (c.vars[i],c.coefs[i])=hasV (domAt d c.vars[i]) (dz c.coefs[i]):=rfl
   rw[←hlb]at hhas
   generalize litB d (c.vars[i],c.coefs[i])=b at*
   refine .B ?_
   refine .I (r:=cI c.vars[i]) (bq h1) ?_
   refine .B ?_
   refine J.io rfl rfl rfl rfl rfl rfl rfl rfl rfl hv.1 (by simpa using hv.2) rfl ?_
   refine J.lo rfl rfl rfl rfl rfl rfl (r:=cD (domAt d c.vars[i])) hrow rfl ?_
   refine .B ?_
   refine .I (r:=cI c.coefs[i]) (bq h2) ?_
   refine .B ?_
   refine .C (tC c.coefs[i]) ?_
   refine .C hhas ?_
   refine .B ?_
   cases b
   ·rw[if_pos rfl]at he
    refine T.ct rfl ?_
    refine .B ?_
    rw[aj (l:=c.vars.length) (by omega) (by omega)]
    exact T.K (ih (i+1,op) ⟨by simp only;omega,he,by simp only;omega⟩ (by simp only;omega))
   ·rw[if_neg (by decide)]at he
    refine T.cf rfl ?_
    refine .B ?_
    refine T.cd rfl (fun h3=> ?_) (fun h3=> ?_)
    ·have h3:0≤op:=h3
     rw[if_pos h3]at he
     subst he
     refine .B ?_
     exact⟨_,.o rfl rfl rfl (fun _=> .inl rfl) (by simp) (.v rfl rfl rfl (fun _=>rfl) .nil)⟩
    ·have h3: ¬0≤op:=h3
     rw[if_neg h3]at he
     refine .B ?_
     rw[aj (l:=c.vars.length) (by omega) (by omega)]
     exact T.K (ih (i+1,i) ⟨by simp only;omega,he,by simp only;omega⟩ (by simp only;omega))
  ·have h1:i=c.vars.length:=by simp at h1;omega
   subst h1
   rw[List.drop_of_length_le (by simp;omega),pg]at he
   subst he
   clear ih
   unfold ng
   dsimp only
   refine .M ?_
   refine T.rdm 15 rfl (by kernel_rfl) rfl ?_
   repeat' first|refine J.e rfl rfl rfl rfl ?_|refine J.skip rfl rfl rfl ?_|refine J.bx rfl rfl rfl rfl rfl rfl ?_
   refine J.g rfl rfl rfl (fun h3=> ?_) (fun h3=> ?_)
   ·have h3:op<0:=h3
    rw[if_pos h3]
    refine .B ?_
    refine T.ct rfl ?_
    refine .B ?_
    exact⟨_,.ownN rfl (.v rfl rfl rfl (fun _=>rfl) .nil)⟩
   ·have h3: ¬op<0:=h3
    rw[if_neg h3]
    have hj:op.toNat<c.vars.length:=by omega
    have hj2:op.toNat<c.coefs.length:=by omega
    have hv:=hvin _ (aJ hj)
    have hx:=hdom _ (af hv.2)
    have hk:=lW d (varAt c op.toNat) (dz (coefAt c op.toNat)) hv hx
    unfold dA
    repeat' first|refine J.e rfl rfl rfl rfl ?_|refine J.skip rfl rfl rfl ?_|refine J.bx rfl rfl rfl rfl rfl rfl ?_
    refine J.i rfl rfl rfl rfl rfl rfl rfl rfl rfl (r:=cI (varAt c op.toNat)) (by omega) (eA hj) rfl ?_
    repeat' first|refine J.e rfl rfl rfl rfl ?_|refine J.skip rfl rfl rfl ?_|refine J.bx rfl rfl rfl rfl rfl rfl ?_
    refine J.i rfl rfl rfl rfl rfl rfl rfl rfl rfl (r:=cI (coefAt c op.toNat)) (by omega) (ir hj2) rfl ?_
    repeat' first|refine J.e rfl rfl rfl rfl ?_|refine J.skip rfl rfl rfl ?_|refine J.bx rfl rfl rfl rfl rfl rfl ?_
    refine .C (tC (coefAt c op.toNat)) ?_
    refine J.nil ?_
    refine J.cm rfl rfl rfl rfl rfl rfl rfl rfl rfl hk rfl rfl rfl ?_
    refine .B ?_
    by_cases hk:domCut (domAt d (varAt c op.toNat)) (dz (coefAt c op.toNat)) (dz (coefAt c op.toNat))=[]
    ·rw[if_pos hk,decide_eq_true hk]
     refine T.ct rfl ?_
     refine .B ?_
     exact⟨_,.ownN rfl (.v rfl rfl rfl (fun _=>rfl) .nil)⟩
    ·rw[if_neg hk,decide_eq_false hk]
     refine T.cf rfl ?_
     refine .B ?_
     exact⟨_,.o rfl rfl rfl (fun _=> .inl rfl) (by simp) (.v rfl rfl rfl (fun _=>rfl) .nil)⟩
def Supp (a:List Int)(d:aa):Prop:=a.length=d.length∧∀(i:Nat) x v,d[i]? =some x→a[i]? =some v→v∈vals x
theorem Supp.at {a:List Int}{d:aa}(h:Supp a d){v:Int}(h0:0≤v)(hl:v.toNat<d.length):atR a v∈vals (domAt d v):=by
 have ha:v.toNat<a.length:=by have:=h.1;omega
 refine h.2 v.toNat _ _ (ak hl) ?_
 unfold atR
 rw[if_neg (by omega),List.getD_eq_getElem?_getD,List.getElem?_eq_getElem ha]
 rfl
theorem Supp.ne {a:List Int}{d:aa}(h:Supp a d): []∉d:=by
 intro hm
 obtain⟨i,hi⟩:=List.mem_iff_getElem?.1 hm
 have hl:=(List.getElem?_eq_some_iff.1 hi).1
 have:=h.2 i [] _ hi (List.getElem?_eq_getElem (by have:=h.1;omega))
 simp[vals]at this
def bR (vars coefs a:List Int):Int:=((vars.zip coefs).map fun p=>p.2*atR a p.1).sum
theorem ro {x:List (Int×Int)}(h:ax x){v k:Int}(hv:v∈vals x):ce x k≤k*v∧k*v≤fL x k:=by
 have h1:=ox h hv
 have h2:=m6 h hv
 unfold ce fL
 by_cases hk:0<k
 ·rw[if_pos hk,if_pos hk]
  exact⟨Int.mul_le_mul_of_nonneg_left h1 (by omega),Int.mul_le_mul_of_nonneg_left h2 (by omega)⟩
 ·rw[if_neg hk,if_neg hk]
  exact⟨Int.mul_le_mul_of_nonpos_left (by omega) h2,Int.mul_le_mul_of_nonpos_left (by omega) h1⟩
theorem eC {α:Type}{f g:α→Int}: ∀{l:List α},(∀p∈l,f p≤g p)→(l.map f).sum≤(l.map g).sum∧∀p∈l,g p-f p≤(l.map g).sum-(l.map f).sum
 | [],_=>by simp
 |p::l,h=>by
  obtain⟨h1,h2⟩:=eC (l:=l) fun q hq=>h q (.tail _ hq)
  have h0:=h p (.head _)
  simp only[List.map_cons,List.sum_cons]
  refine⟨by omega,fun q hq=> ?_⟩
  rcases List.mem_cons.1 hq with rfl|hq
  ·omega
  ·have:=h2 q hq
   omega
theorem eP (d:aa)(vars coefs:List Int):bf (ab d vars coefs)=((vars.zip coefs).map fun p=>ce (domAt d p.1) p.2).sum:=by
 unfold bf ab
 rw[List.map_map]
 rfl
theorem qt (d:aa)(vars coefs:List Int):fK (ab d vars coefs)=((vars.zip coefs).map fun p=>fL (domAt d p.1) p.2).sum:=by
 unfold fK ab
 rw[List.map_map]
 rfl
theorem sS {d:aa}{vars coefs a:List Int}(h:SumFine d vars coefs)(hs:Supp a d):
  bf (ab d vars coefs)≤bR vars coefs a∧bR vars coefs a≤fK (ab d vars coefs)∧∀p∈vars.zip coefs,p.2*atR a p.1-ce (domAt d p.1) p.2≤bR vars coefs a-bf (ab d vars coefs):=by
 have hmem: ∀p∈vars.zip coefs,ce (domAt d p.1) p.2≤p.2*atR a p.1∧p.2*atR a p.1≤fL (domAt d p.1) p.2:=fun p hp=>by
  have hv:=h.vin _ (List.of_mem_zip hp).1
  exact ro (h.dom _ (af hv.2)).ok (hs.at hv.1 hv.2)
 rw[eP,qt]
 obtain⟨h1,h2⟩:=eC (f:=fun p:Int×Int=>ce (domAt d p.1) p.2) (g:=fun p=>p.2*atR a p.1) fun p hp=>(hmem p hp).1
 obtain⟨h3,_⟩:=eC (f:=fun p:Int×Int=>p.2*atR a p.1) (g:=fun p=>fL (domAt d p.1) p.2) fun p hp=>(hmem p hp).2
 exact⟨h1,h3,h2⟩
theorem kH {vars coefs a:List Int}(h: ∀k∈coefs,CoefOk k):bR vars (ay coefs) a= -bR vars coefs a:=by
 unfold bR ay
 induction vars generalizing coefs with
 |nil=>simp
 |cons v vars ih=>
  cases coefs with
  |nil=>simp
  |cons k coefs=>
   have e:=(cY (h k (.head _))).1
   have:=ih fun k hk=>h k (.tail _ hk)
   simp only[List.map_cons,List.zip_cons_cons,List.sum_cons]at this⊢
   rw[this,e,Int.neg_mul]
   omega
theorem xd {d:aa}{vars coefs a:List Int}{rhs:Int}(h:Whole d vars coefs rhs)(hs:Supp a d)(hle:bR vars coefs a≤rhs):Supp a (MO d vars coefs rhs):=by
 obtain⟨ha,hl⟩:=il h
 obtain⟨_,_,hp3⟩:=sS h.fine hs
 refine⟨by rw[MO,jV];exact hs.1,fun i x v hx hv=> ?_⟩
 by_cases he: ∃p∈im d vars coefs rhs,p.1.toNat=i
 ·obtain⟨p,hp,rfl⟩:=he
  rw[show MO d vars coefs rhs=bQ (im d vars coefs rhs) d from rfl,dG ha hl p hp]at hx
  obtain rfl:=Option.some.inj hx
  obtain⟨q,hq,rfl⟩:=List.mem_map.1 hp
  have hvq:=h.fine.vin _ (List.of_mem_zip hq).1
  have hat:=hs.at hvq.1 hvq.2
  have e:atR a q.1=v:=by
   unfold atR
   rw[if_neg (by omega),List.getD_eq_getElem?_getD,hv]
   rfl
  refine((fO h hq _).2 v).2 ⟨e▸hat,?_⟩
  have:=hp3 q hq
  rw[e]at this
  omega
 ·rw[show MO d vars coefs rhs=bQ (im d vars coefs rhs) d from rfl,cQ _ _ _ fun p hp e=>he ⟨p,hp,e⟩]at hx
  exact hs.2 i x v hx hv
def ib (c:Con)(a:List Int):Bool:=dK c.op (bR c.vars c.coefs a) c.rhs
theorem qn {c:Con}{a:List Int}(hop:c.op=0∨c.op=1)(hh:ib c a=true): ∀(N:Nat) (p:aa) (R:Option aa),bD c p→Supp a p→cB (eX c) N p=some R→∃out,R=some out∧Supp a out
 |0,p,R,_,_,h=>by cases h
 |n+1,p,R,hw,hs,h=>by
  have hle:bR c.vars c.coefs a≤c.rhs:=by
   unfold ib dK at hh
   rcases hop with h0|h1
   ·rw[if_pos h0]at hh;exact of_decide_eq_true hh
   ·rw[if_neg (by omega),h1]at hh
    simp at hh
    omega
  have hst:=dh hw
  have s1:Supp a (M1 c p):=xd hw hs hle
  rw[if_neg s1.ne]at hst
  by_cases h0:c.op=0
  ·rw[if_pos h0]at hst
   obtain rfl:=aX h hst
   exact⟨_,rfl,s1⟩
  ·rw[if_neg h0]at hst
   have h1:c.op=1:=by omega
   have hw1:bD c (M1 c p):=Whole.most hw s1.ne
   have heq:bR c.vars c.coefs a=c.rhs:=by
    unfold ib dK at hh
    rw[if_neg h0,h1]at hh
    simpa using hh
   have hb:=hw.big
   have hp:=aS c.coefs
   have s2:Supp a (M2 c (M1 c p)):=xd hw1.back s1 (by rw[kH hw.fine.ck,(nh (by omega)).1];omega)
   rw[if_neg s2.ne]at hst
   by_cases h3:M1 c p=p∧M2 c (M1 c p)=M1 c p
   ·rw[if_pos h3]at hst
    obtain rfl:=aX h hst
    exact⟨_,rfl,s2⟩
   ·rw[if_neg h3]at hst
    simp only[cB,hst]at h
    exact qn (.inr h1) hh n _ R (hw1.unback (Whole.most hw1.back s2.ne)) s2 h
def wt (ts:List ((List (Int×Int)×Int)×Int)):Prop:= ∀t∈ts,t.2∈vals t.1.1
theorem e7 {B:Int}(hB:B≤4611686018427388928): ∀(ts:List ((List (Int×Int)×Int)×Int)) (i m:Nat) (s:Int) (a:Nat),fZ (ts.map (·.1))→wt ts→-B≤s-aW (ts.map (·.1))→s+aW (ts.map (·.1))≤B→
  ((ar i (ts.map (·.1)) m s a).1=m→(ar i (ts.map (·.1)) m s a).2.1=s+(ts.map fun t=>t.1.2*t.2).sum∧(ar i (ts.map (·.1)) m s a).2.2=a)∧
  m≤(ar i (ts.map (·.1)) m s a).1∧
  ((ar i (ts.map (·.1)) m s a).1=m+1→∃j t,(ar i (ts.map (·.1)) m s a).2.2=i+j∧ts[j]? =some t∧(ar i (ts.map (·.1)) m s a).2.1+t.1.2*t.2=s+(ts.map fun t=>t.1.2*t.2).sum)
 | [],i,m,s,a,_,_,_,_=>by simp[ar]
 |t::ts,i,m,s,a,h,hv,h1,h2=>by
  have hf:=h t.1 (.head _)
  have hvt:=hv t (.head _)
  have hp:=c9 (ts.map (·.1))
  have ha:=bC t.1.2
  have hx:t.1.1≠[]:=fun e=>by rw[e]at hvt;simp[vals]at hvt
  simp only[List.map_cons]at h1 h2⊢
  rw[cq]at h1 h2
  rw[ar]
  simp only[List.sum_cons]
  by_cases hc:1<(vals t.1.1).length
  ·rw[if_pos hc]
   obtain⟨i1,i2,i3⟩:=e7 hB ts (i+1) (m+1) s i (fun t ht=>h t (.tail _ ht)) (fun t ht=>hv t (.tail _ ht)) (by omega) (by omega)
   refine⟨fun e=>by omega,by omega,fun e=> ?_⟩
   obtain⟨j1,j2⟩:=i1 e
   exact⟨0,t,by rw[j2];rfl,rfl,by rw[j1];omega⟩
  ·rw[if_neg hc]
   obtain⟨v,e1,e2,b1,b2⟩:=wK hf.1 hx hc
   have hm:=dW t.1.2 v b1 b2
   have hck:=hf.2.2
   have ev:t.2=v:=by rw[e2]at hvt;simpa using hvt
   have er:wr (t.1.2*hd0 (vals t.1.1))=t.1.2*v:=by
    rw[e2]
    simp only[hd0,wr,List.getD_cons_zero]
    rw[ac (by omega) (by omega)]
   have es:wr (s+t.1.2*v)=s+t.1.2*v:=by rw[wr,ac (by omega) (by omega)]
   rw[er,es,ev]
   obtain⟨i1,i2,i3⟩:=e7 hB ts (i+1) m (s+t.1.2*v) a (fun t ht=>h t (.tail _ ht)) (fun t ht=>hv t (.tail _ ht)) (by omega) (by omega)
   refine⟨fun e=> ?_,i2,fun e=> ?_⟩
   ·obtain⟨j1,j2⟩:=i1 e
    exact⟨by rw[j1];omega,j2⟩
   ·obtain⟨j,u,j1,j2,j3⟩:=i3 e
    exact⟨j+1,u,by rw[j1];omega,by simpa using j2,by rw[j3];omega⟩
theorem mw {d:aa}{c:Con}{a:List Int}(h:bD c d)(hpos:0<c.vars.length)(hs:Supp a d)(hne:bR c.vars c.coefs a≠c.rhs):Supp a (bP d c):=by
 have hw:=cw (d:=d) h.fine.len
 have hb:=h.big
 have har:aF c.rhs=max c.rhs (-c.rhs):=rfl
 let ts:List ((List (Int×Int)×Int)×Int):=(c.vars.zip c.coefs).map fun p=>((domAt d p.1,p.2),atR a p.1)
 have et:ts.map (·.1)=ab d c.vars c.coefs:=by simp only[ts,List.map_map];rfl
 have eS:(ts.map fun t=>t.1.2*t.2).sum=bR c.vars c.coefs a:=by simp only[ts,List.map_map];rfl
 have hv:wt ts:=by
  intro t ht
  obtain⟨p,hp,rfl⟩:=List.mem_map.1 ht
  have:=h.fine.vin _ (List.of_mem_zip hp).1
  exact hs.at this.1 this.2
 have key:=e7 (B:=ai c.coefs) (by omega) ts 0 0 0 0 (by rw[et];exact de h.fine) hv (by rw[et];omega) (by rw[et];omega)
 rw[et,eS]at key
 have hin:=cO (ab d c.vars c.coefs) 0 0 0 0 c.vars.length hpos (by have:=h.fine.len;simp[ab];omega) (Nat.le_refl _)
 have hsame:=fe (B:=ai c.coefs) (by omega) (ab d c.vars c.coefs) 0 (-1) 0 0 0 (de h.fine) (eN h) (by omega) (by omega) (.inl ⟨by omega,rfl⟩)
 obtain⟨k1,_,k3⟩:=key
 unfold bP
 simp only
 by_cases hm1:1<(ar 0 (ab d c.vars c.coefs) 0 0 0).1
 ·rw[if_pos hm1];exact hs
 ·rw[if_neg hm1]
  by_cases hm0:(ar 0 (ab d c.vars c.coefs) 0 0 0).1=0
  ·rw[if_pos hm0]
   have:=(k1 hm0).1
   rw[if_neg (fun e=>hne (by rw[this,Int.zero_add]at e;exact e))]
   exact hs
  ·rw[if_neg hm0]
   obtain⟨j,t,j1,j2,j3⟩:=k3 (by omega)
   rw[Nat.zero_add]at j1
   have hj:j<c.vars.length:=by rw[←j1];exact hin.1
   have hjc:j<c.coefs.length:=by have:=h.fine.len;omega
   have ht:t=((domAt d (varAt c j),coefAt c j),atR a (varAt c j)):=by
    have hz:j<(c.vars.zip c.coefs).length:=by simp;omega
    simp only[ts,List.getElem?_map,List.getElem?_eq_getElem hz,Option.map_some,Option.some.injEq]at j2
    rw[←j2,show varAt c j=c.vars[j]from aM hj,show coefAt c j=c.coefs[j]from aM hjc]
    simp
   rw[j1]
   have hv:=h.fine.vin _ (aJ hj)
   have hx:=h.fine.dom _ (af hv.2)
   have hk:=h.fine.ck (coefAt c j) (by unfold coefAt;rw[aM hjc];exact List.getElem_mem _)
   have hat:=hs.at hv.1 hv.2
   rw[ht]at j3
   simp only at j3
   have hs': -(ai c.coefs-1048576)≤(ar 0 (ab d c.vars c.coefs) 0 0 0).2.1∧(ar 0 (ab d c.vars c.coefs) 0 0 0).2.1≤ai c.coefs-1048576:=by
    rcases hsame with ⟨_,e⟩|⟨s',_,_,⟨_,_,_,a',e⟩|⟨a',b1,b2,_,e⟩⟩
    ·omega
    ·rw[e]at hm0;exact absurd rfl hm0
    ·rw[e];exact⟨b1,b2⟩
   generalize (ar 0 (ab d c.vars c.coefs) 0 0 0).2.1=s at*
   have b:=hx.val _ hat
   have m:=dW (coefAt c j) _ b.1 b.2
   have hck:=hk.2
   have hu:=fA (p:=fun v=>decide (wr (s+wr (coefAt c j*v))≠c.rhs)) (aE hx.ok)
   refine⟨by rw[List.length_set];exact hs.1,fun i x v hxi hvi=> ?_⟩
   by_cases e:(varAt c j).toNat=i
   ·subst e
    rw[List.getElem?_set_self hv.2]at hxi
    obtain rfl:=Option.some.inj hxi
    have ev:atR a (varAt c j)=v:=by
     unfold atR
     rw[if_neg (by omega),List.getD_eq_getElem?_getD,hvi]
     rfl
    rw[ev]at hat j3 m
    rw[bG hu,List.mem_filter]
    refine⟨hat,?_⟩
    rw[decide_eq_true_eq]
    rw[Int.zero_add]at j3
    clear k1 k3 hsame hin hm1 hm0 j1 j2 ht
    simp only[wr]
    rw[ac (n:=coefAt c j*v) (by omega) (by omega),ac (by omega) (by omega),j3]
    exact hne
   ·rw[List.getElem?_set_ne e]at hxi
    exact hs.2 i x v hxi hvi
theorem xZ {d:aa}{c:Con}{a:List Int}(h:SumOk d c)(hs:Supp a d)(hh:ib c a=true){R:Option aa}{N:Nat}(hR:LinAns d c R N): ∃out,R=some out∧Supp a out:=by
 have hw:=h.whole hs.ne
 unfold LinAns at hR
 rw[if_neg hs.ne]at hR
 by_cases h2:c.op=2
 ·rw[if_pos h2,fD hw h.pos]at hR
  have hne:bR c.vars c.coefs a≠c.rhs:=by
   unfold ib dK at hh
   rw[if_neg (by omega),h2]at hh
   simpa using hh
  have:=mw hw h.pos hs hne
  rw[if_neg this.ne]at hR
  exact⟨_,hR,this⟩
 ·rw[if_neg h2]at hR
  exact qn (by have:=h.op;omega) hh N d R hw hs hR
theorem nB {d:aa}{c:Con}{a:List Int}(h:SumFine d c.vars c.coefs)(hw:ai c.coefs≤4611686018427388928)(hop:0≤c.op∧c.op≤2)(hs:Supp a d)(hso:soW (endsW d c.vars c.coefs) c=true):ib c a=true:=by
 have hne: ∀t∈ab d c.vars c.coefs,t.1≠[]:=by
  intro t ht e
  obtain⟨p,hp,rfl⟩:=List.mem_map.1 ht
  have:=af (h.vin _ (List.of_mem_zip hp).1).2
  simp only at e
  rw[e]at this
  exact hs.ne this
 have ht:=cw (d:=d) h.len
 have hk:=aS c.coefs
 obtain⟨p1,p2,_⟩:=sS h hs
 unfold endsW at hso
 rw[jp 0 0 (de h) hne (by omega) (by omega) (by omega) (by omega)]at hso
 unfold soW at hso
 simp only[Bool.true_eq_false,if_false,Int.zero_add]at hso
 unfold ib dK
 by_cases h0:c.op=0
 ·rw[if_pos h0]at hso⊢
  exact decide_eq_true (by have:=of_decide_eq_true hso;omega)
 ·rw[if_neg h0]at hso⊢
  by_cases h1:c.op=1
  ·rw[if_pos h1]at hso
   simp only[Bool.and_eq_true,decide_eq_true_eq]at hso
   rw[decide_eq_true h1,decide_eq_true (by omega)]
   rfl
  ·rw[if_neg h1]at hso
   simp only[Bool.or_eq_true,decide_eq_true_eq]at hso
   rw[decide_eq_false h1,decide_eq_false (by omega)]
   rfl
theorem xQ {d:aa}{c:Con}{a:List Int}(h:SumOk d c)(hs:Supp a d)(hso:soW (endsW d (bL c).vars (bL c).coefs) (bL c)=true):ib c a=false:=by
 have hb:=h.big
 have hr:aF c.rhs=max c.rhs (-c.rhs):=rfl
 have hk:=aS c.coefs
 have hn:SumFine d (bL c).vars (bL c).coefs∧ai (bL c).coefs≤4611686018427388928∧0≤(bL c).op∧(bL c).op≤2:=by
  have e:ai c.coefs≤4611686018427388928:=by omega
  have ho:=h.op
  unfold bL
  split
  ·exact⟨h.fine.back,by simp only;rw[dc _ h.fine.ck];exact e,ho⟩
  ·split
   ·exact⟨h.fine,e,by simp,by simp⟩
   ·split
    ·exact⟨h.fine,e,by simp,by simp⟩
    ·exact⟨h.fine,e,ho⟩
 have hh:=nB hn.1 hn.2.1 hn.2.2 hs hso
 unfold ib dK at hh⊢
 unfold bL at hh
 have ho:=h.op
 by_cases h0:c.op=0
 ·rw[if_pos h0]at hh
  simp only[if_pos h0]at hh
  rw[if_pos h0]
  rw[kH h.fine.ck]at hh
  have e:wr (wr (0-c.rhs)-1)= -c.rhs-1:=by
   rw[(nh (by omega)).1,wr,ac (by omega) (by omega)]
  rw[e]at hh
  exact decide_eq_false (by have:=of_decide_eq_true hh;omega)
 ·rw[if_neg h0]at hh⊢
  by_cases h1:c.op=1
  ·rw[if_pos h1]at hh
   rw[if_neg (by simp)]at hh
   simp at hh
   rw[decide_eq_true h1,decide_eq_false hh]
   rfl
  ·have h2:c.op=2:=by omega
   rw[if_neg h1,if_pos h2]at hh
   rw[if_neg (by simp)]at hh
   simp at hh
   rw[decide_eq_false h1,decide_eq_true hh]
   rfl
def clF (d:aa)(l:List (Int×Int)):Option aa:=
 match l with
 | []=>none
 | [p]=>dA d p.1 (dz p.2)
 |_::_::_=>some d
theorem rL (d:aa)(c:Con)(hl:c.vars.length=c.coefs.length): ∀(l:List (Int×Int)) (i:Nat) (op:Int),l=(c.vars.zip c.coefs).drop i→(0≤op→op.toNat<c.vars.length)→
  ng d c (pg d i l op)=if op<0 then clF d (l.filter (litB d))else(match l.filter (litB d)with| []=>dA d (varAt c op.toNat) (dz (coefAt c op.toNat))|_::_=>some d)
 | [],i,op,h,ho=>by
  rw[pg,ng]
  by_cases h1:op<0
  ·rw[if_pos h1,if_pos h1];rfl
  ·rw[if_neg h1,if_neg h1];rfl
 |p::l,i,op,h,ho=>by
  have hi:i<(c.vars.zip c.coefs).length:=by
   have:=congrArg List.length h
   simp at this
   simp;omega
  have hd:=List.drop_eq_getElem_cons hi
  rw[←h]at hd
  injection hd with hp hl'
  have hiv:i<c.vars.length:=by simp at hi;omega
  have hic:i<c.coefs.length:=by omega
  have hpe:p=(varAt c i,coefAt c i):=by
   rw[hp,List.getElem_zip]
   simp[varAt,coefAt,hiv,hic]
  rw[pg]
  by_cases hb:litB d p=true
  ·rw[if_neg (by simp[hb]),List.filter_cons_of_pos hb]
   by_cases h1:op<0
   ·rw[if_neg (by omega),if_pos h1,rL d c hl l (i+1) i hl' (fun _=>by simpa using hiv),if_neg (by omega)]
    cases hf:l.filter (litB d)with
    |nil=>simp[clF,hpe]
    |cons q m=>simp[clF]
   ·rw[if_pos (by omega),if_neg h1]
    rfl
  ·have hb:litB d p=false:=by simpa using hb
   rw[if_pos hb,List.filter_cons_of_neg (by simp[hb]),rL d c hl l (i+1) op hl' ho]
theorem v7 {d:aa}{c:Con}(hl:c.vars.length=c.coefs.length):ju d c=if []∈d then none else clF d ((c.vars.zip c.coefs).filter (litB d)):=by
 unfold ju
 rw[rL d c hl (c.vars.zip c.coefs) 0 (-1) rfl (by omega),if_pos (by decide:(-1:Int)<0)]
structure ClOk (d:aa)(c:Con):Prop where
 len:c.vars.length=c.coefs.length
 nod:c.vars.Nodup
 pos:0<c.vars.length
 vl:c.vars.length*8≤140737488355328
 vin: ∀v∈c.vars,0≤v∧v.toNat<d.length
 unit: ∀k∈c.coefs,k=1∨k= -1
 truth: ∀v∈c.vars,truthR (domAt d v)=true
theorem BR:dz 1=1:=by decide +kernel
theorem BQ:dz (-1)=0:=by decide +kernel
theorem yu {d:aa}{c:Con}(hc:ConB c)(h:conR d c=0)(hk:c.kind=5):ClOk d c:=by
 obtain⟨hv,hr⟩:=rI hc h
 unfold rightR at hr
 rw[if_neg (by omega),if_neg (by omega),if_neg (by omega),if_neg (by omega),if_neg (by omega),if_pos hk]at hr
 simp only[sumR,Bool.and_eq_true,decide_eq_true_eq,Bool.not_eq_true',decide_eq_false_iff_not]at hr
 obtain⟨⟨_,⟨⟨h4,h5⟩,h6⟩,h7⟩,h8⟩:=hr
 have hu: ∀i,i<c.vars.length→truthR (domAt d (varAt c i))=true∧(coefAt c i=1∨coefAt c i= -1):=by
  intro i hi
  have:=List.all_eq_true.1 h8 i (List.mem_range.2 hi)
  simpa[f8]using this
 refine⟨h6,h4,h5,hv.1,hv.2,fun k hk=> ?_,fun v hv=> ?_⟩
 ·obtain⟨i,hi,rfl⟩:=List.getElem_of_mem hk
  have:=(hu i (by omega)).2
  simpa[coefAt,hi]using this
 ·obtain⟨i,hi,rfl⟩:=List.getElem_of_mem hv
  have:=(hu i hi).1
  simpa[varAt,hi]using this
theorem AP {d:aa}{c:Con}(h:ClOk d c)(hdl:d.length*24≤140737488355328)(hx: ∀x∈d,(x.length+1)*16≤140737488355328):ClIn d c:=⟨h.len,h.vl,h.vin,hdl,hx⟩
theorem fB {d:aa}{v w:Int}{x:List (Int×Int)}(hv:v.toNat<d.length):domAt (d.set v.toNat x) w=if v.toNat=w.toNat then x else domAt d w:=by
 unfold domAt
 rw[List.getD_eq_getElem?_getD,List.getD_eq_getElem?_getD,List.getElem?_set]
 by_cases h:v.toNat=w.toNat
 ·rw[if_pos h,if_pos h,if_pos hv];rfl
 ·rw[if_neg h,if_neg h]
theorem lO {D:aa}: ∀{n:Nat} {t:List Int},t∈fM D n↔t.length=n∧∀k,k<n→t.getD k 0∈vals (D.getD k [])
 |0,t=>by simp[fM]
 |n+1,t=>by
  simp only[fM,List.mem_flatMap,List.mem_map]
  constructor
  ·rintro⟨a,ha,v,hv,rfl⟩
   obtain⟨hl,h⟩:=lO.1 ha
   refine⟨by simp[hl],fun k hk=> ?_⟩
   by_cases e:k=n
   ·subst e;subst hl
    simp only[List.getD_eq_getElem?_getD]
    rw[List.getElem?_append_right (Nat.le_refl _)]
    simpa using hv
   ·have:=h k (by omega)
    simp only[List.getD_eq_getElem?_getD]at this⊢
    rw[List.getElem?_append_left (by omega)]
    exact this
  ·rintro⟨hl,h⟩
   refine⟨t.take n,lO.2 ⟨by simp;omega,fun k hk=> ?_⟩,t.getD n 0,h n (by omega),?_⟩
   ·have:=h k (by omega)
    simp only[List.getD_eq_getElem?_getD]at this⊢
    rw[List.getElem?_take,if_pos hk]
    exact this
   ·have e:t=t.take n++[t[n]]:=by
     rw[←List.take_succ_eq_append_getElem (by omega),List.take_of_length_le (by omega)]
    rw[List.getD_eq_getElem?_getD,List.getElem?_eq_getElem (by omega)]
    exact e.symm
theorem lN {us:List Int}(h:us.Nodup){k:Nat}(hk:k<us.length):us.idxOf us[k]=k:=by
 have h1:us.idxOf us[k]<us.length:=List.idxOf_lt_length_iff.2 (List.getElem_mem hk)
 have h2:=List.getElem_idxOf h1
 exact(List.getElem_inj h).1 h2
theorem tS {d:aa}{us:List Int}(h:us.Nodup){t:List Int}:t∈fM (us.map (domAt d)) us.length↔∃f:Int→Int,t=us.map f∧∀v∈us,f v∈vals (domAt d v):=by
 rw[lO]
 have hD: ∀k (hk:k<us.length),(us.map (domAt d)).getD k []=domAt d us[k]:=fun k hk=>by
  rw[List.getD_eq_getElem?_getD,List.getElem?_map,List.getElem?_eq_getElem hk];rfl
 constructor
 ·rintro⟨hl,hk⟩
  refine⟨fun v=>t.getD (us.idxOf v) 0,?_,fun v hv=> ?_⟩
  ·apply List.ext_getElem (by simp[hl])
   intro k h1 h2
   have h3:k<us.length:=by simpa using h2
   rw[List.getElem_map,lN h h3,List.getD_eq_getElem?_getD,List.getElem?_eq_getElem h1];rfl
  ·obtain⟨k,hk2,rfl⟩:=List.getElem_of_mem hv
   have:=hk k hk2
   rw[hD k hk2]at this
   simp only[lN h hk2]
   exact this
 ·rintro⟨f,rfl,hf⟩
  refine⟨by simp,fun k hk=> ?_⟩
  rw[hD k hk,List.getD_eq_getElem?_getD,List.getElem?_map,List.getElem?_eq_getElem hk]
  exact hf _ (List.getElem_mem hk)
theorem ic {α:Type}(f:Int→α): ∀(us:List Int) (a:List α) (i:Nat),(∀u∈us,0≤u)→(us.foldl (fun a u=>a.set u.toNat (f u)) a)[i]? =if(i:Int)∈us∧i<a.length then some (f i)else a[i]?
 | [],a,i,_=>by simp
 |u::us,a,i,h=>by
  rw[List.foldl_cons,ic f us _ i fun v hv=>h v (.tail _ hv)]
  have hu:=h u (.head _)
  simp only[List.length_set,List.mem_cons]
  by_cases h1:(i:Int)∈us∧i<a.length
  ·rw[if_pos h1,if_pos ⟨.inr h1.1,h1.2⟩]
  ·rw[if_neg h1,List.getElem?_set]
   by_cases e:u.toNat=i
   ·have e2:(i:Int)=u:=by omega
    rw[if_pos e]
    by_cases hl:i<a.length
    ·rw[if_pos (by omega),if_pos ⟨.inl e2,hl⟩,e2]
    ·rw[if_neg (by omega),if_neg (fun h=>hl h.2),List.getElem?_eq_none (by omega)]
   ·rw[if_neg e,if_neg]
    rintro⟨h2|h2,h3⟩
    ·omega
    ·exact h1 ⟨h2,h3⟩
theorem lx {β γ:Type}(g:Int→β)(st:γ→Int×β→γ): ∀(us:List Int) (a:γ),(us.zip (us.map g)).foldl st a=us.foldl (fun a u=>st a (u,g u)) a
 | [],_=>rfl
 |u::us,a=>by rw[List.map_cons,List.zip_cons_cons,List.foldl_cons,List.foldl_cons,lx g st us]
theorem li {n:Nat}{us:List Int}(f:Int→Int)(h0: ∀u∈us,0≤u∧u.toNat<n){v:Int}(hv:v∈us):atR (ex n us (us.map f) us.length) v=f v:=by
 have hl:=yg n us (us.map f) us.length
 have h1:=h0 v hv
 have e:ex n us (us.map f) us.length=us.foldl (fun a u=>a.set u.toNat (f u)) (List.replicate n 0):=by
  unfold ex
  rw[List.take_of_length_le (by simp),lx (γ:=List Int) f]
 unfold atR
 rw[if_neg (by omega),List.getD_eq_getElem?_getD,e,ic f us _ _ (fun u hu=>(h0 u hu).1),Int.toNat_of_nonneg h1.1,if_pos ⟨hv,by simpa using h1.2⟩]
 rfl
def o6 (d:aa)(us:List Int)(P:List Int→Bool)(v x:Int):Prop:= ∃f:Int→Int,(∀u∈us,f u∈vals (domAt d u))∧P (us.map f)=true∧f v=x
theorem kF {d:aa}{us:List Int}{P:List Int→Bool}(hn:us.Nodup)(h0: ∀u∈us,0≤u∧u.toNat<d.length)(i:Nat):
  ((i:Int)∉us→(putsW d us (fJ P us.length (fM (us.map (domAt d)) us.length)) us.length)[i]? =d[i]?)∧
  ((i:Int)∈us→∃y,(putsW d us (fJ P us.length (fM (us.map (domAt d)) us.length)) us.length)[i]? =some y∧ax y∧∀x,x∈vals y↔o6 d us P i x):=by
 let G:Int→List Int:=fun v=>((fM (us.map (domAt d)) us.length).filter P).map (·.getD (us.idxOf v) 0)
 have hG: ∀v∈us,∀x,x∈G v↔o6 d us P v x:=by
  intro v hv x
  have hk:us.idxOf v<us.length:=List.idxOf_lt_length_iff.2 hv
  have hf: ∀f:Int→Int,(us.map f).getD (us.idxOf v) 0=f v:=fun f=>by
   rw[List.getD_eq_getElem?_getD,List.getElem?_map,List.getElem?_eq_getElem hk,List.getElem_idxOf];rfl
  simp only[G,List.mem_map,List.mem_filter]
  constructor
  ·rintro⟨t,⟨ht,hp⟩,rfl⟩
   obtain⟨f,rfl,h⟩:=(tS hn).1 ht
   exact⟨f,h,hp,(hf f).symm⟩
  ·rintro⟨f,h,hp,rfl⟩
   exact⟨us.map f,⟨(tS hn).2 ⟨f,rfl,h⟩,hp⟩,hf f⟩
 have hks:fJ P us.length (fM (us.map (domAt d)) us.length)=us.map G:=by
  apply List.ext_getElem (by simp[fJ])
  intro k h1 h2
  have h3:k<us.length:=by simpa using h2
  simp only[fJ,List.getElem_map,List.getElem_range,G,lN hn h3]
 have e:putsW d us (fJ P us.length (fM (us.map (domAt d)) us.length)) us.length=us.foldl (fun a u=>a.set u.toNat (cW (aT (G u)))) d:=by
  rw[hks]
  unfold putsW
  rw[List.take_of_length_le (by simp),lx (γ:=aa) G]
 rw[e,ic (fun u=>cW (aT (G u))) us d i fun u hu=>(h0 u hu).1]
 constructor
 ·intro h;rw[if_neg fun h2=>h h2.1]
 ·intro h
  have:=h0 _ h
  rw[if_pos ⟨h,by simpa using this.2⟩]
  refine⟨_,rfl,fU (bW _),fun x=> ?_⟩
  rw[bG (bW _),bH]
  exact hG _ h x
theorem m8 {d out:aa}{us:List Int}{P:List Int→Bool}(hn:us.Nodup)(h0: ∀u∈us,0≤u∧u.toNat<d.length)(hl:out.length=d.length)(hok: ∀x∈out,ax x)
  (h1: ∀v∈us,∀x,x∈vals (domAt out v)↔o6 d us P v x) (h2: ∀i:Nat,(i:Int)∉us→out[i]? =d[i]?):putsW d us (fJ P us.length (fM (us.map (domAt d)) us.length)) us.length=out:=by
 apply List.ext_getElem?
 intro i
 obtain⟨h3,h4⟩:=kF (P:=P) hn h0 i
 by_cases hi:(i:Int)∈us
 ·obtain⟨y,hy,hd,hx⟩:=h4 hi
  have hlt:=(h0 _ hi).2
  have ho:out[i]? =some (domAt out i):=by
   have:=ak (d:=out) (v:=(i:Int)) (by omega)
   simpa using this
  rw[hy,ho]
  congr 1
  refine ik hd (hok _ (List.mem_of_getElem? ho)) (dP (aE hd) (aE (hok _ (List.mem_of_getElem? ho))) fun x=> ?_)
  rw[hx x,h1 _ hi x]
 ·rw[h3 hi,h2 i hi]
theorem BA {n:Nat}{us:List Int}{P:List Int→Bool}(hn:us.Nodup)(h0: ∀u∈us,0≤u∧u.toNat<n)(hne:us≠[]):SuppS n us P fun d=>k7 d us P:=by
 refine⟨fun d out hd he=> ?_,fun d hd he g hg=> ?_,h0,hne⟩
 ·have h0d: ∀u∈us,0≤u∧u.toNat<d.length:=by rw[hd.len];exact h0
  have hat:=kF (d:=d) (P:=P) hn h0d
  have hl:=xD d us (fJ P us.length (fM (us.map (domAt d)) us.length)) us.length
  simp only[k7,if_neg hd.some',mi]at he
  generalize putsW d us (fJ P us.length (fM (us.map (domAt d)) us.length)) us.length=o at*
  split at he
  ·cases he
  ·rename_i hno
   obtain rfl:=Option.some.inj he
   have hfx: ∀x∈o,Fine x∧(vals x).length≤4096:=fun x hx=>by
    obtain⟨i,hi⟩:=List.getElem?_of_mem hx
    obtain⟨h1,h2⟩:=hat i
    by_cases hiu:(i:Int)∈us
    ·obtain⟨y,hy,hok,hv⟩:=h2 hiu
     rw[hi]at hy
     obtain rfl:=Option.some.inj hy
     obtain⟨k1,k2,k3⟩:=hd.few.at (i:Int)
     have hsub: ∀v∈vals x,v∈vals (domAt d i):=fun v hm=>by
      obtain⟨f,h3,_,rfl⟩:=(hv v).1 hm
      exact h3 _ hiu
     have hlen:=bU (aE hok) hsub
     exact⟨⟨hok,fun v hm=>k3 v (hsub v hm),by omega⟩,by omega⟩
    ·rw[h1 hiu]at hi
     exact⟨hd.few.fine x (List.mem_of_getElem? hi),hd.few.few x (List.mem_of_getElem? hi)⟩
   refine⟨⟨⟨by rw[hl];exact hd.few.small,fun x hx=>(hfx x hx).1,fun x hx=>(hfx x hx).2⟩,by rw[hl,hd.len],hno⟩,fun v hv x=> ?_,fun v hv0 hv=> ?_⟩
   ·have hv0:=h0 v hv
    have e:((v.toNat:Nat):Int)=v:=by omega
    obtain⟨y,hy,hok,hx⟩:=(hat v.toNat).2 (by rw[e];exact hv)
    rw[e]at hx
    have:domAt o v=y:=by
     unfold domAt
     rw[List.getD_eq_getElem?_getD,hy];rfl
    rw[this]
    exact hx x
   ·have e:((v.toNat:Nat):Int)=v:=by omega
    have:=(hat v.toNat).1 (by rw[e];exact hv)
    unfold domAt
    rw[List.getD_eq_getElem?_getD,List.getD_eq_getElem?_getD,this]
 ·have h0d: ∀u∈us,0≤u∧u.toNat<d.length:=by rw[hd.len];exact h0
  have hat:=kF (d:=d) (P:=P) hn h0d
  simp only[k7,if_neg hd.some',mi]at he
  generalize putsW d us (fJ P us.length (fM (us.map (domAt d)) us.length)) us.length=o at*
  split at he
  ·rename_i hm
   obtain⟨i,hi⟩:=List.getElem?_of_mem hm
   obtain⟨h1,h2⟩:=hat i
   by_cases hiu:(i:Int)∈us
   ·obtain⟨y,hy,hok,hx⟩:=h2 hiu
    rw[hi]at hy
    obtain rfl:=Option.some.inj hy
    cases hp:P (us.map g)with
    |false=>rfl
    |true=>
     have:=(hx (g i)).2 ⟨g,hg,hp,rfl⟩
     cases this
   ·rw[h1 hiu]at hi
    exact absurd (List.mem_of_getElem? hi) hd.some'
  ·cases he
theorem oB {α β:Type}{f:α→β ⊕ α}: ∀{n m:Nat} {x:α} {r s:β},cB f n x=some r→cB f m x=some s→r=s
 |0,_,_,_,_,h,_=>by cases h
 |_+1,0,_,_,_,_,h=>by cases h
 |n+1,m+1,x,r,s,h1,h2=>by
  simp only[cB]at h1 h2
  cases h:f x with
  |inl b=>rw[h]at h1 h2;simp only[Option.some.injEq]at h1 h2;rw[←h1,h2]
  |inr y=>rw[h]at h1 h2;exact oB h1 h2
theorem wR {d:aa}{c:Con}{R S:Option aa}{N M:Nat}(h1:LinAns d c R N)(h2:LinAns d c S M):R=S:=by
 unfold LinAns at h1 h2
 split at h1
 ·rename_i h;rw[if_pos h]at h2;rw[h1,h2]
 ·rename_i h
  rw[if_neg h]at h2
  split at h1
  ·rename_i h3;rw[if_pos h3]at h2;rw[h1,h2]
  ·rename_i h3;rw[if_neg h3]at h2;exact oB h1 h2
theorem qo {α β:Type}{f:α→β ⊕ α}{I:α→Prop}{P:β→Prop}(h1: ∀x y,I x→f x= .inr y→I y)(h2: ∀x r,I x→f x= .inl r→P r): ∀{n:Nat} {x:α} {r:β},I x→cB f n x=some r→P r
 |0,_,_,_,h=>by cases h
 |n+1,x,r,hi,h=>by
  simp only[cB]at h
  cases hf:f x with
  |inl b=>rw[hf]at h;simp only[Option.some.injEq]at h;exact h▸h2 x b hi hf
  |inr y=>rw[hf]at h;exact qo h1 h2 (h1 x y hi hf) h
theorem ku {d:aa}{i:Nat}{x:List (Int×Int)}(h: ∀y,d[i]? =some y→∀v∈vals x,v∈vals y):Sub (d.set i x) d:=by
 refine⟨by simp,fun j y z hy hz v hv=> ?_⟩
 rw[List.getElem?_set]at hy
 split at hy
 ·rename_i e
  subst e
  split at hy
  ·cases hy;exact h z hz v hv
  ·cases hy
 ·rw[hz]at hy;cases hy;exact hv
theorem wQ {d:aa}{c:Con}{out:aa}{N:Nat}(h:SumOk d c)(hR:LinAns d c (some out) N):Sub out d:=by
 unfold LinAns at hR
 split at hR
 ·cases hR
 ·rename_i hne
  have hw:=h.whole hne
  split at hR
  ·rename_i h2
   rw[fD hw h.pos]at hR
   split at hR
   ·cases hR
   ·cases hR
    have hin:=cO (ab d c.vars c.coefs) 0 0 0 0 c.vars.length h.pos (by have:=h.fine.len;simp[ab];omega) (Nat.le_refl _)
    unfold bP
    simp only
    split
    ·exact Sub.refl d
    ·split
     ·split
      ·exact ku fun y _ v hv=>by simp[vals]at hv
      ·exact Sub.refl d
     ·refine ku fun y hy v hv=> ?_
      have hvv:=h.fine.vin _ (aJ hin.1)
      rw[ak hvv.2]at hy
      obtain rfl:=Option.some.inj hy
      have hf:=h.fine.dom _ (af hvv.2)
      rw[bG (fA (aE hf.ok))]at hv
      exact(List.mem_filter.1 hv).1
  ·refine qo (f:=eX c) (I:=fun x=>bD c x∧Sub x d) (P:=fun r=> ∀o,r=some o→Sub o d) ?_ ?_ ⟨hw,Sub.refl d⟩ hR out rfl
   ·rintro x y ⟨hx,hs⟩ hy
    rw[dh hx]at hy
    obtain⟨f1,s1⟩:=ee hx
    split at hy
    ·cases hy
    ·rename_i h1
     have hw1:bD c (M1 c x):=Whole.most hx h1
     obtain⟨f2,s2⟩:=ee hw1.back
     split at hy
     ·cases hy
     ·split at hy
      ·cases hy
      ·rename_i h3
       split at hy
       ·cases hy
       ·obtain rfl:=Sum.inr.inj hy
        exact⟨hw1.unback (Whole.most hw1.back h3),Sub.trans s2 (Sub.trans s1 hs)⟩
   ·rintro x r ⟨hx,hs⟩ hy o rfl
    rw[dh hx]at hy
    obtain⟨f1,s1⟩:=ee hx
    split at hy
    ·cases hy
    ·rename_i h1
     have hw1:bD c (M1 c x):=Whole.most hx h1
     obtain⟨f2,s2⟩:=ee hw1.back
     split at hy
     ·obtain rfl:=Option.some.inj (Sum.inl.inj hy)
      exact Sub.trans s1 hs
     ·split at hy
      ·cases hy
      ·split at hy
       ·obtain rfl:=Option.some.inj (Sum.inl.inj hy)
        exact Sub.trans s2 (Sub.trans s1 hs)
       ·cases hy
theorem gP {d:aa}(hf: ∀x∈d,Fine x)(hne: []∉d){i:Nat}{x:List (Int×Int)}{v:Int}(hx:d[i]? =some x)(hv:v∈vals x): ∃a,Supp a d∧a[i]? =some v:=by
 have hi:=(List.getElem?_eq_some_iff.1 hx).1
 refine⟨(d.map fun y=>(vals y).headD 0).set i v,⟨by simp,fun j y w hy hw=> ?_⟩,by simp[hi]⟩
 rw[List.getElem?_set]at hw
 split at hw
 ·rename_i e
  subst e
  rw[hx]at hy
  cases hy
  split at hw
  ·cases hw;exact hv
  ·cases hw
 ·rw[List.getElem?_map,hy]at hw
  simp only[Option.map_some,Option.some.injEq]at hw
  subst hw
  have hm:=List.mem_of_getElem? hy
  cases h2:vals y with
  |nil=>exact absurd ((eZ (hf y hm).ok).1 h2▸hm) hne
  |cons z l=>simp
theorem zw {d:aa}{c:Con}{R:Option aa}{N:Nat}(h:SumOk d c)(hne: []∉d)(hR:LinAns d c R N)(hfin: ∀out,R=some out→out.length=d.length∧[]∉out∧∀x∈out,Fine x)(hso:soW (endsW d c.vars c.coefs) c=true):R=some d:=by
 have hb:=h.big
 have ha:=bC c.rhs
 have key: ∀a,Supp a d→∃out,R=some out∧Supp a out:=fun a hs=>xZ h hs (nB h.fine (by omega) h.op hs hso) hR
 cases R with
 |none=>
  exfalso
  cases hd:d with
  |nil=>
   have:=h.fine.vin
   have hp:=h.pos
   obtain⟨v,hv⟩:=List.exists_mem_of_length_pos hp
   have:=(this v hv).2
   rw[hd]at this
   simp at this
  |cons x l=>
   have hxm:x∈d:=by rw[hd];exact .head _
   cases h2:vals x with
   |nil=>exact hne ((eZ (h.fine.dom x hxm).ok).1 h2▸hxm)
   |cons z m=>
    obtain⟨a,hs,_⟩:=gP h.fine.dom hne (i:=0) (x:=x) (v:=z) (by rw[hd];rfl) (by rw[h2];exact .head _)
    obtain⟨out,ho,_⟩:=key a hs
    cases ho
 |some out=>
  obtain⟨h1,h2,h3⟩:=hfin out rfl
  have hsub:=wQ h hR
  congr 1
  refine Sub.antisymm hsub ⟨h1.symm,fun i x y hx hy v hv=> ?_⟩ h3 h.fine.dom
  obtain⟨a,hs,hai⟩:=gP h.fine.dom hne hx hv
  obtain⟨out',ho,hs2⟩:=key a hs
  cases ho
  exact hs2.2 i y v hy hai
theorem oO {d:aa}{vars coefs:List Int}{rhs:Int}(h:Whole d vars coefs rhs):endsW d vars coefs=(bf (ab d vars coefs),fK (ab d vars coefs),true):=by
 have hb:=h.big
 have ha:=bC rhs
 have hwt:=cw (d:=d) h.fine.len
 have:=jp 0 0 (de h.fine) (eN h) (by omega) (by omega) (by omega) (by omega)
 unfold endsW
 rw[this]
 simp
theorem oh {d:aa}{vars coefs:List Int}(h: ∀k∈coefs,CoefOk k):bf (ab d vars (ay coefs))= -fK (ab d vars coefs):=by
 rw[eP,qt]
 unfold ay
 induction vars generalizing coefs with
 |nil=>simp
 |cons v vars ih=>
  cases coefs with
  |nil=>simp
  |cons k coefs=>
   have hk:=h k (.head _)
   have e:=(cY hk).1
   have ih:=ih fun k hk=>h k (.tail _ hk)
   simp only[List.map_cons,List.zip_cons_cons,List.sum_cons,e]
   have e2:ce (domAt d v) (-k)= -fL (domAt d v) k:=by
    have hk0:=hk.1
    unfold ce fL
    by_cases h0:0<k
    ·rw[if_neg (by omega),if_pos h0,Int.neg_mul]
    ·rw[if_pos (by omega),if_neg h0,Int.neg_mul]
   rw[e2,ih]
   omega
theorem jz: ∀(ts:List (List (Int×Int)×Int)) (i m a:Nat) (s:Int),(∀t∈ts,¬1<(vals t.1).length)→(ar i ts m s a).1=m
 | [],i,m,a,s,_=>by simp[ar]
 |t::ts,i,m,a,s,h=>by
  rw[ar,if_neg (h t (.head _))]
  exact jz ts _ _ _ _ fun t ht=>h t (.tail _ ht)
theorem xp {d:aa}(hf: ∀x∈d,Fine x)(hne: []∉d)(hl:0<d.length): ∃a,Supp a d:=by
 cases h2:vals d[0]with
 |nil=>exact absurd ((eZ (hf d[0] (List.getElem_mem hl)).ok).1 h2▸List.getElem_mem hl) hne
 |cons z m=>
  obtain⟨a,ha,_⟩:=gP hf hne (i:=0) (x:=d[0]) (v:=z) (List.getElem?_eq_getElem hl) (by rw[h2];exact .head _)
  exact⟨a,ha⟩
theorem not_not {c:Con}(hck: ∀k∈c.coefs,CoefOk k)(hop:0≤c.op∧c.op≤2)(hr:aF c.rhs≤4611686018427388928):bL (bL c)=c:=by
 obtain⟨kind,vars,coefs,op,rhs,rows,b⟩:=c
 simp only at hck hop hr
 have har:aF rhs=max rhs (-rhs):=rfl
 have:op=0∨op=1∨op=2:=by omega
 rcases this with rfl|rfl|rfl
 ·have e1:wr (0-rhs)= -rhs:=by rw[wr,ac (by omega) (by omega)];omega
  have e2:wr (wr (0-rhs)-1)= -rhs-1:=by rw[e1,wr,ac (by omega) (by omega)]
  have e3:wr (wr (0-(-rhs-1))-1)=rhs:=by
   rw[show wr (0-(-rhs-1))=rhs+1 by rw[wr,ac (by omega) (by omega)];omega,wr,ac (by omega) (by omega)]
   omega
  have e4:ay (ay coefs)=coefs:=by
   unfold ay
   rw[List.map_map]
   refine(List.map_congr_left fun k hk=> ?_).trans (List.map_id _)
   obtain⟨h1,h2⟩:=cY (hck k hk)
   have h3:=(cY h2).1
   simp only[Function.comp]
   rw[h3,h1]
   simp
  simp only[bL,if_true,e2,e3,e4]
 ·simp[bL]
 ·simp[bL]
theorem wN {x:List (Int×Int)}(h:ax x)(hne:x≠[])(k:Int): ∃v∈vals x,ce x k=k*v:=by
 unfold ce
 by_cases hk:0<k
 ·rw[if_pos hk];exact⟨_,fz h hne,rfl⟩
 ·rw[if_neg hk];exact⟨_,oy h hne,rfl⟩
theorem qb {x y:List (Int×Int)}(hx:ax x)(hy:ax y)(hne:x≠[])(hs: ∀v∈vals x,v∈vals y)(k:Int):ce y k≤ce x k:=by
 obtain⟨v,hv,e⟩:=wN hx hne k
 rw[e]
 exact(ro hy (hs v hv)).1
structure SumC (n:Nat)(vars coefs:List Int)(rhs:Int):Prop where
 vl:vars.length=coefs.length
 vin: ∀v∈vars,0≤v∧v.toNat<n
 ck: ∀k∈coefs,CoefOk k
 nod:vars.Nodup
 big:ai coefs≤4611686018427388928∧aF rhs≤4611686018427388928
 few:vars.length*24≤140737488355328
theorem SumC.whole {n:Nat}{vars coefs:List Int}{rhs:Int}(h:SumC n vars coefs rhs){d:aa}(hd:GoodD n d):Whole d vars coefs rhs:=
 ⟨⟨h.vl,by have:=h.few;omega,fun v hv=>by rw[hd.len];exact h.vin v hv,h.ck,hd.few.fine,hd.few.small⟩,h.nod,hd.some',h.big⟩
theorem rX {d:aa}{vars coefs:List Int}{rhs:Int}(h:Whole d vars coefs rhs){p:Int×Int}(hp:p∈vars.zip coefs):domAt (MO d vars coefs rhs) p.1=dN d (bf (ab d vars coefs)) rhs p:=by
 obtain⟨ha,hl⟩:=il h
 have hm:(p.1,dN d (bf (ab d vars coefs)) rhs p)∈im d vars coefs rhs:=List.mem_map.2 ⟨p,hp,rfl⟩
 have e:=dG ha hl _ hm
 unfold domAt
 rw[List.getD_eq_getElem?_getD,show MO d vars coefs rhs=bQ (im d vars coefs rhs) d from rfl,e];rfl
theorem rV {d:aa}{vars coefs:List Int}{rhs:Int}(h:Whole d vars coefs rhs){v:Int}(h0:0≤v)(hv:v∉vars):domAt (MO d vars coefs rhs) v=domAt d v:=by
 have e:(MO d vars coefs rhs)[v.toNat]? =d[v.toNat]? :=cQ _ _ _ fun p hp e=>by
  obtain⟨q,hq,rfl⟩:=List.mem_map.1 hp
  have hq1:=(List.of_mem_zip hq).1
  have:=(h.fine.vin _ hq1).1
  have e:q.1.toNat=v.toNat:=e
  exact hv ((show q.1=v by omega)▸hq1)
 unfold domAt
 rw[List.getD_eq_getElem?_getD,List.getD_eq_getElem?_getD,e]
theorem kn {vars coefs:List Int}(hl:vars.length=coefs.length){v:Int}(hv:v∈vars): ∃p∈vars.zip coefs,p.1=v:=by
 obtain⟨i,hi,rfl⟩:=List.getElem_of_mem hv
 exact⟨(vars[i],coefs[i]'(by omega)),List.mem_iff_getElem.2 ⟨i,by simp;omega,by simp⟩,rfl⟩
theorem AU {n:Nat}{a b:aa}{vars coefs:List Int}{rhs:Int}(hc:SumC n vars coefs rhs)(ga:GoodD n a)(gb:GoodD n b)(h:leD a b):leD (MO a vars coefs rhs) (MO b vars coefs rhs):=by
 have wa:=hc.whole ga
 have wb:=hc.whole gb
 have hlow:=eC (f:=fun p=>ce (domAt b p.1) p.2) (g:=fun p=>ce (domAt a p.1) p.2) (l:=vars.zip coefs) fun p hp=>by
  have hv:=hc.vin _ (List.of_mem_zip hp).1
  have hm:domAt a p.1∈a:=af (by rw[ga.len];exact hv.2)
  exact qb (ga.few.fine _ hm).ok (gb.few.fine _ (af (by rw[gb.len];exact hv.2))).ok (fun e=>ga.some' (e▸hm)) (fun x hx=>h.2 p.1 x hv.1 hx) p.2
 rw[←eP,←eP]at hlow
 refine⟨by rw[(ee wa).2.1,(ee wb).2.1,ga.len,gb.len],fun v x h0 hx=> ?_⟩
 by_cases hv:v∈vars
 ·obtain⟨p,hp,rfl⟩:=kn hc.vl hv
  rw[rX wa hp]at hx
  rw[rX wb hp]
  obtain⟨h1,h2⟩:=((fO wa hp _).2 x).1 hx
  refine((fO wb hp _).2 x).2 ⟨h.2 _ x h0 h1,?_⟩
  have:=hlow.2 p hp
  omega
 ·rw[rV wa h0 hv]at hx
  rw[rV wb h0 hv]
  exact h.2 v x h0 hx
def kw (vars coefs:List Int)(rhs:Int)(d:aa):Option aa:=if []∈MO d vars coefs rhs then none else some (MO d vars coefs rhs)
theorem rW {n:Nat}{d:aa}{vars coefs:List Int}{rhs:Int}(hc:SumC n vars coefs rhs)(hd:GoodD n d)(hne: []∉MO d vars coefs rhs):GoodD n (MO d vars coefs rhs)∧leD (MO d vars coefs rhs) d:=by
 obtain⟨h1,h2⟩:=ee (hc.whole hd)
 have hle:leD (MO d vars coefs rhs) d:=by
  refine⟨h2.1,fun v x h0 hx=> ?_⟩
  by_cases hl:v.toNat<d.length
  ·have hl2:v.toNat<(MO d vars coefs rhs).length:=by rw[h2.1];exact hl
   exact h2.2 v.toNat _ _ (ak hl2) (ak hl) x hx
  ·unfold domAt at hx
   rw[List.getD_eq_getElem?_getD,List.getElem?_eq_none (by rw[h2.1];omega)]at hx
   cases hx
 refine⟨⟨⟨by rw[h2.1];exact hd.few.small,h1,fun x hx=> ?_⟩,by rw[h2.1,hd.len],hne⟩,hle⟩
 obtain⟨j,hj⟩:=List.getElem?_of_mem hx
 have hjl:=(List.getElem?_eq_some_iff.1 hj).1
 have hjd:j<d.length:=by rw[←h2.1];exact hjl
 have hsub: ∀v∈vals x,v∈vals d[j]:=fun v hv=>h2.2 j x d[j] hj (List.getElem?_eq_getElem hjd) v hv
 have:=bU (aE (h1 x hx).ok) hsub
 have:=hd.few.few _ (List.getElem_mem hjd)
 omega
theorem mq {n:Nat}{vars coefs:List Int}{rhs:Int}(hc:SumC n vars coefs rhs):Takes leD (GoodD n) (kw vars coefs rhs):=by
 refine⟨fun a a' ga he=> ?_,fun a a' b ga gb hle he=> ?_⟩
 ·unfold kw at he
  split at he
  ·cases he
  ·rename_i hne
   obtain rfl:=Option.some.inj he
   exact rW hc ga hne
 ·unfold kw at he⊢
  split at he
  ·cases he
  ·rename_i hne
   obtain rfl:=Option.some.inj he
   have hm:=AU hc ga gb hle
   obtain⟨g1,_⟩:=rW hc ga hne
   rw[if_neg]
   ·exact⟨_,rfl,hm⟩
   ·intro hem
    obtain⟨j,hj⟩:=List.getElem?_of_mem hem
    have hjl:=(List.getElem?_eq_some_iff.1 hj).1
    have hjn:j<n:=by rw[(ee (hc.whole gb)).2.1,gb.len]at hjl;exact hjl
    obtain⟨x,hx⟩:=g1.ne (v:=(j:Int)) (by simpa using hjn)
    have:=hm.2 j x (by omega) hx
    unfold domAt at this
    rw[List.getD_eq_getElem?_getD,Int.toNat_natCast,hj]at this
    cases this
def oU (c:Con)(b:Bool)(d:aa):Option aa:=if b=true then kw c.vars c.coefs c.rhs d else kw c.vars (ay c.coefs) (wr (0-c.rhs)) d
theorem mK {n:Nat}{c:Con}(h1:SumC n c.vars c.coefs c.rhs)(h2:SumC n c.vars (ay c.coefs) (wr (0-c.rhs)))(b:Bool):Takes leD (GoodD n) (oU c b):=by
 cases b with
 |true=>exact mq h1
 |false=>exact mq h2
theorem x3 {n:Nat}{c:Con}(h1:SumC n c.vars c.coefs c.rhs)(h2:SumC n c.vars (ay c.coefs) (wr (0-c.rhs)))(hop:c.op=1)(d0:aa): ∀(N:Nat) (d:aa) (R:Option aa),Come leD (GoodD n) (oU c) [true,false] d0 d→cB (eX c) N d=some R→eh leD (GoodD n) (oU c) [true,false] d0 R:=by
 intro N
 induction N using Nat.strongRecOn with
 |_ N ih=>
  intro d R hd hR
  have hw:bD c d:=h1.whole hd.fine
  have hst:=dh hw
  have t1:=mK h1 h2 true
  have t2:=mK h1 h2 false
  by_cases e1: []∈M1 c d
  ·rw[if_pos e1]at hst
   obtain rfl:=aX hR hst
   exact hd.none (c:=true) (by simp) t1 (if_pos e1)
  ·rw[if_neg e1,if_neg (by omega)]at hst
   have f1:oU c true d=some (M1 c d):=if_neg e1
   have hd1:=hd.step (be n) (c:=true) (by simp) t1 f1
   by_cases e2: []∈M2 c (M1 c d)
   ·rw[if_pos e2]at hst
    obtain rfl:=aX hR hst
    exact hd1.none (c:=false) (by simp) t2 (if_pos e2)
   ·rw[if_neg e2]at hst
    have f2:oU c false (M1 c d)=some (M2 c (M1 c d)):=if_neg e2
    have hd2:=hd1.step (be n) (c:=false) (by simp) t2 f2
    by_cases e3:M1 c d=d∧M2 c (M1 c d)=M1 c d
    ·rw[if_pos e3]at hst
     obtain rfl:=aX hR hst
     refine⟨hd2,fun b hb=> ?_⟩
     have e:M2 c (M1 c d)=d:=e3.2.trans e3.1
     rw[e]
     cases b with
     |true=>rw[f1,e3.1]
     |false=>rw[e3.1]at f2;rw[f2,←e3.1];rw[e3.1]at e;rw[e3.1,e]
    ·rw[if_neg e3]at hst
     obtain⟨m,hm,hR2⟩:=gF hR hst
     exact ih m hm _ R hd2 hR2
theorem Ay {n:Nat}{c:Con}(h1:SumC n c.vars c.coefs c.rhs)(hop:c.op=0){d:aa}(hd:GoodD n d){N:Nat}{R:Option aa}(hR:cB (eX c) N d=some R):R=oU c true d:=by
 have hst:=dh (h1.whole hd:bD c d)
 by_cases e1: []∈M1 c d
 ·rw[if_pos e1]at hst
  obtain rfl:=aX hR hst
  exact(if_pos e1).symm
 ·rw[if_neg e1,if_pos hop]at hst
  obtain rfl:=aX hR hst
  exact(if_neg e1).symm
structure StepOK (n:Nat)(us:List Int)(P:(Int→Int)→Prop)(f:aa→Option aa):Prop where
 takes:Takes leD (GoodD n) f
 stays: ∀a b,GoodD n a→GoodD n b→f a=some a→(∀u∈us,domAt a u=domAt b u)→f b=some b
 off: ∀a out,GoodD n a→f a=some out→∀v,0≤v→v∉us→domAt out v=domAt a v
 point: ∀e,GoodD n e→∀g:Int→Int,(∀u∈us,vals (domAt e u)=[g u])→(f e=some e↔P g)
 in': ∀u∈us,0≤u∧u.toNat<n
theorem SuppS.step {n:Nat}{us:List Int}{P:List Int→Bool}{f:aa→Option aa}(h:SuppS n us P f):StepOK n us (fun g=>P (us.map g)=true) f:=by
 refine⟨h.takes,fun a b ga gb ha hab=>h.stays ga gb ha hab,fun a out ga he=>(h.ok a out ga he).2.2,fun e ge g he=> ?_,h.in'⟩
 rw[h.point ge g he]
 by_cases hp:P (us.map g)=true
 ·simp[hp]
 ·simp[hp]
theorem StepOK.iff {n:Nat}{us:List Int}{P Q:(Int→Int)→Prop}{f:aa→Option aa}(h:StepOK n us P f)(hq: ∀g,P g↔Q g):StepOK n us Q f:=
 ⟨h.takes,h.stays,h.off,fun e ge g he=>(h.point e ge g he).trans (hq g),h.in'⟩
theorem StepOK.wide {n:Nat}{us vs:List Int}{P:(Int→Int)→Prop}{f:aa→Option aa}(h:StepOK n us P f)(hs: ∀u∈us,u∈vs)(hv: ∀u∈vs,0≤u∧u.toNat<n):StepOK n vs P f:=
 ⟨h.takes,fun a b ga gb ha hab=>h.stays a b ga gb ha fun u hu=>hab u (hs u hu),fun a out ga he v h0 hv=>h.off a out ga he v h0 fun hm=>hv (hs v hm),fun e ge g he=>h.point e ge g fun u hu=>he u (hs u hu),hv⟩
theorem StepOK.congr {n:Nat}{us:List Int}{P:(Int→Int)→Prop}{f f':aa→Option aa}(h:StepOK n us P f)(he: ∀d,GoodD n d→f' d=f d):StepOK n us P f':=by
 refine⟨⟨fun a a' ga e=>h.takes.less a a' ga (by rw[←he a ga];exact e),fun a a' b ga gb hle e=> ?_⟩,fun a b ga gb ha hab=> ?_,fun a out ga e=>h.off a out ga (by rw[←he a ga];exact e),fun e ge g hg=>by rw[he e ge];exact h.point e ge g hg,h.in'⟩
 ·rw[he a ga]at e;rw[he b gb];exact h.takes.mono a a' b ga gb hle e
 ·rw[he a ga]at ha;rw[he b gb];exact h.stays a b ga gb ha hab
def rk (us:List Int)(a b:aa):aa:=(List.range a.length).map fun j:Nat=>if(j:Int)∈us then domAt a (j:Int)else domAt b (j:Int)
theorem Bg {us:List Int}{a b:aa}{v:Int}(h0:0≤v)(hl:v.toNat<a.length):domAt (rk us a b) v=if v∈us then domAt a v else domAt b v:=by
 have e:((v.toNat:Nat):Int)=v:=by omega
 unfold domAt rk
 rw[List.getD_eq_getElem?_getD,List.getElem?_map,List.getElem?_range hl]
 simp only[Option.map_some,Option.getD_some,e,domAt]
theorem gI {a:aa}{v:Int}(hl:a.length≤v.toNat):domAt a v=[]:=by
 unfold domAt
 rw[List.getD_eq_getElem?_getD,List.getElem?_eq_none hl];rfl
theorem zm {n:Nat}{us:List Int}{a b:aa}(ga:GoodD n a)(gb:GoodD n b):GoodD n (rk us a b):=by
 have hl:(rk us a b).length=a.length:=by simp[rk]
 have hm: ∀x∈rk us a b,x∈a∨x∈b:=by
  intro x hx
  obtain⟨j,hj,rfl⟩:=List.mem_map.1 hx
  have hj:=List.mem_range.1 hj
  split
  ·exact .inl (af (by simpa using hj))
  ·exact .inr (af (by rw[gb.len,←ga.len];simpa using hj))
 refine⟨⟨by rw[hl];exact ga.few.small,fun x hx=> ?_,fun x hx=> ?_⟩,by rw[hl,ga.len],fun hx=> ?_⟩
 ·exact(hm x hx).elim (ga.few.fine x) (gb.few.fine x)
 ·exact(hm x hx).elim (ga.few.few x) (gb.few.few x)
 ·exact(hm _ hx).elim ga.some' gb.some'
theorem eh.step {γ:Type}{n:Nat}{us:List Int}{l:List γ}{f:γ→aa→Option aa}{F:aa→Option aa}{P:γ→(Int→Int)→Prop}(h: ∀d,GoodD n d→eh leD (GoodD n) f l d (F d))(hs: ∀c∈l,StepOK n us (P c) (f c))(hin: ∀u∈us,0≤u∧u.toNat<n):StepOK n us (fun g=> ∀c∈l,P c g) F:=by
 have O:=be n
 have loc: ∀a b,GoodD n a→GoodD n b→eY f l a→(∀u∈us,domAt a u=domAt b u)→eY f l b:=fun a b ga gb ha hab c hc=>(hs c hc).stays a b ga gb (ha c hc) hab
 refine⟨eh.takes O h,fun a b ga gb ha hab=>(eh.fix O h gb).2 (loc a b ga gb ((eh.fix O h ga).1 ha) hab),fun a out ga he v h0 hv=> ?_,fun e ge g he=> ?_,hin⟩
 ·have hE:=h a ga
  rw[he]at hE
  obtain⟨hc,hst⟩:=hE
  by_cases hl:v.toNat<n
  ·have gm:=zm (us:=us) hc.fine ga
   have hlo:out.length=a.length:=hc.less.1
   have hat: ∀u:Int,0≤u→domAt (rk us out a) u=if u∈us then domAt out u else domAt a u:=fun u hu0=>by
    by_cases hul:u.toNat<out.length
    ·exact Bg hu0 hul
    ·rw[gI (by rw[gm.len];rw[hc.fine.len]at hul;omega),gI (by omega),gI (by omega),ite_self]
   have hst2:eY f l (rk us out a):=by
    refine loc out _ hc.fine gm hst fun u hu=> ?_
    rw[hat u (hin u hu).1,if_pos hu]
   have hle:leD (rk us out a) a:=⟨by rw[gm.len,ga.len],fun u x hu0 hx=>by
    rw[hat u hu0]at hx
    split at hx
    ·exact hc.less.2 u x hu0 hx
    ·exact hx⟩
   have hk:=hc.keep _ gm hle hst2
   have f1:=(hc.fine.few.fine _ (af (by rw[hc.fine.len];exact hl))).ok
   have f2:=(ga.few.fine _ (af (by rw[ga.len];exact hl))).ok
   refine ik f1 f2 (dP (aE f1) (aE f2) fun x=>⟨hc.less.2 v x h0,fun hx=>hk.2 v x h0 ?_⟩)
   rw[hat v h0,if_neg hv]
   exact hx
  ·rw[gI (by rw[hc.fine.len];omega),gI (by rw[ga.len];omega)]
 ·rw[eh.fix O h ge]
  exact⟨fun hh c hc=>((hs c hc).point e ge g he).1 (hh c hc),fun hh c hc=>((hs c hc).point e ge g he).2 (hh c hc)⟩
def dx (vars coefs:List Int)(g:Int→Int):Int:=((vars.zip coefs).map fun p=>p.2*g p.1).sum
def xq (coefs l:List Int):Int:=((l.zip coefs).map fun p=>p.2*p.1).sum
theorem dS: ∀(vars coefs:List Int) (g:Int→Int),xq coefs (vars.map g)=dx vars coefs g
 | [],_,_=>by simp[xq,dx]
 |_::_,[],_=>by simp[xq,dx]
 |v::vars,k::coefs,g=>by
  have:=dS vars coefs g
  simp only[xq,dx,List.map_cons,List.zip_cons_cons,List.sum_cons]at this⊢
  rw[this]
theorem qW {α:Type}{f f':α→Int}{q:α}: ∀{l:List α},l.Nodup→q∈l→(∀p∈l,p≠q→f' p=f p)→(l.map f').sum=(l.map f).sum-f q+f' q
 |p::l,hn,hq,h=>by
  have h1:=List.nodup_cons.1 hn
  simp only[List.map_cons,List.sum_cons]
  rcases List.mem_cons.1 hq with rfl|hq
  ·have:l.map f'=l.map f:=List.map_congr_left fun r hr=>h r (.tail _ hr) fun e=>h1.1 (e▸hr)
   rw[this];omega
  ·have:=qW (f:=f) (f':=f') h1.2 hq fun r hr=>h r (.tail _ hr)
   have:=h p (.head _) fun e=>h1.1 (e▸hq)
   omega
theorem i8: ∀{vars coefs:List Int},vars.Nodup→(vars.zip coefs).Nodup
 | [],_,_=>by simp
 |_::_,[],_=>by simp
 |v::vars,k::coefs,h=>by
  have h1:=List.nodup_cons.1 h
  rw[List.zip_cons_cons]
  exact List.nodup_cons.2 ⟨fun hm=>h1.1 (List.of_mem_zip hm).1,i8 h1.2⟩
theorem ko: ∀{vars coefs:List Int},vars.Nodup→∀{p q:Int×Int},p∈vars.zip coefs→q∈vars.zip coefs→p.1=q.1→p=q
 | [],_,_,p,q,h,_,_=>by simp at h
 |_::_,[],_,p,q,h,_,_=>by simp at h
 |v::vars,k::coefs,hn,p,q,hp,hq,e=>by
  have h1:=List.nodup_cons.1 hn
  rw[List.zip_cons_cons]at hp hq
  rcases List.mem_cons.1 hp with rfl|hp
  ·rcases List.mem_cons.1 hq with rfl|hq
   ·rfl
   ·exact absurd ((show v=q.1 from e)▸(List.of_mem_zip hq).1) h1.1
  ·rcases List.mem_cons.1 hq with rfl|hq
   ·exact absurd ((show p.1=v from e)▸(List.of_mem_zip hp).1) h1.1
   ·exact ko h1.2 hp hq e
theorem Al {vars coefs:List Int}(hn:vars.Nodup)(h:Int×Int→Int): ∃g:Int→Int,∀p∈vars.zip coefs,g p.1=h p:=by
 refine⟨fun u=>if hu: ∃p∈vars.zip coefs,p.1=u then h hu.choose else 0,fun p hp=> ?_⟩
 have hu: ∃q∈vars.zip coefs,q.1=p.1:=⟨p,hp,rfl⟩
 simp only[dif_pos hu]
 rw[ko hn hu.choose_spec.1 hp hu.choose_spec.2]
theorem Bz {n:Nat}{vars coefs:List Int}{rhs:Int}(hc:SumC n vars coefs rhs)(hne:vars≠[]):SuppS n vars (fun l=>decide (xq coefs l≤rhs)) (kw vars coefs rhs):=by
 have low: ∀d,GoodD n d→∀g:Int→Int,(∀u∈vars,g u∈vals (domAt d u))→∀p∈vars.zip coefs,p.2*g p.1-ce (domAt d p.1) p.2≤dx vars coefs g-bf (ab d vars coefs):=fun d gd g hg p hp=>by
  rw[eP]
  refine(eC (f:=fun p:Int×Int=>ce (domAt d p.1) p.2) (g:=fun p=>p.2*g p.1) (l:=vars.zip coefs) fun q hq=> ?_).2 p hp
  have hv:=(List.of_mem_zip hq).1
  exact(ro (gd.few.fine _ (af (by rw[gd.len];exact(hc.vin _ hv).2))).ok (hg _ hv)).1
 have put: ∀d,GoodD n d→∀q∈vars.zip coefs,∀x∈vals (domAt d q.1),∃g:Int→Int,(∀u∈vars,g u∈vals (domAt d u))∧g q.1=x∧dx vars coefs g=bf (ab d vars coefs)-ce (domAt d q.1) q.2+q.2*x:=fun d gd q hq x hx=>by
  have hex: ∀p:Int×Int,∃y,p∈vars.zip coefs→y∈vals (domAt d p.1)∧ce (domAt d p.1) p.2=p.2*y:=fun p=>by
   by_cases hp:p∈vars.zip coefs
   ·have hm:domAt d p.1∈d:=af (by rw[gd.len];exact(hc.vin _ (List.of_mem_zip hp).1).2)
    obtain⟨y,h1,h2⟩:=wN (gd.few.fine _ hm).ok (fun e=>gd.some' (e▸hm)) p.2
    exact⟨y,fun _=>⟨h1,h2⟩⟩
   ·exact⟨0,fun h=>absurd h hp⟩
  obtain⟨g,hg⟩:=Al (coefs:=coefs) hc.nod fun p=>if p=q then x else(hex p).choose
  refine⟨g,fun u hu=> ?_,by rw[hg q hq,if_pos rfl],?_⟩
  ·obtain⟨p,hp,rfl⟩:=kn hc.vl hu
   rw[hg p hp]
   split
   ·rename_i e;exact e▸hx
   ·exact((hex p).choose_spec hp).1
  ·unfold dx
   rw[qW (f:=fun p=>ce (domAt d p.1) p.2) (q:=q) (i8 hc.nod) hq fun p hp hpq=> ?_,←eP,hg q hq,if_pos rfl]
   show p.2*g p.1=ce (domAt d p.1) p.2
   rw[hg p hp,if_neg hpq]
   exact((hex p).choose_spec hp).2.symm
 refine⟨fun d out gd he=> ?_,fun d gd he g hg=> ?_,hc.vin,hne⟩
 ·unfold kw at he
  split at he
  ·cases he
  ·rename_i hno
   obtain rfl:=Option.some.inj he
   have hw:=hc.whole gd
   refine⟨(rW hc gd hno).1,fun v hv x=> ?_,fun v h0 hv=>rV hw h0 hv⟩
   obtain⟨q,hq,rfl⟩:=kn hc.vl hv
   rw[rX hw hq,(fO hw hq _).2 x]
   constructor
   ·rintro⟨h1,h2⟩
    obtain⟨g,h3,h4,h5⟩:=put d gd q hq x h1
    refine⟨g,h3,decide_eq_true ?_,h4⟩
    rw[dS,h5];omega
   ·rintro⟨g,h3,h4,rfl⟩
    have h4:=of_decide_eq_true h4
    rw[dS]at h4
    have:=low d gd g h3 q hq
    exact⟨h3 _ hv,by omega⟩
 ·refine decide_eq_false fun hle=> ?_
  rw[dS]at hle
  unfold kw at he
  split at he
  ·rename_i hem
   obtain⟨j,hj⟩:=List.getElem?_of_mem hem
   have hw:=hc.whole gd
   have hjn:j<n:=by
    have:=(List.getElem?_eq_some_iff.1 hj).1
    rwa[(ee hw).2.1,gd.len]at this
   have e:domAt (MO d vars coefs rhs) (j:Int)=[]:=by
    unfold domAt
    rw[List.getD_eq_getElem?_getD,Int.toNat_natCast,hj];rfl
   by_cases hv:(j:Int)∈vars
   ·obtain⟨q,hq,hqj⟩:=kn hc.vl hv
    have h1:=low d gd g hg q hq
    have h2:=((fO hw hq (bf (ab d vars coefs))).2 (g q.1)).2 ⟨hg _ (List.of_mem_zip hq).1,by omega⟩
    rw[←rX hw hq,hqj,e]at h2
    cases h2
   ·rw[rV hw (by omega) hv]at e
    exact gd.some' (e▸af (by rw[gd.len];simpa using hjn))
  ·cases he
theorem ny {n:Nat}{vars coefs:List Int}{rhs:Int}(hc:SumC n vars coefs rhs)(hne:vars≠[]):StepOK n vars (fun g=>dx vars coefs g≤rhs) (kw vars coefs rhs):=
 (Bz hc hne).step.iff fun g=>by rw[decide_eq_true_eq,dS]
theorem iN: ∀(ts:List (List (Int×Int)×Int)) (i m:Nat) (s:Int) (a:Nat),m≤(ar i ts m s a).1
 | [],i,m,s,a=>Nat.le_refl _
 |t::ts,i,m,s,a=>by
  rw[ar]
  split
  ·have:=iN ts (i+1) (m+1) s i
   omega
  ·exact iN ts _ _ _ _
theorem jA: ∀(ts:List (List (Int×Int)×Int)) (i m:Nat) (s:Int) (a:Nat),(ar i ts m s a).1=m→(ar i ts m s a).2.2=a
 | [],i,m,s,a,_=>rfl
 |t::ts,i,m,s,a,h=>by
  rw[ar]at h⊢
  split at h
  ·have:=iN ts (i+1) (m+1) s i
   omega
  ·rename_i hc
   rw[if_neg hc]
   exact jA ts _ _ _ _ h
theorem kD: ∀(ts:List (List (Int×Int)×Int)) (i m:Nat) (s:Int) (a:Nat),
  ((ar i ts m s a).1=m+1→∃(j:Nat) (t:List (Int×Int)×Int),(ar i ts m s a).2.2=i+j∧ts[j]? =some t∧1<(vals t.1).length)∧
  (m+1<(ar i ts m s a).1→∃(j k:Nat) (t u:List (Int×Int)×Int),j≠k∧ts[j]? =some t∧ts[k]? =some u∧1<(vals t.1).length∧1<(vals u.1).length)
 | [],i,m,s,a=>by simp[ar]
 |t::ts,i,m,s,a=>by
  rw[ar]
  by_cases hc:1<(vals t.1).length
  ·rw[if_pos hc]
   refine⟨fun e=> ?_,fun e=> ?_⟩
   ·have hk:=jA ts (i+1) (m+1) s i e
    exact⟨0,t,by rw[hk];rfl,rfl,hc⟩
   ·have hex: ∃(k:Nat) (u:List (Int×Int)×Int),ts[k]? =some u∧1<(vals u.1).length:=by
     refine Classical.byContradiction fun hn=> ?_
     have:=jz ts (i+1) (m+1) i s fun u hu h=>hn ((List.mem_iff_getElem?.1 hu).elim fun k hk=>⟨k,u,hk,h⟩)
     omega
    obtain⟨k,u,h5,h6⟩:=hex
    exact⟨0,k+1,t,u,by omega,rfl,by simpa using h5,hc,h6⟩
  ·rw[if_neg hc]
   obtain⟨h3,h4⟩:=kD ts (i+1) m (wr (s+wr (t.2*hd0 (vals t.1)))) a
   refine⟨fun e=> ?_,fun e=> ?_⟩
   ·obtain⟨j,u,h5,h6,h7⟩:=h3 e
    exact⟨j+1,u,by omega,by simpa using h6,h7⟩
   ·obtain⟨j,k,u,w,h5,h6,h7,h8,h9⟩:=h4 e
    exact⟨j+1,k+1,u,w,by omega,by simpa using h6,by simpa using h7,h8,h9⟩
theorem z8 {n:Nat}{d:aa}(hd:GoodD n d){us:List Int}(hin: ∀u∈us,0≤u∧u.toNat<n){g:Int→Int}(hg: ∀u∈us,g u∈vals (domAt d u)): ∃a,Supp a d∧∀u∈us,atR a u=g u:=by
 have hex: ∀j:Nat,∃x,j<n→x∈vals (domAt d j)∧((j:Int)∈us→x=g j):=fun j=>by
  by_cases hj:(j:Int)∈us
  ·exact⟨g j,fun _=>⟨hg _ hj,fun _=>rfl⟩⟩
  ·by_cases hl:j<n
   ·obtain⟨x,hx⟩:=hd.ne (v:=(j:Int)) (by simpa using hl)
    exact⟨x,fun _=>⟨hx,fun h=>absurd h hj⟩⟩
   ·exact⟨0,fun h=>absurd h hl⟩
 refine⟨(List.range n).map fun j=>(hex j).choose,⟨by simp[hd.len],fun i x v hx hv=> ?_⟩,fun u hu=> ?_⟩
 ·have hi:=(List.getElem?_eq_some_iff.1 hx).1
  have hin':i<n:=by rw[←hd.len];exact hi
  rw[List.getElem?_map,List.getElem?_range hin']at hv
  obtain rfl:=Option.some.inj hv
  have h1:=((hex i).choose_spec hin').1
  have e:domAt d (i:Int)=x:=by
   rw[List.getElem?_eq_getElem hi]at hx
   rw[oS hi];exact Option.some.inj hx
  exact e▸h1
 ·obtain⟨h0,h1⟩:=hin u hu
  have e:((u.toNat:Nat):Int)=u:=by omega
  unfold atR
  rw[if_neg (by omega),List.getD_eq_getElem?_getD,List.getElem?_map,List.getElem?_range h1]
  exact(((hex u.toNat).choose_spec h1).2 (by rw[e];exact hu)).trans (congrArg g e)
theorem u6 {vars coefs a:List Int}{g:Int→Int}(h: ∀u∈vars,atR a u=g u):bR vars coefs a=dx vars coefs g:=by
 unfold bR dx
 congr 1
 exact List.map_congr_left fun p hp=>by rw[h _ (List.of_mem_zip hp).1]
structure LinC (n:Nat)(c:Con):Prop where
 sum:SumC n c.vars c.coefs c.rhs
 pos:0<c.vars.length
 op:0≤c.op∧c.op≤2
theorem LinC.ok {n:Nat}{c:Con}(h:LinC n c){d:aa}(hd:GoodD n d):SumOk d c:=⟨(h.sum.whole hd).fine,h.sum.nod,h.pos,h.op,h.sum.big⟩
theorem LinC.ne {n:Nat}{c:Con}(h:LinC n c):c.vars≠[]:=fun e=>by have:=h.pos;rw[e]at this;simp at this
theorem GoodD.of_sub {n:Nat}{a b:aa}(hb:GoodD n b)(h:Sub a b)(hf: ∀x∈a,Fine x)(hne: []∉a):GoodD n a∧leD a b:=by
 have hle:leD a b:=by
  refine⟨h.1,fun v x h0 hx=> ?_⟩
  by_cases hl:v.toNat<a.length
  ·exact h.2 v.toNat _ _ (ak hl) (ak (by rw[←h.1];exact hl)) x hx
  ·rw[gI (by omega)]at hx;cases hx
 refine⟨⟨⟨by rw[h.1];exact hb.few.small,hf,fun x hx=> ?_⟩,by rw[h.1,hb.len],hne⟩,hle⟩
 obtain⟨j,hj⟩:=List.getElem?_of_mem hx
 have hjl:=(List.getElem?_eq_some_iff.1 hj).1
 have hjd:j<b.length:=by rw[←h.1];exact hjl
 have:=bU (aE (hf x hx).ok) fun v hv=>h.2 j x _ hj (List.getElem?_eq_getElem hjd) v hv
 have:=hb.few.few _ (List.getElem_mem hjd)
 omega
def neO (c:Con)(d:aa):Option aa:=if []∈bP d c then none else some (bP d c)
theorem uY {d:aa}{c:Con}(hp:0<c.vars.length)(hl:c.vars.length=c.coefs.length)(h0: ∀v∈c.vars,0≤v){v:Int}(hv0:0≤v)(hv:v∉c.vars):domAt (bP d c) v=domAt d v:=by
 have hin:=cO (ab d c.vars c.coefs) 0 0 0 0 c.vars.length hp (by simp[ab];omega) (Nat.le_refl _)
 have key: ∀(k:Nat) (y:List (Int×Int)),k<c.vars.length→domAt (d.set (varAt c k).toNat y) v=domAt d v:=fun k y hk=>by
  have hm:=aJ (c:=c) hk
  have h1:=h0 _ hm
  have hne:(varAt c k).toNat≠v.toNat:=fun e=>hv ((show varAt c k=v by omega)▸hm)
  unfold domAt
  rw[List.getD_eq_getElem?_getD,List.getD_eq_getElem?_getD,List.getElem?_set_ne hne]
 unfold bP
 simp only
 split
 ·rfl
 ·split
  ·split
   ·exact key 0 _ hp
   ·rfl
  ·exact key _ _ hin.1
theorem Bx {n:Nat}{c:Con}(h:LinC n c)(hop:c.op=2):SuppS n c.vars (fun l=>decide (xq c.coefs l≠c.rhs)) (neO c):=by
 have hc:=h.sum
 have hans: ∀d,GoodD n d→LinAns d c (neO c d) 0:=fun d gd=>by
  have hw:bD c d:=hc.whole gd
  unfold LinAns
  rw[if_neg gd.some',if_pos hop,fD hw h.pos]
  rfl
 have keep: ∀d,GoodD n d→∀g:Int→Int,(∀u∈c.vars,g u∈vals (domAt d u))→dx c.vars c.coefs g≠c.rhs→[]∉bP d c∧∀u∈c.vars,g u∈vals (domAt (bP d c) u):=fun d gd g hg hne=>by
  obtain⟨a,ha,hag⟩:=z8 gd hc.vin hg
  have hw:bD c d:=hc.whole gd
  have hs:=mw hw h.pos ha (by rw[u6 hag];exact hne)
  refine⟨hs.ne,fun u hu=> ?_⟩
  have hv:=hc.vin u hu
  have:=hs.at hv.1 (by rw[(iM hw h.pos).1,gd.len];exact hv.2)
  rwa[hag u hu]at this
 refine⟨fun d out gd he=> ?_,fun d gd he g hg=> ?_,hc.vin,h.ne⟩
 ·have hA:=hans d gd
  rw[he]at hA
  have hsub:=wQ (h.ok gd) hA
  have hw:bD c d:=hc.whole gd
  unfold neO at he
  split at he
  ·cases he
  ·rename_i hno
   obtain rfl:=Option.some.inj he
   obtain⟨go,hle⟩:=GoodD.of_sub gd hsub (iM hw h.pos).2 hno
   refine⟨go,fun v hv x=>⟨fun hx=> ?_,?_⟩,fun v h0 hv=>uY h.pos hc.vl (fun v hv=>(hc.vin v hv).1) h0 hv⟩
   ·refine Classical.byContradiction fun hn=> ?_
    have hx0:=hle.2 v x (hc.vin v hv).1 hx
    have hall: ∀g:Int→Int,(∀u∈c.vars,g u∈vals (domAt d u))→g v=x→dx c.vars c.coefs g=c.rhs:=fun g h1 h2=>by
     refine Classical.byContradiction fun h3=>hn ⟨g,h1,decide_eq_true ?_,h2⟩
     rw[dS];exact h3
    obtain⟨q,hq,rfl⟩:=kn hc.vl hv
    have hex: ∀u:Int,∃y,u∈c.vars→y∈vals (domAt d u):=fun u=>by
     by_cases hu:u∈c.vars
     ·obtain⟨y,hy⟩:=gd.ne (hc.vin u hu).2
      exact⟨y,fun _=>hy⟩
     ·exact⟨0,fun h=>absurd h hu⟩
    let g0:Int→Int:=fun u=>if u=q.1 then x else(hex u).choose
    have hg0: ∀u∈c.vars,g0 u∈vals (domAt d u):=fun u hu=>by
     simp only[g0]
     split
     ·rename_i e;rw[e];exact hx0
     ·exact(hex u).choose_spec hu
    have hg0x:g0 q.1=x:=if_pos rfl
    have hs0:=hall g0 hg0 hg0x
    have single: ∀p∈c.vars.zip c.coefs,p.1≠q.1→¬1<(vals (domAt d p.1)).length:=fun p hp hpq=>by
     have hpv:=(List.of_mem_zip hp).1
     have heq: ∀y∈vals (domAt d p.1),y=g0 p.1:=fun y hy=>by
      have h1:=hall (fun u=>if u=p.1 then y else g0 u) (fun u hu=>by
       by_cases e:u=p.1
       ·rw[if_pos e,e];exact hy
       ·rw[if_neg e];exact hg0 u hu) ((if_neg (Ne.symm hpq)).trans hg0x)
      have h2:dx c.vars c.coefs (fun u=>if u=p.1 then y else g0 u)=dx c.vars c.coefs g0-p.2*g0 p.1+p.2*y:=by
       unfold dx
       rw[qW (f:=fun r:Int×Int=>r.2*g0 r.1) (f':=fun r=>r.2*(if r.1=p.1 then y else g0 r.1)) (i8 hc.nod) hp fun r hr hrp=> ?_,if_pos rfl]
       rw[if_neg fun e=>hrp (ko hc.nod hr hp e)]
      have hk:=(hc.ck _ (List.of_mem_zip hp).2).1
      have h3:p.2*y=p.2*g0 p.1:=by omega
      exact Int.eq_of_mul_eq_mul_left hk h3
     have hu:=aE (gd.few.fine _ (af (v:=p.1) (by rw[gd.len];exact(hc.vin _ hpv).2))).ok
     intro hl
     cases hv2:vals (domAt d p.1)with
     |nil=>rw[hv2]at hl;simp at hl
     |cons y l=>
      cases l with
      |nil=>rw[hv2]at hl;simp at hl
      |cons z l=>
       rw[hv2]at hu heq
       have h4:=(List.pairwise_cons.1 hu).1 z (.head _)
       have h5:=heq y (.head _)
       have h6:=heq z (.tail _ (.head _))
       omega
    have hzl:(c.vars.zip c.coefs).length=c.vars.length:=by have:=hc.vl;simp;omega
    have hterm: ∀(j:Nat) t,(ab d c.vars c.coefs)[j]? =some t→∃p,(c.vars.zip c.coefs)[j]? =some p∧t=(domAt d p.1,p.2):=fun j t ht=>by
     unfold ab at ht
     rw[List.getElem?_map]at ht
     cases hp:(c.vars.zip c.coefs)[j]? with
     |none=>rw[hp]at ht;cases ht
     |some p=>rw[hp]at ht;exact⟨p,rfl,(Option.some.inj ht).symm⟩
    have hmulti: ∀(j:Nat) t,(ab d c.vars c.coefs)[j]? =some t→1<(vals t.1).length→(c.vars.zip c.coefs)[j]? =some q:=fun j t ht hl=>by
     obtain⟨p,hp,rfl⟩:=hterm j t ht
     have hpm:=List.mem_of_getElem? hp
     by_cases e:p.1=q.1
     ·rw[hp,ko hc.nod hpm hq e]
     ·exact absurd hl (single p hpm e)
    have hone: ∀(j k:Nat),(c.vars.zip c.coefs)[j]? =some q→(c.vars.zip c.coefs)[k]? =some q→j=k:=fun j k h1 h2=>by
     have hj:=(List.getElem?_eq_some_iff.1 h1).1
     have hk:=(List.getElem?_eq_some_iff.1 h2).1
     have e1:(c.vars.zip c.coefs)[j]=(c.vars.zip c.coefs)[k]:=by
      rw[List.getElem?_eq_getElem hj]at h1
      rw[List.getElem?_eq_getElem hk]at h2
      exact(Option.some.inj h1).trans (Option.some.inj h2).symm
     exact(List.getElem_inj (i8 hc.nod)).1 e1
    obtain⟨t1,t2⟩:=kD (ab d c.vars c.coefs) 0 0 0 0
    let ts:List ((List (Int×Int)×Int)×Int):=(c.vars.zip c.coefs).map fun p=>((domAt d p.1,p.2),g0 p.1)
    have et:ts.map (·.1)=ab d c.vars c.coefs:=by simp only[ts,List.map_map];rfl
    have eS:(ts.map fun t=>t.1.2*t.2).sum=dx c.vars c.coefs g0:=by simp only[ts,List.map_map];rfl
    have hvt:wt ts:=by
     intro t ht
     obtain⟨p,hp,rfl⟩:=List.mem_map.1 ht
     exact hg0 _ (List.of_mem_zip hp).1
    have hww:=cw (d:=d) hc.vl
    have hb:=hc.big
    have har:=bC c.rhs
    have key:=e7 (B:=ai c.coefs) (by omega) ts 0 0 0 0 (by rw[et];exact de hw.fine) hvt (by rw[et];omega) (by rw[et];omega)
    rw[et,eS,hs0]at key
    obtain⟨k1,_,k3⟩:=key
    have hin:=cO (ab d c.vars c.coefs) 0 0 0 0 c.vars.length h.pos (by simp[ab];have:=hc.vl;omega) (Nat.le_refl _)
    unfold bP at hno hx
    simp only at hno hx
    by_cases hm2:1<(ar 0 (ab d c.vars c.coefs) 0 0 0).1
    ·obtain⟨j,k,t,u,h1,h2,h3,h4,h5⟩:=t2 (by omega)
     exact h1 (hone j k (hmulti j t h2 h4) (hmulti k u h3 h5))
    ·rw[if_neg hm2]at hno hx
     by_cases hm0:(ar 0 (ab d c.vars c.coefs) 0 0 0).1=0
     ·rw[if_pos hm0,if_pos (by have:=(k1 hm0).1;omega)]at hno
      refine hno ((dF ?_ gd.some').2 rfl)
      rw[gd.len]
      exact(hc.vin _ (aJ (c:=c) h.pos)).2
     ·rw[if_neg hm0]at hx
      obtain⟨j,t,j1,j2,j3⟩:=t1 (by omega)
      obtain⟨j',t',i1,i2,i3⟩:=k3 (by omega)
      have ejj:j'=j:=by omega
      subst ejj
      have hjq:=hmulti _ t j2 j3
      have hj:j'<c.vars.length:=by have:=(List.getElem?_eq_some_iff.1 hjq).1;omega
      have ev:varAt c j'=q.1∧coefAt c j'=q.2:=by
       have h1:=(List.getElem?_eq_some_iff.1 hjq).2
       have hjc:j'<c.coefs.length:=by have:=hc.vl;omega
       rw[List.getElem_zip]at h1
       rw[←h1]
       exact⟨aM hj,aM hjc⟩
      have et':t'=((domAt d q.1,q.2),x):=by
       simp only[ts,List.getElem?_map,hjq,Option.map_some,Option.some.injEq]at i2
       rw[←i2,hg0x]
      rw[et']at i3
      simp only[Int.zero_add]at i3
      rw[j1,Nat.zero_add,ev.1,ev.2]at hx
      have hqv:=hc.vin _ (List.of_mem_zip hq).1
      have hxd:=gd.few.fine _ (af (v:=q.1) (by rw[gd.len];exact hqv.2))
      have e:domAt (d.set q.1.toNat (cW ((vals (domAt d q.1)).filter fun v=>decide (wr ((ar 0 (ab d c.vars c.coefs) 0 0 0).2.1+wr (q.2*v))≠c.rhs)))) q.1=cW ((vals (domAt d q.1)).filter fun v=>decide (wr ((ar 0 (ab d c.vars c.coefs) 0 0 0).2.1+wr (q.2*v))≠c.rhs)):=by
       unfold domAt
       rw[List.getD_eq_getElem?_getD,List.getElem?_set_self (by rw[gd.len];exact hqv.2)];rfl
      rw[e,bG (fA (aE hxd.ok)),List.mem_filter,decide_eq_true_eq]at hx
      have b:=hxd.val _ hx0
      have hk:=hc.ck _ (List.of_mem_zip hq).2
      have m:=dW q.2 x b.1 b.2
      have hk2:=hk.2
      have hrb: -c.rhs≤aF c.rhs∧c.rhs≤aF c.rhs:=by unfold aF;omega
      have hwk:=aS c.coefs
      refine hx.2 ?_
      simp only[wr]
      rw[ac (n:=q.2*x) (by omega) (by omega),ac (by omega) (by omega)]
      omega
   ·rintro⟨g,h3,h4,rfl⟩
    have h4:=of_decide_eq_true h4
    rw[dS]at h4
    exact(keep d gd g h3 h4).2 v hv
 ·refine decide_eq_false fun hne=> ?_
  rw[dS]at hne
  have:=(keep d gd g hg hne).1
  unfold neO at he
  rw[if_neg this]at he
  cases he
open Classical in
noncomputable def gD (c:Con)(d:aa):Option aa:=if h: ∃R:Option aa,∃N,LinAns d c R N then h.choose else none
theorem gC {d:aa}{c:Con}(h:SumOk d c): ∃N,LinAns d c (gD c d) N:=by
 obtain⟨R,N,N',h1,h2,h3⟩:=wS h
 have hex: ∃R:Option aa,∃N,LinAns d c R N:=⟨R,N,h1⟩
 unfold gD
 rw[dif_pos hex]
 exact hex.choose_spec
theorem mn {vars coefs:List Int}(g:Int→Int)(h: ∀k∈coefs,CoefOk k):dx vars (ay coefs) g= -dx vars coefs g:=by
 unfold dx ay
 induction vars generalizing coefs with
 |nil=>simp
 |cons v vars ih=>
  cases coefs with
  |nil=>simp
  |cons k coefs=>
   have e:=(cY (h k (.head _))).1
   have:=ih fun k hk=>h k (.tail _ hk)
   simp only[List.map_cons,List.zip_cons_cons,List.sum_cons]at this⊢
   rw[this,e,Int.neg_mul]
   omega
theorem SumC.back {n:Nat}{vars coefs:List Int}{rhs:Int}(h:SumC n vars coefs rhs):SumC n vars (ay coefs) (wr (0-rhs)):=by
 have hb:=h.big
 have hp:=aS coefs
 refine⟨by rw[h.vl];simp[ay],h.vin,fun k hk=> ?_,h.nod,?_,h.few⟩
 ·obtain⟨k0,hk0,rfl⟩:=List.mem_map.1 hk
  exact(cY (h.ck _ hk0)).2
 ·rw[dc _ h.ck,(nh (by omega)).2]
  exact hb
theorem k5 {n:Nat}{c:Con}(h:LinC n c):StepOK n c.vars (fun g=>dK c.op (dx c.vars c.coefs g) c.rhs=true) (gD c):=by
 have hc:=h.sum
 have hopc:c.op=0∨c.op=1∨c.op=2:=by have:=h.op;omega
 rcases hopc with h0|h0|h0
 ·refine((ny hc h.ne).congr fun d gd=> ?_).iff fun g=> ?_
  ·obtain⟨N,hN⟩:=gC (h.ok gd)
   unfold LinAns at hN
   rw[if_neg gd.some',if_neg (by omega)]at hN
   rw[Ay hc h0 gd hN]
   rfl
  ·unfold dK
   rw[if_pos h0,decide_eq_true_eq]
 ·have hE: ∀d,GoodD n d→eh leD (GoodD n) (oU c) [true,false] d (gD c d):=fun d gd=>by
   obtain⟨N,hN⟩:=gC (h.ok gd)
   unfold LinAns at hN
   rw[if_neg gd.some',if_neg (by omega)]at hN
   exact x3 hc hc.back h0 d N d _ (Come.refl (be n) gd) hN
  refine(eh.step hE (P:=fun b g=>if b=true then dx c.vars c.coefs g≤c.rhs else dx c.vars (ay c.coefs) g≤wr (0-c.rhs)) (us:=c.vars) (fun b _=> ?_) hc.vin).iff fun g=> ?_
  ·cases b
   ·exact(ny hc.back h.ne).iff fun g=>by simp
   ·exact(ny hc h.ne).iff fun g=>by simp
  ·have hb:=hc.big
   have hp:=aS c.coefs
   have e1:=(nh (rhs:=c.rhs) (by omega)).1
   have e2:=mn (vars:=c.vars) g hc.ck
   unfold dK
   rw[if_neg (by omega),h0]
   simp only[List.mem_cons,List.not_mem_nil,or_false,forall_eq_or_imp,forall_eq,if_true,Bool.false_eq_true,if_false,e1,e2]
   simp
   omega
 ·refine((Bx h h0).step.congr fun d gd=> ?_).iff fun g=> ?_
  ·obtain⟨N,hN⟩:=gC (h.ok gd)
   have hw:bD c d:=hc.whole gd
   unfold LinAns at hN
   rw[if_neg gd.some',if_pos h0,fD hw h.pos]at hN
   exact hN
  ·unfold dK
   rw[if_neg (by omega),h0,dS]
   simp
theorem zG {c:Con}(g:Int→Int)(hck: ∀k∈c.coefs,CoefOk k)(hop:0≤c.op∧c.op≤2)(hr:aF c.rhs≤4611686018427387904):dK (bL c).op (dx (bL c).vars (bL c).coefs g) (bL c).rhs= !dK c.op (dx c.vars c.coefs g) c.rhs:=by
 have har:aF c.rhs=max c.rhs (-c.rhs):=rfl
 have hopc:c.op=0∨c.op=1∨c.op=2:=by omega
 rcases hopc with h0|h0|h0
 ·have en:bL c= { c with coefs:=ay c.coefs,rhs:=wr (wr (0-c.rhs)-1) }:=by unfold bL;rw[if_pos h0]
  have e1:wr (0-c.rhs)= -c.rhs:=by rw[wr,ac (by omega) (by omega)];omega
  have e2:wr (wr (0-c.rhs)-1)= -c.rhs-1:=by rw[e1,wr,ac (by omega) (by omega)]
  rw[en]
  simp only[dK,h0,if_true,e2,mn g hck]
  by_cases hh:dx c.vars c.coefs g≤c.rhs
  ·rw[decide_eq_true hh,decide_eq_false (by omega)];rfl
  ·rw[decide_eq_false hh,decide_eq_true (by omega)];rfl
 ·have en:bL c= { c with op:=2 }:=by unfold bL;rw[if_neg (by omega),if_pos h0]
  rw[en]
  simp[dK,h0]
 ·have en:bL c= { c with op:=1 }:=by unfold bL;rw[if_neg (by omega),if_neg (by omega),if_pos h0]
  rw[en]
  simp[dK,h0]
theorem mj {a b:aa}{vars coefs:List Int}(h: ∀u∈vars,domAt a u=domAt b u):ab a vars coefs=ab b vars coefs:=
 List.map_congr_left fun p hp=>by rw[h _ (List.of_mem_zip hp).1]
theorem yi {n:Nat}{a b:aa}{vars coefs:List Int}{rhs:Int}(hc:SumC n vars coefs rhs)(ga:GoodD n a)(gb:GoodD n b)(h:leD a b):bf (ab b vars coefs)≤bf (ab a vars coefs)∧fK (ab a vars coefs)≤fK (ab b vars coefs):=by
 have low: ∀ks:List Int,bf (ab b vars ks)≤bf (ab a vars ks):=fun ks=>by
  rw[eP,eP]
  refine(eC fun p hp=> ?_).1
  have hv:=hc.vin _ (List.of_mem_zip hp).1
  have hm:domAt a p.1∈a:=af (by rw[ga.len];exact hv.2)
  exact qb (ga.few.fine _ hm).ok (gb.few.fine _ (af (by rw[gb.len];exact hv.2))).ok (fun e=>ga.some' (e▸hm)) (fun x hx=>h.2 p.1 x hv.1 hx) p.2
 have h2:=low (ay coefs)
 rw[oh hc.ck,oh hc.ck]at h2
 exact⟨low coefs,by omega⟩
theorem wC {n:Nat}{a b:aa}{c:Con}(hc:LinC n c)(ga:GoodD n a)(gb:GoodD n b)(h:leD a b)(hs:soW (endsW b c.vars c.coefs) c=true):soW (endsW a c.vars c.coefs) c=true:=by
 obtain⟨h1,h2⟩:=yi hc.sum ga gb h
 have hle:bf (ab a c.vars c.coefs)≤fK (ab a c.vars c.coefs):=(kr (de (hc.sum.whole ga).fine) (eN (hc.sum.whole ga))).2.1
 rw[oO (hc.sum.whole gb)]at hs
 rw[oO (hc.sum.whole ga)]
 unfold soW at hs⊢
 simp only[Bool.true_eq_false,if_false]at hs⊢
 split
 ·rename_i h0
  rw[if_pos h0]at hs
  exact decide_eq_true (by have:=of_decide_eq_true hs;omega)
 ·rename_i h0
  rw[if_neg h0]at hs
  split
  ·rename_i h3
   rw[if_pos h3]at hs
   simp only[Bool.and_eq_true,decide_eq_true_eq]at hs⊢
   omega
  ·rename_i h3
   rw[if_neg h3]at hs
   simp only[Bool.or_eq_true,decide_eq_true_eq]at hs⊢
   omega
theorem qj {n:Nat}{c:Con}(hc:LinC n c){d:aa}(gd:GoodD n d)(hs:soW (endsW d c.vars c.coefs) c=true):gD c d=some d:=by
 obtain⟨R,N,N',h1,h2,h3⟩:=wS (hc.ok gd)
 obtain⟨M,hM⟩:=gC (hc.ok gd)
 have e:=wR hM h1
 rw[e]
 exact zw (hc.ok gd) gd.some' h1 h3 hs
noncomputable def nR (c:Con)(d:aa):Option aa:=if truthR (domAt d c.b)=true then sK d c (gD (bJ c) d) (gD (bL (bJ c)) d)else some d
theorem jS {x:List (Int×Int)}(h:ax x):truthR x=true↔∀v∈vals x,0≤v∧v≤1:=by
 constructor
 ·intro ht v hv
  obtain⟨r,hr,h1,h2⟩:=aQ.1 hv
  have:=List.all_eq_true.1 ht r hr
  simp at this
  omega
 ·intro hv
  refine List.all_eq_true.2 fun r hr=> ?_
  have h0:=h.1 r hr
  have h1:=hv r.1 (aQ.2 ⟨r,hr,Int.le_refl _,h0⟩)
  have h2:=hv r.2 (aQ.2 ⟨r,hr,h0,Int.le_refl _⟩)
  simp
  omega
theorem GoodD.at_ {n:Nat}{d:aa}(h:GoodD n d){v:Int}(hv:v.toNat<n):ax (domAt d v)∧domAt d v≠[]:=by
 have hm:domAt d v∈d:=af (by rw[h.len];exact hv)
 exact⟨(h.few.fine _ hm).ok,fun e=>h.some' (e▸hm)⟩
theorem na {d:aa}{b v:Int}{x:List (Int×Int)}(hb:0≤b)(hl:b.toNat<d.length)(hv:0≤v):domAt (d.set b.toNat x) v=if v=b then x else domAt d v:=by
 unfold domAt
 rw[List.getD_eq_getElem?_getD]
 split
 ·rename_i e;subst e;rw[List.getElem?_set_self hl];rfl
 ·rename_i e;rw[List.getElem?_set_ne (by omega),←List.getD_eq_getElem?_getD]
theorem pF {d:aa}{b:Int}(hl:b.toNat<d.length):d.set b.toNat (domAt d b)=d:=by
 refine List.ext_getElem? fun i=> ?_
 by_cases e:b.toNat=i
 ·subst e;rw[List.getElem?_set_self hl,ak hl]
 ·rw[List.getElem?_set_ne e]
theorem dY {n:Nat}{d:aa}{b w:Int}(gd:GoodD n d)(hb:0≤b∧b.toNat<n){out:aa}(he:dA d b w=some out):GoodD n out∧leD out d∧(∀v,0≤v→v≠b→domAt out v=domAt d v)∧(∀x,x∈vals (domAt out b)↔x∈vals (domAt d b)∧x=w):=by
 have hbl:b.toNat<d.length:=by rw[gd.len];exact hb.2
 obtain⟨hok,hne⟩:=gd.at_ hb.2
 unfold dA at he
 split at he
 ·cases he
 ·rename_i hx
  obtain rfl:=Option.some.inj he
  obtain⟨c1,c2⟩:=bM hok w w
  generalize domCut (domAt d b) w w=x at*
  have hsub:Sub (d.set b.toNat x) d:=ku fun y hy v hv=>by
   rw[ak hbl]at hy
   exact Option.some.inj hy▸((c2 v).1 hv).1
  have hfx:Fine x:=(gd.few.fine _ (af hbl)).cut c1 fun v hv=>((c2 v).1 hv).1
  obtain⟨g1,g2⟩:=GoodD.of_sub gd hsub (gX gd.few.fine hfx) (fun hm=>hx ((dF hbl gd.some').1 hm))
  refine⟨g1,g2,fun v h0 hv=>by rw[na hb.1 hbl h0,if_neg hv],fun y=> ?_⟩
  rw[na hb.1 hbl hb.1,if_pos rfl,c2]
  constructor
  ·rintro⟨h1,h2,h3⟩;exact⟨h1,by omega⟩
  ·rintro⟨h1,rfl⟩;exact⟨h1,Int.le_refl _,Int.le_refl _⟩
theorem qm {n:Nat}{d:aa}{b w:Int}(gd:GoodD n d)(hb:0≤b∧b.toNat<n)(hw:w∈vals (domAt d b)): ∃out,dA d b w=some out:=by
 obtain⟨hok,hne⟩:=gd.at_ hb.2
 unfold dA
 rw[if_neg]
 ·exact⟨_,rfl⟩
 ·intro e
  have:=((bM hok w w).2 w).2 ⟨hw,Int.le_refl _,Int.le_refl _⟩
  rw[e]at this;cases this
theorem k8 {n:Nat}{d:aa}{b w:Int}(gd:GoodD n d)(hb:0≤b∧b.toNat<n){out:aa}(he:dA d b w=some out):w∈vals (domAt d b):=by
 obtain⟨g1,g2,g3,g4⟩:=dY gd hb he
 obtain⟨x,hx⟩:=g1.ne hb.2
 obtain⟨h1,rfl⟩:=(g4 x).1 hx
 exact h1
theorem dJ {n:Nat}{d:aa}{b w:Int}(gd:GoodD n d)(hb:0≤b∧b.toNat<n):dA d b w=some d↔vals (domAt d b)=[w]:=by
 obtain⟨hok,hne⟩:=gd.at_ hb.2
 constructor
 ·intro he
  obtain⟨g1,g2,g3,g4⟩:=dY gd hb he
  refine dP (aE hok) (List.pairwise_singleton _ _) fun x=> ?_
  rw[g4 x,List.mem_singleton]
  exact⟨fun h=>h.2,fun h=>⟨h▸k8 gd hb he,h⟩⟩
 ·intro hv
  obtain⟨out,ho⟩:=qm gd hb (w:=w) (by rw[hv];exact .head _)
  obtain⟨g1,g2,g3,g4⟩:=dY gd hb ho
  rw[ho]
  congr 1
  refine iZ g1 gd fun v x h0=> ?_
  by_cases e:v=b
  ·subst e
   rw[g4 x,hv,List.mem_singleton]
   exact⟨fun h=>h.1,fun h=>⟨h,h⟩⟩
  ·rw[g3 v h0 e]
theorem c8 {x:List (Int×Int)}{v:Int}:hasV x v=true↔v∈vals x:=by
 unfold hasV
 rw[List.any_eq_true,aQ]
 simp
structure ReifC (n:Nat)(c:Con):Prop where
 yes:LinC n (bJ c)
 no:LinC n (bL (bJ c))
 b:0≤c.b∧c.b.toNat<n
 apart:c.b∉c.vars
 small:aF c.rhs≤4611686018427387904
theorem zj (c:Con):(bL c).vars=c.vars:=by
 unfold bL
 split
 ·rfl
 ·split
  ·rfl
  ·split<;>rfl
theorem yY {n:Nat}{c:Con}(h:ReifC n c){d:aa}(gd:GoodD n d)(hy:yesW d c=true)(hn:noW d c=true):False:=by
 have hdl:0<d.length:=by rw[gd.len];have:=h.b;omega
 obtain⟨a,ha⟩:=xp gd.few.fine gd.some' hdl
 have h1:=nB (h.yes.ok gd).fine (by have:=h.yes.sum.big;have:=bC (bJ c).rhs;omega) h.yes.op ha hy
 have h2:=xQ (h.yes.ok gd) ha hn
 rw[h1]at h2;cases h2
theorem xA {n:Nat}{c:Con}(h:ReifC n c):StepOK n (c.vars++[c.b]) (fun g=>(0≤g c.b∧g c.b≤1)→(dK c.op (dx c.vars c.coefs g) c.rhs=true∧g c.b=1)∨(dK c.op (dx c.vars c.coefs g) c.rhs=false∧g c.b=0)) (nR c):=by
 have sy:=k5 h.yes
 have sn:=k5 h.no
 have hvn:(bL (bJ c)).vars=c.vars:=zj (bJ c)
 rw[hvn]at sn
 have hb:=h.b
 have tr: ∀d,GoodD n d→(truthR (domAt d c.b)=true↔∀v∈vals (domAt d c.b),0≤v∧v≤1):=fun d gd=>jS (gd.at_ hb.2).1
 have ym: ∀a b,GoodD n a→GoodD n b→leD a b→yesW b c=true→yesW a c=true:=fun a b ga gb hle hy=>wC (c:=bJ c) h.yes ga gb hle hy
 have nm: ∀a b,GoodD n a→GoodD n b→leD a b→noW b c=true→noW a c=true:=fun a b ga gb hle hy=>wC (c:=bL (bJ c)) h.no ga gb hle hy
 have yst: ∀a,GoodD n a→yesW a c=true→gD (bJ c) a=some a:=fun a ga hy=>qj (c:=bJ c) h.yes ga hy
 have nst: ∀a,GoodD n a→noW a c=true→gD (bL (bJ c)) a=some a:=fun a ga hy=>qj (c:=bL (bJ c)) h.no ga hy
 have hf: ∀d,GoodD n d→nR c d=if truthR (domAt d c.b)=true then(if yesW d c=true then dA d c.b 1 else if noW d c=true then dA d c.b 0 else if hasV (domAt d c.b) 0=false then gD (bJ c) d else if hasV (domAt d c.b) 1=false then gD (bL (bJ c)) d else some d)else some d:=fun d gd=>by
  unfold nR sK
  rw[if_neg gd.some']
 have hin: ∀u∈c.vars++[c.b],0≤u∧u.toNat<n:=fun u hu=>by
  rcases List.mem_append.1 hu with hu|hu
  ·exact sy.in' u hu
  ·rw[List.mem_singleton.1 hu];exact hb
 refine StepOK.congr (f:=fun d=>if truthR (domAt d c.b)=true then(if yesW d c=true then dA d c.b 1 else if noW d c=true then dA d c.b 0 else if hasV (domAt d c.b) 0=false then gD (bJ c) d else if hasV (domAt d c.b) 1=false then gD (bL (bJ c)) d else some d)else some d) ⟨⟨fun a a' ga he=> ?_,fun a a' b ga gb hle he=> ?_⟩,fun a b ga gb ha hab=> ?_,fun a out ga he v h0 hv=> ?_,fun e ge g he=> ?_,hin⟩ hf
 ·split at he
  ·split at he
   ·obtain⟨g1,g2,_⟩:=dY ga hb he
    exact⟨g1,g2⟩
   ·split at he
    ·obtain⟨g1,g2,_⟩:=dY ga hb he
     exact⟨g1,g2⟩
    ·split at he
     ·exact sy.takes.less a a' ga he
     ·split at he
      ·exact sn.takes.less a a' ga he
      ·obtain rfl:=Option.some.inj he
       exact⟨ga,(be n).refl a⟩
  ·obtain rfl:=Option.some.inj he
   exact⟨ga,(be n).refl a⟩
 ·
  have hless:leD a' a:=by
   split at he
   ·split at he
    ·exact(dY ga hb he).2.1
    ·split at he
     ·exact(dY ga hb he).2.1
     ·split at he
      ·exact(sy.takes.less a a' ga he).2
      ·split at he
       ·exact(sn.takes.less a a' ga he).2
       ·exact Option.some.inj he▸(be n).refl a
   ·exact Option.some.inj he▸(be n).refl a
  have stay: ∃b',some b=some b'∧leD a' b':=⟨b,rfl,(be n).trans _ _ _ hless hle⟩
  by_cases htb:truthR (domAt b c.b)=true
  ·have hta:truthR (domAt a c.b)=true:=(tr a ga).2 fun v hv=>(tr b gb).1 htb v (hle.2 _ v hb.1 hv)
   rw[if_pos hta]at he
   rw[if_pos htb]
   have kmono: ∀w,dA a c.b w=some a'→∃b',dA b c.b w=some b'∧leD a' b':=fun w hk=>by
    obtain⟨g1,g2,g3,g4⟩:=dY ga hb hk
    obtain⟨b',hb'⟩:=qm gb hb (hle.2 _ w hb.1 (k8 ga hb hk))
    obtain⟨k1,k2,k3,k4⟩:=dY gb hb hb'
    refine⟨b',hb',by rw[g1.len,k1.len],fun v x h0 hx=> ?_⟩
    by_cases e:v=c.b
    ·subst e
     obtain⟨h1,h2⟩:=(g4 x).1 hx
     exact(k4 x).2 ⟨hle.2 _ x h0 h1,h2⟩
    ·rw[g3 v h0 e]at hx
     rw[k3 v h0 e]
     exact hle.2 v x h0 hx
   by_cases hyb:yesW b c=true
   ·rw[if_pos hyb]
    rw[if_pos (ym a b ga gb hle hyb)]at he
    exact kmono 1 he
   ·rw[if_neg hyb]
    by_cases hnb:noW b c=true
    ·rw[if_pos hnb]
     have hna:=nm a b ga gb hle hnb
     rw[if_neg (fun hy=>yY h ga hy hna),if_pos hna]at he
     exact kmono 0 he
    ·rw[if_neg hnb]
     by_cases h0b:hasV (domAt b c.b) 0=false
     ·rw[if_pos h0b]
      have h0a:hasV (domAt a c.b) 0=false:=by
       cases hh:hasV (domAt a c.b) 0 with
       |false=>rfl
       |true=>rw[c8.2 (hle.2 _ 0 hb.1 (c8.1 hh))]at h0b;cases h0b
      have hle':a'=a∨gD (bJ c) a=some a':=by
       by_cases hya:yesW a c=true
       ·rw[if_pos hya]at he
        refine .inl ?_
        have hv:vals (domAt a c.b)=[1]:=by
         obtain⟨x,hx⟩:=ga.ne hb.2
         have hone: ∀y∈vals (domAt a c.b),y=1:=fun y hy=>by
          have h1:=(tr a ga).1 hta y hy
          have h2:y≠0:=fun e=>by rw[e]at hy;rw[c8.2 hy]at h0a;cases h0a
          omega
         exact dP (aE (ga.at_ hb.2).1) (List.pairwise_singleton _ _) fun y=>⟨fun hy=>List.mem_singleton.2 (hone y hy),fun hy=>by rw[List.mem_singleton.1 hy,←hone x hx];exact hx⟩
        rw[(dJ ga hb).2 hv]at he
        exact(Option.some.inj he).symm
       ·rw[if_neg hya]at he
        by_cases hna:noW a c=true
        ·rw[if_pos hna]at he
         have:=k8 ga hb he
         rw[c8.2 this]at h0a;cases h0a
        ·rw[if_neg hna,if_pos h0a]at he
         exact .inr he
      rcases hle' with e|hl
      ·subst e
       by_cases hya:yesW a' c=true
       ·exact sy.takes.mono a' a' b ga gb hle (yst a' ga hya)
       ·rw[if_neg hya]at he
        by_cases hna:noW a' c=true
        ·rw[if_pos hna]at he
         have:=k8 ga hb he
         rw[c8.2 this]at h0a;cases h0a
        ·rw[if_neg hna,if_pos h0a]at he
         exact sy.takes.mono a' a' b ga gb hle he
      ·exact sy.takes.mono a a' b ga gb hle hl
     ·rw[if_neg h0b]
      by_cases h1b:hasV (domAt b c.b) 1=false
      ·rw[if_pos h1b]
       have h1a:hasV (domAt a c.b) 1=false:=by
        cases hh:hasV (domAt a c.b) 1 with
        |false=>rfl
        |true=>rw[c8.2 (hle.2 _ 1 hb.1 (c8.1 hh))]at h1b;cases h1b
       have hone: ∀y∈vals (domAt a c.b),y=0:=fun y hy=>by
        have h1:=(tr a ga).1 hta y hy
        have h2:y≠1:=fun e=>by rw[e]at hy;rw[c8.2 hy]at h1a;cases h1a
        omega
       have hv:vals (domAt a c.b)=[0]:=by
        obtain⟨x,hx⟩:=ga.ne hb.2
        exact dP (aE (ga.at_ hb.2).1) (List.pairwise_singleton _ _) fun y=>⟨fun hy=>List.mem_singleton.2 (hone y hy),fun hy=>by rw[List.mem_singleton.1 hy,←hone x hx];exact hx⟩
       have h0a: ¬hasV (domAt a c.b) 0=false:=fun e=>by
        have:=c8 (x:=domAt a c.b) (v:=0)
        rw[e,hv]at this
        simp at this
       by_cases hya:yesW a c=true
       ·rw[if_pos hya]at he
        have:=k8 ga hb he
        rw[c8.2 this]at h1a;cases h1a
       ·rw[if_neg hya]at he
        by_cases hna:noW a c=true
        ·rw[if_pos hna,(dJ ga hb).2 hv]at he
         obtain rfl:=Option.some.inj he
         exact sn.takes.mono a a b ga gb hle (nst a ga hna)
        ·rw[if_neg hna,if_neg h0a,if_pos h1a]at he
         exact sn.takes.mono a a' b ga gb hle he
      ·rw[if_neg h1b]
       exact stay
  ·rw[if_neg htb]
   exact stay
 ·
  have hB:=hab c.b (List.mem_append_right _ (.head _))
  have hV: ∀u∈c.vars,domAt a u=domAt b u:=fun u hu=>hab u (List.mem_append_left _ hu)
  have ey:yesW b c=yesW a c:=by unfold yesW endsW;rw[mj hV]
  have en:noW b c=noW a c:=by unfold noW endsW;rw[hvn,mj hV]
  rw[ey,en,←hB]
  split
  ·rename_i ht
   rw[if_pos ht]at ha
   split
   ·rename_i hy
    rw[if_pos hy,dJ ga hb]at ha
    rw[dJ gb hb,←hB];exact ha
   ·rename_i hy
    rw[if_neg hy]at ha
    split
    ·rename_i hn
     rw[if_pos hn,dJ ga hb]at ha
     rw[dJ gb hb,←hB];exact ha
    ·rename_i hn
     rw[if_neg hn]at ha
     split
     ·rename_i h0
      rw[if_pos h0]at ha
      exact sy.stays a b ga gb ha hV
     ·rename_i h0
      rw[if_neg h0]at ha
      split
      ·rename_i h1
       rw[if_pos h1]at ha
       exact sn.stays a b ga gb ha hV
      ·rfl
  ·rfl
 ·have hv1:v∉c.vars:=fun hm=>hv (List.mem_append_left _ hm)
  have hv2:v≠c.b:=fun e=>hv (List.mem_append_right _ (e▸.head _))
  split at he
  ·split at he
   ·exact(dY ga hb he).2.2.1 v h0 hv2
   ·split at he
    ·exact(dY ga hb he).2.2.1 v h0 hv2
    ·split at he
     ·exact sy.off a out ga he v h0 hv1
     ·split at he
      ·exact sn.off a out ga he v h0 hv1
      ·obtain rfl:=Option.some.inj he;rfl
  ·obtain rfl:=Option.some.inj he;rfl
 ·
  have hB:=he c.b (List.mem_append_right _ (.head _))
  have hV: ∀u∈c.vars,vals (domAt e u)=[g u]:=fun u hu=>he u (List.mem_append_left _ hu)
  have py:=sy.point e ge g hV
  have pn:=sn.point e ge g hV
  have hhn:=zG (c:=bJ c) g h.yes.sum.ck h.yes.op h.small
  rw[hvn]at hhn
  have htr:=tr e ge
  rw[hB]at htr
  simp only[List.mem_singleton,forall_eq]at htr
  by_cases ht:truthR (domAt e c.b)=true
  ·have h01:=htr.1 ht
   rw[if_pos ht]
   have hsy:yesW e c=true→dK c.op (dx c.vars c.coefs g) c.rhs=true:=fun hy=>(py.1 (yst e ge hy))
   have hsn:noW e c=true→dK c.op (dx c.vars c.coefs g) c.rhs=false:=fun hn=>by
    have:=pn.1 (nst e ge hn)
    rw[hhn]at this
    have:=Bool.not_eq_true' _▸this
    exact this
   have e0:hasV (domAt e c.b) 0=false↔g c.b=1:=by
    have:=c8 (x:=domAt e c.b) (v:=0)
    rw[hB,List.mem_singleton]at this
    rw[←Bool.not_eq_true,this]
    omega
   have e1:hasV (domAt e c.b) 1=false↔g c.b=0:=by
    have:=c8 (x:=domAt e c.b) (v:=1)
    rw[hB,List.mem_singleton]at this
    rw[←Bool.not_eq_true,this]
    omega
   by_cases hy:yesW e c=true
   ·rw[if_pos hy,dJ ge hb,hB,hsy hy]
    simp
    omega
   ·rw[if_neg hy]
    by_cases hn:noW e c=true
    ·rw[if_pos hn,dJ ge hb,hB,hsn hn]
     simp
     omega
    ·rw[if_neg hn]
     by_cases h1:g c.b=1
     ·rw[if_pos (e0.2 h1),py]
      simp[h1]
      exact rfl
     ·have h2:g c.b=0:=by omega
      rw[if_neg (fun hh=>h1 (e0.1 hh)),if_pos (e1.2 h2),pn,hhn]
      simp[h2]
      exact rfl
  ·rw[if_neg ht]
   have: ¬(0≤g c.b∧g c.b≤1):=fun hh=>ht (htr.2 hh)
   simp[this]
theorem StepOK.guard {n:Nat}{us:List Int}{P Q:(Int→Int)→Prop}{f:aa→Option aa}{C:aa→Bool}(h:StepOK n us P f)(hm: ∀a b,GoodD n a→GoodD n b→leD a b→C b=true→C a=true)
  (hl: ∀a b,GoodD n a→GoodD n b→(∀u∈us,domAt a u=domAt b u)→C a=C b) (hp: ∀e,GoodD n e→∀g:Int→Int,(∀u∈us,vals (domAt e u)=[g u])→(C e=true↔Q g)):StepOK n us (fun g=>Q g→P g) (fun d=>if C d=true then f d else some d):=by
 refine⟨⟨fun a a' ga he=> ?_,fun a a' b ga gb hle he=> ?_⟩,fun a b ga gb ha hab=> ?_,fun a out ga he v h0 hv=> ?_,fun e ge g he=> ?_,h.in'⟩
 ·split at he
  ·exact h.takes.less a a' ga he
  ·obtain rfl:=Option.some.inj he
   exact⟨ga,(be n).refl a⟩
 ·by_cases hc:C b=true
  ·rw[if_pos (hm a b ga gb hle hc)]at he
   rw[if_pos hc]
   exact h.takes.mono a a' b ga gb hle he
  ·rw[if_neg hc]
   refine⟨b,rfl,(be n).trans _ _ _ ?_ hle⟩
   split at he
   ·exact(h.takes.less a a' ga he).2
   ·exact Option.some.inj he▸(be n).refl a
 ·rw[←hl a b ga gb hab]
  split
  ·rename_i hc
   rw[if_pos hc]at ha
   exact h.stays a b ga gb ha hab
  ·rfl
 ·split at he
  ·exact h.off a out ga he v h0 hv
  ·obtain rfl:=Option.some.inj he;rfl
 ·have hq:=hp e ge g he
  by_cases hc:C e=true
  ·rw[if_pos hc,h.point e ge g he]
   exact⟨fun h _=>h,fun h=>h (hq.1 hc)⟩
  ·rw[if_neg hc]
   exact⟨fun _ h=>absurd (hq.2 h) hc,fun _=>rfl⟩
def pc (a b:Int)(d:aa):Option aa:=
 if a=b then some d else
 if domCut (domAt d a) (-1048576) (aL (domAt d b))=[]∨domCut (domAt d b) (aw (domAt d a)) 1048576=[]then none else
 some ((d.set a.toNat (domCut (domAt d a) (-1048576) (aL (domAt d b)))).set b.toNat (domCut (domAt d b) (aw (domAt d a)) 1048576))
theorem AH {n:Nat}{us:List Int}{P:(Int→Int)→Prop}(hp: ∀g,P g)(hin: ∀u∈us,0≤u∧u.toNat<n):StepOK n us P some:=
 ⟨⟨fun a a' ga he=>by obtain rfl:=Option.some.inj he;exact⟨ga,(be n).refl a⟩,fun a a' b ga gb hle he=>by obtain rfl:=Option.some.inj he;exact⟨b,rfl,hle⟩⟩,fun _ _ _ _ _ _=>rfl,fun a out ga he v _ _=>by obtain rfl:=Option.some.inj he;rfl,fun _ _ g _=>⟨fun _=>hp g,fun _=>rfl⟩,hin⟩
theorem BC {n:Nat}{a b:Int}(hab:a≠b)(ha:0≤a∧a.toNat<n)(hb:0≤b∧b.toNat<n):SuppS n [a,b] (fun l=>decide (l.getD 0 0≤l.getD 1 0)) (pc a b):=by
 have two: ∀g:Int→Int,(decide ((([a,b]:List Int).map g).getD 0 0≤(([a,b]:List Int).map g).getD 1 0)=true)↔g a≤g b:=fun g=>by simp
 have ends: ∀d,GoodD n d→∀v:Int,0≤v∧v.toNat<n→ax (domAt d v)∧aw (domAt d v)∈vals (domAt d v)∧aL (domAt d v)∈vals (domAt d v)∧∀x∈vals (domAt d v),-1048576≤x∧x≤1048576∧aw (domAt d v)≤x∧x≤aL (domAt d v):=fun d gd v hv=>by
  obtain⟨h1,h2⟩:=gd.at_ hv.2
  have h3:=(gd.few.fine _ (af (v:=v) (by rw[gd.len];exact hv.2))).val
  exact⟨h1,fz h1 h2,oy h1 h2,fun x hx=>⟨(h3 x hx).1,(h3 x hx).2,ox h1 hx,m6 h1 hx⟩⟩
 have pick: ∀(P:Int→Prop) (x y:Int),∃g:Int→Int,g a=x∧g b=y:=fun _ x y=>⟨fun u=>if u=a then x else y,if_pos rfl,if_neg (Ne.symm hab)⟩
 have hin: ∀u∈[a,b],0≤u∧u.toNat<n:=fun u hu=>by
  rcases List.mem_cons.1 hu with rfl|hu
  ·exact ha
  ·rw[List.mem_singleton.1 hu];exact hb
 refine⟨fun d out gd he=> ?_,fun d gd he g hg=> ?_,hin,by simp⟩
 ·obtain⟨oa,la,ma,va⟩:=ends d gd a ha
  obtain⟨ob,lb,mb,vb⟩:=ends d gd b hb
  have hal:a.toNat<d.length:=by rw[gd.len];exact ha.2
  have hbl:b.toNat<d.length:=by rw[gd.len];exact hb.2
  unfold pc at he
  rw[if_neg hab]at he
  split at he
  ·cases he
  ·rename_i hne
   obtain rfl:=Option.some.inj he
   obtain⟨x1,x2⟩:=bM oa (-1048576) (aL (domAt d b))
   obtain⟨y1,y2⟩:=bM ob (aw (domAt d a)) 1048576
   generalize domCut (domAt d a) (-1048576) (aL (domAt d b))=x at*
   generalize domCut (domAt d b) (aw (domAt d a)) 1048576=y at*
   have hd1: ∀v,0≤v→domAt ((d.set a.toNat x).set b.toNat y) v=if v=b then y else if v=a then x else domAt d v:=fun v h0=>by
    rw[na hb.1 (by rw[List.length_set];exact hbl) h0]
    split
    ·rfl
    ·rw[na ha.1 hal h0]
   have s1:Sub (d.set a.toNat x) d:=ku fun z hz v hv=>by
    rw[ak hal]at hz
    exact Option.some.inj hz▸((x2 v).1 hv).1
   have s2:Sub ((d.set a.toNat x).set b.toNat y) (d.set a.toNat x):=ku fun z hz v hv=>by
    rw[List.getElem?_set_ne (by omega),ak hbl]at hz
    exact Option.some.inj hz▸((y2 v).1 hv).1
   have fx:Fine x:=(gd.few.fine _ (af hal)).cut x1 fun v hv=>((x2 v).1 hv).1
   have fy:Fine y:=(gd.few.fine _ (af hbl)).cut y1 fun v hv=>((y2 v).1 hv).1
   have hno: []∉(d.set a.toNat x).set b.toNat y:=fun hm=>by
    have h1: []∉d.set a.toNat x:=fun hm=>hne (.inl ((dF hal gd.some').1 hm))
    exact hne (.inr ((dF (by rw[List.length_set];exact hbl) h1).1 hm))
   refine⟨(GoodD.of_sub gd (Sub.trans s2 s1) (gX (gX gd.few.fine fx) fy) hno).1,fun v hv z=> ?_,fun v h0 hv=> ?_⟩
   ·rcases List.mem_cons.1 hv with rfl|hv
    ·rw[hd1 v ha.1,if_neg hab,if_pos rfl,x2]
     constructor
     ·rintro⟨h1,_,h2⟩
      obtain⟨g,g1,g2⟩:=pick (fun _=>True) z (aL (domAt d b))
      refine⟨g,fun u hu=> ?_,(two g).2 (by omega),g1⟩
      rcases List.mem_cons.1 hu with rfl|hu
      ·rw[g1];exact h1
      ·rw[List.mem_singleton.1 hu,g2];exact mb
     ·rintro⟨g,g1,g2,rfl⟩
      have g2:=(two g).1 g2
      have h1:=g1 v (.head _)
      have h2:=g1 b (.tail _ (.head _))
      exact⟨h1,(va _ h1).1,by have:=vb _ h2;omega⟩
    ·obtain rfl:=List.mem_singleton.1 hv
     rw[hd1 v hb.1,if_pos rfl,y2]
     constructor
     ·rintro⟨h1,h2,_⟩
      obtain⟨g,g1,g2⟩:=pick (fun _=>True) (aw (domAt d a)) z
      refine⟨g,fun u hu=> ?_,(two g).2 (by omega),g2⟩
      rcases List.mem_cons.1 hu with rfl|hu
      ·rw[g1];exact la
      ·rw[List.mem_singleton.1 hu,g2];exact h1
     ·rintro⟨g,g1,g2,rfl⟩
      have g2:=(two g).1 g2
      have h1:=g1 a (.head _)
      have h2:=g1 v (.tail _ (.head _))
      exact⟨h2,by have:=va _ h1;omega,(vb _ h2).2.1⟩
   ·have n1:v≠b:=fun e=>hv (by rw[e];exact .tail _ (.head _))
    have n2:v≠a:=fun e=>hv (by rw[e];exact .head _)
    rw[hd1 v h0,if_neg n1,if_neg n2]
 ·refine decide_eq_false fun hle=> ?_
  have hle:=(two g).1 (decide_eq_true hle)
  have h1:=hg a (.head _)
  have h2:=hg b (.tail _ (.head _))
  obtain⟨oa,la,ma,va⟩:=ends d gd a ha
  obtain⟨ob,lb,mb,vb⟩:=ends d gd b hb
  have v1:=va _ h1
  have v2:=vb _ h2
  have e1:=((bM oa (-1048576) (aL (domAt d b))).2 (g a)).2 ⟨h1,by omega,by omega⟩
  have e2:=((bM ob (aw (domAt d a)) 1048576).2 (g b)).2 ⟨h2,by omega,by omega⟩
  unfold pc at he
  rw[if_neg hab]at he
  split at he
  ·rename_i hh
   rcases hh with hh|hh
   ·rw[hh]at e1;cases e1
   ·rw[hh]at e2;cases e2
  ·cases he
theorem qG {n:Nat}{a b:Int}(ha:0≤a∧a.toNat<n)(hb:0≤b∧b.toNat<n):StepOK n [a,b] (fun g=>g a≤g b) (pc a b):=by
 by_cases hab:a=b
 ·refine StepOK.congr (AH (fun g=>by rw[hab];exact Int.le_refl _) fun u hu=> ?_) fun d _=>by unfold pc;rw[if_pos hab]
  rcases List.mem_cons.1 hu with rfl|hu
  ·exact ha
  ·rw[List.mem_singleton.1 hu];exact hb
 ·exact(BC hab ha hb).step.iff fun g=>by simp
def l8 (c:Con)(k:Nat)(d:aa):Bool:=(List.range k).all (dT d c)
def uh (c:Con)(k:Nat)(d:aa):Option aa:=if l8 c k d=true then pc (varAt c k) (varAt c (halfOf c+k)) d else some d
structure LexC (n:Nat)(c:Con):Prop where
 vin: ∀v∈c.vars,0≤v∧v.toNat<n
theorem iQ {n:Nat}{c:Con}(h:LexC n c){d:aa}(gd:GoodD n d){j:Nat}(hj:j<halfOf c):dT d c j=true↔varAt c j=varAt c (halfOf c+j)∨∃x,vals (domAt d (varAt c j))=[x]∧vals (domAt d (varAt c (halfOf c+j)))=[x]:=by
 have hh:=jk c
 have o1:=gd.at_ (h.vin _ (aJ (c:=c) (k:=j) (by omega))).2
 have o2:=gd.at_ (h.vin _ (aJ (c:=c) (k:=halfOf c+j) (by omega))).2
 unfold dT
 rw[vJ o1.1 o2.1]
 refine or_congr_right ⟨?_,?_⟩
 ·rintro⟨h1,h2⟩
  obtain⟨x,hx⟩:=List.length_eq_one_iff.1 h1
  exact⟨x,hx,by rw[←h2,hx]⟩
 ·rintro⟨x,h1,h2⟩
  exact⟨by rw[h1];rfl,ik o1.1 o2.1 (by rw[h1,h2])⟩
theorem qF {n:Nat}{c:Con}(h:LexC n c){k:Nat}(hk:k<halfOf c):StepOK n c.vars (fun g=>(∀j,j<k→g (varAt c j)=g (varAt c (halfOf c+j)))→g (varAt c k)≤g (varAt c (halfOf c+k))) (uh c k):=by
 have hh:=jk c
 have m1: ∀j,j<halfOf c→varAt c j∈c.vars∧varAt c (halfOf c+j)∈c.vars:=fun j hj=>⟨aJ (by omega),aJ (by omega)⟩
 obtain⟨ha,hb⟩:=m1 k hk
 refine StepOK.guard (C:=l8 c k) ((qG (h.vin _ ha) (h.vin _ hb)).wide (fun u hu=> ?_) h.vin) (fun a b ga gb hle hc=> ?_) (fun a b ga gb hab=> ?_) (fun e ge g he=> ?_)
 ·rcases List.mem_cons.1 hu with rfl|hu
  ·exact ha
  ·rw[List.mem_singleton.1 hu];exact hb
 ·refine List.all_eq_true.2 fun j hj=> ?_
  have hj':=List.mem_range.1 hj
  have hjh:j<halfOf c:=by omega
  obtain⟨v1,v2⟩:=m1 j hjh
  have:=(iQ h gb hjh).1 (List.all_eq_true.1 hc j hj)
  refine(iQ h ga hjh).2 (this.imp id ?_)
  rintro⟨x,h1,h2⟩
  have key: ∀v∈c.vars,vals (domAt b v)=[x]→vals (domAt a v)=[x]:=fun v hv e=>by
   have hn:=h.vin v hv
   obtain⟨y,hy⟩:=ga.ne hn.2
   have hsub: ∀z∈vals (domAt a v),z=x:=fun z hz=>by
    have:=hle.2 v z hn.1 hz
    rw[e]at this
    exact List.mem_singleton.1 this
   exact dP (aE (ga.at_ hn.2).1) (List.pairwise_singleton _ _) fun z=>⟨fun hz=>List.mem_singleton.2 (hsub z hz),fun hz=>by rw[List.mem_singleton.1 hz,←hsub y hy];exact hy⟩
  exact⟨x,key _ v1 h1,key _ v2 h2⟩
 ·unfold l8
  rw[Bool.eq_iff_iff,List.all_eq_true,List.all_eq_true]
  refine forall_congr' fun j=>imp_congr_right fun hj=> ?_
  have hj':=List.mem_range.1 hj
  obtain⟨v1,v2⟩:=m1 j (by omega)
  unfold dT
  rw[hab _ v1,hab _ v2]
 ·unfold l8
  rw[List.all_eq_true]
  refine forall_congr' fun j=> ?_
  rw[List.mem_range]
  refine imp_congr_right fun hj=> ?_
  obtain⟨v1,v2⟩:=m1 j (by omega)
  rw[iQ h ge (by omega),he _ v1,he _ v2]
  constructor
  ·rintro(e|⟨x,h1,h2⟩)
   ·rw[e]
   ·rw[(List.cons.inj h1).1,(List.cons.inj h2).1]
  ·exact fun e=> .inr ⟨_,rfl,by rw[e]⟩
theorem zy {n:Nat}{c:Con}(h:LexC n c)(d0:aa): ∀(N:Nat) (d:aa) (R:Option aa),Come leD (GoodD n) (uh c) (List.range (halfOf c)) d0 d→cB (dE c) N d=some R→eh leD (GoodD n) (uh c) (List.range (halfOf c)) d0 R:=by
 intro N
 induction N using Nat.strongRecOn with
 |_ N ih=>
  intro d R hd hR
  have hh:=jk c
  have known: ∀k,k<halfOf c→dT d c k=true→pc (varAt c k) (varAt c (halfOf c+k)) d=some d:=fun k hk hp=>by
   have v1:=h.vin _ (aJ (c:=c) (k:=k) (by omega))
   have v2:=h.vin _ (aJ (c:=c) (k:=halfOf c+k) (by omega))
   rcases (iQ h hd.fine hk).1 hp with e|⟨x,h1,h2⟩
   ·unfold pc;rw[if_pos e]
   ·refine((qG v1 v2).point d hd.fine (fun _=>x) fun u hu=> ?_).2 (Int.le_refl _)
    rcases List.mem_cons.1 hu with rfl|hu
    ·exact h1
    ·rw[List.mem_singleton.1 hu];exact h2
  have stay: ∀k,k<halfOf c→dT d c k=true→uh c k d=some d:=fun k hk hp=>by
   unfold uh
   rw[known k hk hp,ite_self]
  by_cases hk:placeO d c=halfOf c
  ·have hst:dE c d= .inl (some d):=by unfold dE;rw[if_pos hk]
   obtain rfl:=aX hR hst
   refine⟨hd,fun k hk2=> ?_⟩
   have hk2:=List.mem_range.1 hk2
   exact stay k hk2 (jC (p:=dT d c) (h:=halfOf c) (j:=k) (by unfold placeO at hk;omega))
  ·have hkl:placeO d c<halfOf c:=by have:=lJ (dT d c) (halfOf c);unfold placeO at hk⊢;omega
   have hn:dT d c (placeO d c)=false:=mx hkl
   have hbf: ∀j,j<placeO d c→dT d c j=true:=fun j hj=>jC hj
   have hst:dE c d=(if domCut (domAt d (varAt c (placeO d c))) (-1048576) (aL (domAt d (varAt c (halfOf c+placeO d c))))=[]∨domCut (domAt d (varAt c (halfOf c+placeO d c))) (aw (domAt d (varAt c (placeO d c)))) 1048576=[]then .inl none else
    if domCut (domAt d (varAt c (placeO d c))) (-1048576) (aL (domAt d (varAt c (halfOf c+placeO d c))))=domAt d (varAt c (placeO d c))∧domCut (domAt d (varAt c (halfOf c+placeO d c))) (aw (domAt d (varAt c (placeO d c)))) 1048576=domAt d (varAt c (halfOf c+placeO d c))then .inl (some d)else
    .inr ((d.set (varAt c (placeO d c)).toNat (domCut (domAt d (varAt c (placeO d c))) (-1048576) (aL (domAt d (varAt c (halfOf c+placeO d c)))))).set (varAt c (halfOf c+placeO d c)).toNat (domCut (domAt d (varAt c (halfOf c+placeO d c))) (aw (domAt d (varAt c (placeO d c)))) 1048576))):=by
    unfold dE
    rw[if_neg hk]
   generalize placeO d c=k at*
   have v1:=h.vin _ (aJ (c:=c) (k:=k) (by omega))
   have v2:=h.vin _ (aJ (c:=c) (k:=halfOf c+k) (by omega))
   have hab:varAt c k≠varAt c (halfOf c+k):=fun e=>by
    rw[(iQ h hd.fine hkl).2 (.inl e)]at hn;cases hn
   have hah:l8 c k d=true:=List.all_eq_true.2 fun j hj=>hbf j (List.mem_range.1 hj)
   have hcut:uh c k d=pc (varAt c k) (varAt c (halfOf c+k)) d:=if_pos hah
   have htk:=(qF h hkl).takes
   unfold pc at hcut
   rw[if_neg hab]at hcut
   by_cases e1:domCut (domAt d (varAt c k)) (-1048576) (aL (domAt d (varAt c (halfOf c+k))))=[]∨domCut (domAt d (varAt c (halfOf c+k))) (aw (domAt d (varAt c k))) 1048576=[]
   ·rw[if_pos e1]at hst hcut
    obtain rfl:=aX hR hst
    exact hd.none (c:=k) (List.mem_range.2 hkl) htk hcut
   ·rw[if_neg e1]at hst hcut
    by_cases e2:domCut (domAt d (varAt c k)) (-1048576) (aL (domAt d (varAt c (halfOf c+k))))=domAt d (varAt c k)∧domCut (domAt d (varAt c (halfOf c+k))) (aw (domAt d (varAt c k))) 1048576=domAt d (varAt c (halfOf c+k))
    ·rw[if_pos e2]at hst
     obtain rfl:=aX hR hst
     refine⟨hd,fun j hj=> ?_⟩
     have hj:=List.mem_range.1 hj
     by_cases hjk:j<k
     ·exact stay j hj (hbf j hjk)
     ·by_cases e:j=k
      ·subst e
       rw[hcut,e2.1,e2.2,pF (by rw[hd.fine.len];exact v1.2),pF (by rw[hd.fine.len];exact v2.2)]
      ·have:l8 c j d=false:=by
        rw[←Bool.not_eq_true]
        intro ht
        have:=List.all_eq_true.1 ht k (List.mem_range.2 (by omega))
        rw[hn]at this;cases this
       unfold uh
       rw[this];rfl
    ·rw[if_neg e2]at hst
     obtain⟨m,hm,hR2⟩:=gF hR hst
     exact ih m hm _ R (hd.step (be n) (c:=k) (List.mem_range.2 hkl) htk hcut) hR2
open Classical in
noncomputable def vG (c:Con)(d:aa):Option aa:=if h: ∃R:Option aa,∃N,cB (dE c) N d=some R then h.choose else none
theorem tE {c:Con}{d:aa}{R:Option aa}{N:Nat}(h:cB (dE c) N d=some R):R=vG c d:=by
 have hex: ∃R:Option aa,∃N,cB (dE c) N d=some R:=⟨R,N,h⟩
 obtain⟨M,hM⟩:=hex.choose_spec
 unfold vG
 rw[dif_pos hex]
 exact oB h hM
theorem sZ: ∀(xs ys:List Int),xs.length=ys.length→(lL xs ys≤0↔∀k,k<xs.length→(∀j,j<k→xs.getD j 0=ys.getD j 0)→xs.getD k 0≤ys.getD k 0)
 | [],[],_=>by simp[lL]
 | [],_::_,h=>by simp at h
 |_::_,[],h=>by simp at h
 |x::xs,y::ys,h=>by
  rw[lL]
  have ih:=sZ xs ys (by simpa using h)
  by_cases h1:x<y
  ·rw[if_pos h1]
   refine⟨fun _ k hk he=> ?_,fun _=>by omega⟩
   cases k with
   |zero=>simp;omega
   |succ k=>have:=he 0 (by omega);simp at this;omega
  ·rw[if_neg h1]
   by_cases h2:y<x
   ·rw[if_pos (by omega)]
    refine⟨fun h=>by omega,fun hh=> ?_⟩
    have:=hh 0 (by simp) (fun j hj=>by omega)
    simp at this;omega
   ·rw[if_neg (by omega)]
    have e:x=y:=by omega
    subst e
    rw[ih]
    constructor
    ·intro hh k hk he
     cases k with
     |zero=>simp
     |succ k=>
      have:=hh k (by simpa using hk) fun j hj=>by simpa using he (j+1) (by omega)
      simpa using this
    ·intro hh k hk he
     have:=hh (k+1) (by simpa using hk) fun j hj=>by
      cases j with
      |zero=>simp
      |succ j=>simpa using he j (by omega)
     simpa using this
theorem zx {n:Nat}{c:Con}(h:LexC n c)(hl:c.vars.length*8≤140737488355328)(heven:c.vars.length % 2=0):StepOK n c.vars (fun g=>lL ((c.vars.map g).take (c.vars.length / 2)) ((c.vars.map g).drop (c.vars.length / 2))≤0) (vG c):=by
 have hE: ∀d,GoodD n d→eh leD (GoodD n) (uh c) (List.range (halfOf c)) d (vG c d):=fun d gd=>by
  obtain⟨R,N,h1,_⟩:=pL (c:=c) (d:=d) ⟨hl,fun v hv=>by rw[gd.len];exact h.vin v hv⟩ gd.few.fine
  rw[if_neg gd.some']at h1
  rw[←tE h1]
  exact zy h d N d R (Come.refl (be n) gd) h1
 refine(eh.step hE (fun k hk=>qF h (List.mem_range.1 hk)) h.vin).iff fun g=> ?_
 have hh:c.vars.length=halfOf c+halfOf c:=by unfold halfOf;omega
 have e:c.vars.length / 2=halfOf c:=rfl
 have x1:((c.vars.map g).take (halfOf c)).length=halfOf c:=by simp;omega
 have y1:((c.vars.map g).drop (halfOf c)).length=halfOf c:=by simp;omega
 have x2: ∀k,k<halfOf c→((c.vars.map g).take (halfOf c)).getD k 0=g (varAt c k):=fun k hk=>by
  unfold varAt
  rw[List.getD_eq_getElem?_getD,List.getD_eq_getElem?_getD,List.getElem?_take,if_pos hk,List.getElem?_map,List.getElem?_eq_getElem (by omega)];rfl
 have y2: ∀k,k<halfOf c→((c.vars.map g).drop (halfOf c)).getD k 0=g (varAt c (halfOf c+k)):=fun k hk=>by
  unfold varAt
  rw[List.getD_eq_getElem?_getD,List.getD_eq_getElem?_getD,List.getElem?_drop,List.getElem?_map,List.getElem?_eq_getElem (by omega)];rfl
 rw[e,sZ _ _ (by rw[x1,y1]),x1]
 constructor
 ·intro hp k hk he
  rw[x2 k hk,y2 k hk]
  exact hp k (List.mem_range.2 hk) fun j hj=>by
   have:=he j hj
   rwa[x2 j (by omega),y2 j (by omega)]at this
 ·intro hp k hk he
  have hk:=List.mem_range.1 hk
  have:=hp k hk fun j hj=>by rw[x2 j (by omega),y2 j (by omega)];exact he j hj
  rwa[x2 k hk,y2 k hk]at this
theorem FewD.smallD {d:aa}(h:FewD d):i7 d:=⟨h.small,fun x hx=>by have:=(h.fine x hx).len;omega⟩
theorem jL.few {d:aa}(h:FewD d){vars:List Int}(hv:jL d vars):vars.length*24≤140737488355328:=by
 have:vars.length≤d.length:=by
  have h1:(vars.map Int.toNat).Nodup:=fw hv.1 fun x hx y hy e=>by
   have:=(hv.2 x hx).1;have:=(hv.2 y hy).1;omega
  have h2:=lM h1 (b:=List.range d.length) fun k hk=>by
   obtain⟨v,hv2,rfl⟩:=List.mem_map.1 hk
   exact List.mem_range.2 (hv.2 v hv2).2
  simpa using h2
 have:=h.small
 omega
theorem uG (d:aa)(vars:List Int)(h:FewD d)(hv:jL d vars)(hne:vars≠[]):Spec Tryz.prog 133 false [aH d,.agg (cC (AM vars))] (aU (gT d vars)):=by
 have:=r8 d (AM vars) h.smallD h.valD.inb h.valD.len hv.2 (hv.few h)
 rw[show(AM vars).vars=vars from rfl,y5 h hv hne]at this
 exact this
theorem A2 {a b:Int}(h:a≤b)(h1: -1048576≤a)(h2:b≤1048576):Fine [(a,b)]:=by
 have hv:vals [(a,b)]=rng a b:=by
  show rng a b++[]=_
  rw[List.append_nil]
 refine⟨⟨fun r hr=> ?_,by simp⟩,?_,?_⟩
 ·obtain rfl:=List.mem_singleton.1 hr;exact h
 ·rw[hv];intro v hm
  have:=cA.1 hm
  omega
 ·rw[hv];simp[rng];omega
def nv (n:Nat)(g:Int→Int):List Int:=(List.range n).map fun j:Nat=>g (j:Int)
theorem lD {n:Nat}{g:Int→Int}{v:Int}(h:0≤v∧v.toNat<n):atR (nv n g) v=g v:=by
 unfold atR nv
 rw[if_neg (by omega),List.getD_eq_getElem?_getD,List.getElem?_map,List.getElem?_range h.2]
 show g ((v.toNat:Nat):Int)=g v
 congr 1;omega
theorem q8 {vars a b:List Int}(h: ∀u∈vars,atR a u=atR b u):aY vars a=aY vars b:=List.map_congr_left h
theorem uN {vars coefs a b:List Int}(h: ∀u∈vars,atR a u=atR b u):uP vars coefs a=uP vars coefs b:=by
 unfold uP
 have: ∀(l:List (Int×Int)) (n:Int),(∀p∈l,atR a p.1=atR b p.1)→l.foldl (fun n p=>IntKind.i64.wrap (n+IntKind.i64.wrap (p.2*atR a p.1))) n=l.foldl (fun n p=>IntKind.i64.wrap (n+IntKind.i64.wrap (p.2*atR b p.1))) n:=by
  intro l
  induction l with
  |nil=>intro n _;rfl
  |cons p l ih=>
   intro n hp
   rw[List.foldl_cons,List.foldl_cons,hp p (.head _)]
   exact ih _ fun q hq=>hp q (.tail _ hq)
 exact this _ _ fun p hp=>h _ (List.of_mem_zip hp).1
theorem uses_mem {c:Con}{u:Int}:u∈usesR c↔u∈c.vars∨c.kind=4∧u=c.b:=by
 unfold usesR
 rw[bH]
 split
 ·rename_i h;simp[h]
 ·rename_i h;simp[h]
theorem tQ {c:Con}{a b:List Int}(h: ∀u∈usesR c,atR a u=atR b u):bS c a=bS c b:=by
 have hv: ∀u∈c.vars,atR a u=atR b u:=fun u hu=>h u (uses_mem.2 (.inl hu))
 have e1:=q8 hv
 have e2:soR c a=soR c b:=by unfold soR;rw[uN hv]
 unfold bS vO
 rw[e1,e2]
 by_cases hk:c.kind=4
 ·rw[h c.b (uses_mem.2 (.inr ⟨hk,rfl⟩))]
 ·simp only[if_neg hk]
theorem uO {vars coefs a:List Int}{g:Int→Int}(hl:vars.length=coefs.length)(hck: ∀k∈coefs,CoefOk k)(hw:ai coefs≤4611686018427388928)(ha: ∀u∈vars,atR a u=g u)(hb: ∀u∈vars,-1048576≤g u∧g u≤1048576):uP vars coefs a=dx vars coefs g:=by
 have key: ∀(l:List (Int×Int)) (n:Int),(∀p∈l,atR a p.1=g p.1∧(-1048576≤g p.1∧g p.1≤1048576)∧CoefOk p.2)→-4611686018427388928≤n-ai (l.map (·.2))→n+ai (l.map (·.2))≤4611686018427388928→
   l.foldl (fun n p=>IntKind.i64.wrap (n+IntKind.i64.wrap (p.2*atR a p.1))) n=n+(l.map fun p=>p.2*g p.1).sum:=by
  intro l
  induction l with
  |nil=>intro n _ _ _;simp
  |cons p l ih=>
   intro n hp h1 h2
   obtain⟨e,b,hk⟩:=hp p (.head _)
   have m:=dW p.2 (g p.1) b.1 b.2
   have hk2:=hk.2
   have hpos:=aS (l.map (·.2))
   have ew:ai ((p::l).map (·.2))=aF p.2*1048576+ai (l.map (·.2)):=by simp[ai]
   rw[ew]at h1 h2
   have hab:=bC p.2
   rw[List.foldl_cons,e,ac (n:=p.2*g p.1) (by omega) (by omega),ac (by omega) (by omega),ih _ (fun q hq=>hp q (.tail _ hq)) (by omega) (by omega)]
   simp only[List.map_cons,List.sum_cons]
   omega
 have e:(vars.zip coefs).map (·.2)=coefs:=List.map_snd_zip (by omega)
 have hp:=aS coefs
 unfold uP dx
 rw[key _ 0 (fun p hp=>⟨ha _ (List.of_mem_zip hp).1,hb _ (List.of_mem_zip hp).1,hck _ (List.of_mem_zip hp).2⟩) (by rw[e];omega) (by rw[e];omega),Int.zero_add]
theorem StepOK.iff' {n:Nat}{us:List Int}{P Q:(Int→Int)→Prop}{f:aa→Option aa}(h:StepOK n us P f)(hq: ∀g:Int→Int,(∀u∈us,-1048576≤g u∧g u≤1048576)→(P g↔Q g)):StepOK n us Q f:=by
 refine⟨h.takes,h.stays,h.off,fun e ge g he=>(h.point e ge g he).trans (hq g fun u hu=> ?_),h.in'⟩
 have hm:domAt e u∈e:=af (by rw[ge.len];exact(h.in' u hu).2)
 exact(ge.few.fine _ hm).val _ (by rw[he u hu];exact .head _)
theorem nodup_full: ∀(l s:List Int),s.Nodup→(∀x∈s,x∈l)→l.length≤s.length→l.Nodup
 | [],_,_,_,_=> .nil
 |x::l,s,hs,hm,hl=>by
  have hx:x∉l:=fun hx=>by
   have:=hs.length_le_of_subset (l₂:=l) fun y hy=>by
    rcases List.mem_cons.1 (hm y hy)with rfl|h
    ·exact hx
    ·exact h
   simp at hl;omega
  have h2: ∀y∈s.erase x,y∈l:=fun y hy=>by
   have:=(hs.mem_erase_iff).1 hy
   exact(List.mem_cons.1 (hm y this.2)).resolve_left this.1
  have h3:=List.length_erase_le (l:=s) (a:=x)
  have h4:s.length-1≤(s.erase x).length:=by
   rw[List.length_erase];split<;>omega
  exact List.nodup_cons.2 ⟨hx,nodup_full l (s.erase x) (hs.erase x) h2 (by simp at hl;omega)⟩
theorem pC {l:List Int}:(aT l).length=l.length↔l.Nodup:=by
 constructor
 ·intro h
  exact nodup_full l (aT l) (dw (bW l)) (fun x hx=>(bH x l).1 hx) (by omega)
 ·intro h
  have h1:=(dw (bW l)).length_le_of_subset (l₂:=l) fun x hx=>(bH x l).1 hx
  have h2:=h.length_le_of_subset (l₂:=aT l) fun x hx=>(bH x l).2 hx
  omega
noncomputable def bK (c:Con)(d:aa):Option aa:=
 if c.kind=0 then gD c d else
 if c.kind=1 then gT d c.vars else
 if c.kind=4 then nR c d else
 if c.kind=6 then vG c d else
 k7 d (usesR c) fun t=>bS c (ex d.length (usesR c) t (usesR c).length)
theorem wy {n:Nat}{d:aa}{c:Con}(gd:GoodD n d)(h:SumOk d c):LinC n c:=by
 have hv:jL d c.vars:=⟨h.nod,h.fine.vin⟩
 exact⟨⟨h.fine.len,fun v hv=>by have:=h.fine.vin v hv;rwa[gd.len]at this,h.fine.ck,h.nod,h.big,hv.few gd.few⟩,h.pos,h.op⟩
theorem di {d:aa}{c:Con}(hc:ConB c)(h:conR d c=0):(0≤c.kind∧c.kind≤6)∧cK d c∧rightR d c=true∧∀u∈usesR c,0≤u∧u.toNat<d.length:=by
 obtain⟨h1,h2⟩:=rI hc h
 unfold conR at h
 split at h
 ·cases h
 ·split at h
  ·cases h
  ·rename_i h3 h4
   refine⟨by omega,h1,h2,fun u hu=> ?_⟩
   have h4:(usesR c).all (inD d)=true:=by simpa using h4
   exact ld.1 (List.all_eq_true.1 h4 u hu)
theorem x4 {n:Nat}{c:Con}(hin: ∀u∈usesR c,0≤u∧u.toNat<n)(hne:usesR c≠[]):StepOK n (usesR c) (fun g=>bS c (nv n g)=true) fun d=>k7 d (usesR c) fun t=>bS c (ex d.length (usesR c) t (usesR c).length):=by
 have hnd:(usesR c).Nodup:=dw (bW _)
 refine((BA (P:=fun t=>bS c (ex n (usesR c) t (usesR c).length)) hnd hin hne).step.congr fun d gd=>by rw[gd.len]).iff fun g=> ?_
 rw[tQ (b:=nv n g) fun u hu=> ?_]
 rw[lD (hin u hu)]
 exact li g hin hu
def RightC (d:aa)(c:Con):Prop:=conR d c=0∨(c.kind=0∧SumOk d c)
theorem pH {d:aa}{c:Con}(hc:ConB c)(h:RightC d c):(0≤c.kind∧c.kind≤6)∧cK d c∧∀u∈usesR c,0≤u∧u.toNat<d.length:=by
 rcases h with h|⟨hk,hs⟩
 ·obtain⟨h1,h2,_,h3⟩:=di hc h
  exact⟨h1,h2,h3⟩
 ·refine⟨by omega,⟨hs.fine.vl,hs.fine.vin⟩,fun u hu=> ?_⟩
  rcases uses_mem.1 hu with hu|⟨h4,_⟩
  ·exact hs.fine.vin u hu
  ·omega
theorem xP {n:Nat}{d:aa}{c:Con}(gd:GoodD n d)(hc:ConB c)(h:conR d c=0):StepOK n (usesR c) (fun g=>(c.kind=4→0≤g c.b∧g c.b≤1)→bS c (nv n g)=true) (bK c):=by
 obtain⟨hk,hv,hr,hin⟩:=di hc h
 rw[gd.len]at hin
 have hpick: ∀g:Int→Int,aY c.vars (nv n g)=c.vars.map g:=fun g=>List.map_congr_left fun u hu=>lD (hin u (uses_mem.2 (.inl hu)))
 have hvu: ∀u∈c.vars,u∈usesR c:=fun u hu=>uses_mem.2 (.inl hu)
 have hdl:=gd.few.small
 by_cases h0:c.kind=0
 ·have hs:=wy gd (qX hc h h0 gd.few.fine hdl)
  refine(((k5 hs).wide hvu hin).congr fun d gd=>by unfold bK;rw[if_pos h0]).iff' fun g hg=> ?_
  have hb:=hs.sum.big
  have:=bC c.rhs
  unfold bS soR
  rw[if_pos h0,uO hs.sum.vl hs.sum.ck (by omega) (fun u hu=>lD (hin u (hvu u hu))) fun u hu=>hg u (hvu u hu)]
  exact⟨fun h _=>h,fun h=>h fun e=>by omega⟩
 ·by_cases h1:c.kind=1
  ·have hm:0<c.vars.length∧c.vars.Nodup:=by
    unfold rightR at hr
    rw[if_neg h0,if_pos h1]at hr
    simp only[manyR,Bool.and_eq_true,decide_eq_true_eq]at hr
    exact hr.2
   refine(((BB (n:=n) ⟨hm.2,fun v hv=>hin v (hvu v hv)⟩ (List.ne_nil_of_length_pos hm.1)).step.wide hvu hin).congr fun d gd=>by unfold bK;rw[if_neg h0,if_pos h1]).iff fun g=> ?_
   unfold bS
   rw[if_neg h0,if_pos h1,hpick,decide_eq_true_eq,decide_eq_true_eq,pC]
   exact⟨fun h _=>h,fun h=>h fun e=>by omega⟩
  ·by_cases h4:c.kind=4
   ·have hrf:=wF hc h h4 gd.few.fine hdl
    have hrc:ReifC n c:=by
     refine⟨wy gd hrf.sum,wy gd hrf.sumN,by have:=hrf.b;rwa[gd.len]at this,hrf.apart,?_⟩
     obtain⟨_,hbg⟩:=oY (jt h)
     have:=aS c.coefs
     omega
    have hu4: ∀u∈c.vars++[c.b],u∈usesR c:=fun u hu=>by
     rcases List.mem_append.1 hu with hu|hu
     ·exact hvu u hu
     ·exact uses_mem.2 (.inr ⟨h4,List.mem_singleton.1 hu⟩)
    refine(((xA hrc).wide hu4 hin).congr fun d gd=>by unfold bK;rw[if_neg h0,if_neg h1,if_pos h4]).iff' fun g hg=> ?_
    have hs:=hrc.yes.sum
    have hb:ai c.coefs≤4611686018427388928∧aF c.rhs≤4611686018427388928:=hs.big
    have:=bC c.rhs
    have e1:uP c.vars c.coefs (nv n g)=dx c.vars c.coefs g:=uO hs.vl hs.ck (by omega) (fun u hu=>lD (hin u (hvu u hu))) fun u hu=>hg u (hvu u hu)
    have e2:atR (nv n g) c.b=g c.b:=lD hrc.b
    unfold bS soR
    rw[if_neg h0,if_neg h1,if_neg (by omega),if_neg (by omega),if_pos h4,e1,e2]
    simp only[Bool.or_eq_true,Bool.and_eq_true,decide_eq_true_eq,Bool.not_eq_true']
    exact⟨fun h hh=>h (hh h4),fun h hh=>h fun _=>hh⟩
   ·by_cases h6:c.kind=6
    ·have hev:c.vars.length % 2=0:=by
      unfold rightR at hr
      rw[if_neg h0,if_neg h1,if_neg (by omega),if_neg (by omega),if_neg h4,if_neg (by omega)]at hr
      simp only[Bool.and_eq_true,decide_eq_true_eq]at hr
      exact hr.2
     refine(((zx (n:=n) ⟨fun v hv=>hin v (hvu v hv)⟩ hv.1 hev).wide hvu hin).congr fun d gd=>by unfold bK;rw[if_neg h0,if_neg h1,if_neg h4,if_pos h6]).iff fun g=> ?_
     unfold bS vO
     rw[if_neg h0,if_neg h1,if_neg (by omega),if_neg (by omega),if_neg h4,if_neg (by omega),hpick,decide_eq_true_eq]
     exact⟨fun h _=>h,fun h=>h fun e=>by omega⟩
    ·have hne:usesR c≠[]:=by
      have hpos:0<c.vars.length:=by
       unfold rightR at hr
       rw[if_neg h0,if_neg h1]at hr
       by_cases h2:c.kind=2
       ·rw[if_pos h2]at hr
        simp only[manyR,Bool.and_eq_true,decide_eq_true_eq]at hr
        exact hr.1.2.1
       ·rw[if_neg h2]at hr
        by_cases h3:c.kind=3
        ·rw[if_pos h3]at hr
         simp only[manyR,Bool.and_eq_true,decide_eq_true_eq]at hr
         omega
        ·rw[if_neg h3,if_neg h4,if_pos (by omega)]at hr
         simp only[sumR,Bool.and_eq_true,decide_eq_true_eq]at hr
         exact hr.1.2.1.1.2
      intro e
      have:=hvu _ (List.getElem_mem hpos)
      rw[e]at this;cases this
     refine((x4 hin hne).congr fun d gd=>by unfold bK;rw[if_neg h0,if_neg h1,if_neg h4,if_neg h6]).iff fun g=> ?_
     exact⟨fun h _=>h,fun h=>h fun e=>absurd e h4⟩
theorem s5 {n:Nat}{d:aa}{c:Con}(gd:GoodD n d)(hc:ConB c)(h:RightC d c):StepOK n (usesR c) (fun g=>(c.kind=4→0≤g c.b∧g c.b≤1)→bS c (nv n g)=true) (bK c):=by
 rcases h with h|⟨h0,hs⟩
 ·exact xP gd hc h
 ·obtain⟨_,_,hin⟩:=pH hc (.inr ⟨h0,hs⟩)
  rw[gd.len]at hin
  have hvu: ∀u∈c.vars,u∈usesR c:=fun u hu=>uses_mem.2 (.inl hu)
  have hs:=wy gd hs
  refine(((k5 hs).wide hvu hin).congr fun d gd=>by unfold bK;rw[if_pos h0]).iff' fun g hg=> ?_
  have hb:=hs.sum.big
  unfold bS soR
  rw[if_pos h0,uO hs.sum.vl hs.sum.ck (by omega) (fun u hu=>lD (hin u (hvu u hu))) fun u hu=>hg u (hvu u hu)]
  exact⟨fun h _=>h,fun h=>h fun e=>by omega⟩
def dy:List Nat→Nat
 | []=>1
 |n::l=>n*dy l
theorem e8: ∀(l m:List Nat),dy (l++m)=dy l*dy m
 | [],m=>by simp[dy]
 |n::l,m=>by rw[List.cons_append,dy,dy,e8 l m,Nat.mul_assoc]
theorem pM: ∀{l:List Nat},(∀x∈l,1≤x)→1≤dy l
 | [],_=>Nat.le_refl _
 |n::l,h=>Nat.mul_pos (h n (.head _)) (pM fun x hx=>h x (.tail _ hx))
def prodD (d:aa):Nat:=dy (d.map fun x=>(vals x).length)
theorem u5 (d:aa)(x:List (Int×Int)):prodD (d++[x])=prodD d*(vals x).length:=by
 unfold prodD;rw[List.map_append,e8];simp[dy]
theorem y6 {a b:aa}(hl:a.length=b.length)(h: ∀(i:Nat) x y,a[i]? =some x→b[i]? =some y→(vals x).length≤(vals y).length):prodD a≤prodD b:=by
 induction a generalizing b with
 |nil=>
  cases b with
  |nil=>exact Nat.le_refl _
  |cons y b=>simp at hl
 |cons x a ih=>
  cases b with
  |nil=>simp at hl
  |cons y b=>exact Nat.mul_le_mul (h 0 x y rfl rfl) (ih (by simpa using hl) fun i u v hu hv=>h (i+1) u v hu hv)
theorem GoodD.one {n:Nat}{d:aa}(h:GoodD n d): ∀x∈d,1≤(vals x).length:=fun x hx=>by
 have hok:=(h.few.fine x hx).ok
 have:vals x≠[]:=fun e=>h.some' ((eZ hok).1 e▸hx)
 exact List.length_pos_iff.2 this
theorem xE {n:Nat}{a b:aa}(ha:GoodD n a)(hb:GoodD n b)(h:leD a b):prodD a≤prodD b:=by
 refine y6 (ha.len.trans hb.len.symm) fun i x y hx hy=> ?_
 have hi:=(List.getElem?_eq_some_iff.1 hx).1
 have hj:=(List.getElem?_eq_some_iff.1 hy).1
 have h1:=(ha.few.fine x (List.mem_of_getElem? hx)).ok
 refine bU (aE h1) fun v hv=> ?_
 have:=h.2 (i:Int) v (by omega) (by rw[oS hi,(List.getElem?_eq_some_iff.1 hx).2];exact hv)
 rwa[oS hj,(List.getElem?_eq_some_iff.1 hy).2]at this
end Go.Proofs.YtopcjbahjjhdmaaGreat
namespace Go.Proofs.YtopcjbahjjhdmaaGreat
open Go Go.Shelf Go.RowKit
def pa:Go.Shelf.Ren:=⟨fun|6=>228|15=>124|14=>242|28=>165|29=>166|20=>244|21=>245|22=>246|23=>247|24=>248|25=>249|26=>250|27=>251|46=>252|47=>216|48=>217|49=>253|50=>254|57=>255|n=>n,fun|22=>54|24=>53|25=>215|3=>3|39=>146|0=>0|53=>173|55=>159|4=>4|46=>166|45=>165|50=>115|5=>5|9=>9|66=>204|70=>208|76=>221|77=>222|n=>n,fun|n=>n⟩
theorem qa:Go.Proofs.SlLaysF0.n6 Tryz.prog pa:= {
 mixed:=by kernel_rfl
 f6:=⟨Tryz.f228.name,by decide,Tryz.func228.trans (congrArg some (by kernel_rfl))⟩
 f14:=⟨Tryz.f242.name,by decide,Tryz.func242.trans (congrArg some (by kernel_rfl))⟩
 f15:=Tryz.func124.trans (congrArg some (by kernel_rfl))
 f20:=⟨Tryz.f244.name,by decide,Tryz.func244.trans (congrArg some (by kernel_rfl))⟩
 f21:=⟨Tryz.f245.name,by decide,Tryz.func245.trans (congrArg some (by kernel_rfl))⟩
 f22:=⟨Tryz.f246.name,by decide,Tryz.func246.trans (congrArg some (by kernel_rfl))⟩
 f23:=⟨Tryz.f247.name,by decide,Tryz.func247.trans (congrArg some (by kernel_rfl))⟩
 f24:=⟨Tryz.f248.name,by decide,Tryz.func248.trans (congrArg some (by kernel_rfl))⟩
 f25:=⟨Tryz.f249.name,by decide,Tryz.func249.trans (congrArg some (by kernel_rfl))⟩
 f26:=⟨Tryz.f250.name,by decide,Tryz.func250.trans (congrArg some (by kernel_rfl))⟩
 f27:=⟨Tryz.f251.name,by decide,Tryz.func251.trans (congrArg some (by kernel_rfl))⟩
 f28:=Tryz.func165.trans (congrArg some (by kernel_rfl))
 f29:=Tryz.func166.trans (congrArg some (by kernel_rfl))
 f46:=⟨Tryz.f252.name,by decide,Tryz.func252.trans (congrArg some (by kernel_rfl))⟩
 f47:=Tryz.func216.trans (congrArg some (by kernel_rfl))
 f48:=Tryz.func217.trans (congrArg some (by kernel_rfl))
 f49:=⟨Tryz.f253.name,by decide,Tryz.func253.trans (congrArg some (by kernel_rfl))⟩
 f50:=⟨Tryz.f254.name,by decide,Tryz.func254.trans (congrArg some (by kernel_rfl))⟩
 f57:=⟨Tryz.f255.name,by decide,Tryz.func255.trans (congrArg some (by kernel_rfl))⟩
 t0:=Tryz.underlying0
 a0:=Tryz.isAgg0
 z0:=Tryz.sizeOf0
 v0:=Tryz.zeroValue0
 t3:=Tryz.underlying3
 a3:=Tryz.isAgg3
 z3:=Tryz.sizeOf3
 v3:=Tryz.zeroValue3
 t4:=Tryz.underlying4
 a4:=Tryz.isAgg4
 z4:=Tryz.sizeOf4
 v4:=Tryz.zeroValue4
 t5:=Tryz.underlying5
 a5:=Tryz.isAgg5
 z5:=Tryz.sizeOf5
 v5:=Tryz.zeroValue5
 t9:=Tryz.underlying9
 a9:=Tryz.isAgg9
 z9:=Tryz.sizeOf9
 v9:=Tryz.zeroValue9
 t22:=Tryz.underlying54
 a22:=Tryz.isAgg54
 z22:=Tryz.sizeOf54
 v22:=Tryz.zeroValue54
 t25:=Tryz.underlying215
 a25:=Tryz.isAgg215
 z25:=Tryz.sizeOf215
 v25:=Tryz.zeroValue215
 t39:=Tryz.underlying146
 a39:=Tryz.isAgg146
 z39:=Tryz.sizeOf146
 v39:=Tryz.zeroValue146
 t45:=Tryz.underlying165
 a45:=Tryz.isAgg165
 z45:=Tryz.sizeOf165
 v45:=Tryz.zeroValue165
 t46:=Tryz.underlying166
 a46:=Tryz.isAgg166
 z46:=Tryz.sizeOf166
 v46:=Tryz.zeroValue166
 t50:=Tryz.underlying115
 a50:=Tryz.isAgg115
 z50:=Tryz.sizeOf115
 v50:=Tryz.zeroValue115
 t53:=Tryz.underlying173
 a53:=Tryz.isAgg173
 z53:=Tryz.sizeOf173
 v53:=Tryz.zeroValue173
 t55:=Tryz.underlying159
 a55:=Tryz.isAgg159
 z55:=Tryz.sizeOf159
 v55:=Tryz.zeroValue159
 t66:=Tryz.underlying204
 a66:=Tryz.isAgg204
 z66:=Tryz.sizeOf204
 v66:=Tryz.zeroValue204
 t70:=Tryz.underlying208
 a70:=Tryz.isAgg208
 z70:=Tryz.sizeOf208
 v70:=Tryz.zeroValue208
 t76:=Tryz.underlying221
 a76:=Tryz.isAgg221
 z76:=Tryz.sizeOf221
 v76:=Tryz.zeroValue221
 t77:=Tryz.underlying222
 a77:=Tryz.isAgg222
 z77:=Tryz.sizeOf222
 v77:=Tryz.zeroValue222 }
end Go.Proofs.YtopcjbahjjhdmaaGreat
namespace Go.Proofs.YtopcjbahjjhdmaaGreat
open Go Go.Shelf Go.RowKit
def lS:Go.Shelf.Ren:=⟨fun|20=>87|n=>n,fun|22=>24|3=>3|4=>4|0=>0|n=>n,fun|n=>n⟩
theorem kQ:Go.Proofs.Lays2.n20 Tryz.prog lS:= {
 mixed:=by kernel_rfl
 f20:=Tryz.func87.trans (congrArg some (by kernel_rfl))
 t0:=Tryz.underlying0
 a0:=Tryz.isAgg0
 z0:=Tryz.sizeOf0
 v0:=Tryz.zeroValue0
 t3:=Tryz.underlying3
 a3:=Tryz.isAgg3
 z3:=Tryz.sizeOf3
 v3:=Tryz.zeroValue3
 t4:=Tryz.underlying4
 a4:=Tryz.isAgg4
 z4:=Tryz.sizeOf4
 v4:=Tryz.zeroValue4
 t22:=Tryz.underlying24
 a22:=Tryz.isAgg24
 z22:=Tryz.sizeOf24
 v22:=Tryz.zeroValue24
 i3:=by kernel_rfl }
open Go.RowKit Go.Lib Go.Sort in
theorem iF (blk off cap:Nat)(zs:List Int)(w:World)(hH:Holds (Value.int .i64) w blk off zs.toArray)(hsz:zs.length≤9223372036854775807)(hcap:zs.length≤cap):
  Calls Tryz.prog 87 #[.slice (some ⟨blk,off,none⟩) zs.length cap] w fun e w'=>e= .returned (.slice (some ⟨blk,off,none⟩) (Lib.compact zs).length cap)∧∃q,w'=putRow (Value.int .i64) (Sort.ahead w q) blk off (Lib.compact zs++List.replicate (zs.length-(Lib.compact zs).length) 0).toArray:=Any.slices_Compact_int kQ blk off cap zs w hH hsz hcap
open Go.RowKit Go.Lib Go.Sort in
theorem fg (a:Option Addr)(cap:Nat)(w:World):
  Calls Tryz.prog 87 #[.slice a 0 cap] w fun e w'=>e= .returned (.slice a 0 cap)∧w'=w:=Any.slices_Compact_int_empty kQ a cap w
end Go.Proofs.YtopcjbahjjhdmaaGreat
namespace Go.Proofs.YtopcjbahjjhdmaaGreat
open Go Go.RowKit Go.Sort
set_option linter.unusedVariables false
set_option linter.unusedSimpArgs false
set_option maxRecDepth 8000
theorem y4 {w:World}{g cap n:Nat}{e:TypeId}{cur:Array Value}{ts:List Int}(k:Nat)(hb:w.heap[g]? =some (.cells cur e (0,0)))(hk:k≤ts.length)(hcap:ts.length≤cap)(hmax:cap≤maxLen)(hsz:cur.size=cap*1){w':World}(hw:w'=putRow (Value.int .i64) (Sort.ahead w n) g 0 ts.toArray):
  w'.os=w.os∧w'.tape=w.tape∧w'.output=w.output∧w.heap.size≤w'.heap.size∧(∀b,b<w.heap.size→b≠g→w'.heap[b]? =w.heap[b]?)∧w'.ownsRow 0 e 1 (.slice (some ⟨g,0,none⟩) k cap) k ((ts.take k).map (Value.int .i64)):=by
 subst hw
 refine⟨rfl,rfl,rfl,by simp,fun b hb hne=> ?_,?_⟩
 ·simp[putRow,mapBlock,Sort.ahead,Array.getElem?_modify,Ne.symm hne]
 ·have hh:(putRow (Value.int .i64) (Sort.ahead w n) g 0 ts.toArray).heap[g]? =some (.cells (Go.Sort.putCells (Value.int .i64) 0 ts.toArray cur) e (0,0)):=by
   simp[putRow,mapBlock,Sort.ahead,Array.getElem?_modify,hb,onCells]
  have ht:=take_putCellsI cur ts (by omega)
  refine⟨by simp;omega,.inr ⟨g,cap,_,rfl,Nat.zero_le _,hh,by omega,hmax,by simp[Go.Sort.putCells,hsz],?_⟩⟩
  rw[Nat.mul_one,List.map_take,←ht,List.take_take,Nat.min_eq_left hk]
theorem y7 {f:FuncId} {fn:Func} {us:List Value} {cs:List Own} (l:List Int) (args:List PV) (l':List Int) (hl:l.length*8≤140737488355328) (hll:l'.length≤l.length) (hf:Tryz.prog.funcs[f]? =some fn) (hb:fn.body.isSome=true) (hn:(fn.name== "runtime.NumGoroutine")=false)
  (h0:l=[]→∀(w:World) (vs:List Value),L2 (Rep w fun _=>True) vs args→Calls Tryz.prog f (.slice none 0 0::vs).toArray w fun e w'=>e= .returned (.slice none 0 0)∧w'=w)
  (h1: ∀(g cap:Nat) (w:World) (vs:List Value),Holds (Value.int .i64) w g 0 l.toArray→g<w.heap.size→l.length≤cap→L2 (aq w fun _ b=>b≠g∧Off us b) us cs→gq us→(∀u g',u∈us→VB u g'→g'≠g)→L2 (Rep w fun b=>b≠g∧Off us b) vs args→
   Calls Tryz.prog f (.slice (some ⟨g,0,none⟩) l.length cap::vs).toArray w fun e w'=>e= .returned (.slice (some ⟨g,0,none⟩) l'.length cap)∧∃q,w'=putRow (Value.int .i64) (Sort.ahead w q) g 0 (l'++List.replicate (l.length-l'.length) 0).toArray):
  SpecP Tryz.prog f us cs 3 1 (l.map cI) args (l'.map cI):=by
 refine⟨⟨fn,hf,hb,hn⟩,fun w Z1 v0 vs ho hz hus hap hdis hvs=> ?_⟩
 obtain⟨xs,hrow,hx,_,_⟩:=ho
 rw[show(l.map cI).flatten=l.map (PV.int .i64)from qz _ l]at hx
 obtain rfl:=oE hx
 rw[List.length_map]at hrow
 obtain⟨hln,hrow⟩:=hrow
 have hfin: ∀(w':World) (v:Value),w'.ownsRow 0 3 1 v l'.length (l'.map (Value.int .i64))→aq w' (fun _ b=>Z1 b∧¬VB v b) v (.sl 3 1 true (l'.map cI)):=fun w' v h=>by
  refine⟨l'.map (Value.int .i64),by rw[List.length_map];exact h,?_,fun r hr=>by obtain⟨x,_,rfl⟩:=List.mem_map.1 hr;rfl,fun r hr p hp=>by obtain⟨x,_,rfl⟩:=List.mem_map.1 hr;simp[cI]at hp;rw[hp];rfl⟩
  rw[show(l'.map cI).flatten=l'.map (PV.int .i64)from qz _ _]
  exact lG _
 rcases hrow with ⟨rfl,hnil⟩|⟨g,cap,cur,rfl,_,hb,hcap,hmax,hsz,htk⟩
 ·obtain rfl:l=[]:=by simpa using hnil
  obtain rfl:l'=[]:=by cases l' with|nil=>rfl|cons _ _=>simp at hll
  refine(h0 rfl w vs (hvs.imp fun _ _ h=>h.mono fun _ _ _=>⟨trivial,rfl⟩)).mono ?_
  rintro e w' ⟨rfl,rfl⟩
  exact⟨_,rfl,rfl,rfl,rfl,Nat.le_refl _,fun _ _ _=>rfl,hfin _ _ ⟨rfl,.inl ⟨rfl,rfl⟩⟩,fun g hg=> .inl hg⟩
 ·have hg:g<w.heap.size:=(Array.getElem?_eq_some_iff.1 hb).1
  have hvb: ∀b,VB (.slice (some ⟨g,0,none⟩) l.length cap) b↔b=g:=fun b=>by simp[VB,au];exact eq_comm
  rw[Nat.mul_one]at htk
  have hZ: ∀b,(¬VB (.slice (some ⟨g,0,none⟩) l.length cap) b∧Off us b)→b≠g∧Off us b:=fun b h=>⟨fun e=>h.1 ((hvb b).2 e),h.2⟩
  refine(h1 g cap w vs (holds_of_blockI hb htk) hg (by simpa using hcap) (hus.imp fun u c h=>n3 h fun b hb=>hZ b hb) hap (fun u g' hu hv e=>hdis u g' hu hv ((hvb g').2 e)) (hvs.imp fun _ _ h=>h.mono fun b hb _=>⟨hZ b hb,rfl⟩)).mono ?_
  rintro e w' ⟨rfl,q,hw⟩
  have htl:(l'++List.replicate (l.length-l'.length) (0:Int)).length=l.length:=by simp;omega
  obtain⟨a1,a2,a3,a4,a5,a6⟩:=y4 (ts:=l'++List.replicate (l.length-l'.length) 0) l'.length hb (by omega) (by rw[htl];simpa using hcap) hmax hsz hw
  rw[List.take_left]at a6
  exact⟨_,rfl,a1,a2,a3,a4,fun b hb hn=>a5 b hb fun e=>hn ((hvb b).2 e),hfin _ _ a6,fun g' hg'=> .inl ((hvb g').2 (by simpa[VB,au,eq_comm]using hg'))⟩
theorem ip (l:List Int)(hl:l.length*8≤140737488355328):SpecP Tryz.prog 87 [] [] 3 1 (l.map cI) [] ((Lib.compact l).map cI):=by
 have hle:(Lib.compact l).length≤l.length:=by
  unfold Lib.compact Lib.compactUpTo
  rw[List.length_map]
  exact Nat.le_trans (List.length_filter_le _ _) (by simp)
 refine y7 l [] (Lib.compact l) hl hle Tryz.func87 rfl rfl (fun h w vs hvs=> ?_) (fun g cap w vs hH hg hc _ _ _ hvs=> ?_)
 ·cases hvs
  exact fg none 0 w
 ·cases hvs
  exact iF g 0 cap l w hH (by omega) hc
theorem vY {l:List Int}(h:l.Pairwise (· ≤ ·)):Up (Lib.compact l)∧∀x,x∈Lib.compact l↔x∈l:=by
 have hget: ∀j,j<l.length→l.toArray[j]! =l.getD j 0:=fun j hj=>by
  rw[List.getD_eq_getElem?_getD,List.getElem?_eq_getElem hj]
  simp[hj]
 have hle: ∀i j,i≤j→j<l.length→l.getD i 0≤l.getD j 0:=fun i j hij hj=>by
  rw[List.getD_eq_getElem?_getD,List.getD_eq_getElem?_getD,List.getElem?_eq_getElem hj,List.getElem?_eq_getElem (by omega)]
  by_cases e:i=j
  ·subst e;exact Int.le_refl _
  ·exact List.pairwise_iff_getElem.1 h i j (by omega) hj (by omega)
 have key: ∀m,m≤l.length→Up (Lib.compactUpTo l.toArray m)∧(∀x,x∈Lib.compactUpTo l.toArray m↔∃j,j<m∧l.getD j 0=x):=by
  intro m
  induction m with
  |zero=>intro _;exact⟨by simp[Lib.compactUpTo,Up],by simp[Lib.compactUpTo]⟩
  |succ m ih=>
   intro hm
   obtain⟨h1,h2⟩:=ih (by omega)
   rw[Lib.compactUpTo_succ]
   by_cases hk:Lib.keeps l.toArray m=true
   ·rw[if_pos hk,hget m (by omega)]
    refine⟨List.pairwise_append.2 ⟨h1,List.pairwise_singleton _ _,fun x hx y hy=> ?_⟩,fun x=> ?_⟩
    ·obtain⟨j,hj,rfl⟩:=(h2 x).1 hx
     rw[List.mem_singleton.1 hy]
     have e1:=hle j (m-1) (by omega) (by omega)
     have e2:=hle (m-1) m (by omega) (by omega)
     simp only[Lib.keeps,decide_eq_true_eq]at hk
     have hne:l.toArray[m]! ≠l.toArray[m-1]! :=hk.resolve_left (by omega)
     rw[hget m (by omega),hget (m-1) (by omega)]at hne
     omega
    ·rw[List.mem_append,h2,List.mem_singleton]
     constructor
     ·rintro(⟨j,hj,e⟩|rfl)
      ·exact⟨j,by omega,e⟩
      ·exact⟨m,by omega,rfl⟩
     ·rintro⟨j,hj,e⟩
      by_cases hjm:j=m
      ·subst hjm;exact .inr e.symm
      ·exact .inl ⟨j,by omega,e⟩
   ·rw[if_neg hk,List.append_nil]
    refine⟨h1,fun x=> ?_⟩
    rw[h2]
    constructor
    ·rintro⟨j,hj,e⟩;exact⟨j,by omega,e⟩
    ·rintro⟨j,hj,e⟩
     by_cases hjm:j=m
     ·subst hjm
      simp only[Lib.keeps,decide_eq_true_eq,not_or,ne_eq,Classical.not_not]at hk
      have:=hk.2
      rw[hget j (by omega),hget (j-1) (by omega)]at this
      exact⟨j-1,by omega,by rw[←this];exact e⟩
     ·exact⟨j,by omega,e⟩
 obtain⟨h1,h2⟩:=key l.length (Nat.le_refl _)
 refine⟨h1,fun x=> ?_⟩
 rw[show Lib.compact l=Lib.compactUpTo l.toArray l.length from rfl,h2]
 constructor
 ·rintro⟨j,hj,rfl⟩
  rw[List.getD_eq_getElem?_getD,List.getElem?_eq_getElem hj]
  exact List.getElem_mem hj
 ·intro hx
  obtain⟨j,hj,rfl⟩:=List.getElem_of_mem hx
  exact⟨j,hj,by rw[List.getD_eq_getElem?_getD,List.getElem?_eq_getElem hj];rfl⟩
theorem iq (l:List Int):Lib.compact (cN l)=aT l:=by
 have hs:(cN l).Pairwise (· ≤ ·):=by
  have:=List.pairwise_mergeSort (le:=fun x y:Int=>decide (x≤y)) (fun a b c h1 h2=>by simp at h1 h2⊢;omega) (fun a b=>by simp;omega) l
  exact this.imp fun h=>by simpa using h
 obtain⟨h1,h2⟩:=vY hs
 refine dP h1 (bW l) fun x=> ?_
 rw[h2,bH]
 exact(List.mergeSort_perm l _).mem_iff
theorem vv (c:Con)(hc:ConB c):Spec Tryz.prog 132 false [.agg (cC c)] [.own 3 1 ((usesR c).map cI)]:=by
 refine Spec.body Tryz.func132 rfl rfl rfl fun w0 Z0=> ?_
 obtain⟨h1,h2,h3,h4⟩:=hc
 unfold usesR
 have hll:((if c.kind=4 then c.vars++[c.b]else c.vars):List Int).length*8≤140737488355328:=by
  split
  ·simp;omega
  ·omega
 have fin: ∀(l:List Int),l.length*8≤140737488355328→(cN l).length*8≤140737488355328:=fun l h=>by
  rw[show(cN l).length=l.length from List.length_mergeSort ..];exact h
 refine .B ?_
 refine .C (dO c.vars (by omega)) ?_
 refine .B ?_
 refine T.cd rfl (fun hk=> ?_) (fun hk=> ?_)
 ·have hk:c.kind=4:=hk
  rw[if_pos hk]at hll⊢
  have hf:=fin _ hll
  refine .B ?_
  refine .V ?_
  refine J.aI rfl rfl rfl rfl rfl rfl rfl rfl rfl rfl rfl rfl rfl rfl rfl rfl rfl rfl rfl (by omega) ?_
  refine .B ?_
  refine J.cm rfl rfl rfl rfl rfl rfl rfl rfl rfl (jU (c.vars++[c.b]) hll) rfl rfl rfl ?_
  refine .B ?_
  refine J.cp (cs2:=[]) (qs:=[]) [] rfl rfl rfl rfl rfl rfl rfl rfl (ip _ hf) trivial rfl rfl rfl rfl rfl rfl ?_
  rw[iq]
  refine .B ?_
  exact⟨_,.o rfl rfl rfl (fun _=> .inl rfl) (by simp) .nil⟩
 ·have hk: ¬c.kind=4:=hk
  rw[if_neg hk]at hll⊢
  have hf:=fin _ hll
  refine .B ?_
  refine J.cm rfl rfl rfl rfl rfl rfl rfl rfl rfl (jU c.vars hll) rfl rfl rfl ?_
  refine .B ?_
  refine J.cp (cs2:=[]) (qs:=[]) [] rfl rfl rfl rfl rfl rfl rfl rfl (ip _ hf) trivial rfl rfl rfl rfl rfl rfl ?_
  rw[iq]
  refine .B ?_
  exact⟨_,.o rfl rfl rfl (fun _=> .inl rfl) (by simp) .nil⟩
end Go.Proofs.YtopcjbahjjhdmaaGreat
