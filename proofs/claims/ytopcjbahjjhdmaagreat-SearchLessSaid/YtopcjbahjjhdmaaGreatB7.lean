/- The texts LiC, LiD, LiE, LiF, PuG, FgC, FgD, PuF, FgE, LiG, PuH, PuK, PuS, LiI, PuU, PuV, PuW, PuX, PuY, PuZ, PvA, FuJ, PvB of the workplace, joined. -/
import Derived.Test.YtopcjbahjjhdmaaGreatB6
namespace Go.Proofs.YtopcjbahjjhdmaaGreat
open Go Go.RowKit
set_option linter.unusedVariables false
set_option linter.unusedSimpArgs false
def bU:List (Int×List (Int×Int))→aa→aa
 | [],d=>d
 |p::ps,d=>bU ps (d.set p.1.toNat p.2)
theorem jZ: ∀(ps:List (Int×List (Int×Int))) (d:aa),(bU ps d).length=d.length
 | [],d=>rfl
 |p::ps,d=>by rw[bU,jZ ps,DI]
theorem cU: ∀(ps:List (Int×List (Int×Int))) (d:aa) (i:Nat),(∀p∈ps,p.1.toNat≠i)→(bU ps d)[i]? =d[i]?
 | [],d,i,_=>rfl
 |p::ps,d,i,h=>by
  rw[bU,cU ps _ i fun q hq=>h q (.tail _ hq),D2 (h p (.head _))]
def rg (ps:List (Int×List (Int×Int))):Prop:=ps.Pairwise fun p q=>p.1.toNat≠q.1.toNat
theorem dK: ∀{ps:List (Int×List (Int×Int))} {d:aa},rg ps→(∀p∈ps,p.1.toNat<d.length)→∀p∈ps,(bU ps d)[p.1.toNat]? =some p.2
 |q::ps,d,ha,hl,p,hp=>by
  have h1:=List.pairwise_cons.1 ha
  rw[bU]
  rcases List.mem_cons.1 hp with rfl|hp
  ·rw[cU ps _ _ fun r hr=>Ne.symm (h1.1 r hr),DH (hl _ (.head _))]
  ·exact dK h1.2 (fun r hr=>by rw[DI];exact hl r (.tail _ hr)) p hp
theorem mH: ∀(ps:List (Int×List (Int×Int))) (p:Int×List (Int×Int)) (d:aa),bU (ps++[p]) d=(bU ps d).set p.1.toNat p.2
 | [],p,d=>rfl
 |q::ps,p,d=>by rw[Dq,bU,bU,mH ps]
theorem setAll_mem {ps:List (Int×List (Int×Int))}{d:aa}(ha:rg ps)(hl: ∀p∈ps,p.1.toNat<d.length){x:List (Int×Int)}:x∈bU ps d→x∈d∨∃p∈ps,p.2=x:=by
 intro h
 obtain⟨i,hi⟩:=List.mem_iff_getElem?.1 h
 by_cases he: ∃p∈ps,p.1.toNat=i
 ·obtain⟨p,hp,rfl⟩:=he
  rw[dK ha hl p hp]at hi
  exact .inr ⟨p,hp,C2 hi⟩
 ·rw[cU ps d i fun p hp e=>he ⟨p,hp,e⟩]at hi
  exact .inl (C4 hi)
theorem vm {ps:List (Int×List (Int×Int))}{d:aa}(ha:rg ps)(hl: ∀p∈ps,p.1.toNat<d.length){p}(hp:p∈ps):p.2∈bU ps d:=C4 (dK ha hl p hp)
theorem sU {ps:List (Int×List (Int×Int))}{d:aa}(ha:rg ps)(hl: ∀p∈ps,p.1.toNat<d.length):bU ps d=d↔∀p∈ps,p.2=domAt d p.1:=by
 constructor
 ·intro h p hp
  have:=dK ha hl p hp
  rw[h,ao (hl p hp)]at this
  exact(C2 this).symm
 ·intro h
  refine Ds fun i=> ?_
  by_cases he: ∃p∈ps,p.1.toNat=i
  ·obtain⟨p,hp,rfl⟩:=he
   rw[dK ha hl p hp,ao (hl p hp),h p hp]
  ·exact cU ps d i fun p hp e=>he ⟨p,hp,e⟩
def dQ (d:aa)(low rhs:Int)(p:Int×Int):List (Int×Int):=yY (domAt d p.1) p.2 (rhs-(low-cq (domAt d p.1) p.2))
def iu (d:aa)(vars coefs:List Int)(rhs:Int):List (Int×List (Int×Int)):=(vars.zip coefs).map fun p=>(p.1,dQ d (bg (ac d vars coefs)) rhs p)
def MO (d:aa)(vars coefs:List Int)(rhs:Int):aa:=bU (iu d vars coefs rhs) d
structure Whole (d:aa)(vars coefs:List Int)(rhs:Int):Prop where
 fine:SumFine d vars coefs
 nod:vars.Nodup
 ne: []∉d
 big:aj coefs≤4611686018427388928∧aG rhs≤4611686018427388928
theorem lI: ∀{vars coefs:List Int},vars.Nodup→(∀v∈vars,0≤v)→(vars.zip coefs).Pairwise fun p q=>p.1.toNat≠q.1.toNat
 | [],_,_,_=>by simp
 |_::_,[],_,_=>by simp
 |v::vars,k::coefs,hn,h0=>by
  have h1:=List.nodup_cons.1 hn
  rw[EB]
  refine List.pairwise_cons.2 ⟨fun p hp=> ?_,lI h1.2 fun v hv=>h0 v (.tail _ hv)⟩
  have hm:=(D5 hp).1
  have h2:=h0 _ (.head _)
  have h3:=h0 _ (.tail _ hm)
  intro e
  have:v=p.1:=by simp only at e;omega
  exact h1.1 (this▸hm)
theorem ir {d:aa}{vars coefs:List Int}{rhs:Int}(h:Whole d vars coefs rhs):rg (iu d vars coefs rhs)∧∀p∈iu d vars coefs rhs,p.1.toNat<d.length:=by
 constructor
 ·unfold rg iu
  rw[Fy]
  exact lI h.nod fun v hv=>(h.fine.vin v hv).1
 ·intro p hp
  obtain⟨q,hq,rfl⟩:=List.mem_map.1 hp
  exact(h.fine.vin _ (D5 hq).1).2
theorem eR {d:aa}{vars coefs:List Int}{rhs:Int}(h:Whole d vars coefs rhs): ∀t∈ac d vars coefs,t.1≠[]:=by
 intro t ht e
 obtain⟨p,hp,rfl⟩:=List.mem_map.1 ht
 have:=ah (h.fine.vin _ (D5 hp).1).2
 simp only at e
 rw[e]at this
 exact h.ne this
theorem tN: ∀{ts:List (List (Int×Int)×Int)},f7 ts→(∀t∈ts,t.1≠[])→∀t∈ts,aG t.2*1048576-aY ts≤bg ts-cq t.1 t.2∧bg ts-cq t.1 t.2≤aY ts-aG t.2*1048576
 |t0::ts,h,hne,t,ht=>by
  have hs:=kA (ts:=ts) (fun t ht=>h t (.tail _ ht)) (fun t ht=>hne t (.tail _ ht))
  have e:bg (t0::ts)=cq t0.1 t0.2+bg ts:=by simp[bg]
  have hb:=k7 (h t0 (.head _)).1 (hne t0 (.head _)) t0.2
  have hp:=de ts
  have ha:=bE t0.2
  rw[cy,e]
  rcases List.mem_cons.1 ht with rfl|ht
  ·omega
  ·have:=tN (fun t ht=>h t (.tail _ ht)) (fun t ht=>hne t (.tail _ ht)) t ht
   omega
theorem w5 {d:aa}{vars coefs:List Int}{rhs:Int}(h:Whole d vars coefs rhs){p:Int×Int}(hp:p∈vars.zip coefs):
  -4611686018427388928≤bg (ac d vars coefs)∧bg (ac d vars coefs)≤4611686018427388928∧-4611686018427388928≤bg (ac d vars coefs)-cq (domAt d p.1) p.2∧bg (ac d vars coefs)-cq (domAt d p.1) p.2≤4611686018427388928∧
   -9223372036853729280≤rhs-(bg (ac d vars coefs)-cq (domAt d p.1) p.2)∧rhs-(bg (ac d vars coefs)-cq (domAt d p.1) p.2)≤9223372036853729280:=by
 have hs:=kA (di h.fine) (eR h)
 have hm:=tN (di h.fine) (eR h) (domAt d p.1,p.2) (List.mem_map.2 ⟨p,hp,rfl⟩)
 rw[cz h.fine.len]at hs hm
 have hb:=h.big
 have ha:aG rhs=max rhs (-rhs):=rfl
 have hk1:1≤aG p.2:=by have:=(h.fine.ck _ (D5 hp).2).1;unfold aG;omega
 simp only at hm
 omega
theorem ql {d:aa}{vars coefs:List Int}{rhs:Int}(h:Whole d vars coefs rhs): ∀(l:List (Int×Int)) (d1:aa) (ch:Bool),(∀p∈l,p∈vars.zip coefs)→l.Pairwise (fun p q=>p.1.toNat≠q.1.toNat)→(∀p∈l,domAt d1 p.1=domAt d p.1)→
  ((∃p∈l,dQ d (bg (ac d vars coefs)) rhs p=[])→(eK (bg (ac d vars coefs)) rhs l d1 ch).2.2=false)∧
  ((∀p∈l,dQ d (bg (ac d vars coefs)) rhs p≠[])→eK (bg (ac d vars coefs)) rhs l d1 ch=(bU (l.map fun p=>(p.1,dQ d (bg (ac d vars coefs)) rhs p)) d1,ch||l.any (fun p=> !decide (dQ d (bg (ac d vars coefs)) rhs p=domAt d p.1)),true))
 | [],d1,ch,_,_,_=>by simp[eK,bU]
 |(v,k)::l,d1,ch,hm,ha,hd=>by
  have hz:=hm _ (.head _)
  obtain⟨hv,hk⟩:=D5 hz
  have hx:=h.fine.dom _ (ah (h.fine.vin _ hv).2)
  have hne:domAt d v≠[]:=fun e=>h.ne (e▸ah (h.fine.vin _ hv).2)
  have hck:=h.fine.ck _ hk
  have hr:=w5 h hz
  have ha1:=List.pairwise_cons.1 ha
  have e1:domAt d1 v=domAt d v:=hd _ (.head _)
  have e2:cutW (domAt d1 v) k (gz (bg (ac d vars coefs)) rhs (domAt d1 v) k)=dQ d (bg (ac d vars coefs)) rhs (v,k):=by
   rw[e1]
   unfold gz dQ
   rw[(rU hx hne hck).1]
   simp only[wr]at hr⊢
   rw[ae (n:=bg (ac d vars coefs)-cq (domAt d v) k) (by omega) (by omega),ae (by omega) (by omega)]
   exact Bk hx hck (by omega) (by omega)
  have hd2: ∀p∈l,domAt (d1.set v.toNat (dQ d (bg (ac d vars coefs)) rhs (v,k))) p.1=domAt d p.1:=by
   intro p hp
   rw[←hd p (.tail _ hp)]
   unfold domAt
   rw[C0,C0,D2 (ha1.1 p hp)]
  obtain⟨i1,i2⟩:=ql h l (d1.set v.toNat (dQ d (bg (ac d vars coefs)) rhs (v,k))) (ch|| !decide (dQ d (bg (ac d vars coefs)) rhs (v,k)=domAt d v)) (fun p hp=>hm p (.tail _ hp)) ha1.2 hd2
  rw[eK,e2,e1]
  constructor
  ·rintro⟨p,hp,he⟩
   by_cases h0:dQ d (bg (ac d vars coefs)) rhs (v,k)=[]
   ·rw[if_pos h0]
   ·rw[if_neg h0]
    rcases List.mem_cons.1 hp with rfl|hp
    ·exact absurd he h0
    ·exact i1 ⟨p,hp,he⟩
  ·intro hall
   rw[if_neg (hall _ (.head _)),i2 fun p hp=>hall p (.tail _ hp)]
   simp only[CY,bU,List.any_cons,Bool.or_assoc]
theorem tF {d:aa}{vars coefs:List Int}{rhs:Int}(h:Whole d vars coefs rhs):
  ([]∈MO d vars coefs rhs→(mostW d vars coefs rhs).2.2=false)∧([]∉MO d vars coefs rhs→mostW d vars coefs rhs=(MO d vars coefs rhs,!decide (MO d vars coefs rhs=d),true)):=by
 obtain⟨ha,hl⟩:=ir h
 have hends:(endsW d vars coefs).1=bg (ac d vars coefs):=by
  unfold endsW
  have hb:=h.big
  have hr:=bE rhs
  have hw:=cz (d:=d) h.fine.len
  rw[jw 0 0 (di h.fine) (eR h) (by omega) (by omega) (by omega) (by omega)]
  simp
 obtain⟨i1,i2⟩:=ql h (vars.zip coefs) d false (fun p hp=>hp) (lI h.nod fun v hv=>(h.fine.vin v hv).1) (fun p hp=>rfl)
 unfold mostW
 rw[hends]
 constructor
 ·intro hm
  rcases setAll_mem ha hl hm with hm|⟨p,hp,he⟩
  ·exact absurd hm h.ne
  ·obtain⟨q,hq,rfl⟩:=List.mem_map.1 hp
   exact i1 ⟨q,hq,he⟩
 ·intro hm
  have hall: ∀p∈vars.zip coefs,dQ d (bg (ac d vars coefs)) rhs p≠[]:=fun p hp e=>hm (by
   have:=vm ha hl (List.mem_map.2 ⟨p,hp,rfl⟩:_∈iu d vars coefs rhs)
   rw[show(p.1,dQ d (bg (ac d vars coefs)) rhs p).2=[]from e]at this
   exact this)
  rw[i2 hall]
  refine Prod.ext rfl (Prod.ext ?_ rfl)
  simp only[G2]
  rw[EQ,EJ]
  simp only[Dd,decide_eq_false_iff_not]
  have hss:=sU ha hl
  constructor
  ·rintro⟨p,hp,hne⟩ e
   exact hne ((hss.1 e) _ (List.mem_map.2 ⟨p,hp,rfl⟩))
  ·intro hne
   refine Classical.byContradiction fun hno=>hne (hss.2 fun q hq=> ?_)
   obtain⟨p,hp,rfl⟩:=List.mem_map.1 hq
   exact Classical.byContradiction fun hn=>hno ⟨p,hp,hn⟩
theorem n8 {i:Nat}: ∀{ts:List (List (Int×Int)×Int)} (k:Nat) (n:Int),f7 ts→(∀t∈ts,t.1≠[])→-4611686018427388928≤n-aY ts→n+aY ts≤4611686018427388928→∀(hi:k≤i) (t:List (Int×Int)×Int),ts[i-k]? =some t→fW i k ts n=n+(bg ts-cq t.1 t.2)
 | [],k,n,_,_,_,_,_,t,ht=>by simp at ht
 |t0::ts,k,n,h,hne,h1,h2,hi,t,ht=>by
  have hf:=h t0 (.head _)
  have hx:=hne t0 (.head _)
  have e1:=xx hf.1 hx hf.2
  have b:=k7 hf.1 hx t0.2
  have hp:=de ts
  have ha:=bE t0.2
  have hs:=kA (ts:=ts) (fun t ht=>h t (.tail _ ht)) (fun t ht=>hne t (.tail _ ht))
  rw[cy]at h1 h2
  have el:bg (t0::ts)=cq t0.1 t0.2+bg ts:=by simp[bg]
  rw[fW,el]
  by_cases hk:k=i
  ·subst hk
   rw[if_pos rfl]
   simp at ht
   subst ht
   have hrest: ∀(ts:List (List (Int×Int)×Int)) (j:Nat) (n:Int),k<j→f7 ts→(∀t∈ts,t.1≠[])→-4611686018427388928≤n-aY ts→n+aY ts≤4611686018427388928→fW k j ts n=n+bg ts:=by
    intro ts
    induction ts with
    |nil=>intro j n _ _ _ _ _;simp[fW,bg]
    |cons t1 ts ih=>
     intro j n hj h hne h1 h2
     have hf:=h t1 (.head _)
     have hx:=hne t1 (.head _)
     have e1:=xx hf.1 hx hf.2
     have b:=k7 hf.1 hx t1.2
     have hp:=de ts
     rw[cy]at h1 h2
     have el:bg (t1::ts)=cq t1.1 t1.2+bg ts:=by simp[bg]
     rw[fW,if_neg (by omega),e1]
     simp only[wr]
     rw[ae (by omega) (by omega),ih (j+1) _ (by omega) (fun t ht=>h t (.tail _ ht)) (fun t ht=>hne t (.tail _ ht)) (by omega) (by omega),el]
     omega
   rw[hrest ts (k+1) n (by omega) (fun t ht=>h t (.tail _ ht)) (fun t ht=>hne t (.tail _ ht)) (by omega) (by omega)]
   omega
  ·rw[if_neg hk,e1]
   simp only[wr]
   rw[ae (by omega) (by omega),n8 (k+1) _ (fun t ht=>h t (.tail _ ht)) (fun t ht=>hne t (.tail _ ht)) (by omega) (by omega) (by omega) t (by
    rw[show i-k=(i-(k+1))+1 by omega]at ht
    simpa using ht)]
   omega
theorem qk {d:aa}{vars coefs:List Int}{rhs:Int}(h:Whole d vars coefs rhs): ∀n,n≤vars.length→j8 d vars coefs rhs n=bU ((iu d vars coefs rhs).take n) d
 |0,_=>by simp[j8,bU]
 |n+1,hn=>by
  have h1:n<vars.length:=by omega
  have h2:n<coefs.length:=by have:=h.fine.len;omega
  have hz:n<(vars.zip coefs).length:=by simp;omega
  have hp:(vars.zip coefs)[n]∈vars.zip coefs:=C5 hz
  have hcl:n<(iu d vars coefs rhs).length:=by simp[iu];omega
  have ec:(iu d vars coefs rhs)[n]=(vars[n],dQ d (bg (ac d vars coefs)) rhs (vars[n],coefs[n])):=by simp[iu]
  have hv:=h.fine.vin _ (C5 h1)
  have hx:=h.fine.dom _ (ah hv.2)
  have hne:domAt d vars[n]≠[]:=fun e=>h.ne (e▸ah hv.2)
  have hck:=h.fine.ck _ (C5 h2)
  have hzz:(vars[n],coefs[n])∈vars.zip coefs:=by
   have:=hp
   simpa using this
  have hr:=w5 h hzz
  simp only at hr
  have hw:=cz (d:=d) h.fine.len
  have hb:=h.big
  have har:=bE rhs
  have hrest:fW n 0 (ac d vars coefs) 0=bg (ac d vars coefs)-cq (domAt d vars[n]) coefs[n]:=by
   have:=n8 (i:=n) 0 0 (di h.fine) (eR h) (by omega) (by omega) (by omega) (domAt d vars[n],coefs[n]) (by
    rw[Nat.sub_zero]
    simp[ac,C1 hz])
   simp only at this
   omega
  have hat:rG d vars coefs rhs n=dQ d (bg (ac d vars coefs)) rhs (vars[n],coefs[n]):=by
   unfold rG dQ yY BE
   rw[aN h1,aN h2,hrest]
   congr 1
   refine FX fun v hv=> ?_
   have hvb:=hx.val v hv
   have hm:=dX coefs[n] v hvb.1 hvb.2
   have hc2:=hck.2
   have e1:wr (coefs[n]*v)=coefs[n]*v:=ae (by omega) (by omega)
   have e2:wr (rhs-(bg (ac d vars coefs)-cq (domAt d vars[n]) coefs[n]))=rhs-(bg (ac d vars coefs)-cq (domAt d vars[n]) coefs[n]):=ae (by omega) (by omega)
   exact decide_eq_decide.2 (by rw[e1,e2])
  rw[j8,qk h n (by omega),aN h1,hat,C7 hcl,ec,mH]
theorem oC {d:aa}{vars coefs:List Int}{rhs:Int}(h:Whole d vars coefs rhs):j8 d vars coefs rhs vars.length=MO d vars coefs rhs:=by
 rw[qk h _ (CS _),CV (by simp[iu];omega)]
 rfl
def Sub (a b:aa):Prop:=a.length=b.length∧∀(i:Nat) x y,a[i]? =some x→b[i]? =some y→∀v∈vals x,v∈vals y
theorem Sub.refl (a:aa):Sub a a:=⟨rfl,fun i x y h1 h2 v hv=>by rw[h1]at h2;exact C2 h2▸hv⟩
theorem Sub.trans {a b c:aa}(h:Sub a b)(k:Sub b c):Sub a c:=by
 refine⟨h.1.trans k.1,fun i x z hx hz v hv=> ?_⟩
 have hi:i<a.length:=(List.getElem?_eq_some_iff.1 hx).1
 have hi2:i<b.length:=by have:=h.1;omega
 have hy:b[i]? =some b[i]:=C1 hi2
 exact k.2 i _ z hy hz v (h.2 i x _ hx hy v hv)
theorem Sub.antisymm {a b:aa}(h:Sub a b)(k:Sub b a)(ha: ∀x∈a,Fine x)(hb: ∀x∈b,Fine x):a=b:=by
 refine Ds fun i=> ?_
 by_cases hi:i<a.length
 ·have hi2:i<b.length:=by have:=h.1;omega
  have hx:a[i]? =some a[i]:=C1 hi
  have hy:b[i]? =some b[i]:=C1 hi2
  have fx:=(ha _ (C5 hi)).ok
  have fy:=(hb _ (C5 hi2)).ok
  rw[hx,hy]
  congr 1
  exact iq fx fy (dF (aF fx) (aF fy) fun v=>⟨h.2 i _ _ hx hy v,k.2 i _ _ hy hx v⟩)
 ·rw[DM (by omega),DM (by have:=h.1;omega)]
theorem jg: ∀{a b:aa},Sub a b→(∀x∈a,Fine x)→(∀x∈b,Fine x)→weight a≤weight b∧(a≠b→weight a<weight b)
 | [],[],_,_,_=>⟨CS _,fun h=>absurd rfl h⟩
 | [],_::_,h,_,_=>by have:=h.1;simp at this
 |_::_,[],h,_,_=>by have:=h.1;simp at this
 |x::a,y::b,h,ha,hb=>by
  have h1:=vf (hb y (.head _)).ok (ha x (.head _)).ok (h.2 0 x y rfl rfl)
  have h2:=jg (a:=a) (b:=b) ⟨by have:=h.1;simpa using this,fun i z w hz hw=>h.2 (i+1) z w (by simpa using hz) (by simpa using hw)⟩ (fun z hz=>ha z (.tail _ hz)) (fun z hz=>hb z (.tail _ hz))
  simp only[weight,CY,Dg]at h2⊢
  refine⟨by omega,fun hne=> ?_⟩
  by_cases e:x=y
  ·have:a≠b:=fun e2=>hne (by rw[e,e2])
   have:=h2.2 this
   omega
  ·have:=h1.2 e
   omega
theorem fP {d:aa}{vars coefs:List Int}{rhs:Int}(h:Whole d vars coefs rhs){p:Int×Int}(hp:p∈vars.zip coefs)(low:Int):
  az (dQ d low rhs p)∧∀v,v∈vals (dQ d low rhs p)↔v∈vals (domAt d p.1)∧p.2*v≤rhs-(low-cq (domAt d p.1) p.2):=
 xB (h.fine.dom _ (ah (h.fine.vin _ (D5 hp).1).2)).ok _ _
theorem eh {d:aa}{vars coefs:List Int}{rhs:Int}(h:Whole d vars coefs rhs):(∀x∈MO d vars coefs rhs,Fine x)∧Sub (MO d vars coefs rhs) d:=by
 obtain⟨ha,hl⟩:=ir h
 refine⟨fun x hx=> ?_,jZ _ _,fun i x y hx hy v hv=> ?_⟩
 ·rcases setAll_mem ha hl hx with hm|⟨p,hp,rfl⟩
  ·exact h.fine.dom x hm
  ·obtain⟨q,hq,rfl⟩:=List.mem_map.1 hp
   obtain⟨c1,c2⟩:=fP h hq (bg (ac d vars coefs))
   exact(h.fine.dom _ (ah (h.fine.vin _ (D5 hq).1).2)).cut c1 fun v hv=>((c2 v).1 hv).1
 ·by_cases he: ∃p∈iu d vars coefs rhs,p.1.toNat=i
  ·obtain⟨p,hp,rfl⟩:=he
   have e:=dK ha hl p hp
   rw[show MO d vars coefs rhs=bU (iu d vars coefs rhs) d from rfl,e]at hx
   obtain rfl:=C2 hx
   rw[ao (hl p hp)]at hy
   obtain rfl:=C2 hy
   obtain⟨q,hq,rfl⟩:=List.mem_map.1 hp
   exact(((fP h hq (bg (ac d vars coefs))).2 v).1 hv).1
  ·rw[show MO d vars coefs rhs=bU (iu d vars coefs rhs) d from rfl,cU _ _ _ fun p hp e=>he ⟨p,hp,e⟩,hy]at hx
   exact C2 hx▸hv
theorem Whole.most {d:aa}{vars coefs:List Int}{rhs:Int}(h:Whole d vars coefs rhs)(hne: []∉MO d vars coefs rhs):Whole (MO d vars coefs rhs) vars coefs rhs:=by
 obtain⟨h1,h2⟩:=eh h
 exact⟨⟨h.fine.len,h.fine.vl,fun v hv=>by rw[h2.1];exact h.fine.vin v hv,h.fine.ck,h1,by rw[h2.1];exact h.fine.dl⟩,h.nod,hne,h.big⟩
theorem nD {rhs:Int}(h:aG rhs≤4611686018427388928):wr (0-rhs)= -rhs∧aG (wr (0-rhs))=aG rhs:=by
 have e:wr (0-rhs)= -rhs:=by
  unfold aG at h
  rw[wr,ae (by omega) (by omega)];omega
 refine⟨e,?_⟩
 rw[e]
 unfold aG
 omega
theorem Whole.back {d:aa}{vars coefs:List Int}{rhs:Int}(h:Whole d vars coefs rhs):Whole d vars (aA coefs) (wr (0-rhs)):=by
 have hb:=h.big
 have hp:=aU coefs
 refine⟨h.fine.back,h.nod,h.ne,?_⟩
 rw[dh _ h.fine.ck,(nD (by omega)).2]
 exact hb
theorem Whole.unback {d d2:aa}{vars coefs:List Int}{rhs:Int}(h:Whole d vars coefs rhs)(h2:Whole d2 vars (aA coefs) (wr (0-rhs))):Whole d2 vars coefs rhs:=
 ⟨⟨h.fine.len,h.fine.vl,h2.fine.vin,h.fine.ck,h2.fine.dom,h2.fine.dl⟩,h.nod,h2.ne,h.big⟩
def M1 (c:Con)(d:aa):aa:=MO d c.vars c.coefs c.rhs
def M2 (c:Con)(d:aa):aa:=MO d c.vars (aA c.coefs) (wr (0-c.rhs))
def bF (c:Con)(d:aa):Prop:=Whole d c.vars c.coefs c.rhs
theorem dk {c:Con}{d:aa}(h:bF c d):e5 c d=
  if []∈M1 c d then .inl none else if c.op=0 then .inl (some (M1 c d))else if []∈M2 c (M1 c d)then .inl none else
  if M1 c d=d∧M2 c (M1 c d)=M1 c d then .inl (some (M2 c (M1 c d)))else .inr (M2 c (M1 c d)):=by
 obtain⟨a1,a2⟩:=tF h
 unfold e5
 by_cases h1: []∈M1 c d
 ·rw[if_pos h1,if_pos (a1 h1)]
 ·have hw:bF c (M1 c d):=Whole.most h h1
  obtain⟨b1,b2⟩:=tF hw.back
  rw[if_neg h1,a2 h1]
  simp only[FP,if_false]
  by_cases h2:c.op=0
  ·rw[if_pos h2,if_pos h2]
   rfl
  ·rw[if_neg h2,if_neg h2]
   by_cases h3: []∈M2 c (M1 c d)
   ·have b1':(mostW (MO d c.vars c.coefs c.rhs) c.vars (aA c.coefs) (wr (0-c.rhs))).2.2=false:=b1 h3
    rw[if_pos h3,if_pos b1']
   ·have e:mostW (MO d c.vars c.coefs c.rhs) c.vars (aA c.coefs) (wr (0-c.rhs))=(M2 c (M1 c d),!decide (M2 c (M1 c d)=M1 c d),true):=b2 h3
    rw[if_neg h3,e]
    simp only[FP,if_false,EU,decide_eq_true_eq]
    rfl
theorem nP {c:Con}{d:aa}(h: []∉d→bF c d):wX c d=
  if c.op=1∧[]∉d then(if []∈M2 c d then .inl none else if M1 c (M2 c d)=d then .inl (some d)else .inr (M1 c (M2 c d)))else .inl (if []∈d then none else some d):=by
 unfold wX
 by_cases h1:c.op=1∧[]∉d
 ·have hw:=h h1.2
  have e:xg d c=M2 c d:=oC hw.back
  rw[if_pos h1,if_pos h1,e]
  by_cases h2: []∈M2 c d
  ·rw[if_pos h2,if_pos h2]
  ·have hw2:bF c (M2 c d):=hw.unback (Whole.most hw.back h2)
   have e2:tG (M2 c d) c=M1 c (M2 c d):=oC hw2
   rw[if_neg h2,if_neg h2,e2]
 ·rw[if_neg h1,if_neg h1]
theorem tV {c:Con}(hop:c.op=1): ∀(N:Nat) (p:aa) (R:Option aa),bF c p→cH (e5 c) N p=some R→∃N',cH (wX c) N' (M1 c p)=some R
 |0,p,R,_,h=>by cases h
 |n+1,p,R,hw,h=>by
  have hs:=dk hw
  obtain⟨f1,s1⟩:=eh hw
  by_cases h1: []∈M1 c p
  ·rw[if_pos h1]at hs
   obtain rfl:=be h hs
   refine⟨1,?_⟩
   have e:=nP (c:=c) (d:=M1 c p) (fun hn=>absurd h1 hn)
   rw[if_neg (fun hh=>hh.2 h1),if_pos h1]at e
   simp only[cH,e]
  ·rw[if_neg h1,if_neg (by omega)]at hs
   have hw1:bF c (M1 c p):=Whole.most hw h1
   have hd:=nP (c:=c) (d:=M1 c p) (fun _=>hw1)
   rw[if_pos ⟨hop,h1⟩]at hd
   obtain⟨f2,s2⟩:=eh hw1.back
   by_cases h2: []∈M2 c (M1 c p)
   ·rw[if_pos h2]at hs hd
    obtain rfl:=be h hs
    exact⟨1,by simp only[cH,hd]⟩
   ·rw[if_neg h2]at hs hd
    have hw2:bF c (M2 c (M1 c p)):=hw1.unback (Whole.most hw1.back h2)
    obtain⟨f3,s3⟩:=eh hw2
    by_cases h3:M1 c p=p∧M2 c (M1 c p)=M1 c p
    ·rw[if_pos h3]at hs
     obtain rfl:=be h hs
     have e:M1 c (M2 c (M1 c p))=M1 c p:=by rw[h3.2,h3.1,h3.1]
     rw[if_pos e]at hd
     exact⟨1,by simp only[cH,hd,h3.2]⟩
    ·rw[if_neg h3]at hs
     simp only[cH,hs]at h
     by_cases h4:M1 c (M2 c (M1 c p))=M1 c p
     ·rw[if_pos h4]at hd
      have e1:M2 c (M1 c p)=M1 c p:=s2.antisymm (by have s3':=s3;rw[show MO (M2 c (M1 c p)) c.vars c.coefs c.rhs=M1 c p from h4]at s3';exact s3') f2 f1
      have e2:M1 c (M1 c p)=M1 c p:=by rw[e1]at h4;exact h4
      rw[e1]at h
      cases n with
      |zero=>cases h
      |succ n=>
       have hs2:=dk hw1
       rw[e2,if_neg h1,if_neg (by omega),e1,if_neg h1,if_pos ⟨rfl,rfl⟩]at hs2
       obtain rfl:=be h hs2
       exact⟨1,by simp only[cH,hd]⟩
     ·rw[if_neg h4]at hd
      obtain⟨N',hN⟩:=tV hop n _ R hw2 h
      exact⟨N'+1,by simp only[cH,hd];exact hN⟩
theorem BT {c:Con}{p:aa}(hw:bF c p): ∃N R,cH (e5 c) N p=some R:=by
 refine xp (step:=e5 c) (fun x=>bF c x) weight (fun x y hx hy=> ?_) p hw
 rw[dk hx]at hy
 obtain⟨f1,s1⟩:=eh hx
 by_cases h1: []∈M1 c x
 ·rw[if_pos h1]at hy;cases hy
 ·have hw1:bF c (M1 c x):=Whole.most hx h1
  obtain⟨f2,s2⟩:=eh hw1.back
  rw[if_neg h1]at hy
  by_cases h2:c.op=0
  ·rw[if_pos h2]at hy;cases hy
  ·rw[if_neg h2]at hy
   by_cases h3: []∈M2 c (M1 c x)
   ·rw[if_pos h3]at hy;cases hy
   ·rw[if_neg h3]at hy
    by_cases h4:M1 c x=x∧M2 c (M1 c x)=M1 c x
    ·rw[if_pos h4]at hy;cases hy
    ·rw[if_neg h4]at hy
     obtain rfl:=Sum.inr.inj hy
     refine⟨hw1.unback (Whole.most hw1.back h3),?_⟩
     have w1:=jg s1 f1 hx.fine.dom
     have w2:=jg s2 f2 f1
     by_cases e1:M1 c x=x
     ·have e2:M2 c (M1 c x)≠M1 c x:=fun e2=>h4 ⟨e1,e2⟩
      have:=w2.2 e2
      have:=w1.1
      exact FN (w2.2 e2) w1.1
     ·exact Nat.lt_of_le_of_lt w2.1 (w1.2 e1)
theorem AR (lo hi:Int):(rng lo hi).length=(hi+1-lo).toNat:=by simp[rng]
theorem sR {d:List (Int×Int)}(h:Fine d):fD d=((vals d).length:Nat):=by
 have hb:=h.domB.1
 have hf:=h.few
 have hok:=h.ok
 have key: ∀(d:List (Int×Int)) (n:Nat),InB d→(∀r∈d,r.1≤r.2)→n+(vals d).length≤1000000000000000→d.foldl (fun n r=>wr (n+wr (wr (r.2-r.1)+1))) (n:Int)=((n+(vals d).length:Nat):Int):=by
  intro d
  induction d with
  |nil=>intro n _ _ _;simp[vals]
  |cons r d ih=>
   intro n hb ho hl
   have h1:=hb r (.head _)
   have h2:=ho r (.head _)
   rw[bj,CW,AR]at hl⊢
   rw[CZ]
   have e:wr ((n:Int)+wr (wr (r.2-r.1)+1))=((n+(r.2+1-r.1).toNat:Nat):Int):=by
    simp only[wr]
    rw[ae (n:=r.2-r.1) (by omega) (by omega),ae (n:=r.2-r.1+1) (by omega) (by omega),ae (by omega) (by omega)]
    omega
   rw[e,ih _ (fun r hr=>hb r (.tail _ hr)) (fun r hr=>ho r (.tail _ hr)) (by omega)]
   congr 1
   omega
 have:=key d 0 hb hok.1 (by omega)
 simpa[fD]using this
def jI (x:Int)(r:Int×Int):List (Int×Int):=if x<r.1∨r.2<x then [r]else(if r.1<x then [(r.1,x-1)]else [])++(if x<r.2 then [(x+1,r.2)]else [])
theorem tH {a:List (Int×Int)}{x:Int}(ho: ∀r∈a,r.1≤r.2)(hx: -9223372036854000000≤x∧x≤9223372036854000000):dY a [(x,x)]=a.flatMap (jI x):=by
 have key: ∀(a:List (Int×Int)) (out:List (Int×Int)),(∀r∈a,r.1≤r.2)→a.foldl (cE [(x,x)]) out=out++a.flatMap (jI x):=by
  intro a
  induction a with
  |nil=>intro out _;simp
  |cons r a ih=>
   intro out ho
   have h1:=ho r (.head _)
   have e:cE [(x,x)] out r=out++jI x r:=by
    unfold cE jI
    simp only[bL,wr]
    rw[ae (n:=x+1) (by omega) (by omega),ae (n:=x-1) (by omega) (by omega)]
    by_cases h2:x<r.1∨r.2<x
    ·rw[if_pos h2,if_pos h2]
     simp only
     rw[if_pos h1]
    ·rw[if_neg h2,if_neg h2]
     simp only
     by_cases h3:r.1<x<;>by_cases h4:x<r.2
     ·rw[if_pos (show x+1≤r.2 by omega),if_pos h3,if_pos h3,if_pos h4,DD]
     ·rw[if_neg (show¬x+1≤r.2 by omega),if_pos h3,if_pos h3,if_neg h4,Dv]
     ·rw[if_pos (show x+1≤r.2 by omega),if_neg h3,if_neg h3,if_pos h4,Df]
     ·rw[if_neg (show¬x+1≤r.2 by omega),if_neg h3,if_neg h3,if_neg h4];simp
   rw[CZ,e,ih _ fun r hr=>ho r (.tail _ hr),EA,DD]
 unfold dY
 rw[key a [] ho]
 rfl
theorem oo {x:Int}{r s:Int×Int}(h:r.1≤r.2)(hs:s∈jI x r):r.1≤s.1∧s.1≤s.2∧s.2≤r.2:=by
 unfold jI at hs
 split at hs
 ·simp only[DL]at hs;subst hs;omega
 ·rcases List.mem_append.1 hs with hs|hs
  ·split at hs
   ·simp only[DL]at hs;subst hs;simp only;omega
   ·cases hs
  ·split at hs
   ·simp only[DL]at hs;subst hs;simp only;omega
   ·cases hs
theorem zM {a:List (Int×Int)}{x:Int}(h:az a):az (a.flatMap (jI x)):=by
 refine⟨fun s hs=> ?_,?_⟩
 ·obtain⟨r,hr,hs⟩:=List.mem_flatMap.1 hs
  exact(oo (h.1 r hr) hs).2.1
 ·induction a with
  |nil=>exact .nil
  |cons r a ih=>
   have hp:=List.pairwise_cons.1 h.2
   rw[EA]
   refine List.pairwise_append.2 ⟨?_,ih h.tail,fun s hs t ht=> ?_⟩
   ·unfold jI
    split
    ·simp
    ·split<;>split<;>simp
     omega
   ·obtain⟨q,hq,ht⟩:=List.mem_flatMap.1 ht
    have h1:=oo (h.1 r (.head _)) hs
    have h2:=oo (h.1 q (.tail _ hq)) ht
    have:=hp.1 q hq
    omega
theorem p8 {x v:Int}{r:Int×Int}:(∃s∈jI x r,s.1≤v∧v≤s.2)↔r.1≤v∧v≤r.2∧v≠x:=by
 unfold jI
 constructor
 ·rintro⟨s,hs,h1,h2⟩
  split at hs
  ·simp only[DL]at hs;subst hs;omega
  ·rcases List.mem_append.1 hs with hs|hs
   ·split at hs
    ·simp only[DL]at hs;subst hs;simp only at h1 h2;omega
    ·cases hs
   ·split at hs
    ·simp only[DL]at hs;subst hs;simp only at h1 h2;omega
    ·cases hs
 ·rintro⟨h1,h2,h3⟩
  by_cases hc:x<r.1∨r.2<x
  ·rw[if_pos hc];exact⟨r,.head _,h1,h2⟩
  ·rw[if_neg hc]
   by_cases hv:v<x
   ·exact⟨(r.1,x-1),D4 _ (by rw[if_pos (by omega)];exact .head _),h1,by simp only;omega⟩
   ·exact⟨(x+1,r.2),D7 _ (by rw[if_pos (by omega)];exact .head _),by simp only;omega,h2⟩
theorem z2 {a:List (Int×Int)}{x:Int}(h:az a)(hx: -9223372036854000000≤x∧x≤9223372036854000000):az (dY a [(x,x)])∧∀v,v∈vals (dY a [(x,x)])↔v∈vals a∧v≠x:=by
 rw[tH h.1 hx]
 refine⟨zM h,fun v=> ?_⟩
 rw[aT,aT]
 constructor
 ·rintro⟨s,hs,h1⟩
  obtain⟨r,hr,hs⟩:=List.mem_flatMap.1 hs
  have:=p8.1 ⟨s,hs,h1⟩
  exact⟨⟨r,hr,this.1,this.2.1⟩,this.2.2⟩
 ·rintro⟨⟨r,hr,h1,h2⟩,h3⟩
  obtain⟨s,hs,h4⟩:=p8.2 ⟨h1,h2,h3⟩
  exact⟨s,List.mem_flatMap.2 ⟨r,hr,hs⟩,h4⟩
theorem xf {x:List (Int×Int)}(h:Fine x)(hne:x≠[])(h1: ¬1<(vals x).length): ∃v,x=[(v,v)]∧vals x=[v]∧-1048576≤v∧v≤1048576:=by
 have hv:(vals x).length=1:=by
  have:vals x≠[]:=fun e=>hne ((e6 h.ok).1 e)
  cases hx:vals x with
  |nil=>exact absurd hx this
  |cons a l=>rw[hx]at h1;simp at h1⊢;exact h1
 obtain⟨v,rfl⟩:=(kR h.ok).1 hv
 have e:vals [(v,v)]=[v]:=by simp[vals,bS]
 have:=h.val v (by rw[e];exact .head _)
 exact⟨v,rfl,e,this⟩
theorem fg {B:Int}(hB:B≤4611686018427388928): ∀(ts:List (List (Int×Int)×Int)) (i:Nat) (op:Int) (s:Int) (m a:Nat),f7 ts→(∀t∈ts,t.1≠[])→-B≤s-aY ts→s+aY ts≤B→(op<0∧m=0∨0≤op∧m=1∧op=a∧-(B-1048576)≤s-aY ts∧s+aY ts≤B-1048576)→
  (c9 i ts op s=none∧1<(au i ts m s a).1)∨∃s',-B≤s'∧s'≤B∧((∃op',op'<0∧c9 i ts op s=some (op',s')∧∃a',au i ts m s a=(0,s',a'))∨∃a':Nat,-(B-1048576)≤s'∧s'≤B-1048576∧c9 i ts op s=some ((a':Int),s')∧au i ts m s a=(1,s',a'))
 | [],i,op,s,m,a,_,_,h1,h2,hr=>by
  have e:aY []=0:=by simp[aY,aj]
  rw[e]at h1 h2 hr
  refine .inr ⟨s,by omega,by omega,?_⟩
  rcases hr with ⟨ho,rfl⟩|⟨ho,rfl,rfl,h3,h4⟩
  ·exact .inl ⟨op,ho,rfl,a,rfl⟩
  ·exact .inr ⟨a,by omega,by omega,rfl,rfl⟩
 |t::ts,i,op,s,m,a,h,hne,h1,h2,hr=>by
  have hf:=h t (.head _)
  have hx:=hne t (.head _)
  have hp:=de ts
  have ha:=bE t.2
  rw[cy]at h1 h2 hr
  have hk1:1≤aG t.2:=by have:=hf.2.1;unfold aG;omega
  rw[c9,au,sR hf.1]
  by_cases hc:1<(vals t.1).length
  ·rw[if_pos (show(1:Int)<((vals t.1).length:Nat)by omega),if_pos hc]
   rcases hr with ⟨ho,rfl⟩|⟨ho,rfl,rfl,h3,h4⟩
   ·rw[if_neg (by omega)]
    exact fg hB ts (i+1) i s 1 i (fun t ht=>h t (.tail _ ht)) (fun t ht=>hne t (.tail _ ht)) (by omega) (by omega) (.inr ⟨by omega,rfl,rfl,by omega,by omega⟩)
   ·rw[if_pos (by omega)]
    refine .inl ⟨rfl,?_⟩
    have mono: ∀(ts:List (List (Int×Int)×Int)) (i m:Nat) (s:Int) (a:Nat),m≤(au i ts m s a).1:=by
     intro ts
     induction ts with
     |nil=>intro i m s a;exact CS _
     |cons t ts ih=>
      intro i m s a
      rw[au]
      split
      ·exact D3 (Nat.le_succ m) (ih _ _ _ _)
      ·exact ih _ _ _ _
    exact mono ts (i+1) 2 s i
  ·rw[if_neg (show¬(1:Int)<((vals t.1).length:Nat)by omega),if_neg hc]
   obtain⟨v,e1,e2,b1,b2⟩:=xf hf.1 hx hc
   have hm:=dX t.2 v b1 b2
   have hck:=hf.2.2
   have el:(endW t.1 t.2 false).1=t.2*v:=by
    rw[(rU hf.1 hx hf.2).1,e1]
    simp[cq,ay,aM]
   have er:wr (t.2*hd0 (vals t.1))=t.2*v:=by
    rw[e2]
    simp only[hd0,wr,List.getD_cons_zero]
    rw[ae (by omega) (by omega)]
   have es:wr (s+t.2*v)=s+t.2*v:=by rw[wr,ae (by omega) (by omega)]
   rw[el,er,es]
   exact fg hB ts (i+1) op (s+t.2*v) m a (fun t ht=>h t (.tail _ ht)) (fun t ht=>hne t (.tail _ ht)) (by omega) (by omega) (hr.imp id fun⟨q1,q2,q3,q4,q5⟩=>⟨q1,q2,q3,by omega,by omega⟩)
theorem zw {d:aa}{v:Int}(h:v.toNat<d.length):d.set v.toNat (domAt d v)=d:=by
 refine Ds fun i=> ?_
 by_cases e:v.toNat=i
 ·subst e;rw[DH h,ao h]
 ·rw[D2 e]
theorem dJ {d:aa}{i:Nat}{x:List (Int×Int)}(hi:i<d.length)(hne: []∉d): []∈d.set i x↔x=[]:=by
 constructor
 ·intro h
  rcases CX h with h|h
  ·exact absurd h hne
  ·exact h.symm
 ·rintro rfl
  exact List.mem_iff_getElem?.2 ⟨i,DH hi⟩
theorem w8 {α:Type}{l:List α}:0<l.length↔l≠[]:=by cases l<;>simp
theorem yf {x:List (Int×Int)}{k s rhs:Int}(hx:Fine x)(hk:CoefOk k)(h1: -4611686018426340352≤s∧s≤4611686018426340352)(h2: -9223372036853729280≤rhs-s∧rhs-s≤9223372036853729280):
  ((wr (rhs-s)).tmod k=0→dY x [(wr ((wr (rhs-s)).tdiv k),wr ((wr (rhs-s)).tdiv k))]=cZ ((vals x).filter fun v=>decide (wr (s+wr (k*v))≠rhs)))∧
  (¬(wr (rhs-s)).tmod k=0→cZ ((vals x).filter fun v=>decide (wr (s+wr (k*v))≠rhs))=x):=by
 have hck:=hk.2
 have hmem: ∀w,w∈vals x→(wr (s+wr (k*w))=rhs↔k*w=rhs-s):=by
  intro w hw
  have b:=hx.val w hw
  have m:=dX k w b.1 b.2
  simp only[wr]
  rw[ae (n:=k*w) (by omega) (by omega),ae (by omega) (by omega)]
  omega
 have er:wr (rhs-s)=rhs-s:=by rw[wr,ae (by omega) (by omega)]
 rw[er]
 have et:=Int.mul_tdiv_add_tmod (rhs-s) k
 have hq: -9223372036853729280≤(rhs-s).tdiv k∧(rhs-s).tdiv k≤9223372036853729280:=by
  have:=Ft (rhs-s) k
  omega
 have hu:=fB (p:=fun w=>decide (wr (s+wr (k*w))≠rhs)) (aF hx.ok)
 constructor
 ·intro hz
  rw[hz,Int.add_zero]at et
  clear hz
  generalize (rhs-s).tdiv k=q at*
  have eq:wr q=q:=by rw[wr,ae (by omega) (by omega)]
  rw[eq]
  obtain⟨m1,m2⟩:=z2 (x:=q) hx.ok (by omega)
  refine iq m1 (fX hu) (dF (aF m1) (aF (fX hu)) fun v=> ?_)
  rw[m2,bI hu,EG]
  refine and_congr_right fun hv=> ?_
  rw[decide_eq_true_eq,ne_eq,ne_eq,hmem v hv,←et]
  refine not_congr ⟨fun e=>by rw[e],fun e=>Fu hk.1 e⟩
 ·intro hz
  have e:((vals x).filter fun w=>decide (wr (s+wr (k*w))≠rhs))=vals x:=by
   refine List.filter_eq_self.2 fun w hw=> ?_
   rw[decide_eq_true]
   intro e
   have e2:=(hmem w hw).1 e
   rw[←e2,Int.mul_tmod_right]at hz
   exact hz rfl
  rw[e,eH hx.ok]
theorem fE {d:aa}{c:Con}(h:bF c d)(hpos:0<c.vars.length):(if(otherW d c).2 then some (otherW d c).1 else none)=if []∈bT d c then none else some (bT d c):=by
 have hw:=cz (d:=d) h.fine.len
 have hb:=h.big
 have har:aG c.rhs=max c.rhs (-c.rhs):=rfl
 have hin:=cQ (ac d c.vars c.coefs) 0 0 0 0 c.vars.length hpos (by have:=h.fine.len;simp[ac];omega) (CS _)
 have key:=fg (B:=aj c.coefs) (by omega) (ac d c.vars c.coefs) 0 (-1) 0 0 0 (di h.fine) (eR h) (by omega) (by omega) (.inl ⟨by omega,rfl⟩)
 unfold otherW bT
 simp only
 rcases key with ⟨e1,e2⟩|⟨s,hs1,hs2,⟨op,ho,e1,a,e2⟩|⟨a,hs3,hs4,e1,e2⟩⟩
 ·rw[e1,if_pos e2,if_neg h.ne]
  rfl
 ·rw[e1,e2]
  simp only[DY,if_false,if_true,if_pos ho]
  have hv:=h.fine.vin _ (aK (c:=c) (k:=0) hpos)
  by_cases hs:s=c.rhs
  ·rw[if_pos hs,if_pos ((dJ hv.2 h.ne).2 rfl),decide_eq_false (by simpa using hs)]
   rfl
  ·rw[if_neg hs,if_neg h.ne,decide_eq_true hs]
   rfl
 ·rw[e1]
  rw[e2]at hin⊢
  simp only[G1,if_false,Nat.one_ne_zero,D1,if_neg (show¬(a:Int)<0 by omega)]
  have hal:a<c.vars.length:=hin.1
  have hac:a<c.coefs.length:=by have:=h.fine.len;omega
  have hv:=h.fine.vin _ (aK (c:=c) (k:=a) hal)
  have hk:=h.fine.ck (coefAt c a) (by unfold coefAt;rw[aN hac];exact C5 _)
  have hx:=h.fine.dom _ (ah hv.2)
  obtain⟨o1,o2⟩:=yf (s:=s) (rhs:=c.rhs) hx hk (by omega) (by omega)
  by_cases hz:(wr (c.rhs-s)).tmod (coefAt c a)=0
  ·rw[if_pos hz]
   simp only[o1 hz]
   by_cases he:cZ ((vals (domAt d (varAt c a))).filter fun v=>decide (wr (s+wr (coefAt c a*v))≠c.rhs))=[]
   ·rw[if_pos ((dJ hv.2 h.ne).2 he),he]
    rfl
   ·rw[if_neg (fun hm=>he ((dJ hv.2 h.ne).1 hm)),decide_eq_true (w8.2 he)]
    rfl
  ·rw[if_neg hz,o2 hz,zw hv.2,if_neg h.ne]
   have:0<(domAt d (varAt c a)).length:=w8.2 fun e=>h.ne (e▸ah hv.2)
   simp only
   rw[decide_eq_true this]
   rfl
theorem yd {x:List (Int×Int)}(h:Fine x)(p:Int→Bool):Fine (cZ ((vals x).filter p)):=by
 have hu:=fB (p:=p) (aF h.ok)
 refine h.cut (fX hu) fun v hv=> ?_
 rw[bI hu]at hv
 exact(List.mem_filter.1 hv).1
theorem iT {d:aa}{c:Con}(h:bF c d)(hpos:0<c.vars.length):(bT d c).length=d.length∧∀x∈bT d c,Fine x:=by
 have hin:=cQ (ac d c.vars c.coefs) 0 0 0 0 c.vars.length hpos (by have:=h.fine.len;simp[ac];omega) (CS _)
 unfold bT
 simp only
 split
 ·exact⟨rfl,h.fine.dom⟩
 ·split
  ·split
   ·exact⟨by simp,g8 h.fine.dom ⟨⟨by simp,.nil⟩,by simp[vals],by simp[vals]⟩⟩
   ·exact⟨rfl,h.fine.dom⟩
  ·exact⟨by simp,g8 h.fine.dom (yd (h.fine.dom _ (ah (h.fine.vin _ (aK hin.1)).2)) _)⟩
theorem SumOk.whole {d:aa}{c:Con}(h:SumOk d c)(hne: []∉d):bF c d:=⟨h.fine,h.nod,hne,h.big⟩
theorem xn {d:aa}{c:Con}(h:SumOk d c): ∃R N N',LinAns d c R N∧lF d c R N'∧∀out,R=some out→out.length=d.length∧[]∉out∧∀x∈out,Fine x:=by
 by_cases hne: []∈d
 ·exact⟨none,0,0,by rw[LinAns,if_pos hne],by rw[lF,if_pos hne],fun out h=>by cases h⟩
 ·have hw:=h.whole hne
  have hm:tG d c=M1 c d:=oC hw
  by_cases h2:c.op=2
  ·have hs:=fE hw h.pos
   obtain⟨r1,r2⟩:=iT hw h.pos
   refine⟨if []∈bT d c then none else some (bT d c),0,0,by rw[LinAns,if_neg hne,if_pos h2,hs],by rw[lF,if_neg hne,if_pos h2],fun out ho=> ?_⟩
   split at ho
   ·cases ho
   ·rename_i hn
    obtain rfl:=C2 ho
    exact⟨r1,hn,r2⟩
  ·have hfin: ∀N R,cH (e5 c) N d=some R→∀out,R=some out→out.length=d.length∧[]∉out∧∀x∈out,Fine x:=by
    intro N R hR out ho
    have hst: ∀x y,(bF c x∧x.length=d.length)→e5 c x= .inr y→bF c y∧y.length=d.length:=by
     rintro x y ⟨hx,hl⟩ hy
     rw[dk hx]at hy
     obtain⟨f1,s1⟩:=eh hx
     by_cases h1: []∈M1 c x
     ·rw[if_pos h1]at hy;cases hy
     ·have hw1:bF c (M1 c x):=Whole.most hx h1
      obtain⟨f2,s2⟩:=eh hw1.back
      rw[if_neg h1]at hy
      split at hy
      ·cases hy
      ·split at hy
       ·cases hy
       ·rename_i h3
        split at hy
        ·cases hy
        ·obtain rfl:=Sum.inr.inj hy
         exact⟨hw1.unback (Whole.most hw1.back h3),s2.1.trans (s1.1.trans hl)⟩
    obtain⟨z,⟨hz,hzl⟩,hs⟩:=oP (fun x=>bF c x∧x.length=d.length) hst N d R ⟨hw,rfl⟩ hR
    rw[dk hz,ho]at hs
    obtain⟨f1,s1⟩:=eh hz
    by_cases h1: []∈M1 c z
    ·rw[if_pos h1]at hs;cases hs
    ·have hw1:bF c (M1 c z):=Whole.most hz h1
     obtain⟨f2,s2⟩:=eh hw1.back
     rw[if_neg h1]at hs
     split at hs
     ·obtain rfl:=C2 (Sum.inl.inj hs)
      exact⟨s1.1.trans hzl,h1,f1⟩
     ·split at hs
      ·cases hs
      ·rename_i h3
       split at hs
       ·obtain rfl:=C2 (Sum.inl.inj hs)
        exact⟨s2.1.trans (s1.1.trans hzl),h3,f2⟩
       ·cases hs
   obtain⟨N,R,hR⟩:=BT hw
   by_cases h0:c.op=0
   ·have hs:=dk hw
    have e:R=if []∈M1 c d then none else some (M1 c d):=by
     by_cases h1: []∈M1 c d
     ·rw[if_pos h1]at hs⊢
      exact(be hR hs).symm
     ·rw[if_neg h1,if_pos h0]at hs
      rw[if_neg h1]
      exact(be hR hs).symm
    refine⟨R,N,1,by rw[LinAns,if_neg hne,if_neg h2];exact hR,?_,hfin N R hR⟩
    rw[lF,if_neg hne,if_neg h2,hm]
    have hd:=nP (c:=c) (d:=M1 c d) (fun hn=>Whole.most hw hn)
    rw[if_neg (fun hh=>by have:=hh.1;omega)]at hd
    simp only[cH,hd,e]
   ·have h1:c.op=1:=by have:=h.op;omega
    obtain⟨N',hN⟩:=tV h1 N d R hw hR
    exact⟨R,N,N',by rw[LinAns,if_neg hne,if_neg h2];exact hR,by rw[lF,if_neg hne,if_neg h2,hm];exact hN,hfin N R hR⟩
structure ReifOk (d:aa)(c:Con):Prop where
 sum:SumOk d (bM c)
 sumN:SumOk d (bN (bM c))
 con:ConB (bM c)
 b:0≤c.b∧c.b.toNat<d.length
 truth:truthR (domAt d c.b)=true
 apart:c.b∉c.vars
theorem BP {d:aa}{c:Con}(h:SumOk d c)(hw:aj c.coefs+aG c.rhs≤4611686018427387904):SumOk d (bN c):=by
 obtain⟨h1,h2,h3,h4,h5⟩:=h
 obtain⟨kind,vars,coefs,op,rhs,rows,b⟩:=c
 simp only at h1 h2 h3 h4 h5 hw
 have hwp:=aU coefs
 have ha: -aG rhs≤rhs∧rhs≤aG rhs:=by unfold aG;omega
 unfold bN
 simp only
 split
 ·have e1:wr (0-rhs)= -rhs:=by rw[wr,ae (by omega) (by omega)];omega
  have e2:wr (wr (0-rhs)-1)= -rhs-1:=by rw[e1,wr,ae (by omega) (by omega)]
  refine⟨h1.back,h2,h3,h4,?_⟩
  simp only
  rw[dh _ h1.ck,e2]
  unfold aG at*
  omega
 ·split
  ·exact⟨h1,h2,h3,⟨by show(0:Int)≤2;omega,by show(2:Int)≤2;omega⟩,h5⟩
  ·split
   ·exact⟨h1,h2,h3,⟨by show(0:Int)≤1;omega,by show(1:Int)≤2;omega⟩,h5⟩
   ·exact⟨h1,h2,h3,h4,h5⟩
theorem w7 {d:aa}{c:Con}(hc:ConB c)(h:conR d c=0)(hk:c.kind=4)(hf: ∀x∈d,Fine x)(hdl:d.length*24≤140737488355328):ReifOk d c:=by
 obtain⟨hv,hr⟩:=r3 hc h
 obtain⟨h1,h2⟩:=pj (jz h)
 have hb:0≤c.b∧c.b.toNat<d.length:=by
  unfold conR at h
  split at h
  ·cases h
  ·split at h
   ·cases h
   ·rename_i hu
    exact(ri hc (by simpa using hu)).2 hk
 unfold rightR at hr
 rw[if_neg (by omega),if_neg (by omega),if_neg (by omega),if_neg (by omega),if_pos hk]at hr
 simp only[sumR,opR,CR,decide_eq_true_eq,Dd,decide_eq_false_iff_not]at hr
 obtain⟨⟨⟨⟨_,⟨⟨h4,h5⟩,h6⟩,h7⟩,h8⟩,h9⟩,h10⟩:=hr
 have hs:SumOk d (bM c):=⟨⟨h6,hv.1,hv.2,fun k hk=>⟨fun e=>h7 (e▸hk),h1 k hk⟩,hf,hdl⟩,h4,h5,h8,by show aj c.coefs≤_∧aG c.rhs≤_;have:=bE c.rhs;have:=aU c.coefs;omega⟩
 exact⟨hs,BP hs h2,⟨hc.1,hc.2.1,by simp[bM],by simp[bM]⟩,hb,h9,h10⟩
set_option maxRecDepth 8000
def litB (d:aa)(p:Int×Int):Bool:=hasV (domAt d p.1) (dC p.2)
def pE (d:aa):Nat→List (Int×Int)→Int→Option Int
 |_,[],op=>some op
 |i,p::l,op=>if litB d p=false then pE d (i+1) l op else if 0≤op then none else pE d (i+1) l i
def nC (d:aa)(c:Con)(r:Option Int):Option aa:=
 match r with
 |none=>some d
 |some op=>if op<0 then none else dD d (varAt c op.toNat) (dC (coefAt c op.toNat))
def jA (d:aa)(c:Con):Option aa:=if []∈d then none else nC d c (pE d 0 (c.vars.zip c.coefs) (-1))
structure ClIn (d:aa)(c:Con):Prop where
 len:c.vars.length=c.coefs.length
 vl:c.vars.length*8≤140737488355328
 vin: ∀v∈c.vars,0≤v∧v.toNat<d.length
 dl:d.length*24≤140737488355328
 dom: ∀x∈d,(x.length+1)*16≤140737488355328
theorem rM (d:aa)(c:Con)(h:ClIn d c):Spec Tryz.prog 137 false [aJ d,.agg (cC c)] (aW (jA d c)):=by
 refine Spec.body Tryz.func137 rfl rfl rfl fun w0 Z0=> ?_
 obtain⟨hlen,hvl,hvin,hdl,hdom⟩:=h
 have hown:=qK d hdl (fun x hm=>by have:=hdom x hm;omega)
 unfold jA
 refine .B ?_
 refine .C hown ?_
 refine .B ?_
 by_cases hm: []∈d
 ·rw[if_pos hm,if_pos hm,decide_eq_true hm]
  refine T.ct rfl ?_
  refine .B ?_
  exact⟨_,.ownN rfl (.v rfl rfl rfl (fun _=>rfl) .nil)⟩
 ·rw[if_neg hm,if_neg hm,decide_eq_false hm]
  refine T.cf rfl ?_
  generalize hres:pE d 0 (c.vars.zip c.coefs) (-1)=res
  refine .B ?_
  refine T.K (T.ind (fun s:Nat×Int=>⟨[(3,.optr 0 0 0 0),(6,.ref 1),(8,.val true (.int .i64 s.2)),(19,.val false (av c.vars)),(20,.val true (.int .i64 (c.vars.map cI).length)),(21,.val true (.int .i64 s.1))],[(0,some (.box false (cC c))),(1,some (.sl 54 1 true (d.map cD)))],2⟩)
   (fun s=>s.1≤c.vars.length∧pE d s.1 ((c.vars.zip c.coefs).drop s.1) s.2=res∧s.2<s.1) (fun s=>c.vars.length-s.1) (0,-1) ⟨by simp,hres,by decide⟩ (fun _ _ h=>h) ?_)
  rintro⟨i,op⟩ ⟨hil,he,hop⟩ ih
  simp only at hil he hop
  dsimp only
  refine .B ?_
  refine T.cd rfl (fun h1=> ?_) (fun h1=> ?_)
  ·have h1:i<c.vars.length:=by simpa using h1
   have h2:i<c.coefs.length:=by omega
   have hv:=hvin _ (C5 h1)
   have hx:=hdom _ (ah hv.2)
   have hrow:(d.map cD)[c.vars[i].toNat]? =some (cD (domAt d c.vars[i])):=by simp[ao hv.2]
   have hz:i<(c.vars.zip c.coefs).length:=by simp;omega
   rw[CU hz,Ex,pE]at he
   have hhas:=jy (domAt d c.vars[i]) (dC c.coefs[i]) (by omega)
   have hlb:litB d (c.vars[i],c.coefs[i])=hasV (domAt d c.vars[i]) (dC c.coefs[i]):=rfl
   rw[←hlb]at hhas
   generalize litB d (c.vars[i],c.coefs[i])=b at*
   refine .B ?_
   refine .I (r:=cI c.vars[i]) (aO h1) ?_
   refine .B ?_
   refine J.io rfl rfl rfl rfl rfl rfl rfl rfl rfl hv.1 (by simpa using hv.2) rfl ?_
   refine J.lo rfl rfl rfl rfl rfl rfl (r:=cD (domAt d c.vars[i])) hrow rfl ?_
   refine .B ?_
   refine .I (r:=cI c.coefs[i]) (aO h2) ?_
   refine .B ?_
   refine .C (tU c.coefs[i]) ?_
   refine .C hhas ?_
   refine .B ?_
   cases b
   ·rw[if_pos rfl]at he
    refine T.ct rfl ?_
    refine .B ?_
    rw[ak (l:=c.vars.length) (by omega) (by omega)]
    exact T.K (ih (i+1,op) ⟨by simp only;omega,he,by simp only;omega⟩ (by simp only;omega))
   ·rw[if_neg (by decide)]at he
    refine T.cf rfl ?_
    refine .B ?_
    refine T.cd rfl (fun h3=> ?_) (fun h3=> ?_)
    ·have h3:0≤op:=h3
     rw[if_pos h3]at he
     subst he
     refine .B ?_
     exact⟨_,.o rfl rfl rfl (fun _=> .inl rfl) (by simp) (.v rfl rfl rfl (fun _=>rfl) .nil)⟩
    ·have h3: ¬0≤op:=h3
     rw[if_neg h3]at he
     refine .B ?_
     rw[ak (l:=c.vars.length) (by omega) (by omega)]
     exact T.K (ih (i+1,i) ⟨by simp only;omega,he,by simp only;omega⟩ (by simp only;omega))
  ·have h1:i=c.vars.length:=by simp at h1;omega
   subst h1
   rw[Dk (by simp;omega),pE]at he
   subst he
   clear ih
   unfold nC
   dsimp only
   refine .M ?_
   refine T.rdm 15 rfl (by kernel_rfl) rfl ?_
   repeat' first|refine J.e rfl rfl rfl rfl ?_|refine J.skip rfl rfl rfl ?_|refine J.bx rfl rfl rfl rfl rfl rfl ?_
   refine J.g rfl rfl rfl (fun h3=> ?_) (fun h3=> ?_)
   ·have h3:op<0:=h3
    rw[if_pos h3]
    refine .B ?_
    refine T.ct rfl ?_
    refine .B ?_
    exact⟨_,.ownN rfl (.v rfl rfl rfl (fun _=>rfl) .nil)⟩
   ·have h3: ¬op<0:=h3
    rw[if_neg h3]
    have hj:op.toNat<c.vars.length:=by omega
    have hj2:op.toNat<c.coefs.length:=by omega
    have hv:=hvin _ (aK hj)
    have hx:=hdom _ (ah hv.2)
    have hk:=me d (varAt c op.toNat) (dC (coefAt c op.toNat)) hv hx
    unfold dD
    repeat' first|refine J.e rfl rfl rfl rfl ?_|refine J.skip rfl rfl rfl ?_|refine J.bx rfl rfl rfl rfl rfl rfl ?_
    refine J.i rfl rfl rfl rfl rfl rfl rfl rfl rfl (r:=cI (varAt c op.toNat)) (by omega) (eD hj) rfl ?_
    repeat' first|refine J.e rfl rfl rfl rfl ?_|refine J.skip rfl rfl rfl ?_|refine J.bx rfl rfl rfl rfl rfl rfl ?_
    refine J.i rfl rfl rfl rfl rfl rfl rfl rfl rfl (r:=cI (coefAt c op.toNat)) (by omega) (ix hj2) rfl ?_
    repeat' first|refine J.e rfl rfl rfl rfl ?_|refine J.skip rfl rfl rfl ?_|refine J.bx rfl rfl rfl rfl rfl rfl ?_
    refine .C (tU (coefAt c op.toNat)) ?_
    refine J.nil ?_
    refine J.cm rfl rfl rfl rfl rfl rfl rfl rfl rfl hk rfl rfl rfl ?_
    refine .B ?_
    by_cases hk:domCut (domAt d (varAt c op.toNat)) (dC (coefAt c op.toNat)) (dC (coefAt c op.toNat))=[]
    ·rw[if_pos hk,decide_eq_true hk]
     refine T.ct rfl ?_
     refine .B ?_
     exact⟨_,.ownN rfl (.v rfl rfl rfl (fun _=>rfl) .nil)⟩
    ·rw[if_neg hk,decide_eq_false hk]
     refine T.cf rfl ?_
     refine .B ?_
     exact⟨_,.o rfl rfl rfl (fun _=> .inl rfl) (by simp) (.v rfl rfl rfl (fun _=>rfl) .nil)⟩
def Supp (a:List Int)(d:aa):Prop:=a.length=d.length∧∀(i:Nat) x v,d[i]? =some x→a[i]? =some v→v∈vals x
theorem Supp.at {a:List Int}{d:aa}(h:Supp a d){v:Int}(h0:0≤v)(hl:v.toNat<d.length):atR a v∈vals (domAt d v):=by
 have ha:v.toNat<a.length:=by have:=h.1;omega
 refine h.2 v.toNat _ _ (ao hl) ?_
 unfold atR
 rw[if_neg (by omega),C0,C1 ha]
 rfl
theorem Supp.ne {a:List Int}{d:aa}(h:Supp a d): []∉d:=by
 intro hm
 obtain⟨i,hi⟩:=List.mem_iff_getElem?.1 hm
 have hl:=(List.getElem?_eq_some_iff.1 hi).1
 have:=h.2 i [] _ hi (C1 (by have:=h.1;omega))
 simp[vals]at this
def cK (vars coefs a:List Int):Int:=((vars.zip coefs).map fun p=>p.2*atR a p.1).sum
theorem rJ {x:List (Int×Int)}(h:az x){v k:Int}(hv:v∈vals x):cq x k≤k*v∧k*v≤fM x k:=by
 have h1:=oM h hv
 have h2:=nv h hv
 unfold cq fM
 by_cases hk:0<k
 ·rw[if_pos hk,if_pos hk]
  exact⟨DT h1 (by omega),DT h2 (by omega)⟩
 ·rw[if_neg hk,if_neg hk]
  exact⟨EZ (by omega) h2,EZ (by omega) h1⟩
theorem eG {α:Type}{f g:α→Int}: ∀{l:List α},(∀p∈l,f p≤g p)→(l.map f).sum≤(l.map g).sum∧∀p∈l,g p-f p≤(l.map g).sum-(l.map f).sum
 | [],_=>by simp
 |p::l,h=>by
  obtain⟨h1,h2⟩:=eG (l:=l) fun q hq=>h q (.tail _ hq)
  have h0:=h p (.head _)
  simp only[CY,Dg]
  refine⟨by omega,fun q hq=> ?_⟩
  rcases List.mem_cons.1 hq with rfl|hq
  ·omega
  ·have:=h2 q hq
   omega
theorem eU (d:aa)(vars coefs:List Int):bg (ac d vars coefs)=((vars.zip coefs).map fun p=>cq (domAt d p.1) p.2).sum:=by
 unfold bg ac
 rw[Dz]
 rfl
theorem qH (d:aa)(vars coefs:List Int):fL (ac d vars coefs)=((vars.zip coefs).map fun p=>fM (domAt d p.1) p.2).sum:=by
 unfold fL ac
 rw[Dz]
 rfl
theorem te {d:aa}{vars coefs a:List Int}(h:SumFine d vars coefs)(hs:Supp a d):
  bg (ac d vars coefs)≤cK vars coefs a∧cK vars coefs a≤fL (ac d vars coefs)∧∀p∈vars.zip coefs,p.2*atR a p.1-cq (domAt d p.1) p.2≤cK vars coefs a-bg (ac d vars coefs):=by
 have hmem: ∀p∈vars.zip coefs,cq (domAt d p.1) p.2≤p.2*atR a p.1∧p.2*atR a p.1≤fM (domAt d p.1) p.2:=fun p hp=>by
  have hv:=h.vin _ (D5 hp).1
  exact rJ (h.dom _ (ah hv.2)).ok (hs.at hv.1 hv.2)
 rw[eU,qH]
 obtain⟨h1,h2⟩:=eG (f:=fun p:Int×Int=>cq (domAt d p.1) p.2) (g:=fun p=>p.2*atR a p.1) fun p hp=>(hmem p hp).1
 obtain⟨h3,_⟩:=eG (f:=fun p:Int×Int=>p.2*atR a p.1) (g:=fun p=>fM (domAt d p.1) p.2) fun p hp=>(hmem p hp).2
 exact⟨h1,h3,h2⟩
theorem kN {vars coefs a:List Int}(h: ∀k∈coefs,CoefOk k):cK vars (aA coefs) a= -cK vars coefs a:=by
 unfold cK aA
 induction vars generalizing coefs with
 |nil=>simp
 |cons v vars ih=>
  cases coefs with
  |nil=>simp
  |cons k coefs=>
   have e:=(c6 (h k (.head _))).1
   have:=ih fun k hk=>h k (.tail _ hk)
   simp only[CY,EB,Dg]at this⊢
   rw[this,e,Ff]
   omega
theorem xF {d:aa}{vars coefs a:List Int}{rhs:Int}(h:Whole d vars coefs rhs)(hs:Supp a d)(hle:cK vars coefs a≤rhs):Supp a (MO d vars coefs rhs):=by
 obtain⟨ha,hl⟩:=ir h
 obtain⟨_,_,hp3⟩:=te h.fine hs
 refine⟨by rw[MO,jZ];exact hs.1,fun i x v hx hv=> ?_⟩
 by_cases he: ∃p∈iu d vars coefs rhs,p.1.toNat=i
 ·obtain⟨p,hp,rfl⟩:=he
  rw[show MO d vars coefs rhs=bU (iu d vars coefs rhs) d from rfl,dK ha hl p hp]at hx
  obtain rfl:=C2 hx
  obtain⟨q,hq,rfl⟩:=List.mem_map.1 hp
  have hvq:=h.fine.vin _ (D5 hq).1
  have hat:=hs.at hvq.1 hvq.2
  have e:atR a q.1=v:=by
   unfold atR
   rw[if_neg (by omega),C0,hv]
   rfl
  refine((fP h hq _).2 v).2 ⟨e▸hat,?_⟩
  have:=hp3 q hq
  rw[e]at this
  omega
 ·rw[show MO d vars coefs rhs=bU (iu d vars coefs rhs) d from rfl,cU _ _ _ fun p hp e=>he ⟨p,hp,e⟩]at hx
  exact hs.2 i x v hx hv
def ii (c:Con)(a:List Int):Bool:=dp c.op (cK c.vars c.coefs a) c.rhs
theorem qC {c:Con}{a:List Int}(hop:c.op=0∨c.op=1)(hh:ii c a=true): ∀(N:Nat) (p:aa) (R:Option aa),bF c p→Supp a p→cH (e5 c) N p=some R→∃out,R=some out∧Supp a out
 |0,p,R,_,_,h=>by cases h
 |n+1,p,R,hw,hs,h=>by
  have hle:cK c.vars c.coefs a≤c.rhs:=by
   unfold ii dp at hh
   rcases hop with h0|h1
   ·rw[if_pos h0]at hh;exact of_decide_eq_true hh
   ·rw[if_neg (by omega),h1]at hh
    simp at hh
    omega
  have hst:=dk hw
  have s1:Supp a (M1 c p):=xF hw hs hle
  rw[if_neg s1.ne]at hst
  by_cases h0:c.op=0
  ·rw[if_pos h0]at hst
   obtain rfl:=be h hst
   exact⟨_,rfl,s1⟩
  ·rw[if_neg h0]at hst
   have h1:c.op=1:=by omega
   have hw1:bF c (M1 c p):=Whole.most hw s1.ne
   have heq:cK c.vars c.coefs a=c.rhs:=by
    unfold ii dp at hh
    rw[if_neg h0,h1]at hh
    simpa using hh
   have hb:=hw.big
   have hp:=aU c.coefs
   have s2:Supp a (M2 c (M1 c p)):=xF hw1.back s1 (by rw[kN hw.fine.ck,(nD (by omega)).1];omega)
   rw[if_neg s2.ne]at hst
   by_cases h3:M1 c p=p∧M2 c (M1 c p)=M1 c p
   ·rw[if_pos h3]at hst
    obtain rfl:=be h hst
    exact⟨_,rfl,s2⟩
   ·rw[if_neg h3]at hst
    simp only[cH,hst]at h
    exact qC (.inr h1) hh n _ R (hw1.unback (Whole.most hw1.back s2.ne)) s2 h
def wO (ts:List ((List (Int×Int)×Int)×Int)):Prop:= ∀t∈ts,t.2∈vals t.1.1
theorem e9 {B:Int}(hB:B≤4611686018427388928): ∀(ts:List ((List (Int×Int)×Int)×Int)) (i m:Nat) (s:Int) (a:Nat),f7 (ts.map (·.1))→wO ts→-B≤s-aY (ts.map (·.1))→s+aY (ts.map (·.1))≤B→
  ((au i (ts.map (·.1)) m s a).1=m→(au i (ts.map (·.1)) m s a).2.1=s+(ts.map fun t=>t.1.2*t.2).sum∧(au i (ts.map (·.1)) m s a).2.2=a)∧
  m≤(au i (ts.map (·.1)) m s a).1∧
  ((au i (ts.map (·.1)) m s a).1=m+1→∃j t,(au i (ts.map (·.1)) m s a).2.2=i+j∧ts[j]? =some t∧(au i (ts.map (·.1)) m s a).2.1+t.1.2*t.2=s+(ts.map fun t=>t.1.2*t.2).sum)
 | [],i,m,s,a,_,_,_,_=>by simp[au]
 |t::ts,i,m,s,a,h,hv,h1,h2=>by
  have hf:=h t.1 (.head _)
  have hvt:=hv t (.head _)
  have hp:=de (ts.map (·.1))
  have ha:=bE t.1.2
  have hx:t.1.1≠[]:=fun e=>by rw[e]at hvt;simp[vals]at hvt
  simp only[CY]at h1 h2⊢
  rw[cy]at h1 h2
  rw[au]
  simp only[Dg]
  by_cases hc:1<(vals t.1.1).length
  ·rw[if_pos hc]
   obtain⟨i1,i2,i3⟩:=e9 hB ts (i+1) (m+1) s i (fun t ht=>h t (.tail _ ht)) (fun t ht=>hv t (.tail _ ht)) (by omega) (by omega)
   refine⟨fun e=>by omega,by omega,fun e=> ?_⟩
   obtain⟨j1,j2⟩:=i1 e
   exact⟨0,t,by rw[j2];rfl,rfl,by rw[j1];omega⟩
  ·rw[if_neg hc]
   obtain⟨v,e1,e2,b1,b2⟩:=xf hf.1 hx hc
   have hm:=dX t.1.2 v b1 b2
   have hck:=hf.2.2
   have ev:t.2=v:=by rw[e2]at hvt;simpa using hvt
   have er:wr (t.1.2*hd0 (vals t.1.1))=t.1.2*v:=by
    rw[e2]
    simp only[hd0,wr,List.getD_cons_zero]
    rw[ae (by omega) (by omega)]
   have es:wr (s+t.1.2*v)=s+t.1.2*v:=by rw[wr,ae (by omega) (by omega)]
   rw[er,es,ev]
   obtain⟨i1,i2,i3⟩:=e9 hB ts (i+1) m (s+t.1.2*v) a (fun t ht=>h t (.tail _ ht)) (fun t ht=>hv t (.tail _ ht)) (by omega) (by omega)
   refine⟨fun e=> ?_,i2,fun e=> ?_⟩
   ·obtain⟨j1,j2⟩:=i1 e
    exact⟨by rw[j1];omega,j2⟩
   ·obtain⟨j,u,j1,j2,j3⟩:=i3 e
    exact⟨j+1,u,by rw[j1];omega,by simpa using j2,by rw[j3];omega⟩
theorem mJ {d:aa}{c:Con}{a:List Int}(h:bF c d)(hpos:0<c.vars.length)(hs:Supp a d)(hne:cK c.vars c.coefs a≠c.rhs):Supp a (bT d c):=by
 have hw:=cz (d:=d) h.fine.len
 have hb:=h.big
 have har:aG c.rhs=max c.rhs (-c.rhs):=rfl
 let ts:List ((List (Int×Int)×Int)×Int):=(c.vars.zip c.coefs).map fun p=>((domAt d p.1,p.2),atR a p.1)
 have et:ts.map (·.1)=ac d c.vars c.coefs:=by simp only[ts,Dz];rfl
 have eS:(ts.map fun t=>t.1.2*t.2).sum=cK c.vars c.coefs a:=by simp only[ts,Dz];rfl
 have hv:wO ts:=by
  intro t ht
  obtain⟨p,hp,rfl⟩:=List.mem_map.1 ht
  have:=h.fine.vin _ (D5 hp).1
  exact hs.at this.1 this.2
 have key:=e9 (B:=aj c.coefs) (by omega) ts 0 0 0 0 (by rw[et];exact di h.fine) hv (by rw[et];omega) (by rw[et];omega)
 rw[et,eS]at key
 have hin:=cQ (ac d c.vars c.coefs) 0 0 0 0 c.vars.length hpos (by have:=h.fine.len;simp[ac];omega) (CS _)
 have hsame:=fg (B:=aj c.coefs) (by omega) (ac d c.vars c.coefs) 0 (-1) 0 0 0 (di h.fine) (eR h) (by omega) (by omega) (.inl ⟨by omega,rfl⟩)
 obtain⟨k1,_,k3⟩:=key
 unfold bT
 simp only
 by_cases hm1:1<(au 0 (ac d c.vars c.coefs) 0 0 0).1
 ·rw[if_pos hm1];exact hs
 ·rw[if_neg hm1]
  by_cases hm0:(au 0 (ac d c.vars c.coefs) 0 0 0).1=0
  ·rw[if_pos hm0]
   have:=(k1 hm0).1
   rw[if_neg (fun e=>hne (by rw[this,FJ]at e;exact e))]
   exact hs
  ·rw[if_neg hm0]
   obtain⟨j,t,j1,j2,j3⟩:=k3 (by omega)
   rw[Dy]at j1
   have hj:j<c.vars.length:=by rw[←j1];exact hin.1
   have hjc:j<c.coefs.length:=by have:=h.fine.len;omega
   have ht:t=((domAt d (varAt c j),coefAt c j),atR a (varAt c j)):=by
    have hz:j<(c.vars.zip c.coefs).length:=by simp;omega
    simp only[ts,C8,C1 hz,DP,C3]at j2
    rw[←j2,show varAt c j=c.vars[j]from aN hj,show coefAt c j=c.coefs[j]from aN hjc]
    simp
   rw[j1]
   have hv:=h.fine.vin _ (aK hj)
   have hx:=h.fine.dom _ (ah hv.2)
   have hk:=h.fine.ck (coefAt c j) (by unfold coefAt;rw[aN hjc];exact C5 _)
   have hat:=hs.at hv.1 hv.2
   rw[ht]at j3
   simp only at j3
   have hs': -(aj c.coefs-1048576)≤(au 0 (ac d c.vars c.coefs) 0 0 0).2.1∧(au 0 (ac d c.vars c.coefs) 0 0 0).2.1≤aj c.coefs-1048576:=by
    rcases hsame with ⟨_,e⟩|⟨s',_,_,⟨_,_,_,a',e⟩|⟨a',b1,b2,_,e⟩⟩
    ·omega
    ·rw[e]at hm0;exact absurd rfl hm0
    ·rw[e];exact⟨b1,b2⟩
   generalize (au 0 (ac d c.vars c.coefs) 0 0 0).2.1=s at*
   have b:=hx.val _ hat
   have m:=dX (coefAt c j) _ b.1 b.2
   have hck:=hk.2
   have hu:=fB (p:=fun v=>decide (wr (s+wr (coefAt c j*v))≠c.rhs)) (aF hx.ok)
   refine⟨by rw[DI];exact hs.1,fun i x v hxi hvi=> ?_⟩
   by_cases e:(varAt c j).toNat=i
   ·subst e
    rw[DH hv.2]at hxi
    obtain rfl:=C2 hxi
    have ev:atR a (varAt c j)=v:=by
     unfold atR
     rw[if_neg (by omega),C0,hvi]
     rfl
    rw[ev]at hat j3 m
    rw[bI hu,EG]
    refine⟨hat,?_⟩
    rw[decide_eq_true_eq]
    rw[FJ]at j3
    clear k1 k3 hsame hin hm1 hm0 j1 j2 ht
    simp only[wr]
    rw[ae (n:=coefAt c j*v) (by omega) (by omega),ae (by omega) (by omega),j3]
    exact hne
   ·rw[D2 e]at hxi
    exact hs.2 i x v hxi hvi
theorem yy {d:aa}{c:Con}{a:List Int}(h:SumOk d c)(hs:Supp a d)(hh:ii c a=true){R:Option aa}{N:Nat}(hR:LinAns d c R N): ∃out,R=some out∧Supp a out:=by
 have hw:=h.whole hs.ne
 unfold LinAns at hR
 rw[if_neg hs.ne]at hR
 by_cases h2:c.op=2
 ·rw[if_pos h2,fE hw h.pos]at hR
  have hne:cK c.vars c.coefs a≠c.rhs:=by
   unfold ii dp at hh
   rw[if_neg (by omega),h2]at hh
   simpa using hh
  have:=mJ hw h.pos hs hne
  rw[if_neg this.ne]at hR
  exact⟨_,hR,this⟩
 ·rw[if_neg h2]at hR
  exact qC (by have:=h.op;omega) hh N d R hw hs hR
theorem nS {d:aa}{c:Con}{a:List Int}(h:SumFine d c.vars c.coefs)(hw:aj c.coefs≤4611686018427388928)(hop:0≤c.op∧c.op≤2)(hs:Supp a d)(hso:soW (endsW d c.vars c.coefs) c=true):ii c a=true:=by
 have hne: ∀t∈ac d c.vars c.coefs,t.1≠[]:=by
  intro t ht e
  obtain⟨p,hp,rfl⟩:=List.mem_map.1 ht
  have:=ah (h.vin _ (D5 hp).1).2
  simp only at e
  rw[e]at this
  exact hs.ne this
 have ht:=cz (d:=d) h.len
 have hk:=aU c.coefs
 obtain⟨p1,p2,_⟩:=te h hs
 unfold endsW at hso
 rw[jw 0 0 (di h) hne (by omega) (by omega) (by omega) (by omega)]at hso
 unfold soW at hso
 simp only[FP,if_false,FJ]at hso
 unfold ii dp
 by_cases h0:c.op=0
 ·rw[if_pos h0]at hso⊢
  exact decide_eq_true (by have:=of_decide_eq_true hso;omega)
 ·rw[if_neg h0]at hso⊢
  by_cases h1:c.op=1
  ·rw[if_pos h1]at hso
   simp only[CR,decide_eq_true_eq]at hso
   rw[decide_eq_true h1,decide_eq_true (by omega)]
   rfl
  ·rw[if_neg h1]at hso
   simp only[E0,decide_eq_true_eq]at hso
   rw[decide_eq_false h1,decide_eq_false (by omega)]
   rfl
theorem yn {d:aa}{c:Con}{a:List Int}(h:SumOk d c)(hs:Supp a d)(hso:soW (endsW d (bN c).vars (bN c).coefs) (bN c)=true):ii c a=false:=by
 have hb:=h.big
 have hr:aG c.rhs=max c.rhs (-c.rhs):=rfl
 have hk:=aU c.coefs
 have hn:SumFine d (bN c).vars (bN c).coefs∧aj (bN c).coefs≤4611686018427388928∧0≤(bN c).op∧(bN c).op≤2:=by
  have e:aj c.coefs≤4611686018427388928:=by omega
  have ho:=h.op
  unfold bN
  split
  ·exact⟨h.fine.back,by simp only;rw[dh _ h.fine.ck];exact e,ho⟩
  ·split
   ·exact⟨h.fine,e,by simp,by simp⟩
   ·split
    ·exact⟨h.fine,e,by simp,by simp⟩
    ·exact⟨h.fine,e,ho⟩
 have hh:=nS hn.1 hn.2.1 hn.2.2 hs hso
 unfold ii dp at hh⊢
 unfold bN at hh
 have ho:=h.op
 by_cases h0:c.op=0
 ·rw[if_pos h0]at hh
  simp only[if_pos h0]at hh
  rw[if_pos h0]
  rw[kN h.fine.ck]at hh
  have e:wr (wr (0-c.rhs)-1)= -c.rhs-1:=by
   rw[(nD (by omega)).1,wr,ae (by omega) (by omega)]
  rw[e]at hh
  exact decide_eq_false (by have:=of_decide_eq_true hh;omega)
 ·rw[if_neg h0]at hh⊢
  by_cases h1:c.op=1
  ·rw[if_pos h1]at hh
   rw[if_neg (by simp)]at hh
   simp at hh
   rw[decide_eq_true h1,decide_eq_false hh]
   rfl
  ·have h2:c.op=2:=by omega
   rw[if_neg h1,if_pos h2]at hh
   rw[if_neg (by simp)]at hh
   simp at hh
   rw[decide_eq_false h1,decide_eq_true hh]
   rfl
def clF (d:aa)(l:List (Int×Int)):Option aa:=
 match l with
 | []=>none
 | [p]=>dD d p.1 (dC p.2)
 |_::_::_=>some d
theorem r6 (d:aa)(c:Con)(hl:c.vars.length=c.coefs.length): ∀(l:List (Int×Int)) (i:Nat) (op:Int),l=(c.vars.zip c.coefs).drop i→(0≤op→op.toNat<c.vars.length)→
  nC d c (pE d i l op)=if op<0 then clF d (l.filter (litB d))else(match l.filter (litB d)with| []=>dD d (varAt c op.toNat) (dC (coefAt c op.toNat))|_::_=>some d)
 | [],i,op,h,ho=>by
  rw[pE,nC]
  by_cases h1:op<0
  ·rw[if_pos h1,if_pos h1];rfl
  ·rw[if_neg h1,if_neg h1];rfl
 |p::l,i,op,h,ho=>by
  have hi:i<(c.vars.zip c.coefs).length:=by
   have:=congrArg List.length h
   simp at this
   simp;omega
  have hd:=CU hi
  rw[←h]at hd
  injection hd with hp hl'
  have hiv:i<c.vars.length:=by simp at hi;omega
  have hic:i<c.coefs.length:=by omega
  have hpe:p=(varAt c i,coefAt c i):=by
   rw[hp,Ex]
   simp[varAt,coefAt,hiv,hic]
  rw[pE]
  by_cases hb:litB d p=true
  ·rw[if_neg (by simp[hb]),EI hb]
   by_cases h1:op<0
   ·rw[if_neg (by omega),if_pos h1,r6 d c hl l (i+1) i hl' (fun _=>by simpa using hiv),if_neg (by omega)]
    cases hf:l.filter (litB d)with
    |nil=>simp[clF,hpe]
    |cons q m=>simp[clF]
   ·rw[if_pos (by omega),if_neg h1]
    rfl
  ·have hb:litB d p=false:=by simpa using hb
   rw[if_pos hb,Ea (by simp[hb]),r6 d c hl l (i+1) op hl' ho]
theorem wC {d:aa}{c:Con}(hl:c.vars.length=c.coefs.length):jA d c=if []∈d then none else clF d ((c.vars.zip c.coefs).filter (litB d)):=by
 unfold jA
 rw[r6 d c hl (c.vars.zip c.coefs) 0 (-1) rfl (by omega),if_pos (by decide:(-1:Int)<0)]
structure ClOk (d:aa)(c:Con):Prop where
 len:c.vars.length=c.coefs.length
 nod:c.vars.Nodup
 pos:0<c.vars.length
 vl:c.vars.length*8≤140737488355328
 vin: ∀v∈c.vars,0≤v∧v.toNat<d.length
 unit: ∀k∈c.coefs,k=1∨k= -1
 truth: ∀v∈c.vars,truthR (domAt d v)=true
theorem Cr:dC 1=1:=by decide +kernel
theorem Cq:dC (-1)=0:=by decide +kernel
theorem qY {d:aa}{c:Con}(hc:ConB c)(h:conR d c=0)(hk:c.kind=5):ClOk d c:=by
 obtain⟨hv,hr⟩:=r3 hc h
 unfold rightR at hr
 rw[if_neg (by omega),if_neg (by omega),if_neg (by omega),if_neg (by omega),if_neg (by omega),if_pos hk]at hr
 simp only[sumR,CR,decide_eq_true_eq,Dd,decide_eq_false_iff_not]at hr
 obtain⟨⟨_,⟨⟨h4,h5⟩,h6⟩,h7⟩,h8⟩:=hr
 have hu: ∀i,i<c.vars.length→truthR (domAt d (varAt c i))=true∧(coefAt c i=1∨coefAt c i= -1):=by
  intro i hi
  have:=List.all_eq_true.1 h8 i (List.mem_range.2 hi)
  simpa[gg]using this
 refine⟨h6,h4,h5,hv.1,hv.2,fun k hk=> ?_,fun v hv=> ?_⟩
 ·obtain⟨i,hi,rfl⟩:=EC hk
  have:=(hu i (by omega)).2
  simpa[coefAt,hi]using this
 ·obtain⟨i,hi,rfl⟩:=EC hv
  have:=(hu i hi).1
  simpa[varAt,hi]using this
theorem Bp {d:aa}{c:Con}(h:ClOk d c)(hdl:d.length*24≤140737488355328)(hx: ∀x∈d,(x.length+1)*16≤140737488355328):ClIn d c:=⟨h.len,h.vl,h.vin,hdl,hx⟩
theorem fC {d:aa}{v w:Int}{x:List (Int×Int)}(hv:v.toNat<d.length):domAt (d.set v.toNat x) w=if v.toNat=w.toNat then x else domAt d w:=by
 unfold domAt
 rw[C0,C0,Dc]
 by_cases h:v.toNat=w.toNat
 ·rw[if_pos h,if_pos h,if_pos hv];rfl
 ·rw[if_neg h,if_neg h]
theorem l0 {D:aa}: ∀{n:Nat} {t:List Int},t∈bi D n↔t.length=n∧∀k,k<n→t.getD k 0∈vals (D.getD k [])
 |0,t=>by simp[bi]
 |n+1,t=>by
  simp only[bi,Fb,EX]
  constructor
  ·rintro⟨a,ha,v,hv,rfl⟩
   obtain⟨hl,h⟩:=l0.1 ha
   refine⟨by simp[hl],fun k hk=> ?_⟩
   by_cases e:k=n
   ·subst e;subst hl
    simp only[C0]
    rw[D9 (CS _)]
    simpa using hv
   ·have:=h k (by omega)
    simp only[C0]at this⊢
    rw[DK (by omega)]
    exact this
  ·rintro⟨hl,h⟩
   refine⟨t.take n,l0.2 ⟨by simp;omega,fun k hk=> ?_⟩,t.getD n 0,h n (by omega),?_⟩
   ·have:=h k (by omega)
    simp only[C0]at this⊢
    rw[Dn,if_pos hk]
    exact this
   ·have e:t=t.take n++[t[n]]:=by
     rw[←C7 (by omega),CV (by omega)]
    rw[C0,C1 (by omega)]
    exact e.symm
theorem lZ {us:List Int}(h:us.Nodup){k:Nat}(hk:k<us.length):us.idxOf us[k]=k:=by
 have h1:us.idxOf us[k]<us.length:=List.idxOf_lt_length_iff.2 (C5 hk)
 have h2:=El h1
 exact(Ec h).1 h2
theorem um {d:aa}{us:List Int}(h:us.Nodup){t:List Int}:t∈bi (us.map (domAt d)) us.length↔∃f:Int→Int,t=us.map f∧∀v∈us,f v∈vals (domAt d v):=by
 rw[l0]
 have hD: ∀k (hk:k<us.length),(us.map (domAt d)).getD k []=domAt d us[k]:=fun k hk=>by
  rw[C0,C8,C1 hk];rfl
 constructor
 ·rintro⟨hl,hk⟩
  refine⟨fun v=>t.getD (us.idxOf v) 0,?_,fun v hv=> ?_⟩
  ·apply Ed (by simp[hl])
   intro k h1 h2
   have h3:k<us.length:=by simpa using h2
   rw[Ee,lZ h h3,C0,C1 h1];rfl
  ·obtain⟨k,hk2,rfl⟩:=EC hv
   have:=hk k hk2
   rw[hD k hk2]at this
   simp only[lZ h hk2]
   exact this
 ·rintro⟨f,rfl,hf⟩
  refine⟨by simp,fun k hk=> ?_⟩
  rw[hD k hk,C0,C8,C1 hk]
  exact hf _ (C5 hk)
theorem ij {α:Type}(f:Int→α): ∀(us:List Int) (a:List α) (i:Nat),(∀u∈us,0≤u)→(us.foldl (fun a u=>a.set u.toNat (f u)) a)[i]? =if(i:Int)∈us∧i<a.length then some (f i)else a[i]?
 | [],a,i,_=>by simp
 |u::us,a,i,h=>by
  rw[CZ,ij f us _ i fun v hv=>h v (.tail _ hv)]
  have hu:=h u (.head _)
  simp only[DI,E4]
  by_cases h1:(i:Int)∈us∧i<a.length
  ·rw[if_pos h1,if_pos ⟨.inr h1.1,h1.2⟩]
  ·rw[if_neg h1,Dc]
   by_cases e:u.toNat=i
   ·have e2:(i:Int)=u:=by omega
    rw[if_pos e]
    by_cases hl:i<a.length
    ·rw[if_pos (by omega),if_pos ⟨.inl e2,hl⟩,e2]
    ·rw[if_neg (by omega),if_neg (fun h=>hl h.2),DM (by omega)]
   ·rw[if_neg e,if_neg]
    rintro⟨h2|h2,h3⟩
    ·omega
    ·exact h1 ⟨h2,h3⟩
theorem lH {β γ:Type}(g:Int→β)(st:γ→Int×β→γ): ∀(us:List Int) (a:γ),(us.zip (us.map g)).foldl st a=us.foldl (fun a u=>st a (u,g u)) a
 | [],_=>rfl
 |u::us,a=>by rw[CY,EB,CZ,CZ,lH g st us]
theorem lz {n:Nat}{us:List Int}(f:Int→Int)(h0: ∀u∈us,0≤u∧u.toNat<n){v:Int}(hv:v∈us):atR (eA n us (us.map f) us.length) v=f v:=by
 have hl:=yO n us (us.map f) us.length
 have h1:=h0 v hv
 have e:eA n us (us.map f) us.length=us.foldl (fun a u=>a.set u.toNat (f u)) (List.replicate n 0):=by
  unfold eA
  rw[CV (by simp),lH (γ:=List Int) f]
 unfold atR
 rw[if_neg (by omega),C0,e,ij f us _ _ (fun u hu=>(h0 u hu).1),EN h1.1,if_pos ⟨hv,by simpa using h1.2⟩]
 rfl
def pu (d:aa)(us:List Int)(P:List Int→Bool)(v x:Int):Prop:= ∃f:Int→Int,(∀u∈us,f u∈vals (domAt d u))∧P (us.map f)=true∧f v=x
theorem kL {d:aa}{us:List Int}{P:List Int→Bool}(hn:us.Nodup)(h0: ∀u∈us,0≤u∧u.toNat<d.length)(i:Nat):
  ((i:Int)∉us→(putsW d us (fK P us.length (bi (us.map (domAt d)) us.length)) us.length)[i]? =d[i]?)∧
  ((i:Int)∈us→∃y,(putsW d us (fK P us.length (bi (us.map (domAt d)) us.length)) us.length)[i]? =some y∧az y∧∀x,x∈vals y↔pu d us P i x):=by
 let G:Int→List Int:=fun v=>((bi (us.map (domAt d)) us.length).filter P).map (·.getD (us.idxOf v) 0)
 have hG: ∀v∈us,∀x,x∈G v↔pu d us P v x:=by
  intro v hv x
  have hk:us.idxOf v<us.length:=List.idxOf_lt_length_iff.2 hv
  have hf: ∀f:Int→Int,(us.map f).getD (us.idxOf v) 0=f v:=fun f=>by
   rw[C0,C8,C1 hk,El];rfl
  simp only[G,EX,EG]
  constructor
  ·rintro⟨t,⟨ht,hp⟩,rfl⟩
   obtain⟨f,rfl,h⟩:=(um hn).1 ht
   exact⟨f,h,hp,(hf f).symm⟩
  ·rintro⟨f,h,hp,rfl⟩
   exact⟨us.map f,⟨(um hn).2 ⟨f,rfl,h⟩,hp⟩,hf f⟩
 have hks:fK P us.length (bi (us.map (domAt d)) us.length)=us.map G:=by
  apply Ed (by simp[fK])
  intro k h1 h2
  have h3:k<us.length:=by simpa using h2
  simp only[fK,Ee,List.getElem_range,G,lZ hn h3]
 have e:putsW d us (fK P us.length (bi (us.map (domAt d)) us.length)) us.length=us.foldl (fun a u=>a.set u.toNat (cZ (aV (G u)))) d:=by
  rw[hks]
  unfold putsW
  rw[CV (by simp),lH (γ:=aa) G]
 rw[e,ij (fun u=>cZ (aV (G u))) us d i fun u hu=>(h0 u hu).1]
 constructor
 ·intro h;rw[if_neg fun h2=>h h2.1]
 ·intro h
  have:=h0 _ h
  rw[if_pos ⟨h,by simpa using this.2⟩]
  refine⟨_,rfl,fX (bZ _),fun x=> ?_⟩
  rw[bI (bZ _),bJ]
  exact hG _ h x
theorem ny {d out:aa}{us:List Int}{P:List Int→Bool}(hn:us.Nodup)(h0: ∀u∈us,0≤u∧u.toNat<d.length)(hl:out.length=d.length)(hok: ∀x∈out,az x)
  (h1: ∀v∈us,∀x,x∈vals (domAt out v)↔pu d us P v x) (h2: ∀i:Nat,(i:Int)∉us→out[i]? =d[i]?):putsW d us (fK P us.length (bi (us.map (domAt d)) us.length)) us.length=out:=by
 apply Ds
 intro i
 obtain⟨h3,h4⟩:=kL (P:=P) hn h0 i
 by_cases hi:(i:Int)∈us
 ·obtain⟨y,hy,hd,hx⟩:=h4 hi
  have hlt:=(h0 _ hi).2
  have ho:out[i]? =some (domAt out i):=by
   have:=ao (d:=out) (v:=(i:Int)) (by omega)
   simpa using this
  rw[hy,ho]
  congr 1
  refine iq hd (hok _ (C4 ho)) (dF (aF hd) (aF (hok _ (C4 ho))) fun x=> ?_)
  rw[hx x,h1 _ hi x]
 ·rw[h3 hi,h2 i hi]
theorem B9 {n:Nat}{us:List Int}{P:List Int→Bool}(hn:us.Nodup)(h0: ∀u∈us,0≤u∧u.toNat<n)(hne:us≠[]):SuppS n us P fun d=>lh d us P:=by
 refine⟨fun d out hd he=> ?_,fun d hd he g hg=> ?_,h0,hne⟩
 ·have h0d: ∀u∈us,0≤u∧u.toNat<d.length:=by rw[hd.len];exact h0
  have hat:=kL (d:=d) (P:=P) hn h0d
  have hl:=x9 d us (fK P us.length (bi (us.map (domAt d)) us.length)) us.length
  simp only[lh,if_neg hd.some',mC]at he
  generalize putsW d us (fK P us.length (bi (us.map (domAt d)) us.length)) us.length=o at*
  split at he
  ·cases he
  ·rename_i hno
   obtain rfl:=C2 he
   have hfx: ∀x∈o,Fine x∧(vals x).length≤4096:=fun x hx=>by
    obtain⟨i,hi⟩:=C9 hx
    obtain⟨h1,h2⟩:=hat i
    by_cases hiu:(i:Int)∈us
    ·obtain⟨y,hy,hok,hv⟩:=h2 hiu
     rw[hi]at hy
     obtain rfl:=C2 hy
     obtain⟨k1,k2,k3⟩:=hd.few.at (i:Int)
     have hsub: ∀v∈vals x,v∈vals (domAt d i):=fun v hm=>by
      obtain⟨f,h3,_,rfl⟩:=(hv v).1 hm
      exact h3 _ hiu
     have hlen:=bV (aF hok) hsub
     exact⟨⟨hok,fun v hm=>k3 v (hsub v hm),by omega⟩,by omega⟩
    ·rw[h1 hiu]at hi
     exact⟨hd.few.fine x (C4 hi),hd.few.few x (C4 hi)⟩
   refine⟨⟨⟨by rw[hl];exact hd.few.small,fun x hx=>(hfx x hx).1,fun x hx=>(hfx x hx).2⟩,by rw[hl,hd.len],hno⟩,fun v hv x=> ?_,fun v hv0 hv=> ?_⟩
   ·have hv0:=h0 v hv
    have e:((v.toNat:Nat):Int)=v:=by omega
    obtain⟨y,hy,hok,hx⟩:=(hat v.toNat).2 (by rw[e];exact hv)
    rw[e]at hx
    have:domAt o v=y:=by
     unfold domAt
     rw[C0,hy];rfl
    rw[this]
    exact hx x
   ·have e:((v.toNat:Nat):Int)=v:=by omega
    have:=(hat v.toNat).1 (by rw[e];exact hv)
    unfold domAt
    rw[C0,C0,this]
 ·have h0d: ∀u∈us,0≤u∧u.toNat<d.length:=by rw[hd.len];exact h0
  have hat:=kL (d:=d) (P:=P) hn h0d
  simp only[lh,if_neg hd.some',mC]at he
  generalize putsW d us (fK P us.length (bi (us.map (domAt d)) us.length)) us.length=o at*
  split at he
  ·rename_i hm
   obtain⟨i,hi⟩:=C9 hm
   obtain⟨h1,h2⟩:=hat i
   by_cases hiu:(i:Int)∈us
   ·obtain⟨y,hy,hok,hx⟩:=h2 hiu
    rw[hi]at hy
    obtain rfl:=C2 hy
    cases hp:P (us.map g)with
    |false=>rfl
    |true=>
     have:=(hx (g i)).2 ⟨g,hg,hp,rfl⟩
     cases this
   ·rw[h1 hiu]at hi
    exact absurd (C4 hi) hd.some'
  ·cases he
theorem oQ {α β:Type}{f:α→β ⊕ α}: ∀{n m:Nat} {x:α} {r s:β},cH f n x=some r→cH f m x=some s→r=s
 |0,_,_,_,_,h,_=>by cases h
 |_+1,0,_,_,_,_,h=>by cases h
 |n+1,m+1,x,r,s,h1,h2=>by
  simp only[cH]at h1 h2
  cases h:f x with
  |inl b=>rw[h]at h1 h2;simp only[C3]at h1 h2;rw[←h1,h2]
  |inr y=>rw[h]at h1 h2;exact oQ h1 h2
theorem xm {d:aa}{c:Con}{R S:Option aa}{N M:Nat}(h1:LinAns d c R N)(h2:LinAns d c S M):R=S:=by
 unfold LinAns at h1 h2
 split at h1
 ·rename_i h;rw[if_pos h]at h2;rw[h1,h2]
 ·rename_i h
  rw[if_neg h]at h2
  split at h1
  ·rename_i h3;rw[if_pos h3]at h2;rw[h1,h2]
  ·rename_i h3;rw[if_neg h3]at h2;exact oQ h1 h2
theorem qD {α β:Type}{f:α→β ⊕ α}{I:α→Prop}{P:β→Prop}(h1: ∀x y,I x→f x= .inr y→I y)(h2: ∀x r,I x→f x= .inl r→P r): ∀{n:Nat} {x:α} {r:β},I x→cH f n x=some r→P r
 |0,_,_,_,h=>by cases h
 |n+1,x,r,hi,h=>by
  simp only[cH]at h
  cases hf:f x with
  |inl b=>rw[hf]at h;simp only[C3]at h;exact h▸h2 x b hi hf
  |inr y=>rw[hf]at h;exact qD h1 h2 (h1 x y hi hf) h
theorem kB {d:aa}{i:Nat}{x:List (Int×Int)}(h: ∀y,d[i]? =some y→∀v∈vals x,v∈vals y):Sub (d.set i x) d:=by
 refine⟨by simp,fun j y z hy hz v hv=> ?_⟩
 rw[Dc]at hy
 split at hy
 ·rename_i e
  subst e
  split at hy
  ·cases hy;exact h z hz v hv
  ·cases hy
 ·rw[hz]at hy;cases hy;exact hv
theorem xl {d:aa}{c:Con}{out:aa}{N:Nat}(h:SumOk d c)(hR:LinAns d c (some out) N):Sub out d:=by
 unfold LinAns at hR
 split at hR
 ·cases hR
 ·rename_i hne
  have hw:=h.whole hne
  split at hR
  ·rename_i h2
   rw[fE hw h.pos]at hR
   split at hR
   ·cases hR
   ·cases hR
    have hin:=cQ (ac d c.vars c.coefs) 0 0 0 0 c.vars.length h.pos (by have:=h.fine.len;simp[ac];omega) (CS _)
    unfold bT
    simp only
    split
    ·exact Sub.refl d
    ·split
     ·split
      ·exact kB fun y _ v hv=>by simp[vals]at hv
      ·exact Sub.refl d
     ·refine kB fun y hy v hv=> ?_
      have hvv:=h.fine.vin _ (aK hin.1)
      rw[ao hvv.2]at hy
      obtain rfl:=C2 hy
      have hf:=h.fine.dom _ (ah hvv.2)
      rw[bI (fB (aF hf.ok))]at hv
      exact(List.mem_filter.1 hv).1
  ·refine qD (f:=e5 c) (I:=fun x=>bF c x∧Sub x d) (P:=fun r=> ∀o,r=some o→Sub o d) ?_ ?_ ⟨hw,Sub.refl d⟩ hR out rfl
   ·rintro x y ⟨hx,hs⟩ hy
    rw[dk hx]at hy
    obtain⟨f1,s1⟩:=eh hx
    split at hy
    ·cases hy
    ·rename_i h1
     have hw1:bF c (M1 c x):=Whole.most hx h1
     obtain⟨f2,s2⟩:=eh hw1.back
     split at hy
     ·cases hy
     ·split at hy
      ·cases hy
      ·rename_i h3
       split at hy
       ·cases hy
       ·obtain rfl:=Sum.inr.inj hy
        exact⟨hw1.unback (Whole.most hw1.back h3),Sub.trans s2 (Sub.trans s1 hs)⟩
   ·rintro x r ⟨hx,hs⟩ hy o rfl
    rw[dk hx]at hy
    obtain⟨f1,s1⟩:=eh hx
    split at hy
    ·cases hy
    ·rename_i h1
     have hw1:bF c (M1 c x):=Whole.most hx h1
     obtain⟨f2,s2⟩:=eh hw1.back
     split at hy
     ·obtain rfl:=C2 (Sum.inl.inj hy)
      exact Sub.trans s1 hs
     ·split at hy
      ·cases hy
      ·split at hy
       ·obtain rfl:=C2 (Sum.inl.inj hy)
        exact Sub.trans s2 (Sub.trans s1 hs)
       ·cases hy
theorem gS {d:aa}(hf: ∀x∈d,Fine x)(hne: []∉d){i:Nat}{x:List (Int×Int)}{v:Int}(hx:d[i]? =some x)(hv:v∈vals x): ∃a,Supp a d∧a[i]? =some v:=by
 have hi:=(List.getElem?_eq_some_iff.1 hx).1
 refine⟨(d.map fun y=>(vals y).headD 0).set i v,⟨by simp,fun j y w hy hw=> ?_⟩,by simp[hi]⟩
 rw[Dc]at hw
 split at hw
 ·rename_i e
  subst e
  rw[hx]at hy
  cases hy
  split at hw
  ·cases hw;exact hv
  ·cases hw
 ·rw[C8,hy]at hw
  simp only[DP,C3]at hw
  subst hw
  have hm:=C4 hy
  cases h2:vals y with
  |nil=>exact absurd ((e6 (hf y hm).ok).1 h2▸hm) hne
  |cons z l=>simp
theorem Ad {d:aa}{c:Con}{R:Option aa}{N:Nat}(h:SumOk d c)(hne: []∉d)(hR:LinAns d c R N)(hfin: ∀out,R=some out→out.length=d.length∧[]∉out∧∀x∈out,Fine x)(hso:soW (endsW d c.vars c.coefs) c=true):R=some d:=by
 have hb:=h.big
 have ha:=bE c.rhs
 have key: ∀a,Supp a d→∃out,R=some out∧Supp a out:=fun a hs=>yy h hs (nS h.fine (by omega) h.op hs hso) hR
 cases R with
 |none=>
  exfalso
  cases hd:d with
  |nil=>
   have:=h.fine.vin
   have hp:=h.pos
   obtain⟨v,hv⟩:=Fg hp
   have:=(this v hv).2
   rw[hd]at this
   simp at this
  |cons x l=>
   have hxm:x∈d:=by rw[hd];exact .head _
   cases h2:vals x with
   |nil=>exact hne ((e6 (h.fine.dom x hxm).ok).1 h2▸hxm)
   |cons z m=>
    obtain⟨a,hs,_⟩:=gS h.fine.dom hne (i:=0) (x:=x) (v:=z) (by rw[hd];rfl) (by rw[h2];exact .head _)
    obtain⟨out,ho,_⟩:=key a hs
    cases ho
 |some out=>
  obtain⟨h1,h2,h3⟩:=hfin out rfl
  have hsub:=xl h hR
  congr 1
  refine Sub.antisymm hsub ⟨h1.symm,fun i x y hx hy v hv=> ?_⟩ h3 h.fine.dom
  obtain⟨a,hs,hai⟩:=gS h.fine.dom hne hx hv
  obtain⟨out',ho,hs2⟩:=key a hs
  cases ho
  exact hs2.2 i y v hy hai
theorem o7 {d:aa}{vars coefs:List Int}{rhs:Int}(h:Whole d vars coefs rhs):endsW d vars coefs=(bg (ac d vars coefs),fL (ac d vars coefs),true):=by
 have hb:=h.big
 have ha:=bE rhs
 have hwt:=cz (d:=d) h.fine.len
 have:=jw 0 0 (di h.fine) (eR h) (by omega) (by omega) (by omega) (by omega)
 unfold endsW
 rw[this]
 simp
theorem oF {d:aa}{vars coefs:List Int}(h: ∀k∈coefs,CoefOk k):bg (ac d vars (aA coefs))= -fL (ac d vars coefs):=by
 rw[eU,qH]
 unfold aA
 induction vars generalizing coefs with
 |nil=>simp
 |cons v vars ih=>
  cases coefs with
  |nil=>simp
  |cons k coefs=>
   have hk:=h k (.head _)
   have e:=(c6 hk).1
   have ih:=ih fun k hk=>h k (.tail _ hk)
   simp only[CY,EB,Dg,e]
   have e2:cq (domAt d v) (-k)= -fM (domAt d v) k:=by
    have hk0:=hk.1
    unfold cq fM
    by_cases h0:0<k
    ·rw[if_neg (by omega),if_pos h0,Ff]
    ·rw[if_pos (by omega),if_neg h0,Ff]
   rw[e2,ih]
   omega
theorem jE: ∀(ts:List (List (Int×Int)×Int)) (i m a:Nat) (s:Int),(∀t∈ts,¬1<(vals t.1).length)→(au i ts m s a).1=m
 | [],i,m,a,s,_=>by simp[au]
 |t::ts,i,m,a,s,h=>by
  rw[au,if_neg (h t (.head _))]
  exact jE ts _ _ _ _ fun t ht=>h t (.tail _ ht)
theorem xQ {d:aa}(hf: ∀x∈d,Fine x)(hne: []∉d)(hl:0<d.length): ∃a,Supp a d:=by
 cases h2:vals d[0]with
 |nil=>exact absurd ((e6 (hf d[0] (C5 hl)).ok).1 h2▸C5 hl) hne
 |cons z m=>
  obtain⟨a,ha,_⟩:=gS hf hne (i:=0) (x:=d[0]) (v:=z) (C1 hl) (by rw[h2];exact .head _)
  exact⟨a,ha⟩
theorem not_not {c:Con}(hck: ∀k∈c.coefs,CoefOk k)(hop:0≤c.op∧c.op≤2)(hr:aG c.rhs≤4611686018427388928):bN (bN c)=c:=by
 obtain⟨kind,vars,coefs,op,rhs,rows,b⟩:=c
 simp only at hck hop hr
 have har:aG rhs=max rhs (-rhs):=rfl
 have:op=0∨op=1∨op=2:=by omega
 rcases this with rfl|rfl|rfl
 ·have e1:wr (0-rhs)= -rhs:=by rw[wr,ae (by omega) (by omega)];omega
  have e2:wr (wr (0-rhs)-1)= -rhs-1:=by rw[e1,wr,ae (by omega) (by omega)]
  have e3:wr (wr (0-(-rhs-1))-1)=rhs:=by
   rw[show wr (0-(-rhs-1))=rhs+1 by rw[wr,ae (by omega) (by omega)];omega,wr,ae (by omega) (by omega)]
   omega
  have e4:aA (aA coefs)=coefs:=by
   unfold aA
   rw[Dz]
   refine(DS fun k hk=> ?_).trans (List.map_id _)
   obtain⟨h1,h2⟩:=c6 (hck k hk)
   have h3:=(c6 h2).1
   simp only[Function.comp]
   rw[h3,h1]
   simp
  simp only[bN,if_true,e2,e3,e4]
 ·simp[bN]
 ·simp[bN]
theorem xi {x:List (Int×Int)}(h:az x)(hne:x≠[])(k:Int): ∃v∈vals x,cq x k=k*v:=by
 unfold cq
 by_cases hk:0<k
 ·rw[if_pos hk];exact⟨_,fA h hne,rfl⟩
 ·rw[if_neg hk];exact⟨_,oN h hne,rfl⟩
theorem qp {x y:List (Int×Int)}(hx:az x)(hy:az y)(hne:x≠[])(hs: ∀v∈vals x,v∈vals y)(k:Int):cq y k≤cq x k:=by
 obtain⟨v,hv,e⟩:=xi hx hne k
 rw[e]
 exact(rJ hy (hs v hv)).1
structure SumC (n:Nat)(vars coefs:List Int)(rhs:Int):Prop where
 vl:vars.length=coefs.length
 vin: ∀v∈vars,0≤v∧v.toNat<n
 ck: ∀k∈coefs,CoefOk k
 nod:vars.Nodup
 big:aj coefs≤4611686018427388928∧aG rhs≤4611686018427388928
 few:vars.length*24≤140737488355328
theorem SumC.whole {n:Nat}{vars coefs:List Int}{rhs:Int}(h:SumC n vars coefs rhs){d:aa}(hd:GoodD n d):Whole d vars coefs rhs:=
 ⟨⟨h.vl,by have:=h.few;omega,fun v hv=>by rw[hd.len];exact h.vin v hv,h.ck,hd.few.fine,hd.few.small⟩,h.nod,hd.some',h.big⟩
theorem sw {d:aa}{vars coefs:List Int}{rhs:Int}(h:Whole d vars coefs rhs){p:Int×Int}(hp:p∈vars.zip coefs):domAt (MO d vars coefs rhs) p.1=dQ d (bg (ac d vars coefs)) rhs p:=by
 obtain⟨ha,hl⟩:=ir h
 have hm:(p.1,dQ d (bg (ac d vars coefs)) rhs p)∈iu d vars coefs rhs:=List.mem_map.2 ⟨p,hp,rfl⟩
 have e:=dK ha hl _ hm
 unfold domAt
 rw[C0,show MO d vars coefs rhs=bU (iu d vars coefs rhs) d from rfl,e];rfl
theorem sk {d:aa}{vars coefs:List Int}{rhs:Int}(h:Whole d vars coefs rhs){v:Int}(h0:0≤v)(hv:v∉vars):domAt (MO d vars coefs rhs) v=domAt d v:=by
 have e:(MO d vars coefs rhs)[v.toNat]? =d[v.toNat]? :=cU _ _ _ fun p hp e=>by
  obtain⟨q,hq,rfl⟩:=List.mem_map.1 hp
  have hq1:=(D5 hq).1
  have:=(h.fine.vin _ hq1).1
  have e:q.1.toNat=v.toNat:=e
  exact hv ((show q.1=v by omega)▸hq1)
 unfold domAt
 rw[C0,C0,e]
theorem kw {vars coefs:List Int}(hl:vars.length=coefs.length){v:Int}(hv:v∈vars): ∃p∈vars.zip coefs,p.1=v:=by
 obtain⟨i,hi,rfl⟩:=EC hv
 exact⟨(vars[i],coefs[i]'(by omega)),List.mem_iff_getElem.2 ⟨i,by simp;omega,by simp⟩,rfl⟩
theorem Bw {n:Nat}{a b:aa}{vars coefs:List Int}{rhs:Int}(hc:SumC n vars coefs rhs)(ga:GoodD n a)(gb:GoodD n b)(h:leD a b):leD (MO a vars coefs rhs) (MO b vars coefs rhs):=by
 have wa:=hc.whole ga
 have wb:=hc.whole gb
 have hlow:=eG (f:=fun p=>cq (domAt b p.1) p.2) (g:=fun p=>cq (domAt a p.1) p.2) (l:=vars.zip coefs) fun p hp=>by
  have hv:=hc.vin _ (D5 hp).1
  have hm:domAt a p.1∈a:=ah (by rw[ga.len];exact hv.2)
  exact qp (ga.few.fine _ hm).ok (gb.few.fine _ (ah (by rw[gb.len];exact hv.2))).ok (fun e=>ga.some' (e▸hm)) (fun x hx=>h.2 p.1 x hv.1 hx) p.2
 rw[←eU,←eU]at hlow
 refine⟨by rw[(eh wa).2.1,(eh wb).2.1,ga.len,gb.len],fun v x h0 hx=> ?_⟩
 by_cases hv:v∈vars
 ·obtain⟨p,hp,rfl⟩:=kw hc.vl hv
  rw[sw wa hp]at hx
  rw[sw wb hp]
  obtain⟨h1,h2⟩:=((fP wa hp _).2 x).1 hx
  refine((fP wb hp _).2 x).2 ⟨h.2 _ x h0 h1,?_⟩
  have:=hlow.2 p hp
  omega
 ·rw[sk wa h0 hv]at hx
  rw[sk wb h0 hv]
  exact h.2 v x h0 hx
def kD (vars coefs:List Int)(rhs:Int)(d:aa):Option aa:=if []∈MO d vars coefs rhs then none else some (MO d vars coefs rhs)
theorem su {n:Nat}{d:aa}{vars coefs:List Int}{rhs:Int}(hc:SumC n vars coefs rhs)(hd:GoodD n d)(hne: []∉MO d vars coefs rhs):GoodD n (MO d vars coefs rhs)∧leD (MO d vars coefs rhs) d:=by
 obtain⟨h1,h2⟩:=eh (hc.whole hd)
 have hle:leD (MO d vars coefs rhs) d:=by
  refine⟨h2.1,fun v x h0 hx=> ?_⟩
  by_cases hl:v.toNat<d.length
  ·have hl2:v.toNat<(MO d vars coefs rhs).length:=by rw[h2.1];exact hl
   exact h2.2 v.toNat _ _ (ao hl2) (ao hl) x hx
  ·unfold domAt at hx
   rw[C0,DM (by rw[h2.1];omega)]at hx
   cases hx
 refine⟨⟨⟨by rw[h2.1];exact hd.few.small,h1,fun x hx=> ?_⟩,by rw[h2.1,hd.len],hne⟩,hle⟩
 obtain⟨j,hj⟩:=C9 hx
 have hjl:=(List.getElem?_eq_some_iff.1 hj).1
 have hjd:j<d.length:=by rw[←h2.1];exact hjl
 have hsub: ∀v∈vals x,v∈vals d[j]:=fun v hv=>h2.2 j x d[j] hj (C1 hjd) v hv
 have:=bV (aF (h1 x hx).ok) hsub
 have:=hd.few.few _ (C5 hjd)
 omega
theorem mG {n:Nat}{vars coefs:List Int}{rhs:Int}(hc:SumC n vars coefs rhs):Takes leD (GoodD n) (kD vars coefs rhs):=by
 refine⟨fun a a' ga he=> ?_,fun a a' b ga gb hle he=> ?_⟩
 ·unfold kD at he
  split at he
  ·cases he
  ·rename_i hne
   obtain rfl:=C2 he
   exact su hc ga hne
 ·unfold kD at he⊢
  split at he
  ·cases he
  ·rename_i hne
   obtain rfl:=C2 he
   have hm:=Bw hc ga gb hle
   obtain⟨g1,_⟩:=su hc ga hne
   rw[if_neg]
   ·exact⟨_,rfl,hm⟩
   ·intro hem
    obtain⟨j,hj⟩:=C9 hem
    have hjl:=(List.getElem?_eq_some_iff.1 hj).1
    have hjn:j<n:=by rw[(eh (hc.whole gb)).2.1,gb.len]at hjl;exact hjl
    obtain⟨x,hx⟩:=g1.ne (v:=(j:Int)) (by simpa using hjn)
    have:=hm.2 j x (by omega) hx
    unfold domAt at this
    rw[C0,D1,hj]at this
    cases this
def pe (c:Con)(b:Bool)(d:aa):Option aa:=if b=true then kD c.vars c.coefs c.rhs d else kD c.vars (aA c.coefs) (wr (0-c.rhs)) d
theorem mY {n:Nat}{c:Con}(h1:SumC n c.vars c.coefs c.rhs)(h2:SumC n c.vars (aA c.coefs) (wr (0-c.rhs)))(b:Bool):Takes leD (GoodD n) (pe c b):=by
 cases b with
 |true=>exact mG h1
 |false=>exact mG h2
theorem yz {n:Nat}{c:Con}(h1:SumC n c.vars c.coefs c.rhs)(h2:SumC n c.vars (aA c.coefs) (wr (0-c.rhs)))(hop:c.op=1)(d0:aa): ∀(N:Nat) (d:aa) (R:Option aa),Come leD (GoodD n) (pe c) [true,false] d0 d→cH (e5 c) N d=some R→ej leD (GoodD n) (pe c) [true,false] d0 R:=by
 intro N
 induction N using Nat.strongRecOn with
 |_ N ih=>
  intro d R hd hR
  have hw:bF c d:=h1.whole hd.fine
  have hst:=dk hw
  have t1:=mY h1 h2 true
  have t2:=mY h1 h2 false
  by_cases e1: []∈M1 c d
  ·rw[if_pos e1]at hst
   obtain rfl:=be hR hst
   exact hd.none (c:=true) (by simp) t1 (if_pos e1)
  ·rw[if_neg e1,if_neg (by omega)]at hst
   have f1:pe c true d=some (M1 c d):=if_neg e1
   have hd1:=hd.step (aZ n) (c:=true) (by simp) t1 f1
   by_cases e2: []∈M2 c (M1 c d)
   ·rw[if_pos e2]at hst
    obtain rfl:=be hR hst
    exact hd1.none (c:=false) (by simp) t2 (if_pos e2)
   ·rw[if_neg e2]at hst
    have f2:pe c false (M1 c d)=some (M2 c (M1 c d)):=if_neg e2
    have hd2:=hd1.step (aZ n) (c:=false) (by simp) t2 f2
    by_cases e3:M1 c d=d∧M2 c (M1 c d)=M1 c d
    ·rw[if_pos e3]at hst
     obtain rfl:=be hR hst
     refine⟨hd2,fun b hb=> ?_⟩
     have e:M2 c (M1 c d)=d:=e3.2.trans e3.1
     rw[e]
     cases b with
     |true=>rw[f1,e3.1]
     |false=>rw[e3.1]at f2;rw[f2,←e3.1];rw[e3.1]at e;rw[e3.1,e]
    ·rw[if_neg e3]at hst
     obtain⟨m,hm,hR2⟩:=gI hR hst
     exact ih m hm _ R hd2 hR2
theorem A7 {n:Nat}{c:Con}(h1:SumC n c.vars c.coefs c.rhs)(hop:c.op=0){d:aa}(hd:GoodD n d){N:Nat}{R:Option aa}(hR:cH (e5 c) N d=some R):R=pe c true d:=by
 have hst:=dk (h1.whole hd:bF c d)
 by_cases e1: []∈M1 c d
 ·rw[if_pos e1]at hst
  obtain rfl:=be hR hst
  exact(if_pos e1).symm
 ·rw[if_neg e1,if_pos hop]at hst
  obtain rfl:=be hR hst
  exact(if_neg e1).symm
structure StepOK (n:Nat)(us:List Int)(P:(Int→Int)→Prop)(f:aa→Option aa):Prop where
 takes:Takes leD (GoodD n) f
 stays: ∀a b,GoodD n a→GoodD n b→f a=some a→(∀u∈us,domAt a u=domAt b u)→f b=some b
 off: ∀a out,GoodD n a→f a=some out→∀v,0≤v→v∉us→domAt out v=domAt a v
 point: ∀e,GoodD n e→∀g:Int→Int,(∀u∈us,vals (domAt e u)=[g u])→(f e=some e↔P g)
 in': ∀u∈us,0≤u∧u.toNat<n
theorem SuppS.step {n:Nat}{us:List Int}{P:List Int→Bool}{f:aa→Option aa}(h:SuppS n us P f):StepOK n us (fun g=>P (us.map g)=true) f:=by
 refine⟨h.takes,fun a b ga gb ha hab=>h.stays ga gb ha hab,fun a out ga he=>(h.ok a out ga he).2.2,fun e ge g he=> ?_,h.in'⟩
 rw[h.point ge g he]
 by_cases hp:P (us.map g)=true
 ·simp[hp]
 ·simp[hp]
theorem StepOK.iff {n:Nat}{us:List Int}{P Q:(Int→Int)→Prop}{f:aa→Option aa}(h:StepOK n us P f)(hq: ∀g,P g↔Q g):StepOK n us Q f:=
 ⟨h.takes,h.stays,h.off,fun e ge g he=>(h.point e ge g he).trans (hq g),h.in'⟩
theorem StepOK.wide {n:Nat}{us vs:List Int}{P:(Int→Int)→Prop}{f:aa→Option aa}(h:StepOK n us P f)(hs: ∀u∈us,u∈vs)(hv: ∀u∈vs,0≤u∧u.toNat<n):StepOK n vs P f:=
 ⟨h.takes,fun a b ga gb ha hab=>h.stays a b ga gb ha fun u hu=>hab u (hs u hu),fun a out ga he v h0 hv=>h.off a out ga he v h0 fun hm=>hv (hs v hm),fun e ge g he=>h.point e ge g fun u hu=>he u (hs u hu),hv⟩
theorem StepOK.congr {n:Nat}{us:List Int}{P:(Int→Int)→Prop}{f f':aa→Option aa}(h:StepOK n us P f)(he: ∀d,GoodD n d→f' d=f d):StepOK n us P f':=by
 refine⟨⟨fun a a' ga e=>h.takes.less a a' ga (by rw[←he a ga];exact e),fun a a' b ga gb hle e=> ?_⟩,fun a b ga gb ha hab=> ?_,fun a out ga e=>h.off a out ga (by rw[←he a ga];exact e),fun e ge g hg=>by rw[he e ge];exact h.point e ge g hg,h.in'⟩
 ·rw[he a ga]at e;rw[he b gb];exact h.takes.mono a a' b ga gb hle e
 ·rw[he a ga]at ha;rw[he b gb];exact h.stays a b ga gb ha hab
def rH (us:List Int)(a b:aa):aa:=(List.range a.length).map fun j:Nat=>if(j:Int)∈us then domAt a (j:Int)else domAt b (j:Int)
theorem BS {us:List Int}{a b:aa}{v:Int}(h0:0≤v)(hl:v.toNat<a.length):domAt (rH us a b) v=if v∈us then domAt a v else domAt b v:=by
 have e:((v.toNat:Nat):Int)=v:=by omega
 unfold domAt rH
 rw[C0,C8,Du hl]
 simp only[DP,Dw,e,domAt]
theorem fO {a:aa}{v:Int}(hl:a.length≤v.toNat):domAt a v=[]:=by
 unfold domAt
 rw[C0,DM hl];rfl
theorem z1 {n:Nat}{us:List Int}{a b:aa}(ga:GoodD n a)(gb:GoodD n b):GoodD n (rH us a b):=by
 have hl:(rH us a b).length=a.length:=by simp[rH]
 have hm: ∀x∈rH us a b,x∈a∨x∈b:=by
  intro x hx
  obtain⟨j,hj,rfl⟩:=List.mem_map.1 hx
  have hj:=List.mem_range.1 hj
  split
  ·exact .inl (ah (by simpa using hj))
  ·exact .inr (ah (by rw[gb.len,←ga.len];simpa using hj))
 refine⟨⟨by rw[hl];exact ga.few.small,fun x hx=> ?_,fun x hx=> ?_⟩,by rw[hl,ga.len],fun hx=> ?_⟩
 ·exact(hm x hx).elim (ga.few.fine x) (gb.few.fine x)
 ·exact(hm x hx).elim (ga.few.few x) (gb.few.few x)
 ·exact(hm _ hx).elim ga.some' gb.some'
theorem ej.step {γ:Type}{n:Nat}{us:List Int}{l:List γ}{f:γ→aa→Option aa}{F:aa→Option aa}{P:γ→(Int→Int)→Prop}(h: ∀d,GoodD n d→ej leD (GoodD n) f l d (F d))(hs: ∀c∈l,StepOK n us (P c) (f c))(hin: ∀u∈us,0≤u∧u.toNat<n):StepOK n us (fun g=> ∀c∈l,P c g) F:=by
 have O:=aZ n
 have loc: ∀a b,GoodD n a→GoodD n b→eC f l a→(∀u∈us,domAt a u=domAt b u)→eC f l b:=fun a b ga gb ha hab c hc=>(hs c hc).stays a b ga gb (ha c hc) hab
 refine⟨ej.takes O h,fun a b ga gb ha hab=>(ej.fix O h gb).2 (loc a b ga gb ((ej.fix O h ga).1 ha) hab),fun a out ga he v h0 hv=> ?_,fun e ge g he=> ?_,hin⟩
 ·have hE:=h a ga
  rw[he]at hE
  obtain⟨hc,hst⟩:=hE
  by_cases hl:v.toNat<n
  ·have gm:=z1 (us:=us) hc.fine ga
   have hlo:out.length=a.length:=hc.less.1
   have hat: ∀u:Int,0≤u→domAt (rH us out a) u=if u∈us then domAt out u else domAt a u:=fun u hu0=>by
    by_cases hul:u.toNat<out.length
    ·exact BS hu0 hul
    ·rw[fO (by rw[gm.len];rw[hc.fine.len]at hul;omega),fO (by omega),fO (by omega),ite_self]
   have hst2:eC f l (rH us out a):=by
    refine loc out _ hc.fine gm hst fun u hu=> ?_
    rw[hat u (hin u hu).1,if_pos hu]
   have hle:leD (rH us out a) a:=⟨by rw[gm.len,ga.len],fun u x hu0 hx=>by
    rw[hat u hu0]at hx
    split at hx
    ·exact hc.less.2 u x hu0 hx
    ·exact hx⟩
   have hk:=hc.keep _ gm hle hst2
   have f1:=(hc.fine.few.fine _ (ah (by rw[hc.fine.len];exact hl))).ok
   have f2:=(ga.few.fine _ (ah (by rw[ga.len];exact hl))).ok
   refine iq f1 f2 (dF (aF f1) (aF f2) fun x=>⟨hc.less.2 v x h0,fun hx=>hk.2 v x h0 ?_⟩)
   rw[hat v h0,if_neg hv]
   exact hx
  ·rw[fO (by rw[hc.fine.len];omega),fO (by rw[ga.len];omega)]
 ·rw[ej.fix O h ge]
  exact⟨fun hh c hc=>((hs c hc).point e ge g he).1 (hh c hc),fun hh c hc=>((hs c hc).point e ge g he).2 (hh c hc)⟩
def dB (vars coefs:List Int)(g:Int→Int):Int:=((vars.zip coefs).map fun p=>p.2*g p.1).sum
def xR (coefs l:List Int):Int:=((l.zip coefs).map fun p=>p.2*p.1).sum
theorem dT: ∀(vars coefs:List Int) (g:Int→Int),xR coefs (vars.map g)=dB vars coefs g
 | [],_,_=>by simp[xR,dB]
 |_::_,[],_=>by simp[xR,dB]
 |v::vars,k::coefs,g=>by
  have:=dT vars coefs g
  simp only[xR,dB,CY,EB,Dg]at this⊢
  rw[this]
theorem rq {α:Type}{f f':α→Int}{q:α}: ∀{l:List α},l.Nodup→q∈l→(∀p∈l,p≠q→f' p=f p)→(l.map f').sum=(l.map f).sum-f q+f' q
 |p::l,hn,hq,h=>by
  have h1:=List.nodup_cons.1 hn
  simp only[CY,Dg]
  rcases List.mem_cons.1 hq with rfl|hq
  ·have:l.map f'=l.map f:=DS fun r hr=>h r (.tail _ hr) fun e=>h1.1 (e▸hr)
   rw[this];omega
  ·have:=rq (f:=f) (f':=f') h1.2 hq fun r hr=>h r (.tail _ hr)
   have:=h p (.head _) fun e=>h1.1 (e▸hq)
   omega
theorem jf: ∀{vars coefs:List Int},vars.Nodup→(vars.zip coefs).Nodup
 | [],_,_=>by simp
 |_::_,[],_=>by simp
 |v::vars,k::coefs,h=>by
  have h1:=List.nodup_cons.1 h
  rw[EB]
  exact List.nodup_cons.2 ⟨fun hm=>h1.1 (D5 hm).1,jf h1.2⟩
theorem kx: ∀{vars coefs:List Int},vars.Nodup→∀{p q:Int×Int},p∈vars.zip coefs→q∈vars.zip coefs→p.1=q.1→p=q
 | [],_,_,p,q,h,_,_=>by simp at h
 |_::_,[],_,p,q,h,_,_=>by simp at h
 |v::vars,k::coefs,hn,p,q,hp,hq,e=>by
  have h1:=List.nodup_cons.1 hn
  rw[EB]at hp hq
  rcases List.mem_cons.1 hp with rfl|hp
  ·rcases List.mem_cons.1 hq with rfl|hq
   ·rfl
   ·exact absurd ((show v=q.1 from e)▸(D5 hq).1) h1.1
  ·rcases List.mem_cons.1 hq with rfl|hq
   ·exact absurd ((show p.1=v from e)▸(D5 hp).1) h1.1
   ·exact kx h1.2 hp hq e
theorem AV {vars coefs:List Int}(hn:vars.Nodup)(h:Int×Int→Int): ∃g:Int→Int,∀p∈vars.zip coefs,g p.1=h p:=by
 refine⟨fun u=>if hu: ∃p∈vars.zip coefs,p.1=u then h hu.choose else 0,fun p hp=> ?_⟩
 have hu: ∃q∈vars.zip coefs,q.1=p.1:=⟨p,hp,rfl⟩
 simp only[dif_pos hu]
 rw[kx hn hu.choose_spec.1 hp hu.choose_spec.2]
theorem B8 {n:Nat}{vars coefs:List Int}{rhs:Int}(hc:SumC n vars coefs rhs)(hne:vars≠[]):SuppS n vars (fun l=>decide (xR coefs l≤rhs)) (kD vars coefs rhs):=by
 have low: ∀d,GoodD n d→∀g:Int→Int,(∀u∈vars,g u∈vals (domAt d u))→∀p∈vars.zip coefs,p.2*g p.1-cq (domAt d p.1) p.2≤dB vars coefs g-bg (ac d vars coefs):=fun d gd g hg p hp=>by
  rw[eU]
  refine(eG (f:=fun p:Int×Int=>cq (domAt d p.1) p.2) (g:=fun p=>p.2*g p.1) (l:=vars.zip coefs) fun q hq=> ?_).2 p hp
  have hv:=(D5 hq).1
  exact(rJ (gd.few.fine _ (ah (by rw[gd.len];exact(hc.vin _ hv).2))).ok (hg _ hv)).1
 have put: ∀d,GoodD n d→∀q∈vars.zip coefs,∀x∈vals (domAt d q.1),∃g:Int→Int,(∀u∈vars,g u∈vals (domAt d u))∧g q.1=x∧dB vars coefs g=bg (ac d vars coefs)-cq (domAt d q.1) q.2+q.2*x:=fun d gd q hq x hx=>by
  have hex: ∀p:Int×Int,∃y,p∈vars.zip coefs→y∈vals (domAt d p.1)∧cq (domAt d p.1) p.2=p.2*y:=fun p=>by
   by_cases hp:p∈vars.zip coefs
   ·have hm:domAt d p.1∈d:=ah (by rw[gd.len];exact(hc.vin _ (D5 hp).1).2)
    obtain⟨y,h1,h2⟩:=xi (gd.few.fine _ hm).ok (fun e=>gd.some' (e▸hm)) p.2
    exact⟨y,fun _=>⟨h1,h2⟩⟩
   ·exact⟨0,fun h=>absurd h hp⟩
  obtain⟨g,hg⟩:=AV (coefs:=coefs) hc.nod fun p=>if p=q then x else(hex p).choose
  refine⟨g,fun u hu=> ?_,by rw[hg q hq,if_pos rfl],?_⟩
  ·obtain⟨p,hp,rfl⟩:=kw hc.vl hu
   rw[hg p hp]
   split
   ·rename_i e;exact e▸hx
   ·exact((hex p).choose_spec hp).1
  ·unfold dB
   rw[rq (f:=fun p=>cq (domAt d p.1) p.2) (q:=q) (jf hc.nod) hq fun p hp hpq=> ?_,←eU,hg q hq,if_pos rfl]
   show p.2*g p.1=cq (domAt d p.1) p.2
   rw[hg p hp,if_neg hpq]
   exact((hex p).choose_spec hp).2.symm
 refine⟨fun d out gd he=> ?_,fun d gd he g hg=> ?_,hc.vin,hne⟩
 ·unfold kD at he
  split at he
  ·cases he
  ·rename_i hno
   obtain rfl:=C2 he
   have hw:=hc.whole gd
   refine⟨(su hc gd hno).1,fun v hv x=> ?_,fun v h0 hv=>sk hw h0 hv⟩
   obtain⟨q,hq,rfl⟩:=kw hc.vl hv
   rw[sw hw hq,(fP hw hq _).2 x]
   constructor
   ·rintro⟨h1,h2⟩
    obtain⟨g,h3,h4,h5⟩:=put d gd q hq x h1
    refine⟨g,h3,decide_eq_true ?_,h4⟩
    rw[dT,h5];omega
   ·rintro⟨g,h3,h4,rfl⟩
    have h4:=of_decide_eq_true h4
    rw[dT]at h4
    have:=low d gd g h3 q hq
    exact⟨h3 _ hv,by omega⟩
 ·refine decide_eq_false fun hle=> ?_
  rw[dT]at hle
  unfold kD at he
  split at he
  ·rename_i hem
   obtain⟨j,hj⟩:=C9 hem
   have hw:=hc.whole gd
   have hjn:j<n:=by
    have:=(List.getElem?_eq_some_iff.1 hj).1
    rwa[(eh hw).2.1,gd.len]at this
   have e:domAt (MO d vars coefs rhs) (j:Int)=[]:=by
    unfold domAt
    rw[C0,D1,hj];rfl
   by_cases hv:(j:Int)∈vars
   ·obtain⟨q,hq,hqj⟩:=kw hc.vl hv
    have h1:=low d gd g hg q hq
    have h2:=((fP hw hq (bg (ac d vars coefs))).2 (g q.1)).2 ⟨hg _ (D5 hq).1,by omega⟩
    rw[←sw hw hq,hqj,e]at h2
    cases h2
   ·rw[sk hw (by omega) hv]at e
    exact gd.some' (e▸ah (by rw[gd.len];simpa using hjn))
  ·cases he
theorem nO {n:Nat}{vars coefs:List Int}{rhs:Int}(hc:SumC n vars coefs rhs)(hne:vars≠[]):StepOK n vars (fun g=>dB vars coefs g≤rhs) (kD vars coefs rhs):=
 (B8 hc hne).step.iff fun g=>by rw[decide_eq_true_eq,dT]
theorem iU: ∀(ts:List (List (Int×Int)×Int)) (i m:Nat) (s:Int) (a:Nat),m≤(au i ts m s a).1
 | [],i,m,s,a=>CS _
 |t::ts,i,m,s,a=>by
  rw[au]
  split
  ·have:=iU ts (i+1) (m+1) s i
   omega
  ·exact iU ts _ _ _ _
theorem jF: ∀(ts:List (List (Int×Int)×Int)) (i m:Nat) (s:Int) (a:Nat),(au i ts m s a).1=m→(au i ts m s a).2.2=a
 | [],i,m,s,a,_=>rfl
 |t::ts,i,m,s,a,h=>by
  rw[au]at h⊢
  split at h
  ·have:=iU ts (i+1) (m+1) s i
   omega
  ·rename_i hc
   rw[if_neg hc]
   exact jF ts _ _ _ _ h
theorem kJ: ∀(ts:List (List (Int×Int)×Int)) (i m:Nat) (s:Int) (a:Nat),
  ((au i ts m s a).1=m+1→∃(j:Nat) (t:List (Int×Int)×Int),(au i ts m s a).2.2=i+j∧ts[j]? =some t∧1<(vals t.1).length)∧
  (m+1<(au i ts m s a).1→∃(j k:Nat) (t u:List (Int×Int)×Int),j≠k∧ts[j]? =some t∧ts[k]? =some u∧1<(vals t.1).length∧1<(vals u.1).length)
 | [],i,m,s,a=>by simp[au]
 |t::ts,i,m,s,a=>by
  rw[au]
  by_cases hc:1<(vals t.1).length
  ·rw[if_pos hc]
   refine⟨fun e=> ?_,fun e=> ?_⟩
   ·have hk:=jF ts (i+1) (m+1) s i e
    exact⟨0,t,by rw[hk];rfl,rfl,hc⟩
   ·have hex: ∃(k:Nat) (u:List (Int×Int)×Int),ts[k]? =some u∧1<(vals u.1).length:=by
     refine Classical.byContradiction fun hn=> ?_
     have:=jE ts (i+1) (m+1) i s fun u hu h=>hn ((List.mem_iff_getElem?.1 hu).elim fun k hk=>⟨k,u,hk,h⟩)
     omega
    obtain⟨k,u,h5,h6⟩:=hex
    exact⟨0,k+1,t,u,by omega,rfl,by simpa using h5,hc,h6⟩
  ·rw[if_neg hc]
   obtain⟨h3,h4⟩:=kJ ts (i+1) m (wr (s+wr (t.2*hd0 (vals t.1)))) a
   refine⟨fun e=> ?_,fun e=> ?_⟩
   ·obtain⟨j,u,h5,h6,h7⟩:=h3 e
    exact⟨j+1,u,by omega,by simpa using h6,h7⟩
   ·obtain⟨j,k,u,w,h5,h6,h7,h8,h9⟩:=h4 e
    exact⟨j+1,k+1,u,w,by omega,by simpa using h6,by simpa using h7,h8,h9⟩
theorem AK {n:Nat}{d:aa}(hd:GoodD n d){us:List Int}(hin: ∀u∈us,0≤u∧u.toNat<n){g:Int→Int}(hg: ∀u∈us,g u∈vals (domAt d u)): ∃a,Supp a d∧∀u∈us,atR a u=g u:=by
 have hex: ∀j:Nat,∃x,j<n→x∈vals (domAt d j)∧((j:Int)∈us→x=g j):=fun j=>by
  by_cases hj:(j:Int)∈us
  ·exact⟨g j,fun _=>⟨hg _ hj,fun _=>rfl⟩⟩
  ·by_cases hl:j<n
   ·obtain⟨x,hx⟩:=hd.ne (v:=(j:Int)) (by simpa using hl)
    exact⟨x,fun _=>⟨hx,fun h=>absurd h hj⟩⟩
   ·exact⟨0,fun h=>absurd h hl⟩
 refine⟨(List.range n).map fun j=>(hex j).choose,⟨by simp[hd.len],fun i x v hx hv=> ?_⟩,fun u hu=> ?_⟩
 ·have hi:=(List.getElem?_eq_some_iff.1 hx).1
  have hin':i<n:=by rw[←hd.len];exact hi
  rw[C8,Du hin']at hv
  obtain rfl:=C2 hv
  have h1:=((hex i).choose_spec hin').1
  have e:domAt d (i:Int)=x:=by
   rw[C1 hi]at hx
   rw[pc hi];exact C2 hx
  exact e▸h1
 ·obtain⟨h0,h1⟩:=hin u hu
  have e:((u.toNat:Nat):Int)=u:=by omega
  unfold atR
  rw[if_neg (by omega),C0,C8,Du h1]
  exact(((hex u.toNat).choose_spec h1).2 (by rw[e];exact hu)).trans (congrArg g e)
theorem vA {vars coefs a:List Int}{g:Int→Int}(h: ∀u∈vars,atR a u=g u):cK vars coefs a=dB vars coefs g:=by
 unfold cK dB
 congr 1
 exact DS fun p hp=>by rw[h _ (D5 hp).1]
structure LinC (n:Nat)(c:Con):Prop where
 sum:SumC n c.vars c.coefs c.rhs
 pos:0<c.vars.length
 op:0≤c.op∧c.op≤2
theorem LinC.ok {n:Nat}{c:Con}(h:LinC n c){d:aa}(hd:GoodD n d):SumOk d c:=⟨(h.sum.whole hd).fine,h.sum.nod,h.pos,h.op,h.sum.big⟩
theorem LinC.ne {n:Nat}{c:Con}(h:LinC n c):c.vars≠[]:=fun e=>by have:=h.pos;rw[e]at this;simp at this
theorem GoodD.of_sub {n:Nat}{a b:aa}(hb:GoodD n b)(h:Sub a b)(hf: ∀x∈a,Fine x)(hne: []∉a):GoodD n a∧leD a b:=by
 have hle:leD a b:=by
  refine⟨h.1,fun v x h0 hx=> ?_⟩
  by_cases hl:v.toNat<a.length
  ·exact h.2 v.toNat _ _ (ao hl) (ao (by rw[←h.1];exact hl)) x hx
  ·rw[fO (by omega)]at hx;cases hx
 refine⟨⟨⟨by rw[h.1];exact hb.few.small,hf,fun x hx=> ?_⟩,by rw[h.1,hb.len],hne⟩,hle⟩
 obtain⟨j,hj⟩:=C9 hx
 have hjl:=(List.getElem?_eq_some_iff.1 hj).1
 have hjd:j<b.length:=by rw[←h.1];exact hjl
 have:=bV (aF (hf x hx).ok) fun v hv=>h.2 j x _ hj (C1 hjd) v hv
 have:=hb.few.few _ (C5 hjd)
 omega
def neO (c:Con)(d:aa):Option aa:=if []∈bT d c then none else some (bT d c)
theorem vu {d:aa}{c:Con}(hp:0<c.vars.length)(hl:c.vars.length=c.coefs.length)(h0: ∀v∈c.vars,0≤v){v:Int}(hv0:0≤v)(hv:v∉c.vars):domAt (bT d c) v=domAt d v:=by
 have hin:=cQ (ac d c.vars c.coefs) 0 0 0 0 c.vars.length hp (by simp[ac];omega) (CS _)
 have key: ∀(k:Nat) (y:List (Int×Int)),k<c.vars.length→domAt (d.set (varAt c k).toNat y) v=domAt d v:=fun k y hk=>by
  have hm:=aK (c:=c) hk
  have h1:=h0 _ hm
  have hne:(varAt c k).toNat≠v.toNat:=fun e=>hv ((show varAt c k=v by omega)▸hm)
  unfold domAt
  rw[C0,C0,D2 hne]
 unfold bT
 simp only
 split
 ·rfl
 ·split
  ·split
   ·exact key 0 _ hp
   ·rfl
  ·exact key _ _ hin.1
theorem B7 {n:Nat}{c:Con}(h:LinC n c)(hop:c.op=2):SuppS n c.vars (fun l=>decide (xR c.coefs l≠c.rhs)) (neO c):=by
 have hc:=h.sum
 have hans: ∀d,GoodD n d→LinAns d c (neO c d) 0:=fun d gd=>by
  have hw:bF c d:=hc.whole gd
  unfold LinAns
  rw[if_neg gd.some',if_pos hop,fE hw h.pos]
  rfl
 have keep: ∀d,GoodD n d→∀g:Int→Int,(∀u∈c.vars,g u∈vals (domAt d u))→dB c.vars c.coefs g≠c.rhs→[]∉bT d c∧∀u∈c.vars,g u∈vals (domAt (bT d c) u):=fun d gd g hg hne=>by
  obtain⟨a,ha,hag⟩:=AK gd hc.vin hg
  have hw:bF c d:=hc.whole gd
  have hs:=mJ hw h.pos ha (by rw[vA hag];exact hne)
  refine⟨hs.ne,fun u hu=> ?_⟩
  have hv:=hc.vin u hu
  have:=hs.at hv.1 (by rw[(iT hw h.pos).1,gd.len];exact hv.2)
  rwa[hag u hu]at this
 refine⟨fun d out gd he=> ?_,fun d gd he g hg=> ?_,hc.vin,h.ne⟩
 ·have hA:=hans d gd
  rw[he]at hA
  have hsub:=xl (h.ok gd) hA
  have hw:bF c d:=hc.whole gd
  unfold neO at he
  split at he
  ·cases he
  ·rename_i hno
   obtain rfl:=C2 he
   obtain⟨go,hle⟩:=GoodD.of_sub gd hsub (iT hw h.pos).2 hno
   refine⟨go,fun v hv x=>⟨fun hx=> ?_,?_⟩,fun v h0 hv=>vu h.pos hc.vl (fun v hv=>(hc.vin v hv).1) h0 hv⟩
   ·refine Classical.byContradiction fun hn=> ?_
    have hx0:=hle.2 v x (hc.vin v hv).1 hx
    have hall: ∀g:Int→Int,(∀u∈c.vars,g u∈vals (domAt d u))→g v=x→dB c.vars c.coefs g=c.rhs:=fun g h1 h2=>by
     refine Classical.byContradiction fun h3=>hn ⟨g,h1,decide_eq_true ?_,h2⟩
     rw[dT];exact h3
    obtain⟨q,hq,rfl⟩:=kw hc.vl hv
    have hex: ∀u:Int,∃y,u∈c.vars→y∈vals (domAt d u):=fun u=>by
     by_cases hu:u∈c.vars
     ·obtain⟨y,hy⟩:=gd.ne (hc.vin u hu).2
      exact⟨y,fun _=>hy⟩
     ·exact⟨0,fun h=>absurd h hu⟩
    let g0:Int→Int:=fun u=>if u=q.1 then x else(hex u).choose
    have hg0: ∀u∈c.vars,g0 u∈vals (domAt d u):=fun u hu=>by
     simp only[g0]
     split
     ·rename_i e;rw[e];exact hx0
     ·exact(hex u).choose_spec hu
    have hg0x:g0 q.1=x:=if_pos rfl
    have hs0:=hall g0 hg0 hg0x
    have single: ∀p∈c.vars.zip c.coefs,p.1≠q.1→¬1<(vals (domAt d p.1)).length:=fun p hp hpq=>by
     have hpv:=(D5 hp).1
     have heq: ∀y∈vals (domAt d p.1),y=g0 p.1:=fun y hy=>by
      have h1:=hall (fun u=>if u=p.1 then y else g0 u) (fun u hu=>by
       by_cases e:u=p.1
       ·rw[if_pos e,e];exact hy
       ·rw[if_neg e];exact hg0 u hu) ((if_neg (Ne.symm hpq)).trans hg0x)
      have h2:dB c.vars c.coefs (fun u=>if u=p.1 then y else g0 u)=dB c.vars c.coefs g0-p.2*g0 p.1+p.2*y:=by
       unfold dB
       rw[rq (f:=fun r:Int×Int=>r.2*g0 r.1) (f':=fun r=>r.2*(if r.1=p.1 then y else g0 r.1)) (jf hc.nod) hp fun r hr hrp=> ?_,if_pos rfl]
       rw[if_neg fun e=>hrp (kx hc.nod hr hp e)]
      have hk:=(hc.ck _ (D5 hp).2).1
      have h3:p.2*y=p.2*g0 p.1:=by omega
      exact Fu hk h3
     have hu:=aF (gd.few.fine _ (ah (v:=p.1) (by rw[gd.len];exact(hc.vin _ hpv).2))).ok
     intro hl
     cases hv2:vals (domAt d p.1)with
     |nil=>rw[hv2]at hl;simp at hl
     |cons y l=>
      cases l with
      |nil=>rw[hv2]at hl;simp at hl
      |cons z l=>
       rw[hv2]at hu heq
       have h4:=(List.pairwise_cons.1 hu).1 z (.head _)
       have h5:=heq y (.head _)
       have h6:=heq z (.tail _ (.head _))
       omega
    have hzl:(c.vars.zip c.coefs).length=c.vars.length:=by have:=hc.vl;simp;omega
    have hterm: ∀(j:Nat) t,(ac d c.vars c.coefs)[j]? =some t→∃p,(c.vars.zip c.coefs)[j]? =some p∧t=(domAt d p.1,p.2):=fun j t ht=>by
     unfold ac at ht
     rw[C8]at ht
     cases hp:(c.vars.zip c.coefs)[j]? with
     |none=>rw[hp]at ht;cases ht
     |some p=>rw[hp]at ht;exact⟨p,rfl,(C2 ht).symm⟩
    have hmulti: ∀(j:Nat) t,(ac d c.vars c.coefs)[j]? =some t→1<(vals t.1).length→(c.vars.zip c.coefs)[j]? =some q:=fun j t ht hl=>by
     obtain⟨p,hp,rfl⟩:=hterm j t ht
     have hpm:=C4 hp
     by_cases e:p.1=q.1
     ·rw[hp,kx hc.nod hpm hq e]
     ·exact absurd hl (single p hpm e)
    have hone: ∀(j k:Nat),(c.vars.zip c.coefs)[j]? =some q→(c.vars.zip c.coefs)[k]? =some q→j=k:=fun j k h1 h2=>by
     have hj:=(List.getElem?_eq_some_iff.1 h1).1
     have hk:=(List.getElem?_eq_some_iff.1 h2).1
     have e1:(c.vars.zip c.coefs)[j]=(c.vars.zip c.coefs)[k]:=by
      rw[C1 hj]at h1
      rw[C1 hk]at h2
      exact(C2 h1).trans (C2 h2).symm
     exact(Ec (jf hc.nod)).1 e1
    obtain⟨t1,t2⟩:=kJ (ac d c.vars c.coefs) 0 0 0 0
    let ts:List ((List (Int×Int)×Int)×Int):=(c.vars.zip c.coefs).map fun p=>((domAt d p.1,p.2),g0 p.1)
    have et:ts.map (·.1)=ac d c.vars c.coefs:=by simp only[ts,Dz];rfl
    have eS:(ts.map fun t=>t.1.2*t.2).sum=dB c.vars c.coefs g0:=by simp only[ts,Dz];rfl
    have hvt:wO ts:=by
     intro t ht
     obtain⟨p,hp,rfl⟩:=List.mem_map.1 ht
     exact hg0 _ (D5 hp).1
    have hww:=cz (d:=d) hc.vl
    have hb:=hc.big
    have har:=bE c.rhs
    have key:=e9 (B:=aj c.coefs) (by omega) ts 0 0 0 0 (by rw[et];exact di hw.fine) hvt (by rw[et];omega) (by rw[et];omega)
    rw[et,eS,hs0]at key
    obtain⟨k1,_,k3⟩:=key
    have hin:=cQ (ac d c.vars c.coefs) 0 0 0 0 c.vars.length h.pos (by simp[ac];have:=hc.vl;omega) (CS _)
    unfold bT at hno hx
    simp only at hno hx
    by_cases hm2:1<(au 0 (ac d c.vars c.coefs) 0 0 0).1
    ·obtain⟨j,k,t,u,h1,h2,h3,h4,h5⟩:=t2 (by omega)
     exact h1 (hone j k (hmulti j t h2 h4) (hmulti k u h3 h5))
    ·rw[if_neg hm2]at hno hx
     by_cases hm0:(au 0 (ac d c.vars c.coefs) 0 0 0).1=0
     ·rw[if_pos hm0,if_pos (by have:=(k1 hm0).1;omega)]at hno
      refine hno ((dJ ?_ gd.some').2 rfl)
      rw[gd.len]
      exact(hc.vin _ (aK (c:=c) h.pos)).2
     ·rw[if_neg hm0]at hx
      obtain⟨j,t,j1,j2,j3⟩:=t1 (by omega)
      obtain⟨j',t',i1,i2,i3⟩:=k3 (by omega)
      have ejj:j'=j:=by omega
      subst ejj
      have hjq:=hmulti _ t j2 j3
      have hj:j'<c.vars.length:=by have:=(List.getElem?_eq_some_iff.1 hjq).1;omega
      have ev:varAt c j'=q.1∧coefAt c j'=q.2:=by
       have h1:=(List.getElem?_eq_some_iff.1 hjq).2
       have hjc:j'<c.coefs.length:=by have:=hc.vl;omega
       rw[Ex]at h1
       rw[←h1]
       exact⟨aN hj,aN hjc⟩
      have et':t'=((domAt d q.1,q.2),x):=by
       simp only[ts,C8,hjq,DP,C3]at i2
       rw[←i2,hg0x]
      rw[et']at i3
      simp only[FJ]at i3
      rw[j1,Dy,ev.1,ev.2]at hx
      have hqv:=hc.vin _ (D5 hq).1
      have hxd:=gd.few.fine _ (ah (v:=q.1) (by rw[gd.len];exact hqv.2))
      have e:domAt (d.set q.1.toNat (cZ ((vals (domAt d q.1)).filter fun v=>decide (wr ((au 0 (ac d c.vars c.coefs) 0 0 0).2.1+wr (q.2*v))≠c.rhs)))) q.1=cZ ((vals (domAt d q.1)).filter fun v=>decide (wr ((au 0 (ac d c.vars c.coefs) 0 0 0).2.1+wr (q.2*v))≠c.rhs)):=by
       unfold domAt
       rw[C0,DH (by rw[gd.len];exact hqv.2)];rfl
      rw[e,bI (fB (aF hxd.ok)),EG,decide_eq_true_eq]at hx
      have b:=hxd.val _ hx0
      have hk:=hc.ck _ (D5 hq).2
      have m:=dX q.2 x b.1 b.2
      have hk2:=hk.2
      have hrb: -c.rhs≤aG c.rhs∧c.rhs≤aG c.rhs:=by unfold aG;omega
      have hwk:=aU c.coefs
      refine hx.2 ?_
      simp only[wr]
      rw[ae (n:=q.2*x) (by omega) (by omega),ae (by omega) (by omega)]
      omega
   ·rintro⟨g,h3,h4,rfl⟩
    have h4:=of_decide_eq_true h4
    rw[dT]at h4
    exact(keep d gd g h3 h4).2 v hv
 ·refine decide_eq_false fun hne=> ?_
  rw[dT]at hne
  have:=(keep d gd g hg hne).1
  unfold neO at he
  rw[if_neg this]at he
  cases he
open Classical in
noncomputable def gG (c:Con)(d:aa):Option aa:=if h: ∃R:Option aa,∃N,LinAns d c R N then h.choose else none
theorem gF {d:aa}{c:Con}(h:SumOk d c): ∃N,LinAns d c (gG c d) N:=by
 obtain⟨R,N,N',h1,h2,h3⟩:=xn h
 have hex: ∃R:Option aa,∃N,LinAns d c R N:=⟨R,N,h1⟩
 unfold gG
 rw[dif_pos hex]
 exact hex.choose_spec
theorem mE {vars coefs:List Int}(g:Int→Int)(h: ∀k∈coefs,CoefOk k):dB vars (aA coefs) g= -dB vars coefs g:=by
 unfold dB aA
 induction vars generalizing coefs with
 |nil=>simp
 |cons v vars ih=>
  cases coefs with
  |nil=>simp
  |cons k coefs=>
   have e:=(c6 (h k (.head _))).1
   have:=ih fun k hk=>h k (.tail _ hk)
   simp only[CY,EB,Dg]at this⊢
   rw[this,e,Ff]
   omega
theorem SumC.back {n:Nat}{vars coefs:List Int}{rhs:Int}(h:SumC n vars coefs rhs):SumC n vars (aA coefs) (wr (0-rhs)):=by
 have hb:=h.big
 have hp:=aU coefs
 refine⟨by rw[h.vl];simp[aA],h.vin,fun k hk=> ?_,h.nod,?_,h.few⟩
 ·obtain⟨k0,hk0,rfl⟩:=List.mem_map.1 hk
  exact(c6 (h.ck _ hk0)).2
 ·rw[dh _ h.ck,(nD (by omega)).2]
  exact hb
theorem lf {n:Nat}{c:Con}(h:LinC n c):StepOK n c.vars (fun g=>dp c.op (dB c.vars c.coefs g) c.rhs=true) (gG c):=by
 have hc:=h.sum
 have hopc:c.op=0∨c.op=1∨c.op=2:=by have:=h.op;omega
 rcases hopc with h0|h0|h0
 ·refine((nO hc h.ne).congr fun d gd=> ?_).iff fun g=> ?_
  ·obtain⟨N,hN⟩:=gF (h.ok gd)
   unfold LinAns at hN
   rw[if_neg gd.some',if_neg (by omega)]at hN
   rw[A7 hc h0 gd hN]
   rfl
  ·unfold dp
   rw[if_pos h0,decide_eq_true_eq]
 ·have hE: ∀d,GoodD n d→ej leD (GoodD n) (pe c) [true,false] d (gG c d):=fun d gd=>by
   obtain⟨N,hN⟩:=gF (h.ok gd)
   unfold LinAns at hN
   rw[if_neg gd.some',if_neg (by omega)]at hN
   exact yz hc hc.back h0 d N d _ (Come.refl (aZ n) gd) hN
  refine(ej.step hE (P:=fun b g=>if b=true then dB c.vars c.coefs g≤c.rhs else dB c.vars (aA c.coefs) g≤wr (0-c.rhs)) (us:=c.vars) (fun b _=> ?_) hc.vin).iff fun g=> ?_
  ·cases b
   ·exact(nO hc.back h.ne).iff fun g=>by simp
   ·exact(nO hc h.ne).iff fun g=>by simp
  ·have hb:=hc.big
   have hp:=aU c.coefs
   have e1:=(nD (rhs:=c.rhs) (by omega)).1
   have e2:=mE (vars:=c.vars) g hc.ck
   unfold dp
   rw[if_neg (by omega),h0]
   simp only[E4,Fa,or_false,forall_eq_or_imp,forall_eq,if_true,DR,if_false,e1,e2]
   simp
   omega
 ·refine((B7 h h0).step.congr fun d gd=> ?_).iff fun g=> ?_
  ·obtain⟨N,hN⟩:=gF (h.ok gd)
   have hw:bF c d:=hc.whole gd
   unfold LinAns at hN
   rw[if_neg gd.some',if_pos h0,fE hw h.pos]at hN
   exact hN
  ·unfold dp
   rw[if_neg (by omega),h0,dT]
   simp
theorem Ao {c:Con}(g:Int→Int)(hck: ∀k∈c.coefs,CoefOk k)(hop:0≤c.op∧c.op≤2)(hr:aG c.rhs≤4611686018427387904):dp (bN c).op (dB (bN c).vars (bN c).coefs g) (bN c).rhs= !dp c.op (dB c.vars c.coefs g) c.rhs:=by
 have har:aG c.rhs=max c.rhs (-c.rhs):=rfl
 have hopc:c.op=0∨c.op=1∨c.op=2:=by omega
 rcases hopc with h0|h0|h0
 ·have en:bN c= { c with coefs:=aA c.coefs,rhs:=wr (wr (0-c.rhs)-1) }:=by unfold bN;rw[if_pos h0]
  have e1:wr (0-c.rhs)= -c.rhs:=by rw[wr,ae (by omega) (by omega)];omega
  have e2:wr (wr (0-c.rhs)-1)= -c.rhs-1:=by rw[e1,wr,ae (by omega) (by omega)]
  rw[en]
  simp only[dp,h0,if_true,e2,mE g hck]
  by_cases hh:dB c.vars c.coefs g≤c.rhs
  ·rw[decide_eq_true hh,decide_eq_false (by omega)];rfl
  ·rw[decide_eq_false hh,decide_eq_true (by omega)];rfl
 ·have en:bN c= { c with op:=2 }:=by unfold bN;rw[if_neg (by omega),if_pos h0]
  rw[en]
  simp[dp,h0]
 ·have en:bN c= { c with op:=1 }:=by unfold bN;rw[if_neg (by omega),if_neg (by omega),if_pos h0]
  rw[en]
  simp[dp,h0]
theorem mD {a b:aa}{vars coefs:List Int}(h: ∀u∈vars,domAt a u=domAt b u):ac a vars coefs=ac b vars coefs:=
 DS fun p hp=>by rw[h _ (D5 hp).1]
theorem yR {n:Nat}{a b:aa}{vars coefs:List Int}{rhs:Int}(hc:SumC n vars coefs rhs)(ga:GoodD n a)(gb:GoodD n b)(h:leD a b):bg (ac b vars coefs)≤bg (ac a vars coefs)∧fL (ac a vars coefs)≤fL (ac b vars coefs):=by
 have low: ∀ks:List Int,bg (ac b vars ks)≤bg (ac a vars ks):=fun ks=>by
  rw[eU,eU]
  refine(eG fun p hp=> ?_).1
  have hv:=hc.vin _ (D5 hp).1
  have hm:domAt a p.1∈a:=ah (by rw[ga.len];exact hv.2)
  exact qp (ga.few.fine _ hm).ok (gb.few.fine _ (ah (by rw[gb.len];exact hv.2))).ok (fun e=>ga.some' (e▸hm)) (fun x hx=>h.2 p.1 x hv.1 hx) p.2
 have h2:=low (aA coefs)
 rw[oF hc.ck,oF hc.ck]at h2
 exact⟨low coefs,by omega⟩
theorem wY {n:Nat}{a b:aa}{c:Con}(hc:LinC n c)(ga:GoodD n a)(gb:GoodD n b)(h:leD a b)(hs:soW (endsW b c.vars c.coefs) c=true):soW (endsW a c.vars c.coefs) c=true:=by
 obtain⟨h1,h2⟩:=yR hc.sum ga gb h
 have hle:bg (ac a c.vars c.coefs)≤fL (ac a c.vars c.coefs):=(kA (di (hc.sum.whole ga).fine) (eR (hc.sum.whole ga))).2.1
 rw[o7 (hc.sum.whole gb)]at hs
 rw[o7 (hc.sum.whole ga)]
 unfold soW at hs⊢
 simp only[FP,if_false]at hs⊢
 split
 ·rename_i h0
  rw[if_pos h0]at hs
  exact decide_eq_true (by have:=of_decide_eq_true hs;omega)
 ·rename_i h0
  rw[if_neg h0]at hs
  split
  ·rename_i h3
   rw[if_pos h3]at hs
   simp only[CR,decide_eq_true_eq]at hs⊢
   omega
  ·rename_i h3
   rw[if_neg h3]at hs
   simp only[E0,decide_eq_true_eq]at hs⊢
   omega
theorem qy {n:Nat}{c:Con}(hc:LinC n c){d:aa}(gd:GoodD n d)(hs:soW (endsW d c.vars c.coefs) c=true):gG c d=some d:=by
 obtain⟨R,N,N',h1,h2,h3⟩:=xn (hc.ok gd)
 obtain⟨M,hM⟩:=gF (hc.ok gd)
 have e:=xm hM h1
 rw[e]
 exact Ad (hc.ok gd) gd.some' h1 h3 hs
noncomputable def oc (c:Con)(d:aa):Option aa:=if truthR (domAt d c.b)=true then s6 d c (gG (bM c) d) (gG (bN (bM c)) d)else some d
theorem gR {x:List (Int×Int)}(h:az x):truthR x=true↔∀v∈vals x,0≤v∧v≤1:=by
 constructor
 ·intro ht v hv
  obtain⟨r,hr,h1,h2⟩:=aT.1 hv
  have:=List.all_eq_true.1 ht r hr
  simp at this
  omega
 ·intro hv
  refine List.all_eq_true.2 fun r hr=> ?_
  have h0:=h.1 r hr
  have h1:=hv r.1 (aT.2 ⟨r,hr,DO _,h0⟩)
  have h2:=hv r.2 (aT.2 ⟨r,hr,h0,DO _⟩)
  simp
  omega
theorem GoodD.at_ {n:Nat}{d:aa}(h:GoodD n d){v:Int}(hv:v.toNat<n):az (domAt d v)∧domAt d v≠[]:=by
 have hm:domAt d v∈d:=ah (by rw[h.len];exact hv)
 exact⟨(h.few.fine _ hm).ok,fun e=>h.some' (e▸hm)⟩
theorem nA {d:aa}{b v:Int}{x:List (Int×Int)}(hb:0≤b)(hl:b.toNat<d.length)(hv:0≤v):domAt (d.set b.toNat x) v=if v=b then x else domAt d v:=by
 unfold domAt
 rw[C0]
 split
 ·rename_i e;subst e;rw[DH hl];rfl
 ·rename_i e;rw[D2 (by omega),←C0]
theorem pW {d:aa}{b:Int}(hl:b.toNat<d.length):d.set b.toNat (domAt d b)=d:=by
 refine Ds fun i=> ?_
 by_cases e:b.toNat=i
 ·subst e;rw[DH hl,ao hl]
 ·rw[D2 e]
theorem dZ {n:Nat}{d:aa}{b w:Int}(gd:GoodD n d)(hb:0≤b∧b.toNat<n){out:aa}(he:dD d b w=some out):GoodD n out∧leD out d∧(∀v,0≤v→v≠b→domAt out v=domAt d v)∧(∀x,x∈vals (domAt out b)↔x∈vals (domAt d b)∧x=w):=by
 have hbl:b.toNat<d.length:=by rw[gd.len];exact hb.2
 obtain⟨hok,hne⟩:=gd.at_ hb.2
 unfold dD at he
 split at he
 ·cases he
 ·rename_i hx
  obtain rfl:=C2 he
  obtain⟨c1,c2⟩:=bP hok w w
  generalize domCut (domAt d b) w w=x at*
  have hsub:Sub (d.set b.toNat x) d:=kB fun y hy v hv=>by
   rw[ao hbl]at hy
   exact C2 hy▸((c2 v).1 hv).1
  have hfx:Fine x:=(gd.few.fine _ (ah hbl)).cut c1 fun v hv=>((c2 v).1 hv).1
  obtain⟨g1,g2⟩:=GoodD.of_sub gd hsub (g8 gd.few.fine hfx) (fun hm=>hx ((dJ hbl gd.some').1 hm))
  refine⟨g1,g2,fun v h0 hv=>by rw[nA hb.1 hbl h0,if_neg hv],fun y=> ?_⟩
  rw[nA hb.1 hbl hb.1,if_pos rfl,c2]
  constructor
  ·rintro⟨h1,h2,h3⟩;exact⟨h1,by omega⟩
  ·rintro⟨h1,rfl⟩;exact⟨h1,DO _,DO _⟩
theorem qB {n:Nat}{d:aa}{b w:Int}(gd:GoodD n d)(hb:0≤b∧b.toNat<n)(hw:w∈vals (domAt d b)): ∃out,dD d b w=some out:=by
 obtain⟨hok,hne⟩:=gd.at_ hb.2
 unfold dD
 rw[if_neg]
 ·exact⟨_,rfl⟩
 ·intro e
  have:=((bP hok w w).2 w).2 ⟨hw,DO _,DO _⟩
  rw[e]at this;cases this
theorem li {n:Nat}{d:aa}{b w:Int}(gd:GoodD n d)(hb:0≤b∧b.toNat<n){out:aa}(he:dD d b w=some out):w∈vals (domAt d b):=by
 obtain⟨g1,g2,g3,g4⟩:=dZ gd hb he
 obtain⟨x,hx⟩:=g1.ne hb.2
 obtain⟨h1,rfl⟩:=(g4 x).1 hx
 exact h1
theorem dN {n:Nat}{d:aa}{b w:Int}(gd:GoodD n d)(hb:0≤b∧b.toNat<n):dD d b w=some d↔vals (domAt d b)=[w]:=by
 obtain⟨hok,hne⟩:=gd.at_ hb.2
 constructor
 ·intro he
  obtain⟨g1,g2,g3,g4⟩:=dZ gd hb he
  refine dF (aF hok) (Dp _ _) fun x=> ?_
  rw[g4 x,DL]
  exact⟨fun h=>h.2,fun h=>⟨h▸li gd hb he,h⟩⟩
 ·intro hv
  obtain⟨out,ho⟩:=qB gd hb (w:=w) (by rw[hv];exact .head _)
  obtain⟨g1,g2,g3,g4⟩:=dZ gd hb ho
  rw[ho]
  congr 1
  refine ja g1 gd fun v x h0=> ?_
  by_cases e:v=b
  ·subst e
   rw[g4 x,hv,DL]
   exact⟨fun h=>h.1,fun h=>⟨h,h⟩⟩
  ·rw[g3 v h0 e]
theorem dc {x:List (Int×Int)}{v:Int}:hasV x v=true↔v∈vals x:=by
 unfold hasV
 rw[EJ,aT]
 simp
structure ReifC (n:Nat)(c:Con):Prop where
 yes:LinC n (bM c)
 no:LinC n (bN (bM c))
 b:0≤c.b∧c.b.toNat<n
 apart:c.b∉c.vars
 small:aG c.rhs≤4611686018427387904
theorem zX (c:Con):(bN c).vars=c.vars:=by
 unfold bN
 split
 ·rfl
 ·split
  ·rfl
  ·split<;>rfl
theorem zD {n:Nat}{c:Con}(h:ReifC n c){d:aa}(gd:GoodD n d)(hy:yesW d c=true)(hn:noW d c=true):False:=by
 have hdl:0<d.length:=by rw[gd.len];have:=h.b;omega
 obtain⟨a,ha⟩:=xQ gd.few.fine gd.some' hdl
 have h1:=nS (h.yes.ok gd).fine (by have:=h.yes.sum.big;have:=bE (bM c).rhs;omega) h.yes.op ha hy
 have h2:=yn (h.yes.ok gd) ha hn
 rw[h1]at h2;cases h2
theorem x6 {n:Nat}{c:Con}(h:ReifC n c):StepOK n (c.vars++[c.b]) (fun g=>(0≤g c.b∧g c.b≤1)→(dp c.op (dB c.vars c.coefs g) c.rhs=true∧g c.b=1)∨(dp c.op (dB c.vars c.coefs g) c.rhs=false∧g c.b=0)) (oc c):=by
 have sy:=lf h.yes
 have sn:=lf h.no
 have hvn:(bN (bM c)).vars=c.vars:=zX (bM c)
 rw[hvn]at sn
 have hb:=h.b
 have tr: ∀d,GoodD n d→(truthR (domAt d c.b)=true↔∀v∈vals (domAt d c.b),0≤v∧v≤1):=fun d gd=>gR (gd.at_ hb.2).1
 have ym: ∀a b,GoodD n a→GoodD n b→leD a b→yesW b c=true→yesW a c=true:=fun a b ga gb hle hy=>wY (c:=bM c) h.yes ga gb hle hy
 have nm: ∀a b,GoodD n a→GoodD n b→leD a b→noW b c=true→noW a c=true:=fun a b ga gb hle hy=>wY (c:=bN (bM c)) h.no ga gb hle hy
 have yst: ∀a,GoodD n a→yesW a c=true→gG (bM c) a=some a:=fun a ga hy=>qy (c:=bM c) h.yes ga hy
 have nst: ∀a,GoodD n a→noW a c=true→gG (bN (bM c)) a=some a:=fun a ga hy=>qy (c:=bN (bM c)) h.no ga hy
 have hf: ∀d,GoodD n d→oc c d=if truthR (domAt d c.b)=true then(if yesW d c=true then dD d c.b 1 else if noW d c=true then dD d c.b 0 else if hasV (domAt d c.b) 0=false then gG (bM c) d else if hasV (domAt d c.b) 1=false then gG (bN (bM c)) d else some d)else some d:=fun d gd=>by
  unfold oc s6
  rw[if_neg gd.some']
 have hin: ∀u∈c.vars++[c.b],0≤u∧u.toNat<n:=fun u hu=>by
  rcases List.mem_append.1 hu with hu|hu
  ·exact sy.in' u hu
  ·rw[List.mem_singleton.1 hu];exact hb
 refine StepOK.congr (f:=fun d=>if truthR (domAt d c.b)=true then(if yesW d c=true then dD d c.b 1 else if noW d c=true then dD d c.b 0 else if hasV (domAt d c.b) 0=false then gG (bM c) d else if hasV (domAt d c.b) 1=false then gG (bN (bM c)) d else some d)else some d) ⟨⟨fun a a' ga he=> ?_,fun a a' b ga gb hle he=> ?_⟩,fun a b ga gb ha hab=> ?_,fun a out ga he v h0 hv=> ?_,fun e ge g he=> ?_,hin⟩ hf
 ·split at he
  ·split at he
   ·obtain⟨g1,g2,_⟩:=dZ ga hb he
    exact⟨g1,g2⟩
   ·split at he
    ·obtain⟨g1,g2,_⟩:=dZ ga hb he
     exact⟨g1,g2⟩
    ·split at he
     ·exact sy.takes.less a a' ga he
     ·split at he
      ·exact sn.takes.less a a' ga he
      ·obtain rfl:=C2 he
       exact⟨ga,(aZ n).refl a⟩
  ·obtain rfl:=C2 he
   exact⟨ga,(aZ n).refl a⟩
 ·
  have hless:leD a' a:=by
   split at he
   ·split at he
    ·exact(dZ ga hb he).2.1
    ·split at he
     ·exact(dZ ga hb he).2.1
     ·split at he
      ·exact(sy.takes.less a a' ga he).2
      ·split at he
       ·exact(sn.takes.less a a' ga he).2
       ·exact C2 he▸(aZ n).refl a
   ·exact C2 he▸(aZ n).refl a
  have stay: ∃b',some b=some b'∧leD a' b':=⟨b,rfl,(aZ n).trans _ _ _ hless hle⟩
  by_cases htb:truthR (domAt b c.b)=true
  ·have hta:truthR (domAt a c.b)=true:=(tr a ga).2 fun v hv=>(tr b gb).1 htb v (hle.2 _ v hb.1 hv)
   rw[if_pos hta]at he
   rw[if_pos htb]
   have kmono: ∀w,dD a c.b w=some a'→∃b',dD b c.b w=some b'∧leD a' b':=fun w hk=>by
    obtain⟨g1,g2,g3,g4⟩:=dZ ga hb hk
    obtain⟨b',hb'⟩:=qB gb hb (hle.2 _ w hb.1 (li ga hb hk))
    obtain⟨k1,k2,k3,k4⟩:=dZ gb hb hb'
    refine⟨b',hb',by rw[g1.len,k1.len],fun v x h0 hx=> ?_⟩
    by_cases e:v=c.b
    ·subst e
     obtain⟨h1,h2⟩:=(g4 x).1 hx
     exact(k4 x).2 ⟨hle.2 _ x h0 h1,h2⟩
    ·rw[g3 v h0 e]at hx
     rw[k3 v h0 e]
     exact hle.2 v x h0 hx
   by_cases hyb:yesW b c=true
   ·rw[if_pos hyb]
    rw[if_pos (ym a b ga gb hle hyb)]at he
    exact kmono 1 he
   ·rw[if_neg hyb]
    by_cases hnb:noW b c=true
    ·rw[if_pos hnb]
     have hna:=nm a b ga gb hle hnb
     rw[if_neg (fun hy=>zD h ga hy hna),if_pos hna]at he
     exact kmono 0 he
    ·rw[if_neg hnb]
     by_cases h0b:hasV (domAt b c.b) 0=false
     ·rw[if_pos h0b]
      have h0a:hasV (domAt a c.b) 0=false:=by
       cases hh:hasV (domAt a c.b) 0 with
       |false=>rfl
       |true=>rw[dc.2 (hle.2 _ 0 hb.1 (dc.1 hh))]at h0b;cases h0b
      have hle':a'=a∨gG (bM c) a=some a':=by
       by_cases hya:yesW a c=true
       ·rw[if_pos hya]at he
        refine .inl ?_
        have hv:vals (domAt a c.b)=[1]:=by
         obtain⟨x,hx⟩:=ga.ne hb.2
         have hone: ∀y∈vals (domAt a c.b),y=1:=fun y hy=>by
          have h1:=(tr a ga).1 hta y hy
          have h2:y≠0:=fun e=>by rw[e]at hy;rw[dc.2 hy]at h0a;cases h0a
          omega
         exact dF (aF (ga.at_ hb.2).1) (Dp _ _) fun y=>⟨fun hy=>List.mem_singleton.2 (hone y hy),fun hy=>by rw[List.mem_singleton.1 hy,←hone x hx];exact hx⟩
        rw[(dN ga hb).2 hv]at he
        exact(C2 he).symm
       ·rw[if_neg hya]at he
        by_cases hna:noW a c=true
        ·rw[if_pos hna]at he
         have:=li ga hb he
         rw[dc.2 this]at h0a;cases h0a
        ·rw[if_neg hna,if_pos h0a]at he
         exact .inr he
      rcases hle' with e|hl
      ·subst e
       by_cases hya:yesW a' c=true
       ·exact sy.takes.mono a' a' b ga gb hle (yst a' ga hya)
       ·rw[if_neg hya]at he
        by_cases hna:noW a' c=true
        ·rw[if_pos hna]at he
         have:=li ga hb he
         rw[dc.2 this]at h0a;cases h0a
        ·rw[if_neg hna,if_pos h0a]at he
         exact sy.takes.mono a' a' b ga gb hle he
      ·exact sy.takes.mono a a' b ga gb hle hl
     ·rw[if_neg h0b]
      by_cases h1b:hasV (domAt b c.b) 1=false
      ·rw[if_pos h1b]
       have h1a:hasV (domAt a c.b) 1=false:=by
        cases hh:hasV (domAt a c.b) 1 with
        |false=>rfl
        |true=>rw[dc.2 (hle.2 _ 1 hb.1 (dc.1 hh))]at h1b;cases h1b
       have hone: ∀y∈vals (domAt a c.b),y=0:=fun y hy=>by
        have h1:=(tr a ga).1 hta y hy
        have h2:y≠1:=fun e=>by rw[e]at hy;rw[dc.2 hy]at h1a;cases h1a
        omega
       have hv:vals (domAt a c.b)=[0]:=by
        obtain⟨x,hx⟩:=ga.ne hb.2
        exact dF (aF (ga.at_ hb.2).1) (Dp _ _) fun y=>⟨fun hy=>List.mem_singleton.2 (hone y hy),fun hy=>by rw[List.mem_singleton.1 hy,←hone x hx];exact hx⟩
       have h0a: ¬hasV (domAt a c.b) 0=false:=fun e=>by
        have:=dc (x:=domAt a c.b) (v:=0)
        rw[e,hv]at this
        simp at this
       by_cases hya:yesW a c=true
       ·rw[if_pos hya]at he
        have:=li ga hb he
        rw[dc.2 this]at h1a;cases h1a
       ·rw[if_neg hya]at he
        by_cases hna:noW a c=true
        ·rw[if_pos hna,(dN ga hb).2 hv]at he
         obtain rfl:=C2 he
         exact sn.takes.mono a a b ga gb hle (nst a ga hna)
        ·rw[if_neg hna,if_neg h0a,if_pos h1a]at he
         exact sn.takes.mono a a' b ga gb hle he
      ·rw[if_neg h1b]
       exact stay
  ·rw[if_neg htb]
   exact stay
 ·
  have hB:=hab c.b (D7 _ (.head _))
  have hV: ∀u∈c.vars,domAt a u=domAt b u:=fun u hu=>hab u (D4 _ hu)
  have ey:yesW b c=yesW a c:=by unfold yesW endsW;rw[mD hV]
  have en:noW b c=noW a c:=by unfold noW endsW;rw[hvn,mD hV]
  rw[ey,en,←hB]
  split
  ·rename_i ht
   rw[if_pos ht]at ha
   split
   ·rename_i hy
    rw[if_pos hy,dN ga hb]at ha
    rw[dN gb hb,←hB];exact ha
   ·rename_i hy
    rw[if_neg hy]at ha
    split
    ·rename_i hn
     rw[if_pos hn,dN ga hb]at ha
     rw[dN gb hb,←hB];exact ha
    ·rename_i hn
     rw[if_neg hn]at ha
     split
     ·rename_i h0
      rw[if_pos h0]at ha
      exact sy.stays a b ga gb ha hV
     ·rename_i h0
      rw[if_neg h0]at ha
      split
      ·rename_i h1
       rw[if_pos h1]at ha
       exact sn.stays a b ga gb ha hV
      ·rfl
  ·rfl
 ·have hv1:v∉c.vars:=fun hm=>hv (D4 _ hm)
  have hv2:v≠c.b:=fun e=>hv (D7 _ (e▸.head _))
  split at he
  ·split at he
   ·exact(dZ ga hb he).2.2.1 v h0 hv2
   ·split at he
    ·exact(dZ ga hb he).2.2.1 v h0 hv2
    ·split at he
     ·exact sy.off a out ga he v h0 hv1
     ·split at he
      ·exact sn.off a out ga he v h0 hv1
      ·obtain rfl:=C2 he;rfl
  ·obtain rfl:=C2 he;rfl
 ·
  have hB:=he c.b (D7 _ (.head _))
  have hV: ∀u∈c.vars,vals (domAt e u)=[g u]:=fun u hu=>he u (D4 _ hu)
  have py:=sy.point e ge g hV
  have pn:=sn.point e ge g hV
  have hhn:=Ao (c:=bM c) g h.yes.sum.ck h.yes.op h.small
  rw[hvn]at hhn
  have htr:=tr e ge
  rw[hB]at htr
  simp only[DL,forall_eq]at htr
  by_cases ht:truthR (domAt e c.b)=true
  ·have h01:=htr.1 ht
   rw[if_pos ht]
   have hsy:yesW e c=true→dp c.op (dB c.vars c.coefs g) c.rhs=true:=fun hy=>(py.1 (yst e ge hy))
   have hsn:noW e c=true→dp c.op (dB c.vars c.coefs g) c.rhs=false:=fun hn=>by
    have:=pn.1 (nst e ge hn)
    rw[hhn]at this
    have:=Dd _▸this
    exact this
   have e0:hasV (domAt e c.b) 0=false↔g c.b=1:=by
    have:=dc (x:=domAt e c.b) (v:=0)
    rw[hB,DL]at this
    rw[←Fc,this]
    omega
   have e1:hasV (domAt e c.b) 1=false↔g c.b=0:=by
    have:=dc (x:=domAt e c.b) (v:=1)
    rw[hB,DL]at this
    rw[←Fc,this]
    omega
   by_cases hy:yesW e c=true
   ·rw[if_pos hy,dN ge hb,hB,hsy hy]
    simp
    omega
   ·rw[if_neg hy]
    by_cases hn:noW e c=true
    ·rw[if_pos hn,dN ge hb,hB,hsn hn]
     simp
     omega
    ·rw[if_neg hn]
     by_cases h1:g c.b=1
     ·rw[if_pos (e0.2 h1),py]
      simp[h1]
      exact rfl
     ·have h2:g c.b=0:=by omega
      rw[if_neg (fun hh=>h1 (e0.1 hh)),if_pos (e1.2 h2),pn,hhn]
      simp[h2]
      exact rfl
  ·rw[if_neg ht]
   have: ¬(0≤g c.b∧g c.b≤1):=fun hh=>ht (htr.2 hh)
   simp[this]
theorem StepOK.guard {n:Nat}{us:List Int}{P Q:(Int→Int)→Prop}{f:aa→Option aa}{C:aa→Bool}(h:StepOK n us P f)(hm: ∀a b,GoodD n a→GoodD n b→leD a b→C b=true→C a=true)
  (hl: ∀a b,GoodD n a→GoodD n b→(∀u∈us,domAt a u=domAt b u)→C a=C b) (hp: ∀e,GoodD n e→∀g:Int→Int,(∀u∈us,vals (domAt e u)=[g u])→(C e=true↔Q g)):StepOK n us (fun g=>Q g→P g) (fun d=>if C d=true then f d else some d):=by
 refine⟨⟨fun a a' ga he=> ?_,fun a a' b ga gb hle he=> ?_⟩,fun a b ga gb ha hab=> ?_,fun a out ga he v h0 hv=> ?_,fun e ge g he=> ?_,h.in'⟩
 ·split at he
  ·exact h.takes.less a a' ga he
  ·obtain rfl:=C2 he
   exact⟨ga,(aZ n).refl a⟩
 ·by_cases hc:C b=true
  ·rw[if_pos (hm a b ga gb hle hc)]at he
   rw[if_pos hc]
   exact h.takes.mono a a' b ga gb hle he
  ·rw[if_neg hc]
   refine⟨b,rfl,(aZ n).trans _ _ _ ?_ hle⟩
   split at he
   ·exact(h.takes.less a a' ga he).2
   ·exact C2 he▸(aZ n).refl a
 ·rw[←hl a b ga gb hab]
  split
  ·rename_i hc
   rw[if_pos hc]at ha
   exact h.stays a b ga gb ha hab
  ·rfl
 ·split at he
  ·exact h.off a out ga he v h0 hv
  ·obtain rfl:=C2 he;rfl
 ·have hq:=hp e ge g he
  by_cases hc:C e=true
  ·rw[if_pos hc,h.point e ge g he]
   exact⟨fun h _=>h,fun h=>h (hq.1 hc)⟩
  ·rw[if_neg hc]
   exact⟨fun _ h=>absurd (hq.2 h) hc,fun _=>rfl⟩
def pB (a b:Int)(d:aa):Option aa:=
 if a=b then some d else
 if domCut (domAt d a) (-1048576) (aM (domAt d b))=[]∨domCut (domAt d b) (ay (domAt d a)) 1048576=[]then none else
 some ((d.set a.toNat (domCut (domAt d a) (-1048576) (aM (domAt d b)))).set b.toNat (domCut (domAt d b) (ay (domAt d a)) 1048576))
theorem Bg {n:Nat}{us:List Int}{P:(Int→Int)→Prop}(hp: ∀g,P g)(hin: ∀u∈us,0≤u∧u.toNat<n):StepOK n us P some:=
 ⟨⟨fun a a' ga he=>by obtain rfl:=C2 he;exact⟨ga,(aZ n).refl a⟩,fun a a' b ga gb hle he=>by obtain rfl:=C2 he;exact⟨b,rfl,hle⟩⟩,fun _ _ _ _ _ _=>rfl,fun a out ga he v _ _=>by obtain rfl:=C2 he;rfl,fun _ _ g _=>⟨fun _=>hp g,fun _=>rfl⟩,hin⟩
theorem Cb {n:Nat}{a b:Int}(hab:a≠b)(ha:0≤a∧a.toNat<n)(hb:0≤b∧b.toNat<n):SuppS n [a,b] (fun l=>decide (l.getD 0 0≤l.getD 1 0)) (pB a b):=by
 have two: ∀g:Int→Int,(decide ((([a,b]:List Int).map g).getD 0 0≤(([a,b]:List Int).map g).getD 1 0)=true)↔g a≤g b:=fun g=>by simp
 have ends: ∀d,GoodD n d→∀v:Int,0≤v∧v.toNat<n→az (domAt d v)∧ay (domAt d v)∈vals (domAt d v)∧aM (domAt d v)∈vals (domAt d v)∧∀x∈vals (domAt d v),-1048576≤x∧x≤1048576∧ay (domAt d v)≤x∧x≤aM (domAt d v):=fun d gd v hv=>by
  obtain⟨h1,h2⟩:=gd.at_ hv.2
  have h3:=(gd.few.fine _ (ah (v:=v) (by rw[gd.len];exact hv.2))).val
  exact⟨h1,fA h1 h2,oN h1 h2,fun x hx=>⟨(h3 x hx).1,(h3 x hx).2,oM h1 hx,nv h1 hx⟩⟩
 have pick: ∀(P:Int→Prop) (x y:Int),∃g:Int→Int,g a=x∧g b=y:=fun _ x y=>⟨fun u=>if u=a then x else y,if_pos rfl,if_neg (Ne.symm hab)⟩
 have hin: ∀u∈[a,b],0≤u∧u.toNat<n:=fun u hu=>by
  rcases List.mem_cons.1 hu with rfl|hu
  ·exact ha
  ·rw[List.mem_singleton.1 hu];exact hb
 refine⟨fun d out gd he=> ?_,fun d gd he g hg=> ?_,hin,by simp⟩
 ·obtain⟨oa,la,ma,va⟩:=ends d gd a ha
  obtain⟨ob,lb,mb,vb⟩:=ends d gd b hb
  have hal:a.toNat<d.length:=by rw[gd.len];exact ha.2
  have hbl:b.toNat<d.length:=by rw[gd.len];exact hb.2
  unfold pB at he
  rw[if_neg hab]at he
  split at he
  ·cases he
  ·rename_i hne
   obtain rfl:=C2 he
   obtain⟨x1,x2⟩:=bP oa (-1048576) (aM (domAt d b))
   obtain⟨y1,y2⟩:=bP ob (ay (domAt d a)) 1048576
   generalize domCut (domAt d a) (-1048576) (aM (domAt d b))=x at*
   generalize domCut (domAt d b) (ay (domAt d a)) 1048576=y at*
   have hd1: ∀v,0≤v→domAt ((d.set a.toNat x).set b.toNat y) v=if v=b then y else if v=a then x else domAt d v:=fun v h0=>by
    rw[nA hb.1 (by rw[DI];exact hbl) h0]
    split
    ·rfl
    ·rw[nA ha.1 hal h0]
   have s1:Sub (d.set a.toNat x) d:=kB fun z hz v hv=>by
    rw[ao hal]at hz
    exact C2 hz▸((x2 v).1 hv).1
   have s2:Sub ((d.set a.toNat x).set b.toNat y) (d.set a.toNat x):=kB fun z hz v hv=>by
    rw[D2 (by omega),ao hbl]at hz
    exact C2 hz▸((y2 v).1 hv).1
   have fx:Fine x:=(gd.few.fine _ (ah hal)).cut x1 fun v hv=>((x2 v).1 hv).1
   have fy:Fine y:=(gd.few.fine _ (ah hbl)).cut y1 fun v hv=>((y2 v).1 hv).1
   have hno: []∉(d.set a.toNat x).set b.toNat y:=fun hm=>by
    have h1: []∉d.set a.toNat x:=fun hm=>hne (.inl ((dJ hal gd.some').1 hm))
    exact hne (.inr ((dJ (by rw[DI];exact hbl) h1).1 hm))
   refine⟨(GoodD.of_sub gd (Sub.trans s2 s1) (g8 (g8 gd.few.fine fx) fy) hno).1,fun v hv z=> ?_,fun v h0 hv=> ?_⟩
   ·rcases List.mem_cons.1 hv with rfl|hv
    ·rw[hd1 v ha.1,if_neg hab,if_pos rfl,x2]
     constructor
     ·rintro⟨h1,_,h2⟩
      obtain⟨g,g1,g2⟩:=pick (fun _=>True) z (aM (domAt d b))
      refine⟨g,fun u hu=> ?_,(two g).2 (by omega),g1⟩
      rcases List.mem_cons.1 hu with rfl|hu
      ·rw[g1];exact h1
      ·rw[List.mem_singleton.1 hu,g2];exact mb
     ·rintro⟨g,g1,g2,rfl⟩
      have g2:=(two g).1 g2
      have h1:=g1 v (.head _)
      have h2:=g1 b (.tail _ (.head _))
      exact⟨h1,(va _ h1).1,by have:=vb _ h2;omega⟩
    ·obtain rfl:=List.mem_singleton.1 hv
     rw[hd1 v hb.1,if_pos rfl,y2]
     constructor
     ·rintro⟨h1,h2,_⟩
      obtain⟨g,g1,g2⟩:=pick (fun _=>True) (ay (domAt d a)) z
      refine⟨g,fun u hu=> ?_,(two g).2 (by omega),g2⟩
      rcases List.mem_cons.1 hu with rfl|hu
      ·rw[g1];exact la
      ·rw[List.mem_singleton.1 hu,g2];exact h1
     ·rintro⟨g,g1,g2,rfl⟩
      have g2:=(two g).1 g2
      have h1:=g1 a (.head _)
      have h2:=g1 v (.tail _ (.head _))
      exact⟨h2,by have:=va _ h1;omega,(vb _ h2).2.1⟩
   ·have n1:v≠b:=fun e=>hv (by rw[e];exact .tail _ (.head _))
    have n2:v≠a:=fun e=>hv (by rw[e];exact .head _)
    rw[hd1 v h0,if_neg n1,if_neg n2]
 ·refine decide_eq_false fun hle=> ?_
  have hle:=(two g).1 (decide_eq_true hle)
  have h1:=hg a (.head _)
  have h2:=hg b (.tail _ (.head _))
  obtain⟨oa,la,ma,va⟩:=ends d gd a ha
  obtain⟨ob,lb,mb,vb⟩:=ends d gd b hb
  have v1:=va _ h1
  have v2:=vb _ h2
  have e1:=((bP oa (-1048576) (aM (domAt d b))).2 (g a)).2 ⟨h1,by omega,by omega⟩
  have e2:=((bP ob (ay (domAt d a)) 1048576).2 (g b)).2 ⟨h2,by omega,by omega⟩
  unfold pB at he
  rw[if_neg hab]at he
  split at he
  ·rename_i hh
   rcases hh with hh|hh
   ·rw[hh]at e1;cases e1
   ·rw[hh]at e2;cases e2
  ·cases he
theorem qW {n:Nat}{a b:Int}(ha:0≤a∧a.toNat<n)(hb:0≤b∧b.toNat<n):StepOK n [a,b] (fun g=>g a≤g b) (pB a b):=by
 by_cases hab:a=b
 ·refine StepOK.congr (Bg (fun g=>by rw[hab];exact DO _) fun u hu=> ?_) fun d _=>by unfold pB;rw[if_pos hab]
  rcases List.mem_cons.1 hu with rfl|hu
  ·exact ha
  ·rw[List.mem_singleton.1 hu];exact hb
 ·exact(Cb hab ha hb).step.iff fun g=>by simp
def mt (c:Con)(k:Nat)(d:aa):Bool:=(List.range k).all (dU d c)
def uF (c:Con)(k:Nat)(d:aa):Option aa:=if mt c k d=true then pB (varAt c k) (varAt c (halfOf c+k)) d else some d
structure LexC (n:Nat)(c:Con):Prop where
 vin: ∀v∈c.vars,0≤v∧v.toNat<n
theorem iX {n:Nat}{c:Con}(h:LexC n c){d:aa}(gd:GoodD n d){j:Nat}(hj:j<halfOf c):dU d c j=true↔varAt c j=varAt c (halfOf c+j)∨∃x,vals (domAt d (varAt c j))=[x]∧vals (domAt d (varAt c (halfOf c+j)))=[x]:=by
 have hh:=jq c
 have o1:=gd.at_ (h.vin _ (aK (c:=c) (k:=j) (by omega))).2
 have o2:=gd.at_ (h.vin _ (aK (c:=c) (k:=halfOf c+j) (by omega))).2
 unfold dU
 rw[v8 o1.1 o2.1]
 refine or_congr_right ⟨?_,?_⟩
 ·rintro⟨h1,h2⟩
  obtain⟨x,hx⟩:=List.length_eq_one_iff.1 h1
  exact⟨x,hx,by rw[←h2,hx]⟩
 ·rintro⟨x,h1,h2⟩
  exact⟨by rw[h1];rfl,iq o1.1 o2.1 (by rw[h1,h2])⟩
theorem qV {n:Nat}{c:Con}(h:LexC n c){k:Nat}(hk:k<halfOf c):StepOK n c.vars (fun g=>(∀j,j<k→g (varAt c j)=g (varAt c (halfOf c+j)))→g (varAt c k)≤g (varAt c (halfOf c+k))) (uF c k):=by
 have hh:=jq c
 have m1: ∀j,j<halfOf c→varAt c j∈c.vars∧varAt c (halfOf c+j)∈c.vars:=fun j hj=>⟨aK (by omega),aK (by omega)⟩
 obtain⟨ha,hb⟩:=m1 k hk
 refine StepOK.guard (C:=mt c k) ((qW (h.vin _ ha) (h.vin _ hb)).wide (fun u hu=> ?_) h.vin) (fun a b ga gb hle hc=> ?_) (fun a b ga gb hab=> ?_) (fun e ge g he=> ?_)
 ·rcases List.mem_cons.1 hu with rfl|hu
  ·exact ha
  ·rw[List.mem_singleton.1 hu];exact hb
 ·refine List.all_eq_true.2 fun j hj=> ?_
  have hj':=List.mem_range.1 hj
  have hjh:j<halfOf c:=by omega
  obtain⟨v1,v2⟩:=m1 j hjh
  have:=(iX h gb hjh).1 (List.all_eq_true.1 hc j hj)
  refine(iX h ga hjh).2 (this.imp id ?_)
  rintro⟨x,h1,h2⟩
  have key: ∀v∈c.vars,vals (domAt b v)=[x]→vals (domAt a v)=[x]:=fun v hv e=>by
   have hn:=h.vin v hv
   obtain⟨y,hy⟩:=ga.ne hn.2
   have hsub: ∀z∈vals (domAt a v),z=x:=fun z hz=>by
    have:=hle.2 v z hn.1 hz
    rw[e]at this
    exact List.mem_singleton.1 this
   exact dF (aF (ga.at_ hn.2).1) (Dp _ _) fun z=>⟨fun hz=>List.mem_singleton.2 (hsub z hz),fun hz=>by rw[List.mem_singleton.1 hz,←hsub y hy];exact hy⟩
  exact⟨x,key _ v1 h1,key _ v2 h2⟩
 ·unfold mt
  rw[EQ,DA,DA]
  refine forall_congr' fun j=>imp_congr_right fun hj=> ?_
  have hj':=List.mem_range.1 hj
  obtain⟨v1,v2⟩:=m1 j (by omega)
  unfold dU
  rw[hab _ v1,hab _ v2]
 ·unfold mt
  rw[DA]
  refine forall_congr' fun j=> ?_
  rw[Ej]
  refine imp_congr_right fun hj=> ?_
  obtain⟨v1,v2⟩:=m1 j (by omega)
  rw[iX h ge (by omega),he _ v1,he _ v2]
  constructor
  ·rintro(e|⟨x,h1,h2⟩)
   ·rw[e]
   ·rw[(List.cons.inj h1).1,(List.cons.inj h2).1]
  ·exact fun e=> .inr ⟨_,rfl,by rw[e]⟩
theorem Af {n:Nat}{c:Con}(h:LexC n c)(d0:aa): ∀(N:Nat) (d:aa) (R:Option aa),Come leD (GoodD n) (uF c) (List.range (halfOf c)) d0 d→cH (dI c) N d=some R→ej leD (GoodD n) (uF c) (List.range (halfOf c)) d0 R:=by
 intro N
 induction N using Nat.strongRecOn with
 |_ N ih=>
  intro d R hd hR
  have hh:=jq c
  have known: ∀k,k<halfOf c→dU d c k=true→pB (varAt c k) (varAt c (halfOf c+k)) d=some d:=fun k hk hp=>by
   have v1:=h.vin _ (aK (c:=c) (k:=k) (by omega))
   have v2:=h.vin _ (aK (c:=c) (k:=halfOf c+k) (by omega))
   rcases (iX h hd.fine hk).1 hp with e|⟨x,h1,h2⟩
   ·unfold pB;rw[if_pos e]
   ·refine((qW v1 v2).point d hd.fine (fun _=>x) fun u hu=> ?_).2 (DO _)
    rcases List.mem_cons.1 hu with rfl|hu
    ·exact h1
    ·rw[List.mem_singleton.1 hu];exact h2
  have stay: ∀k,k<halfOf c→dU d c k=true→uF c k d=some d:=fun k hk hp=>by
   unfold uF
   rw[known k hk hp,ite_self]
  by_cases hk:placeO d c=halfOf c
  ·have hst:dI c d= .inl (some d):=by unfold dI;rw[if_pos hk]
   obtain rfl:=be hR hst
   refine⟨hd,fun k hk2=> ?_⟩
   have hk2:=List.mem_range.1 hk2
   exact stay k hk2 (jH (p:=dU d c) (h:=halfOf c) (j:=k) (by unfold placeO at hk;omega))
  ·have hkl:placeO d c<halfOf c:=by have:=lV (dU d c) (halfOf c);unfold placeO at hk⊢;omega
   have hn:dU d c (placeO d c)=false:=mK hkl
   have hbf: ∀j,j<placeO d c→dU d c j=true:=fun j hj=>jH hj
   have hst:dI c d=(if domCut (domAt d (varAt c (placeO d c))) (-1048576) (aM (domAt d (varAt c (halfOf c+placeO d c))))=[]∨domCut (domAt d (varAt c (halfOf c+placeO d c))) (ay (domAt d (varAt c (placeO d c)))) 1048576=[]then .inl none else
    if domCut (domAt d (varAt c (placeO d c))) (-1048576) (aM (domAt d (varAt c (halfOf c+placeO d c))))=domAt d (varAt c (placeO d c))∧domCut (domAt d (varAt c (halfOf c+placeO d c))) (ay (domAt d (varAt c (placeO d c)))) 1048576=domAt d (varAt c (halfOf c+placeO d c))then .inl (some d)else
    .inr ((d.set (varAt c (placeO d c)).toNat (domCut (domAt d (varAt c (placeO d c))) (-1048576) (aM (domAt d (varAt c (halfOf c+placeO d c)))))).set (varAt c (halfOf c+placeO d c)).toNat (domCut (domAt d (varAt c (halfOf c+placeO d c))) (ay (domAt d (varAt c (placeO d c)))) 1048576))):=by
    unfold dI
    rw[if_neg hk]
   generalize placeO d c=k at*
   have v1:=h.vin _ (aK (c:=c) (k:=k) (by omega))
   have v2:=h.vin _ (aK (c:=c) (k:=halfOf c+k) (by omega))
   have hab:varAt c k≠varAt c (halfOf c+k):=fun e=>by
    rw[(iX h hd.fine hkl).2 (.inl e)]at hn;cases hn
   have hah:mt c k d=true:=List.all_eq_true.2 fun j hj=>hbf j (List.mem_range.1 hj)
   have hcut:uF c k d=pB (varAt c k) (varAt c (halfOf c+k)) d:=if_pos hah
   have htk:=(qV h hkl).takes
   unfold pB at hcut
   rw[if_neg hab]at hcut
   by_cases e1:domCut (domAt d (varAt c k)) (-1048576) (aM (domAt d (varAt c (halfOf c+k))))=[]∨domCut (domAt d (varAt c (halfOf c+k))) (ay (domAt d (varAt c k))) 1048576=[]
   ·rw[if_pos e1]at hst hcut
    obtain rfl:=be hR hst
    exact hd.none (c:=k) (List.mem_range.2 hkl) htk hcut
   ·rw[if_neg e1]at hst hcut
    by_cases e2:domCut (domAt d (varAt c k)) (-1048576) (aM (domAt d (varAt c (halfOf c+k))))=domAt d (varAt c k)∧domCut (domAt d (varAt c (halfOf c+k))) (ay (domAt d (varAt c k))) 1048576=domAt d (varAt c (halfOf c+k))
    ·rw[if_pos e2]at hst
     obtain rfl:=be hR hst
     refine⟨hd,fun j hj=> ?_⟩
     have hj:=List.mem_range.1 hj
     by_cases hjk:j<k
     ·exact stay j hj (hbf j hjk)
     ·by_cases e:j=k
      ·subst e
       rw[hcut,e2.1,e2.2,pW (by rw[hd.fine.len];exact v1.2),pW (by rw[hd.fine.len];exact v2.2)]
      ·have:mt c j d=false:=by
        rw[←Fc]
        intro ht
        have:=List.all_eq_true.1 ht k (List.mem_range.2 (by omega))
        rw[hn]at this;cases this
       unfold uF
       rw[this];rfl
    ·rw[if_neg e2]at hst
     obtain⟨m,hm,hR2⟩:=gI hR hst
     exact ih m hm _ R (hd.step (aZ n) (c:=k) (List.mem_range.2 hkl) htk hcut) hR2
open Classical in
noncomputable def v6 (c:Con)(d:aa):Option aa:=if h: ∃R:Option aa,∃N,cH (dI c) N d=some R then h.choose else none
theorem tW {c:Con}{d:aa}{R:Option aa}{N:Nat}(h:cH (dI c) N d=some R):R=v6 c d:=by
 have hex: ∃R:Option aa,∃N,cH (dI c) N d=some R:=⟨R,N,h⟩
 obtain⟨M,hM⟩:=hex.choose_spec
 unfold v6
 rw[dif_pos hex]
 exact oQ h hM
theorem tq: ∀(xs ys:List Int),xs.length=ys.length→(dz xs ys≤0↔∀k,k<xs.length→(∀j,j<k→xs.getD j 0=ys.getD j 0)→xs.getD k 0≤ys.getD k 0)
 | [],[],_=>by simp[dz]
 | [],_::_,h=>by simp at h
 |_::_,[],h=>by simp at h
 |x::xs,y::ys,h=>by
  rw[dz]
  have ih:=tq xs ys (by simpa using h)
  by_cases h1:x<y
  ·rw[if_pos h1]
   refine⟨fun _ k hk he=> ?_,fun _=>by omega⟩
   cases k with
   |zero=>simp;omega
   |succ k=>have:=he 0 (by omega);simp at this;omega
  ·rw[if_neg h1]
   by_cases h2:y<x
   ·rw[if_pos (by omega)]
    refine⟨fun h=>by omega,fun hh=> ?_⟩
    have:=hh 0 (by simp) (fun j hj=>by omega)
    simp at this;omega
   ·rw[if_neg (by omega)]
    have e:x=y:=by omega
    subst e
    rw[ih]
    constructor
    ·intro hh k hk he
     cases k with
     |zero=>simp
     |succ k=>
      have:=hh k (by simpa using hk) fun j hj=>by simpa using he (j+1) (by omega)
      simpa using this
    ·intro hh k hk he
     have:=hh (k+1) (by simpa using hk) fun j hj=>by
      cases j with
      |zero=>simp
      |succ j=>simpa using he j (by omega)
     simpa using this
theorem Ae {n:Nat}{c:Con}(h:LexC n c)(hl:c.vars.length*8≤140737488355328)(heven:c.vars.length % 2=0):StepOK n c.vars (fun g=>dz ((c.vars.map g).take (c.vars.length / 2)) ((c.vars.map g).drop (c.vars.length / 2))≤0) (v6 c):=by
 have hE: ∀d,GoodD n d→ej leD (GoodD n) (uF c) (List.range (halfOf c)) d (v6 c d):=fun d gd=>by
  obtain⟨R,N,h1,_⟩:=p7 (c:=c) (d:=d) ⟨hl,fun v hv=>by rw[gd.len];exact h.vin v hv⟩ gd.few.fine
  rw[if_neg gd.some']at h1
  rw[←tW h1]
  exact Af h d N d R (Come.refl (aZ n) gd) h1
 refine(ej.step hE (fun k hk=>qV h (List.mem_range.1 hk)) h.vin).iff fun g=> ?_
 have hh:c.vars.length=halfOf c+halfOf c:=by unfold halfOf;omega
 have e:c.vars.length / 2=halfOf c:=rfl
 have x1:((c.vars.map g).take (halfOf c)).length=halfOf c:=by simp;omega
 have y1:((c.vars.map g).drop (halfOf c)).length=halfOf c:=by simp;omega
 have x2: ∀k,k<halfOf c→((c.vars.map g).take (halfOf c)).getD k 0=g (varAt c k):=fun k hk=>by
  unfold varAt
  rw[C0,C0,Dn,if_pos hk,C8,C1 (by omega)];rfl
 have y2: ∀k,k<halfOf c→((c.vars.map g).drop (halfOf c)).getD k 0=g (varAt c (halfOf c+k)):=fun k hk=>by
  unfold varAt
  rw[C0,C0,Eh,C8,C1 (by omega)];rfl
 rw[e,tq _ _ (by rw[x1,y1]),x1]
 constructor
 ·intro hp k hk he
  rw[x2 k hk,y2 k hk]
  exact hp k (List.mem_range.2 hk) fun j hj=>by
   have:=he j hj
   rwa[x2 j (by omega),y2 j (by omega)]at this
 ·intro hp k hk he
  have hk:=List.mem_range.1 hk
  have:=hp k hk fun j hj=>by rw[x2 j (by omega),y2 j (by omega)];exact he j hj
  rwa[x2 k hk,y2 k hk]at this
theorem FewD.smallD {d:aa}(h:FewD d):je d:=⟨h.small,fun x hx=>by have:=(h.fine x hx).len;omega⟩
theorem jP.few {d:aa}(h:FewD d){vars:List Int}(hv:jP d vars):vars.length*24≤140737488355328:=by
 have:vars.length≤d.length:=by
  have h1:(vars.map Int.toNat).Nodup:=fz hv.1 fun x hx y hy e=>by
   have:=(hv.2 x hx).1;have:=(hv.2 y hy).1;omega
  have h2:=lY h1 (b:=List.range d.length) fun k hk=>by
   obtain⟨v,hv2,rfl⟩:=List.mem_map.1 hk
   exact List.mem_range.2 (hv.2 v hv2).2
  simpa using h2
 have:=h.small
 omega
theorem uZ (d:aa)(vars:List Int)(h:FewD d)(hv:jP d vars)(hne:vars≠[]):Spec Tryz.prog 133 false [aJ d,.agg (cC (Bm vars))] (aW (gW d vars)):=by
 have:=sG d (Bm vars) h.smallD h.valD.inb h.valD.len hv.2 (hv.few h)
 rw[show(Bm vars).vars=vars from rfl,zI h hv hne]at this
 exact this
theorem Ar {a b:Int}(h:a≤b)(h1: -1048576≤a)(h2:b≤1048576):Fine [(a,b)]:=by
 have hv:vals [(a,b)]=rng a b:=by
  show rng a b++[]=_
  rw[Dv]
 refine⟨⟨fun r hr=> ?_,by simp⟩,?_,?_⟩
 ·obtain rfl:=List.mem_singleton.1 hr;exact h
 ·rw[hv];intro v hm
  have:=cF.1 hm
  omega
 ·rw[hv];simp[rng];omega
def jW (n:Nat)(g:Int→Int):List Int:=(List.range n).map fun j:Nat=>g (j:Int)
theorem AJ (n:Nat)(g:Int→Int):(jW n g).length=n:=by simp[jW]
theorem lN {n:Nat}{g:Int→Int}{v:Int}(h:0≤v∧v.toNat<n):atR (jW n g) v=g v:=by
 unfold atR jW
 rw[if_neg (by omega),C0,C8,Du h.2]
 show g ((v.toNat:Nat):Int)=g v
 congr 1;omega
theorem zi {n:Nat}{a:List Int}(h:a.length=n):jW n (atR a)=a:=by
 subst h
 refine Ed (AJ _ _) fun i h1 h2=> ?_
 simp only[jW,Ee,List.getElem_range]
 unfold atR
 rw[if_neg (by omega)]
 simp[C0,h2]
theorem rA {vars a b:List Int}(h: ∀u∈vars,atR a u=atR b u):pickedR vars a=pickedR vars b:=DS h
theorem vc {vars coefs a b:List Int}(h: ∀u∈vars,atR a u=atR b u):sumW vars coefs a=sumW vars coefs b:=by
 unfold sumW
 have: ∀(l:List (Int×Int)) (n:Int),(∀p∈l,atR a p.1=atR b p.1)→l.foldl (fun n p=>IntKind.i64.wrap (n+IntKind.i64.wrap (p.2*atR a p.1))) n=l.foldl (fun n p=>IntKind.i64.wrap (n+IntKind.i64.wrap (p.2*atR b p.1))) n:=by
  intro l
  induction l with
  |nil=>intro n _;rfl
  |cons p l ih=>
   intro n hp
   rw[CZ,CZ,hp p (.head _)]
   exact ih _ fun q hq=>hp q (.tail _ hq)
 exact this _ _ fun p hp=>h _ (D5 hp).1
theorem uses_mem {c:Con}{u:Int}:u∈usesR c↔u∈c.vars∨c.kind=4∧u=c.b:=by
 unfold usesR
 rw[bJ]
 split
 ·rename_i h;simp[h]
 ·rename_i h;simp[h]
theorem uj {c:Con}{a b:List Int}(h: ∀u∈usesR c,atR a u=atR b u):holdsR c a=holdsR c b:=by
 have hv: ∀u∈c.vars,atR a u=atR b u:=fun u hu=>h u (uses_mem.2 (.inl hu))
 have e1:=rA hv
 have e2:soR c a=soR c b:=by unfold soR;rw[vc hv]
 unfold holdsR holds6
 rw[e1,e2]
 by_cases hk:c.kind=4
 ·rw[h c.b (uses_mem.2 (.inr ⟨hk,rfl⟩))]
 ·simp only[if_neg hk]
theorem ve {vars coefs a:List Int}{g:Int→Int}(hl:vars.length=coefs.length)(hck: ∀k∈coefs,CoefOk k)(hw:aj coefs≤4611686018427388928)(ha: ∀u∈vars,atR a u=g u)(hb: ∀u∈vars,-1048576≤g u∧g u≤1048576):sumW vars coefs a=dB vars coefs g:=by
 have key: ∀(l:List (Int×Int)) (n:Int),(∀p∈l,atR a p.1=g p.1∧(-1048576≤g p.1∧g p.1≤1048576)∧CoefOk p.2)→-4611686018427388928≤n-aj (l.map (·.2))→n+aj (l.map (·.2))≤4611686018427388928→
   l.foldl (fun n p=>IntKind.i64.wrap (n+IntKind.i64.wrap (p.2*atR a p.1))) n=n+(l.map fun p=>p.2*g p.1).sum:=by
  intro l
  induction l with
  |nil=>intro n _ _ _;simp
  |cons p l ih=>
   intro n hp h1 h2
   obtain⟨e,b,hk⟩:=hp p (.head _)
   have m:=dX p.2 (g p.1) b.1 b.2
   have hk2:=hk.2
   have hpos:=aU (l.map (·.2))
   have ew:aj ((p::l).map (·.2))=aG p.2*1048576+aj (l.map (·.2)):=by simp[aj]
   rw[ew]at h1 h2
   have hab:=bE p.2
   rw[CZ,e,ae (n:=p.2*g p.1) (by omega) (by omega),ae (by omega) (by omega),ih _ (fun q hq=>hp q (.tail _ hq)) (by omega) (by omega)]
   simp only[CY,Dg]
   omega
 have e:(vars.zip coefs).map (·.2)=coefs:=List.map_snd_zip (by omega)
 have hp:=aU coefs
 unfold sumW dB
 rw[key _ 0 (fun p hp=>⟨ha _ (D5 hp).1,hb _ (D5 hp).1,hck _ (D5 hp).2⟩) (by rw[e];omega) (by rw[e];omega),FJ]
theorem StepOK.iff' {n:Nat}{us:List Int}{P Q:(Int→Int)→Prop}{f:aa→Option aa}(h:StepOK n us P f)(hq: ∀g:Int→Int,(∀u∈us,-1048576≤g u∧g u≤1048576)→(P g↔Q g)):StepOK n us Q f:=by
 refine⟨h.takes,h.stays,h.off,fun e ge g he=>(h.point e ge g he).trans (hq g fun u hu=> ?_),h.in'⟩
 have hm:domAt e u∈e:=ah (by rw[ge.len];exact(h.in' u hu).2)
 exact(ge.few.fine _ hm).val _ (by rw[he u hu];exact .head _)
theorem nodup_full: ∀(l s:List Int),s.Nodup→(∀x∈s,x∈l)→l.length≤s.length→l.Nodup
 | [],_,_,_,_=> .nil
 |x::l,s,hs,hm,hl=>by
  have hx:x∉l:=fun hx=>by
   have:=hs.length_le_of_subset (l₂:=l) fun y hy=>by
    rcases List.mem_cons.1 (hm y hy)with rfl|h
    ·exact hx
    ·exact h
   simp at hl;omega
  have h2: ∀y∈s.erase x,y∈l:=fun y hy=>by
   have:=(hs.mem_erase_iff).1 hy
   exact(List.mem_cons.1 (hm y this.2)).resolve_left this.1
  have h3:=List.length_erase_le (l:=s) (a:=x)
  have h4:s.length-1≤(s.erase x).length:=by
   rw[List.length_erase];split<;>omega
  exact List.nodup_cons.2 ⟨hx,nodup_full l (s.erase x) (hs.erase x) h2 (by simp at hl;omega)⟩
theorem pR {l:List Int}:(aV l).length=l.length↔l.Nodup:=by
 constructor
 ·intro h
  exact nodup_full l (aV l) (dA (bZ l)) (fun x hx=>(bJ x l).1 hx) (by omega)
 ·intro h
  have h1:=(dA (bZ l)).length_le_of_subset (l₂:=l) fun x hx=>(bJ x l).1 hx
  have h2:=h.length_le_of_subset (l₂:=aV l) fun x hx=>(bJ x l).2 hx
  omega
noncomputable def bK (c:Con)(d:aa):Option aa:=
 if c.kind=0 then gG c d else
 if c.kind=1 then gW d c.vars else
 if c.kind=4 then oc c d else
 if c.kind=6 then v6 c d else
 lh d (usesR c) fun t=>holdsR c (eA d.length (usesR c) t (usesR c).length)
theorem wU {n:Nat}{d:aa}{c:Con}(gd:GoodD n d)(h:SumOk d c):LinC n c:=by
 have hv:jP d c.vars:=⟨h.nod,h.fine.vin⟩
 exact⟨⟨h.fine.len,fun v hv=>by have:=h.fine.vin v hv;rwa[gd.len]at this,h.fine.ck,h.nod,h.big,hv.few gd.few⟩,h.pos,h.op⟩
theorem cS {d:aa}{c:Con}(hc:ConB c)(h:conR d c=0):(0≤c.kind∧c.kind≤6)∧cO d c∧rightR d c=true∧∀u∈usesR c,0≤u∧u.toNat<d.length:=by
 obtain⟨h1,h2⟩:=r3 hc h
 unfold conR at h
 split at h
 ·cases h
 ·split at h
  ·cases h
  ·rename_i h3 h4
   refine⟨by omega,h1,h2,fun u hu=> ?_⟩
   have h4:(usesR c).all (inD d)=true:=by simpa using h4
   exact ln.1 (List.all_eq_true.1 h4 u hu)
theorem yB {n:Nat}{c:Con}(hin: ∀u∈usesR c,0≤u∧u.toNat<n)(hne:usesR c≠[]):StepOK n (usesR c) (fun g=>holdsR c (jW n g)=true) fun d=>lh d (usesR c) fun t=>holdsR c (eA d.length (usesR c) t (usesR c).length):=by
 have hnd:(usesR c).Nodup:=dA (bZ _)
 refine((B9 (P:=fun t=>holdsR c (eA n (usesR c) t (usesR c).length)) hnd hin hne).step.congr fun d gd=>by rw[gd.len]).iff fun g=> ?_
 rw[uj (b:=jW n g) fun u hu=> ?_]
 rw[lN (hin u hu)]
 exact lz g hin hu
def RightC (d:aa)(c:Con):Prop:=conR d c=0∨(c.kind=0∧SumOk d c)
theorem pX {d:aa}{c:Con}(hc:ConB c)(h:RightC d c):(0≤c.kind∧c.kind≤6)∧cO d c∧∀u∈usesR c,0≤u∧u.toNat<d.length:=by
 rcases h with h|⟨hk,hs⟩
 ·obtain⟨h1,h2,_,h3⟩:=cS hc h
  exact⟨h1,h2,h3⟩
 ·refine⟨by omega,⟨hs.fine.vl,hs.fine.vin⟩,fun u hu=> ?_⟩
  rcases uses_mem.1 hu with hu|⟨h4,_⟩
  ·exact hs.fine.vin u hu
  ·omega
theorem yl {n:Nat}{d:aa}{c:Con}(gd:GoodD n d)(hc:ConB c)(h:conR d c=0):StepOK n (usesR c) (fun g=>(c.kind=4→0≤g c.b∧g c.b≤1)→holdsR c (jW n g)=true) (bK c):=by
 obtain⟨hk,hv,hr,hin⟩:=cS hc h
 rw[gd.len]at hin
 have hpick: ∀g:Int→Int,pickedR c.vars (jW n g)=c.vars.map g:=fun g=>DS fun u hu=>lN (hin u (uses_mem.2 (.inl hu)))
 have hvu: ∀u∈c.vars,u∈usesR c:=fun u hu=>uses_mem.2 (.inl hu)
 have hdl:=gd.few.small
 by_cases h0:c.kind=0
 ·have hs:=wU gd (rt hc h h0 gd.few.fine hdl)
  refine(((lf hs).wide hvu hin).congr fun d gd=>by unfold bK;rw[if_pos h0]).iff' fun g hg=> ?_
  have hb:=hs.sum.big
  have:=bE c.rhs
  unfold holdsR soR
  rw[if_pos h0,ve hs.sum.vl hs.sum.ck (by omega) (fun u hu=>lN (hin u (hvu u hu))) fun u hu=>hg u (hvu u hu)]
  exact⟨fun h _=>h,fun h=>h fun e=>by omega⟩
 ·by_cases h1:c.kind=1
  ·have hm:0<c.vars.length∧c.vars.Nodup:=by
    unfold rightR at hr
    rw[if_neg h0,if_pos h1]at hr
    simp only[manyR,CR,decide_eq_true_eq]at hr
    exact hr.2
   refine(((Ca (n:=n) ⟨hm.2,fun v hv=>hin v (hvu v hv)⟩ (Em hm.1)).step.wide hvu hin).congr fun d gd=>by unfold bK;rw[if_neg h0,if_pos h1]).iff fun g=> ?_
   unfold holdsR
   rw[if_neg h0,if_pos h1,hpick,decide_eq_true_eq,decide_eq_true_eq,pR]
   exact⟨fun h _=>h,fun h=>h fun e=>by omega⟩
  ·by_cases h4:c.kind=4
   ·have hrf:=w7 hc h h4 gd.few.fine hdl
    have hrc:ReifC n c:=by
     refine⟨wU gd hrf.sum,wU gd hrf.sumN,by have:=hrf.b;rwa[gd.len]at this,hrf.apart,?_⟩
     obtain⟨_,hbg⟩:=pj (jz h)
     have:=aU c.coefs
     omega
    have hu4: ∀u∈c.vars++[c.b],u∈usesR c:=fun u hu=>by
     rcases List.mem_append.1 hu with hu|hu
     ·exact hvu u hu
     ·exact uses_mem.2 (.inr ⟨h4,List.mem_singleton.1 hu⟩)
    refine(((x6 hrc).wide hu4 hin).congr fun d gd=>by unfold bK;rw[if_neg h0,if_neg h1,if_pos h4]).iff' fun g hg=> ?_
    have hs:=hrc.yes.sum
    have hb:aj c.coefs≤4611686018427388928∧aG c.rhs≤4611686018427388928:=hs.big
    have:=bE c.rhs
    have e1:sumW c.vars c.coefs (jW n g)=dB c.vars c.coefs g:=ve hs.vl hs.ck (by omega) (fun u hu=>lN (hin u (hvu u hu))) fun u hu=>hg u (hvu u hu)
    have e2:atR (jW n g) c.b=g c.b:=lN hrc.b
    unfold holdsR soR
    rw[if_neg h0,if_neg h1,if_neg (by omega),if_neg (by omega),if_pos h4,e1,e2]
    simp only[E0,CR,decide_eq_true_eq,Dd]
    exact⟨fun h hh=>h (hh h4),fun h hh=>h fun _=>hh⟩
   ·by_cases h6:c.kind=6
    ·have hev:c.vars.length % 2=0:=by
      unfold rightR at hr
      rw[if_neg h0,if_neg h1,if_neg (by omega),if_neg (by omega),if_neg h4,if_neg (by omega)]at hr
      simp only[CR,decide_eq_true_eq]at hr
      exact hr.2
     refine(((Ae (n:=n) ⟨fun v hv=>hin v (hvu v hv)⟩ hv.1 hev).wide hvu hin).congr fun d gd=>by unfold bK;rw[if_neg h0,if_neg h1,if_neg h4,if_pos h6]).iff fun g=> ?_
     unfold holdsR holds6
     rw[if_neg h0,if_neg h1,if_neg (by omega),if_neg (by omega),if_neg h4,if_neg (by omega),hpick,decide_eq_true_eq]
     exact⟨fun h _=>h,fun h=>h fun e=>by omega⟩
    ·have hne:usesR c≠[]:=by
      have hpos:0<c.vars.length:=by
       unfold rightR at hr
       rw[if_neg h0,if_neg h1]at hr
       by_cases h2:c.kind=2
       ·rw[if_pos h2]at hr
        simp only[manyR,CR,decide_eq_true_eq]at hr
        exact hr.1.2.1
       ·rw[if_neg h2]at hr
        by_cases h3:c.kind=3
        ·rw[if_pos h3]at hr
         simp only[manyR,CR,decide_eq_true_eq]at hr
         omega
        ·rw[if_neg h3,if_neg h4,if_pos (by omega)]at hr
         simp only[sumR,CR,decide_eq_true_eq]at hr
         exact hr.1.2.1.1.2
      intro e
      have:=hvu _ (C5 hpos)
      rw[e]at this;cases this
     refine((yB hin hne).congr fun d gd=>by unfold bK;rw[if_neg h0,if_neg h1,if_neg h4,if_neg h6]).iff fun g=> ?_
     exact⟨fun h _=>h,fun h=>h fun e=>absurd e h4⟩
theorem tu {n:Nat}{d:aa}{c:Con}(gd:GoodD n d)(hc:ConB c)(h:RightC d c):StepOK n (usesR c) (fun g=>(c.kind=4→0≤g c.b∧g c.b≤1)→holdsR c (jW n g)=true) (bK c):=by
 rcases h with h|⟨h0,hs⟩
 ·exact yl gd hc h
 ·obtain⟨_,_,hin⟩:=pX hc (.inr ⟨h0,hs⟩)
  rw[gd.len]at hin
  have hvu: ∀u∈c.vars,u∈usesR c:=fun u hu=>uses_mem.2 (.inl hu)
  have hs:=wU gd hs
  refine(((lf hs).wide hvu hin).congr fun d gd=>by unfold bK;rw[if_pos h0]).iff' fun g hg=> ?_
  have hb:=hs.sum.big
  unfold holdsR soR
  rw[if_pos h0,ve hs.sum.vl hs.sum.ck (by omega) (fun u hu=>lN (hin u (hvu u hu))) fun u hu=>hg u (hvu u hu)]
  exact⟨fun h _=>h,fun h=>h fun e=>by omega⟩
end Go.Proofs.YtopcjbahjjhdmaaGreat
