/- The texts LiC, LiD, LiE, LiF, PuG, FgC, FgD, PuF, FgE, LiG, PuH, PuK, PuS, LiI, PuU, PuV, PuW, PuX, PuY, PuZ, PvA, FuJ, PvB of the workplace, joined. -/
import Derived.Test.YtopcjbahjjhdmaaGreatB6
namespace Go.Proofs.YtopcjbahjjhdmaaGreat
open Go Go.RowKit
set_option linter.unusedVariables false
set_option linter.unusedSimpArgs false
def bU:List (Int×List (Int×Int))→aa→aa
 | [],d=>d
 |p::ps,d=>bU ps (d.set p.1.toNat p.2)
theorem kv: ∀(ps:List (Int×List (Int×Int))) (d:aa),(bU ps d).length=d.length
 | [],d=>rfl
 |p::ps,d=>by rw[bU,kv ps,Dk]
theorem cS: ∀(ps:List (Int×List (Int×Int))) (d:aa) (i:Nat),(∀p∈ps,p.1.toNat≠i)→(bU ps d)[i]? =d[i]?
 | [],d,i,_=>rfl
 |p::ps,d,i,h=>by
  rw[bU,cS ps _ i fun q hq=>h q (.tail _ hq),DM (h p (.head _))]
def rJ (ps:List (Int×List (Int×Int))):Prop:=ps.Pairwise fun p q=>p.1.toNat≠q.1.toNat
theorem dL: ∀{ps:List (Int×List (Int×Int))} {d:aa},rJ ps→(∀p∈ps,p.1.toNat<d.length)→∀p∈ps,(bU ps d)[p.1.toNat]? =some p.2
 |q::ps,d,ha,hl,p,hp=>by
  have h1:=List.pairwise_cons.1 ha
  rw[bU]
  rcases List.mem_cons.1 hp with rfl|hp
  ·rw[cS ps _ _ fun r hr=>Ne.symm (h1.1 r hr),DX (hl _ (.head _))]
  ·exact dL h1.2 (fun r hr=>by rw[Dk];exact hl r (.tail _ hr)) p hp
theorem mZ: ∀(ps:List (Int×List (Int×Int))) (p:Int×List (Int×Int)) (d:aa),bU (ps++[p]) d=(bU ps d).set p.1.toNat p.2
 | [],p,d=>rfl
 |q::ps,p,d=>by rw[EK,bU,bU,mZ ps]
theorem setAll_mem {ps:List (Int×List (Int×Int))}{d:aa}(ha:rJ ps)(hl: ∀p∈ps,p.1.toNat<d.length){x:List (Int×Int)}:x∈bU ps d→x∈d∨∃p∈ps,p.2=x:=by
 intro h
 obtain⟨i,hi⟩:=List.mem_iff_getElem?.1 h
 by_cases he: ∃p∈ps,p.1.toNat=i
 ·obtain⟨p,hp,rfl⟩:=he
  rw[dL ha hl p hp]at hi
  exact .inr ⟨p,hp,D2 hi⟩
 ·rw[cS ps d i fun p hp e=>he ⟨p,hp,e⟩]at hi
  exact .inl (D4 hi)
theorem vM {ps:List (Int×List (Int×Int))}{d:aa}(ha:rJ ps)(hl: ∀p∈ps,p.1.toNat<d.length){p}(hp:p∈ps):p.2∈bU ps d:=D4 (dL ha hl p hp)
theorem tw {ps:List (Int×List (Int×Int))}{d:aa}(ha:rJ ps)(hl: ∀p∈ps,p.1.toNat<d.length):bU ps d=d↔∀p∈ps,p.2=domAt d p.1:=by
 constructor
 ·intro h p hp
  have:=dL ha hl p hp
  rw[h,ao (hl p hp)]at this
  exact(D2 this).symm
 ·intro h
  refine EM fun i=> ?_
  by_cases he: ∃p∈ps,p.1.toNat=i
  ·obtain⟨p,hp,rfl⟩:=he
   rw[dL ha hl p hp,ao (hl p hp),h p hp]
  ·exact cS ps d i fun p hp e=>he ⟨p,hp,e⟩
def dR (d:aa)(low rhs:Int)(p:Int×Int):List (Int×Int):=zj (domAt d p.1) p.2 (rhs-(low-cg (domAt d p.1) p.2))
def iD (d:aa)(vars coefs:List Int)(rhs:Int):List (Int×List (Int×Int)):=(vars.zip coefs).map fun p=>(p.1,dR d (bi (ac d vars coefs)) rhs p)
def MO (d:aa)(vars coefs:List Int)(rhs:Int):aa:=bU (iD d vars coefs rhs) d
structure Whole (d:aa)(vars coefs:List Int)(rhs:Int):Prop where
 fine:SumFine d vars coefs
 nod:vars.Nodup
 ne: []∉d
 big:ak coefs≤4611686018427388928∧aG rhs≤4611686018427388928
theorem l5: ∀{vars coefs:List Int},vars.Nodup→(∀v∈vars,0≤v)→(vars.zip coefs).Pairwise fun p q=>p.1.toNat≠q.1.toNat
 | [],_,_,_=>by simp
 |_::_,[],_,_=>by simp
 |v::vars,k::coefs,hn,h0=>by
  have h1:=List.nodup_cons.1 hn
  rw[EV]
  refine List.pairwise_cons.2 ⟨fun p hp=> ?_,l5 h1.2 fun v hv=>h0 v (.tail _ hv)⟩
  have hm:=(DP hp).1
  have h2:=h0 _ (.head _)
  have h3:=h0 _ (.tail _ hm)
  intro e
  have:v=p.1:=by simp only at e;omega
  exact h1.1 (this▸hm)
theorem iC {d:aa}{vars coefs:List Int}{rhs:Int}(h:Whole d vars coefs rhs):rJ (iD d vars coefs rhs)∧∀p∈iD d vars coefs rhs,p.1.toNat<d.length:=by
 constructor
 ·unfold rJ iD
  rw[GQ]
  exact l5 h.nod fun v hv=>(h.fine.vin v hv).1
 ·intro p hp
  obtain⟨q,hq,rfl⟩:=List.mem_map.1 hp
  exact(h.fine.vin _ (DP hq).1).2
theorem eT {d:aa}{vars coefs:List Int}{rhs:Int}(h:Whole d vars coefs rhs): ∀t∈ac d vars coefs,t.1≠[]:=by
 intro t ht e
 obtain⟨p,hp,rfl⟩:=List.mem_map.1 ht
 have:=ah (h.fine.vin _ (DP hp).1).2
 simp only at e
 rw[e]at this
 exact h.ne this
theorem un: ∀{ts:List (List (Int×Int)×Int)},gq ts→(∀t∈ts,t.1≠[])→∀t∈ts,aG t.2*1048576-be ts≤bi ts-cg t.1 t.2∧bi ts-cg t.1 t.2≤be ts-aG t.2*1048576
 |t0::ts,h,hne,t,ht=>by
  have hs:=kU (ts:=ts) (fun t ht=>h t (.tail _ ht)) (fun t ht=>hne t (.tail _ ht))
  have e:bi (t0::ts)=cg t0.1 t0.2+bi ts:=by simp[bi]
  have hb:=lD (h t0 (.head _)).1 (hne t0 (.head _)) t0.2
  have hp:=di ts
  have ha:=bE t0.2
  rw[cw,e]
  rcases List.mem_cons.1 ht with rfl|ht
  ·omega
  ·have:=un (fun t ht=>h t (.tail _ ht)) (fun t ht=>hne t (.tail _ ht)) t ht
   omega
theorem xt {d:aa}{vars coefs:List Int}{rhs:Int}(h:Whole d vars coefs rhs){p:Int×Int}(hp:p∈vars.zip coefs):
  -4611686018427388928≤bi (ac d vars coefs)∧bi (ac d vars coefs)≤4611686018427388928∧-4611686018427388928≤bi (ac d vars coefs)-cg (domAt d p.1) p.2∧bi (ac d vars coefs)-cg (domAt d p.1) p.2≤4611686018427388928∧
   -9223372036853729280≤rhs-(bi (ac d vars coefs)-cg (domAt d p.1) p.2)∧rhs-(bi (ac d vars coefs)-cg (domAt d p.1) p.2)≤9223372036853729280:=by
 have hs:=kU (dn h.fine) (eT h)
 have hm:=un (dn h.fine) (eT h) (domAt d p.1,p.2) (List.mem_map.2 ⟨p,hp,rfl⟩)
 rw[cy h.fine.len]at hs hm
 have hb:=h.big
 have ha:aG rhs=max rhs (-rhs):=rfl
 have hk1:1≤aG p.2:=by have:=(h.fine.ck _ (DP hp).2).1;unfold aG;omega
 simp only at hm
 omega
theorem qK {d:aa}{vars coefs:List Int}{rhs:Int}(h:Whole d vars coefs rhs): ∀(l:List (Int×Int)) (d1:aa) (ch:Bool),(∀p∈l,p∈vars.zip coefs)→l.Pairwise (fun p q=>p.1.toNat≠q.1.toNat)→(∀p∈l,domAt d1 p.1=domAt d p.1)→
  ((∃p∈l,dR d (bi (ac d vars coefs)) rhs p=[])→(eL (bi (ac d vars coefs)) rhs l d1 ch).2.2=false)∧
  ((∀p∈l,dR d (bi (ac d vars coefs)) rhs p≠[])→eL (bi (ac d vars coefs)) rhs l d1 ch=(bU (l.map fun p=>(p.1,dR d (bi (ac d vars coefs)) rhs p)) d1,ch||l.any (fun p=> !decide (dR d (bi (ac d vars coefs)) rhs p=domAt d p.1)),true))
 | [],d1,ch,_,_,_=>by simp[eL,bU]
 |(v,k)::l,d1,ch,hm,ha,hd=>by
  have hz:=hm _ (.head _)
  obtain⟨hv,hk⟩:=DP hz
  have hx:=h.fine.dom _ (ah (h.fine.vin _ hv).2)
  have hne:domAt d v≠[]:=fun e=>h.ne (e▸ah (h.fine.vin _ hv).2)
  have hck:=h.fine.ck _ hk
  have hr:=xt h hz
  have ha1:=List.pairwise_cons.1 ha
  have e1:domAt d1 v=domAt d v:=hd _ (.head _)
  have e2:cutW (domAt d1 v) k (gH (bi (ac d vars coefs)) rhs (domAt d1 v) k)=dR d (bi (ac d vars coefs)) rhs (v,k):=by
   rw[e1]
   unfold gH dR
   rw[(sC hx hne hck).1]
   simp only[wr]at hr⊢
   rw[ae (n:=bi (ac d vars coefs)-cg (domAt d v) k) (by omega) (by omega),ae (by omega) (by omega)]
   exact BF hx hck (by omega) (by omega)
  have hd2: ∀p∈l,domAt (d1.set v.toNat (dR d (bi (ac d vars coefs)) rhs (v,k))) p.1=domAt d p.1:=by
   intro p hp
   rw[←hd p (.tail _ hp)]
   unfold domAt
   rw[D0,D0,DM (ha1.1 p hp)]
  obtain⟨i1,i2⟩:=qK h l (d1.set v.toNat (dR d (bi (ac d vars coefs)) rhs (v,k))) (ch|| !decide (dR d (bi (ac d vars coefs)) rhs (v,k)=domAt d v)) (fun p hp=>hm p (.tail _ hp)) ha1.2 hd2
  rw[eL,e2,e1]
  constructor
  ·rintro⟨p,hp,he⟩
   by_cases h0:dR d (bi (ac d vars coefs)) rhs (v,k)=[]
   ·rw[if_pos h0]
   ·rw[if_neg h0]
    rcases List.mem_cons.1 hp with rfl|hp
    ·exact absurd he h0
    ·exact i1 ⟨p,hp,he⟩
  ·intro hall
   rw[if_neg (hall _ (.head _)),i2 fun p hp=>hall p (.tail _ hp)]
   simp only[DJ,bU,List.any_cons,Bool.or_assoc]
theorem uf {d:aa}{vars coefs:List Int}{rhs:Int}(h:Whole d vars coefs rhs):
  ([]∈MO d vars coefs rhs→(mostW d vars coefs rhs).2.2=false)∧([]∉MO d vars coefs rhs→mostW d vars coefs rhs=(MO d vars coefs rhs,!decide (MO d vars coefs rhs=d),true)):=by
 obtain⟨ha,hl⟩:=iC h
 have hends:(endsW d vars coefs).1=bi (ac d vars coefs):=by
  unfold endsW
  have hb:=h.big
  have hr:=bE rhs
  have hw:=cy (d:=d) h.fine.len
  rw[jN 0 0 (dn h.fine) (eT h) (by omega) (by omega) (by omega) (by omega)]
  simp
 obtain⟨i1,i2⟩:=qK h (vars.zip coefs) d false (fun p hp=>hp) (l5 h.nod fun v hv=>(h.fine.vin v hv).1) (fun p hp=>rfl)
 unfold mostW
 rw[hends]
 constructor
 ·intro hm
  rcases setAll_mem ha hl hm with hm|⟨p,hp,he⟩
  ·exact absurd hm h.ne
  ·obtain⟨q,hq,rfl⟩:=List.mem_map.1 hp
   exact i1 ⟨q,hq,he⟩
 ·intro hm
  have hall: ∀p∈vars.zip coefs,dR d (bi (ac d vars coefs)) rhs p≠[]:=fun p hp e=>hm (by
   have:=vM ha hl (List.mem_map.2 ⟨p,hp,rfl⟩:_∈iD d vars coefs rhs)
   rw[show(p.1,dR d (bi (ac d vars coefs)) rhs p).2=[]from e]at this
   exact this)
  rw[i2 hall]
  refine Prod.ext rfl (Prod.ext ?_ rfl)
  simp only[GU]
  rw[Ed,El]
  simp only[E9,decide_eq_false_iff_not]
  have hss:=tw ha hl
  constructor
  ·rintro⟨p,hp,hne⟩ e
   exact hne ((hss.1 e) _ (List.mem_map.2 ⟨p,hp,rfl⟩))
  ·intro hne
   refine Classical.byContradiction fun hno=>hne (hss.2 fun q hq=> ?_)
   obtain⟨p,hp,rfl⟩:=List.mem_map.1 hq
   exact Classical.byContradiction fun hn=>hno ⟨p,hp,hn⟩
theorem oH {i:Nat}: ∀{ts:List (List (Int×Int)×Int)} (k:Nat) (n:Int),gq ts→(∀t∈ts,t.1≠[])→-4611686018427388928≤n-be ts→n+be ts≤4611686018427388928→∀(hi:k≤i) (t:List (Int×Int)×Int),ts[i-k]? =some t→f4 i k ts n=n+(bi ts-cg t.1 t.2)
 | [],k,n,_,_,_,_,_,t,ht=>by simp at ht
 |t0::ts,k,n,h,hne,h1,h2,hi,t,ht=>by
  have hf:=h t0 (.head _)
  have hx:=hne t0 (.head _)
  have e1:=xQ hf.1 hx hf.2
  have b:=lD hf.1 hx t0.2
  have hp:=di ts
  have ha:=bE t0.2
  have hs:=kU (ts:=ts) (fun t ht=>h t (.tail _ ht)) (fun t ht=>hne t (.tail _ ht))
  rw[cw]at h1 h2
  have el:bi (t0::ts)=cg t0.1 t0.2+bi ts:=by simp[bi]
  rw[f4,el]
  by_cases hk:k=i
  ·subst hk
   rw[if_pos rfl]
   simp at ht
   subst ht
   have hrest: ∀(ts:List (List (Int×Int)×Int)) (j:Nat) (n:Int),k<j→gq ts→(∀t∈ts,t.1≠[])→-4611686018427388928≤n-be ts→n+be ts≤4611686018427388928→f4 k j ts n=n+bi ts:=by
    intro ts
    induction ts with
    |nil=>intro j n _ _ _ _ _;simp[f4,bi]
    |cons t1 ts ih=>
     intro j n hj h hne h1 h2
     have hf:=h t1 (.head _)
     have hx:=hne t1 (.head _)
     have e1:=xQ hf.1 hx hf.2
     have b:=lD hf.1 hx t1.2
     have hp:=di ts
     rw[cw]at h1 h2
     have el:bi (t1::ts)=cg t1.1 t1.2+bi ts:=by simp[bi]
     rw[f4,if_neg (by omega),e1]
     simp only[wr]
     rw[ae (by omega) (by omega),ih (j+1) _ (by omega) (fun t ht=>h t (.tail _ ht)) (fun t ht=>hne t (.tail _ ht)) (by omega) (by omega),el]
     omega
   rw[hrest ts (k+1) n (by omega) (fun t ht=>h t (.tail _ ht)) (fun t ht=>hne t (.tail _ ht)) (by omega) (by omega)]
   omega
  ·rw[if_neg hk,e1]
   simp only[wr]
   rw[ae (by omega) (by omega),oH (k+1) _ (fun t ht=>h t (.tail _ ht)) (fun t ht=>hne t (.tail _ ht)) (by omega) (by omega) (by omega) t (by
    rw[show i-k=(i-(k+1))+1 by omega]at ht
    simpa using ht)]
   omega
theorem qJ {d:aa}{vars coefs:List Int}{rhs:Int}(h:Whole d vars coefs rhs): ∀n,n≤vars.length→kD d vars coefs rhs n=bU ((iD d vars coefs rhs).take n) d
 |0,_=>by simp[kD,bU]
 |n+1,hn=>by
  have h1:n<vars.length:=by omega
  have h2:n<coefs.length:=by have:=h.fine.len;omega
  have hz:n<(vars.zip coefs).length:=by simp;omega
  have hp:(vars.zip coefs)[n]∈vars.zip coefs:=D5 hz
  have hcl:n<(iD d vars coefs rhs).length:=by simp[iD];omega
  have ec:(iD d vars coefs rhs)[n]=(vars[n],dR d (bi (ac d vars coefs)) rhs (vars[n],coefs[n])):=by simp[iD]
  have hv:=h.fine.vin _ (D5 h1)
  have hx:=h.fine.dom _ (ah hv.2)
  have hne:domAt d vars[n]≠[]:=fun e=>h.ne (e▸ah hv.2)
  have hck:=h.fine.ck _ (D5 h2)
  have hzz:(vars[n],coefs[n])∈vars.zip coefs:=by
   have:=hp
   simpa using this
  have hr:=xt h hzz
  simp only at hr
  have hw:=cy (d:=d) h.fine.len
  have hb:=h.big
  have har:=bE rhs
  have hrest:f4 n 0 (ac d vars coefs) 0=bi (ac d vars coefs)-cg (domAt d vars[n]) coefs[n]:=by
   have:=oH (i:=n) 0 0 (dn h.fine) (eT h) (by omega) (by omega) (by omega) (domAt d vars[n],coefs[n]) (by
    rw[Nat.sub_zero]
    simp[ac,D1 hz])
   simp only at this
   omega
  have hat:r7 d vars coefs rhs n=dR d (bi (ac d vars coefs)) rhs (vars[n],coefs[n]):=by
   unfold r7 dR zj BV
   rw[aM h1,aM h2,hrest]
   congr 1
   refine G0 fun v hv=> ?_
   have hvb:=hx.val v hv
   have hm:=dZ coefs[n] v hvb.1 hvb.2
   have hc2:=hck.2
   have e1:wr (coefs[n]*v)=coefs[n]*v:=ae (by omega) (by omega)
   have e2:wr (rhs-(bi (ac d vars coefs)-cg (domAt d vars[n]) coefs[n]))=rhs-(bi (ac d vars coefs)-cg (domAt d vars[n]) coefs[n]):=ae (by omega) (by omega)
   exact decide_eq_decide.2 (by rw[e1,e2])
  rw[kD,qJ h n (by omega),aM h1,hat,D7 hcl,ec,mZ]
theorem oX {d:aa}{vars coefs:List Int}{rhs:Int}(h:Whole d vars coefs rhs):kD d vars coefs rhs vars.length=MO d vars coefs rhs:=by
 rw[qJ h _ (DB _),DE (by simp[iD];omega)]
 rfl
def Sub (a b:aa):Prop:=a.length=b.length∧∀(i:Nat) x y,a[i]? =some x→b[i]? =some y→∀v∈vals x,v∈vals y
theorem Sub.refl (a:aa):Sub a a:=⟨rfl,fun i x y h1 h2 v hv=>by rw[h1]at h2;exact D2 h2▸hv⟩
theorem Sub.trans {a b c:aa}(h:Sub a b)(k:Sub b c):Sub a c:=by
 refine⟨h.1.trans k.1,fun i x z hx hz v hv=> ?_⟩
 have hi:i<a.length:=(List.getElem?_eq_some_iff.1 hx).1
 have hi2:i<b.length:=by have:=h.1;omega
 have hy:b[i]? =some b[i]:=D1 hi2
 exact k.2 i _ z hy hz v (h.2 i x _ hx hy v hv)
theorem Sub.antisymm {a b:aa}(h:Sub a b)(k:Sub b a)(ha: ∀x∈a,Fine x)(hb: ∀x∈b,Fine x):a=b:=by
 refine EM fun i=> ?_
 by_cases hi:i<a.length
 ·have hi2:i<b.length:=by have:=h.1;omega
  have hx:a[i]? =some a[i]:=D1 hi
  have hy:b[i]? =some b[i]:=D1 hi2
  have fx:=(ha _ (D5 hi)).ok
  have fy:=(hb _ (D5 hi2)).ok
  rw[hx,hy]
  congr 1
  exact iB fx fy (dG (aF fx) (aF fy) fun v=>⟨h.2 i _ _ hx hy v,k.2 i _ _ hy hx v⟩)
 ·rw[Do (by omega),Do (by have:=h.1;omega)]
theorem jr: ∀{a b:aa},Sub a b→(∀x∈a,Fine x)→(∀x∈b,Fine x)→weight a≤weight b∧(a≠b→weight a<weight b)
 | [],[],_,_,_=>⟨DB _,fun h=>absurd rfl h⟩
 | [],_::_,h,_,_=>by have:=h.1;simp at this
 |_::_,[],h,_,_=>by have:=h.1;simp at this
 |x::a,y::b,h,ha,hb=>by
  have h1:=vG (hb y (.head _)).ok (ha x (.head _)).ok (h.2 0 x y rfl rfl)
  have h2:=jr (a:=a) (b:=b) ⟨by have:=h.1;simpa using this,fun i z w hz hw=>h.2 (i+1) z w (by simpa using hz) (by simpa using hw)⟩ (fun z hz=>ha z (.tail _ hz)) (fun z hz=>hb z (.tail _ hz))
  simp only[weight,DJ,E5]at h2⊢
  refine⟨by omega,fun hne=> ?_⟩
  by_cases e:x=y
  ·have:a≠b:=fun e2=>hne (by rw[e,e2])
   have:=h2.2 this
   omega
  ·have:=h1.2 e
   omega
theorem fS {d:aa}{vars coefs:List Int}{rhs:Int}(h:Whole d vars coefs rhs){p:Int×Int}(hp:p∈vars.zip coefs)(low:Int):
  az (dR d low rhs p)∧∀v,v∈vals (dR d low rhs p)↔v∈vals (domAt d p.1)∧p.2*v≤rhs-(low-cg (domAt d p.1) p.2):=
 xU (h.fine.dom _ (ah (h.fine.vin _ (DP hp).1).2)).ok _ _
theorem ej {d:aa}{vars coefs:List Int}{rhs:Int}(h:Whole d vars coefs rhs):(∀x∈MO d vars coefs rhs,Fine x)∧Sub (MO d vars coefs rhs) d:=by
 obtain⟨ha,hl⟩:=iC h
 refine⟨fun x hx=> ?_,kv _ _,fun i x y hx hy v hv=> ?_⟩
 ·rcases setAll_mem ha hl hx with hm|⟨p,hp,rfl⟩
  ·exact h.fine.dom x hm
  ·obtain⟨q,hq,rfl⟩:=List.mem_map.1 hp
   obtain⟨c1,c2⟩:=fS h hq (bi (ac d vars coefs))
   exact(h.fine.dom _ (ah (h.fine.vin _ (DP hq).1).2)).cut c1 fun v hv=>((c2 v).1 hv).1
 ·by_cases he: ∃p∈iD d vars coefs rhs,p.1.toNat=i
  ·obtain⟨p,hp,rfl⟩:=he
   have e:=dL ha hl p hp
   rw[show MO d vars coefs rhs=bU (iD d vars coefs rhs) d from rfl,e]at hx
   obtain rfl:=D2 hx
   rw[ao (hl p hp)]at hy
   obtain rfl:=D2 hy
   obtain⟨q,hq,rfl⟩:=List.mem_map.1 hp
   exact(((fS h hq (bi (ac d vars coefs))).2 v).1 hv).1
  ·rw[show MO d vars coefs rhs=bU (iD d vars coefs rhs) d from rfl,cS _ _ _ fun p hp e=>he ⟨p,hp,e⟩,hy]at hx
   exact D2 hx▸hv
theorem Whole.most {d:aa}{vars coefs:List Int}{rhs:Int}(h:Whole d vars coefs rhs)(hne: []∉MO d vars coefs rhs):Whole (MO d vars coefs rhs) vars coefs rhs:=by
 obtain⟨h1,h2⟩:=ej h
 exact⟨⟨h.fine.len,h.fine.vl,fun v hv=>by rw[h2.1];exact h.fine.vin v hv,h.fine.ck,h1,by rw[h2.1];exact h.fine.dl⟩,h.nod,hne,h.big⟩
theorem nZ {rhs:Int}(h:aG rhs≤4611686018427388928):wr (0-rhs)= -rhs∧aG (wr (0-rhs))=aG rhs:=by
 have e:wr (0-rhs)= -rhs:=by
  unfold aG at h
  rw[wr,ae (by omega) (by omega)];omega
 refine⟨e,?_⟩
 rw[e]
 unfold aG
 omega
theorem Whole.back {d:aa}{vars coefs:List Int}{rhs:Int}(h:Whole d vars coefs rhs):Whole d vars (aA coefs) (wr (0-rhs)):=by
 have hb:=h.big
 have hp:=aV coefs
 refine⟨h.fine.back,h.nod,h.ne,?_⟩
 rw[dk _ h.fine.ck,(nZ (by omega)).2]
 exact hb
theorem Whole.unback {d d2:aa}{vars coefs:List Int}{rhs:Int}(h:Whole d vars coefs rhs)(h2:Whole d2 vars (aA coefs) (wr (0-rhs))):Whole d2 vars coefs rhs:=
 ⟨⟨h.fine.len,h.fine.vl,h2.fine.vin,h.fine.ck,h2.fine.dom,h2.fine.dl⟩,h.nod,h2.ne,h.big⟩
def M1 (c:Con)(d:aa):aa:=MO d c.vars c.coefs c.rhs
def M2 (c:Con)(d:aa):aa:=MO d c.vars (aA c.coefs) (wr (0-c.rhs))
def bF (c:Con)(d:aa):Prop:=Whole d c.vars c.coefs c.rhs
theorem dp {c:Con}{d:aa}(h:bF c d):e7 c d=
  if []∈M1 c d then .inl none else if c.op=0 then .inl (some (M1 c d))else if []∈M2 c (M1 c d)then .inl none else
  if M1 c d=d∧M2 c (M1 c d)=M1 c d then .inl (some (M2 c (M1 c d)))else .inr (M2 c (M1 c d)):=by
 obtain⟨a1,a2⟩:=uf h
 unfold e7
 by_cases h1: []∈M1 c d
 ·rw[if_pos h1,if_pos (a1 h1)]
 ·have hw:bF c (M1 c d):=Whole.most h h1
  obtain⟨b1,b2⟩:=uf hw.back
  rw[if_neg h1,a2 h1]
  simp only[Fs,if_false]
  by_cases h2:c.op=0
  ·rw[if_pos h2,if_pos h2]
   rfl
  ·rw[if_neg h2,if_neg h2]
   by_cases h3: []∈M2 c (M1 c d)
   ·have b1':(mostW (MO d c.vars c.coefs c.rhs) c.vars (aA c.coefs) (wr (0-c.rhs))).2.2=false:=b1 h3
    rw[if_pos h3,if_pos b1']
   ·have e:mostW (MO d c.vars c.coefs c.rhs) c.vars (aA c.coefs) (wr (0-c.rhs))=(M2 c (M1 c d),!decide (M2 c (M1 c d)=M1 c d),true):=b2 h3
    rw[if_neg h3,e]
    simp only[Fs,if_false,Ey,decide_eq_true_eq]
    rfl
theorem oh {c:Con}{d:aa}(h: []∉d→bF c d):xo c d=
  if c.op=1∧[]∉d then(if []∈M2 c d then .inl none else if M1 c (M2 c d)=d then .inl (some d)else .inr (M1 c (M2 c d)))else .inl (if []∈d then none else some d):=by
 unfold xo
 by_cases h1:c.op=1∧[]∉d
 ·have hw:=h h1.2
  have e:xB d c=M2 c d:=oX hw.back
  rw[if_pos h1,if_pos h1,e]
  by_cases h2: []∈M2 c d
  ·rw[if_pos h2,if_pos h2]
  ·have hw2:bF c (M2 c d):=hw.unback (Whole.most hw.back h2)
   have e2:ug (M2 c d) c=M1 c (M2 c d):=oX hw2
   rw[if_neg h2,if_neg h2,e2]
 ·rw[if_neg h1,if_neg h1]
theorem uy {c:Con}(hop:c.op=1): ∀(N:Nat) (p:aa) (R:Option aa),bF c p→cE (e7 c) N p=some R→∃N',cE (xo c) N' (M1 c p)=some R
 |0,p,R,_,h=>by cases h
 |n+1,p,R,hw,h=>by
  have hs:=dp hw
  obtain⟨f1,s1⟩:=ej hw
  by_cases h1: []∈M1 c p
  ·rw[if_pos h1]at hs
   obtain rfl:=bf h hs
   refine⟨1,?_⟩
   have e:=oh (c:=c) (d:=M1 c p) (fun hn=>absurd h1 hn)
   rw[if_neg (fun hh=>hh.2 h1),if_pos h1]at e
   simp only[cE,e]
  ·rw[if_neg h1,if_neg (by omega)]at hs
   have hw1:bF c (M1 c p):=Whole.most hw h1
   have hd:=oh (c:=c) (d:=M1 c p) (fun _=>hw1)
   rw[if_pos ⟨hop,h1⟩]at hd
   obtain⟨f2,s2⟩:=ej hw1.back
   by_cases h2: []∈M2 c (M1 c p)
   ·rw[if_pos h2]at hs hd
    obtain rfl:=bf h hs
    exact⟨1,by simp only[cE,hd]⟩
   ·rw[if_neg h2]at hs hd
    have hw2:bF c (M2 c (M1 c p)):=hw1.unback (Whole.most hw1.back h2)
    obtain⟨f3,s3⟩:=ej hw2
    by_cases h3:M1 c p=p∧M2 c (M1 c p)=M1 c p
    ·rw[if_pos h3]at hs
     obtain rfl:=bf h hs
     have e:M1 c (M2 c (M1 c p))=M1 c p:=by rw[h3.2,h3.1,h3.1]
     rw[if_pos e]at hd
     exact⟨1,by simp only[cE,hd,h3.2]⟩
    ·rw[if_neg h3]at hs
     simp only[cE,hs]at h
     by_cases h4:M1 c (M2 c (M1 c p))=M1 c p
     ·rw[if_pos h4]at hd
      have e1:M2 c (M1 c p)=M1 c p:=s2.antisymm (by have s3':=s3;rw[show MO (M2 c (M1 c p)) c.vars c.coefs c.rhs=M1 c p from h4]at s3';exact s3') f2 f1
      have e2:M1 c (M1 c p)=M1 c p:=by rw[e1]at h4;exact h4
      rw[e1]at h
      cases n with
      |zero=>cases h
      |succ n=>
       have hs2:=dp hw1
       rw[e2,if_neg h1,if_neg (by omega),e1,if_neg h1,if_pos ⟨rfl,rfl⟩]at hs2
       obtain rfl:=bf h hs2
       exact⟨1,by simp only[cE,hd]⟩
     ·rw[if_neg h4]at hd
      obtain⟨N',hN⟩:=uy hop n _ R hw2 h
      exact⟨N'+1,by simp only[cE,hd];exact hN⟩
theorem Cg {c:Con}{p:aa}(hw:bF c p): ∃N R,cE (e7 c) N p=some R:=by
 refine xJ (step:=e7 c) (fun x=>bF c x) weight (fun x y hx hy=> ?_) p hw
 rw[dp hx]at hy
 obtain⟨f1,s1⟩:=ej hx
 by_cases h1: []∈M1 c x
 ·rw[if_pos h1]at hy;cases hy
 ·have hw1:bF c (M1 c x):=Whole.most hx h1
  obtain⟨f2,s2⟩:=ej hw1.back
  rw[if_neg h1]at hy
  by_cases h2:c.op=0
  ·rw[if_pos h2]at hy;cases hy
  ·rw[if_neg h2]at hy
   by_cases h3: []∈M2 c (M1 c x)
   ·rw[if_pos h3]at hy;cases hy
   ·rw[if_neg h3]at hy
    by_cases h4:M1 c x=x∧M2 c (M1 c x)=M1 c x
    ·rw[if_pos h4]at hy;cases hy
    ·rw[if_neg h4]at hy
     obtain rfl:=Sum.inr.inj hy
     refine⟨hw1.unback (Whole.most hw1.back h3),?_⟩
     have w1:=jr s1 f1 hx.fine.dom
     have w2:=jr s2 f2 f1
     by_cases e1:M1 c x=x
     ·have e2:M2 c (M1 c x)≠M1 c x:=fun e2=>h4 ⟨e1,e2⟩
      have:=w2.2 e2
      have:=w1.1
      exact Fq (w2.2 e2) w1.1
     ·exact Nat.lt_of_le_of_lt w2.1 (w1.2 e1)
theorem Ba (lo hi:Int):(rng lo hi).length=(hi+1-lo).toNat:=by simp[rng]
theorem tq {d:List (Int×Int)}(h:Fine d):fG d=((vals d).length:Nat):=by
 have hb:=h.domB.1
 have hf:=h.few
 have hok:=h.ok
 have key: ∀(d:List (Int×Int)) (n:Nat),InB d→(∀r∈d,r.1≤r.2)→n+(vals d).length≤1000000000000000→d.foldl (fun n r=>wr (n+wr (wr (r.2-r.1)+1))) (n:Int)=((n+(vals d).length:Nat):Int):=by
  intro d
  induction d with
  |nil=>intro n _ _ _;simp[vals]
  |cons r d ih=>
   intro n hb ho hl
   have h1:=hb r (.head _)
   have h2:=ho r (.head _)
   rw[bj,DF,Ba]at hl⊢
   rw[DH]
   have e:wr ((n:Int)+wr (wr (r.2-r.1)+1))=((n+(r.2+1-r.1).toNat:Nat):Int):=by
    simp only[wr]
    rw[ae (n:=r.2-r.1) (by omega) (by omega),ae (n:=r.2-r.1+1) (by omega) (by omega),ae (by omega) (by omega)]
    omega
   rw[e,ih _ (fun r hr=>hb r (.tail _ hr)) (fun r hr=>ho r (.tail _ hr)) (by omega)]
   congr 1
   omega
 have:=key d 0 hb hok.1 (by omega)
 simpa[fG]using this
def j0 (x:Int)(r:Int×Int):List (Int×Int):=if x<r.1∨r.2<x then [r]else(if r.1<x then [(r.1,x-1)]else [])++(if x<r.2 then [(x+1,r.2)]else [])
theorem uh {a:List (Int×Int)}{x:Int}(ho: ∀r∈a,r.1≤r.2)(hx: -9223372036854000000≤x∧x≤9223372036854000000):d3 a [(x,x)]=a.flatMap (j0 x):=by
 have key: ∀(a:List (Int×Int)) (out:List (Int×Int)),(∀r∈a,r.1≤r.2)→a.foldl (cA [(x,x)]) out=out++a.flatMap (j0 x):=by
  intro a
  induction a with
  |nil=>intro out _;simp
  |cons r a ih=>
   intro out ho
   have h1:=ho r (.head _)
   have e:cA [(x,x)] out r=out++j0 x r:=by
    unfold cA j0
    simp only[bM,wr]
    rw[ae (n:=x+1) (by omega) (by omega),ae (n:=x-1) (by omega) (by omega)]
    by_cases h2:x<r.1∨r.2<x
    ·rw[if_pos h2,if_pos h2]
     simp only
     rw[if_pos h1]
    ·rw[if_neg h2,if_neg h2]
     simp only
     by_cases h3:r.1<x<;>by_cases h4:x<r.2
     ·rw[if_pos (show x+1≤r.2 by omega),if_pos h3,if_pos h3,if_pos h4,DV]
     ·rw[if_neg (show¬x+1≤r.2 by omega),if_pos h3,if_pos h3,if_neg h4,EJ]
     ·rw[if_pos (show x+1≤r.2 by omega),if_neg h3,if_neg h3,if_pos h4,EB]
     ·rw[if_neg (show¬x+1≤r.2 by omega),if_neg h3,if_neg h3,if_neg h4];simp
   rw[DH,e,ih _ fun r hr=>ho r (.tail _ hr),ER,DV]
 unfold d3
 rw[key a [] ho]
 rfl
theorem oO {x:Int}{r s:Int×Int}(h:r.1≤r.2)(hs:s∈j0 x r):r.1≤s.1∧s.1≤s.2∧s.2≤r.2:=by
 unfold j0 at hs
 split at hs
 ·simp only[Dm]at hs;subst hs;omega
 ·rcases List.mem_append.1 hs with hs|hs
  ·split at hs
   ·simp only[Dm]at hs;subst hs;simp only;omega
   ·cases hs
  ·split at hs
   ·simp only[Dm]at hs;subst hs;simp only;omega
   ·cases hs
theorem z8 {a:List (Int×Int)}{x:Int}(h:az a):az (a.flatMap (j0 x)):=by
 refine⟨fun s hs=> ?_,?_⟩
 ·obtain⟨r,hr,hs⟩:=List.mem_flatMap.1 hs
  exact(oO (h.1 r hr) hs).2.1
 ·induction a with
  |nil=>exact .nil
  |cons r a ih=>
   have hp:=List.pairwise_cons.1 h.2
   rw[ER]
   refine List.pairwise_append.2 ⟨?_,ih h.tail,fun s hs t ht=> ?_⟩
   ·unfold j0
    split
    ·simp
    ·split<;>split<;>simp
     omega
   ·obtain⟨q,hq,ht⟩:=List.mem_flatMap.1 ht
    have h1:=oO (h.1 r (.head _)) hs
    have h2:=oO (h.1 q (.tail _ hq)) ht
    have:=hp.1 q hq
    omega
theorem qz {x v:Int}{r:Int×Int}:(∃s∈j0 x r,s.1≤v∧v≤s.2)↔r.1≤v∧v≤r.2∧v≠x:=by
 unfold j0
 constructor
 ·rintro⟨s,hs,h1,h2⟩
  split at hs
  ·simp only[Dm]at hs;subst hs;omega
  ·rcases List.mem_append.1 hs with hs|hs
   ·split at hs
    ·simp only[Dm]at hs;subst hs;simp only at h1 h2;omega
    ·cases hs
   ·split at hs
    ·simp only[Dm]at hs;subst hs;simp only at h1 h2;omega
    ·cases hs
 ·rintro⟨h1,h2,h3⟩
  by_cases hc:x<r.1∨r.2<x
  ·rw[if_pos hc];exact⟨r,.head _,h1,h2⟩
  ·rw[if_neg hc]
   by_cases hv:v<x
   ·exact⟨(r.1,x-1),DN _ (by rw[if_pos (by omega)];exact .head _),h1,by simp only;omega⟩
   ·exact⟨(x+1,r.2),DR _ (by rw[if_pos (by omega)];exact .head _),by simp only;omega,h2⟩
theorem Ap {a:List (Int×Int)}{x:Int}(h:az a)(hx: -9223372036854000000≤x∧x≤9223372036854000000):az (d3 a [(x,x)])∧∀v,v∈vals (d3 a [(x,x)])↔v∈vals a∧v≠x:=by
 rw[uh h.1 hx]
 refine⟨z8 h,fun v=> ?_⟩
 rw[aU,aU]
 constructor
 ·rintro⟨s,hs,h1⟩
  obtain⟨r,hr,hs⟩:=List.mem_flatMap.1 hs
  have:=qz.1 ⟨s,hs,h1⟩
  exact⟨⟨r,hr,this.1,this.2.1⟩,this.2.2⟩
 ·rintro⟨⟨r,hr,h1,h2⟩,h3⟩
  obtain⟨s,hs,h4⟩:=qz.2 ⟨h1,h2,h3⟩
  exact⟨s,List.mem_flatMap.2 ⟨r,hr,hs⟩,h4⟩
theorem xA {x:List (Int×Int)}(h:Fine x)(hne:x≠[])(h1: ¬1<(vals x).length): ∃v,x=[(v,v)]∧vals x=[v]∧-1048576≤v∧v≤1048576:=by
 have hv:(vals x).length=1:=by
  have:vals x≠[]:=fun e=>hne ((e8 h.ok).1 e)
  cases hx:vals x with
  |nil=>exact absurd hx this
  |cons a l=>rw[hx]at h1;simp at h1⊢;exact h1
 obtain⟨v,rfl⟩:=(lq h.ok).1 hv
 have e:vals [(v,v)]=[v]:=by simp[vals,bP]
 have:=h.val v (by rw[e];exact .head _)
 exact⟨v,rfl,e,this⟩
theorem fk {B:Int}(hB:B≤4611686018427388928): ∀(ts:List (List (Int×Int)×Int)) (i:Nat) (op:Int) (s:Int) (m a:Nat),gq ts→(∀t∈ts,t.1≠[])→-B≤s-be ts→s+be ts≤B→(op<0∧m=0∨0≤op∧m=1∧op=a∧-(B-1048576)≤s-be ts∧s+be ts≤B-1048576)→
  (de i ts op s=none∧1<(av i ts m s a).1)∨∃s',-B≤s'∧s'≤B∧((∃op',op'<0∧de i ts op s=some (op',s')∧∃a',av i ts m s a=(0,s',a'))∨∃a':Nat,-(B-1048576)≤s'∧s'≤B-1048576∧de i ts op s=some ((a':Int),s')∧av i ts m s a=(1,s',a'))
 | [],i,op,s,m,a,_,_,h1,h2,hr=>by
  have e:be []=0:=by simp[be,ak]
  rw[e]at h1 h2 hr
  refine .inr ⟨s,by omega,by omega,?_⟩
  rcases hr with ⟨ho,rfl⟩|⟨ho,rfl,rfl,h3,h4⟩
  ·exact .inl ⟨op,ho,rfl,a,rfl⟩
  ·exact .inr ⟨a,by omega,by omega,rfl,rfl⟩
 |t::ts,i,op,s,m,a,h,hne,h1,h2,hr=>by
  have hf:=h t (.head _)
  have hx:=hne t (.head _)
  have hp:=di ts
  have ha:=bE t.2
  rw[cw]at h1 h2 hr
  have hk1:1≤aG t.2:=by have:=hf.2.1;unfold aG;omega
  rw[de,av,tq hf.1]
  by_cases hc:1<(vals t.1).length
  ·rw[if_pos (show(1:Int)<((vals t.1).length:Nat)by omega),if_pos hc]
   rcases hr with ⟨ho,rfl⟩|⟨ho,rfl,rfl,h3,h4⟩
   ·rw[if_neg (by omega)]
    exact fk hB ts (i+1) i s 1 i (fun t ht=>h t (.tail _ ht)) (fun t ht=>hne t (.tail _ ht)) (by omega) (by omega) (.inr ⟨by omega,rfl,rfl,by omega,by omega⟩)
   ·rw[if_pos (by omega)]
    refine .inl ⟨rfl,?_⟩
    have mono: ∀(ts:List (List (Int×Int)×Int)) (i m:Nat) (s:Int) (a:Nat),m≤(av i ts m s a).1:=by
     intro ts
     induction ts with
     |nil=>intro i m s a;exact DB _
     |cons t ts ih=>
      intro i m s a
      rw[av]
      split
      ·exact DO (Nat.le_succ m) (ih _ _ _ _)
      ·exact ih _ _ _ _
    exact mono ts (i+1) 2 s i
  ·rw[if_neg (show¬(1:Int)<((vals t.1).length:Nat)by omega),if_neg hc]
   obtain⟨v,e1,e2,b1,b2⟩:=xA hf.1 hx hc
   have hm:=dZ t.2 v b1 b2
   have hck:=hf.2.2
   have el:(endW t.1 t.2 false).1=t.2*v:=by
    rw[(sC hf.1 hx hf.2).1,e1]
    simp[cg,ay,aO]
   have er:wr (t.2*hd0 (vals t.1))=t.2*v:=by
    rw[e2]
    simp only[hd0,wr,List.getD_cons_zero]
    rw[ae (by omega) (by omega)]
   have es:wr (s+t.2*v)=s+t.2*v:=by rw[wr,ae (by omega) (by omega)]
   rw[el,er,es]
   exact fk hB ts (i+1) op (s+t.2*v) m a (fun t ht=>h t (.tail _ ht)) (fun t ht=>hne t (.tail _ ht)) (by omega) (by omega) (hr.imp id fun⟨q1,q2,q3,q4,q5⟩=>⟨q1,q2,q3,by omega,by omega⟩)
theorem zP {d:aa}{v:Int}(h:v.toNat<d.length):d.set v.toNat (domAt d v)=d:=by
 refine EM fun i=> ?_
 by_cases e:v.toNat=i
 ·subst e;rw[DX h,ao h]
 ·rw[DM e]
theorem dK {d:aa}{i:Nat}{x:List (Int×Int)}(hi:i<d.length)(hne: []∉d): []∈d.set i x↔x=[]:=by
 constructor
 ·intro h
  rcases DG h with h|h
  ·exact absurd h hne
  ·exact h.symm
 ·rintro rfl
  exact List.mem_iff_getElem?.2 ⟨i,DX hi⟩
theorem xw {α:Type}{l:List α}:0<l.length↔l≠[]:=by cases l<;>simp
theorem yC {x:List (Int×Int)}{k s rhs:Int}(hx:Fine x)(hk:CoefOk k)(h1: -4611686018426340352≤s∧s≤4611686018426340352)(h2: -9223372036853729280≤rhs-s∧rhs-s≤9223372036853729280):
  ((wr (rhs-s)).tmod k=0→d3 x [(wr ((wr (rhs-s)).tdiv k),wr ((wr (rhs-s)).tdiv k))]=c6 ((vals x).filter fun v=>decide (wr (s+wr (k*v))≠rhs)))∧
  (¬(wr (rhs-s)).tmod k=0→c6 ((vals x).filter fun v=>decide (wr (s+wr (k*v))≠rhs))=x):=by
 have hck:=hk.2
 have hmem: ∀w,w∈vals x→(wr (s+wr (k*w))=rhs↔k*w=rhs-s):=by
  intro w hw
  have b:=hx.val w hw
  have m:=dZ k w b.1 b.2
  simp only[wr]
  rw[ae (n:=k*w) (by omega) (by omega),ae (by omega) (by omega)]
  omega
 have er:wr (rhs-s)=rhs-s:=by rw[wr,ae (by omega) (by omega)]
 rw[er]
 have et:=Int.mul_tdiv_add_tmod (rhs-s) k
 have hq: -9223372036853729280≤(rhs-s).tdiv k∧(rhs-s).tdiv k≤9223372036853729280:=by
  have:=GL (rhs-s) k
  omega
 have hu:=fE (p:=fun w=>decide (wr (s+wr (k*w))≠rhs)) (aF hx.ok)
 constructor
 ·intro hz
  rw[hz,Int.add_zero]at et
  clear hz
  generalize (rhs-s).tdiv k=q at*
  have eq:wr q=q:=by rw[wr,ae (by omega) (by omega)]
  rw[eq]
  obtain⟨m1,m2⟩:=Ap (x:=q) hx.ok (by omega)
  refine iB m1 (f7 hu) (dG (aF m1) (aF (f7 hu)) fun v=> ?_)
  rw[m2,bK hu,Ei]
  refine and_congr_right fun hv=> ?_
  rw[decide_eq_true_eq,ne_eq,ne_eq,hmem v hv,←et]
  refine not_congr ⟨fun e=>by rw[e],fun e=>GM hk.1 e⟩
 ·intro hz
  have e:((vals x).filter fun w=>decide (wr (s+wr (k*w))≠rhs))=vals x:=by
   refine List.filter_eq_self.2 fun w hw=> ?_
   rw[decide_eq_true]
   intro e
   have e2:=(hmem w hw).1 e
   rw[←e2,Int.mul_tmod_right]at hz
   exact hz rfl
  rw[e,eI hx.ok]
theorem fH {d:aa}{c:Con}(h:bF c d)(hpos:0<c.vars.length):(if(otherW d c).2 then some (otherW d c).1 else none)=if []∈bT d c then none else some (bT d c):=by
 have hw:=cy (d:=d) h.fine.len
 have hb:=h.big
 have har:aG c.rhs=max c.rhs (-c.rhs):=rfl
 have hin:=cN (ac d c.vars c.coefs) 0 0 0 0 c.vars.length hpos (by have:=h.fine.len;simp[ac];omega) (DB _)
 have key:=fk (B:=ak c.coefs) (by omega) (ac d c.vars c.coefs) 0 (-1) 0 0 0 (dn h.fine) (eT h) (by omega) (by omega) (.inl ⟨by omega,rfl⟩)
 unfold otherW bT
 simp only
 rcases key with ⟨e1,e2⟩|⟨s,hs1,hs2,⟨op,ho,e1,a,e2⟩|⟨a,hs3,hs4,e1,e2⟩⟩
 ·rw[e1,if_pos e2,if_neg h.ne]
  rfl
 ·rw[e1,e2]
  simp only[Dw,if_false,if_true,if_pos ho]
  have hv:=h.fine.vin _ (aK (c:=c) (k:=0) hpos)
  by_cases hs:s=c.rhs
  ·rw[if_pos hs,if_pos ((dK hv.2 h.ne).2 rfl),decide_eq_false (by simpa using hs)]
   rfl
  ·rw[if_neg hs,if_neg h.ne,decide_eq_true hs]
   rfl
 ·rw[e1]
  rw[e2]at hin⊢
  simp only[GT,if_false,Nat.one_ne_zero,DI,if_neg (show¬(a:Int)<0 by omega)]
  have hal:a<c.vars.length:=hin.1
  have hac:a<c.coefs.length:=by have:=h.fine.len;omega
  have hv:=h.fine.vin _ (aK (c:=c) (k:=a) hal)
  have hk:=h.fine.ck (coefAt c a) (by unfold coefAt;rw[aM hac];exact D5 _)
  have hx:=h.fine.dom _ (ah hv.2)
  obtain⟨o1,o2⟩:=yC (s:=s) (rhs:=c.rhs) hx hk (by omega) (by omega)
  by_cases hz:(wr (c.rhs-s)).tmod (coefAt c a)=0
  ·rw[if_pos hz]
   simp only[o1 hz]
   by_cases he:c6 ((vals (domAt d (varAt c a))).filter fun v=>decide (wr (s+wr (coefAt c a*v))≠c.rhs))=[]
   ·rw[if_pos ((dK hv.2 h.ne).2 he),he]
    rfl
   ·rw[if_neg (fun hm=>he ((dK hv.2 h.ne).1 hm)),decide_eq_true (xw.2 he)]
    rfl
  ·rw[if_neg hz,o2 hz,zP hv.2,if_neg h.ne]
   have:0<(domAt d (varAt c a)).length:=xw.2 fun e=>h.ne (e▸ah hv.2)
   simp only
   rw[decide_eq_true this]
   rfl
theorem yA {x:List (Int×Int)}(h:Fine x)(p:Int→Bool):Fine (c6 ((vals x).filter p)):=by
 have hu:=fE (p:=p) (aF h.ok)
 refine h.cut (f7 hu) fun v hv=> ?_
 rw[bK hu]at hv
 exact(List.mem_filter.1 hv).1
theorem i6 {d:aa}{c:Con}(h:bF c d)(hpos:0<c.vars.length):(bT d c).length=d.length∧∀x∈bT d c,Fine x:=by
 have hin:=cN (ac d c.vars c.coefs) 0 0 0 0 c.vars.length hpos (by have:=h.fine.len;simp[ac];omega) (DB _)
 unfold bT
 simp only
 split
 ·exact⟨rfl,h.fine.dom⟩
 ·split
  ·split
   ·exact⟨by simp,ik h.fine.dom ⟨⟨by simp,.nil⟩,by simp[vals],by simp[vals]⟩⟩
   ·exact⟨rfl,h.fine.dom⟩
  ·exact⟨by simp,ik h.fine.dom (yA (h.fine.dom _ (ah (h.fine.vin _ (aK hin.1)).2)) _)⟩
theorem SumOk.whole {d:aa}{c:Con}(h:SumOk d c)(hne: []∉d):bF c d:=⟨h.fine,h.nod,hne,h.big⟩
theorem xI {d:aa}{c:Con}(h:SumOk d c): ∃R N N',LinAns d c R N∧lZ d c R N'∧∀out,R=some out→out.length=d.length∧[]∉out∧∀x∈out,Fine x:=by
 by_cases hne: []∈d
 ·exact⟨none,0,0,by rw[LinAns,if_pos hne],by rw[lZ,if_pos hne],fun out h=>by cases h⟩
 ·have hw:=h.whole hne
  have hm:ug d c=M1 c d:=oX hw
  by_cases h2:c.op=2
  ·have hs:=fH hw h.pos
   obtain⟨r1,r2⟩:=i6 hw h.pos
   refine⟨if []∈bT d c then none else some (bT d c),0,0,by rw[LinAns,if_neg hne,if_pos h2,hs],by rw[lZ,if_neg hne,if_pos h2],fun out ho=> ?_⟩
   split at ho
   ·cases ho
   ·rename_i hn
    obtain rfl:=D2 ho
    exact⟨r1,hn,r2⟩
  ·have hfin: ∀N R,cE (e7 c) N d=some R→∀out,R=some out→out.length=d.length∧[]∉out∧∀x∈out,Fine x:=by
    intro N R hR out ho
    have hst: ∀x y,(bF c x∧x.length=d.length)→e7 c x= .inr y→bF c y∧y.length=d.length:=by
     rintro x y ⟨hx,hl⟩ hy
     rw[dp hx]at hy
     obtain⟨f1,s1⟩:=ej hx
     by_cases h1: []∈M1 c x
     ·rw[if_pos h1]at hy;cases hy
     ·have hw1:bF c (M1 c x):=Whole.most hx h1
      obtain⟨f2,s2⟩:=ej hw1.back
      rw[if_neg h1]at hy
      split at hy
      ·cases hy
      ·split at hy
       ·cases hy
       ·rename_i h3
        split at hy
        ·cases hy
        ·obtain rfl:=Sum.inr.inj hy
         exact⟨hw1.unback (Whole.most hw1.back h3),s2.1.trans (s1.1.trans hl)⟩
    obtain⟨z,⟨hz,hzl⟩,hs⟩:=pg (fun x=>bF c x∧x.length=d.length) hst N d R ⟨hw,rfl⟩ hR
    rw[dp hz,ho]at hs
    obtain⟨f1,s1⟩:=ej hz
    by_cases h1: []∈M1 c z
    ·rw[if_pos h1]at hs;cases hs
    ·have hw1:bF c (M1 c z):=Whole.most hz h1
     obtain⟨f2,s2⟩:=ej hw1.back
     rw[if_neg h1]at hs
     split at hs
     ·obtain rfl:=D2 (Sum.inl.inj hs)
      exact⟨s1.1.trans hzl,h1,f1⟩
     ·split at hs
      ·cases hs
      ·rename_i h3
       split at hs
       ·obtain rfl:=D2 (Sum.inl.inj hs)
        exact⟨s2.1.trans (s1.1.trans hzl),h3,f2⟩
       ·cases hs
   obtain⟨N,R,hR⟩:=Cg hw
   by_cases h0:c.op=0
   ·have hs:=dp hw
    have e:R=if []∈M1 c d then none else some (M1 c d):=by
     by_cases h1: []∈M1 c d
     ·rw[if_pos h1]at hs⊢
      exact(bf hR hs).symm
     ·rw[if_neg h1,if_pos h0]at hs
      rw[if_neg h1]
      exact(bf hR hs).symm
    refine⟨R,N,1,by rw[LinAns,if_neg hne,if_neg h2];exact hR,?_,hfin N R hR⟩
    rw[lZ,if_neg hne,if_neg h2,hm]
    have hd:=oh (c:=c) (d:=M1 c d) (fun hn=>Whole.most hw hn)
    rw[if_neg (fun hh=>by have:=hh.1;omega)]at hd
    simp only[cE,hd,e]
   ·have h1:c.op=1:=by have:=h.op;omega
    obtain⟨N',hN⟩:=uy h1 N d R hw hR
    exact⟨R,N,N',by rw[LinAns,if_neg hne,if_neg h2];exact hR,by rw[lZ,if_neg hne,if_neg h2,hm];exact hN,hfin N R hR⟩
structure ReifOk (d:aa)(c:Con):Prop where
 sum:SumOk d (bN c)
 sumN:SumOk d (bQ (bN c))
 con:ConB (bN c)
 b:0≤c.b∧c.b.toNat<d.length
 truth:truthR (domAt d c.b)=true
 apart:c.b∉c.vars
theorem Cc {d:aa}{c:Con}(h:SumOk d c)(hw:ak c.coefs+aG c.rhs≤4611686018427387904):SumOk d (bQ c):=by
 obtain⟨h1,h2,h3,h4,h5⟩:=h
 obtain⟨kind,vars,coefs,op,rhs,rows,b⟩:=c
 simp only at h1 h2 h3 h4 h5 hw
 have hwp:=aV coefs
 have ha: -aG rhs≤rhs∧rhs≤aG rhs:=by unfold aG;omega
 unfold bQ
 simp only
 split
 ·have e1:wr (0-rhs)= -rhs:=by rw[wr,ae (by omega) (by omega)];omega
  have e2:wr (wr (0-rhs)-1)= -rhs-1:=by rw[e1,wr,ae (by omega) (by omega)]
  refine⟨h1.back,h2,h3,h4,?_⟩
  simp only
  rw[dk _ h1.ck,e2]
  unfold aG at*
  omega
 ·split
  ·exact⟨h1,h2,h3,⟨by show(0:Int)≤2;omega,by show(2:Int)≤2;omega⟩,h5⟩
  ·split
   ·exact⟨h1,h2,h3,⟨by show(0:Int)≤1;omega,by show(1:Int)≤2;omega⟩,h5⟩
   ·exact⟨h1,h2,h3,h4,h5⟩
theorem xv {d:aa}{c:Con}(hc:ConB c)(h:conR d c=0)(hk:c.kind=4)(hf: ∀x∈d,Fine x)(hdl:d.length*24≤140737488355328):ReifOk d c:=by
 obtain⟨hv,hr⟩:=sI hc h
 obtain⟨h1,h2⟩:=pL (jQ h)
 have hb:0≤c.b∧c.b.toNat<d.length:=by
  unfold conR at h
  split at h
  ·cases h
  ·split at h
   ·cases h
   ·rename_i hu
    exact(rL hc (by simpa using hu)).2 hk
 unfold rightR at hr
 rw[if_neg (by omega),if_neg (by omega),if_neg (by omega),if_neg (by omega),if_pos hk]at hr
 simp only[sumR,opR,DA,decide_eq_true_eq,E9,decide_eq_false_iff_not]at hr
 obtain⟨⟨⟨⟨_,⟨⟨h4,h5⟩,h6⟩,h7⟩,h8⟩,h9⟩,h10⟩:=hr
 have hs:SumOk d (bN c):=⟨⟨h6,hv.1,hv.2,fun k hk=>⟨fun e=>h7 (e▸hk),h1 k hk⟩,hf,hdl⟩,h4,h5,h8,by show ak c.coefs≤_∧aG c.rhs≤_;have:=bE c.rhs;have:=aV c.coefs;omega⟩
 exact⟨hs,Cc hs h2,⟨hc.1,hc.2.1,by simp[bN],by simp[bN]⟩,hb,h9,h10⟩
set_option maxRecDepth 8000
def litB (d:aa)(p:Int×Int):Bool:=hasV (domAt d p.1) (dD p.2)
def p7 (d:aa):Nat→List (Int×Int)→Int→Option Int
 |_,[],op=>some op
 |i,p::l,op=>if litB d p=false then p7 d (i+1) l op else if 0≤op then none else p7 d (i+1) l i
def nY (d:aa)(c:Con)(r:Option Int):Option aa:=
 match r with
 |none=>some d
 |some op=>if op<0 then none else dE d (varAt c op.toNat) (dD (coefAt c op.toNat))
def jR (d:aa)(c:Con):Option aa:=if []∈d then none else nY d c (p7 d 0 (c.vars.zip c.coefs) (-1))
structure ClIn (d:aa)(c:Con):Prop where
 len:c.vars.length=c.coefs.length
 vl:c.vars.length*8≤140737488355328
 vin: ∀v∈c.vars,0≤v∧v.toNat<d.length
 dl:d.length*24≤140737488355328
 dom: ∀x∈d,(x.length+1)*16≤140737488355328
theorem sf (d:aa)(c:Con)(h:ClIn d c):Spec Tryz.prog 137 false [aJ d,.agg (cC c)] (aX (jR d c)):=by
 refine Spec.body Tryz.func137 rfl rfl rfl fun w0 Z0=> ?_
 obtain⟨hlen,hvl,hvin,hdl,hdom⟩:=h
 have hown:=ri d hdl (fun x hm=>by have:=hdom x hm;omega)
 unfold jR
 refine .B ?_
 refine .C hown ?_
 refine .B ?_
 by_cases hm: []∈d
 ·rw[if_pos hm,if_pos hm,decide_eq_true hm]
  refine T.ct rfl ?_
  refine .B ?_
  exact⟨_,.ownN rfl (.v rfl rfl rfl (fun _=>rfl) .nil)⟩
 ·rw[if_neg hm,if_neg hm,decide_eq_false hm]
  refine T.cf rfl ?_
  generalize hres:p7 d 0 (c.vars.zip c.coefs) (-1)=res
  refine .B ?_
  refine T.K (T.ind (fun s:Nat×Int=>⟨[(3,.optr 0 0 0 0),(6,.ref 1),(8,.val true (.int .i64 s.2)),(19,.val false (aq c.vars)),(20,.val true (.int .i64 (c.vars.map cI).length)),(21,.val true (.int .i64 s.1))],[(0,some (.box false (cC c))),(1,some (.sl 54 1 true (d.map cD)))],2⟩)
   (fun s=>s.1≤c.vars.length∧p7 d s.1 ((c.vars.zip c.coefs).drop s.1) s.2=res∧s.2<s.1) (fun s=>c.vars.length-s.1) (0,-1) ⟨by simp,hres,by decide⟩ (fun _ _ h=>h) ?_)
  rintro⟨i,op⟩ ⟨hil,he,hop⟩ ih
  simp only at hil he hop
  dsimp only
  refine .B ?_
  refine T.cd rfl (fun h1=> ?_) (fun h1=> ?_)
  ·have h1:i<c.vars.length:=by simpa using h1
   have h2:i<c.coefs.length:=by omega
   have hv:=hvin _ (D5 h1)
   have hx:=hdom _ (ah hv.2)
   have hrow:(d.map cD)[c.vars[i].toNat]? =some (cD (domAt d c.vars[i])):=by simp[ao hv.2]
   have hz:i<(c.vars.zip c.coefs).length:=by simp;omega
   rw[DD hz,FQ,p7]at he
   have hhas:=jP (domAt d c.vars[i]) (dD c.coefs[i]) (by omega)
   have hlb:litB d (c.vars[i],c.coefs[i])=hasV (domAt d c.vars[i]) (dD c.coefs[i]):=rfl
   rw[←hlb]at hhas
   generalize litB d (c.vars[i],c.coefs[i])=b at*
   refine .B ?_
   refine .I (r:=cI c.vars[i]) (aL h1) ?_
   refine .B ?_
   refine J.io rfl rfl rfl rfl rfl rfl rfl rfl rfl hv.1 (by simpa using hv.2) rfl ?_
   refine J.lo rfl rfl rfl rfl rfl rfl (r:=cD (domAt d c.vars[i])) hrow rfl ?_
   refine .B ?_
   refine .I (r:=cI c.coefs[i]) (aL h2) ?_
   refine .B ?_
   refine .C (ux c.coefs[i]) ?_
   refine .C hhas ?_
   refine .B ?_
   cases b
   ·rw[if_pos rfl]at he
    refine T.ct rfl ?_
    refine .B ?_
    rw[aj (l:=c.vars.length) (by omega) (by omega)]
    exact T.K (ih (i+1,op) ⟨by simp only;omega,he,by simp only;omega⟩ (by simp only;omega))
   ·rw[if_neg (by decide)]at he
    refine T.cf rfl ?_
    refine .B ?_
    refine T.cd rfl (fun h3=> ?_) (fun h3=> ?_)
    ·have h3:0≤op:=h3
     rw[if_pos h3]at he
     subst he
     refine .B ?_
     exact⟨_,.o rfl rfl rfl (fun _=> .inl rfl) (by simp) (.v rfl rfl rfl (fun _=>rfl) .nil)⟩
    ·have h3: ¬0≤op:=h3
     rw[if_neg h3]at he
     refine .B ?_
     rw[aj (l:=c.vars.length) (by omega) (by omega)]
     exact T.K (ih (i+1,i) ⟨by simp only;omega,he,by simp only;omega⟩ (by simp only;omega))
  ·have h1:i=c.vars.length:=by simp at h1;omega
   subst h1
   rw[ED (by simp;omega),p7]at he
   subst he
   clear ih
   unfold nY
   dsimp only
   refine .M ?_
   refine T.rdm 15 rfl (by kernel_rfl) rfl ?_
   repeat' first|refine J.e rfl rfl rfl rfl ?_|refine J.skip rfl rfl rfl ?_|refine J.bx rfl rfl rfl rfl rfl rfl ?_
   refine J.g rfl rfl rfl (fun h3=> ?_) (fun h3=> ?_)
   ·have h3:op<0:=h3
    rw[if_pos h3]
    refine .B ?_
    refine T.ct rfl ?_
    refine .B ?_
    exact⟨_,.ownN rfl (.v rfl rfl rfl (fun _=>rfl) .nil)⟩
   ·have h3: ¬op<0:=h3
    rw[if_neg h3]
    have hj:op.toNat<c.vars.length:=by omega
    have hj2:op.toNat<c.coefs.length:=by omega
    have hv:=hvin _ (aK hj)
    have hx:=hdom _ (ah hv.2)
    have hk:=mE d (varAt c op.toNat) (dD (coefAt c op.toNat)) hv hx
    unfold dE
    repeat' first|refine J.e rfl rfl rfl rfl ?_|refine J.skip rfl rfl rfl ?_|refine J.bx rfl rfl rfl rfl rfl rfl ?_
    refine J.i rfl rfl rfl rfl rfl rfl rfl rfl rfl (r:=cI (varAt c op.toNat)) (by omega) (eF hj) rfl ?_
    repeat' first|refine J.e rfl rfl rfl rfl ?_|refine J.skip rfl rfl rfl ?_|refine J.bx rfl rfl rfl rfl rfl rfl ?_
    refine J.i rfl rfl rfl rfl rfl rfl rfl rfl rfl (r:=cI (coefAt c op.toNat)) (by omega) (iH hj2) rfl ?_
    repeat' first|refine J.e rfl rfl rfl rfl ?_|refine J.skip rfl rfl rfl ?_|refine J.bx rfl rfl rfl rfl rfl rfl ?_
    refine .C (ux (coefAt c op.toNat)) ?_
    refine J.nil ?_
    refine J.cm rfl rfl rfl rfl rfl rfl rfl rfl rfl hk rfl rfl rfl ?_
    refine .B ?_
    by_cases hk:domCut (domAt d (varAt c op.toNat)) (dD (coefAt c op.toNat)) (dD (coefAt c op.toNat))=[]
    ·rw[if_pos hk,decide_eq_true hk]
     refine T.ct rfl ?_
     refine .B ?_
     exact⟨_,.ownN rfl (.v rfl rfl rfl (fun _=>rfl) .nil)⟩
    ·rw[if_neg hk,decide_eq_false hk]
     refine T.cf rfl ?_
     refine .B ?_
     exact⟨_,.o rfl rfl rfl (fun _=> .inl rfl) (by simp) (.v rfl rfl rfl (fun _=>rfl) .nil)⟩
def Supp (a:List Int)(d:aa):Prop:=a.length=d.length∧∀(i:Nat) x v,d[i]? =some x→a[i]? =some v→v∈vals x
theorem Supp.at {a:List Int}{d:aa}(h:Supp a d){v:Int}(h0:0≤v)(hl:v.toNat<d.length):atR a v∈vals (domAt d v):=by
 have ha:v.toNat<a.length:=by have:=h.1;omega
 refine h.2 v.toNat _ _ (ao hl) ?_
 unfold atR
 rw[if_neg (by omega),D0,D1 ha]
 rfl
theorem Supp.ne {a:List Int}{d:aa}(h:Supp a d): []∉d:=by
 intro hm
 obtain⟨i,hi⟩:=List.mem_iff_getElem?.1 hm
 have hl:=(List.getElem?_eq_some_iff.1 hi).1
 have:=h.2 i [] _ hi (D1 (by have:=h.1;omega))
 simp[vals]at this
def bI (vars coefs a:List Int):Int:=((vars.zip coefs).map fun p=>p.2*atR a p.1).sum
theorem sa {x:List (Int×Int)}(h:az x){v k:Int}(hv:v∈vals x):cg x k≤k*v∧k*v≤fP x k:=by
 have h1:=pc h hv
 have h2:=nS h hv
 unfold cg fP
 by_cases hk:0<k
 ·rw[if_pos hk,if_pos hk]
  exact⟨Dt h1 (by omega),Dt h2 (by omega)⟩
 ·rw[if_neg hk,if_neg hk]
  exact⟨F3 (by omega) h2,F3 (by omega) h1⟩
theorem eH {α:Type}{f g:α→Int}: ∀{l:List α},(∀p∈l,f p≤g p)→(l.map f).sum≤(l.map g).sum∧∀p∈l,g p-f p≤(l.map g).sum-(l.map f).sum
 | [],_=>by simp
 |p::l,h=>by
  obtain⟨h1,h2⟩:=eH (l:=l) fun q hq=>h q (.tail _ hq)
  have h0:=h p (.head _)
  simp only[DJ,E5]
  refine⟨by omega,fun q hq=> ?_⟩
  rcases List.mem_cons.1 hq with rfl|hq
  ·omega
  ·have:=h2 q hq
   omega
theorem eW (d:aa)(vars coefs:List Int):bi (ac d vars coefs)=((vars.zip coefs).map fun p=>cg (domAt d p.1) p.2).sum:=by
 unfold bi ac
 rw[EU]
 rfl
theorem rg (d:aa)(vars coefs:List Int):fO (ac d vars coefs)=((vars.zip coefs).map fun p=>fP (domAt d p.1) p.2).sum:=by
 unfold fO ac
 rw[EU]
 rfl
theorem tP {d:aa}{vars coefs a:List Int}(h:SumFine d vars coefs)(hs:Supp a d):
  bi (ac d vars coefs)≤bI vars coefs a∧bI vars coefs a≤fO (ac d vars coefs)∧∀p∈vars.zip coefs,p.2*atR a p.1-cg (domAt d p.1) p.2≤bI vars coefs a-bi (ac d vars coefs):=by
 have hmem: ∀p∈vars.zip coefs,cg (domAt d p.1) p.2≤p.2*atR a p.1∧p.2*atR a p.1≤fP (domAt d p.1) p.2:=fun p hp=>by
  have hv:=h.vin _ (DP hp).1
  exact sa (h.dom _ (ah hv.2)).ok (hs.at hv.1 hv.2)
 rw[eW,rg]
 obtain⟨h1,h2⟩:=eH (f:=fun p:Int×Int=>cg (domAt d p.1) p.2) (g:=fun p=>p.2*atR a p.1) fun p hp=>(hmem p hp).1
 obtain⟨h3,_⟩:=eH (f:=fun p:Int×Int=>p.2*atR a p.1) (g:=fun p=>fP (domAt d p.1) p.2) fun p hp=>(hmem p hp).2
 exact⟨h1,h3,h2⟩
theorem lh {vars coefs a:List Int}(h: ∀k∈coefs,CoefOk k):bI vars (aA coefs) a= -bI vars coefs a:=by
 unfold bI aA
 induction vars generalizing coefs with
 |nil=>simp
 |cons v vars ih=>
  cases coefs with
  |nil=>simp
  |cons k coefs=>
   have e:=(c8 (h k (.head _))).1
   have:=ih fun k hk=>h k (.tail _ hk)
   simp only[DJ,EV,E5]at this⊢
   rw[this,e,Fu]
   omega
theorem x4 {d:aa}{vars coefs a:List Int}{rhs:Int}(h:Whole d vars coefs rhs)(hs:Supp a d)(hle:bI vars coefs a≤rhs):Supp a (MO d vars coefs rhs):=by
 obtain⟨ha,hl⟩:=iC h
 obtain⟨_,_,hp3⟩:=tP h.fine hs
 refine⟨by rw[MO,kv];exact hs.1,fun i x v hx hv=> ?_⟩
 by_cases he: ∃p∈iD d vars coefs rhs,p.1.toNat=i
 ·obtain⟨p,hp,rfl⟩:=he
  rw[show MO d vars coefs rhs=bU (iD d vars coefs rhs) d from rfl,dL ha hl p hp]at hx
  obtain rfl:=D2 hx
  obtain⟨q,hq,rfl⟩:=List.mem_map.1 hp
  have hvq:=h.fine.vin _ (DP hq).1
  have hat:=hs.at hvq.1 hvq.2
  have e:atR a q.1=v:=by
   unfold atR
   rw[if_neg (by omega),D0,hv]
   rfl
  refine((fS h hq _).2 v).2 ⟨e▸hat,?_⟩
  have:=hp3 q hq
  rw[e]at this
  omega
 ·rw[show MO d vars coefs rhs=bU (iD d vars coefs rhs) d from rfl,cS _ _ _ fun p hp e=>he ⟨p,hp,e⟩]at hx
  exact hs.2 i x v hx hv
def iv (c:Con)(a:List Int):Bool:=dt c.op (bI c.vars c.coefs a) c.rhs
theorem q7 {c:Con}{a:List Int}(hop:c.op=0∨c.op=1)(hh:iv c a=true): ∀(N:Nat) (p:aa) (R:Option aa),bF c p→Supp a p→cE (e7 c) N p=some R→∃out,R=some out∧Supp a out
 |0,p,R,_,_,h=>by cases h
 |n+1,p,R,hw,hs,h=>by
  have hle:bI c.vars c.coefs a≤c.rhs:=by
   unfold iv dt at hh
   rcases hop with h0|h1
   ·rw[if_pos h0]at hh;exact of_decide_eq_true hh
   ·rw[if_neg (by omega),h1]at hh
    simp at hh
    omega
  have hst:=dp hw
  have s1:Supp a (M1 c p):=x4 hw hs hle
  rw[if_neg s1.ne]at hst
  by_cases h0:c.op=0
  ·rw[if_pos h0]at hst
   obtain rfl:=bf h hst
   exact⟨_,rfl,s1⟩
  ·rw[if_neg h0]at hst
   have h1:c.op=1:=by omega
   have hw1:bF c (M1 c p):=Whole.most hw s1.ne
   have heq:bI c.vars c.coefs a=c.rhs:=by
    unfold iv dt at hh
    rw[if_neg h0,h1]at hh
    simpa using hh
   have hb:=hw.big
   have hp:=aV c.coefs
   have s2:Supp a (M2 c (M1 c p)):=x4 hw1.back s1 (by rw[lh hw.fine.ck,(nZ (by omega)).1];omega)
   rw[if_neg s2.ne]at hst
   by_cases h3:M1 c p=p∧M2 c (M1 c p)=M1 c p
   ·rw[if_pos h3]at hst
    obtain rfl:=bf h hst
    exact⟨_,rfl,s2⟩
   ·rw[if_neg h3]at hst
    simp only[cE,hst]at h
    exact q7 (.inr h1) hh n _ R (hw1.unback (Whole.most hw1.back s2.ne)) s2 h
def xf (ts:List ((List (Int×Int)×Int)×Int)):Prop:= ∀t∈ts,t.2∈vals t.1.1
theorem fg {B:Int}(hB:B≤4611686018427388928): ∀(ts:List ((List (Int×Int)×Int)×Int)) (i m:Nat) (s:Int) (a:Nat),gq (ts.map (·.1))→xf ts→-B≤s-be (ts.map (·.1))→s+be (ts.map (·.1))≤B→
  ((av i (ts.map (·.1)) m s a).1=m→(av i (ts.map (·.1)) m s a).2.1=s+(ts.map fun t=>t.1.2*t.2).sum∧(av i (ts.map (·.1)) m s a).2.2=a)∧
  m≤(av i (ts.map (·.1)) m s a).1∧
  ((av i (ts.map (·.1)) m s a).1=m+1→∃j t,(av i (ts.map (·.1)) m s a).2.2=i+j∧ts[j]? =some t∧(av i (ts.map (·.1)) m s a).2.1+t.1.2*t.2=s+(ts.map fun t=>t.1.2*t.2).sum)
 | [],i,m,s,a,_,_,_,_=>by simp[av]
 |t::ts,i,m,s,a,h,hv,h1,h2=>by
  have hf:=h t.1 (.head _)
  have hvt:=hv t (.head _)
  have hp:=di (ts.map (·.1))
  have ha:=bE t.1.2
  have hx:t.1.1≠[]:=fun e=>by rw[e]at hvt;simp[vals]at hvt
  simp only[DJ]at h1 h2⊢
  rw[cw]at h1 h2
  rw[av]
  simp only[E5]
  by_cases hc:1<(vals t.1.1).length
  ·rw[if_pos hc]
   obtain⟨i1,i2,i3⟩:=fg hB ts (i+1) (m+1) s i (fun t ht=>h t (.tail _ ht)) (fun t ht=>hv t (.tail _ ht)) (by omega) (by omega)
   refine⟨fun e=>by omega,by omega,fun e=> ?_⟩
   obtain⟨j1,j2⟩:=i1 e
   exact⟨0,t,by rw[j2];rfl,rfl,by rw[j1];omega⟩
  ·rw[if_neg hc]
   obtain⟨v,e1,e2,b1,b2⟩:=xA hf.1 hx hc
   have hm:=dZ t.1.2 v b1 b2
   have hck:=hf.2.2
   have ev:t.2=v:=by rw[e2]at hvt;simpa using hvt
   have er:wr (t.1.2*hd0 (vals t.1.1))=t.1.2*v:=by
    rw[e2]
    simp only[hd0,wr,List.getD_cons_zero]
    rw[ae (by omega) (by omega)]
   have es:wr (s+t.1.2*v)=s+t.1.2*v:=by rw[wr,ae (by omega) (by omega)]
   rw[er,es,ev]
   obtain⟨i1,i2,i3⟩:=fg hB ts (i+1) m (s+t.1.2*v) a (fun t ht=>h t (.tail _ ht)) (fun t ht=>hv t (.tail _ ht)) (by omega) (by omega)
   refine⟨fun e=> ?_,i2,fun e=> ?_⟩
   ·obtain⟨j1,j2⟩:=i1 e
    exact⟨by rw[j1];omega,j2⟩
   ·obtain⟨j,u,j1,j2,j3⟩:=i3 e
    exact⟨j+1,u,by rw[j1];omega,by simpa using j2,by rw[j3];omega⟩
theorem m7 {d:aa}{c:Con}{a:List Int}(h:bF c d)(hpos:0<c.vars.length)(hs:Supp a d)(hne:bI c.vars c.coefs a≠c.rhs):Supp a (bT d c):=by
 have hw:=cy (d:=d) h.fine.len
 have hb:=h.big
 have har:aG c.rhs=max c.rhs (-c.rhs):=rfl
 let ts:List ((List (Int×Int)×Int)×Int):=(c.vars.zip c.coefs).map fun p=>((domAt d p.1,p.2),atR a p.1)
 have et:ts.map (·.1)=ac d c.vars c.coefs:=by simp only[ts,EU];rfl
 have eS:(ts.map fun t=>t.1.2*t.2).sum=bI c.vars c.coefs a:=by simp only[ts,EU];rfl
 have hv:xf ts:=by
  intro t ht
  obtain⟨p,hp,rfl⟩:=List.mem_map.1 ht
  have:=h.fine.vin _ (DP hp).1
  exact hs.at this.1 this.2
 have key:=fg (B:=ak c.coefs) (by omega) ts 0 0 0 0 (by rw[et];exact dn h.fine) hv (by rw[et];omega) (by rw[et];omega)
 rw[et,eS]at key
 have hin:=cN (ac d c.vars c.coefs) 0 0 0 0 c.vars.length hpos (by have:=h.fine.len;simp[ac];omega) (DB _)
 have hsame:=fk (B:=ak c.coefs) (by omega) (ac d c.vars c.coefs) 0 (-1) 0 0 0 (dn h.fine) (eT h) (by omega) (by omega) (.inl ⟨by omega,rfl⟩)
 obtain⟨k1,_,k3⟩:=key
 unfold bT
 simp only
 by_cases hm1:1<(av 0 (ac d c.vars c.coefs) 0 0 0).1
 ·rw[if_pos hm1];exact hs
 ·rw[if_neg hm1]
  by_cases hm0:(av 0 (ac d c.vars c.coefs) 0 0 0).1=0
  ·rw[if_pos hm0]
   have:=(k1 hm0).1
   rw[if_neg (fun e=>hne (by rw[this,Fl]at e;exact e))]
   exact hs
  ·rw[if_neg hm0]
   obtain⟨j,t,j1,j2,j3⟩:=k3 (by omega)
   rw[ET]at j1
   have hj:j<c.vars.length:=by rw[←j1];exact hin.1
   have hjc:j<c.coefs.length:=by have:=h.fine.len;omega
   have ht:t=((domAt d (varAt c j),coefAt c j),atR a (varAt c j)):=by
    have hz:j<(c.vars.zip c.coefs).length:=by simp;omega
    simp only[ts,D8,D1 hz,Dp,D3]at j2
    rw[←j2,show varAt c j=c.vars[j]from aM hj,show coefAt c j=c.coefs[j]from aM hjc]
    simp
   rw[j1]
   have hv:=h.fine.vin _ (aK hj)
   have hx:=h.fine.dom _ (ah hv.2)
   have hk:=h.fine.ck (coefAt c j) (by unfold coefAt;rw[aM hjc];exact D5 _)
   have hat:=hs.at hv.1 hv.2
   rw[ht]at j3
   simp only at j3
   have hs': -(ak c.coefs-1048576)≤(av 0 (ac d c.vars c.coefs) 0 0 0).2.1∧(av 0 (ac d c.vars c.coefs) 0 0 0).2.1≤ak c.coefs-1048576:=by
    rcases hsame with ⟨_,e⟩|⟨s',_,_,⟨_,_,_,a',e⟩|⟨a',b1,b2,_,e⟩⟩
    ·omega
    ·rw[e]at hm0;exact absurd rfl hm0
    ·rw[e];exact⟨b1,b2⟩
   generalize (av 0 (ac d c.vars c.coefs) 0 0 0).2.1=s at*
   have b:=hx.val _ hat
   have m:=dZ (coefAt c j) _ b.1 b.2
   have hck:=hk.2
   have hu:=fE (p:=fun v=>decide (wr (s+wr (coefAt c j*v))≠c.rhs)) (aF hx.ok)
   refine⟨by rw[Dk];exact hs.1,fun i x v hxi hvi=> ?_⟩
   by_cases e:(varAt c j).toNat=i
   ·subst e
    rw[DX hv.2]at hxi
    obtain rfl:=D2 hxi
    have ev:atR a (varAt c j)=v:=by
     unfold atR
     rw[if_neg (by omega),D0,hvi]
     rfl
    rw[ev]at hat j3 m
    rw[bK hu,Ei]
    refine⟨hat,?_⟩
    rw[decide_eq_true_eq]
    rw[Fl]at j3
    clear k1 k3 hsame hin hm1 hm0 j1 j2 ht
    simp only[wr]
    rw[ae (n:=coefAt c j*v) (by omega) (by omega),ae (by omega) (by omega),j3]
    exact hne
   ·rw[DM e]at hxi
    exact hs.2 i x v hxi hvi
theorem yS {d:aa}{c:Con}{a:List Int}(h:SumOk d c)(hs:Supp a d)(hh:iv c a=true){R:Option aa}{N:Nat}(hR:LinAns d c R N): ∃out,R=some out∧Supp a out:=by
 have hw:=h.whole hs.ne
 unfold LinAns at hR
 rw[if_neg hs.ne]at hR
 by_cases h2:c.op=2
 ·rw[if_pos h2,fH hw h.pos]at hR
  have hne:bI c.vars c.coefs a≠c.rhs:=by
   unfold iv dt at hh
   rw[if_neg (by omega),h2]at hh
   simpa using hh
  have:=m7 hw h.pos hs hne
  rw[if_neg this.ne]at hR
  exact⟨_,hR,this⟩
 ·rw[if_neg h2]at hR
  exact q7 (by have:=h.op;omega) hh N d R hw hs hR
theorem oq {d:aa}{c:Con}{a:List Int}(h:SumFine d c.vars c.coefs)(hw:ak c.coefs≤4611686018427388928)(hop:0≤c.op∧c.op≤2)(hs:Supp a d)(hso:soW (endsW d c.vars c.coefs) c=true):iv c a=true:=by
 have hne: ∀t∈ac d c.vars c.coefs,t.1≠[]:=by
  intro t ht e
  obtain⟨p,hp,rfl⟩:=List.mem_map.1 ht
  have:=ah (h.vin _ (DP hp).1).2
  simp only at e
  rw[e]at this
  exact hs.ne this
 have ht:=cy (d:=d) h.len
 have hk:=aV c.coefs
 obtain⟨p1,p2,_⟩:=tP h hs
 unfold endsW at hso
 rw[jN 0 0 (dn h) hne (by omega) (by omega) (by omega) (by omega)]at hso
 unfold soW at hso
 simp only[Fs,if_false,Fl]at hso
 unfold iv dt
 by_cases h0:c.op=0
 ·rw[if_pos h0]at hso⊢
  exact decide_eq_true (by have:=of_decide_eq_true hso;omega)
 ·rw[if_neg h0]at hso⊢
  by_cases h1:c.op=1
  ·rw[if_pos h1]at hso
   simp only[DA,decide_eq_true_eq]at hso
   rw[decide_eq_true h1,decide_eq_true (by omega)]
   rfl
  ·rw[if_neg h1]at hso
   simp only[EW,decide_eq_true_eq]at hso
   rw[decide_eq_false h1,decide_eq_false (by omega)]
   rfl
theorem yJ {d:aa}{c:Con}{a:List Int}(h:SumOk d c)(hs:Supp a d)(hso:soW (endsW d (bQ c).vars (bQ c).coefs) (bQ c)=true):iv c a=false:=by
 have hb:=h.big
 have hr:aG c.rhs=max c.rhs (-c.rhs):=rfl
 have hk:=aV c.coefs
 have hn:SumFine d (bQ c).vars (bQ c).coefs∧ak (bQ c).coefs≤4611686018427388928∧0≤(bQ c).op∧(bQ c).op≤2:=by
  have e:ak c.coefs≤4611686018427388928:=by omega
  have ho:=h.op
  unfold bQ
  split
  ·exact⟨h.fine.back,by simp only;rw[dk _ h.fine.ck];exact e,ho⟩
  ·split
   ·exact⟨h.fine,e,by simp,by simp⟩
   ·split
    ·exact⟨h.fine,e,by simp,by simp⟩
    ·exact⟨h.fine,e,ho⟩
 have hh:=oq hn.1 hn.2.1 hn.2.2 hs hso
 unfold iv dt at hh⊢
 unfold bQ at hh
 have ho:=h.op
 by_cases h0:c.op=0
 ·rw[if_pos h0]at hh
  simp only[if_pos h0]at hh
  rw[if_pos h0]
  rw[lh h.fine.ck]at hh
  have e:wr (wr (0-c.rhs)-1)= -c.rhs-1:=by
   rw[(nZ (by omega)).1,wr,ae (by omega) (by omega)]
  rw[e]at hh
  exact decide_eq_false (by have:=of_decide_eq_true hh;omega)
 ·rw[if_neg h0]at hh⊢
  by_cases h1:c.op=1
  ·rw[if_pos h1]at hh
   rw[if_neg (by simp)]at hh
   simp at hh
   rw[decide_eq_true h1,decide_eq_false hh]
   rfl
  ·have h2:c.op=2:=by omega
   rw[if_neg h1,if_pos h2]at hh
   rw[if_neg (by simp)]at hh
   simp at hh
   rw[decide_eq_false h1,decide_eq_true hh]
   rfl
def clF (d:aa)(l:List (Int×Int)):Option aa:=
 match l with
 | []=>none
 | [p]=>dE d p.1 (dD p.2)
 |_::_::_=>some d
theorem sL (d:aa)(c:Con)(hl:c.vars.length=c.coefs.length): ∀(l:List (Int×Int)) (i:Nat) (op:Int),l=(c.vars.zip c.coefs).drop i→(0≤op→op.toNat<c.vars.length)→
  nY d c (p7 d i l op)=if op<0 then clF d (l.filter (litB d))else(match l.filter (litB d)with| []=>dE d (varAt c op.toNat) (dD (coefAt c op.toNat))|_::_=>some d)
 | [],i,op,h,ho=>by
  rw[p7,nY]
  by_cases h1:op<0
  ·rw[if_pos h1,if_pos h1];rfl
  ·rw[if_neg h1,if_neg h1];rfl
 |p::l,i,op,h,ho=>by
  have hi:i<(c.vars.zip c.coefs).length:=by
   have:=congrArg List.length h
   simp at this
   simp;omega
  have hd:=DD hi
  rw[←h]at hd
  injection hd with hp hl'
  have hiv:i<c.vars.length:=by simp at hi;omega
  have hic:i<c.coefs.length:=by omega
  have hpe:p=(varAt c i,coefAt c i):=by
   rw[hp,FQ]
   simp[varAt,coefAt,hiv,hic]
  rw[p7]
  by_cases hb:litB d p=true
  ·rw[if_neg (by simp[hb]),Ek hb]
   by_cases h1:op<0
   ·rw[if_neg (by omega),if_pos h1,sL d c hl l (i+1) i hl' (fun _=>by simpa using hiv),if_neg (by omega)]
    cases hf:l.filter (litB d)with
    |nil=>simp[clF,hpe]
    |cons q m=>simp[clF]
   ·rw[if_pos (by omega),if_neg h1]
    rfl
  ·have hb:litB d p=false:=by simpa using hb
   rw[if_pos hb,F5 (by simp[hb]),sL d c hl l (i+1) op hl' ho]
theorem wY {d:aa}{c:Con}(hl:c.vars.length=c.coefs.length):jR d c=if []∈d then none else clF d ((c.vars.zip c.coefs).filter (litB d)):=by
 unfold jR
 rw[sL d c hl (c.vars.zip c.coefs) 0 (-1) rfl (by omega),if_pos (by decide:(-1:Int)<0)]
structure ClOk (d:aa)(c:Con):Prop where
 len:c.vars.length=c.coefs.length
 nod:c.vars.Nodup
 pos:0<c.vars.length
 vl:c.vars.length*8≤140737488355328
 vin: ∀v∈c.vars,0≤v∧v.toNat<d.length
 unit: ∀k∈c.coefs,k=1∨k= -1
 truth: ∀v∈c.vars,truthR (domAt d v)=true
theorem CS:dD 1=1:=by decide +kernel
theorem CR:dD (-1)=0:=by decide +kernel
theorem rB {d:aa}{c:Con}(hc:ConB c)(h:conR d c=0)(hk:c.kind=5):ClOk d c:=by
 obtain⟨hv,hr⟩:=sI hc h
 unfold rightR at hr
 rw[if_neg (by omega),if_neg (by omega),if_neg (by omega),if_neg (by omega),if_neg (by omega),if_pos hk]at hr
 simp only[sumR,DA,decide_eq_true_eq,E9,decide_eq_false_iff_not]at hr
 obtain⟨⟨_,⟨⟨h4,h5⟩,h6⟩,h7⟩,h8⟩:=hr
 have hu: ∀i,i<c.vars.length→truthR (domAt d (varAt c i))=true∧(coefAt c i=1∨coefAt c i= -1):=by
  intro i hi
  have:=List.all_eq_true.1 h8 i (List.mem_range.2 hi)
  simpa[gw]using this
 refine⟨h6,h4,h5,hv.1,hv.2,fun k hk=> ?_,fun v hv=> ?_⟩
 ·obtain⟨i,hi,rfl⟩:=Ee hk
  have:=(hu i (by omega)).2
  simpa[coefAt,hi]using this
 ·obtain⟨i,hi,rfl⟩:=Ee hv
  have:=(hu i hi).1
  simpa[varAt,hi]using this
theorem BK {d:aa}{c:Con}(h:ClOk d c)(hdl:d.length*24≤140737488355328)(hx: ∀x∈d,(x.length+1)*16≤140737488355328):ClIn d c:=⟨h.len,h.vl,h.vin,hdl,hx⟩
theorem fF {d:aa}{v w:Int}{x:List (Int×Int)}(hv:v.toNat<d.length):domAt (d.set v.toNat x) w=if v.toNat=w.toNat then x else domAt d w:=by
 unfold domAt
 rw[D0,D0,E8]
 by_cases h:v.toNat=w.toNat
 ·rw[if_pos h,if_pos h,if_pos hv];rfl
 ·rw[if_neg h,if_neg h]
theorem mw {D:aa}: ∀{n:Nat} {t:List Int},t∈growR D n↔t.length=n∧∀k,k<n→t.getD k 0∈vals (D.getD k [])
 |0,t=>by simp[growR]
 |n+1,t=>by
  simp only[growR,G5,F1]
  constructor
  ·rintro⟨a,ha,v,hv,rfl⟩
   obtain⟨hl,h⟩:=mw.1 ha
   refine⟨by simp[hl],fun k hk=> ?_⟩
   by_cases e:k=n
   ·subst e;subst hl
    simp only[D0]
    rw[DT (DB _)]
    simpa using hv
   ·have:=h k (by omega)
    simp only[D0]at this⊢
    rw[Dj (by omega)]
    exact this
  ·rintro⟨hl,h⟩
   refine⟨t.take n,mw.2 ⟨by simp;omega,fun k hk=> ?_⟩,t.getD n 0,h n (by omega),?_⟩
   ·have:=h k (by omega)
    simp only[D0]at this⊢
    rw[EG,if_pos hk]
    exact this
   ·have e:t=t.take n++[t[n]]:=by
     rw[←D7 (by omega),DE (by omega)]
    rw[D0,D1 (by omega)]
    exact e.symm
theorem mt {us:List Int}(h:us.Nodup){k:Nat}(hk:k<us.length):us.idxOf us[k]=k:=by
 have h1:us.idxOf us[k]<us.length:=List.idxOf_lt_length_iff.2 (D5 hk)
 have h2:=FG h1
 exact(F7 h).1 h2
theorem uN {d:aa}{us:List Int}(h:us.Nodup){t:List Int}:t∈growR (us.map (domAt d)) us.length↔∃f:Int→Int,t=us.map f∧∀v∈us,f v∈vals (domAt d v):=by
 rw[mw]
 have hD: ∀k (hk:k<us.length),(us.map (domAt d)).getD k []=domAt d us[k]:=fun k hk=>by
  rw[D0,D8,D1 hk];rfl
 constructor
 ·rintro⟨hl,hk⟩
  refine⟨fun v=>t.getD (us.idxOf v) 0,?_,fun v hv=> ?_⟩
  ·apply F0 (by simp[hl])
   intro k h1 h2
   have h3:k<us.length:=by simpa using h2
   rw[F8,mt h h3,D0,D1 h1];rfl
  ·obtain⟨k,hk2,rfl⟩:=Ee hv
   have:=hk k hk2
   rw[hD k hk2]at this
   simp only[mt h hk2]
   exact this
 ·rintro⟨f,rfl,hf⟩
  refine⟨by simp,fun k hk=> ?_⟩
  rw[hD k hk,D0,D8,D1 hk]
  exact hf _ (D5 hk)
theorem iw {α:Type}(f:Int→α): ∀(us:List Int) (a:List α) (i:Nat),(∀u∈us,0≤u)→(us.foldl (fun a u=>a.set u.toNat (f u)) a)[i]? =if(i:Int)∈us∧i<a.length then some (f i)else a[i]?
 | [],a,i,_=>by simp
 |u::us,a,i,h=>by
  rw[DH,iw f us _ i fun v hv=>h v (.tail _ hv)]
  have hu:=h u (.head _)
  simp only[Dk,EX]
  by_cases h1:(i:Int)∈us∧i<a.length
  ·rw[if_pos h1,if_pos ⟨.inr h1.1,h1.2⟩]
  ·rw[if_neg h1,E8]
   by_cases e:u.toNat=i
   ·have e2:(i:Int)=u:=by omega
    rw[if_pos e]
    by_cases hl:i<a.length
    ·rw[if_pos (by omega),if_pos ⟨.inl e2,hl⟩,e2]
    ·rw[if_neg (by omega),if_neg (fun h=>hl h.2),Do (by omega)]
   ·rw[if_neg e,if_neg]
    rintro⟨h2|h2,h3⟩
    ·omega
    ·exact h1 ⟨h2,h3⟩
theorem l4 {β γ:Type}(g:Int→β)(st:γ→Int×β→γ): ∀(us:List Int) (a:γ),(us.zip (us.map g)).foldl st a=us.foldl (fun a u=>st a (u,g u)) a
 | [],_=>rfl
 |u::us,a=>by rw[DJ,EV,DH,DH,l4 g st us]
theorem lU {n:Nat}{us:List Int}(f:Int→Int)(h0: ∀u∈us,0≤u∧u.toNat<n){v:Int}(hv:v∈us):atR (eC n us (us.map f) us.length) v=f v:=by
 have hl:=y9 n us (us.map f) us.length
 have h1:=h0 v hv
 have e:eC n us (us.map f) us.length=us.foldl (fun a u=>a.set u.toNat (f u)) (List.replicate n 0):=by
  unfold eC
  rw[DE (by simp),l4 (γ:=List Int) f]
 unfold atR
 rw[if_neg (by omega),D0,e,iw f us _ _ (fun u hu=>(h0 u hu).1),Er h1.1,if_pos ⟨hv,by simpa using h1.2⟩]
 rfl
def pR (d:aa)(us:List Int)(P:List Int→Bool)(v x:Int):Prop:= ∃f:Int→Int,(∀u∈us,f u∈vals (domAt d u))∧P (us.map f)=true∧f v=x
theorem lf {d:aa}{us:List Int}{P:List Int→Bool}(hn:us.Nodup)(h0: ∀u∈us,0≤u∧u.toNat<d.length)(i:Nat):
  ((i:Int)∉us→(putsW d us (fN P us.length (growR (us.map (domAt d)) us.length)) us.length)[i]? =d[i]?)∧
  ((i:Int)∈us→∃y,(putsW d us (fN P us.length (growR (us.map (domAt d)) us.length)) us.length)[i]? =some y∧az y∧∀x,x∈vals y↔pR d us P i x):=by
 let G:Int→List Int:=fun v=>((growR (us.map (domAt d)) us.length).filter P).map (·.getD (us.idxOf v) 0)
 have hG: ∀v∈us,∀x,x∈G v↔pR d us P v x:=by
  intro v hv x
  have hk:us.idxOf v<us.length:=List.idxOf_lt_length_iff.2 hv
  have hf: ∀f:Int→Int,(us.map f).getD (us.idxOf v) 0=f v:=fun f=>by
   rw[D0,D8,D1 hk,FG];rfl
  simp only[G,F1,Ei]
  constructor
  ·rintro⟨t,⟨ht,hp⟩,rfl⟩
   obtain⟨f,rfl,h⟩:=(uN hn).1 ht
   exact⟨f,h,hp,(hf f).symm⟩
  ·rintro⟨f,h,hp,rfl⟩
   exact⟨us.map f,⟨(uN hn).2 ⟨f,rfl,h⟩,hp⟩,hf f⟩
 have hks:fN P us.length (growR (us.map (domAt d)) us.length)=us.map G:=by
  apply F0 (by simp[fN])
  intro k h1 h2
  have h3:k<us.length:=by simpa using h2
  simp only[fN,F8,List.getElem_range,G,mt hn h3]
 have e:putsW d us (fN P us.length (growR (us.map (domAt d)) us.length)) us.length=us.foldl (fun a u=>a.set u.toNat (c6 (aW (G u)))) d:=by
  rw[hks]
  unfold putsW
  rw[DE (by simp),l4 (γ:=aa) G]
 rw[e,iw (fun u=>c6 (aW (G u))) us d i fun u hu=>(h0 u hu).1]
 constructor
 ·intro h;rw[if_neg fun h2=>h h2.1]
 ·intro h
  have:=h0 _ h
  rw[if_pos ⟨h,by simpa using this.2⟩]
  refine⟨_,rfl,f7 (bZ _),fun x=> ?_⟩
  rw[bK (bZ _),bL]
  exact hG _ h x
theorem nU {d out:aa}{us:List Int}{P:List Int→Bool}(hn:us.Nodup)(h0: ∀u∈us,0≤u∧u.toNat<d.length)(hl:out.length=d.length)(hok: ∀x∈out,az x)
  (h1: ∀v∈us,∀x,x∈vals (domAt out v)↔pR d us P v x) (h2: ∀i:Nat,(i:Int)∉us→out[i]? =d[i]?):putsW d us (fN P us.length (growR (us.map (domAt d)) us.length)) us.length=out:=by
 apply EM
 intro i
 obtain⟨h3,h4⟩:=lf (P:=P) hn h0 i
 by_cases hi:(i:Int)∈us
 ·obtain⟨y,hy,hd,hx⟩:=h4 hi
  have hlt:=(h0 _ hi).2
  have ho:out[i]? =some (domAt out i):=by
   have:=ao (d:=out) (v:=(i:Int)) (by omega)
   simpa using this
  rw[hy,ho]
  congr 1
  refine iB hd (hok _ (D4 ho)) (dG (aF hd) (aF (hok _ (D4 ho))) fun x=> ?_)
  rw[hx x,h1 _ hi x]
 ·rw[h3 hi,h2 i hi]
theorem Cz {n:Nat}{us:List Int}{P:List Int→Bool}(hn:us.Nodup)(h0: ∀u∈us,0≤u∧u.toNat<n)(hne:us≠[]):SuppS n us P fun d=>lK d us P:=by
 refine⟨fun d out hd he=> ?_,fun d hd he g hg=> ?_,h0,hne⟩
 ·have h0d: ∀u∈us,0≤u∧u.toNat<d.length:=by rw[hd.len];exact h0
  have hat:=lf (d:=d) (P:=P) hn h0d
  have hl:=yw d us (fN P us.length (growR (us.map (domAt d)) us.length)) us.length
  simp only[lK,if_neg hd.some',mT]at he
  generalize putsW d us (fN P us.length (growR (us.map (domAt d)) us.length)) us.length=o at*
  split at he
  ·cases he
  ·rename_i hno
   obtain rfl:=D2 he
   have hfx: ∀x∈o,Fine x∧(vals x).length≤4096:=fun x hx=>by
    obtain⟨i,hi⟩:=D9 hx
    obtain⟨h1,h2⟩:=hat i
    by_cases hiu:(i:Int)∈us
    ·obtain⟨y,hy,hok,hv⟩:=h2 hiu
     rw[hi]at hy
     obtain rfl:=D2 hy
     obtain⟨k1,k2,k3⟩:=hd.few.at (i:Int)
     have hsub: ∀v∈vals x,v∈vals (domAt d i):=fun v hm=>by
      obtain⟨f,h3,_,rfl⟩:=(hv v).1 hm
      exact h3 _ hiu
     have hlen:=bV (aF hok) hsub
     exact⟨⟨hok,fun v hm=>k3 v (hsub v hm),by omega⟩,by omega⟩
    ·rw[h1 hiu]at hi
     exact⟨hd.few.fine x (D4 hi),hd.few.few x (D4 hi)⟩
   refine⟨⟨⟨by rw[hl];exact hd.few.small,fun x hx=>(hfx x hx).1,fun x hx=>(hfx x hx).2⟩,by rw[hl,hd.len],hno⟩,fun v hv x=> ?_,fun v hv0 hv=> ?_⟩
   ·have hv0:=h0 v hv
    have e:((v.toNat:Nat):Int)=v:=by omega
    obtain⟨y,hy,hok,hx⟩:=(hat v.toNat).2 (by rw[e];exact hv)
    rw[e]at hx
    have:domAt o v=y:=by
     unfold domAt
     rw[D0,hy];rfl
    rw[this]
    exact hx x
   ·have e:((v.toNat:Nat):Int)=v:=by omega
    have:=(hat v.toNat).1 (by rw[e];exact hv)
    unfold domAt
    rw[D0,D0,this]
 ·have h0d: ∀u∈us,0≤u∧u.toNat<d.length:=by rw[hd.len];exact h0
  have hat:=lf (d:=d) (P:=P) hn h0d
  simp only[lK,if_neg hd.some',mT]at he
  generalize putsW d us (fN P us.length (growR (us.map (domAt d)) us.length)) us.length=o at*
  split at he
  ·rename_i hm
   obtain⟨i,hi⟩:=D9 hm
   obtain⟨h1,h2⟩:=hat i
   by_cases hiu:(i:Int)∈us
   ·obtain⟨y,hy,hok,hx⟩:=h2 hiu
    rw[hi]at hy
    obtain rfl:=D2 hy
    cases hp:P (us.map g)with
    |false=>rfl
    |true=>
     have:=(hx (g i)).2 ⟨g,hg,hp,rfl⟩
     cases this
   ·rw[h1 hiu]at hi
    exact absurd (D4 hi) hd.some'
  ·cases he
theorem ph {α β:Type}{f:α→β ⊕ α}: ∀{n m:Nat} {x:α} {r s:β},cE f n x=some r→cE f m x=some s→r=s
 |0,_,_,_,_,h,_=>by cases h
 |_+1,0,_,_,_,_,h=>by cases h
 |n+1,m+1,x,r,s,h1,h2=>by
  simp only[cE]at h1 h2
  cases h:f x with
  |inl b=>rw[h]at h1 h2;simp only[D3]at h1 h2;rw[←h1,h2]
  |inr y=>rw[h]at h1 h2;exact ph h1 h2
theorem xH {d:aa}{c:Con}{R S:Option aa}{N M:Nat}(h1:LinAns d c R N)(h2:LinAns d c S M):R=S:=by
 unfold LinAns at h1 h2
 split at h1
 ·rename_i h;rw[if_pos h]at h2;rw[h1,h2]
 ·rename_i h
  rw[if_neg h]at h2
  split at h1
  ·rename_i h3;rw[if_pos h3]at h2;rw[h1,h2]
  ·rename_i h3;rw[if_neg h3]at h2;exact ph h1 h2
theorem q8 {α β:Type}{f:α→β ⊕ α}{I:α→Prop}{P:β→Prop}(h1: ∀x y,I x→f x= .inr y→I y)(h2: ∀x r,I x→f x= .inl r→P r): ∀{n:Nat} {x:α} {r:β},I x→cE f n x=some r→P r
 |0,_,_,_,h=>by cases h
 |n+1,x,r,hi,h=>by
  simp only[cE]at h
  cases hf:f x with
  |inl b=>rw[hf]at h;simp only[D3]at h;exact h▸h2 x b hi hf
  |inr y=>rw[hf]at h;exact q8 h1 h2 (h1 x y hi hf) h
theorem kW {d:aa}{i:Nat}{x:List (Int×Int)}(h: ∀y,d[i]? =some y→∀v∈vals x,v∈vals y):Sub (d.set i x) d:=by
 refine⟨by simp,fun j y z hy hz v hv=> ?_⟩
 rw[E8]at hy
 split at hy
 ·rename_i e
  subst e
  split at hy
  ·cases hy;exact h z hz v hv
  ·cases hy
 ·rw[hz]at hy;cases hy;exact hv
theorem xG {d:aa}{c:Con}{out:aa}{N:Nat}(h:SumOk d c)(hR:LinAns d c (some out) N):Sub out d:=by
 unfold LinAns at hR
 split at hR
 ·cases hR
 ·rename_i hne
  have hw:=h.whole hne
  split at hR
  ·rename_i h2
   rw[fH hw h.pos]at hR
   split at hR
   ·cases hR
   ·cases hR
    have hin:=cN (ac d c.vars c.coefs) 0 0 0 0 c.vars.length h.pos (by have:=h.fine.len;simp[ac];omega) (DB _)
    unfold bT
    simp only
    split
    ·exact Sub.refl d
    ·split
     ·split
      ·exact kW fun y _ v hv=>by simp[vals]at hv
      ·exact Sub.refl d
     ·refine kW fun y hy v hv=> ?_
      have hvv:=h.fine.vin _ (aK hin.1)
      rw[ao hvv.2]at hy
      obtain rfl:=D2 hy
      have hf:=h.fine.dom _ (ah hvv.2)
      rw[bK (fE (aF hf.ok))]at hv
      exact(List.mem_filter.1 hv).1
  ·refine q8 (f:=e7 c) (I:=fun x=>bF c x∧Sub x d) (P:=fun r=> ∀o,r=some o→Sub o d) ?_ ?_ ⟨hw,Sub.refl d⟩ hR out rfl
   ·rintro x y ⟨hx,hs⟩ hy
    rw[dp hx]at hy
    obtain⟨f1,s1⟩:=ej hx
    split at hy
    ·cases hy
    ·rename_i h1
     have hw1:bF c (M1 c x):=Whole.most hx h1
     obtain⟨f2,s2⟩:=ej hw1.back
     split at hy
     ·cases hy
     ·split at hy
      ·cases hy
      ·rename_i h3
       split at hy
       ·cases hy
       ·obtain rfl:=Sum.inr.inj hy
        exact⟨hw1.unback (Whole.most hw1.back h3),Sub.trans s2 (Sub.trans s1 hs)⟩
   ·rintro x r ⟨hx,hs⟩ hy o rfl
    rw[dp hx]at hy
    obtain⟨f1,s1⟩:=ej hx
    split at hy
    ·cases hy
    ·rename_i h1
     have hw1:bF c (M1 c x):=Whole.most hx h1
     obtain⟨f2,s2⟩:=ej hw1.back
     split at hy
     ·obtain rfl:=D2 (Sum.inl.inj hy)
      exact Sub.trans s1 hs
     ·split at hy
      ·cases hy
      ·split at hy
       ·obtain rfl:=D2 (Sum.inl.inj hy)
        exact Sub.trans s2 (Sub.trans s1 hs)
       ·cases hy
theorem g8 {d:aa}(hf: ∀x∈d,Fine x)(hne: []∉d){i:Nat}{x:List (Int×Int)}{v:Int}(hx:d[i]? =some x)(hv:v∈vals x): ∃a,Supp a d∧a[i]? =some v:=by
 have hi:=(List.getElem?_eq_some_iff.1 hx).1
 refine⟨(d.map fun y=>(vals y).headD 0).set i v,⟨by simp,fun j y w hy hw=> ?_⟩,by simp[hi]⟩
 rw[E8]at hw
 split at hw
 ·rename_i e
  subst e
  rw[hx]at hy
  cases hy
  split at hw
  ·cases hw;exact hv
  ·cases hw
 ·rw[D8,hy]at hw
  simp only[Dp,D3]at hw
  subst hw
  have hm:=D4 hy
  cases h2:vals y with
  |nil=>exact absurd ((e8 (hf y hm).ok).1 h2▸hm) hne
  |cons z l=>simp
theorem Av {d:aa}{c:Con}{R:Option aa}{N:Nat}(h:SumOk d c)(hne: []∉d)(hR:LinAns d c R N)(hfin: ∀out,R=some out→out.length=d.length∧[]∉out∧∀x∈out,Fine x)(hso:soW (endsW d c.vars c.coefs) c=true):R=some d:=by
 have hb:=h.big
 have ha:=bE c.rhs
 have key: ∀a,Supp a d→∃out,R=some out∧Supp a out:=fun a hs=>yS h hs (oq h.fine (by omega) h.op hs hso) hR
 cases R with
 |none=>
  exfalso
  cases hd:d with
  |nil=>
   have:=h.fine.vin
   have hp:=h.pos
   obtain⟨v,hv⟩:=FR hp
   have:=(this v hv).2
   rw[hd]at this
   simp at this
  |cons x l=>
   have hxm:x∈d:=by rw[hd];exact .head _
   cases h2:vals x with
   |nil=>exact hne ((e8 (h.fine.dom x hxm).ok).1 h2▸hxm)
   |cons z m=>
    obtain⟨a,hs,_⟩:=g8 h.fine.dom hne (i:=0) (x:=x) (v:=z) (by rw[hd];rfl) (by rw[h2];exact .head _)
    obtain⟨out,ho,_⟩:=key a hs
    cases ho
 |some out=>
  obtain⟨h1,h2,h3⟩:=hfin out rfl
  have hsub:=xG h hR
  congr 1
  refine Sub.antisymm hsub ⟨h1.symm,fun i x y hx hy v hv=> ?_⟩ h3 h.fine.dom
  obtain⟨a,hs,hai⟩:=g8 h.fine.dom hne hx hv
  obtain⟨out',ho,hs2⟩:=key a hs
  cases ho
  exact hs2.2 i y v hy hai
theorem pC {d:aa}{vars coefs:List Int}{rhs:Int}(h:Whole d vars coefs rhs):endsW d vars coefs=(bi (ac d vars coefs),fO (ac d vars coefs),true):=by
 have hb:=h.big
 have ha:=bE rhs
 have hwt:=cy (d:=d) h.fine.len
 have:=jN 0 0 (dn h.fine) (eT h) (by omega) (by omega) (by omega) (by omega)
 unfold endsW
 rw[this]
 simp
theorem o3 {d:aa}{vars coefs:List Int}(h: ∀k∈coefs,CoefOk k):bi (ac d vars (aA coefs))= -fO (ac d vars coefs):=by
 rw[eW,rg]
 unfold aA
 induction vars generalizing coefs with
 |nil=>simp
 |cons v vars ih=>
  cases coefs with
  |nil=>simp
  |cons k coefs=>
   have hk:=h k (.head _)
   have e:=(c8 hk).1
   have ih:=ih fun k hk=>h k (.tail _ hk)
   simp only[DJ,EV,E5,e]
   have e2:cg (domAt d v) (-k)= -fP (domAt d v) k:=by
    have hk0:=hk.1
    unfold cg fP
    by_cases h0:0<k
    ·rw[if_neg (by omega),if_pos h0,Fu]
    ·rw[if_pos (by omega),if_neg h0,Fu]
   rw[e2,ih]
   omega
theorem jW: ∀(ts:List (List (Int×Int)×Int)) (i m a:Nat) (s:Int),(∀t∈ts,¬1<(vals t.1).length)→(av i ts m s a).1=m
 | [],i,m,a,s,_=>by simp[av]
 |t::ts,i,m,a,s,h=>by
  rw[av,if_neg (h t (.head _))]
  exact jW ts _ _ _ _ fun t ht=>h t (.tail _ ht)
theorem yf {d:aa}(hf: ∀x∈d,Fine x)(hne: []∉d)(hl:0<d.length): ∃a,Supp a d:=by
 cases h2:vals d[0]with
 |nil=>exact absurd ((e8 (hf d[0] (D5 hl)).ok).1 h2▸D5 hl) hne
 |cons z m=>
  obtain⟨a,ha,_⟩:=g8 hf hne (i:=0) (x:=d[0]) (v:=z) (D1 hl) (by rw[h2];exact .head _)
  exact⟨a,ha⟩
theorem not_not {c:Con}(hck: ∀k∈c.coefs,CoefOk k)(hop:0≤c.op∧c.op≤2)(hr:aG c.rhs≤4611686018427388928):bQ (bQ c)=c:=by
 obtain⟨kind,vars,coefs,op,rhs,rows,b⟩:=c
 simp only at hck hop hr
 have har:aG rhs=max rhs (-rhs):=rfl
 have:op=0∨op=1∨op=2:=by omega
 rcases this with rfl|rfl|rfl
 ·have e1:wr (0-rhs)= -rhs:=by rw[wr,ae (by omega) (by omega)];omega
  have e2:wr (wr (0-rhs)-1)= -rhs-1:=by rw[e1,wr,ae (by omega) (by omega)]
  have e3:wr (wr (0-(-rhs-1))-1)=rhs:=by
   rw[show wr (0-(-rhs-1))=rhs+1 by rw[wr,ae (by omega) (by omega)];omega,wr,ae (by omega) (by omega)]
   omega
  have e4:aA (aA coefs)=coefs:=by
   unfold aA
   rw[EU]
   refine(Ds fun k hk=> ?_).trans (List.map_id _)
   obtain⟨h1,h2⟩:=c8 (hck k hk)
   have h3:=(c8 h2).1
   simp only[Function.comp]
   rw[h3,h1]
   simp
  simp only[bQ,if_true,e2,e3,e4]
 ·simp[bQ]
 ·simp[bQ]
theorem xD {x:List (Int×Int)}(h:az x)(hne:x≠[])(k:Int): ∃v∈vals x,cg x k=k*v:=by
 unfold cg
 by_cases hk:0<k
 ·rw[if_pos hk];exact⟨_,fD h hne,rfl⟩
 ·rw[if_neg hk];exact⟨_,pd h hne,rfl⟩
theorem qO {x y:List (Int×Int)}(hx:az x)(hy:az y)(hne:x≠[])(hs: ∀v∈vals x,v∈vals y)(k:Int):cg y k≤cg x k:=by
 obtain⟨v,hv,e⟩:=xD hx hne k
 rw[e]
 exact(sa hy (hs v hv)).1
structure SumC (n:Nat)(vars coefs:List Int)(rhs:Int):Prop where
 vl:vars.length=coefs.length
 vin: ∀v∈vars,0≤v∧v.toNat<n
 ck: ∀k∈coefs,CoefOk k
 nod:vars.Nodup
 big:ak coefs≤4611686018427388928∧aG rhs≤4611686018427388928
 few:vars.length*24≤140737488355328
theorem SumC.whole {n:Nat}{vars coefs:List Int}{rhs:Int}(h:SumC n vars coefs rhs){d:aa}(hd:GoodD n d):Whole d vars coefs rhs:=
 ⟨⟨h.vl,by have:=h.few;omega,fun v hv=>by rw[hd.len];exact h.vin v hv,h.ck,hd.few.fine,hd.few.small⟩,h.nod,hd.some',h.big⟩
theorem sZ {d:aa}{vars coefs:List Int}{rhs:Int}(h:Whole d vars coefs rhs){p:Int×Int}(hp:p∈vars.zip coefs):domAt (MO d vars coefs rhs) p.1=dR d (bi (ac d vars coefs)) rhs p:=by
 obtain⟨ha,hl⟩:=iC h
 have hm:(p.1,dR d (bi (ac d vars coefs)) rhs p)∈iD d vars coefs rhs:=List.mem_map.2 ⟨p,hp,rfl⟩
 have e:=dL ha hl _ hm
 unfold domAt
 rw[D0,show MO d vars coefs rhs=bU (iD d vars coefs rhs) d from rfl,e];rfl
theorem sX {d:aa}{vars coefs:List Int}{rhs:Int}(h:Whole d vars coefs rhs){v:Int}(h0:0≤v)(hv:v∉vars):domAt (MO d vars coefs rhs) v=domAt d v:=by
 have e:(MO d vars coefs rhs)[v.toNat]? =d[v.toNat]? :=cS _ _ _ fun p hp e=>by
  obtain⟨q,hq,rfl⟩:=List.mem_map.1 hp
  have hq1:=(DP hq).1
  have:=(h.fine.vin _ hq1).1
  have e:q.1.toNat=v.toNat:=e
  exact hv ((show q.1=v by omega)▸hq1)
 unfold domAt
 rw[D0,D0,e]
theorem kP {vars coefs:List Int}(hl:vars.length=coefs.length){v:Int}(hv:v∈vars): ∃p∈vars.zip coefs,p.1=v:=by
 obtain⟨i,hi,rfl⟩:=Ee hv
 exact⟨(vars[i],coefs[i]'(by omega)),List.mem_iff_getElem.2 ⟨i,by simp;omega,by simp⟩,rfl⟩
theorem BO {n:Nat}{a b:aa}{vars coefs:List Int}{rhs:Int}(hc:SumC n vars coefs rhs)(ga:GoodD n a)(gb:GoodD n b)(h:leD a b):leD (MO a vars coefs rhs) (MO b vars coefs rhs):=by
 have wa:=hc.whole ga
 have wb:=hc.whole gb
 have hlow:=eH (f:=fun p=>cg (domAt b p.1) p.2) (g:=fun p=>cg (domAt a p.1) p.2) (l:=vars.zip coefs) fun p hp=>by
  have hv:=hc.vin _ (DP hp).1
  have hm:domAt a p.1∈a:=ah (by rw[ga.len];exact hv.2)
  exact qO (ga.few.fine _ hm).ok (gb.few.fine _ (ah (by rw[gb.len];exact hv.2))).ok (fun e=>ga.some' (e▸hm)) (fun x hx=>h.2 p.1 x hv.1 hx) p.2
 rw[←eW,←eW]at hlow
 refine⟨by rw[(ej wa).2.1,(ej wb).2.1,ga.len,gb.len],fun v x h0 hx=> ?_⟩
 by_cases hv:v∈vars
 ·obtain⟨p,hp,rfl⟩:=kP hc.vl hv
  rw[sZ wa hp]at hx
  rw[sZ wb hp]
  obtain⟨h1,h2⟩:=((fS wa hp _).2 x).1 hx
  refine((fS wb hp _).2 x).2 ⟨h.2 _ x h0 h1,?_⟩
  have:=hlow.2 p hp
  omega
 ·rw[sX wa h0 hv]at hx
  rw[sX wb h0 hv]
  exact h.2 v x h0 hx
def kY (vars coefs:List Int)(rhs:Int)(d:aa):Option aa:=if []∈MO d vars coefs rhs then none else some (MO d vars coefs rhs)
theorem sY {n:Nat}{d:aa}{vars coefs:List Int}{rhs:Int}(hc:SumC n vars coefs rhs)(hd:GoodD n d)(hne: []∉MO d vars coefs rhs):GoodD n (MO d vars coefs rhs)∧leD (MO d vars coefs rhs) d:=by
 obtain⟨h1,h2⟩:=ej (hc.whole hd)
 have hle:leD (MO d vars coefs rhs) d:=by
  refine⟨h2.1,fun v x h0 hx=> ?_⟩
  by_cases hl:v.toNat<d.length
  ·have hl2:v.toNat<(MO d vars coefs rhs).length:=by rw[h2.1];exact hl
   exact h2.2 v.toNat _ _ (ao hl2) (ao hl) x hx
  ·unfold domAt at hx
   rw[D0,Do (by rw[h2.1];omega)]at hx
   cases hx
 refine⟨⟨⟨by rw[h2.1];exact hd.few.small,h1,fun x hx=> ?_⟩,by rw[h2.1,hd.len],hne⟩,hle⟩
 obtain⟨j,hj⟩:=D9 hx
 have hjl:=(List.getElem?_eq_some_iff.1 hj).1
 have hjd:j<d.length:=by rw[←h2.1];exact hjl
 have hsub: ∀v∈vals x,v∈vals d[j]:=fun v hv=>h2.2 j x d[j] hj (D1 hjd) v hv
 have:=bV (aF (h1 x hx).ok) hsub
 have:=hd.few.few _ (D5 hjd)
 omega
theorem mX {n:Nat}{vars coefs:List Int}{rhs:Int}(hc:SumC n vars coefs rhs):Takes leD (GoodD n) (kY vars coefs rhs):=by
 refine⟨fun a a' ga he=> ?_,fun a a' b ga gb hle he=> ?_⟩
 ·unfold kY at he
  split at he
  ·cases he
  ·rename_i hne
   obtain rfl:=D2 he
   exact sY hc ga hne
 ·unfold kY at he⊢
  split at he
  ·cases he
  ·rename_i hne
   obtain rfl:=D2 he
   have hm:=BO hc ga gb hle
   obtain⟨g1,_⟩:=sY hc ga hne
   rw[if_neg]
   ·exact⟨_,rfl,hm⟩
   ·intro hem
    obtain⟨j,hj⟩:=D9 hem
    have hjl:=(List.getElem?_eq_some_iff.1 hj).1
    have hjn:j<n:=by rw[(ej (hc.whole gb)).2.1,gb.len]at hjl;exact hjl
    obtain⟨x,hx⟩:=g1.ne (v:=(j:Int)) (by simpa using hjn)
    have:=hm.2 j x (by omega) hx
    unfold domAt at this
    rw[D0,DI,hj]at this
    cases this
def pI (c:Con)(b:Bool)(d:aa):Option aa:=if b=true then kY c.vars c.coefs c.rhs d else kY c.vars (aA c.coefs) (wr (0-c.rhs)) d
theorem ny {n:Nat}{c:Con}(h1:SumC n c.vars c.coefs c.rhs)(h2:SumC n c.vars (aA c.coefs) (wr (0-c.rhs)))(b:Bool):Takes leD (GoodD n) (pI c b):=by
 cases b with
 |true=>exact mX h1
 |false=>exact mX h2
theorem yT {n:Nat}{c:Con}(h1:SumC n c.vars c.coefs c.rhs)(h2:SumC n c.vars (aA c.coefs) (wr (0-c.rhs)))(hop:c.op=1)(d0:aa): ∀(N:Nat) (d:aa) (R:Option aa),Come leD (GoodD n) (pI c) [true,false] d0 d→cE (e7 c) N d=some R→ep leD (GoodD n) (pI c) [true,false] d0 R:=by
 intro N
 induction N using Nat.strongRecOn with
 |_ N ih=>
  intro d R hd hR
  have hw:bF c d:=h1.whole hd.fine
  have hst:=dp hw
  have t1:=ny h1 h2 true
  have t2:=ny h1 h2 false
  by_cases e1: []∈M1 c d
  ·rw[if_pos e1]at hst
   obtain rfl:=bf hR hst
   exact hd.none (c:=true) (by simp) t1 (if_pos e1)
  ·rw[if_neg e1,if_neg (by omega)]at hst
   have f1:pI c true d=some (M1 c d):=if_neg e1
   have hd1:=hd.step (aT n) (c:=true) (by simp) t1 f1
   by_cases e2: []∈M2 c (M1 c d)
   ·rw[if_pos e2]at hst
    obtain rfl:=bf hR hst
    exact hd1.none (c:=false) (by simp) t2 (if_pos e2)
   ·rw[if_neg e2]at hst
    have f2:pI c false (M1 c d)=some (M2 c (M1 c d)):=if_neg e2
    have hd2:=hd1.step (aT n) (c:=false) (by simp) t2 f2
    by_cases e3:M1 c d=d∧M2 c (M1 c d)=M1 c d
    ·rw[if_pos e3]at hst
     obtain rfl:=bf hR hst
     refine⟨hd2,fun b hb=> ?_⟩
     have e:M2 c (M1 c d)=d:=e3.2.trans e3.1
     rw[e]
     cases b with
     |true=>rw[f1,e3.1]
     |false=>rw[e3.1]at f2;rw[f2,←e3.1];rw[e3.1]at e;rw[e3.1,e]
    ·rw[if_neg e3]at hst
     obtain⟨m,hm,hR2⟩:=gQ hR hst
     exact ih m hm _ R hd2 hR2
theorem Bq {n:Nat}{c:Con}(h1:SumC n c.vars c.coefs c.rhs)(hop:c.op=0){d:aa}(hd:GoodD n d){N:Nat}{R:Option aa}(hR:cE (e7 c) N d=some R):R=pI c true d:=by
 have hst:=dp (h1.whole hd:bF c d)
 by_cases e1: []∈M1 c d
 ·rw[if_pos e1]at hst
  obtain rfl:=bf hR hst
  exact(if_pos e1).symm
 ·rw[if_neg e1,if_pos hop]at hst
  obtain rfl:=bf hR hst
  exact(if_neg e1).symm
structure StepOK (n:Nat)(us:List Int)(P:(Int→Int)→Prop)(f:aa→Option aa):Prop where
 takes:Takes leD (GoodD n) f
 stays: ∀a b,GoodD n a→GoodD n b→f a=some a→(∀u∈us,domAt a u=domAt b u)→f b=some b
 off: ∀a out,GoodD n a→f a=some out→∀v,0≤v→v∉us→domAt out v=domAt a v
 point: ∀e,GoodD n e→∀g:Int→Int,(∀u∈us,vals (domAt e u)=[g u])→(f e=some e↔P g)
 in': ∀u∈us,0≤u∧u.toNat<n
theorem SuppS.step {n:Nat}{us:List Int}{P:List Int→Bool}{f:aa→Option aa}(h:SuppS n us P f):StepOK n us (fun g=>P (us.map g)=true) f:=by
 refine⟨h.takes,fun a b ga gb ha hab=>h.stays ga gb ha hab,fun a out ga he=>(h.ok a out ga he).2.2,fun e ge g he=> ?_,h.in'⟩
 rw[h.point ge g he]
 by_cases hp:P (us.map g)=true
 ·simp[hp]
 ·simp[hp]
theorem StepOK.iff {n:Nat}{us:List Int}{P Q:(Int→Int)→Prop}{f:aa→Option aa}(h:StepOK n us P f)(hq: ∀g,P g↔Q g):StepOK n us Q f:=
 ⟨h.takes,h.stays,h.off,fun e ge g he=>(h.point e ge g he).trans (hq g),h.in'⟩
theorem StepOK.wide {n:Nat}{us vs:List Int}{P:(Int→Int)→Prop}{f:aa→Option aa}(h:StepOK n us P f)(hs: ∀u∈us,u∈vs)(hv: ∀u∈vs,0≤u∧u.toNat<n):StepOK n vs P f:=
 ⟨h.takes,fun a b ga gb ha hab=>h.stays a b ga gb ha fun u hu=>hab u (hs u hu),fun a out ga he v h0 hv=>h.off a out ga he v h0 fun hm=>hv (hs v hm),fun e ge g he=>h.point e ge g fun u hu=>he u (hs u hu),hv⟩
theorem StepOK.congr {n:Nat}{us:List Int}{P:(Int→Int)→Prop}{f f':aa→Option aa}(h:StepOK n us P f)(he: ∀d,GoodD n d→f' d=f d):StepOK n us P f':=by
 refine⟨⟨fun a a' ga e=>h.takes.less a a' ga (by rw[←he a ga];exact e),fun a a' b ga gb hle e=> ?_⟩,fun a b ga gb ha hab=> ?_,fun a out ga e=>h.off a out ga (by rw[←he a ga];exact e),fun e ge g hg=>by rw[he e ge];exact h.point e ge g hg,h.in'⟩
 ·rw[he a ga]at e;rw[he b gb];exact h.takes.mono a a' b ga gb hle e
 ·rw[he a ga]at ha;rw[he b gb];exact h.stays a b ga gb ha hab
def r8 (us:List Int)(a b:aa):aa:=(List.range a.length).map fun j:Nat=>if(j:Int)∈us then domAt a (j:Int)else domAt b (j:Int)
theorem Cf {us:List Int}{a b:aa}{v:Int}(h0:0≤v)(hl:v.toNat<a.length):domAt (r8 us a b) v=if v∈us then domAt a v else domAt b v:=by
 have e:((v.toNat:Nat):Int)=v:=by omega
 unfold domAt r8
 rw[D0,D8,EO hl]
 simp only[Dp,EQ,e,domAt]
theorem fR {a:aa}{v:Int}(hl:a.length≤v.toNat):domAt a v=[]:=by
 unfold domAt
 rw[D0,Do hl];rfl
theorem Ao {n:Nat}{us:List Int}{a b:aa}(ga:GoodD n a)(gb:GoodD n b):GoodD n (r8 us a b):=by
 have hl:(r8 us a b).length=a.length:=by simp[r8]
 have hm: ∀x∈r8 us a b,x∈a∨x∈b:=by
  intro x hx
  obtain⟨j,hj,rfl⟩:=List.mem_map.1 hx
  have hj:=List.mem_range.1 hj
  split
  ·exact .inl (ah (by simpa using hj))
  ·exact .inr (ah (by rw[gb.len,←ga.len];simpa using hj))
 refine⟨⟨by rw[hl];exact ga.few.small,fun x hx=> ?_,fun x hx=> ?_⟩,by rw[hl,ga.len],fun hx=> ?_⟩
 ·exact(hm x hx).elim (ga.few.fine x) (gb.few.fine x)
 ·exact(hm x hx).elim (ga.few.few x) (gb.few.few x)
 ·exact(hm _ hx).elim ga.some' gb.some'
theorem ep.step {γ:Type}{n:Nat}{us:List Int}{l:List γ}{f:γ→aa→Option aa}{F:aa→Option aa}{P:γ→(Int→Int)→Prop}(h: ∀d,GoodD n d→ep leD (GoodD n) f l d (F d))(hs: ∀c∈l,StepOK n us (P c) (f c))(hin: ∀u∈us,0≤u∧u.toNat<n):StepOK n us (fun g=> ∀c∈l,P c g) F:=by
 have O:=aT n
 have loc: ∀a b,GoodD n a→GoodD n b→dT f l a→(∀u∈us,domAt a u=domAt b u)→dT f l b:=fun a b ga gb ha hab c hc=>(hs c hc).stays a b ga gb (ha c hc) hab
 refine⟨ep.takes O h,fun a b ga gb ha hab=>(ep.fix O h gb).2 (loc a b ga gb ((ep.fix O h ga).1 ha) hab),fun a out ga he v h0 hv=> ?_,fun e ge g he=> ?_,hin⟩
 ·have hE:=h a ga
  rw[he]at hE
  obtain⟨hc,hst⟩:=hE
  by_cases hl:v.toNat<n
  ·have gm:=Ao (us:=us) hc.fine ga
   have hlo:out.length=a.length:=hc.less.1
   have hat: ∀u:Int,0≤u→domAt (r8 us out a) u=if u∈us then domAt out u else domAt a u:=fun u hu0=>by
    by_cases hul:u.toNat<out.length
    ·exact Cf hu0 hul
    ·rw[fR (by rw[gm.len];rw[hc.fine.len]at hul;omega),fR (by omega),fR (by omega),ite_self]
   have hst2:dT f l (r8 us out a):=by
    refine loc out _ hc.fine gm hst fun u hu=> ?_
    rw[hat u (hin u hu).1,if_pos hu]
   have hle:leD (r8 us out a) a:=⟨by rw[gm.len,ga.len],fun u x hu0 hx=>by
    rw[hat u hu0]at hx
    split at hx
    ·exact hc.less.2 u x hu0 hx
    ·exact hx⟩
   have hk:=hc.keep _ gm hle hst2
   have f1:=(hc.fine.few.fine _ (ah (by rw[hc.fine.len];exact hl))).ok
   have f2:=(ga.few.fine _ (ah (by rw[ga.len];exact hl))).ok
   refine iB f1 f2 (dG (aF f1) (aF f2) fun x=>⟨hc.less.2 v x h0,fun hx=>hk.2 v x h0 ?_⟩)
   rw[hat v h0,if_neg hv]
   exact hx
  ·rw[fR (by rw[hc.fine.len];omega),fR (by rw[ga.len];omega)]
 ·rw[ep.fix O h ge]
  exact⟨fun hh c hc=>((hs c hc).point e ge g he).1 (hh c hc),fun hh c hc=>((hs c hc).point e ge g he).2 (hh c hc)⟩
def dC (vars coefs:List Int)(g:Int→Int):Int:=((vars.zip coefs).map fun p=>p.2*g p.1).sum
def yg (coefs l:List Int):Int:=((l.zip coefs).map fun p=>p.2*p.1).sum
theorem dW: ∀(vars coefs:List Int) (g:Int→Int),yg coefs (vars.map g)=dC vars coefs g
 | [],_,_=>by simp[yg,dC]
 |_::_,[],_=>by simp[yg,dC]
 |v::vars,k::coefs,g=>by
  have:=dW vars coefs g
  simp only[yg,dC,DJ,EV,E5]at this⊢
  rw[this]
theorem rR {α:Type}{f f':α→Int}{q:α}: ∀{l:List α},l.Nodup→q∈l→(∀p∈l,p≠q→f' p=f p)→(l.map f').sum=(l.map f).sum-f q+f' q
 |p::l,hn,hq,h=>by
  have h1:=List.nodup_cons.1 hn
  simp only[DJ,E5]
  rcases List.mem_cons.1 hq with rfl|hq
  ·have:l.map f'=l.map f:=Ds fun r hr=>h r (.tail _ hr) fun e=>h1.1 (e▸hr)
   rw[this];omega
  ·have:=rR (f:=f) (f':=f') h1.2 hq fun r hr=>h r (.tail _ hr)
   have:=h p (.head _) fun e=>h1.1 (e▸hq)
   omega
theorem jq: ∀{vars coefs:List Int},vars.Nodup→(vars.zip coefs).Nodup
 | [],_,_=>by simp
 |_::_,[],_=>by simp
 |v::vars,k::coefs,h=>by
  have h1:=List.nodup_cons.1 h
  rw[EV]
  exact List.nodup_cons.2 ⟨fun hm=>h1.1 (DP hm).1,jq h1.2⟩
theorem kQ: ∀{vars coefs:List Int},vars.Nodup→∀{p q:Int×Int},p∈vars.zip coefs→q∈vars.zip coefs→p.1=q.1→p=q
 | [],_,_,p,q,h,_,_=>by simp at h
 |_::_,[],_,p,q,h,_,_=>by simp at h
 |v::vars,k::coefs,hn,p,q,hp,hq,e=>by
  have h1:=List.nodup_cons.1 hn
  rw[EV]at hp hq
  rcases List.mem_cons.1 hp with rfl|hp
  ·rcases List.mem_cons.1 hq with rfl|hq
   ·rfl
   ·exact absurd ((show v=q.1 from e)▸(DP hq).1) h1.1
  ·rcases List.mem_cons.1 hq with rfl|hq
   ·exact absurd ((show p.1=v from e)▸(DP hp).1) h1.1
   ·exact kQ h1.2 hp hq e
theorem Be {vars coefs:List Int}(hn:vars.Nodup)(h:Int×Int→Int): ∃g:Int→Int,∀p∈vars.zip coefs,g p.1=h p:=by
 refine⟨fun u=>if hu: ∃p∈vars.zip coefs,p.1=u then h hu.choose else 0,fun p hp=> ?_⟩
 have hu: ∃q∈vars.zip coefs,q.1=p.1:=⟨p,hp,rfl⟩
 simp only[dif_pos hu]
 rw[kQ hn hu.choose_spec.1 hp hu.choose_spec.2]
theorem Cy {n:Nat}{vars coefs:List Int}{rhs:Int}(hc:SumC n vars coefs rhs)(hne:vars≠[]):SuppS n vars (fun l=>decide (yg coefs l≤rhs)) (kY vars coefs rhs):=by
 have low: ∀d,GoodD n d→∀g:Int→Int,(∀u∈vars,g u∈vals (domAt d u))→∀p∈vars.zip coefs,p.2*g p.1-cg (domAt d p.1) p.2≤dC vars coefs g-bi (ac d vars coefs):=fun d gd g hg p hp=>by
  rw[eW]
  refine(eH (f:=fun p:Int×Int=>cg (domAt d p.1) p.2) (g:=fun p=>p.2*g p.1) (l:=vars.zip coefs) fun q hq=> ?_).2 p hp
  have hv:=(DP hq).1
  exact(sa (gd.few.fine _ (ah (by rw[gd.len];exact(hc.vin _ hv).2))).ok (hg _ hv)).1
 have put: ∀d,GoodD n d→∀q∈vars.zip coefs,∀x∈vals (domAt d q.1),∃g:Int→Int,(∀u∈vars,g u∈vals (domAt d u))∧g q.1=x∧dC vars coefs g=bi (ac d vars coefs)-cg (domAt d q.1) q.2+q.2*x:=fun d gd q hq x hx=>by
  have hex: ∀p:Int×Int,∃y,p∈vars.zip coefs→y∈vals (domAt d p.1)∧cg (domAt d p.1) p.2=p.2*y:=fun p=>by
   by_cases hp:p∈vars.zip coefs
   ·have hm:domAt d p.1∈d:=ah (by rw[gd.len];exact(hc.vin _ (DP hp).1).2)
    obtain⟨y,h1,h2⟩:=xD (gd.few.fine _ hm).ok (fun e=>gd.some' (e▸hm)) p.2
    exact⟨y,fun _=>⟨h1,h2⟩⟩
   ·exact⟨0,fun h=>absurd h hp⟩
  obtain⟨g,hg⟩:=Be (coefs:=coefs) hc.nod fun p=>if p=q then x else(hex p).choose
  refine⟨g,fun u hu=> ?_,by rw[hg q hq,if_pos rfl],?_⟩
  ·obtain⟨p,hp,rfl⟩:=kP hc.vl hu
   rw[hg p hp]
   split
   ·rename_i e;exact e▸hx
   ·exact((hex p).choose_spec hp).1
  ·unfold dC
   rw[rR (f:=fun p=>cg (domAt d p.1) p.2) (q:=q) (jq hc.nod) hq fun p hp hpq=> ?_,←eW,hg q hq,if_pos rfl]
   show p.2*g p.1=cg (domAt d p.1) p.2
   rw[hg p hp,if_neg hpq]
   exact((hex p).choose_spec hp).2.symm
 refine⟨fun d out gd he=> ?_,fun d gd he g hg=> ?_,hc.vin,hne⟩
 ·unfold kY at he
  split at he
  ·cases he
  ·rename_i hno
   obtain rfl:=D2 he
   have hw:=hc.whole gd
   refine⟨(sY hc gd hno).1,fun v hv x=> ?_,fun v h0 hv=>sX hw h0 hv⟩
   obtain⟨q,hq,rfl⟩:=kP hc.vl hv
   rw[sZ hw hq,(fS hw hq _).2 x]
   constructor
   ·rintro⟨h1,h2⟩
    obtain⟨g,h3,h4,h5⟩:=put d gd q hq x h1
    refine⟨g,h3,decide_eq_true ?_,h4⟩
    rw[dW,h5];omega
   ·rintro⟨g,h3,h4,rfl⟩
    have h4:=of_decide_eq_true h4
    rw[dW]at h4
    have:=low d gd g h3 q hq
    exact⟨h3 _ hv,by omega⟩
 ·refine decide_eq_false fun hle=> ?_
  rw[dW]at hle
  unfold kY at he
  split at he
  ·rename_i hem
   obtain⟨j,hj⟩:=D9 hem
   have hw:=hc.whole gd
   have hjn:j<n:=by
    have:=(List.getElem?_eq_some_iff.1 hj).1
    rwa[(ej hw).2.1,gd.len]at this
   have e:domAt (MO d vars coefs rhs) (j:Int)=[]:=by
    unfold domAt
    rw[D0,DI,hj];rfl
   by_cases hv:(j:Int)∈vars
   ·obtain⟨q,hq,hqj⟩:=kP hc.vl hv
    have h1:=low d gd g hg q hq
    have h2:=((fS hw hq (bi (ac d vars coefs))).2 (g q.1)).2 ⟨hg _ (DP hq).1,by omega⟩
    rw[←sZ hw hq,hqj,e]at h2
    cases h2
   ·rw[sX hw (by omega) hv]at e
    exact gd.some' (e▸ah (by rw[gd.len];simpa using hjn))
  ·cases he
theorem og {n:Nat}{vars coefs:List Int}{rhs:Int}(hc:SumC n vars coefs rhs)(hne:vars≠[]):StepOK n vars (fun g=>dC vars coefs g≤rhs) (kY vars coefs rhs):=
 (Cy hc hne).step.iff fun g=>by rw[decide_eq_true_eq,dW]
theorem i7: ∀(ts:List (List (Int×Int)×Int)) (i m:Nat) (s:Int) (a:Nat),m≤(av i ts m s a).1
 | [],i,m,s,a=>DB _
 |t::ts,i,m,s,a=>by
  rw[av]
  split
  ·have:=i7 ts (i+1) (m+1) s i
   omega
  ·exact i7 ts _ _ _ _
theorem jX: ∀(ts:List (List (Int×Int)×Int)) (i m:Nat) (s:Int) (a:Nat),(av i ts m s a).1=m→(av i ts m s a).2.2=a
 | [],i,m,s,a,_=>rfl
 |t::ts,i,m,s,a,h=>by
  rw[av]at h⊢
  split at h
  ·have:=i7 ts (i+1) (m+1) s i
   omega
  ·rename_i hc
   rw[if_neg hc]
   exact jX ts _ _ _ _ h
theorem lc: ∀(ts:List (List (Int×Int)×Int)) (i m:Nat) (s:Int) (a:Nat),
  ((av i ts m s a).1=m+1→∃(j:Nat) (t:List (Int×Int)×Int),(av i ts m s a).2.2=i+j∧ts[j]? =some t∧1<(vals t.1).length)∧
  (m+1<(av i ts m s a).1→∃(j k:Nat) (t u:List (Int×Int)×Int),j≠k∧ts[j]? =some t∧ts[k]? =some u∧1<(vals t.1).length∧1<(vals u.1).length)
 | [],i,m,s,a=>by simp[av]
 |t::ts,i,m,s,a=>by
  rw[av]
  by_cases hc:1<(vals t.1).length
  ·rw[if_pos hc]
   refine⟨fun e=> ?_,fun e=> ?_⟩
   ·have hk:=jX ts (i+1) (m+1) s i e
    exact⟨0,t,by rw[hk];rfl,rfl,hc⟩
   ·have hex: ∃(k:Nat) (u:List (Int×Int)×Int),ts[k]? =some u∧1<(vals u.1).length:=by
     refine Classical.byContradiction fun hn=> ?_
     have:=jW ts (i+1) (m+1) i s fun u hu h=>hn ((List.mem_iff_getElem?.1 hu).elim fun k hk=>⟨k,u,hk,h⟩)
     omega
    obtain⟨k,u,h5,h6⟩:=hex
    exact⟨0,k+1,t,u,by omega,rfl,by simpa using h5,hc,h6⟩
  ·rw[if_neg hc]
   obtain⟨h3,h4⟩:=lc ts (i+1) m (wr (s+wr (t.2*hd0 (vals t.1)))) a
   refine⟨fun e=> ?_,fun e=> ?_⟩
   ·obtain⟨j,u,h5,h6,h7⟩:=h3 e
    exact⟨j+1,u,by omega,by simpa using h6,h7⟩
   ·obtain⟨j,k,u,w,h5,h6,h7,h8,h9⟩:=h4 e
    exact⟨j+1,k+1,u,w,by omega,by simpa using h6,by simpa using h7,h8,h9⟩
theorem A3 {n:Nat}{d:aa}(hd:GoodD n d){us:List Int}(hin: ∀u∈us,0≤u∧u.toNat<n){g:Int→Int}(hg: ∀u∈us,g u∈vals (domAt d u)): ∃a,Supp a d∧∀u∈us,atR a u=g u:=by
 have hex: ∀j:Nat,∃x,j<n→x∈vals (domAt d j)∧((j:Int)∈us→x=g j):=fun j=>by
  by_cases hj:(j:Int)∈us
  ·exact⟨g j,fun _=>⟨hg _ hj,fun _=>rfl⟩⟩
  ·by_cases hl:j<n
   ·obtain⟨x,hx⟩:=hd.ne (v:=(j:Int)) (by simpa using hl)
    exact⟨x,fun _=>⟨hx,fun h=>absurd h hj⟩⟩
   ·exact⟨0,fun h=>absurd h hl⟩
 refine⟨(List.range n).map fun j=>(hex j).choose,⟨by simp[hd.len],fun i x v hx hv=> ?_⟩,fun u hu=> ?_⟩
 ·have hi:=(List.getElem?_eq_some_iff.1 hx).1
  have hin':i<n:=by rw[←hd.len];exact hi
  rw[D8,EO hin']at hv
  obtain rfl:=D2 hv
  have h1:=((hex i).choose_spec hin').1
  have e:domAt d (i:Int)=x:=by
   rw[D1 hi]at hx
   rw[pG hi];exact D2 hx
  exact e▸h1
 ·obtain⟨h0,h1⟩:=hin u hu
  have e:((u.toNat:Nat):Int)=u:=by omega
  unfold atR
  rw[if_neg (by omega),D0,D8,EO h1]
  exact(((hex u.toNat).choose_spec h1).2 (by rw[e];exact hu)).trans (congrArg g e)
theorem vU {vars coefs a:List Int}{g:Int→Int}(h: ∀u∈vars,atR a u=g u):bI vars coefs a=dC vars coefs g:=by
 unfold bI dC
 congr 1
 exact Ds fun p hp=>by rw[h _ (DP hp).1]
structure LinC (n:Nat)(c:Con):Prop where
 sum:SumC n c.vars c.coefs c.rhs
 pos:0<c.vars.length
 op:0≤c.op∧c.op≤2
theorem LinC.ok {n:Nat}{c:Con}(h:LinC n c){d:aa}(hd:GoodD n d):SumOk d c:=⟨(h.sum.whole hd).fine,h.sum.nod,h.pos,h.op,h.sum.big⟩
theorem LinC.ne {n:Nat}{c:Con}(h:LinC n c):c.vars≠[]:=fun e=>by have:=h.pos;rw[e]at this;simp at this
theorem GoodD.of_sub {n:Nat}{a b:aa}(hb:GoodD n b)(h:Sub a b)(hf: ∀x∈a,Fine x)(hne: []∉a):GoodD n a∧leD a b:=by
 have hle:leD a b:=by
  refine⟨h.1,fun v x h0 hx=> ?_⟩
  by_cases hl:v.toNat<a.length
  ·exact h.2 v.toNat _ _ (ao hl) (ao (by rw[←h.1];exact hl)) x hx
  ·rw[fR (by omega)]at hx;cases hx
 refine⟨⟨⟨by rw[h.1];exact hb.few.small,hf,fun x hx=> ?_⟩,by rw[h.1,hb.len],hne⟩,hle⟩
 obtain⟨j,hj⟩:=D9 hx
 have hjl:=(List.getElem?_eq_some_iff.1 hj).1
 have hjd:j<b.length:=by rw[←h.1];exact hjl
 have:=bV (aF (hf x hx).ok) fun v hv=>h.2 j x _ hj (D1 hjd) v hv
 have:=hb.few.few _ (D5 hjd)
 omega
def neO (c:Con)(d:aa):Option aa:=if []∈bT d c then none else some (bT d c)
theorem vQ {d:aa}{c:Con}(hp:0<c.vars.length)(hl:c.vars.length=c.coefs.length)(h0: ∀v∈c.vars,0≤v){v:Int}(hv0:0≤v)(hv:v∉c.vars):domAt (bT d c) v=domAt d v:=by
 have hin:=cN (ac d c.vars c.coefs) 0 0 0 0 c.vars.length hp (by simp[ac];omega) (DB _)
 have key: ∀(k:Nat) (y:List (Int×Int)),k<c.vars.length→domAt (d.set (varAt c k).toNat y) v=domAt d v:=fun k y hk=>by
  have hm:=aK (c:=c) hk
  have h1:=h0 _ hm
  have hne:(varAt c k).toNat≠v.toNat:=fun e=>hv ((show varAt c k=v by omega)▸hm)
  unfold domAt
  rw[D0,D0,DM hne]
 unfold bT
 simp only
 split
 ·rfl
 ·split
  ·split
   ·exact key 0 _ hp
   ·rfl
  ·exact key _ _ hin.1
theorem Cx {n:Nat}{c:Con}(h:LinC n c)(hop:c.op=2):SuppS n c.vars (fun l=>decide (yg c.coefs l≠c.rhs)) (neO c):=by
 have hc:=h.sum
 have hans: ∀d,GoodD n d→LinAns d c (neO c d) 0:=fun d gd=>by
  have hw:bF c d:=hc.whole gd
  unfold LinAns
  rw[if_neg gd.some',if_pos hop,fH hw h.pos]
  rfl
 have keep: ∀d,GoodD n d→∀g:Int→Int,(∀u∈c.vars,g u∈vals (domAt d u))→dC c.vars c.coefs g≠c.rhs→[]∉bT d c∧∀u∈c.vars,g u∈vals (domAt (bT d c) u):=fun d gd g hg hne=>by
  obtain⟨a,ha,hag⟩:=A3 gd hc.vin hg
  have hw:bF c d:=hc.whole gd
  have hs:=m7 hw h.pos ha (by rw[vU hag];exact hne)
  refine⟨hs.ne,fun u hu=> ?_⟩
  have hv:=hc.vin u hu
  have:=hs.at hv.1 (by rw[(i6 hw h.pos).1,gd.len];exact hv.2)
  rwa[hag u hu]at this
 refine⟨fun d out gd he=> ?_,fun d gd he g hg=> ?_,hc.vin,h.ne⟩
 ·have hA:=hans d gd
  rw[he]at hA
  have hsub:=xG (h.ok gd) hA
  have hw:bF c d:=hc.whole gd
  unfold neO at he
  split at he
  ·cases he
  ·rename_i hno
   obtain rfl:=D2 he
   obtain⟨go,hle⟩:=GoodD.of_sub gd hsub (i6 hw h.pos).2 hno
   refine⟨go,fun v hv x=>⟨fun hx=> ?_,?_⟩,fun v h0 hv=>vQ h.pos hc.vl (fun v hv=>(hc.vin v hv).1) h0 hv⟩
   ·refine Classical.byContradiction fun hn=> ?_
    have hx0:=hle.2 v x (hc.vin v hv).1 hx
    have hall: ∀g:Int→Int,(∀u∈c.vars,g u∈vals (domAt d u))→g v=x→dC c.vars c.coefs g=c.rhs:=fun g h1 h2=>by
     refine Classical.byContradiction fun h3=>hn ⟨g,h1,decide_eq_true ?_,h2⟩
     rw[dW];exact h3
    obtain⟨q,hq,rfl⟩:=kP hc.vl hv
    have hex: ∀u:Int,∃y,u∈c.vars→y∈vals (domAt d u):=fun u=>by
     by_cases hu:u∈c.vars
     ·obtain⟨y,hy⟩:=gd.ne (hc.vin u hu).2
      exact⟨y,fun _=>hy⟩
     ·exact⟨0,fun h=>absurd h hu⟩
    let g0:Int→Int:=fun u=>if u=q.1 then x else(hex u).choose
    have hg0: ∀u∈c.vars,g0 u∈vals (domAt d u):=fun u hu=>by
     simp only[g0]
     split
     ·rename_i e;rw[e];exact hx0
     ·exact(hex u).choose_spec hu
    have hg0x:g0 q.1=x:=if_pos rfl
    have hs0:=hall g0 hg0 hg0x
    have single: ∀p∈c.vars.zip c.coefs,p.1≠q.1→¬1<(vals (domAt d p.1)).length:=fun p hp hpq=>by
     have hpv:=(DP hp).1
     have heq: ∀y∈vals (domAt d p.1),y=g0 p.1:=fun y hy=>by
      have h1:=hall (fun u=>if u=p.1 then y else g0 u) (fun u hu=>by
       by_cases e:u=p.1
       ·rw[if_pos e,e];exact hy
       ·rw[if_neg e];exact hg0 u hu) ((if_neg (Ne.symm hpq)).trans hg0x)
      have h2:dC c.vars c.coefs (fun u=>if u=p.1 then y else g0 u)=dC c.vars c.coefs g0-p.2*g0 p.1+p.2*y:=by
       unfold dC
       rw[rR (f:=fun r:Int×Int=>r.2*g0 r.1) (f':=fun r=>r.2*(if r.1=p.1 then y else g0 r.1)) (jq hc.nod) hp fun r hr hrp=> ?_,if_pos rfl]
       rw[if_neg fun e=>hrp (kQ hc.nod hr hp e)]
      have hk:=(hc.ck _ (DP hp).2).1
      have h3:p.2*y=p.2*g0 p.1:=by omega
      exact GM hk h3
     have hu:=aF (gd.few.fine _ (ah (v:=p.1) (by rw[gd.len];exact(hc.vin _ hpv).2))).ok
     intro hl
     cases hv2:vals (domAt d p.1)with
     |nil=>rw[hv2]at hl;simp at hl
     |cons y l=>
      cases l with
      |nil=>rw[hv2]at hl;simp at hl
      |cons z l=>
       rw[hv2]at hu heq
       have h4:=(List.pairwise_cons.1 hu).1 z (.head _)
       have h5:=heq y (.head _)
       have h6:=heq z (.tail _ (.head _))
       omega
    have hzl:(c.vars.zip c.coefs).length=c.vars.length:=by have:=hc.vl;simp;omega
    have hterm: ∀(j:Nat) t,(ac d c.vars c.coefs)[j]? =some t→∃p,(c.vars.zip c.coefs)[j]? =some p∧t=(domAt d p.1,p.2):=fun j t ht=>by
     unfold ac at ht
     rw[D8]at ht
     cases hp:(c.vars.zip c.coefs)[j]? with
     |none=>rw[hp]at ht;cases ht
     |some p=>rw[hp]at ht;exact⟨p,rfl,(D2 ht).symm⟩
    have hmulti: ∀(j:Nat) t,(ac d c.vars c.coefs)[j]? =some t→1<(vals t.1).length→(c.vars.zip c.coefs)[j]? =some q:=fun j t ht hl=>by
     obtain⟨p,hp,rfl⟩:=hterm j t ht
     have hpm:=D4 hp
     by_cases e:p.1=q.1
     ·rw[hp,kQ hc.nod hpm hq e]
     ·exact absurd hl (single p hpm e)
    have hone: ∀(j k:Nat),(c.vars.zip c.coefs)[j]? =some q→(c.vars.zip c.coefs)[k]? =some q→j=k:=fun j k h1 h2=>by
     have hj:=(List.getElem?_eq_some_iff.1 h1).1
     have hk:=(List.getElem?_eq_some_iff.1 h2).1
     have e1:(c.vars.zip c.coefs)[j]=(c.vars.zip c.coefs)[k]:=by
      rw[D1 hj]at h1
      rw[D1 hk]at h2
      exact(D2 h1).trans (D2 h2).symm
     exact(F7 (jq hc.nod)).1 e1
    obtain⟨t1,t2⟩:=lc (ac d c.vars c.coefs) 0 0 0 0
    let ts:List ((List (Int×Int)×Int)×Int):=(c.vars.zip c.coefs).map fun p=>((domAt d p.1,p.2),g0 p.1)
    have et:ts.map (·.1)=ac d c.vars c.coefs:=by simp only[ts,EU];rfl
    have eS:(ts.map fun t=>t.1.2*t.2).sum=dC c.vars c.coefs g0:=by simp only[ts,EU];rfl
    have hvt:xf ts:=by
     intro t ht
     obtain⟨p,hp,rfl⟩:=List.mem_map.1 ht
     exact hg0 _ (DP hp).1
    have hww:=cy (d:=d) hc.vl
    have hb:=hc.big
    have har:=bE c.rhs
    have key:=fg (B:=ak c.coefs) (by omega) ts 0 0 0 0 (by rw[et];exact dn hw.fine) hvt (by rw[et];omega) (by rw[et];omega)
    rw[et,eS,hs0]at key
    obtain⟨k1,_,k3⟩:=key
    have hin:=cN (ac d c.vars c.coefs) 0 0 0 0 c.vars.length h.pos (by simp[ac];have:=hc.vl;omega) (DB _)
    unfold bT at hno hx
    simp only at hno hx
    by_cases hm2:1<(av 0 (ac d c.vars c.coefs) 0 0 0).1
    ·obtain⟨j,k,t,u,h1,h2,h3,h4,h5⟩:=t2 (by omega)
     exact h1 (hone j k (hmulti j t h2 h4) (hmulti k u h3 h5))
    ·rw[if_neg hm2]at hno hx
     by_cases hm0:(av 0 (ac d c.vars c.coefs) 0 0 0).1=0
     ·rw[if_pos hm0,if_pos (by have:=(k1 hm0).1;omega)]at hno
      refine hno ((dK ?_ gd.some').2 rfl)
      rw[gd.len]
      exact(hc.vin _ (aK (c:=c) h.pos)).2
     ·rw[if_neg hm0]at hx
      obtain⟨j,t,j1,j2,j3⟩:=t1 (by omega)
      obtain⟨j',t',i1,i2,i3⟩:=k3 (by omega)
      have ejj:j'=j:=by omega
      subst ejj
      have hjq:=hmulti _ t j2 j3
      have hj:j'<c.vars.length:=by have:=(List.getElem?_eq_some_iff.1 hjq).1;omega
      have ev:varAt c j'=q.1∧coefAt c j'=q.2:=by
       have h1:=(List.getElem?_eq_some_iff.1 hjq).2
       have hjc:j'<c.coefs.length:=by have:=hc.vl;omega
       rw[FQ]at h1
       rw[←h1]
       exact⟨aM hj,aM hjc⟩
      have et':t'=((domAt d q.1,q.2),x):=by
       simp only[ts,D8,hjq,Dp,D3]at i2
       rw[←i2,hg0x]
      rw[et']at i3
      simp only[Fl]at i3
      rw[j1,ET,ev.1,ev.2]at hx
      have hqv:=hc.vin _ (DP hq).1
      have hxd:=gd.few.fine _ (ah (v:=q.1) (by rw[gd.len];exact hqv.2))
      have e:domAt (d.set q.1.toNat (c6 ((vals (domAt d q.1)).filter fun v=>decide (wr ((av 0 (ac d c.vars c.coefs) 0 0 0).2.1+wr (q.2*v))≠c.rhs)))) q.1=c6 ((vals (domAt d q.1)).filter fun v=>decide (wr ((av 0 (ac d c.vars c.coefs) 0 0 0).2.1+wr (q.2*v))≠c.rhs)):=by
       unfold domAt
       rw[D0,DX (by rw[gd.len];exact hqv.2)];rfl
      rw[e,bK (fE (aF hxd.ok)),Ei,decide_eq_true_eq]at hx
      have b:=hxd.val _ hx0
      have hk:=hc.ck _ (DP hq).2
      have m:=dZ q.2 x b.1 b.2
      have hk2:=hk.2
      have hrb: -c.rhs≤aG c.rhs∧c.rhs≤aG c.rhs:=by unfold aG;omega
      have hwk:=aV c.coefs
      refine hx.2 ?_
      simp only[wr]
      rw[ae (n:=q.2*x) (by omega) (by omega),ae (by omega) (by omega)]
      omega
   ·rintro⟨g,h3,h4,rfl⟩
    have h4:=of_decide_eq_true h4
    rw[dW]at h4
    exact(keep d gd g h3 h4).2 v hv
 ·refine decide_eq_false fun hne=> ?_
  rw[dW]at hne
  have:=(keep d gd g hg hne).1
  unfold neO at he
  rw[if_neg this]at he
  cases he
open Classical in
noncomputable def gO (c:Con)(d:aa):Option aa:=if h: ∃R:Option aa,∃N,LinAns d c R N then h.choose else none
theorem gN {d:aa}{c:Con}(h:SumOk d c): ∃N,LinAns d c (gO c d) N:=by
 obtain⟨R,N,N',h1,h2,h3⟩:=xI h
 have hex: ∃R:Option aa,∃N,LinAns d c R N:=⟨R,N,h1⟩
 unfold gO
 rw[dif_pos hex]
 exact hex.choose_spec
theorem mV {vars coefs:List Int}(g:Int→Int)(h: ∀k∈coefs,CoefOk k):dC vars (aA coefs) g= -dC vars coefs g:=by
 unfold dC aA
 induction vars generalizing coefs with
 |nil=>simp
 |cons v vars ih=>
  cases coefs with
  |nil=>simp
  |cons k coefs=>
   have e:=(c8 (h k (.head _))).1
   have:=ih fun k hk=>h k (.tail _ hk)
   simp only[DJ,EV,E5]at this⊢
   rw[this,e,Fu]
   omega
theorem SumC.back {n:Nat}{vars coefs:List Int}{rhs:Int}(h:SumC n vars coefs rhs):SumC n vars (aA coefs) (wr (0-rhs)):=by
 have hb:=h.big
 have hp:=aV coefs
 refine⟨by rw[h.vl];simp[aA],h.vin,fun k hk=> ?_,h.nod,?_,h.few⟩
 ·obtain⟨k0,hk0,rfl⟩:=List.mem_map.1 hk
  exact(c8 (h.ck _ hk0)).2
 ·rw[dk _ h.ck,(nZ (by omega)).2]
  exact hb
theorem lI {n:Nat}{c:Con}(h:LinC n c):StepOK n c.vars (fun g=>dt c.op (dC c.vars c.coefs g) c.rhs=true) (gO c):=by
 have hc:=h.sum
 have hopc:c.op=0∨c.op=1∨c.op=2:=by have:=h.op;omega
 rcases hopc with h0|h0|h0
 ·refine((og hc h.ne).congr fun d gd=> ?_).iff fun g=> ?_
  ·obtain⟨N,hN⟩:=gN (h.ok gd)
   unfold LinAns at hN
   rw[if_neg gd.some',if_neg (by omega)]at hN
   rw[Bq hc h0 gd hN]
   rfl
  ·unfold dt
   rw[if_pos h0,decide_eq_true_eq]
 ·have hE: ∀d,GoodD n d→ep leD (GoodD n) (pI c) [true,false] d (gO c d):=fun d gd=>by
   obtain⟨N,hN⟩:=gN (h.ok gd)
   unfold LinAns at hN
   rw[if_neg gd.some',if_neg (by omega)]at hN
   exact yT hc hc.back h0 d N d _ (Come.refl (aT n) gd) hN
  refine(ep.step hE (P:=fun b g=>if b=true then dC c.vars c.coefs g≤c.rhs else dC c.vars (aA c.coefs) g≤wr (0-c.rhs)) (us:=c.vars) (fun b _=> ?_) hc.vin).iff fun g=> ?_
  ·cases b
   ·exact(og hc.back h.ne).iff fun g=>by simp
   ·exact(og hc h.ne).iff fun g=>by simp
  ·have hb:=hc.big
   have hp:=aV c.coefs
   have e1:=(nZ (rhs:=c.rhs) (by omega)).1
   have e2:=mV (vars:=c.vars) g hc.ck
   unfold dt
   rw[if_neg (by omega),h0]
   simp only[EX,G4,or_false,forall_eq_or_imp,forall_eq,if_true,Dr,if_false,e1,e2]
   simp
   omega
 ·refine((Cx h h0).step.congr fun d gd=> ?_).iff fun g=> ?_
  ·obtain⟨N,hN⟩:=gN (h.ok gd)
   have hw:bF c d:=hc.whole gd
   unfold LinAns at hN
   rw[if_neg gd.some',if_pos h0,fH hw h.pos]at hN
   exact hN
  ·unfold dt
   rw[if_neg (by omega),h0,dW]
   simp
theorem AF {c:Con}(g:Int→Int)(hck: ∀k∈c.coefs,CoefOk k)(hop:0≤c.op∧c.op≤2)(hr:aG c.rhs≤4611686018427387904):dt (bQ c).op (dC (bQ c).vars (bQ c).coefs g) (bQ c).rhs= !dt c.op (dC c.vars c.coefs g) c.rhs:=by
 have har:aG c.rhs=max c.rhs (-c.rhs):=rfl
 have hopc:c.op=0∨c.op=1∨c.op=2:=by omega
 rcases hopc with h0|h0|h0
 ·have en:bQ c= { c with coefs:=aA c.coefs,rhs:=wr (wr (0-c.rhs)-1) }:=by unfold bQ;rw[if_pos h0]
  have e1:wr (0-c.rhs)= -c.rhs:=by rw[wr,ae (by omega) (by omega)];omega
  have e2:wr (wr (0-c.rhs)-1)= -c.rhs-1:=by rw[e1,wr,ae (by omega) (by omega)]
  rw[en]
  simp only[dt,h0,if_true,e2,mV g hck]
  by_cases hh:dC c.vars c.coefs g≤c.rhs
  ·rw[decide_eq_true hh,decide_eq_false (by omega)];rfl
  ·rw[decide_eq_false hh,decide_eq_true (by omega)];rfl
 ·have en:bQ c= { c with op:=2 }:=by unfold bQ;rw[if_neg (by omega),if_pos h0]
  rw[en]
  simp[dt,h0]
 ·have en:bQ c= { c with op:=1 }:=by unfold bQ;rw[if_neg (by omega),if_neg (by omega),if_pos h0]
  rw[en]
  simp[dt,h0]
theorem mU {a b:aa}{vars coefs:List Int}(h: ∀u∈vars,domAt a u=domAt b u):ac a vars coefs=ac b vars coefs:=
 Ds fun p hp=>by rw[h _ (DP hp).1]
theorem zc {n:Nat}{a b:aa}{vars coefs:List Int}{rhs:Int}(hc:SumC n vars coefs rhs)(ga:GoodD n a)(gb:GoodD n b)(h:leD a b):bi (ac b vars coefs)≤bi (ac a vars coefs)∧fO (ac a vars coefs)≤fO (ac b vars coefs):=by
 have low: ∀ks:List Int,bi (ac b vars ks)≤bi (ac a vars ks):=fun ks=>by
  rw[eW,eW]
  refine(eH fun p hp=> ?_).1
  have hv:=hc.vin _ (DP hp).1
  have hm:domAt a p.1∈a:=ah (by rw[ga.len];exact hv.2)
  exact qO (ga.few.fine _ hm).ok (gb.few.fine _ (ah (by rw[gb.len];exact hv.2))).ok (fun e=>ga.some' (e▸hm)) (fun x hx=>h.2 p.1 x hv.1 hx) p.2
 have h2:=low (aA coefs)
 rw[o3 hc.ck,o3 hc.ck]at h2
 exact⟨low coefs,by omega⟩
theorem xp {n:Nat}{a b:aa}{c:Con}(hc:LinC n c)(ga:GoodD n a)(gb:GoodD n b)(h:leD a b)(hs:soW (endsW b c.vars c.coefs) c=true):soW (endsW a c.vars c.coefs) c=true:=by
 obtain⟨h1,h2⟩:=zc hc.sum ga gb h
 have hle:bi (ac a c.vars c.coefs)≤fO (ac a c.vars c.coefs):=(kU (dn (hc.sum.whole ga).fine) (eT (hc.sum.whole ga))).2.1
 rw[pC (hc.sum.whole gb)]at hs
 rw[pC (hc.sum.whole ga)]
 unfold soW at hs⊢
 simp only[Fs,if_false]at hs⊢
 split
 ·rename_i h0
  rw[if_pos h0]at hs
  exact decide_eq_true (by have:=of_decide_eq_true hs;omega)
 ·rename_i h0
  rw[if_neg h0]at hs
  split
  ·rename_i h3
   rw[if_pos h3]at hs
   simp only[DA,decide_eq_true_eq]at hs⊢
   omega
  ·rename_i h3
   rw[if_neg h3]at hs
   simp only[EW,decide_eq_true_eq]at hs⊢
   omega
theorem qW {n:Nat}{c:Con}(hc:LinC n c){d:aa}(gd:GoodD n d)(hs:soW (endsW d c.vars c.coefs) c=true):gO c d=some d:=by
 obtain⟨R,N,N',h1,h2,h3⟩:=xI (hc.ok gd)
 obtain⟨M,hM⟩:=gN (hc.ok gd)
 have e:=xH hM h1
 rw[e]
 exact Av (hc.ok gd) gd.some' h1 h3 hs
noncomputable def oJ (c:Con)(d:aa):Option aa:=if truthR (domAt d c.b)=true then tH d c (gO (bN c) d) (gO (bQ (bN c)) d)else some d
theorem gZ {x:List (Int×Int)}(h:az x):truthR x=true↔∀v∈vals x,0≤v∧v≤1:=by
 constructor
 ·intro ht v hv
  obtain⟨r,hr,h1,h2⟩:=aU.1 hv
  have:=List.all_eq_true.1 ht r hr
  simp at this
  omega
 ·intro hv
  refine List.all_eq_true.2 fun r hr=> ?_
  have h0:=h.1 r hr
  have h1:=hv r.1 (aU.2 ⟨r,hr,Dn _,h0⟩)
  have h2:=hv r.2 (aU.2 ⟨r,hr,h0,Dn _⟩)
  simp
  omega
theorem GoodD.at_ {n:Nat}{d:aa}(h:GoodD n d){v:Int}(hv:v.toNat<n):az (domAt d v)∧domAt d v≠[]:=by
 have hm:domAt d v∈d:=ah (by rw[h.len];exact hv)
 exact⟨(h.few.fine _ hm).ok,fun e=>h.some' (e▸hm)⟩
theorem nW {d:aa}{b v:Int}{x:List (Int×Int)}(hb:0≤b)(hl:b.toNat<d.length)(hv:0≤v):domAt (d.set b.toNat x) v=if v=b then x else domAt d v:=by
 unfold domAt
 rw[D0]
 split
 ·rename_i e;subst e;rw[DX hl];rfl
 ·rename_i e;rw[DM (by omega),←D0]
theorem qp {d:aa}{b:Int}(hl:b.toNat<d.length):d.set b.toNat (domAt d b)=d:=by
 refine EM fun i=> ?_
 by_cases e:b.toNat=i
 ·subst e;rw[DX hl,ao hl]
 ·rw[DM e]
theorem d4 {n:Nat}{d:aa}{b w:Int}(gd:GoodD n d)(hb:0≤b∧b.toNat<n){out:aa}(he:dE d b w=some out):GoodD n out∧leD out d∧(∀v,0≤v→v≠b→domAt out v=domAt d v)∧(∀x,x∈vals (domAt out b)↔x∈vals (domAt d b)∧x=w):=by
 have hbl:b.toNat<d.length:=by rw[gd.len];exact hb.2
 obtain⟨hok,hne⟩:=gd.at_ hb.2
 unfold dE at he
 split at he
 ·cases he
 ·rename_i hx
  obtain rfl:=D2 he
  obtain⟨c1,c2⟩:=bR hok w w
  generalize domCut (domAt d b) w w=x at*
  have hsub:Sub (d.set b.toNat x) d:=kW fun y hy v hv=>by
   rw[ao hbl]at hy
   exact D2 hy▸((c2 v).1 hv).1
  have hfx:Fine x:=(gd.few.fine _ (ah hbl)).cut c1 fun v hv=>((c2 v).1 hv).1
  obtain⟨g1,g2⟩:=GoodD.of_sub gd hsub (ik gd.few.fine hfx) (fun hm=>hx ((dK hbl gd.some').1 hm))
  refine⟨g1,g2,fun v h0 hv=>by rw[nW hb.1 hbl h0,if_neg hv],fun y=> ?_⟩
  rw[nW hb.1 hbl hb.1,if_pos rfl,c2]
  constructor
  ·rintro⟨h1,h2,h3⟩;exact⟨h1,by omega⟩
  ·rintro⟨h1,rfl⟩;exact⟨h1,Dn _,Dn _⟩
theorem q6 {n:Nat}{d:aa}{b w:Int}(gd:GoodD n d)(hb:0≤b∧b.toNat<n)(hw:w∈vals (domAt d b)): ∃out,dE d b w=some out:=by
 obtain⟨hok,hne⟩:=gd.at_ hb.2
 unfold dE
 rw[if_neg]
 ·exact⟨_,rfl⟩
 ·intro e
  have:=((bR hok w w).2 w).2 ⟨hw,Dn _,Dn _⟩
  rw[e]at this;cases this
theorem lL {n:Nat}{d:aa}{b w:Int}(gd:GoodD n d)(hb:0≤b∧b.toNat<n){out:aa}(he:dE d b w=some out):w∈vals (domAt d b):=by
 obtain⟨g1,g2,g3,g4⟩:=d4 gd hb he
 obtain⟨x,hx⟩:=g1.ne hb.2
 obtain⟨h1,rfl⟩:=(g4 x).1 hx
 exact h1
theorem dO {n:Nat}{d:aa}{b w:Int}(gd:GoodD n d)(hb:0≤b∧b.toNat<n):dE d b w=some d↔vals (domAt d b)=[w]:=by
 obtain⟨hok,hne⟩:=gd.at_ hb.2
 constructor
 ·intro he
  obtain⟨g1,g2,g3,g4⟩:=d4 gd hb he
  refine dG (aF hok) (EI _ _) fun x=> ?_
  rw[g4 x,Dm]
  exact⟨fun h=>h.2,fun h=>⟨h▸lL gd hb he,h⟩⟩
 ·intro hv
  obtain⟨out,ho⟩:=q6 gd hb (w:=w) (by rw[hv];exact .head _)
  obtain⟨g1,g2,g3,g4⟩:=d4 gd hb ho
  rw[ho]
  congr 1
  refine jk g1 gd fun v x h0=> ?_
  by_cases e:v=b
  ·subst e
   rw[g4 x,hv,Dm]
   exact⟨fun h=>h.1,fun h=>⟨h,h⟩⟩
  ·rw[g3 v h0 e]
theorem dh {x:List (Int×Int)}{v:Int}:hasV x v=true↔v∈vals x:=by
 unfold hasV
 rw[El,aU]
 simp
structure ReifC (n:Nat)(c:Con):Prop where
 yes:LinC n (bN c)
 no:LinC n (bQ (bN c))
 b:0≤c.b∧c.b.toNat<n
 apart:c.b∉c.vars
 small:aG c.rhs≤4611686018427387904
theorem Am (c:Con):(bQ c).vars=c.vars:=by
 unfold bQ
 split
 ·rfl
 ·split
  ·rfl
  ·split<;>rfl
theorem zW {n:Nat}{c:Con}(h:ReifC n c){d:aa}(gd:GoodD n d)(hy:yesW d c=true)(hn:noW d c=true):False:=by
 have hdl:0<d.length:=by rw[gd.len];have:=h.b;omega
 obtain⟨a,ha⟩:=yf gd.few.fine gd.some' hdl
 have h1:=oq (h.yes.ok gd).fine (by have:=h.yes.sum.big;have:=bE (bN c).rhs;omega) h.yes.op ha hy
 have h2:=yJ (h.yes.ok gd) ha hn
 rw[h1]at h2;cases h2
theorem yr {n:Nat}{c:Con}(h:ReifC n c):StepOK n (c.vars++[c.b]) (fun g=>(0≤g c.b∧g c.b≤1)→(dt c.op (dC c.vars c.coefs g) c.rhs=true∧g c.b=1)∨(dt c.op (dC c.vars c.coefs g) c.rhs=false∧g c.b=0)) (oJ c):=by
 have sy:=lI h.yes
 have sn:=lI h.no
 have hvn:(bQ (bN c)).vars=c.vars:=Am (bN c)
 rw[hvn]at sn
 have hb:=h.b
 have tr: ∀d,GoodD n d→(truthR (domAt d c.b)=true↔∀v∈vals (domAt d c.b),0≤v∧v≤1):=fun d gd=>gZ (gd.at_ hb.2).1
 have ym: ∀a b,GoodD n a→GoodD n b→leD a b→yesW b c=true→yesW a c=true:=fun a b ga gb hle hy=>xp (c:=bN c) h.yes ga gb hle hy
 have nm: ∀a b,GoodD n a→GoodD n b→leD a b→noW b c=true→noW a c=true:=fun a b ga gb hle hy=>xp (c:=bQ (bN c)) h.no ga gb hle hy
 have yst: ∀a,GoodD n a→yesW a c=true→gO (bN c) a=some a:=fun a ga hy=>qW (c:=bN c) h.yes ga hy
 have nst: ∀a,GoodD n a→noW a c=true→gO (bQ (bN c)) a=some a:=fun a ga hy=>qW (c:=bQ (bN c)) h.no ga hy
 have hf: ∀d,GoodD n d→oJ c d=if truthR (domAt d c.b)=true then(if yesW d c=true then dE d c.b 1 else if noW d c=true then dE d c.b 0 else if hasV (domAt d c.b) 0=false then gO (bN c) d else if hasV (domAt d c.b) 1=false then gO (bQ (bN c)) d else some d)else some d:=fun d gd=>by
  unfold oJ tH
  rw[if_neg gd.some']
 have hin: ∀u∈c.vars++[c.b],0≤u∧u.toNat<n:=fun u hu=>by
  rcases List.mem_append.1 hu with hu|hu
  ·exact sy.in' u hu
  ·rw[List.mem_singleton.1 hu];exact hb
 refine StepOK.congr (f:=fun d=>if truthR (domAt d c.b)=true then(if yesW d c=true then dE d c.b 1 else if noW d c=true then dE d c.b 0 else if hasV (domAt d c.b) 0=false then gO (bN c) d else if hasV (domAt d c.b) 1=false then gO (bQ (bN c)) d else some d)else some d) ⟨⟨fun a a' ga he=> ?_,fun a a' b ga gb hle he=> ?_⟩,fun a b ga gb ha hab=> ?_,fun a out ga he v h0 hv=> ?_,fun e ge g he=> ?_,hin⟩ hf
 ·split at he
  ·split at he
   ·obtain⟨g1,g2,_⟩:=d4 ga hb he
    exact⟨g1,g2⟩
   ·split at he
    ·obtain⟨g1,g2,_⟩:=d4 ga hb he
     exact⟨g1,g2⟩
    ·split at he
     ·exact sy.takes.less a a' ga he
     ·split at he
      ·exact sn.takes.less a a' ga he
      ·obtain rfl:=D2 he
       exact⟨ga,(aT n).refl a⟩
  ·obtain rfl:=D2 he
   exact⟨ga,(aT n).refl a⟩
 ·
  have hless:leD a' a:=by
   split at he
   ·split at he
    ·exact(d4 ga hb he).2.1
    ·split at he
     ·exact(d4 ga hb he).2.1
     ·split at he
      ·exact(sy.takes.less a a' ga he).2
      ·split at he
       ·exact(sn.takes.less a a' ga he).2
       ·exact D2 he▸(aT n).refl a
   ·exact D2 he▸(aT n).refl a
  have stay: ∃b',some b=some b'∧leD a' b':=⟨b,rfl,(aT n).trans _ _ _ hless hle⟩
  by_cases htb:truthR (domAt b c.b)=true
  ·have hta:truthR (domAt a c.b)=true:=(tr a ga).2 fun v hv=>(tr b gb).1 htb v (hle.2 _ v hb.1 hv)
   rw[if_pos hta]at he
   rw[if_pos htb]
   have kmono: ∀w,dE a c.b w=some a'→∃b',dE b c.b w=some b'∧leD a' b':=fun w hk=>by
    obtain⟨g1,g2,g3,g4⟩:=d4 ga hb hk
    obtain⟨b',hb'⟩:=q6 gb hb (hle.2 _ w hb.1 (lL ga hb hk))
    obtain⟨k1,k2,k3,k4⟩:=d4 gb hb hb'
    refine⟨b',hb',by rw[g1.len,k1.len],fun v x h0 hx=> ?_⟩
    by_cases e:v=c.b
    ·subst e
     obtain⟨h1,h2⟩:=(g4 x).1 hx
     exact(k4 x).2 ⟨hle.2 _ x h0 h1,h2⟩
    ·rw[g3 v h0 e]at hx
     rw[k3 v h0 e]
     exact hle.2 v x h0 hx
   by_cases hyb:yesW b c=true
   ·rw[if_pos hyb]
    rw[if_pos (ym a b ga gb hle hyb)]at he
    exact kmono 1 he
   ·rw[if_neg hyb]
    by_cases hnb:noW b c=true
    ·rw[if_pos hnb]
     have hna:=nm a b ga gb hle hnb
     rw[if_neg (fun hy=>zW h ga hy hna),if_pos hna]at he
     exact kmono 0 he
    ·rw[if_neg hnb]
     by_cases h0b:hasV (domAt b c.b) 0=false
     ·rw[if_pos h0b]
      have h0a:hasV (domAt a c.b) 0=false:=by
       cases hh:hasV (domAt a c.b) 0 with
       |false=>rfl
       |true=>rw[dh.2 (hle.2 _ 0 hb.1 (dh.1 hh))]at h0b;cases h0b
      have hle':a'=a∨gO (bN c) a=some a':=by
       by_cases hya:yesW a c=true
       ·rw[if_pos hya]at he
        refine .inl ?_
        have hv:vals (domAt a c.b)=[1]:=by
         obtain⟨x,hx⟩:=ga.ne hb.2
         have hone: ∀y∈vals (domAt a c.b),y=1:=fun y hy=>by
          have h1:=(tr a ga).1 hta y hy
          have h2:y≠0:=fun e=>by rw[e]at hy;rw[dh.2 hy]at h0a;cases h0a
          omega
         exact dG (aF (ga.at_ hb.2).1) (EI _ _) fun y=>⟨fun hy=>List.mem_singleton.2 (hone y hy),fun hy=>by rw[List.mem_singleton.1 hy,←hone x hx];exact hx⟩
        rw[(dO ga hb).2 hv]at he
        exact(D2 he).symm
       ·rw[if_neg hya]at he
        by_cases hna:noW a c=true
        ·rw[if_pos hna]at he
         have:=lL ga hb he
         rw[dh.2 this]at h0a;cases h0a
        ·rw[if_neg hna,if_pos h0a]at he
         exact .inr he
      rcases hle' with e|hl
      ·subst e
       by_cases hya:yesW a' c=true
       ·exact sy.takes.mono a' a' b ga gb hle (yst a' ga hya)
       ·rw[if_neg hya]at he
        by_cases hna:noW a' c=true
        ·rw[if_pos hna]at he
         have:=lL ga hb he
         rw[dh.2 this]at h0a;cases h0a
        ·rw[if_neg hna,if_pos h0a]at he
         exact sy.takes.mono a' a' b ga gb hle he
      ·exact sy.takes.mono a a' b ga gb hle hl
     ·rw[if_neg h0b]
      by_cases h1b:hasV (domAt b c.b) 1=false
      ·rw[if_pos h1b]
       have h1a:hasV (domAt a c.b) 1=false:=by
        cases hh:hasV (domAt a c.b) 1 with
        |false=>rfl
        |true=>rw[dh.2 (hle.2 _ 1 hb.1 (dh.1 hh))]at h1b;cases h1b
       have hone: ∀y∈vals (domAt a c.b),y=0:=fun y hy=>by
        have h1:=(tr a ga).1 hta y hy
        have h2:y≠1:=fun e=>by rw[e]at hy;rw[dh.2 hy]at h1a;cases h1a
        omega
       have hv:vals (domAt a c.b)=[0]:=by
        obtain⟨x,hx⟩:=ga.ne hb.2
        exact dG (aF (ga.at_ hb.2).1) (EI _ _) fun y=>⟨fun hy=>List.mem_singleton.2 (hone y hy),fun hy=>by rw[List.mem_singleton.1 hy,←hone x hx];exact hx⟩
       have h0a: ¬hasV (domAt a c.b) 0=false:=fun e=>by
        have:=dh (x:=domAt a c.b) (v:=0)
        rw[e,hv]at this
        simp at this
       by_cases hya:yesW a c=true
       ·rw[if_pos hya]at he
        have:=lL ga hb he
        rw[dh.2 this]at h1a;cases h1a
       ·rw[if_neg hya]at he
        by_cases hna:noW a c=true
        ·rw[if_pos hna,(dO ga hb).2 hv]at he
         obtain rfl:=D2 he
         exact sn.takes.mono a a b ga gb hle (nst a ga hna)
        ·rw[if_neg hna,if_neg h0a,if_pos h1a]at he
         exact sn.takes.mono a a' b ga gb hle he
      ·rw[if_neg h1b]
       exact stay
  ·rw[if_neg htb]
   exact stay
 ·
  have hB:=hab c.b (DR _ (.head _))
  have hV: ∀u∈c.vars,domAt a u=domAt b u:=fun u hu=>hab u (DN _ hu)
  have ey:yesW b c=yesW a c:=by unfold yesW endsW;rw[mU hV]
  have en:noW b c=noW a c:=by unfold noW endsW;rw[hvn,mU hV]
  rw[ey,en,←hB]
  split
  ·rename_i ht
   rw[if_pos ht]at ha
   split
   ·rename_i hy
    rw[if_pos hy,dO ga hb]at ha
    rw[dO gb hb,←hB];exact ha
   ·rename_i hy
    rw[if_neg hy]at ha
    split
    ·rename_i hn
     rw[if_pos hn,dO ga hb]at ha
     rw[dO gb hb,←hB];exact ha
    ·rename_i hn
     rw[if_neg hn]at ha
     split
     ·rename_i h0
      rw[if_pos h0]at ha
      exact sy.stays a b ga gb ha hV
     ·rename_i h0
      rw[if_neg h0]at ha
      split
      ·rename_i h1
       rw[if_pos h1]at ha
       exact sn.stays a b ga gb ha hV
      ·rfl
  ·rfl
 ·have hv1:v∉c.vars:=fun hm=>hv (DN _ hm)
  have hv2:v≠c.b:=fun e=>hv (DR _ (e▸.head _))
  split at he
  ·split at he
   ·exact(d4 ga hb he).2.2.1 v h0 hv2
   ·split at he
    ·exact(d4 ga hb he).2.2.1 v h0 hv2
    ·split at he
     ·exact sy.off a out ga he v h0 hv1
     ·split at he
      ·exact sn.off a out ga he v h0 hv1
      ·obtain rfl:=D2 he;rfl
  ·obtain rfl:=D2 he;rfl
 ·
  have hB:=he c.b (DR _ (.head _))
  have hV: ∀u∈c.vars,vals (domAt e u)=[g u]:=fun u hu=>he u (DN _ hu)
  have py:=sy.point e ge g hV
  have pn:=sn.point e ge g hV
  have hhn:=AF (c:=bN c) g h.yes.sum.ck h.yes.op h.small
  rw[hvn]at hhn
  have htr:=tr e ge
  rw[hB]at htr
  simp only[Dm,forall_eq]at htr
  by_cases ht:truthR (domAt e c.b)=true
  ·have h01:=htr.1 ht
   rw[if_pos ht]
   have hsy:yesW e c=true→dt c.op (dC c.vars c.coefs g) c.rhs=true:=fun hy=>(py.1 (yst e ge hy))
   have hsn:noW e c=true→dt c.op (dC c.vars c.coefs g) c.rhs=false:=fun hn=>by
    have:=pn.1 (nst e ge hn)
    rw[hhn]at this
    have:=E9 _▸this
    exact this
   have e0:hasV (domAt e c.b) 0=false↔g c.b=1:=by
    have:=dh (x:=domAt e c.b) (v:=0)
    rw[hB,Dm]at this
    rw[←G6,this]
    omega
   have e1:hasV (domAt e c.b) 1=false↔g c.b=0:=by
    have:=dh (x:=domAt e c.b) (v:=1)
    rw[hB,Dm]at this
    rw[←G6,this]
    omega
   by_cases hy:yesW e c=true
   ·rw[if_pos hy,dO ge hb,hB,hsy hy]
    simp
    omega
   ·rw[if_neg hy]
    by_cases hn:noW e c=true
    ·rw[if_pos hn,dO ge hb,hB,hsn hn]
     simp
     omega
    ·rw[if_neg hn]
     by_cases h1:g c.b=1
     ·rw[if_pos (e0.2 h1),py]
      simp[h1]
      exact rfl
     ·have h2:g c.b=0:=by omega
      rw[if_neg (fun hh=>h1 (e0.1 hh)),if_pos (e1.2 h2),pn,hhn]
      simp[h2]
      exact rfl
  ·rw[if_neg ht]
   have: ¬(0≤g c.b∧g c.b≤1):=fun hh=>ht (htr.2 hh)
   simp[this]
theorem StepOK.guard {n:Nat}{us:List Int}{P Q:(Int→Int)→Prop}{f:aa→Option aa}{C:aa→Bool}(h:StepOK n us P f)(hm: ∀a b,GoodD n a→GoodD n b→leD a b→C b=true→C a=true)
  (hl: ∀a b,GoodD n a→GoodD n b→(∀u∈us,domAt a u=domAt b u)→C a=C b) (hp: ∀e,GoodD n e→∀g:Int→Int,(∀u∈us,vals (domAt e u)=[g u])→(C e=true↔Q g)):StepOK n us (fun g=>Q g→P g) (fun d=>if C d=true then f d else some d):=by
 refine⟨⟨fun a a' ga he=> ?_,fun a a' b ga gb hle he=> ?_⟩,fun a b ga gb ha hab=> ?_,fun a out ga he v h0 hv=> ?_,fun e ge g he=> ?_,h.in'⟩
 ·split at he
  ·exact h.takes.less a a' ga he
  ·obtain rfl:=D2 he
   exact⟨ga,(aT n).refl a⟩
 ·by_cases hc:C b=true
  ·rw[if_pos (hm a b ga gb hle hc)]at he
   rw[if_pos hc]
   exact h.takes.mono a a' b ga gb hle he
  ·rw[if_neg hc]
   refine⟨b,rfl,(aT n).trans _ _ _ ?_ hle⟩
   split at he
   ·exact(h.takes.less a a' ga he).2
   ·exact D2 he▸(aT n).refl a
 ·rw[←hl a b ga gb hab]
  split
  ·rename_i hc
   rw[if_pos hc]at ha
   exact h.stays a b ga gb ha hab
  ·rfl
 ·split at he
  ·exact h.off a out ga he v h0 hv
  ·obtain rfl:=D2 he;rfl
 ·have hq:=hp e ge g he
  by_cases hc:C e=true
  ·rw[if_pos hc,h.point e ge g he]
   exact⟨fun h _=>h,fun h=>h (hq.1 hc)⟩
  ·rw[if_neg hc]
   exact⟨fun _ h=>absurd (hq.2 h) hc,fun _=>rfl⟩
def pY (a b:Int)(d:aa):Option aa:=
 if a=b then some d else
 if domCut (domAt d a) (-1048576) (aO (domAt d b))=[]∨domCut (domAt d b) (ay (domAt d a)) 1048576=[]then none else
 some ((d.set a.toNat (domCut (domAt d a) (-1048576) (aO (domAt d b)))).set b.toNat (domCut (domAt d b) (ay (domAt d a)) 1048576))
theorem BC {n:Nat}{us:List Int}{P:(Int→Int)→Prop}(hp: ∀g,P g)(hin: ∀u∈us,0≤u∧u.toNat<n):StepOK n us P some:=
 ⟨⟨fun a a' ga he=>by obtain rfl:=D2 he;exact⟨ga,(aT n).refl a⟩,fun a a' b ga gb hle he=>by obtain rfl:=D2 he;exact⟨b,rfl,hle⟩⟩,fun _ _ _ _ _ _=>rfl,fun a out ga he v _ _=>by obtain rfl:=D2 he;rfl,fun _ _ g _=>⟨fun _=>hp g,fun _=>rfl⟩,hin⟩
theorem CB {n:Nat}{a b:Int}(hab:a≠b)(ha:0≤a∧a.toNat<n)(hb:0≤b∧b.toNat<n):SuppS n [a,b] (fun l=>decide (l.getD 0 0≤l.getD 1 0)) (pY a b):=by
 have two: ∀g:Int→Int,(decide ((([a,b]:List Int).map g).getD 0 0≤(([a,b]:List Int).map g).getD 1 0)=true)↔g a≤g b:=fun g=>by simp
 have ends: ∀d,GoodD n d→∀v:Int,0≤v∧v.toNat<n→az (domAt d v)∧ay (domAt d v)∈vals (domAt d v)∧aO (domAt d v)∈vals (domAt d v)∧∀x∈vals (domAt d v),-1048576≤x∧x≤1048576∧ay (domAt d v)≤x∧x≤aO (domAt d v):=fun d gd v hv=>by
  obtain⟨h1,h2⟩:=gd.at_ hv.2
  have h3:=(gd.few.fine _ (ah (v:=v) (by rw[gd.len];exact hv.2))).val
  exact⟨h1,fD h1 h2,pd h1 h2,fun x hx=>⟨(h3 x hx).1,(h3 x hx).2,pc h1 hx,nS h1 hx⟩⟩
 have pick: ∀(P:Int→Prop) (x y:Int),∃g:Int→Int,g a=x∧g b=y:=fun _ x y=>⟨fun u=>if u=a then x else y,if_pos rfl,if_neg (Ne.symm hab)⟩
 have hin: ∀u∈[a,b],0≤u∧u.toNat<n:=fun u hu=>by
  rcases List.mem_cons.1 hu with rfl|hu
  ·exact ha
  ·rw[List.mem_singleton.1 hu];exact hb
 refine⟨fun d out gd he=> ?_,fun d gd he g hg=> ?_,hin,by simp⟩
 ·obtain⟨oa,la,ma,va⟩:=ends d gd a ha
  obtain⟨ob,lb,mb,vb⟩:=ends d gd b hb
  have hal:a.toNat<d.length:=by rw[gd.len];exact ha.2
  have hbl:b.toNat<d.length:=by rw[gd.len];exact hb.2
  unfold pY at he
  rw[if_neg hab]at he
  split at he
  ·cases he
  ·rename_i hne
   obtain rfl:=D2 he
   obtain⟨x1,x2⟩:=bR oa (-1048576) (aO (domAt d b))
   obtain⟨y1,y2⟩:=bR ob (ay (domAt d a)) 1048576
   generalize domCut (domAt d a) (-1048576) (aO (domAt d b))=x at*
   generalize domCut (domAt d b) (ay (domAt d a)) 1048576=y at*
   have hd1: ∀v,0≤v→domAt ((d.set a.toNat x).set b.toNat y) v=if v=b then y else if v=a then x else domAt d v:=fun v h0=>by
    rw[nW hb.1 (by rw[Dk];exact hbl) h0]
    split
    ·rfl
    ·rw[nW ha.1 hal h0]
   have s1:Sub (d.set a.toNat x) d:=kW fun z hz v hv=>by
    rw[ao hal]at hz
    exact D2 hz▸((x2 v).1 hv).1
   have s2:Sub ((d.set a.toNat x).set b.toNat y) (d.set a.toNat x):=kW fun z hz v hv=>by
    rw[DM (by omega),ao hbl]at hz
    exact D2 hz▸((y2 v).1 hv).1
   have fx:Fine x:=(gd.few.fine _ (ah hal)).cut x1 fun v hv=>((x2 v).1 hv).1
   have fy:Fine y:=(gd.few.fine _ (ah hbl)).cut y1 fun v hv=>((y2 v).1 hv).1
   have hno: []∉(d.set a.toNat x).set b.toNat y:=fun hm=>by
    have h1: []∉d.set a.toNat x:=fun hm=>hne (.inl ((dK hal gd.some').1 hm))
    exact hne (.inr ((dK (by rw[Dk];exact hbl) h1).1 hm))
   refine⟨(GoodD.of_sub gd (Sub.trans s2 s1) (ik (ik gd.few.fine fx) fy) hno).1,fun v hv z=> ?_,fun v h0 hv=> ?_⟩
   ·rcases List.mem_cons.1 hv with rfl|hv
    ·rw[hd1 v ha.1,if_neg hab,if_pos rfl,x2]
     constructor
     ·rintro⟨h1,_,h2⟩
      obtain⟨g,g1,g2⟩:=pick (fun _=>True) z (aO (domAt d b))
      refine⟨g,fun u hu=> ?_,(two g).2 (by omega),g1⟩
      rcases List.mem_cons.1 hu with rfl|hu
      ·rw[g1];exact h1
      ·rw[List.mem_singleton.1 hu,g2];exact mb
     ·rintro⟨g,g1,g2,rfl⟩
      have g2:=(two g).1 g2
      have h1:=g1 v (.head _)
      have h2:=g1 b (.tail _ (.head _))
      exact⟨h1,(va _ h1).1,by have:=vb _ h2;omega⟩
    ·obtain rfl:=List.mem_singleton.1 hv
     rw[hd1 v hb.1,if_pos rfl,y2]
     constructor
     ·rintro⟨h1,h2,_⟩
      obtain⟨g,g1,g2⟩:=pick (fun _=>True) (ay (domAt d a)) z
      refine⟨g,fun u hu=> ?_,(two g).2 (by omega),g2⟩
      rcases List.mem_cons.1 hu with rfl|hu
      ·rw[g1];exact la
      ·rw[List.mem_singleton.1 hu,g2];exact h1
     ·rintro⟨g,g1,g2,rfl⟩
      have g2:=(two g).1 g2
      have h1:=g1 a (.head _)
      have h2:=g1 v (.tail _ (.head _))
      exact⟨h2,by have:=va _ h1;omega,(vb _ h2).2.1⟩
   ·have n1:v≠b:=fun e=>hv (by rw[e];exact .tail _ (.head _))
    have n2:v≠a:=fun e=>hv (by rw[e];exact .head _)
    rw[hd1 v h0,if_neg n1,if_neg n2]
 ·refine decide_eq_false fun hle=> ?_
  have hle:=(two g).1 (decide_eq_true hle)
  have h1:=hg a (.head _)
  have h2:=hg b (.tail _ (.head _))
  obtain⟨oa,la,ma,va⟩:=ends d gd a ha
  obtain⟨ob,lb,mb,vb⟩:=ends d gd b hb
  have v1:=va _ h1
  have v2:=vb _ h2
  have e1:=((bR oa (-1048576) (aO (domAt d b))).2 (g a)).2 ⟨h1,by omega,by omega⟩
  have e2:=((bR ob (ay (domAt d a)) 1048576).2 (g b)).2 ⟨h2,by omega,by omega⟩
  unfold pY at he
  rw[if_neg hab]at he
  split at he
  ·rename_i hh
   rcases hh with hh|hh
   ·rw[hh]at e1;cases e1
   ·rw[hh]at e2;cases e2
  ·cases he
theorem rz {n:Nat}{a b:Int}(ha:0≤a∧a.toNat<n)(hb:0≤b∧b.toNat<n):StepOK n [a,b] (fun g=>g a≤g b) (pY a b):=by
 by_cases hab:a=b
 ·refine StepOK.congr (BC (fun g=>by rw[hab];exact Dn _) fun u hu=> ?_) fun d _=>by unfold pY;rw[if_pos hab]
  rcases List.mem_cons.1 hu with rfl|hu
  ·exact ha
  ·rw[List.mem_singleton.1 hu];exact hb
 ·exact(CB hab ha hb).step.iff fun g=>by simp
def mM (c:Con)(k:Nat)(d:aa):Bool:=(List.range k).all (dX d c)
def u4 (c:Con)(k:Nat)(d:aa):Option aa:=if mM c k d=true then pY (varAt c k) (varAt c (halfOf c+k)) d else some d
structure LexC (n:Nat)(c:Con):Prop where
 vin: ∀v∈c.vars,0≤v∧v.toNat<n
theorem ja {n:Nat}{c:Con}(h:LexC n c){d:aa}(gd:GoodD n d){j:Nat}(hj:j<halfOf c):dX d c j=true↔varAt c j=varAt c (halfOf c+j)∨∃x,vals (domAt d (varAt c j))=[x]∧vals (domAt d (varAt c (halfOf c+j)))=[x]:=by
 have hh:=jG c
 have o1:=gd.at_ (h.vin _ (aK (c:=c) (k:=j) (by omega))).2
 have o2:=gd.at_ (h.vin _ (aK (c:=c) (k:=halfOf c+j) (by omega))).2
 unfold dX
 rw[wE o1.1 o2.1]
 refine or_congr_right ⟨?_,?_⟩
 ·rintro⟨h1,h2⟩
  obtain⟨x,hx⟩:=List.length_eq_one_iff.1 h1
  exact⟨x,hx,by rw[←h2,hx]⟩
 ·rintro⟨x,h1,h2⟩
  exact⟨by rw[h1];rfl,iB o1.1 o2.1 (by rw[h1,h2])⟩
theorem ry {n:Nat}{c:Con}(h:LexC n c){k:Nat}(hk:k<halfOf c):StepOK n c.vars (fun g=>(∀j,j<k→g (varAt c j)=g (varAt c (halfOf c+j)))→g (varAt c k)≤g (varAt c (halfOf c+k))) (u4 c k):=by
 have hh:=jG c
 have m1: ∀j,j<halfOf c→varAt c j∈c.vars∧varAt c (halfOf c+j)∈c.vars:=fun j hj=>⟨aK (by omega),aK (by omega)⟩
 obtain⟨ha,hb⟩:=m1 k hk
 refine StepOK.guard (C:=mM c k) ((rz (h.vin _ ha) (h.vin _ hb)).wide (fun u hu=> ?_) h.vin) (fun a b ga gb hle hc=> ?_) (fun a b ga gb hab=> ?_) (fun e ge g he=> ?_)
 ·rcases List.mem_cons.1 hu with rfl|hu
  ·exact ha
  ·rw[List.mem_singleton.1 hu];exact hb
 ·refine List.all_eq_true.2 fun j hj=> ?_
  have hj':=List.mem_range.1 hj
  have hjh:j<halfOf c:=by omega
  obtain⟨v1,v2⟩:=m1 j hjh
  have:=(ja h gb hjh).1 (List.all_eq_true.1 hc j hj)
  refine(ja h ga hjh).2 (this.imp id ?_)
  rintro⟨x,h1,h2⟩
  have key: ∀v∈c.vars,vals (domAt b v)=[x]→vals (domAt a v)=[x]:=fun v hv e=>by
   have hn:=h.vin v hv
   obtain⟨y,hy⟩:=ga.ne hn.2
   have hsub: ∀z∈vals (domAt a v),z=x:=fun z hz=>by
    have:=hle.2 v z hn.1 hz
    rw[e]at this
    exact List.mem_singleton.1 this
   exact dG (aF (ga.at_ hn.2).1) (EI _ _) fun z=>⟨fun hz=>List.mem_singleton.2 (hsub z hz),fun hz=>by rw[List.mem_singleton.1 hz,←hsub y hy];exact hy⟩
  exact⟨x,key _ v1 h1,key _ v2 h2⟩
 ·unfold mM
  rw[Ed,DL,DL]
  refine forall_congr' fun j=>imp_congr_right fun hj=> ?_
  have hj':=List.mem_range.1 hj
  obtain⟨v1,v2⟩:=m1 j (by omega)
  unfold dX
  rw[hab _ v1,hab _ v2]
 ·unfold mM
  rw[DL]
  refine forall_congr' fun j=> ?_
  rw[FD]
  refine imp_congr_right fun hj=> ?_
  obtain⟨v1,v2⟩:=m1 j (by omega)
  rw[ja h ge (by omega),he _ v1,he _ v2]
  constructor
  ·rintro(e|⟨x,h1,h2⟩)
   ·rw[e]
   ·rw[(List.cons.inj h1).1,(List.cons.inj h2).1]
  ·exact fun e=> .inr ⟨_,rfl,by rw[e]⟩
theorem Ax {n:Nat}{c:Con}(h:LexC n c)(d0:aa): ∀(N:Nat) (d:aa) (R:Option aa),Come leD (GoodD n) (u4 c) (List.range (halfOf c)) d0 d→cE (dJ c) N d=some R→ep leD (GoodD n) (u4 c) (List.range (halfOf c)) d0 R:=by
 intro N
 induction N using Nat.strongRecOn with
 |_ N ih=>
  intro d R hd hR
  have hh:=jG c
  have known: ∀k,k<halfOf c→dX d c k=true→pY (varAt c k) (varAt c (halfOf c+k)) d=some d:=fun k hk hp=>by
   have v1:=h.vin _ (aK (c:=c) (k:=k) (by omega))
   have v2:=h.vin _ (aK (c:=c) (k:=halfOf c+k) (by omega))
   rcases (ja h hd.fine hk).1 hp with e|⟨x,h1,h2⟩
   ·unfold pY;rw[if_pos e]
   ·refine((rz v1 v2).point d hd.fine (fun _=>x) fun u hu=> ?_).2 (Dn _)
    rcases List.mem_cons.1 hu with rfl|hu
    ·exact h1
    ·rw[List.mem_singleton.1 hu];exact h2
  have stay: ∀k,k<halfOf c→dX d c k=true→u4 c k d=some d:=fun k hk hp=>by
   unfold u4
   rw[known k hk hp,ite_self]
  by_cases hk:placeO d c=halfOf c
  ·have hst:dJ c d= .inl (some d):=by unfold dJ;rw[if_pos hk]
   obtain rfl:=bf hR hst
   refine⟨hd,fun k hk2=> ?_⟩
   have hk2:=List.mem_range.1 hk2
   exact stay k hk2 (jZ (p:=dX d c) (h:=halfOf c) (j:=k) (by unfold placeO at hk;omega))
  ·have hkl:placeO d c<halfOf c:=by have:=mq (dX d c) (halfOf c);unfold placeO at hk⊢;omega
   have hn:dX d c (placeO d c)=false:=m8 hkl
   have hbf: ∀j,j<placeO d c→dX d c j=true:=fun j hj=>jZ hj
   have hst:dJ c d=(if domCut (domAt d (varAt c (placeO d c))) (-1048576) (aO (domAt d (varAt c (halfOf c+placeO d c))))=[]∨domCut (domAt d (varAt c (halfOf c+placeO d c))) (ay (domAt d (varAt c (placeO d c)))) 1048576=[]then .inl none else
    if domCut (domAt d (varAt c (placeO d c))) (-1048576) (aO (domAt d (varAt c (halfOf c+placeO d c))))=domAt d (varAt c (placeO d c))∧domCut (domAt d (varAt c (halfOf c+placeO d c))) (ay (domAt d (varAt c (placeO d c)))) 1048576=domAt d (varAt c (halfOf c+placeO d c))then .inl (some d)else
    .inr ((d.set (varAt c (placeO d c)).toNat (domCut (domAt d (varAt c (placeO d c))) (-1048576) (aO (domAt d (varAt c (halfOf c+placeO d c)))))).set (varAt c (halfOf c+placeO d c)).toNat (domCut (domAt d (varAt c (halfOf c+placeO d c))) (ay (domAt d (varAt c (placeO d c)))) 1048576))):=by
    unfold dJ
    rw[if_neg hk]
   generalize placeO d c=k at*
   have v1:=h.vin _ (aK (c:=c) (k:=k) (by omega))
   have v2:=h.vin _ (aK (c:=c) (k:=halfOf c+k) (by omega))
   have hab:varAt c k≠varAt c (halfOf c+k):=fun e=>by
    rw[(ja h hd.fine hkl).2 (.inl e)]at hn;cases hn
   have hah:mM c k d=true:=List.all_eq_true.2 fun j hj=>hbf j (List.mem_range.1 hj)
   have hcut:u4 c k d=pY (varAt c k) (varAt c (halfOf c+k)) d:=if_pos hah
   have htk:=(ry h hkl).takes
   unfold pY at hcut
   rw[if_neg hab]at hcut
   by_cases e1:domCut (domAt d (varAt c k)) (-1048576) (aO (domAt d (varAt c (halfOf c+k))))=[]∨domCut (domAt d (varAt c (halfOf c+k))) (ay (domAt d (varAt c k))) 1048576=[]
   ·rw[if_pos e1]at hst hcut
    obtain rfl:=bf hR hst
    exact hd.none (c:=k) (List.mem_range.2 hkl) htk hcut
   ·rw[if_neg e1]at hst hcut
    by_cases e2:domCut (domAt d (varAt c k)) (-1048576) (aO (domAt d (varAt c (halfOf c+k))))=domAt d (varAt c k)∧domCut (domAt d (varAt c (halfOf c+k))) (ay (domAt d (varAt c k))) 1048576=domAt d (varAt c (halfOf c+k))
    ·rw[if_pos e2]at hst
     obtain rfl:=bf hR hst
     refine⟨hd,fun j hj=> ?_⟩
     have hj:=List.mem_range.1 hj
     by_cases hjk:j<k
     ·exact stay j hj (hbf j hjk)
     ·by_cases e:j=k
      ·subst e
       rw[hcut,e2.1,e2.2,qp (by rw[hd.fine.len];exact v1.2),qp (by rw[hd.fine.len];exact v2.2)]
      ·have:mM c j d=false:=by
        rw[←G6]
        intro ht
        have:=List.all_eq_true.1 ht k (List.mem_range.2 (by omega))
        rw[hn]at this;cases this
       unfold u4
       rw[this];rfl
    ·rw[if_neg e2]at hst
     obtain⟨m,hm,hR2⟩:=gQ hR hst
     exact ih m hm _ R (hd.step (aT n) (c:=k) (List.mem_range.2 hkl) htk hcut) hR2
open Classical in
noncomputable def wB (c:Con)(d:aa):Option aa:=if h: ∃R:Option aa,∃N,cE (dJ c) N d=some R then h.choose else none
theorem uz {c:Con}{d:aa}{R:Option aa}{N:Nat}(h:cE (dJ c) N d=some R):R=wB c d:=by
 have hex: ∃R:Option aa,∃N,cE (dJ c) N d=some R:=⟨R,N,h⟩
 obtain⟨M,hM⟩:=hex.choose_spec
 unfold wB
 rw[dif_pos hex]
 exact ph h hM
theorem tV: ∀(xs ys:List Int),xs.length=ys.length→(dA xs ys≤0↔∀k,k<xs.length→(∀j,j<k→xs.getD j 0=ys.getD j 0)→xs.getD k 0≤ys.getD k 0)
 | [],[],_=>by simp[dA]
 | [],_::_,h=>by simp at h
 |_::_,[],h=>by simp at h
 |x::xs,y::ys,h=>by
  rw[dA]
  have ih:=tV xs ys (by simpa using h)
  by_cases h1:x<y
  ·rw[if_pos h1]
   refine⟨fun _ k hk he=> ?_,fun _=>by omega⟩
   cases k with
   |zero=>simp;omega
   |succ k=>have:=he 0 (by omega);simp at this;omega
  ·rw[if_neg h1]
   by_cases h2:y<x
   ·rw[if_pos (by omega)]
    refine⟨fun h=>by omega,fun hh=> ?_⟩
    have:=hh 0 (by simp) (fun j hj=>by omega)
    simp at this;omega
   ·rw[if_neg (by omega)]
    have e:x=y:=by omega
    subst e
    rw[ih]
    constructor
    ·intro hh k hk he
     cases k with
     |zero=>simp
     |succ k=>
      have:=hh k (by simpa using hk) fun j hj=>by simpa using he (j+1) (by omega)
      simpa using this
    ·intro hh k hk he
     have:=hh (k+1) (by simpa using hk) fun j hj=>by
      cases j with
      |zero=>simp
      |succ j=>simpa using he j (by omega)
     simpa using this
theorem Aw {n:Nat}{c:Con}(h:LexC n c)(hl:c.vars.length*8≤140737488355328)(heven:c.vars.length % 2=0):StepOK n c.vars (fun g=>dA ((c.vars.map g).take (c.vars.length / 2)) ((c.vars.map g).drop (c.vars.length / 2))≤0) (wB c):=by
 have hE: ∀d,GoodD n d→ep leD (GoodD n) (u4 c) (List.range (halfOf c)) d (wB c d):=fun d gd=>by
  obtain⟨R,N,h1,_⟩:=qx (c:=c) (d:=d) ⟨hl,fun v hv=>by rw[gd.len];exact h.vin v hv⟩ gd.few.fine
  rw[if_neg gd.some']at h1
  rw[←uz h1]
  exact Ax h d N d R (Come.refl (aT n) gd) h1
 refine(ep.step hE (fun k hk=>ry h (List.mem_range.1 hk)) h.vin).iff fun g=> ?_
 have hh:c.vars.length=halfOf c+halfOf c:=by unfold halfOf;omega
 have e:c.vars.length / 2=halfOf c:=rfl
 have x1:((c.vars.map g).take (halfOf c)).length=halfOf c:=by simp;omega
 have y1:((c.vars.map g).drop (halfOf c)).length=halfOf c:=by simp;omega
 have x2: ∀k,k<halfOf c→((c.vars.map g).take (halfOf c)).getD k 0=g (varAt c k):=fun k hk=>by
  unfold varAt
  rw[D0,D0,EG,if_pos hk,D8,D1 (by omega)];rfl
 have y2: ∀k,k<halfOf c→((c.vars.map g).drop (halfOf c)).getD k 0=g (varAt c (halfOf c+k)):=fun k hk=>by
  unfold varAt
  rw[D0,D0,FB,D8,D1 (by omega)];rfl
 rw[e,tV _ _ (by rw[x1,y1]),x1]
 constructor
 ·intro hp k hk he
  rw[x2 k hk,y2 k hk]
  exact hp k (List.mem_range.2 hk) fun j hj=>by
   have:=he j hj
   rwa[x2 j (by omega),y2 j (by omega)]at this
 ·intro hp k hk he
  have hk:=List.mem_range.1 hk
  have:=hp k hk fun j hj=>by rw[x2 j (by omega),y2 j (by omega)];exact he j hj
  rwa[x2 k hk,y2 k hk]at this
theorem FewD.smallD {d:aa}(h:FewD d):jp d:=⟨h.small,fun x hx=>by have:=(h.fine x hx).len;omega⟩
theorem kd.few {d:aa}(h:FewD d){vars:List Int}(hv:kd d vars):vars.length*24≤140737488355328:=by
 have:vars.length≤d.length:=by
  have h1:(vars.map Int.toNat).Nodup:=fC hv.1 fun x hx y hy e=>by
   have:=(hv.2 x hx).1;have:=(hv.2 y hy).1;omega
  have h2:=ms h1 (b:=List.range d.length) fun k hk=>by
   obtain⟨v,hv2,rfl⟩:=List.mem_map.1 hk
   exact List.mem_range.2 (hv.2 v hv2).2
  simpa using h2
 have:=h.small
 omega
theorem vw (d:aa)(vars:List Int)(h:FewD d)(hv:kd d vars)(hne:vars≠[]):Spec Tryz.prog 133 false [aJ d,.agg (cC (BH vars))] (aX (ie d vars)):=by
 have:=s9 d (BH vars) h.smallD h.valD.inb h.valD.len hv.2 (hv.few h)
 rw[show(BH vars).vars=vars from rfl,z1 h hv hne]at this
 exact this
theorem AK {a b:Int}(h:a≤b)(h1: -1048576≤a)(h2:b≤1048576):Fine [(a,b)]:=by
 have hv:vals [(a,b)]=rng a b:=by
  show rng a b++[]=_
  rw[EJ]
 refine⟨⟨fun r hr=> ?_,by simp⟩,?_,?_⟩
 ·obtain rfl:=List.mem_singleton.1 hr;exact h
 ·rw[hv];intro v hm
  have:=cB.1 hm
  omega
 ·rw[hv];simp[rng];omega
def kq (n:Nat)(g:Int→Int):List Int:=(List.range n).map fun j:Nat=>g (j:Int)
theorem A2 (n:Nat)(g:Int→Int):(kq n g).length=n:=by simp[kq]
theorem md {n:Nat}{g:Int→Int}{v:Int}(h:0≤v∧v.toNat<n):atR (kq n g) v=g v:=by
 unfold atR kq
 rw[if_neg (by omega),D0,D8,EO h.2]
 show g ((v.toNat:Nat):Int)=g v
 congr 1;omega
theorem zE {n:Nat}{a:List Int}(h:a.length=n):kq n (atR a)=a:=by
 subst h
 refine F0 (A2 _ _) fun i h1 h2=> ?_
 simp only[kq,F8,List.getElem_range]
 unfold atR
 rw[if_neg (by omega)]
 simp[D0,h2]
theorem rY {vars a b:List Int}(h: ∀u∈vars,atR a u=atR b u):pickedR vars a=pickedR vars b:=Ds h
theorem vF {vars coefs a b:List Int}(h: ∀u∈vars,atR a u=atR b u):sumW vars coefs a=sumW vars coefs b:=by
 unfold sumW
 have: ∀(l:List (Int×Int)) (n:Int),(∀p∈l,atR a p.1=atR b p.1)→l.foldl (fun n p=>IntKind.i64.wrap (n+IntKind.i64.wrap (p.2*atR a p.1))) n=l.foldl (fun n p=>IntKind.i64.wrap (n+IntKind.i64.wrap (p.2*atR b p.1))) n:=by
  intro l
  induction l with
  |nil=>intro n _;rfl
  |cons p l ih=>
   intro n hp
   rw[DH,DH,hp p (.head _)]
   exact ih _ fun q hq=>hp q (.tail _ hq)
 exact this _ _ fun p hp=>h _ (DP hp).1
theorem uses_mem {c:Con}{u:Int}:u∈usesR c↔u∈c.vars∨c.kind=4∧u=c.b:=by
 unfold usesR
 rw[bL]
 split
 ·rename_i h;simp[h]
 ·rename_i h;simp[h]
theorem uL {c:Con}{a b:List Int}(h: ∀u∈usesR c,atR a u=atR b u):holdsR c a=holdsR c b:=by
 have hv: ∀u∈c.vars,atR a u=atR b u:=fun u hu=>h u (uses_mem.2 (.inl hu))
 have e1:=rY hv
 have e2:soR c a=soR c b:=by unfold soR;rw[vF hv]
 unfold holdsR holds6
 rw[e1,e2]
 by_cases hk:c.kind=4
 ·rw[h c.b (uses_mem.2 (.inr ⟨hk,rfl⟩))]
 ·simp only[if_neg hk]
theorem me {vars coefs a:List Int}{g:Int→Int}(hl:vars.length=coefs.length)(hck: ∀k∈coefs,CoefOk k)(hw:ak coefs≤4611686018427388928)(ha: ∀u∈vars,atR a u=g u)(hb: ∀u∈vars,-1048576≤g u∧g u≤1048576):sumW vars coefs a=dC vars coefs g:=by
 have key: ∀(l:List (Int×Int)) (n:Int),(∀p∈l,atR a p.1=g p.1∧(-1048576≤g p.1∧g p.1≤1048576)∧CoefOk p.2)→-4611686018427388928≤n-ak (l.map (·.2))→n+ak (l.map (·.2))≤4611686018427388928→
   l.foldl (fun n p=>IntKind.i64.wrap (n+IntKind.i64.wrap (p.2*atR a p.1))) n=n+(l.map fun p=>p.2*g p.1).sum:=by
  intro l
  induction l with
  |nil=>intro n _ _ _;simp
  |cons p l ih=>
   intro n hp h1 h2
   obtain⟨e,b,hk⟩:=hp p (.head _)
   have m:=dZ p.2 (g p.1) b.1 b.2
   have hk2:=hk.2
   have hpos:=aV (l.map (·.2))
   have ew:ak ((p::l).map (·.2))=aG p.2*1048576+ak (l.map (·.2)):=by simp[ak]
   rw[ew]at h1 h2
   have hab:=bE p.2
   rw[DH,e,ae (n:=p.2*g p.1) (by omega) (by omega),ae (by omega) (by omega),ih _ (fun q hq=>hp q (.tail _ hq)) (by omega) (by omega)]
   simp only[DJ,E5]
   omega
 have e:(vars.zip coefs).map (·.2)=coefs:=List.map_snd_zip (by omega)
 have hp:=aV coefs
 unfold sumW dC
 rw[key _ 0 (fun p hp=>⟨ha _ (DP hp).1,hb _ (DP hp).1,hck _ (DP hp).2⟩) (by rw[e];omega) (by rw[e];omega),Fl]
theorem StepOK.iff' {n:Nat}{us:List Int}{P Q:(Int→Int)→Prop}{f:aa→Option aa}(h:StepOK n us P f)(hq: ∀g:Int→Int,(∀u∈us,-1048576≤g u∧g u≤1048576)→(P g↔Q g)):StepOK n us Q f:=by
 refine⟨h.takes,h.stays,h.off,fun e ge g he=>(h.point e ge g he).trans (hq g fun u hu=> ?_),h.in'⟩
 have hm:domAt e u∈e:=ah (by rw[ge.len];exact(h.in' u hu).2)
 exact(ge.few.fine _ hm).val _ (by rw[he u hu];exact .head _)
theorem nodup_full: ∀(l s:List Int),s.Nodup→(∀x∈s,x∈l)→l.length≤s.length→l.Nodup
 | [],_,_,_,_=> .nil
 |x::l,s,hs,hm,hl=>by
  have hx:x∉l:=fun hx=>by
   have:=hs.length_le_of_subset (l₂:=l) fun y hy=>by
    rcases List.mem_cons.1 (hm y hy)with rfl|h
    ·exact hx
    ·exact h
   simp at hl;omega
  have h2: ∀y∈s.erase x,y∈l:=fun y hy=>by
   have:=(hs.mem_erase_iff).1 hy
   exact(List.mem_cons.1 (hm y this.2)).resolve_left this.1
  have h3:=List.length_erase_le (l:=s) (a:=x)
  have h4:s.length-1≤(s.erase x).length:=by
   rw[List.length_erase];split<;>omega
  exact List.nodup_cons.2 ⟨hx,nodup_full l (s.erase x) (hs.erase x) h2 (by simp at hl;omega)⟩
theorem qm {l:List Int}:(aW l).length=l.length↔l.Nodup:=by
 constructor
 ·intro h
  exact nodup_full l (aW l) (dB (bZ l)) (fun x hx=>(bL x l).1 hx) (by omega)
 ·intro h
  have h1:=(dB (bZ l)).length_le_of_subset (l₂:=l) fun x hx=>(bL x l).1 hx
  have h2:=h.length_le_of_subset (l₂:=aW l) fun x hx=>(bL x l).2 hx
  omega
noncomputable def bG (c:Con)(d:aa):Option aa:=
 if c.kind=0 then gO c d else
 if c.kind=1 then ie d c.vars else
 if c.kind=4 then oJ c d else
 if c.kind=6 then wB c d else
 lK d (usesR c) fun t=>holdsR c (eC d.length (usesR c) t (usesR c).length)
theorem xl {n:Nat}{d:aa}{c:Con}(gd:GoodD n d)(h:SumOk d c):LinC n c:=by
 have hv:kd d c.vars:=⟨h.nod,h.fine.vin⟩
 exact⟨⟨h.fine.len,fun v hv=>by have:=h.fine.vin v hv;rwa[gd.len]at this,h.fine.ck,h.nod,h.big,hv.few gd.few⟩,h.pos,h.op⟩
theorem cO {d:aa}{c:Con}(hc:ConB c)(h:conR d c=0):(0≤c.kind∧c.kind≤6)∧cJ d c∧rightR d c=true∧∀u∈usesR c,0≤u∧u.toNat<d.length:=by
 obtain⟨h1,h2⟩:=sI hc h
 unfold conR at h
 split at h
 ·cases h
 ·split at h
  ·cases h
  ·rename_i h3 h4
   refine⟨by omega,h1,h2,fun u hu=> ?_⟩
   have h4:(usesR c).all (inD d)=true:=by simpa using h4
   exact lO.1 (List.all_eq_true.1 h4 u hu)
theorem yU {n:Nat}{c:Con}(hin: ∀u∈usesR c,0≤u∧u.toNat<n)(hne:usesR c≠[]):StepOK n (usesR c) (fun g=>holdsR c (kq n g)=true) fun d=>lK d (usesR c) fun t=>holdsR c (eC d.length (usesR c) t (usesR c).length):=by
 have hnd:(usesR c).Nodup:=dB (bZ _)
 refine((Cz (P:=fun t=>holdsR c (eC n (usesR c) t (usesR c).length)) hnd hin hne).step.congr fun d gd=>by rw[gd.len]).iff fun g=> ?_
 rw[uL (b:=kq n g) fun u hu=> ?_]
 rw[md (hin u hu)]
 exact lU g hin hu
def RightC (d:aa)(c:Con):Prop:=conR d c=0∨(c.kind=0∧SumOk d c)
theorem qr {d:aa}{c:Con}(hc:ConB c)(h:RightC d c):(0≤c.kind∧c.kind≤6)∧cJ d c∧∀u∈usesR c,0≤u∧u.toNat<d.length:=by
 rcases h with h|⟨hk,hs⟩
 ·obtain⟨h1,h2,_,h3⟩:=cO hc h
  exact⟨h1,h2,h3⟩
 ·refine⟨by omega,⟨hs.fine.vl,hs.fine.vin⟩,fun u hu=> ?_⟩
  rcases uses_mem.1 hu with hu|⟨h4,_⟩
  ·exact hs.fine.vin u hu
  ·omega
theorem yI {n:Nat}{d:aa}{c:Con}(gd:GoodD n d)(hc:ConB c)(h:conR d c=0):StepOK n (usesR c) (fun g=>(c.kind=4→0≤g c.b∧g c.b≤1)→holdsR c (kq n g)=true) (bG c):=by
 obtain⟨hk,hv,hr,hin⟩:=cO hc h
 rw[gd.len]at hin
 have hpick: ∀g:Int→Int,pickedR c.vars (kq n g)=c.vars.map g:=fun g=>Ds fun u hu=>md (hin u (uses_mem.2 (.inl hu)))
 have hvu: ∀u∈c.vars,u∈usesR c:=fun u hu=>uses_mem.2 (.inl hu)
 have hdl:=gd.few.small
 by_cases h0:c.kind=0
 ·have hs:=xl gd (rS hc h h0 gd.few.fine hdl)
  refine(((lI hs).wide hvu hin).congr fun d gd=>by unfold bG;rw[if_pos h0]).iff' fun g hg=> ?_
  have hb:=hs.sum.big
  have:=bE c.rhs
  unfold holdsR soR
  rw[if_pos h0,me hs.sum.vl hs.sum.ck (by omega) (fun u hu=>md (hin u (hvu u hu))) fun u hu=>hg u (hvu u hu)]
  exact⟨fun h _=>h,fun h=>h fun e=>by omega⟩
 ·by_cases h1:c.kind=1
  ·have hm:0<c.vars.length∧c.vars.Nodup:=by
    unfold rightR at hr
    rw[if_neg h0,if_pos h1]at hr
    simp only[manyR,DA,decide_eq_true_eq]at hr
    exact hr.2
   refine(((CA (n:=n) ⟨hm.2,fun v hv=>hin v (hvu v hv)⟩ (FH hm.1)).step.wide hvu hin).congr fun d gd=>by unfold bG;rw[if_neg h0,if_pos h1]).iff fun g=> ?_
   unfold holdsR
   rw[if_neg h0,if_pos h1,hpick,decide_eq_true_eq,decide_eq_true_eq,qm]
   exact⟨fun h _=>h,fun h=>h fun e=>by omega⟩
  ·by_cases h4:c.kind=4
   ·have hrf:=xv hc h h4 gd.few.fine hdl
    have hrc:ReifC n c:=by
     refine⟨xl gd hrf.sum,xl gd hrf.sumN,by have:=hrf.b;rwa[gd.len]at this,hrf.apart,?_⟩
     obtain⟨_,hbg⟩:=pL (jQ h)
     have:=aV c.coefs
     omega
    have hu4: ∀u∈c.vars++[c.b],u∈usesR c:=fun u hu=>by
     rcases List.mem_append.1 hu with hu|hu
     ·exact hvu u hu
     ·exact uses_mem.2 (.inr ⟨h4,List.mem_singleton.1 hu⟩)
    refine(((yr hrc).wide hu4 hin).congr fun d gd=>by unfold bG;rw[if_neg h0,if_neg h1,if_pos h4]).iff' fun g hg=> ?_
    have hs:=hrc.yes.sum
    have hb:ak c.coefs≤4611686018427388928∧aG c.rhs≤4611686018427388928:=hs.big
    have:=bE c.rhs
    have e1:sumW c.vars c.coefs (kq n g)=dC c.vars c.coefs g:=me hs.vl hs.ck (by omega) (fun u hu=>md (hin u (hvu u hu))) fun u hu=>hg u (hvu u hu)
    have e2:atR (kq n g) c.b=g c.b:=md hrc.b
    unfold holdsR soR
    rw[if_neg h0,if_neg h1,if_neg (by omega),if_neg (by omega),if_pos h4,e1,e2]
    simp only[EW,DA,decide_eq_true_eq,E9]
    exact⟨fun h hh=>h (hh h4),fun h hh=>h fun _=>hh⟩
   ·by_cases h6:c.kind=6
    ·have hev:c.vars.length % 2=0:=by
      unfold rightR at hr
      rw[if_neg h0,if_neg h1,if_neg (by omega),if_neg (by omega),if_neg h4,if_neg (by omega)]at hr
      simp only[DA,decide_eq_true_eq]at hr
      exact hr.2
     refine(((Aw (n:=n) ⟨fun v hv=>hin v (hvu v hv)⟩ hv.1 hev).wide hvu hin).congr fun d gd=>by unfold bG;rw[if_neg h0,if_neg h1,if_neg h4,if_pos h6]).iff fun g=> ?_
     unfold holdsR holds6
     rw[if_neg h0,if_neg h1,if_neg (by omega),if_neg (by omega),if_neg h4,if_neg (by omega),hpick,decide_eq_true_eq]
     exact⟨fun h _=>h,fun h=>h fun e=>by omega⟩
    ·have hne:usesR c≠[]:=by
      have hpos:0<c.vars.length:=by
       unfold rightR at hr
       rw[if_neg h0,if_neg h1]at hr
       by_cases h2:c.kind=2
       ·rw[if_pos h2]at hr
        simp only[manyR,DA,decide_eq_true_eq]at hr
        exact hr.1.2.1
       ·rw[if_neg h2]at hr
        by_cases h3:c.kind=3
        ·rw[if_pos h3]at hr
         simp only[manyR,DA,decide_eq_true_eq]at hr
         omega
        ·rw[if_neg h3,if_neg h4,if_pos (by omega)]at hr
         simp only[sumR,DA,decide_eq_true_eq]at hr
         exact hr.1.2.1.1.2
      intro e
      have:=hvu _ (D5 hpos)
      rw[e]at this;cases this
     refine((yU hin hne).congr fun d gd=>by unfold bG;rw[if_neg h0,if_neg h1,if_neg h4,if_neg h6]).iff fun g=> ?_
     exact⟨fun h _=>h,fun h=>h fun e=>absurd e h4⟩
theorem tX {n:Nat}{d:aa}{c:Con}(gd:GoodD n d)(hc:ConB c)(h:RightC d c):StepOK n (usesR c) (fun g=>(c.kind=4→0≤g c.b∧g c.b≤1)→holdsR c (kq n g)=true) (bG c):=by
 rcases h with h|⟨h0,hs⟩
 ·exact yI gd hc h
 ·obtain⟨_,_,hin⟩:=qr hc (.inr ⟨h0,hs⟩)
  rw[gd.len]at hin
  have hvu: ∀u∈c.vars,u∈usesR c:=fun u hu=>uses_mem.2 (.inl hu)
  have hs:=xl gd hs
  refine(((lI hs).wide hvu hin).congr fun d gd=>by unfold bG;rw[if_pos h0]).iff' fun g hg=> ?_
  have hb:=hs.sum.big
  unfold holdsR soR
  rw[if_pos h0,me hs.sum.vl hs.sum.ck (by omega) (fun u hu=>md (hin u (hvu u hu))) fun u hu=>hg u (hvu u hu)]
  exact⟨fun h _=>h,fun h=>h fun e=>by omega⟩
end Go.Proofs.YtopcjbahjjhdmaaGreat
