/- The texts PuC, LiA, FnR, FnS, FuE, FuF, FuG, FuH, FuI, PuM, FvR, PuQ, PuR, FnP, FnQ, FgH, FgK, FnT, FnU, FnV, FnW, FnX, FnY, FnZ, FgA, FgB, FgL, LiB of the workplace, joined. -/
import Derived.Test.YtopcjbahjjhdmaaGreatB5
import Derived.Lib.Mul64
import Derived.Sort.OwnSortedInts
namespace Go.Proofs.YtopcjbahjjhdmaaGreat
open Go Go.RowKit
set_option linter.unusedVariables false
theorem xp {α β:Type}{step:α→β ⊕ α}(Inv:α→Prop)(μ:α→Nat)(h: ∀x y,Inv x→step x= .inr y→Inv y∧μ y<μ x): ∀x,Inv x→∃N R,cH step N x=some R:=by
 have key: ∀n x,μ x=n→Inv x→∃N R,cH step N x=some R:=by
  intro n
  induction n using Nat.strongRecOn with
  |_ n ih=>
   intro x hx hi
   cases e:step x with
   |inl b=>exact⟨1,b,by simp[cH,e]⟩
   |inr y=>
    obtain⟨h1,h2⟩:=h x y hi e
    obtain⟨N,R,hR⟩:=ih (μ y) (hx▸h2) y rfl h1
    exact⟨N+1,R,by simp[cH,e,hR]⟩
 exact fun x hi=>key _ x rfl hi
theorem oP {α β:Type}{step:α→β ⊕ α}(Inv:α→Prop)(h: ∀x y,Inv x→step x= .inr y→Inv y): ∀(N:Nat) (x:α) (R:β),Inv x→cH step N x=some R→∃z,Inv z∧step z= .inl R
 |0,x,R,_,e=>by cases e
 |n+1,x,R,hi,e=>by
  cases hs:step x with
  |inl b=>simp only[cH,hs,C3]at e;exact⟨x,hi,by rw[hs,e]⟩
  |inr y=>simp only[cH,hs]at e;exact oP Inv h n y R (h x y hi hs) e
def weight (d:aa):Nat:=(d.map fun x=>(vals x).length).sum
theorem gO: ∀{d:aa} {i:Nat} {y:List (Int×Int)} (x:List (Int×Int)),d[i]? =some y→weight (d.set i x)+(vals y).length=weight d+(vals x).length
 | [],i,y,x,h=>by simp at h
 |z::d,0,y,x,h=>by
  simp at h;subst h
  simp only[FO,weight,CY,Dg];omega
 |z::d,i+1,y,x,h=>by
  have:=gO (d:=d) (i:=i) x (by simpa using h)
  simp only[List.set_cons_succ,weight,CY,Dg]at this⊢;omega
theorem vf {d d':List (Int×Int)}(h:az d)(h':az d')(hs: ∀v∈vals d',v∈vals d):(vals d').length≤(vals d).length∧(d'≠d→(vals d').length<(vals d).length):=by
 have hle:=bV (aF h') hs
 refine⟨hle,fun hne=>Nat.lt_of_le_of_ne hle fun e=>hne ?_⟩
 refine iq h' h (dF (aF h') (aF h) fun v=>⟨hs v,fun hv=> ?_⟩)
 refine Classical.byContradiction fun hn=> ?_
 have h1:(v::vals d').Nodup:=List.nodup_cons.2 ⟨hn,dA (aF h')⟩
 have h2:(v::vals d').length≤(vals d).length:=h1.length_le_of_subset fun w hw=>by
  rcases List.mem_cons.1 hw with rfl|hw
  ·exact hv
  ·exact hs w hw
 simp at h2;omega
structure Cutd (d out:aa):Prop where
 len:out.length=d.length
 fine: ∀x∈out,Fine x
 ne: ∀x∈out,x≠[]
 sub: ∀(i:Nat) x y,out[i]? =some x→d[i]? =some y→∀v∈vals x,v∈vals y
theorem Cutd.set {d out:aa}(h:Cutd d out){i:Nat}{x y:List (Int×Int)}(hy:out[i]? =some y)(hx:az x)(hne:x≠[])(hs: ∀v∈vals x,v∈vals y):Cutd d (out.set i x):=by
 have hym:=C4 hy
 refine⟨by simp[h.len],fun z hz=> ?_,fun z hz=> ?_,fun j z w hz hw v hv=> ?_⟩
 ·rcases CX hz with hz|rfl
  ·exact h.fine z hz
  ·exact(h.fine y hym).cut hx hs
 ·rcases CX hz with hz|rfl
  ·exact h.ne z hz
  ·exact hne
 ·by_cases e:i=j
  ·subst e
   have hlt:=(List.getElem?_eq_some_iff.1 hy).1
   rw[DH hlt]at hz
   obtain rfl:=C2 hz
   exact h.sub i y w hy hw v (hs v hv)
  ·rw[D2 e]at hz
   exact h.sub j z w hz hw v hv
theorem xS {c:Con}{d out next:aa}(hv:cO out c)(h:Cutd d out)(hs:dI c out= .inr next):Cutd d next∧cO next c∧weight next<weight out:=by
 have hh:=jq c
 unfold dI at hs
 split at hs
 ·cases hs
 ·rename_i hk
  have hkl:placeO out c<halfOf c:=by have:=lV (dU out c) (halfOf c);unfold placeO at hk⊢;omega
  have hp:dU out c (placeO out c)=false:=mK hkl
  have hv1:=hv.2 _ (aK (c:=c) (k:=placeO out c) (by omega))
  have hv2:=hv.2 _ (aK (c:=c) (k:=halfOf c+placeO out c) (by omega))
  have hab:varAt c (placeO out c)≠varAt c (halfOf c+placeO out c):=fun e=>by rw[dU,e]at hp;simp[gj]at hp
  simp only at hs
  generalize varAt c (placeO out c)=a at*
  generalize varAt c (halfOf c+placeO out c)=b at*
  have ha:=ao hv1.2
  have hb:=ao hv2.2
  have fa:=h.fine _ (ah hv1.2)
  have fb:=h.fine _ (ah hv2.2)
  generalize domAt out a=da at*
  generalize domAt out b=db at*
  obtain⟨x1,x2⟩:=bP fa.ok (-1048576) (aM db)
  obtain⟨y1,y2⟩:=bP fb.ok (ay da) 1048576
  generalize domCut da (-1048576) (aM db)=x at*
  generalize domCut db (ay da) 1048576=y at*
  split at hs
  ·cases hs
  ·rename_i hne
   split at hs
   ·cases hs
   ·rename_i hns
    obtain rfl:=Sum.inr.inj hs
    have hsx: ∀v∈vals x,v∈vals da:=fun v hv=>((x2 v).1 hv).1
    have hsy: ∀v∈vals y,v∈vals db:=fun v hv=>((y2 v).1 hv).1
    have hne':a.toNat≠b.toNat:=by omega
    have hb':(out.set a.toNat x)[b.toNat]? =some db:=by rw[D2 hne'];exact hb
    refine⟨(h.set ha x1 (fun e=>hne (.inl e)) hsx).set hb' y1 (fun e=>hne (.inr e)) hsy,(hv.set _ _).set _ _,?_⟩
    have w1:=gO x ha
    have w2:=gO y hb'
    have l1:=vf fa.ok x1 hsx
    have l2:=vf fb.ok y1 hsy
    by_cases e1:x=da
    ·have e2:y≠db:=fun e=>hns ⟨e1,e⟩
     have:=l2.2 e2
     subst e1;omega
    ·have:=l1.2 e1
     omega
theorem p7 {c:Con}{d:aa}(hv:cO d c)(hf: ∀x∈d,Fine x): ∃R N,(if []∈d then R=none else cH (dI c) N d=some R)∧(∀out,R=some out→Cutd d out∧dI c out= .inl (some out)):=by
 by_cases he: []∈d
 ·exact⟨none,0,by rw[if_pos he],fun out h=>by cases h⟩
 ·have h0:Cutd d d:=⟨rfl,hf,fun x hx e=>he (e▸hx),fun i x y hx hy v hv=>by rw[hx]at hy;exact C2 hy▸hv⟩
  have hst: ∀x y,(Cutd d x∧cO x c)→dI c x= .inr y→(Cutd d y∧cO y c)∧weight y<weight x:=fun x y hi hs=>by
   have:=xS hi.2 hi.1 hs
   exact⟨⟨this.1,this.2.1⟩,this.2.2⟩
  obtain⟨N,R,hR⟩:=xp (step:=dI c) (fun x=>Cutd d x∧cO x c) weight hst d ⟨h0,hv⟩
  refine⟨R,N,by rw[if_neg he];exact hR,fun out h=> ?_⟩
  obtain⟨z,hz,hs⟩:=oP (fun x=>Cutd d x∧cO x c) (fun x y hi hs=>(hst x y hi hs).1) N d R ⟨h0,hv⟩ hR
  have:z=out:=by
   subst h
   unfold dI at hs
   split at hs
   ·simpa using hs
   ·simp only at hs
    split at hs
    ·simp at hs
    ·split at hs
     ·simpa using hs
     ·cases hs
  subst this
  rw[h]at hs
  exact⟨hz.1,hs⟩
set_option linter.unusedSimpArgs false
abbrev wr (n:Int):Int:=IntKind.i64.wrap n
def smallI (n:Int):Bool:=decide (-4611686018427387904≤n)&&decide (n≤4611686018427387904)
def mulI (a b:Int):Int×Bool:=if smallI a&&smallI b&&smallI (a*b)then(a*b,true)else(0,false)
def endW (d:List (Int×Int))(k:Int)(high:Bool):Int×Bool:=((mulI k (if decide (0<k)==high then aM d else ay d)).1,!d.isEmpty&&(mulI k (if decide (0<k)==high then aM d else ay d)).2)
def km:List (List (Int×Int)×Int)→Int→Int→Int×Int×Bool
 | [],lo,hi=>(lo,hi,true)
 |(x,k)::ts,lo,hi=>if(endW x k false).2 then km ts (wr (lo+(endW x k false).1)) (wr (hi+(endW x k true).1))else(0,0,false)
def ac (d:aa)(vars coefs:List Int):List (List (Int×Int)×Int):=(vars.zip coefs).map fun p=>(domAt d p.1,p.2)
def endsW (d:aa)(vars coefs:List Int):Int×Int×Bool:=km (ac d vars coefs) 0 0
def BZ (d:List (Int×Int))(k:Int):Int×Int×Bool:=(min (wr (k*(o8 d).1)) (wr (k*(o8 d).2.1)),max (wr (k*(o8 d).1)) (wr (k*(o8 d).2.1)),(o8 d).2.2)
def cq (d:List (Int×Int))(k:Int):Int:=if 0<k then k*ay d else k*aM d
def fM (d:List (Int×Int))(k:Int):Int:=if 0<k then k*aM d else k*ay d
def bg (ts:List (List (Int×Int)×Int)):Int:=(ts.map fun t=>cq t.1 t.2).sum
def fL (ts:List (List (Int×Int)×Int)):Int:=(ts.map fun t=>fM t.1 t.2).sum
def aG (k:Int):Int:=max k (-k)
def aj (coefs:List Int):Int:=(coefs.map fun k=>aG k*1048576).sum
theorem bE (k:Int):0≤aG k:=by unfold aG;omega
theorem dX (k x:Int)(h1: -1048576≤x)(h2:x≤1048576): -(aG k*1048576)≤k*x∧k*x≤aG k*1048576:=by
 unfold aG
 by_cases hk:0≤k
 ·have e1:=DT h2 hk
  have e2:=DT h1 hk
  rw[show max k (-k)=k by omega]
  omega
 ·have hk':0≤-k:=by omega
  have e1:=DT h2 hk'
  have e2:=DT h1 hk'
  rw[Ff]at e1 e2
  rw[show max k (-k)= -k by omega]
  rw[Ff]at e1 e2⊢
  omega
theorem rT {d:List (Int×Int)}(h:Fine d)(hne:d≠[]): -1048576≤ay d∧ay d≤aM d∧aM d≤1048576:=by
 have h1:=fA h.ok hne
 have h2:=oN h.ok hne
 have:=h.val _ h1
 have:=h.val _ h2
 have:=nv h.ok h1
 omega
theorem k7 {d:List (Int×Int)}(h:Fine d)(hne:d≠[])(k:Int): -(aG k*1048576)≤cq d k∧cq d k≤fM d k∧fM d k≤aG k*1048576:=by
 obtain⟨h1,h2,h3⟩:=rT h hne
 have m1:=dX k (ay d) h1 (by omega)
 have m2:=dX k (aM d) (by omega) h3
 unfold cq fM
 by_cases hk:0<k
 ·rw[if_pos hk,if_pos hk]
  have:=DT h2 (show 0≤k by omega)
  omega
 ·rw[if_neg hk,if_neg hk]
  have:=EZ (show k≤0 by omega) h2
  omega
def CoefOk (k:Int):Prop:=k≠0∧aG k≤4398046511104
theorem kU {k x:Int}(hk:CoefOk k)(h1: -1048576≤x)(h2:x≤1048576):mulI k x=(k*x,true):=by
 have m:=dX k x h1 h2
 have h3:=hk.2
 unfold mulI smallI
 have e:aG k=max k (-k):=rfl
 rw[if_pos]
 simp only[CR,decide_eq_true_eq]
 omega
theorem rU {d:List (Int×Int)}{k:Int}(h:Fine d)(hne:d≠[])(hk:CoefOk k):endW d k false=(cq d k,true)∧endW d k true=(fM d k,true):=by
 obtain⟨h1,h2,h3⟩:=rT h hne
 have hb:d.isEmpty=false:=by cases d with
  |nil=>exact absurd rfl hne
  |cons r d=>rfl
 unfold endW cq fM
 rw[hb]
 by_cases hp:0<k
 ·rw[decide_eq_true hp,if_pos hp,if_pos hp]
  simp only[Bool.not_false,Da,beq_self_eq_true,if_true]
  rw[if_neg (by decide),kU hk h1 (by omega),kU hk (by omega) h3]
  exact⟨rfl,rfl⟩
 ·rw[decide_eq_false hp,if_neg hp,if_neg hp]
  simp only[Bool.not_false,Da,beq_self_eq_true,if_true]
  rw[if_neg (by decide),kU hk h1 (by omega),kU hk (by omega) h3]
  exact⟨rfl,rfl⟩
theorem xx {d:List (Int×Int)}{k:Int}(h:Fine d)(hne:d≠[])(hk:CoefOk k):BZ d k=(cq d k,fM d k,true):=by
 obtain⟨h1,h2,h3⟩:=rT h hne
 have m1:=dX k (ay d) h1 (by omega)
 have m2:=dX k (aM d) (by omega) h3
 have h4:=hk.2
 unfold BZ wr
 rw[Au h.ok hne]
 simp only
 rw[ae (by omega) (by omega),ae (by omega) (by omega)]
 unfold cq fM
 by_cases hp:0<k
 ·rw[if_pos hp,if_pos hp]
  have:=DT h2 (show 0≤k by omega)
  rw[show min (k*ay d) (k*aM d)=k*ay d by omega,show max (k*ay d) (k*aM d)=k*aM d by omega]
 ·rw[if_neg hp,if_neg hp]
  have:=EZ (show k≤0 by omega) h2
  rw[show min (k*ay d) (k*aM d)=k*aM d by omega,show max (k*ay d) (k*aM d)=k*ay d by omega]
def f7 (ts:List (List (Int×Int)×Int)):Prop:= ∀t∈ts,Fine t.1∧CoefOk t.2
def aY (ts:List (List (Int×Int)×Int)):Int:=aj (ts.map (·.2))
theorem cy (t:List (Int×Int)×Int)(ts):aY (t::ts)=aG t.2*1048576+aY ts:=by simp[aY,aj]
theorem de: ∀ts,0≤aY ts
 | []=>by simp[aY,aj]
 |t::ts=>by
  rw[cy]
  have:=de ts
  have:=bE t.2
  omega
theorem kA: ∀{ts:List (List (Int×Int)×Int)},f7 ts→(∀t∈ts,t.1≠[])→-aY ts≤bg ts∧bg ts≤fL ts∧fL ts≤aY ts
 | [],_,_=>by simp[aY,aj,bg,fL]
 |t::ts,h,hne=>by
  obtain⟨h1,h2,h3⟩:=kA (ts:=ts) (fun t ht=>h t (.tail _ ht)) (fun t ht=>hne t (.tail _ ht))
  obtain⟨h4,h5,h6⟩:=k7 (h t (.head _)).1 (hne t (.head _)) t.2
  rw[cy]
  simp only[bg,fL,CY,Dg]at h1 h2 h3⊢
  omega
theorem jw: ∀{ts:List (List (Int×Int)×Int)} (lo hi:Int),f7 ts→(∀t∈ts,t.1≠[])→-4611686018427388928≤lo-aY ts→lo+aY ts≤4611686018427388928→-4611686018427388928≤hi-aY ts→hi+aY ts≤4611686018427388928→km ts lo hi=(lo+bg ts,hi+fL ts,true)
 | [],lo,hi,_,_,_,_,_,_=>by simp[km,bg,fL]
 |(x,k)::ts,lo,hi,h,hne,h1,h2,h3,h4=>by
  obtain⟨hf,hk⟩:=h _ (.head _)
  have hx:=hne _ (.head _)
  obtain⟨e1,e2⟩:=rU hf hx hk
  obtain⟨b1,b2,b3⟩:=k7 hf hx k
  have hp:=de ts
  rw[cy]at h1 h2 h3 h4
  simp only at h1 h2 h3 h4 e1 e2 b1 b2 b3
  rw[km,e1,e2,if_pos rfl]
  simp only[wr]
  rw[ae (by omega) (by omega),ae (by omega) (by omega),jw _ _ (fun t ht=>h t (.tail _ ht)) (fun t ht=>hne t (.tail _ ht)) (by omega) (by omega) (by omega) (by omega)]
  simp only[bg,fL,CY,Dg,Prod.mk.injEq,and_true]
  omega
set_option maxRecDepth 8000
theorem f4 (l:List Int)(hl:l.length*8≤140737488355328):Spec Tryz.prog 152 false [av l] [.val (.bool (l.all smallI))]:=by
 refine Spec.body Tryz.func152 rfl rfl rfl fun w0 Z0=> ?_
 refine .B ?_
 refine T.K (T.ind (fun i:Nat=>⟨[(5,.val false (av l)),(6,.val true (.int .i64 (l.map cI).length)),(7,.val true (.int .i64 i))],[],0⟩) (fun i=>i≤l.length∧(l.take i).all smallI=true) (fun i=>l.length-i) 0 (by simp) (fun _ _ h=>h) ?_)
 rintro i ⟨hi,hd⟩ ih
 refine .B ?_
 refine T.cd rfl (fun h1=> ?_) (fun h1=> ?_)
 ·have h1:i<l.length:=by simpa using h1
  have hno:smallI l[i]=false→l.all smallI=false:=fun h=>by
   cases h2:l.all smallI with
   |false=>rfl
   |true=>rw[List.all_eq_true.1 h2 _ (C5 h1)]at h;cases h
  refine .B ?_
  refine .I (r:=cI l[i]) (aO h1) ?_
  refine .B ?_
  refine J.g rfl rfl rfl (fun h2=> ?_) (fun h2=> ?_)
  ·refine .B ?_
   refine T.ct rfl ?_
   refine .B ?_
   exact⟨_,.v rfl rfl (by rw[hno];simp[smallI];omega) (fun _=>rfl) .nil⟩
  ·refine .B ?_
   refine T.cd rfl (fun h3=> ?_) (fun h3=> ?_)
   ·refine .B ?_
    exact⟨_,.v rfl rfl (by rw[hno];simp[smallI];omega) (fun _=>rfl) .nil⟩
   ·refine .B ?_
    rw[ak (l:=l.length) (by omega) (by omega)]
    refine T.K (ih (i+1) ⟨by omega,?_⟩ (by omega))
    rw[C7 h1,Dm,hd]
    simp[smallI];omega
 ·have h1:i=l.length:=by simp at h1;omega
  subst h1
  rw[DE]at hd
  refine .B ?_
  exact⟨_,.v rfl rfl (by rw[hd]) (fun _=>rfl) .nil⟩
theorem pI (n:Int):IntKind.u64.wrap n=n % 18446744073709551616:=by simp[IntKind.wrap,IntKind.bits,IntKind.signed]
theorem oR (n:Int)(h: -9223372036854775808≤n)(h2:n≤9223372036854775807):Spec Tryz.prog 154 false [.int .i64 n] [.val (.int .u64 ((n.natAbs:Nat):Int))]:=by
 refine Spec.body Tryz.func154 rfl rfl rfl fun w0 Z0=> ?_
 refine .B ?_
 refine T.cd rfl (fun h3=> ?_) (fun h3=> ?_)
 ·have h3:n<0:=h3
  refine .B ?_
  exact⟨_,.v rfl rfl (by rw[pI,pI];congr 1;omega) (fun _=>rfl) .nil⟩
 ·have h3: ¬n<0:=h3
  refine .B ?_
  exact⟨_,.v rfl rfl (by rw[pI];congr 1;omega) (fun _=>rfl) .nil⟩
theorem Aa (a:Nat)(ha:a<18446744073709551616):IntKind.u64.wrap (BitVec.ofInt IntKind.u64.bits (a:Int) &&& BitVec.ofInt IntKind.u64.bits 4294967295).toNat=((a % 4294967296:Nat):Int):=by
 have e:(BitVec.ofInt IntKind.u64.bits (a:Int) &&& BitVec.ofInt IntKind.u64.bits 4294967295).toNat=a % 4294967296:=by
  rw[BitVec.toNat_and]
  have e1:(BitVec.ofInt IntKind.u64.bits (a:Int)).toNat=a:=by
   rw[BitVec.toNat_ofInt]
   have:((2 ^ IntKind.u64.bits:Nat):Int)=18446744073709551616:=rfl
   rw[this]
   omega
  have e2:(BitVec.ofInt IntKind.u64.bits 4294967295).toNat=2 ^ 32-1:=rfl
  rw[e1,e2,Nat.and_two_pow_sub_one_eq_mod]
 rw[e,pI]
 omega
theorem CL (a:Nat):((a:Int)).fdiv (2 ^ (min (32:Int).toNat IntKind.u64.bits))=((a / 4294967296:Nat):Int):=by
 have:(2:Int) ^ (min (32:Int).toNat IntKind.u64.bits)=4294967296:=rfl
 rw[this,Int.fdiv_eq_ediv_of_nonneg _ (by decide)]
 omega
theorem Co (a b:Nat):(a:Int)*(b:Int)=((a*b:Nat):Int):=(GC a b).symm
theorem CK (a b:Nat):(a:Int)+(b:Int)=((a+b:Nat):Int):=(Int.natCast_add a b).symm
theorem my (a:Nat)(ha:a<18446744073709551616):IntKind.u64.wrap (a:Int)=(a:Int):=by rw[pI];omega
theorem B4 (a:Nat):IntKind.u64.wrap (a:Int)=((a % 18446744073709551616:Nat):Int):=by rw[pI];omega
theorem vS (x y:Nat)(hx:x<18446744073709551616)(hy:y<18446744073709551616):Spec Tryz.prog 153 false [.int .u64 (x:Int),.int .u64 (y:Int)] [.val (.int .u64 ((x*y / 18446744073709551616:Nat):Int)),.val (.int .u64 ((x*y % 18446744073709551616:Nat):Int))]:=by
 obtain⟨bd,bt,bw,hhi⟩:=Lib.mul64_hi x y hx hy
 have ba:=Lib.half_mul_le (a:=x / 4294967296) (b:=y / 4294967296) (by omega) (by omega)
 have bb:=Lib.half_mul_le (a:=x / 4294967296) (b:=y % 4294967296) (by omega) (by omega)
 have bc:=Lib.half_mul_le (a:=x % 4294967296) (b:=y / 4294967296) (by omega) (by omega)
 have ba':x / 4294967296*(y / 4294967296)<18446744073709551616:=by omega
 have bb':x / 4294967296*(y % 4294967296)<18446744073709551616:=by omega
 have bc':x % 4294967296*(y / 4294967296)<18446744073709551616:=by omega
 have bh1:x / 4294967296*(y / 4294967296)+(x / 4294967296*(y % 4294967296)+x % 4294967296*(y % 4294967296) / 4294967296) / 4294967296<18446744073709551616:=by omega
 have bh:x / 4294967296*(y / 4294967296)+(x / 4294967296*(y % 4294967296)+x % 4294967296*(y % 4294967296) / 4294967296) / 4294967296+((x / 4294967296*(y % 4294967296)+x % 4294967296*(y % 4294967296) / 4294967296) % 4294967296+x % 4294967296*(y / 4294967296)) / 4294967296<18446744073709551616:=by
  generalize (x / 4294967296)*(y / 4294967296)=a at*
  generalize (x / 4294967296)*(y % 4294967296)=b at*
  generalize (x % 4294967296)*(y / 4294967296)=c at*
  generalize (x % 4294967296)*(y % 4294967296)=d at*
  omega
 refine Spec.body Tryz.func153 rfl rfl rfl fun w0 Z0=> ?_
 refine .B ?_
 refine⟨_,.v rfl rfl ?_ (fun _=>rfl) (.v rfl rfl ?_ (fun _=>rfl) .nil)⟩
 ·simp only[Aa x hx,Aa y hy,CL,Co,CK,my _ bd,my _ bb',my _ bt,Aa _ bt,my _ bc',my _ bw,my _ ba',my _ bh1,my _ bh]
  rw[hhi]
 ·rw[Co,B4]
theorem mi (a b:Int)(ha1: -9223372036854775808≤a)(ha2:a≤9223372036854775807)(hb1: -9223372036854775808≤b)(hb2:b≤9223372036854775807):
  Spec Tryz.prog 120 false [.int .i64 a,.int .i64 b] [.val (.int .i64 (mulI a b).1),.val (.bool (mulI a b).2)]:=by
 refine Spec.body Tryz.func120 rfl rfl rfl fun w0 Z0=> ?_
 have hs:=f4 [a,b] (by simp)
 refine .B ?_
 refine .V ?_
 refine .C hs ?_
 refine .B ?_
 refine T.cond rfl (fun h=> ?_) (fun h=> ?_)
 ·have e:mulI a b=(0,false):=by
   unfold mulI
   rw[if_neg]
   intro h2
   simp at h h2
   rcases h with h|h
   ·rw[h2.1.1]at h;cases h
   ·rw[h2.1.2]at h;cases h
  rw[e]
  refine .B ?_
  exact r2
 ·have hsa:smallI a=true∧smallI b=true:=by simpa using h
  obtain⟨hsa,hsb⟩:=hsa
  have ha: -4611686018427387904≤a∧a≤4611686018427387904:=by simpa[smallI]using hsa
  have hb: -4611686018427387904≤b∧b≤4611686018427387904:=by simpa[smallI]using hsb
  have hm:=vS a.natAbs b.natAbs (by omega) (by omega)
  have hab:(a*b).natAbs=a.natAbs*b.natAbs:=Int.natAbs_mul a b
  have hp1:(a<0)≠(b<0)→a*b≤0:=by
   intro hne
   by_cases h1:a<0
   ·have h2: ¬b<0:=fun h2=>hne (by simp[h1,h2])
    exact Int.mul_nonpos_of_nonpos_of_nonneg (by omega) (by omega)
   ·have h2:b<0:=by
     by_cases h2:b<0
     ·exact h2
     ·exact absurd (by simp[h1,h2]) hne
    exact Int.mul_nonpos_of_nonneg_of_nonpos (by omega) (by omega)
  have hp2:(a<0)=(b<0)→0≤a*b:=by
   intro heq
   by_cases h1:a<0
   ·have h2:b<0:=by rw[←heq];exact h1
    exact Int.mul_nonneg_of_nonpos_of_nonpos (by omega) (by omega)
   ·have h2: ¬b<0:=by rw[←heq];exact h1
    exact Int.mul_nonneg (by omega) (by omega)
  have hmi:mulI a b=if smallI (a*b)then(a*b,true)else(0,false):=by simp[mulI,hsa,hsb]
  rw[hmi]
  rw[←hab]at hm
  clear hab hmi
  generalize a*b=p at*
  refine .B ?_
  refine .C (oR a ha1 ha2) ?_
  refine .B ?_
  refine .C (oR b hb1 hb2) ?_
  refine .C hm ?_
  refine .B ?_
  refine J.g rfl rfl rfl (fun h4=> ?_) (fun h4=> ?_)
  ·have h4:((p.natAbs / 18446744073709551616:Nat):Int)≠0:=h4
   refine .B ?_
   refine T.ct rfl ?_
   have e:smallI p=false:=by simp[smallI];omega
   rw[e]
   refine .B ?_
   exact r2
  ·have h4: ¬((p.natAbs / 18446744073709551616:Nat):Int)≠0:=h4
   refine .B ?_
   refine T.cd rfl (fun h5=> ?_) (fun h5=> ?_)
   ·have h5:((p.natAbs % 18446744073709551616:Nat):Int) > 4611686018427387904:=h5
    have e:smallI p=false:=by simp[smallI];omega
    rw[e]
    refine .B ?_
    exact r2
   ·have h5: ¬((p.natAbs % 18446744073709551616:Nat):Int) > 4611686018427387904:=h5
    have e:smallI p=true:=by simp[smallI];omega
    rw[e]
    refine .B ?_
    refine T.cond rfl (fun h6=> ?_) (fun h6=> ?_)
    ·have h7:=hp1 (by intro e;simp[e]at h6)
     refine .B ?_
     exact⟨_,.v rfl rfl (by simp only[if_true];rw[ae (n:=((p.natAbs % 18446744073709551616:Nat):Int)) (by omega) (by omega),ae (by omega) (by omega)];congr 1;omega) (fun _=>rfl) (.v rfl rfl rfl (fun _=>rfl) .nil)⟩
    ·have h7:=hp2 (by
      by_cases h1:a<0<;>by_cases h2:b<0<;>simp[h1,h2]at h6⊢)
     refine .B ?_
     exact⟨_,.v rfl rfl (by simp only[if_true];rw[ae (by omega) (by omega)];congr 1;omega) (fun _=>rfl) (.v rfl rfl rfl (fun _=>rfl) .nil)⟩
theorem At {d:List (Int×Int)}(h:InB d): -1048576≤ay d∧ay d≤1048576∧-1048576≤aM d∧aM d≤1048576:=by
 constructor
 ·cases d with
  |nil=>simp[ay]
  |cons r d=>exact(h r (.head _)).1
 ·constructor
  ·cases d with
   |nil=>simp[ay]
   |cons r d=>exact(h r (.head _)).2.1
  ·unfold aM
   cases hl:d.getLast? with
   |none=>simp
   |some r=>
    have:=h r (List.mem_of_getLast? hl)
    exact⟨this.2.2.1,this.2.2.2⟩
theorem fQ {k:Int}(h:CoefOk k): -4398046511104≤k∧k≤4398046511104:=by
 have:=h.2
 unfold aG at this
 omega
theorem jl (d:List (Int×Int))(k:Int)(high:Bool)(hd:DomB d)(hk:CoefOk k):Spec Tryz.prog 233 false [dm d,.int .i64 k,.bool high] [.val (.int .i64 (endW d k high).1),.val (.bool (endW d k high).2)]:=by
 refine Spec.body Tryz.func233 rfl rfl rfl fun w0 Z0=> ?_
 obtain⟨h1,h2,h3,h4⟩:=At hd.1
 have hk2:=fQ hk
 refine T.seq ?_
 refine T.r ?_
 repeat' first|refine J.e rfl rfl rfl rfl ?_|refine J.skip rfl rfl rfl ?_|refine J.bx rfl rfl rfl rfl rfl rfl ?_
 refine J.nil ?_
 refine T.seq ?_
 refine T.r ?_
 repeat' first|refine J.e rfl rfl rfl rfl ?_|refine J.skip rfl rfl rfl ?_|refine J.bx rfl rfl rfl rfl rfl rfl ?_
 refine .C (kg d) ?_
 repeat' first|refine J.e rfl rfl rfl rfl ?_|refine J.skip rfl rfl rfl ?_|refine J.bx rfl rfl rfl rfl rfl rfl ?_
 refine J.nil ?_
 refine T.mid ⟨[(1,.val false (.int .i64 k)),(8,.val true (.int .i64 (if decide (0<k)==high then aM d else ay d))),(9,.val true (.bool (!d.isEmpty)))],[],0⟩ ?_ ?_
 ·refine .B ?_
  refine T.cond rfl (fun h=> ?_) (fun h=> ?_)
  ·have h:(decide (0<k)==high)=true:=h
   rw[if_pos h]
   refine .B ?_
   refine .C (qj d (by have:=hd.2.2;omega)) ?_
   refine .B ?_
   exact⟨rfl,[1,8,9],[],rfl,rfl⟩
  ·have h:(decide (0<k)==high)=false:=h
   rw[h]
   refine .B ?_
   exact⟨rfl,[1,8,9],[],rfl,rfl⟩
 ·have hm:=mi k (if decide (0<k)==high then aM d else ay d) (by omega) (by omega) (by split<;>omega) (by split<;>omega)
  unfold endW
  generalize (if decide (0<k)==high then aM d else ay d)=x at*
  generalize mulI k x=m at*
  refine .B ?_
  refine .C hm ?_
  refine .B ?_
  refine J.gb rfl rfl rfl (fun h=> ?_) (fun h=> ?_)
  ·rw[h]
   refine .B ?_
   exact⟨_,.v rfl rfl rfl (fun _=>rfl) (.v rfl rfl (by simp) (fun _=>rfl) .nil)⟩
  ·rw[h]
   refine .B ?_
   exact r2
structure SumIn (d:aa)(vars coefs:List Int):Prop where
 len:vars.length=coefs.length
 vl:vars.length*8≤140737488355328
 vin: ∀v∈vars,0≤v∧v.toNat<d.length
 ck: ∀k∈coefs,CoefOk k
 dom: ∀x∈d,DomB x
 dl:d.length*24≤140737488355328
theorem nL {d:aa}{vars coefs:List Int}{i:Nat}(h1:i<vars.length)(h2:i<coefs.length):(ac d vars coefs).drop i=(domAt d vars[i],coefs[i])::(ac d vars coefs).drop (i+1):=by
 have hl:i<(ac d vars coefs).length:=by simp[ac];omega
 rw[CU hl]
 simp[ac]
theorem pP {d:aa}{vars coefs:List Int}(h:vars.length=coefs.length):(ac d vars coefs).drop vars.length=[]:=by
 refine Dk ?_
 simp[ac];omega
theorem oK (d:aa)(vars coefs:List Int)(h:SumIn d vars coefs):Spec Tryz.prog 234 false [aJ d,av vars,av coefs] [.val (.int .i64 (endsW d vars coefs).1),.val (.int .i64 (endsW d vars coefs).2.1),.val (.bool (endsW d vars coefs).2.2)]:=by
 refine Spec.body Tryz.func234 rfl rfl rfl fun w0 Z0=> ?_
 obtain⟨hlen,hvl,hvin,hck,hdom,hdl⟩:=h
 refine .B ?_
 refine T.K (T.ind (fun s:Nat×Int×Int=>⟨[(0,.val false (aJ d)),(2,.val false (av coefs)),(9,.val true (.int .i64 s.2.1)),(10,.val true (.int .i64 s.2.2)),(17,.val false (av vars)),(18,.val true (.int .i64 (vars.map cI).length)),(19,.val true (.int .i64 s.1))],[],0⟩)
  (fun s=>s.1≤vars.length∧km ((ac d vars coefs).drop s.1) s.2.1 s.2.2=endsW d vars coefs) (fun s=>vars.length-s.1) (0,0,0) ⟨by simp,rfl⟩ (fun _ _ h=>h) ?_)
 rintro⟨i,lo,hi⟩ ⟨hil,he⟩ ih
 simp only at hil he
 dsimp only
 refine .B ?_
 refine T.cd rfl (fun h1=> ?_) (fun h1=> ?_)
 ·have h1:i<vars.length:=by simpa using h1
  have h2:i<coefs.length:=by omega
  have hv:=hvin _ (C5 h1)
  have hk:=hck _ (C5 h2)
  have hx:=hdom _ (ah hv.2)
  have hrow:(d.map cD)[vars[i].toNat]? =some (cD (domAt d vars[i])):=by simp[ao hv.2]
  rw[nL h1 h2,km]at he
  refine .B ?_
  refine .I (r:=cI vars[i]) (aO h1) ?_
  refine .B ?_
  refine J.i rfl rfl rfl rfl rfl rfl rfl rfl rfl (r:=cD (domAt d vars[i])) hv.1 hrow rfl ?_
  refine .B ?_
  refine .I (r:=cI coefs[i]) (aO h2) ?_
  refine .B ?_
  refine J.cc rfl rfl rfl rfl rfl (jl _ _ false hx hk) rfl rfl ?_
  refine .B ?_
  refine J.i rfl rfl rfl rfl rfl rfl rfl rfl rfl (r:=cD (domAt d vars[i])) hv.1 hrow rfl ?_
  refine .B ?_
  refine .I (r:=cI coefs[i]) (aO h2) ?_
  refine .B ?_
  refine J.cc rfl rfl rfl rfl rfl (jl _ _ true hx hk) rfl rfl ?_
  generalize endW (domAt d vars[i]) coefs[i] false=e1 at*
  generalize endW (domAt d vars[i]) coefs[i] true=e2 at*
  obtain⟨n1,b1⟩:=e1
  refine .B ?_
  cases b1
  ·simp only[DR,if_false]at he
   refine .B ?_
   refine T.ct rfl ?_
   refine .B ?_
   exact⟨_,.v rfl rfl (by rw[←he]) (fun _=>rfl) (.v rfl rfl (by rw[←he]) (fun _=>rfl) (.v rfl rfl (by rw[←he]) (fun _=>rfl) .nil))⟩
  ·simp only[if_true]at he
   refine .B ?_
   refine T.cf rfl ?_
   refine .B ?_
   rw[ak (l:=vars.length) (by omega) (by omega)]
   exact T.K (ih (i+1,wr (lo+n1),wr (hi+e2.1)) ⟨by simp only;omega,he⟩ (by simp only;omega))
 ·have h1:i=vars.length:=by simp at h1;omega
  subst h1
  rw[pP hlen]at he
  refine .B ?_
  exact⟨_,.v rfl rfl (by rw[←he];rfl) (fun _=>rfl) (.v rfl rfl (by rw[←he];rfl) (fun _=>rfl) (.v rfl rfl (by rw[←he];rfl) (fun _=>rfl) .nil))⟩
theorem yw (d:aa)(hl:d.length*24≤140737488355328)(hx: ∀x∈d,x.length*16≤140737488355328):Spec Tryz.prog 199 false [aJ d] [.own 54 1 ((if []∈d then []else d).map cD),.val (.bool (!decide ([]∈d)))]:=by
 refine Spec.body Tryz.func199 rfl rfl rfl fun w0 Z0=> ?_
 refine .B ?_
 refine T.sub (Rel.own0 (s:=4) 54 1 rfl) ?_
 refine T.K (T.listI d (fun pre=>[]∉pre) (fun n pre post=>⟨[(4,.ref 0),(7,.val false (aJ d)),(8,.val true (.int .i64 (d.map cD).length)),(9,.val true (.int .i64 n))],[(0,some (.sl 54 1 true (pre.map cD)))],1⟩) (fun _ _ h=>h) (by simp) ?_ ?_)
 ·rintro n pre x post h hn hi ih
  have hlt:=bY h hn
  have hxl:=hx x (by rw[h];simp)
  refine .B ?_
  refine T.ct2 rfl (bX h hn) ?_
  refine .B ?_
  refine .I (r:=cD x) (aS h hn) ?_
  refine .B ?_
  refine T.cd rfl (fun h1=> ?_) (fun h1=> ?_)
  ·have hx:x=[]:=by simp at h1;exact h1
   have hm: []∈d:=by rw[h,hx];simp
   rw[if_pos hm,decide_eq_true hm]
   refine .B ?_
   exact⟨_,.ownN rfl (.v rfl rfl rfl (fun _=>rfl) .nil)⟩
  ·have hx:x≠[]:=fun e=>h1 (by rw[e];rfl)
   refine .B ?_
   refine .C (bQ x (by omega)).frz ?_
   refine .B ?_
   refine .V ?_
   refine .B ?_
   refine J.aD rfl rfl rfl rfl rfl rfl rfl rfl rfl rfl rfl rfl rfl rfl rfl rfl rfl rfl rfl (by omega) ?_
   refine .B ?_
   rw[ak hlt (by omega)]
   exact T.K (ih (by simp[hi,Ne.symm hx]))
 ·intro hi
  refine .B ?_
  refine T.cf2 rfl bl ?_
  refine .B ?_
  exact⟨_,.o rfl rfl (by rw[if_neg hi]) (fun _=> .inl rfl) (by simp) (.v rfl rfl (by simp[hi]) (fun _=>rfl) .nil)⟩
def gq (a b:Int):Int:=if a.tmod b<0 then wr (wr (a.tdiv b)-1)else wr (a.tdiv b)
theorem o3 (a b:Int)(hb:b≠0):Spec Tryz.prog 235 false [.int .i64 a,.int .i64 b] [.val (.int .i64 (gq a b))]:=by
 refine Spec.body Tryz.func235 rfl rfl rfl fun w0 Z0=> ?_
 unfold gq
 refine .B ?_
 refine J.qu rfl rfl rfl rfl rfl rfl hb ?_
 refine .B ?_
 refine J.rm rfl rfl rfl rfl rfl rfl hb ?_
 refine .B ?_
 refine T.cd rfl (fun h=> ?_) (fun h=> ?_)
 ·have h:a.tmod b<0:=h
  refine .B ?_
  exact⟨_,.v rfl rfl (by rw[if_pos h]) (fun _=>rfl) .nil⟩
 ·have h: ¬a.tmod b<0:=h
  refine .B ?_
  exact⟨_,.v rfl rfl (by rw[if_neg h]) (fun _=>rfl) .nil⟩
def aA (l:List Int):List Int:=l.map fun k=>wr (0-k)
theorem k6 (l:List Int)(hl:l.length*8≤140737488355328):Spec Tryz.prog 201 false [av l] [.own 3 1 ((aA l).map cI)]:=by
 refine Spec.body Tryz.func201 rfl rfl rfl fun w0 Z0=> ?_
 refine .B ?_
 refine T.sub (Rel.own0 (s:=3) 3 1 rfl) ?_
 refine T.K (T.list l (fun n pre post=>⟨[(3,.ref 0),(6,.val false (av l)),(7,.val true (.int .i64 (l.map cI).length)),(8,.val true (.int .i64 n))],[(0,some (.sl 3 1 true ((aA pre).map cI)))],1⟩) (fun _ _ h=>h) ?_ ?_)
 ·rintro n pre x post h hn ih
  have hlt:=bY h hn
  refine .B ?_
  refine T.ct2 rfl (bX h hn) ?_
  refine .B ?_
  refine .I (r:=cI x) (aS h hn) ?_
  refine .B ?_
  refine .V ?_
  refine J.aI rfl rfl rfl rfl rfl rfl rfl rfl rfl rfl rfl rfl rfl rfl rfl rfl rfl rfl rfl (by simp[aA];omega) ?_
  refine .B ?_
  rw[ak hlt (by omega),show aA pre++[IntKind.i64.wrap (0-x)]=aA (pre++[x])by simp[aA]]
  exact T.K ih
 ·refine .B ?_
  refine T.cf2 rfl bl ?_
  refine .B ?_
  exact⟨_,.o rfl rfl rfl (fun _=> .inl rfl) (by simp) .nil⟩
theorem dR (l:List Int)(hl:l.length*8≤140737488355328):Spec Tryz.prog 79 false [av l] [.own 3 1 (l.map cI)]:=by
 refine Spec.body Tryz.func79 rfl rfl rfl fun w0 Z0=> ?_
 refine .B ?_
 refine J.nc rfl rfl rfl rfl rfl rfl rfl fun b hb=> ?_
 refine .B ?_
 cases b
 ·refine T.cf rfl ?_
  refine .B ?_
  refine .O ?_
  refine .B ?_
  refine J.a rfl rfl rfl rfl rfl rfl rfl rfl rfl rfl rfl rfl rfl rfl rfl rfl rfl oL (by show(0+List.length _)*8≤_;simp;omega) ?_
  refine .B ?_
  exact⟨_,.o rfl rfl rfl (fun _=> .inr wl) (by simp) .nil⟩
 ·have:l=[]:=by simpa using hb rfl
  subst this
  refine T.ct rfl ?_
  refine .B ?_
  exact⟨_,.ownN rfl .nil⟩
def fD (d:List (Int×Int)):Int:=d.foldl (fun n r=>wr (n+wr (wr (r.2-r.1)+1))) 0
theorem gy (d:List (Int×Int))(hl:d.length*8≤140737488355328):Spec Tryz.prog 109 false [dm d] [.val (.int .i64 (fD d))]:=by
 refine Spec.body Tryz.func109 rfl rfl rfl fun w0 Z0=> ?_
 refine .B ?_
 refine T.K (T.list d (fun n pre post=>⟨[(3,.val true (.int .i64 (fD pre))),(6,.val false (dm d)),(7,.val true (.int .i64 (d.map cR).length)),(8,.val true (.int .i64 n))],[],0⟩) (fun _ _ h=>h) ?_ ?_)
 ·rintro n pre x post h hn ih
  have hlt:=bY h hn
  refine .B ?_
  refine T.ct2 rfl (bX h hn) ?_
  refine .B ?_
  refine .I (r:=cR x) (aS h hn) ?_
  refine .B ?_
  refine .L ?_
  refine .B ?_
  refine .W ?_
  refine .B ?_
  rw[ak hlt (by omega),show IntKind.i64.wrap (fD pre+IntKind.i64.wrap (IntKind.i64.wrap (x.2-x.1)+1))=fD (pre++[x])by simp[fD]]
  exact T.K ih
 ·refine .B ?_
  refine T.cf2 rfl bl ?_
  refine .B ?_
  exact r1
def cP (l:List Int):List Int:=l.mergeSort fun x y=>decide (x≤y)
theorem oT {w:World}{Z:Nat→Prop}: ∀{xs:List Int} {vs:List Value},L2 (Rep w Z) vs (xs.map (PV.int .i64))→vs=xs.map (Value.int .i64)
 | [],_,.nil=>rfl
 |x::xs,_,.cons h h2=>by
  cases h
  rw[oT h2];rfl
theorem lR {w:World}{Z:Nat→Prop}: ∀(xs:List Int),L2 (Rep w Z) (xs.map (Value.int .i64)) (xs.map (PV.int .i64))
 | []=> .nil
 |x::xs=> .cons (.int _ _) (lR xs)
theorem jY (l:List Int)(hl:l.length*8≤140737488355328):SpecM Tryz.prog 86 3 1 (l.map cI) [] ((cP l).map cI) []:=by
 have hsl:(cP l).length=l.length:=F2 ..
 refine⟨⟨_,Tryz.func86,rfl,rfl⟩,fun p hp=>(by cases hp),fun w Z1 v0 vs ho hz hvs=> ?_⟩
 cases hvs
 obtain⟨xs,hrow,hx,h1,h2⟩:=ho
 rw[show(l.map cI).flatten=l.map (PV.int .i64)from qO _ l]at hx
 obtain rfl:=oT hx
 rw[C6]at hrow
 obtain⟨hln,hrow⟩:=hrow
 rcases hrow with ⟨rfl,hnil⟩|⟨g,cap,cur,rfl,_,hb,hcap,hmax,hsz,htk⟩
 ·obtain rfl:l=[]:=by simpa using hnil
  refine(m6 none 0 w).mono ?_
  rintro e w' ⟨rfl,rfl⟩
  refine⟨[],rfl,rfl,rfl,rfl,CS _,fun _ _ _=>rfl,?_,.nil⟩
  rw[show cP []=[]from List.mergeSort_nil ..]
  refine⟨[],⟨rfl,.inl ⟨rfl,rfl⟩⟩,.nil,?_,?_⟩<;>(intro r hr;cases hr)
 ·have hg:g<w.heap.size:=(Array.getElem?_eq_some_iff.1 hb).1
  rw[FQ]at htk
  refine(vg g 0 cap l w (holds_of_blockI hb htk) hg (by omega)).mono ?_
  rintro e w' ⟨rfl,n,os,rfl⟩
  have hgr:=grownBy_sortedI (n:=n) (os:=os) (w:=w) (g:=g) (cP l).toArray
  refine⟨[],rfl,hgr.os,hgr.tape,hgr.output,hgr.size,fun b hb1 hb2=>hgr.block b hb1 (fun e=>hb2 (by simpa[VB,aw]using e.symm)),?_,.nil⟩
  have hr:=ownsRow_sortedI (base:=0) (n:=n) (os:=os) (ts:=cP l) hsl (DC _) hb hcap hmax hsz
  refine⟨(cP l).map (Value.int .i64),?_,?_,fun r hr=>by obtain⟨x,_,rfl⟩:=List.mem_map.1 hr;rfl,fun r hr p hp=>by obtain⟨x,_,rfl⟩:=List.mem_map.1 hr;simp[cI]at hp;rw[hp];rfl⟩
  ·rw[C6,hsl];exact hr
  ·rw[show((cP l).map cI).flatten=(cP l).map (PV.int .i64)from qO _ _]
   exact lR _
theorem kF (l:List Int)(hl:l.length*8≤140737488351232):Spec Tryz.prog 220 false [.fn (.func 240) [] [.ptr [av l]]] [.own 3 1 ((cP l).map cI)]:=by
 refine Spec.body Tryz.func220 rfl rfl rfl fun w0 Z0=> ?_
 have hc:=lC (g:=240) (caps:=[.ptr [av l]]) (xs:=l) (enters_of Tryz.func240 (by kernel_rfl) rfl) (fun w Z us h=>by
  cases h with
  |cons h1 h2=>cases h2;exact pz 0 0 l hl w _ h1) (by omega)
 refine .B ?_
 refine .C hc ?_
 refine .B ?_
 refine J.cm rfl rfl rfl rfl rfl rfl rfl rfl rfl (jY l (by omega)) rfl rfl rfl ?_
 refine .B ?_
 exact⟨_,.o rfl rfl rfl (fun _=> .inl rfl) (by simp) .nil⟩
def domOfP (l:List Int):List (Int×Int)×Int:=if l.all aH=true then(if fD (packG (cP l)) > 4096 then([],2)else(packG (cP l),0))else([],20)
theorem kn (l:List Int)(hl:l.length*16≤140737488351232):Spec Tryz.prog 185 false [av l] [.own 53 2 ((domOfP l).1.map cR),.val (.int .i64 (domOfP l).2)]:=by
 refine Spec.body Tryz.func185 rfl rfl rfl fun w0 Z0=> ?_
 have hc:=ph (p:=fun v=> !aH v) (f:=226) l (fun v _=>zW v) (by omega)
 have hsl:(cP l).length=l.length:=F2 ..
 have hpg:=qa (cP l)
 refine .B ?_
 refine .C hc ?_
 refine .B ?_
 have hany:(l.any fun v=> !aH v)= !l.all aH:=by
  rw[EK]
 rw[hany]
 unfold domOfP
 cases ha:l.all aH with
 |false=>
  refine T.ct rfl ?_
  refine .B ?_
  exact⟨_,.ownN rfl (.v rfl rfl rfl (fun _=>rfl) .nil)⟩
 |true=>
  refine T.cf rfl ?_
  have hvs: ∀v∈cP l,aH v=true:=fun v hv=>List.all_eq_true.1 ha v ((Fm l _).mem_iff.1 hv)
  refine .B ?_
  refine .C (nN l) ?_
  refine .B ?_
  refine .C (kF l (by omega)).frz ?_
  refine .B ?_
  refine .C (ti (cP l) hvs (by omega)) ?_
  refine .B ?_
  refine .C (gy (packG (cP l)) (by omega)) ?_
  refine .B ?_
  refine T.cd rfl (fun h=> ?_) (fun h=> ?_)
  ·rw[if_pos rfl,if_pos h]
   refine .B ?_
   exact⟨_,.ownN rfl (.v rfl rfl rfl (fun _=>rfl) .nil)⟩
  ·rw[if_pos rfl,if_neg h]
   refine .B ?_
   exact⟨_,.o rfl rfl rfl (fun _=> .inl rfl) (by simp) (.v rfl rfl rfl (fun _=>rfl) .nil)⟩
theorem yx (d:aa)(vs:List Int)(hl:vs.length*24≤140737488355328):(listsP d vs).length*24≤140737488355328∧∀x∈listsP d vs,x.length*8≤140737488355328:=by
 refine⟨by rw[listsP,C6];exact hl,fun x hx=> ?_⟩
 obtain⟨v,_,rfl⟩:=List.mem_map.1 hx
 have:=pJ (d.getD v.toNat [])
 omega
def mQ (L:List (List Int))(i:Nat):List Int:=(L.getD i []).filter fun x=>(dn (L.set i [x])).2
def kC (L:List (List Int)):List Int→Nat→aa→aa
 | [],_,out=>out
 |v::vs,i,out=>kC L vs (i+1) (out.set v.toNat (domOfP (mQ L i)).1)
def ol (d:aa)(vs:List Int):Option aa:=if []∈d then none else if(dn (listsP d vs)).2=true then some (kC (listsP d vs) vs 0 d)else none
theorem sG (d:aa)(c:Con)(hd:je d)(hb: ∀x∈d,InB x)(hx: ∀x∈d,x.length*16≤140737488351232)(hv: ∀v∈c.vars,0≤v∧v.toNat<d.length)(hl:c.vars.length*24≤140737488355328):Spec Tryz.prog 133 false [aJ d,.agg (cC c)] (aW (ol d c.vars)):=by
 refine Spec.body Tryz.func133 rfl rfl rfl fun w0 Z0=> ?_
 obtain⟨hd1,hd2⟩:=hd
 generalize hR:ol d c.vars=R
 unfold ol at hR
 refine .B ?_
 refine T.sub (Rel.own0 (s:=6) 54 1 rfl) ?_
 refine T.K (T.listI d (fun pre=>[]∉pre) (fun n pre post=>⟨[(0,.val false (aJ d)),(3,.optr 0 0 0 0),(6,.ref 1),(20,.val false (aJ d)),(21,.val true (.int .i64 (d.map cD).length)),(22,.val true (.int .i64 n))],[(0,some (.box false (cC c))),(1,some (.sl 54 1 true (pre.map cD)))],2⟩) (fun _ _ h=>h) (by simp) ?_ ?_)
 ·rintro n pre x post h hn hi ih
  have hlt:=bY h hn
  have hxl:=hd2 x (by rw[h];simp)
  refine .B ?_
  refine T.ct2 rfl (bX h hn) ?_
  refine .B ?_
  refine .I (r:=cD x) (aS h hn) ?_
  refine .B ?_
  refine T.cd rfl (fun h1=> ?_) (fun h1=> ?_)
  ·have hx:x=[]:=by simp at h1;exact h1
   have:R=none:=by rw[if_pos (by rw[h,hx];simp)]at hR;exact hR.symm
   subst this
   refine .B ?_
   exact⟨_,.ownN rfl (.v rfl rfl rfl (fun _=>rfl) .nil)⟩
  ·have hx:x≠[]:=fun e=>h1 (by rw[e];rfl)
   refine .B ?_
   refine .C (bQ x (by omega)).frz ?_
   refine .B ?_
   refine .V ?_
   refine .B ?_
   refine J.aD rfl rfl rfl rfl rfl rfl rfl rfl rfl rfl rfl rfl rfl rfl rfl rfl rfl rfl rfl (by omega) ?_
   refine .B ?_
   rw[ak hlt (by omega)]
   exact T.K (ih (by simp[hi,Ne.symm hx]))
 ·intro hi
  rw[if_neg hi]at hR
  have hlo:=yx d c.vars hl
  have hlen:(listsP d c.vars).length=c.vars.length:=C6 ..
  have hL4: ∀x∈listsP d c.vars,x.length≤4097:=fun x hx=>by
   obtain⟨v,_,rfl⟩:=List.mem_map.1 hx
   exact pJ _
  have hsl:=(sH d c.vars ⟨hd1,hd2⟩ hb hx hv hl).frz
  generalize listsP d c.vars=L at*
  have hsp:=kY L hlo.1 hlo.2
  refine .B ?_
  refine T.cf2 rfl bl ?_
  refine .B ?_
  refine .C hsl ?_
  refine .B ?_
  have hR2:(dn L).2=(c7 L).isSome:=by unfold dn;cases c7 L<;>rfl
  rw[hR2]at hR
  cases hm:c7 L with
  |none=>
   rw[hm]at hsp hR
   dsimp only at hsp
   obtain rfl:R=none:=by simpa using hR.symm
   refine J.co (qs:=[]) (cs2:=[]) false [] [] rfl rfl rfl rfl rfl rfl hsp trivial rfl rfl rfl rfl rfl rfl rfl fun ns hns=> ?_
   obtain rfl:ns=[]:=CT hns
   refine .B ?_
   refine T.ct rfl ?_
   refine .B ?_
   exact⟨_,.ownN rfl (.v rfl rfl rfl (fun _=>rfl) .nil)⟩
  |some b0=>
  rw[hm]at hsp hR
  dsimp only at hsp
  obtain rfl:R=some (kC L c.vars 0 d):=by simpa using hR.symm
  refine J.co (qs:=[]) (cs2:=[]) false [] [1001,1002] rfl rfl rfl rfl rfl rfl hsp trivial rfl rfl rfl rfl rfl rfl rfl fun ns hns=> ?_
  obtain⟨pm,pb,rfl⟩: ∃pm pb,ns=[pm,pb]:=by
   match ns,hns with
   | [a,b],_=>exact⟨a,b,rfl⟩
  refine .B ?_
  refine T.cf rfl ?_
  refine .B ?_
  refine T.K (T.ind (fun x:Nat×aa=>⟨[(3,.optr 0 0 0 0),(6,.ref 1),(9,.val true (bR L)),(47,.val false (av c.vars)),(48,.val true (.int .i64 (c.vars.map cI).length)),(49,.val true (.int .i64 x.1))],[(0,some (.box false (cC c))),(1,some (.sl 54 1 true (x.2.map cD)))],2⟩)
   (fun x=>x.1≤c.vars.length∧x.2.length=d.length∧kC L (c.vars.drop x.1) x.1 x.2=kC L c.vars 0 d) (fun x=>c.vars.length-x.1) (0,d) ⟨by simp,rfl,rfl⟩ (fun _ _ h=>h) ?_)
  rintro⟨k,out⟩ ⟨hk,hol,hst⟩ ih
  simp only at hk hol hst
  dsimp only
  refine .B ?_
  refine T.cd rfl (fun h1=> ?_) (fun h1=> ?_)
  rotate_left
  ·have h1:k=c.vars.length:=by simp at h1;omega
   subst h1
   rw[De,kC]at hst
   subst hst
   refine .B ?_
   exact⟨_,.o rfl rfl rfl (fun _=> .inl rfl) (by simp) (.v rfl rfl rfl (fun _=>rfl) .nil)⟩
  have h1:k<c.vars.length:=by simpa using h1
  rw[CU h1,kC]at hst
  have hvk:=hv _ (C5 h1)
  have hvr:(c.vars.map cI)[((k:Nat):Int).toNat]? =some (cI c.vars[k]):=aO h1
  have hkL:k<L.length:=by omega
  have hrow:(L.map cL)[((k:Nat):Int).toNat]? =some (cL (L.getD k [])):=by simp[hkL]
  have hml:(L.getD k []).length≤4097:=by
   rw[C0,C1 hkL];exact hL4 _ (C5 hkL)
  have hw1:IntKind.i64.wrap ((k:Int)+1)=((k+1:Nat):Int):=ak (l:=c.vars.length) h1 (by omega)
  refine .B ?_
  refine .I (r:=cI c.vars[k]) hvr ?_
  generalize c.vars[k]=v at*
  refine .B ?_
  refine J.sub (Rel.own0 (s:=14) 3 1 rfl) ?_
  refine .I (r:=cL (L.getD k [])) hrow ?_
  refine .B ?_
  have hlf:mQ L k=(L.getD k []).filter fun x=>(dn (L.set k [x])).2:=rfl
  generalize L.getD k []=Lk at*
  have hlL:(mQ L k).length≤Lk.length:=by rw[hlf];exact DN ..
  refine T.K (T.list Lk (fun n pre post=>⟨[(3,.optr 0 0 0 0),(6,.ref 1),(9,.val true (bR L)),(12,.val true (.int .i64 k)),(13,.val true (.int .i64 v)),(14,.ref 2),(47,.val false (av c.vars)),(48,.val true (.int .i64 (c.vars.map cI).length)),(49,.val true (.int .i64 k)),(57,.val true (av Lk)),(58,.val true (.int .i64 (Lk.map cI).length)),(59,.val true (.int .i64 n))],
    [(0,some (.box false (cC c))),(1,some (.sl 54 1 true (out.map cD))),(2,some (.sl 3 1 true ((pre.filter fun x=>(dn (L.set k [x])).2).map cI)))],3⟩) (fun _ _ h=>h) ?_ ?_)
  ·rintro n pre x post h hn ih2
   have hlt:=bY h hn
   have hfl:(pre.filter fun x=>(dn (L.set k [x])).2).length≤pre.length:=DN ..
   have hwn:IntKind.i64.wrap ((n:Int)+1)=((n+1:Nat):Int):=ak hlt (by omega)
   have hset: ∀y∈L.set k [x],y.length*8≤140737488355328:=fun y hy=>by
    rcases CX hy with hy|rfl
    ·exact hlo.2 y hy
    ·simp
   have hsp2:=kY (L.set k [x]) (by rw[DI];exact hlo.1) hset
   have hR3:(dn (L.set k [x])).2=(c7 (L.set k [x])).isSome:=by unfold dn;cases c7 (L.set k [x])<;>rfl
   refine .B ?_
   refine T.ct2 rfl (bX h hn) ?_
   refine .B ?_
   refine .I (r:=cI x) (aS h hn) ?_
   refine .B ?_
   refine .C (uJ L hlo.1) ?_
   refine .B ?_
   refine .V ?_
   refine .B ?_
   refine J.io rfl rfl rfl rfl rfl rfl rfl rfl rfl (by omega) (by rw[C6];omega) rfl ?_
   refine .B ?_
   refine J.w1 rfl rfl rfl rfl rfl rfl rfl rfl rfl rfl rfl (z:=[x]) (fun _=>rfl) (by omega) ?_
   refine .B ?_
   refine J.sub (Rel.frz (s:=71) (fun _ h=>h) rfl rfl) ?_
   cases hm2:c7 (L.set k [x])with
   |none=>
    rw[hm2]at hsp2 hR3
    dsimp only at hsp2
    have hx2:(pre++[x]).filter (fun x=>(dn (L.set k [x])).2)=pre.filter fun x=>(dn (L.set k [x])).2:=by
     rw[EV,Ea (by rw[hR3];simp)];simp
    rw[hx2]at ih2
    refine J.co (qs:=[]) (cs2:=[]) false [] [] rfl rfl rfl rfl rfl rfl hsp2 trivial rfl rfl rfl rfl rfl rfl rfl fun ns hns=> ?_
    obtain rfl:ns=[]:=CT hns
    refine .B ?_
    refine T.cf rfl ?_
    refine .B ?_
    rw[hwn]
    exact T.K ih2
   |some b2=>
    rw[hm2]at hsp2 hR3
    dsimp only at hsp2
    have hx2:(pre++[x]).filter (fun x=>(dn (L.set k [x])).2)=pre.filter (fun x=>(dn (L.set k [x])).2)++[x]:=by
     rw[EV,EI (by rw[hR3];simp)];simp
    rw[hx2]at ih2
    refine J.co (qs:=[]) (cs2:=[]) false [] [1003,1004] rfl rfl rfl rfl rfl rfl hsp2 trivial rfl rfl rfl rfl rfl rfl rfl fun ns hns=> ?_
    obtain⟨pm2,pb2,rfl⟩: ∃pm2 pb2,ns=[pm2,pb2]:=by
     match ns,hns with
     | [a,b],_=>exact⟨a,b,rfl⟩
    refine .B ?_
    refine T.ct rfl ?_
    refine .B ?_
    refine .V ?_
    refine .B ?_
    refine J.aI rfl rfl rfl rfl rfl rfl rfl rfl rfl rfl rfl rfl rfl rfl rfl rfl rfl rfl rfl (by omega) ?_
    refine .B ?_
    rw[hwn]
    exact T.K ih2
  ·rw[←hlf]
   refine .B ?_
   refine T.cf2 rfl bl ?_
   refine .B ?_
   refine .C (kn (mQ L k) (by omega)).frz ?_
   refine .B ?_
   refine J.io rfl rfl rfl rfl rfl rfl rfl rfl rfl hvk.1 (by rw[C6,hol];exact hvk.2) rfl ?_
   refine .B ?_
   refine J.w1 rfl rfl rfl rfl rfl rfl rfl rfl rfl rfl rfl (z:=(domOfP (mQ L k)).1) (fun _=>rfl) (by rw[hol];exact hvk.2) ?_
   refine .B ?_
   rw[hw1]
   exact T.K (ih (k+1,out.set v.toNat (domOfP (mQ L k)).1) ⟨by omega,by rw[DI];exact hol,hst⟩ (by show _-_<_-_;omega))
structure ValD (d:aa):Prop where
 small:d.length*24≤140737488355328
 inb: ∀x∈d,InB x
 len: ∀x∈d,x.length*16≤140737488351232
 vals: ∀x∈d,(vals x).length≤4097
theorem ValD.dom {d:aa}(h:ValD d){v:Int}(hv:v.toNat<d.length):domAt d v∈d:=by
 unfold domAt
 rw[C0,C1 hv];exact C5 hv
def wo (d:aa)(vars:List Int):Nat→List Int→Bool
 |0,_=>true
 |n+1,had=>(vals (domAt d (vars.getD had.length 0))).any fun x=> !decide (x∈had)&&wo d vars n (had++[x])
def iG (d:aa)(vars:List Int)(v:Int):List Int:=(vals (domAt d v)).filter fun x=>wo (d.set v.toNat [(x,x)]) vars vars.length []
def iO (d:aa)(vars:List Int):List Int→aa→aa
 | [],out=>out
 |v::vs,out=>iO d vars vs (out.set v.toNat (cZ (iG d vars v)))
def gW (d:aa)(vars:List Int):Option aa:=if []∈d then none else if []∈iO d vars vars d then none else some (iO d vars vars d)
theorem ValD.one {d:aa}(h:ValD d)(i:Nat){x:Int}(hx: -1048576≤x∧x≤1048576):ValD (d.set i [(x,x)]):=by
 have key: ∀y∈d.set i [(x,x)],y∈d∨y=[(x,x)]:=fun y hy=>CX hy
 refine⟨by rw[DI];exact h.small,fun y hy=> ?_,fun y hy=> ?_,fun y hy=> ?_⟩
 ·rcases key y hy with hy|rfl
  ·exact h.inb y hy
  ·intro r hr
   obtain rfl:=List.mem_singleton.1 hr
   exact⟨hx.1,hx.2,hx.1,hx.2⟩
 ·rcases key y hy with hy|rfl
  ·exact h.len y hy
  ·simp
 ·rcases key y hy with hy|rfl
  ·exact h.vals y hy
  ·have:Go.Proofs.YtopcjbahjjhdmaaGreat.vals [(x,x)]=[x]:=by
    show rng x x++[]=_
    rw[bS];rfl
   rw[this];simp
def Bm (vars:List Int):Con:=⟨1,vars,[],0,0,[],0⟩
theorem vF {l:List Int}(h:Up l):packG l=cZ l:=by
 have key: ∀(l:List Int) (o:List (Int×Int)) (lo x:Int),Up (x::l)→l.foldl fY (o++[(lo,x)])=o++dM lo x l:=by
  intro l
  induction l with
  |nil=>intro o lo x _;rfl
  |cons y l ih=>
   intro o lo x hu
   have h1:=List.pairwise_cons.1 hu
   have hxy:=h1.1 y (.head _)
   rw[CZ,gX,if_neg (by omega),dM]
   by_cases e:y=x+1
   ·rw[if_pos (by omega),if_pos e,ih _ _ _ h1.2]
   ·rw[if_neg (by omega),if_neg e,ih _ _ _ h1.2,DD];rfl
 cases l with
 |nil=>rfl
 |cons x l=>
  show l.foldl fY (fY [] x)=_
  rw[p9]
  exact key l [] x x h
theorem zp {l:List Int}(h:Up l):cP l=l:=List.mergeSort_of_pairwise (h.imp fun h=>by simp;omega)
theorem nT {d:List (Int×Int)}(h:Fine d):fD d=((vals d).length:Nat):=by
 have hb:=h.domB.1
 have hf:=h.few
 have hok:=h.ok
 have key: ∀(d:List (Int×Int)) (n:Nat),InB d→(∀r∈d,r.1≤r.2)→n+(vals d).length≤1000000000000000→d.foldl (fun n r=>wr (n+wr (wr (r.2-r.1)+1))) (n:Int)=((n+(vals d).length:Nat):Int):=by
  intro d
  induction d with
  |nil=>intro n _ _ _;simp[vals]
  |cons r d ih=>
   intro n hb ho hl
   have h1:=hb r (.head _)
   have h2:=ho r (.head _)
   rw[bj,CW,show(rng r.1 r.2).length=(r.2+1-r.1).toNat by simp[rng]]at hl⊢
   rw[CZ]
   have e:wr ((n:Int)+wr (wr (r.2-r.1)+1))=((n+(r.2+1-r.1).toNat:Nat):Int):=by
    simp only[wr]
    rw[ae (n:=r.2-r.1) (by omega) (by omega),ae (n:=r.2-r.1+1) (by omega) (by omega),ae (by omega) (by omega)]
    omega
   rw[e,ih _ (fun r hr=>hb r (.tail _ hr)) (fun r hr=>ho r (.tail _ hr)) (by omega)]
   congr 1
   omega
 have:=key d 0 hb hok.1 (by omega)
 simpa[fD]using this
theorem j6 {l:List Int}(h:Up l)(hv: ∀v∈l,-1048576≤v∧v≤1048576)(hn:l.length≤4096):Fine (cZ l):=by
 refine⟨fX h,?_,?_⟩
 ·rw[bI h];exact hv
 ·rw[bI h];omega
theorem qT {l:List Int}(h:Up l)(hv: ∀v∈l,-1048576≤v∧v≤1048576)(hn:l.length≤4096):domOfP l=(cZ l,0):=by
 unfold domOfP
 rw[zp h,vF h,nT (j6 h hv hn),bI h,if_pos (List.all_eq_true.2 fun v hm=>by simpa[aH]using hv v hm),if_neg (by omega)]
structure FewD (d:aa):Prop where
 small:d.length*24≤140737488355328
 fine: ∀x∈d,Fine x
 few: ∀x∈d,(vals x).length≤4096
theorem FewD.valD {d:aa}(h:FewD d):ValD d:=⟨h.small,fun x hx=>(h.fine x hx).domB.1,fun x hx=>by have:=(h.fine x hx).len;omega,fun x hx=>by have:=h.few x hx;omega⟩
theorem zd {x:List (Int×Int)}(h:(vals x).length≤4096):pK x=vals x:=CV (by omega)
theorem FewD.at {d:aa}(h:FewD d)(v:Int):(vals (domAt d v)).length≤4096∧Up (vals (domAt d v))∧∀x∈vals (domAt d v),-1048576≤x∧x≤1048576:=by
 unfold domAt
 by_cases hv:v.toNat<d.length
 ·rw[C0,C1 hv]
  have hm:d[v.toNat]∈d:=C5 hv
  exact⟨h.few _ hm,aF (h.fine _ hm).ok,(h.fine _ hm).val⟩
 ·rw[C0,DM (by omega)]
  exact⟨by simp[vals],.nil,fun x hx=>by cases hx⟩
theorem eM {d:aa}(h:FewD d)(vs:List Int):listsP d vs=vs.map fun v=>vals (domAt d v):=
 DS fun v _=>zd (h.at v).1
theorem o5 (d:aa)(vars:List Int): ∀(n:Nat) (had:List Int),had.Nodup→(wo d vars n had=true↔∃rest:List Int,rest.length=n∧(∀k,k<n→rest.getD k 0∈vals (domAt d (vars.getD (had.length+k) 0)))∧(had++rest).Nodup)
 |0,had,hn=>by
  rw[wo]
  exact⟨fun _=>⟨[],rfl,fun k hk=>by omega,by simpa using hn⟩,fun _=>rfl⟩
 |n+1,had,hn=>by
  rw[wo,EJ]
  constructor
  ·rintro⟨x,hx,h⟩
   simp only[CR,Dd,decide_eq_false_iff_not]at h
   have hn2:(had++[x]).Nodup:=List.nodup_append.2 ⟨hn,by simp,fun a ha b hb=>by
    obtain rfl:=List.mem_singleton.1 hb
    exact fun e=>h.1 (e▸ha)⟩
   obtain⟨rest,h1,h2,h3⟩:=(o5 d vars n (had++[x]) hn2).1 h.2
   refine⟨x::rest,by simp[h1],fun k hk=> ?_,by simpa using h3⟩
   cases k with
   |zero=>exact hx
   |succ k=>
    have:=h2 k (by omega)
    rw[CW,show had.length+ [x].length+k=had.length+(k+1)by simp;omega]at this
    exact this
  ·rintro⟨rest,h1,h2,h3⟩
   cases rest with
   |nil=>cases h1
   |cons x rest=>
    have hx:x∉had:=fun hm=>by
     have:=(List.nodup_append.1 h3).2.2 x hm x (.head _)
     exact this rfl
    have h4:((had++[x])++rest).Nodup:=by simpa using h3
    refine⟨x,h2 0 (by omega),?_⟩
    simp only[CR,Dd,decide_eq_false_iff_not]
    refine⟨hx,(o5 d vars n (had++[x]) (List.nodup_append.1 h4).1).2 ⟨rest,by simpa using h1,fun k hk=> ?_,h4⟩⟩
    have:=h2 (k+1) (by omega)
    rw[CW,show had.length+ [x].length+k=had.length+(k+1)by simp;omega]
    exact this
theorem vG {d:aa}(h:FewD d)(vars:List Int):wo d vars vars.length []=(dn (listsP d vars)).2:=by
 have key:wo d vars vars.length []=true↔∃g,Others (listsP d vars) g:=by
  rw[o5 d vars vars.length [] .nil,eM h]
  have hg: ∀j,j<vars.length→(vars.map fun v=>vals (domAt d v)).getD j []=vals (domAt d (vars.getD j 0)):=fun j hj=>by simp[hj]
  constructor
  ·rintro⟨rest,h1,h2,h3⟩
   rw[Df]at h3
   refine⟨fun j=>rest.getD j 0,fun j hj=> ?_,fun j k hj hk e=> ?_⟩
   ·rw[C6]at hj
    rw[hg j hj]
    have:=h2 j hj
    simpa using this
   ·rw[C6]at hj hk
    have e:rest.getD j 0=rest.getD k 0:=e
    rw[C0,C0,C1 (by omega),C1 (by omega)]at e
    exact(Ec h3).1 e
  ·rintro⟨g,h1,h2⟩
   rw[C6]at h1 h2
   refine⟨(List.range vars.length).map g,by simp,fun k hk=> ?_,?_⟩
   ·have:=h1 k hk
    rw[hg k hk]at this
    simpa[hk]using this
   ·rw[Df]
    exact fz List.nodup_range fun x hx y hy e=>h2 x y (List.mem_range.1 hx) (List.mem_range.1 hy) e
 rw[EQ,key,fH]
theorem FewD.one {d:aa}(h:FewD d)(i:Nat){x:Int}(hx: -1048576≤x∧x≤1048576):FewD (d.set i [(x,x)]):=by
 have key: ∀y∈d.set i [(x,x)],y∈d∨y=[(x,x)]:=fun y hy=>CX hy
 have hv:vals [(x,x)]=[x]:=by
  show rng x x++[]=_
  rw[bS];rfl
 refine⟨by rw[DI];exact h.small,fun y hy=> ?_,fun y hy=> ?_⟩
 ·rcases key y hy with hy|rfl
  ·exact h.fine y hy
  ·refine⟨⟨fun r hr=> ?_,by simp⟩,?_,?_⟩
   ·obtain rfl:=List.mem_singleton.1 hr
    exact DO _
   ·rw[hv];intro v hm;obtain rfl:=List.mem_singleton.1 hm;exact hx
   ·rw[hv];simp
 ·rcases key y hy with hy|rfl
  ·exact h.few y hy
  ·rw[hv];simp
theorem Up.filter {l:List Int}(h:Up l)(p:Int→Bool):Up (l.filter p):=List.Pairwise.filter p h
def jP (d:aa)(vars:List Int):Prop:=vars.Nodup∧∀v∈vars,0≤v∧v.toNat<d.length
theorem ke {d:aa}(h:FewD d){vars:List Int}(hv:jP d vars){i:Nat}(hi:i<vars.length){x:Int}(hx: -1048576≤x∧x≤1048576):listsP (d.set vars[i].toNat [(x,x)]) vars=(listsP d vars).set i [x]:=by
 rw[eM h,eM (h.one _ hx)]
 apply Ed (by simp)
 intro j h1 h2
 have hj:j<vars.length:=by simpa using h1
 rw[Ee,List.getElem_set,Ee]
 unfold domAt
 rw[C0,Dc]
 by_cases e:i=j
 ·subst e
  rw[if_pos rfl,if_pos rfl,if_pos (hv.2 _ (C5 hi)).2]
  show rng x x++[]=_
  rw[bS];rfl
 ·have e2: ¬vars[i].toNat=vars[j].toNat:=fun e2=>by
   have h3:=(hv.2 _ (C5 hi)).1
   have h4:=(hv.2 _ (C5 hj)).1
   exact e ((Ec hv.1).1 (by omega:vars[i]=vars[j]))
  rw[if_neg e,if_neg e2,←C0]
theorem A8 {d:aa}(h:FewD d){vars:List Int}(hv:jP d vars){i:Nat}(hi:i<vars.length):mQ (listsP d vars) i=iG d vars vars[i]:=by
 unfold mQ iG
 have e:(listsP d vars).getD i []=vals (domAt d vars[i]):=by rw[eM h];simp[hi]
 rw[e]
 refine FX fun x hx=> ?_
 have hxr:=(h.at vars[i]).2.2 x hx
 rw[←ke h hv hi hxr,vG (h.one _ hxr)]
theorem lg {d:aa}(h:FewD d)(vars:List Int)(v:Int):Up (iG d vars v)∧(iG d vars v).length≤4096∧(∀x∈iG d vars v,-1048576≤x∧x≤1048576):=by
 obtain⟨h1,h2,h3⟩:=h.at v
 exact⟨h2.filter _,D3 (DN ..) h1,fun x hx=>h3 x (List.mem_filter.1 hx).1⟩
theorem wV {d:aa}(h:FewD d){vars:List Int}(hv:jP d vars): ∀(n i:Nat) (out:aa),n+i=vars.length→kC (listsP d vars) (vars.drop i) i out=iO d vars (vars.drop i) out
 |0,i,out,hi=>by
  rw[Dk (by omega)];rfl
 |n+1,i,out,hi=>by
  have hil:i<vars.length:=by omega
  rw[CU hil,kC,iO,A8 h hv hil]
  obtain⟨h1,h2,h3⟩:=lg h vars vars[i]
  rw[qT h1 h3 h2]
  exact wV h hv n (i+1) _ (by omega)
theorem jh (d:aa)(vars:List Int): ∀(vs:List Int) (out:aa),(iO d vars vs out).length=out.length
 | [],out=>rfl
 |v::vs,out=>by rw[iO,jh d vars vs,DI]
theorem kE {d:aa}{vars:List Int}: ∀{vs:List Int} {out:aa} (j:Nat),vs.Nodup→(∀v∈vs,0≤v∧v.toNat<out.length)→(iO d vars vs out)[j]? =if(j:Int)∈vs then some (cZ (iG d vars j))else out[j]?
 | [],out,j,_,_=>by simp[iO]
 |v::vs,out,j,hn,hv=>by
  obtain⟨h1,h2⟩:=List.nodup_cons.1 hn
  have hv0:=hv v (.head _)
  rw[iO,kE j h2 (fun u hu=>by rw[DI];exact hv u (.tail _ hu)),Dc]
  by_cases e:v.toNat=j
  ·have e2:v=(j:Int):=by omega
   subst e2
   rw[if_neg h1,if_pos (List.mem_cons_self ..),if_pos e,if_pos hv0.2]
  ·by_cases hm:(j:Int)∈vs
   ·rw[if_pos hm,if_pos (.tail _ hm)]
   ·have hn2: ¬(j:Int)∈v::vs:=fun h=>by
     rcases List.mem_cons.1 h with h|h
     ·exact e (by omega)
     ·exact hm h
    rw[if_neg hm,if_neg hn2,if_neg e]
theorem jm {d:aa}(h:FewD d){vars:List Int}(hv:jP d vars){i:Nat}(hi:i<vars.length)(x:Int):x∈iG d vars vars[i]↔∃g,Others (listsP d vars) g∧g i=x:=by
 have hL:(listsP d vars).getD i []=vals (domAt d vars[i]):=by rw[eM h];simp[hi]
 have hlen:(listsP d vars).length=vars.length:=C6 ..
 unfold iG
 rw[EG]
 constructor
 ·rintro⟨hx,he⟩
  have hxr:=(h.at vars[i]).2.2 x hx
  rw[vG (h.one _ hxr),fH,ke h hv hi hxr]at he
  obtain⟨g,h1,h2⟩:=he
  rw[DI]at h1 h2
  have hgi:g i=x:=by
   have:=h1 i (by omega)
   rw[C0,Dc,if_pos rfl,if_pos (by omega)]at this
   simpa using this
  refine⟨g,⟨fun j hj=> ?_,h2⟩,hgi⟩
  by_cases e:j=i
  ·subst e;rw[hL,hgi];exact hx
  ·have:=h1 j hj
   rw[C0,Dc,if_neg (Ne.symm e),←C0]at this
   exact this
 ·rintro⟨g,⟨h1,h2⟩,rfl⟩
  have hx:=h1 i (by omega)
  rw[hL]at hx
  have hxr:=(h.at vars[i]).2.2 _ hx
  refine⟨hx,?_⟩
  rw[vG (h.one _ hxr),fH,ke h hv hi hxr]
  refine⟨g,fun j hj=> ?_,fun j k hj hk=> ?_⟩
  ·rw[DI]at hj
   rw[C0,Dc]
   by_cases e:i=j
   ·subst e;rw[if_pos rfl,if_pos hj];simp
   ·rw[if_neg e,←C0];exact h1 j hj
  ·rw[DI]at hj hk
   exact h2 j k hj hk
theorem xc {l:List Int}(h:l≠[]):cZ l≠[]:=by
 cases l with
 |nil=>exact absurd rfl h
 |cons x l=>
  have: ∀(l:List Int) (lo x:Int),dM lo x l≠[]:=by
   intro l
   induction l with
   |nil=>intro lo x;simp[dM]
   |cons y l ih=>intro lo x;rw[dM];split;exact ih _ _;simp
  exact this l x x
theorem zI {d:aa}(h:FewD d){vars:List Int}(hv:jP d vars)(hne:vars≠[]):ol d vars=gW d vars:=by
 unfold ol gW
 by_cases he: []∈d
 ·rw[if_pos he,if_pos he]
 rw[if_neg he,if_neg he]
 have hst:=wV h hv vars.length 0 d (by omega)
 rw[List.drop_zero]at hst
 rw[hst]
 have hat:=fun j=>kE (d:=d) (vars:=vars) (out:=d) j hv.1 hv.2
 by_cases hm:(dn (listsP d vars)).2=true
 ·rw[if_pos hm,if_neg]
  intro hem
  obtain⟨j,hj⟩:=C9 hem
  rw[hat j]at hj
  split at hj
  ·rename_i hjm
   obtain⟨i,hi,e⟩:=EC hjm
   obtain⟨g,hg⟩:=(fH _).1 hm
   have hl:=(jm h hv hi (g i)).2 ⟨g,hg,rfl⟩
   rw[e]at hl
   exact xc (fun e2=>by rw[e2]at hl;cases hl) (C2 hj)
  ·exact he (C4 hj)
 ·rw[if_neg hm,if_pos]
  cases hvs:vars with
  |nil=>exact absurd hvs hne
  |cons v vs=>
   have hi:0<vars.length:=by rw[hvs];simp
   have hv0:=hv.2 _ (C5 hi)
   have hl:iG d vars vars[0]=[]:=by
    cases hl:iG d vars vars[0]with
    |nil=>rfl
    |cons x l=>
     obtain⟨g,hg,_⟩:=(jm h hv hi x).1 (by rw[hl];exact .head _)
     exact absurd ((fH _).2 ⟨g,hg⟩) hm
   have:=hat vars[0].toNat
   have e:((vars[0].toNat:Nat):Int)=vars[0]:=by omega
   rw[e,if_pos (C5 hi),hl]at this
   rw[←hvs]
   exact C4 this
def badR (d:List (Int×Int))(i:Nat):Bool:= !aH (d.getD i (0,0)).1||(!aH (d.getD i (0,0)).2||(decide ((d.getD i (0,0)).1 > (d.getD i (0,0)).2)||(decide ((i:Int) > 0)&&decide ((d.getD i (0,0)).1-(d.getD (i-1) (0,0)).2<2))))
def sizeI (d:List (Int×Int)):Int:=(d.map fun r=>r.2-r.1+1).sum
def chkR (d:List (Int×Int)):Int:=if(List.range d.length).any (badR d)then 20 else if sizeI d > 4096 then 2 else 0
theorem s9 (d:List (Int×Int))(hl:d.length≤1048576):Spec Tryz.prog 31 false [dm d] [.val (.int .i64 (chkR d))]:=by
 refine Spec.body Tryz.func31 rfl rfl rfl fun w0 Z0=> ?_
 generalize hR:chkR d=R
 refine .B ?_
 refine T.K (T.ind (fun i:Nat=>⟨[(0,.val false (dm d)),(3,.val true (.int .i64 (sizeI (d.take i)))),(4,.val true (.int .i64 i))],[],0⟩) (fun i=>i≤d.length∧(0≤sizeI (d.take i)∧sizeI (d.take i)≤i*4194304)∧∀j,j<i→badR d j=false) (fun i=>d.length-i) 0 ⟨DC _,by simp[sizeI],fun j hj=>absurd hj (DY j)⟩ (fun _ _ h=>h) ?_)
 rintro i ⟨hi,hn,hb⟩ ih
 refine .B ?_
 refine T.cd rfl (fun h1=> ?_) (fun h1=> ?_)
 ·have h1:i<d.length:=by simpa using h1
  have hrow:(d.map cR)[((i:Nat):Int).toNat]? =some (cR (d.getD i (0,0))):=by simp[h1,C0]
  have hprev:0<i→(d.map cR)[(((i-1:Nat)):Int).toNat]? =some (cR (d.getD (i-1) (0,0)))∧aH (d.getD (i-1) (0,0)).2=true:=fun h=>by
   refine⟨by rw[D1,C8,C1 (show i-1<d.length by omega),C0,C1 (show i-1<d.length by omega)];rfl,?_⟩
   have:=hb (i-1) (by omega)
   unfold badR at this
   simp only[FD,EU]at this
   exact this.2.1
  have htk:sizeI (d.take (i+1))=sizeI (d.take i)+((d.getD i (0,0)).2-(d.getD i (0,0)).1+1):=by
   unfold sizeI
   rw[C7 h1,DF,List.sum_append,C0,C1 h1]
   simp
  have hno:badR d i=true→R=20:=fun h=>by
   rw[←hR];unfold chkR
   rw[if_pos (List.any_eq_true.2 ⟨i,List.mem_range.2 h1,h⟩)]
  have hbd:badR d i=(!aH (d.getD i (0,0)).1||(!aH (d.getD i (0,0)).2||(decide ((d.getD i (0,0)).1 > (d.getD i (0,0)).2)||(decide ((i:Int) > 0)&&decide ((d.getD i (0,0)).1-(d.getD (i-1) (0,0)).2<2))))):=rfl
  have ih1:=fun hbi:badR d i=false=>fun hs=>ih (i+1) ⟨by omega,hs,fun j hj=>by
   by_cases e:j=i
   ·rw[e];exact hbi
   ·exact hb j (by omega)⟩ (by omega)
  have hw1:IntKind.i64.wrap ((i:Int)+1)=((i+1:Nat):Int):=by rw[ae (by omega) (by omega)];omega
  have hw2:0<i→IntKind.i64.wrap ((i:Int)-1)=((i-1:Nat):Int):=fun h=>by rw[ae (by omega) (by omega)];omega
  generalize badR d i=bad at*
  rw[htk]at ih1
  generalize sizeI (d.take i)=n at*
  generalize d.getD i (0,0)=r at*
  generalize d.getD (i-1) (0,0)=p at*
  obtain⟨lo,hi2⟩:=r
  simp only at*
  refine .B ?_
  refine .I (r:=cR (lo,hi2)) hrow ?_
  refine .B ?_
  refine .C (jU lo) ?_
  cases a1:aH lo
  ·refine .B ?_
   refine T.ct rfl ?_
   refine .B ?_
   rw[hno (by rw[hbd,a1];rfl)]
   exact r1
  ·refine .B ?_
   refine .I (r:=cR (lo,hi2)) hrow ?_
   refine .B ?_
   refine .C (jU hi2) ?_
   cases a2:aH hi2
   ·refine .B ?_
    refine T.ct rfl ?_
    refine .B ?_
    rw[hno (by rw[hbd,a1,a2];rfl)]
    exact r1
   ·have v1:=a1
    have v2:=a2
    simp only[aH,decide_eq_true_eq]at v1 v2
    refine .B ?_
    refine .I (r:=cR (lo,hi2)) hrow ?_
    refine .B ?_
    refine .I (r:=cR (lo,hi2)) hrow ?_
    refine .B ?_
    refine J.g rfl rfl rfl (fun h3=> ?_) (fun h3=> ?_)
    ·refine .B ?_
     refine T.ct rfl ?_
     refine .B ?_
     rw[hno (by rw[hbd,a1,a2,decide_eq_true h3];rfl)]
     exact r1
    ·have h3: ¬lo > hi2:=h3
     refine .B ?_
     refine J.g rfl rfl rfl (fun h4=> ?_) (fun h4=> ?_)
     ·refine .B ?_
      refine .I (r:=cR (lo,hi2)) hrow ?_
      refine .B ?_
      rw[hw2 (by omega)]
      refine .I (r:=cR p) (hprev (by omega)).1 ?_
      refine .B ?_
      have hpv:=(hprev (by omega)).2
      simp only[aH,decide_eq_true_eq]at hpv
      rw[ae (n:=lo-p.2) (by omega) (by omega)]
      refine T.cd rfl (fun h5=> ?_) (fun h5=> ?_)
      ·refine .B ?_
       rw[hno (by rw[hbd,a1,a2,decide_eq_false h3,decide_eq_true h4,decide_eq_true h5];rfl)]
       exact r1
      ·refine .B ?_
       refine .I (r:=cR (lo,hi2)) hrow ?_
       refine .B ?_
       refine .I (r:=cR (lo,hi2)) hrow ?_
       refine .B ?_
       have e1:IntKind.i64.wrap (hi2-lo)=hi2-lo:=ae (by omega) (by omega)
       have e2:IntKind.i64.wrap (hi2-lo+1)=hi2-lo+1:=ae (by omega) (by omega)
       have e3:IntKind.i64.wrap (n+(hi2-lo+1))=n+(hi2-lo+1):=ae (by omega) (by omega)
       rw[e1,e2,e3,hw1]
       exact T.K (ih1 (by rw[hbd,a1,a2,decide_eq_false h3,decide_eq_true h4,decide_eq_false h5];rfl) (by omega))
     ·refine .B ?_
      refine T.cf rfl ?_
      refine .B ?_
      refine .I (r:=cR (lo,hi2)) hrow ?_
      refine .B ?_
      refine .I (r:=cR (lo,hi2)) hrow ?_
      refine .B ?_
      have e1:IntKind.i64.wrap (hi2-lo)=hi2-lo:=ae (by omega) (by omega)
      have e2:IntKind.i64.wrap (hi2-lo+1)=hi2-lo+1:=ae (by omega) (by omega)
      have e3:IntKind.i64.wrap (n+(hi2-lo+1))=n+(hi2-lo+1):=ae (by omega) (by omega)
      rw[e1,e2,e3,hw1]
      exact T.K (ih1 (by rw[hbd,a1,a2,decide_eq_false h3,decide_eq_false h4];rfl) (by omega))
 ·have h1:i=d.length:=by simp at h1;omega
  subst h1
  rw[DE]at hn⊢
  have hany:(List.range d.length).any (badR d)=false:=by
   rw[F6]
   intro j hj
   rw[hb j (List.mem_range.1 hj)];simp
  unfold chkR at hR
  rw[hany]at hR
  simp only[DR,if_false]at hR
  generalize sizeI d=n at*
  refine .B ?_
  refine T.cd rfl (fun h2=> ?_) (fun h2=> ?_)
  ·rw[if_pos h2]at hR
   subst hR
   refine .B ?_
   exact r1
  ·rw[if_neg h2]at hR
   subst hR
   refine .B ?_
   exact r1
structure Takes {α:Type}(le:α→α→Prop)(good:α→Prop)(f:α→Option α):Prop where
 less: ∀a a',good a→f a=some a'→good a'∧le a' a
 mono: ∀a a' b,good a→good b→le a b→f a=some a'→∃b',f b=some b'∧le a' b'
structure Order (α:Type)(le:α→α→Prop)(good:α→Prop):Prop where
 refl: ∀a,le a a
 trans: ∀a b c,le a b→le b c→le a c
 anti: ∀a b,good a→good b→le a b→le b a→a=b
section
variable {α γ:Type}{le:α→α→Prop}{good:α→Prop}(O:Order α le good){f:γ→α→Option α}
def eC (f:γ→α→Option α)(l:List γ)(a:α):Prop:= ∀c∈l,f c a=some a
structure Come (le:α→α→Prop)(good:α→Prop)(f:γ→α→Option α)(l:List γ)(d a:α):Prop where
 fine:good a
 less:le a d
 keep: ∀e,good e→le e d→eC f l e→le e a
include O in
theorem Come.refl {l:List γ}{d:α}(hd:good d):Come le good f l d d:=⟨hd,O.refl d,fun _ _ h _=>h⟩
include O in
theorem Come.step {l:List γ}{d a a':α}{c:γ}(h:Come le good f l d a)(hc:c∈l)(ht:Takes le good (f c))(he:f c a=some a'):Come le good f l d a':=by
 obtain⟨h1,h2⟩:=ht.less a a' h.fine he
 refine⟨h1,O.trans _ _ _ h2 h.less,fun e ge le_ hs=> ?_⟩
 obtain⟨b',hb,hle⟩:=ht.mono e e a ge h.fine (h.keep e ge le_ hs) (hs c hc)
 rw[he]at hb
 exact C2 hb▸hle
theorem Come.none {l:List γ}{d a:α}{c:γ}(h:Come le good f l d a)(hc:c∈l)(ht:Takes le good (f c))(he:f c a=none): ¬∃e,good e∧le e d∧eC f l e:=by
 rintro⟨e,ge,hle,hs⟩
 obtain⟨b',hb,_⟩:=ht.mono e e a ge h.fine (h.keep e ge hle hs) (hs c hc)
 rw[he]at hb;cases hb
def ej (le:α→α→Prop)(good:α→Prop)(f:γ→α→Option α)(l:List γ)(d:α):Option α→Prop
 |some a=>Come le good f l d a∧eC f l a
 |none=> ¬∃e,good e∧le e d∧eC f l e
include O in
theorem ej.one {l l':List γ}{d:α}{R R':Option α}(hl: ∀c,c∈l↔c∈l')(h:ej le good f l d R)(h':ej le good f l' d R'):R=R':=by
 have hst: ∀e,eC f l e↔eC f l' e:=fun e=>⟨fun h c hc=>h c ((hl c).2 hc),fun h c hc=>h c ((hl c).1 hc)⟩
 cases R with
 |none=>
  cases R' with
  |none=>rfl
  |some b=>exact absurd ⟨b,h'.1.fine,h'.1.less,(hst b).2 h'.2⟩ h
 |some a=>
  cases R' with
  |none=>exact absurd ⟨a,h.1.fine,h.1.less,(hst a).1 h.2⟩ h'
  |some b=>
   exact congrArg some (O.anti a b h.1.fine h'.1.fine (h'.1.keep a h.1.fine h.1.less ((hst a).1 h.2)) (h.1.keep b h'.1.fine h'.1.less ((hst b).2 h'.2)))
include O in
theorem ej.less {l l':List γ}{d d' a':α}{R:Option α}(hl: ∀c,c∈l→c∈l')(hd:le d' d)(h:ej le good f l d R)(h':ej le good f l' d' (some a')): ∃a,R=some a∧le a' a:=by
 have hs:eC f l a':=fun c hc=>h'.2 c (hl c hc)
 have hle:=O.trans _ _ _ h'.1.less hd
 cases R with
 |none=>exact absurd ⟨a',h'.1.fine,hle,hs⟩ h
 |some a=>exact⟨a,rfl,h.1.keep a' h'.1.fine hle hs⟩
theorem ej.keeps {l:List γ}{d e:α}{R:Option α}(h:ej le good f l d R)(ge:good e)(hle:le e d)(hs:eC f l e): ∃a,R=some a∧le e a:=by
 cases R with
 |none=>exact absurd ⟨e,ge,hle,hs⟩ h
 |some a=>exact⟨a,rfl,h.1.keep e ge hle hs⟩
theorem ej.takes {l:List γ}{F:α→Option α}(O:Order α le good)(h: ∀d,good d→ej le good f l d (F d)):Takes le good F:=by
 refine⟨fun a a' ga he=> ?_,fun a a' b ga gb hle he=> ?_⟩
 ·have:=h a ga
  rw[he]at this
  exact⟨this.1.fine,this.1.less⟩
 ·have h1:=h a ga
  rw[he]at h1
  exact ej.less O (fun _ h=>h) hle (h b gb) h1
theorem ej.fix {l:List γ}{F:α→Option α}(O:Order α le good)(h: ∀d,good d→ej le good f l d (F d)){a:α}(ga:good a):F a=some a↔eC f l a:=by
 constructor
 ·intro he
  have:=h a ga
  rw[he]at this
  exact this.2
 ·intro hs
  obtain⟨b,hb,hle⟩:=ej.keeps (h a ga) ga (O.refl a) hs
  have:=h a ga
  rw[hb]at this
  rw[hb,O.anti b a this.1.fine ga this.1.less hle]
end
def leD (a b:aa):Prop:=a.length=b.length∧∀v x:Int,0≤v→x∈vals (domAt a v)→x∈vals (domAt b v)
structure GoodD (n:Nat)(d:aa):Prop where
 few:FewD d
 len:d.length=n
 some': []∉d
theorem pc {d:aa}{j:Nat}(h:j<d.length):domAt d (j:Int)=d[j]:=by
 unfold domAt
 rw[C0,D1,C1 h];rfl
theorem pu.mono {a b:aa}(h:leD a b){us:List Int}(h0: ∀u∈us,0≤u){P:List Int→Bool}{v x:Int}(hs: ∃f:Int→Int,(∀u∈us,f u∈vals (domAt a u))∧P (us.map f)=true∧f v=x): ∃f:Int→Int,(∀u∈us,f u∈vals (domAt b u))∧P (us.map f)=true∧f v=x:=by
 obtain⟨f,h1,h2,h3⟩:=hs
 exact⟨f,fun u hu=>h.2 u _ (h0 u hu) (h1 u hu),h2,h3⟩
structure SuppS (n:Nat)(us:List Int)(P:List Int→Bool)(f:aa→Option aa):Prop where
 ok: ∀d out,GoodD n d→f d=some out→GoodD n out∧(∀v∈us,∀x,x∈vals (domAt out v)↔∃g:Int→Int,(∀u∈us,g u∈vals (domAt d u))∧P (us.map g)=true∧g v=x)∧∀v,0≤v→v∉us→domAt out v=domAt d v
 no: ∀d,GoodD n d→f d=none→∀g:Int→Int,(∀u∈us,g u∈vals (domAt d u))→P (us.map g)=false
 in': ∀u∈us,0≤u∧u.toNat<n
 ne:us≠[]
theorem GoodD.ne {n:Nat}{d:aa}(h:GoodD n d){v:Int}(hv:v.toNat<n): ∃x,x∈vals (domAt d v):=by
 have hm:domAt d v∈d:=by
  unfold domAt
  rw[C0,C1 (by rw[h.len];exact hv)]
  exact C5 _
 have hok:=(h.few.fine _ hm).ok
 cases hd:domAt d v with
 |nil=>rw[hd]at hm;exact absurd hm h.some'
 |cons r rest=>
  rw[hd]at hok
  exact⟨r.1,aT.2 ⟨r,.head _,DO _,hok.1 r (.head _)⟩⟩
theorem SuppS.takes {n:Nat}{us:List Int}{P:List Int→Bool}{f:aa→Option aa}(h:SuppS n us P f):Takes leD (GoodD n) f:=by
 refine⟨fun a a' ga he=> ?_,fun a a' b ga gb hle he=> ?_⟩
 ·obtain⟨g1,h1,h2⟩:=h.ok a a' ga he
  refine⟨g1,by rw[g1.len,ga.len],fun v x h0 hx=> ?_⟩
  by_cases hv:v∈us
  ·obtain⟨g,h3,_,rfl⟩:=(h1 v hv x).1 hx
   exact h3 v hv
  ·rw[h2 v h0 hv]at hx;exact hx
 ·obtain⟨g1,h1,h2⟩:=h.ok a a' ga he
  cases hb:f b with
  |none=>
   obtain⟨u,hu⟩:=Dx _ h.ne
   have hun:=(h.in' u hu).2
   obtain⟨x,hx⟩:=g1.ne hun
   obtain⟨g,h3,h4,_⟩:=(h1 u hu x).1 hx
   have:=h.no b gb hb g fun w hw=>hle.2 w _ (h.in' w hw).1 (h3 w hw)
   rw[h4]at this;cases this
  |some b'=>
   obtain⟨g2,h3,h4⟩:=h.ok b b' gb hb
   refine⟨b',rfl,by rw[g1.len,g2.len],fun v x h0 hx=> ?_⟩
   by_cases hv:v∈us
   ·exact(h3 v hv x).2 (pu.mono hle (fun u hu=>(h.in' u hu).1) ((h1 v hv x).1 hx))
   ·rw[h2 v h0 hv]at hx
    rw[h4 v h0 hv]
    exact hle.2 v x h0 hx
theorem Ca {n:Nat}{vars:List Int}(hv:vars.Nodup∧∀v∈vars,0≤v∧v.toNat<n)(hne:vars≠[]):SuppS n vars (fun l=>decide l.Nodup) fun d=>gW d vars:=by
 have hV: ∀d,GoodD n d→jP d vars:=fun d hd=>⟨hv.1,fun v hm=>by rw[hd.len];exact hv.2 v hm⟩
 have ho: ∀d,GoodD n d→∀g:Int→Int,(∀u∈vars,g u∈vals (domAt d u))→(vars.map g).Nodup→Others (listsP d vars) fun j=>g (vars.getD j 0):=fun d hd g h1 h2=>by
  rw[eM hd.few]
  refine⟨fun j hj=> ?_,fun j k hj hk e=> ?_⟩
  ·rw[C6]at hj
   have:=h1 _ (C5 hj)
   simpa[hj]using this
  ·rw[C6]at hj hk
   have e:g (vars.getD j 0)=g (vars.getD k 0):=e
   have e2:(vars.map g)[j]'(by simpa using hj)=(vars.map g)[k]'(by simpa using hk):=by simpa[hj,hk]using e
   exact(Ec h2).1 e2
 refine⟨fun d out hd he=> ?_,fun d hd he g hg=> ?_,?_,?_⟩
 ·unfold gW at he
  split at he
  ·cases he
  ·split at he
   ·cases he
   ·rename_i hno
    obtain rfl:=C2 he
    have hat:=fun j=>kE (d:=d) (vars:=vars) (out:=d) j hv.1 (hV d hd).2
    have hdat: ∀v,v∈vars→domAt (iO d vars vars d) v=cZ (iG d vars v):=fun v hm=>by
     have h0:=hv.2 v hm
     have:=hat v.toNat
     rw[show((v.toNat:Nat):Int)=v by omega,if_pos hm]at this
     unfold domAt
     rw[C0,this];rfl
    refine⟨⟨⟨by rw[jh];exact hd.few.small,fun x hx=> ?_,fun x hx=> ?_⟩,by rw[jh,hd.len],hno⟩,fun v hm x=> ?_,fun v h0 hm=> ?_⟩
    ·obtain⟨j,hj⟩:=C9 hx
     rw[hat j]at hj
     split at hj
     ·obtain⟨h1,h2,h3⟩:=lg hd.few vars (j:Int)
      exact C2 hj▸j6 h1 h3 h2
     ·exact hd.few.fine x (C4 hj)
    ·obtain⟨j,hj⟩:=C9 hx
     rw[hat j]at hj
     split at hj
     ·obtain⟨h1,h2,h3⟩:=lg hd.few vars (j:Int)
      rw[←C2 hj,bI h1];exact h2
     ·exact hd.few.few x (C4 hj)
    ·rw[hdat v hm,bI (lg hd.few vars v).1]
     obtain⟨i,hi,rfl⟩:=EC hm
     rw[jm hd.few (hV d hd) hi]
     have hlen:(listsP d vars).length=vars.length:=C6 ..
     constructor
     ·rintro⟨g,⟨h1,h2⟩,rfl⟩
      refine⟨fun u=>g (vars.idxOf u),fun u hu=> ?_,?_,?_⟩
      ·have hx:=F7 hu
       have:=h1 (vars.idxOf u) (by omega)
       rw[eM hd.few]at this
       simpa[hx]using this
      ·refine decide_eq_true (fz hv.1 fun a ha b hb e=> ?_)
       have hxa:=F7 ha
       have hxb:=F7 hb
       have e2:=h2 _ _ (by omega) (by omega) e
       have e3:vars[vars.idxOf a]=vars[vars.idxOf b]:=by simp only[e2]
       simpa using e3
      ·show g (vars.idxOf vars[i])=g i
       congr 1
       exact hv.1.idxOf_getElem i hi
     ·rintro⟨g,h1,h2,rfl⟩
      refine⟨_,ho d hd g h1 (of_decide_eq_true h2),?_⟩
      show g (vars.getD i 0)=_
      rw[C0,C1 hi];rfl
    ·by_cases hl:v.toNat<d.length
     ·have:=hat v.toNat
      rw[show((v.toNat:Nat):Int)=v by omega,if_neg hm]at this
      unfold domAt
      rw[C0,C0,this]
     ·unfold domAt
      rw[C0,C0,DM (by rw[jh];omega),DM (by omega)]
 ·refine decide_eq_false fun hn=> ?_
  have hoo:=ho d hd g hg hn
  unfold gW at he
  rw[if_neg hd.some']at he
  split at he
  ·rename_i hem
   obtain⟨j,hj⟩:=C9 hem
   rw[kE j hv.1 (hV d hd).2]at hj
   split at hj
   ·rename_i hm
    obtain⟨i,hi,e⟩:=EC hm
    have:=(jm hd.few (hV d hd) hi _).2 ⟨_,hoo,rfl⟩
    rw[e]at this
    exact xc (fun e2=>by rw[e2]at this;cases this) (C2 hj)
   ·exact hd.some' (C4 hj)
  ·cases he
 ·exact hv.2
 ·exact hne
theorem ja {n:Nat}{a b:aa}(ga:GoodD n a)(gb:GoodD n b)(h: ∀v x:Int,0≤v→(x∈vals (domAt a v)↔x∈vals (domAt b v))):a=b:=by
 refine Ed (by rw[ga.len,gb.len]) fun j h1 h2=> ?_
 have h3:=h (j:Int)
 rw[pc h1,pc h2]at h3
 have f1:=(ga.few.fine _ (C5 h1)).ok
 have f2:=(gb.few.fine _ (C5 h2)).ok
 rw[←eH f1,←eH f2,dF (aF f1) (aF f2) fun x=>h3 x (by omega)]
theorem aZ (n:Nat):Order aa leD (GoodD n):=by
 refine⟨fun a=>⟨rfl,fun _ _ _ h=>h⟩,fun a b c h1 h2=>⟨h1.1.trans h2.1,fun v x h0 h=>h2.2 v x h0 (h1.2 v x h0 h)⟩,fun a b ga gb h1 h2=> ?_⟩
 exact ja ga gb fun v x h0=>⟨h1.2 v x h0,h2.2 v x h0⟩
theorem SuppS.stays {n:Nat}{us:List Int}{P:List Int→Bool}{f:aa→Option aa}(h:SuppS n us P f){a b:aa}(ga:GoodD n a)(gb:GoodD n b)(ha:f a=some a)(hab: ∀u∈us,domAt a u=domAt b u):f b=some b:=by
 obtain⟨_,h1,_⟩:=h.ok a a ga ha
 have hsupp: ∀v∈us,∀x,x∈vals (domAt b v)↔∃g:Int→Int,(∀u∈us,g u∈vals (domAt b u))∧P (us.map g)=true∧g v=x:=fun v hv x=>by
  rw[←hab v hv,h1 v hv x]
  constructor
  ·rintro⟨g,h2,h3,h4⟩
   exact⟨g,fun u hu=>by rw[←hab u hu];exact h2 u hu,h3,h4⟩
  ·rintro⟨g,h2,h3,h4⟩
   exact⟨g,fun u hu=>by rw[hab u hu];exact h2 u hu,h3,h4⟩
 cases hb:f b with
 |none=>
  obtain⟨u,hu⟩:=Dx _ h.ne
  obtain⟨x,hx⟩:=gb.ne (h.in' u hu).2
  obtain⟨g,h2,h3,_⟩:=(hsupp u hu x).1 hx
  have:=h.no b gb hb g h2
  rw[h3]at this;cases this
 |some b'=>
  obtain⟨g',h2,h3⟩:=h.ok b b' gb hb
  congr 1
  refine ja g' gb fun v x h0=> ?_
  by_cases hv:v∈us
  ·rw[h2 v hv x,hsupp v hv x]
  ·rw[h3 v h0 hv]
theorem SuppS.point {n:Nat}{us:List Int}{P:List Int→Bool}{f:aa→Option aa}(h:SuppS n us P f){e:aa}(ge:GoodD n e)(g:Int→Int)(he: ∀u∈us,vals (domAt e u)=[g u]):f e=(if P (us.map g)=true then some e else none):=by
 have huniq: ∀g':Int→Int,(∀u∈us,g' u∈vals (domAt e u))→us.map g'=us.map g:=fun g' hg'=>DS fun u hu=>by
  have:=hg' u hu
  rw[he u hu]at this
  exact List.mem_singleton.1 this
 cases hf:f e with
 |none=>
  have:=h.no e ge hf g fun u hu=>by rw[he u hu];exact .head _
  rw[this];rfl
 |some e'=>
  obtain⟨g',h2,h3⟩:=h.ok e e' ge hf
  have hp:P (us.map g)=true:=by
   obtain⟨u,hu⟩:=Dx _ h.ne
   obtain⟨x,hx⟩:=g'.ne (h.in' u hu).2
   obtain⟨q,h4,h5,_⟩:=(h2 u hu x).1 hx
   rw[←huniq q h4];exact h5
  rw[if_pos hp]
  congr 1
  refine ja g' ge fun v x h0=> ?_
  by_cases hv:v∈us
  ·rw[h2 v hv x,he v hv,DL]
   constructor
   ·rintro⟨q,h4,_,rfl⟩
    have:=h4 v hv
    rw[he v hv]at this
    exact List.mem_singleton.1 this
   ·rintro rfl
    exact⟨g,fun u hu=>by rw[he u hu];exact .head _,hp,rfl⟩
  ·rw[h3 v h0 hv]
def atR (a:List Int)(v:Int):Int:=if v<0 then 0 else a.getD v.toNat 0
theorem sa (a:List Int)(v:Int)(hl:a.length*8≤140737488355328):Spec Tryz.prog 53 false [av a,.int .i64 v] [.val (.int .i64 (atR a v))]:=by
 refine Spec.body Tryz.func53 rfl rfl rfl fun w0 Z0=> ?_
 unfold atR
 refine .B ?_
 refine J.g rfl rfl rfl (fun h=> ?_) (fun h=> ?_)
 ·refine .B ?_
  refine T.ct rfl ?_
  refine .B ?_
  exact⟨_,.v rfl rfl (by rw[if_pos h]) (fun _=>rfl) .nil⟩
 ·refine .B ?_
  refine T.cd rfl (fun h2=> ?_) (fun h2=> ?_)
  ·refine .B ?_
   refine⟨_,.v rfl rfl ?_ (fun _=>rfl) .nil⟩
   rw[if_neg h,C0,DM (by simp at h2;omega)];rfl
  ·have h2:v.toNat<a.length:=by simp at h2;omega
   refine .B ?_
   refine J.i rfl rfl rfl rfl rfl rfl rfl rfl rfl (r:=cI a[v.toNat]) (by omega) (aO h2) rfl ?_
   refine .B ?_
   refine⟨_,.v rfl rfl ?_ (fun _=>rfl) .nil⟩
   rw[if_neg h,C0,C1 h2];rfl
def pickedR (vars a:List Int):List Int:=vars.map (atR a)
theorem th (vars a:List Int)(hv:vars.length*8≤140737488355328)(hl:a.length*8≤140737488355328):Spec Tryz.prog 50 false [av vars,av a] [.own 3 1 ((pickedR vars a).map cI)]:=by
 refine Spec.body Tryz.func50 rfl rfl rfl fun w0 Z0=> ?_
 refine .B ?_
 refine .O ?_
 refine .B ?_
 refine T.K (T.ind (fun i:Nat=>⟨[(0,.val false (av vars)),(1,.val false (av a)),(4,.nilsl),(5,.ref 0),(6,.val true (.int .i64 i))],[(0,some (.sl 3 1 true ((pickedR (vars.take i) a).map cI)))],1⟩) (fun i=>i≤vars.length) (fun i=>vars.length-i) 0 (by simp) (fun _ _ h=>h) ?_)
 rintro i hi ih
 refine .B ?_
 refine T.cd rfl (fun h1=> ?_) (fun h1=> ?_)
 ·have h1:i<vars.length:=by simpa using h1
  refine .B ?_
  refine .I (r:=cI vars[i]) (aO h1) ?_
  refine .B ?_
  refine .C (sa a vars[i] hl) ?_
  refine .B ?_
  refine .V ?_
  refine J.aI rfl rfl rfl rfl rfl rfl rfl rfl rfl rfl rfl rfl rfl rfl rfl rfl rfl rfl rfl (by simp[pickedR];omega) ?_
  refine .B ?_
  rw[ak (l:=vars.length) (by omega) (by omega)]
  have e:pickedR (vars.take i) a++[atR a vars[i]]=pickedR (vars.take (i+1)) a:=by
   rw[C7 h1]
   unfold pickedR
   rw[DF]
   rfl
  rw[e]
  exact T.K (ih (i+1) (by omega) (by omega))
 ·have h1:i=vars.length:=by simp at h1;omega
  subst h1
  refine .B ?_
  refine⟨_,.o rfl rfl (by rw[DE]) (fun _=> .inl rfl) (by simp) .nil⟩
def dp (op n rhs:Int):Bool:=if op=0 then decide (n≤rhs)else(decide (n=rhs)==decide (op=1))
theorem yH (op n rhs:Int):Spec Tryz.prog 51 false [.int .i64 op,.int .i64 n,.int .i64 rhs] [.val (.bool (dp op n rhs))]:=by
 refine Spec.body Tryz.func51 rfl rfl rfl fun w0 Z0=> ?_
 unfold dp
 refine .B ?_
 refine T.cd rfl (fun h=> ?_) (fun h=> ?_)
 ·refine .B ?_
  exact⟨_,.v rfl rfl (by rw[if_pos h]) (fun _=>rfl) .nil⟩
 ·refine .B ?_
  exact⟨_,.v rfl rfl (by rw[if_neg h]) (fun _=>rfl) .nil⟩
def sumW (vars coefs a:List Int):Int:=(vars.zip coefs).foldl (fun n p=>IntKind.i64.wrap (n+IntKind.i64.wrap (p.2*atR a p.1))) 0
theorem xY (vars coefs a:List Int)(hv:vars.length*8≤140737488355328)(hc:coefs.length*8≤140737488355328)(hl:a.length*8≤140737488355328):Spec Tryz.prog 49 false [av vars,av coefs,av a] [.val (.int .i64 (sumW vars coefs a))]:=by
 refine Spec.body Tryz.func49 rfl rfl rfl fun w0 Z0=> ?_
 refine .B ?_
 refine T.K (T.ind (fun i:Nat=>⟨[(0,.val false (av vars)),(1,.val false (av coefs)),(2,.val false (av a)),(7,.val true (.int .i64 (sumW (vars.take i) (coefs.take i) a))),(8,.val true (.int .i64 i))],[],0⟩) (fun i=>i≤vars.length∧i≤coefs.length) (fun i=>vars.length-i) 0 (by simp) (fun _ _ h=>h) ?_)
 rintro i ⟨hi,hi2⟩ ih
 have fin: ∀(h:i=vars.length∨i=coefs.length),sumW (vars.take i) (coefs.take i) a=sumW vars coefs a:=by
  intro h
  unfold sumW
  rw[List.zip_eq_zipWith,List.zip_eq_zipWith,←List.take_zipWith,CV]
  simp;omega
 refine .B ?_
 refine J.g rfl rfl rfl (fun h=> ?_) (fun h=> ?_)
 ·have h:i<vars.length:=by simpa using h
  refine .B ?_
  refine T.cd rfl (fun h1=> ?_) (fun h1=> ?_)
  ·have h1:i<coefs.length:=by simpa using h1
   refine .B ?_
   refine .I (r:=cI coefs[i]) (aO h1) ?_
   refine .B ?_
   refine .I (r:=cI vars[i]) (aO h) ?_
   refine .B ?_
   refine .C (sa a vars[i] hl) ?_
   refine .B ?_
   have e:IntKind.i64.wrap (sumW (vars.take i) (coefs.take i) a+IntKind.i64.wrap (coefs[i]*atR a vars[i]))=sumW (vars.take (i+1)) (coefs.take (i+1)) a:=by
    unfold sumW
    rw[C7 h,C7 h1,List.zip_append (by simp;omega),Fx]
    rfl
   rw[e,ak (l:=vars.length) (by omega) (by omega)]
   exact T.K (ih (i+1) ⟨by omega,by omega⟩ (by omega))
  ·refine .B ?_
   refine⟨_,.v rfl rfl (by rw[fin];simp at h1;omega) (fun _=>rfl) .nil⟩
 ·refine .B ?_
  refine T.cf rfl ?_
  refine .B ?_
  refine⟨_,.v rfl rfl (by rw[fin];simp at h;omega) (fun _=>rfl) .nil⟩
def dz:List Int→List Int→Int
 | [],[]=>0
 | [],_::_=> -1
 |_::_,[]=>1
 |x::xs,y::ys=>if x<y then -1 else if y<x then 1 else dz xs ys
theorem vH (a b:List Int)(ha:a.length*8≤140737488355328)(hb:b.length*8≤140737488355328):Spec Tryz.prog 54 false [av a,av b] [.val (.int .i64 (dz a b))]:=by
 refine Spec.body Tryz.func54 rfl rfl rfl fun w0 Z0=> ?_
 refine .B ?_
 refine T.K (T.ind (fun i:Nat=>⟨[(0,.val false (av a)),(1,.val false (av b)),(5,.val true (.int .i64 i))],[],0⟩) (fun i=>i≤a.length∧i≤b.length∧dz (a.drop i) (b.drop i)=dz a b) (fun i=>a.length-i) 0 (by simp) (fun _ _ h=>h) ?_)
 rintro i ⟨hi,hi2,he⟩ ih
 refine .B ?_
 refine J.g rfl rfl rfl (fun h=> ?_) (fun h=> ?_)
 ·have h:i<a.length:=by simpa using h
  refine .B ?_
  refine T.cd rfl (fun h1=> ?_) (fun h1=> ?_)
  ·have h1:i<b.length:=by simpa using h1
   have ed:dz (a.drop i) (b.drop i)=if a[i]<b[i]then -1 else if b[i]<a[i]then 1 else dz (a.drop (i+1)) (b.drop (i+1)):=by
    rw[CU h,CU h1,dz]
   refine .B ?_
   refine .I (r:=cI a[i]) (aO h) ?_
   refine .B ?_
   refine .I (r:=cI b[i]) (aO h1) ?_
   refine .B ?_
   refine T.cd rfl (fun h2=> ?_) (fun h2=> ?_)
   ·refine .B ?_
    refine⟨_,.v rfl rfl ?_ (fun _=>rfl) .nil⟩
    rw[←he,ed,if_pos h2]
   ·refine .B ?_
    refine .I (r:=cI a[i]) (aO h) ?_
    refine .B ?_
    refine .I (r:=cI b[i]) (aO h1) ?_
    refine .B ?_
    refine T.cd rfl (fun h3=> ?_) (fun h3=> ?_)
    ·refine .B ?_
     refine⟨_,.v rfl rfl ?_ (fun _=>rfl) .nil⟩
     rw[←he,ed,if_neg h2,if_pos h3]
    ·refine .B ?_
     rw[ak (l:=a.length) (by omega) (by omega)]
     refine T.K (ih (i+1) ⟨by omega,by omega,?_⟩ (by omega))
     rw[←he,ed,if_neg h2,if_neg h3]
  ·have h1:i=b.length:=by simp at h1;omega
   refine .B ?_
   refine T.cd rfl (fun h2=> ?_) (fun h2=> ?_)
   ·exact absurd h2 (by simp;omega)
   ·refine .B ?_
    refine T.cd rfl (fun h3=> ?_) (fun h3=> ?_)
    ·refine .B ?_
     refine⟨_,.v rfl rfl ?_ (fun _=>rfl) .nil⟩
     rw[←he,h1,De,CU (by omega),dz]
    ·exact absurd (by simp;omega) h3
 ·have h:i=a.length:=by simp at h;omega
  refine .B ?_
  refine T.cf rfl ?_
  refine .B ?_
  refine T.cd rfl (fun h2=> ?_) (fun h2=> ?_)
  ·have h2:a.length<b.length:=by simpa using h2
   refine .B ?_
   refine⟨_,.v rfl rfl ?_ (fun _=>rfl) .nil⟩
   rw[←he,h,De,CU h2,dz]
  ·have h2: ¬a.length<b.length:=by simpa using h2
   refine .B ?_
   refine T.cd rfl (fun h3=> ?_) (fun h3=> ?_)
   ·exact absurd h3 (by simp;omega)
   ·refine .B ?_
    refine⟨_,.v rfl rfl ?_ (fun _=>rfl) .nil⟩
    rw[←he,h,De,FR (by omega),dz]
def holds6 (vars a:List Int):Bool:=decide (dz ((pickedR vars a).take (vars.length / 2)) ((pickedR vars a).drop (vars.length / 2))≤0)
def wK (v:Int):Int:=IntKind.i64.wrap (BitVec.ofInt IntKind.i64.bits v &&& BitVec.ofInt IntKind.i64.bits 65535).toNat
theorem Bt (v:Int):0≤wK v∧wK v≤65535:=by
 have h:(BitVec.ofInt IntKind.i64.bits v &&& BitVec.ofInt IntKind.i64.bits 65535).toNat≤65535:=by
  rw[BitVec.toNat_and]
  exact D3 Nat.and_le_right (by decide)
 unfold wK
 rw[ae (by omega) (by omega)]
 omega
def litH (p:Int×Int):Bool:=(decide (p.2=1)&&decide (p.1=1))||(decide (p.2= -1)&&decide (p.1=0))
def xy (l:List Int):Bool:=decide (2≤l.length)&&decide (0≤l.getD 0 0)&&decide (l.getD 0 0+2<l.length)&&decide (l.getD (l.getD 0 0+2).toNat 0=l.getD 1 0)
def soR (c:Con)(a:List Int):Bool:=dp c.op (sumW c.vars c.coefs a) c.rhs
def holdsR (c:Con)(a:List Int):Bool:=
 if c.kind=0 then soR c a else
 if c.kind=1 then decide ((aV (pickedR c.vars a)).length=(pickedR c.vars a).length)else
 if c.kind=2 then c.rows.any fun r=>decide (r=pickedR c.vars a)else
 if c.kind=3 then xy (pickedR c.vars a)else
 if c.kind=4 then(soR c a&&decide (atR a c.b=1))||(!soR c a&&decide (atR a c.b=0))else
 if c.kind=5 then((pickedR c.vars a).zip c.coefs).any litH else
 holds6 c.vars a
theorem wh (c:Con)(a:List Int)(hc:ConB c)(hl:a.length*8≤140737488355328)(hk5:c.kind=5→c.vars.length≤c.coefs.length)(hk3:c.kind=3→∀x∈a,x≤4611686018427387904):
  Spec Tryz.prog 25 false [.agg (cC c),av a] [.val (.bool (holdsR c a))]:=by
 obtain⟨h1,h2,h3,h4⟩:=hc
 refine Spec.body Tryz.func25 rfl rfl rfl fun w0 Z0=> ?_
 have hpl:(pickedR c.vars a).length=c.vars.length:=by simp[pickedR]
 have hheld:=yH c.op (sumW c.vars c.coefs a) c.rhs
 have hso:dp c.op (sumW c.vars c.coefs a) c.rhs=soR c a:=rfl
 rw[hso]at hheld
 have hsort:=iQ (pickedR c.vars a) (by omega)
 have hat:=sa a c.b hl
 have ho6:holds6 c.vars a=decide (dz ((pickedR c.vars a).take (c.vars.length / 2)) ((pickedR c.vars a).drop (c.vars.length / 2))≤0):=rfl
 have hord:=vH ((pickedR c.vars a).take (c.vars.length / 2)) ((pickedR c.vars a).drop (c.vars.length / 2)) (by simp;omega) (by simp;omega)
 have hpk:=th c.vars a (by omega) hl
 have hsm:=xY c.vars c.coefs a (by omega) h2 hl
 have hpin:c.kind=3→∀x∈pickedR c.vars a,x≤4611686018427387904:=by
  intro hk x hx
  obtain⟨v,_,rfl⟩:=List.mem_map.1 hx
  unfold atR
  split
  ·omega
  ·rw[C0]
   cases hg:a[v.toNat]? with
   |none=>simp
   |some y=>simpa using hk3 hk y (C4 hg)
 clear hso
 unfold holdsR
 generalize holds6 c.vars a=h6 at*
 generalize sumW c.vars c.coefs a=sm at*
 generalize soR c a=so at*
 generalize pickedR c.vars a=l at*
 refine .B ?_
 refine .C hpk ?_
 refine .B ?_
 refine .C hsm ?_
 refine .B ?_
 refine .C hheld ?_
 refine .B ?_
 refine T.cd rfl (fun k0=> ?_) (fun k0=> ?_)
 ·have k0:c.kind=0:=k0
  rw[if_pos k0]
  refine .B ?_
  exact r1
 have k0: ¬c.kind=0:=k0
 rw[if_neg k0]
 refine .B ?_
 refine T.cd rfl (fun k1=> ?_) (fun k1=> ?_)
 ·have k1:c.kind=1:=k1
  rw[if_pos k1]
  refine .B ?_
  refine .C hsort ?_
  refine .B ?_
  exact⟨_,.v rfl rfl (by simp;omega) (fun _=>rfl) .nil⟩
 have k1: ¬c.kind=1:=k1
 rw[if_neg k1]
 refine .B ?_
 refine T.cd rfl (fun k2=> ?_) (fun k2=> ?_)
 ·have k2:c.kind=2:=k2
  rw[if_pos k2]
  refine .B ?_
  refine T.sub (Rel.frz (s:=5) (fun _ h=>h) rfl rfl) ?_
  refine T.K (T.ind (fun i:Nat=>⟨[(2,.optr 0 0 0 0),(5,.val true (av l)),(7,.val true (.int .i64 i))],[(0,some (.box false (cC c)))],1⟩) (fun i=>i≤c.rows.length∧((c.rows.take i).any fun r=>decide (r=l))=false) (fun i=>c.rows.length-i) 0 (by simp) (fun _ _ h=>h) ?_)
  rintro i ⟨hi,he⟩ ih
  refine .B ?_
  refine T.cd rfl (fun h5=> ?_) (fun h5=> ?_)
  ·have h5:i<c.rows.length:=by simpa using h5
   have hrl:=h4 _ (C5 h5)
   have hn:=lX c.rows[i] l hrl
   refine .B ?_
   refine .I (r:=cL c.rows[i]) (aO h5) ?_
   refine .B ?_
   refine .C hn ?_
   by_cases e:c.rows[i]=l
   ·have hany:(c.rows.any fun r=>decide (r=l))=true:=List.any_eq_true.2 ⟨_,C5 h5,by simp[e]⟩
    rw[decide_eq_true e,hany]
    refine .B ?_
    refine T.ct rfl ?_
    refine .B ?_
    exact r1
   ·rw[decide_eq_false e]
    refine .B ?_
    refine T.cf rfl ?_
    refine .B ?_
    rw[ak (l:=c.rows.length) (by omega) (by omega)]
    exact T.K (ih (i+1) ⟨by omega,by rw[C7 h5,List.any_append,he];simp[e]⟩ (by omega))
  ·have h5:i=c.rows.length:=by simp at h5;omega
   subst h5
   rw[DE]at he
   rw[he]
   refine .B ?_
   exact r1
 have k2: ¬c.kind=2:=k2
 rw[if_neg k2]
 refine .B ?_
 refine T.cd rfl (fun k3=> ?_) (fun k3=> ?_)
 ·have k3:c.kind=3:=k3
  rw[if_pos k3]
  have hpin:=hpin k3
  unfold xy
  refine .M ?_
  refine T.sub (Rel.frz (s:=5) (fun _ h=>h) rfl rfl) ?_
  refine .B ?_
  refine J.g rfl rfl rfl (fun g1=> ?_) (fun g1=> ?_)
  ·have g1:2≤l.length:=by
    have g1:((l.map cI).length:Int)≥2:=g1
    simp only[C6]at g1;omega
   obtain⟨x0,hx0⟩: ∃x,l[0]? =some x:=⟨_,C1 (by omega)⟩
   obtain⟨x1,hx1⟩: ∃x,l[1]? =some x:=⟨_,C1 (by omega)⟩
   have e0:l.getD 0 0=x0:=by rw[C0,hx0];rfl
   have e1:l.getD 1 0=x1:=by rw[C0,hx1];rfl
   have hr0:(l.map cI)[(0:Int).toNat]? =some (cI x0):=by simp[hx0]
   have hr1:(l.map cI)[(1:Int).toNat]? =some (cI x1):=by simp[hx1]
   have hp0:=hpin x0 (C4 hx0)
   rw[decide_eq_true g1,e0,e1]
   refine .B ?_
   refine J.i rfl rfl rfl rfl rfl rfl rfl rfl rfl (r:=cI x0) (by decide) hr0 rfl ?_
   refine .B ?_
   refine J.g rfl rfl rfl (fun g2=> ?_) (fun g2=> ?_)
   ·have g2:0≤x0:=g2
    have ew:IntKind.i64.wrap (x0+2)=x0+2:=ae (by omega) (by omega)
    rw[decide_eq_true g2]
    refine .B ?_
    refine J.i rfl rfl rfl rfl rfl rfl rfl rfl rfl (r:=cI x0) (by decide) hr0 rfl ?_
    repeat' first|refine J.e rfl rfl rfl rfl ?_|refine J.skip rfl rfl rfl ?_|refine J.bx rfl rfl rfl rfl rfl rfl ?_
    rw[ew]
    repeat' first|refine J.e rfl rfl rfl rfl ?_|refine J.skip rfl rfl rfl ?_|refine J.bx rfl rfl rfl rfl rfl rfl ?_
    refine J.g rfl rfl rfl (fun g3=> ?_) (fun g3=> ?_)
    ·have g3:x0+2<l.length:=by simpa using g3
     have g4:(x0+2).toNat<l.length:=by omega
     obtain⟨x2,hx2⟩: ∃x,l[(x0+2).toNat]? =some x:=⟨_,C1 g4⟩
     have e2:l.getD (x0+2).toNat 0=x2:=by rw[C0,hx2];rfl
     have hr2:(l.map cI)[(x0+2).toNat]? =some (cI x2):=by simp[hx2]
     rw[decide_eq_true g3,e2]
     refine .B ?_
     refine J.i rfl rfl rfl rfl rfl rfl rfl rfl rfl (r:=cI x0) (by decide) hr0 rfl ?_
     repeat' first|refine J.e rfl rfl rfl rfl ?_|refine J.skip rfl rfl rfl ?_|refine J.bx rfl rfl rfl rfl rfl rfl ?_
     rw[ew]
     refine .I (r:=cI x2) hr2 ?_
     refine .B ?_
     refine J.i rfl rfl rfl rfl rfl rfl rfl rfl rfl (r:=cI x1) (by decide) hr1 rfl ?_
     refine .B ?_
     exact⟨_,.v rfl rfl (by simp) (fun _=>rfl) .nil⟩
    ·have g3: ¬x0+2<l.length:=by simpa using g3
     rw[decide_eq_false g3]
     refine .B ?_
     exact⟨_,.v rfl rfl (by simp) (fun _=>rfl) .nil⟩
   ·have g2: ¬0≤x0:=g2
    rw[decide_eq_false g2]
    refine .B ?_
    exact⟨_,.v rfl rfl (by simp) (fun _=>rfl) .nil⟩
  ·have g1: ¬2≤l.length:=by
    have g1: ¬((l.map cI).length:Int)≥2:=g1
    simp only[C6]at g1;omega
   rw[decide_eq_false g1]
   refine .B ?_
   exact⟨_,.v rfl rfl (by simp) (fun _=>rfl) .nil⟩
 have k3: ¬c.kind=3:=k3
 rw[if_neg k3]
 refine .B ?_
 refine T.cd rfl (fun k4=> ?_) (fun k4=> ?_)
 ·have k4:c.kind=4:=k4
  rw[if_pos k4]
  cases so
  ·refine .B ?_
   refine .C hat ?_
   refine .B ?_
   exact⟨_,.v rfl rfl (by simp) (fun _=>rfl) .nil⟩
  ·refine .B ?_
   refine .C hat ?_
   generalize atR a c.b=ab at*
   refine .B ?_
   refine J.g rfl rfl rfl (fun h=> ?_) (fun h=> ?_)
   ·have h:ab=1:=h
    rw[decide_eq_true h]
    refine .B ?_
    exact⟨_,.v rfl rfl (by simp) (fun _=>rfl) .nil⟩
   ·have h: ¬ab=1:=h
    rw[decide_eq_false h]
    refine .B ?_
    exact⟨_,.v rfl rfl (by simp) (fun _=>rfl) .nil⟩
 have k4: ¬c.kind=4:=k4
 rw[if_neg k4]
 refine .B ?_
 refine T.cd rfl (fun k5=> ?_) (fun k5=> ?_)
 ·have k5:c.kind=5:=k5
  rw[if_pos k5]
  have hk5:=hk5 k5
  refine .M ?_
  refine T.sub (Rel.frz (s:=5) (fun _ h=>h) rfl rfl) ?_
  refine T.K (T.ind (fun i:Nat=>⟨[(2,.optr 0 0 0 0),(5,.val true (av l)),(8,.val true (.int .i64 i))],[(0,some (.box false (cC c)))],1⟩) (fun i=>i≤l.length∧((l.zip c.coefs).take i).any litH=false) (fun i=>l.length-i) 0 (by simp) (fun _ _ h=>h) ?_)
  rintro i ⟨hi,he⟩ ih
  refine .B ?_
  refine T.cd rfl (fun h5=> ?_) (fun h5=> ?_)
  ·have h5:i<l.length:=by simpa using h5
   have h6:i<c.coefs.length:=by omega
   have hz:i<(l.zip c.coefs).length:=by simp;omega
   have eyes:litH (l[i],c.coefs[i])=true→(l.zip c.coefs).any litH=true:=fun h=>List.any_eq_true.2 ⟨(l[i],c.coefs[i]),by rw[←Ex (h:=hz)];exact C5 hz,h⟩
   have eno:litH (l[i],c.coefs[i])=false→((l.zip c.coefs).take (i+1)).any litH=false:=fun h=>by
    rw[C7 hz,List.any_append,he,Ex]
    simp[h]
   have edef:litH (l[i],c.coefs[i])=((decide (c.coefs[i]=1)&&decide (l[i]=1))||(decide (c.coefs[i]= -1)&&decide (l[i]=0))):=rfl
   have hrl:=aO (enc:=cI) h5
   have hrk:=aO (enc:=cI) h6
   generalize litH (l[i],c.coefs[i])=lb at*
   generalize l[i]=x at*
   generalize c.coefs[i]=k at*
   refine .B ?_
   refine .I (r:=cI k) hrk ?_
   refine .B ?_
   refine J.g rfl rfl rfl (fun g1=> ?_) (fun g1=> ?_)
   ·have g1:k=1:=g1
    have g9: ¬k= -1:=by omega
    rw[decide_eq_true g1,decide_eq_false g9]at edef
    refine .B ?_
    refine .I (r:=cI x) hrl ?_
    refine .B ?_
    refine J.g rfl rfl rfl (fun g2=> ?_) (fun g2=> ?_)
    ·have g2:x=1:=g2
     rw[decide_eq_true g2]at edef
     refine .B ?_
     have hb:lb=true:=by rw[edef];rfl
     rw[eyes hb]
     refine T.ct rfl ?_
     refine .B ?_
     exact r1
    ·have g2: ¬x=1:=g2
     rw[decide_eq_false g2]at edef
     refine .B ?_
     refine .I (r:=cI k) hrk ?_
     refine .B ?_
     refine J.g rfl rfl rfl (fun g3=>absurd g3 g9) (fun _=> ?_)
     refine .B ?_
     have hb:lb=false:=by rw[edef];rfl
     refine T.cf rfl ?_
     refine .B ?_
     rw[ak (l:=l.length) (by omega) (by omega)]
     exact T.K (ih (i+1) ⟨by omega,eno hb⟩ (by omega))
   ·have g1: ¬k=1:=g1
    rw[decide_eq_false g1]at edef
    refine .B ?_
    refine .I (r:=cI k) hrk ?_
    refine .B ?_
    refine J.g rfl rfl rfl (fun g3=> ?_) (fun g3=> ?_)
    ·have g3:k= -1:=g3
     rw[decide_eq_true g3]at edef
     refine .B ?_
     refine .I (r:=cI x) hrl ?_
     refine .B ?_
     by_cases g4:x=0
     ·rw[decide_eq_true g4]at edef⊢
      have hb:lb=true:=by rw[edef];rfl
      rw[eyes hb]
      refine T.ct rfl ?_
      refine .B ?_
      exact r1
     ·rw[decide_eq_false g4]at edef⊢
      have hb:lb=false:=by rw[edef];rfl
      refine T.cf rfl ?_
      refine .B ?_
      rw[ak (l:=l.length) (by omega) (by omega)]
      exact T.K (ih (i+1) ⟨by omega,eno hb⟩ (by omega))
    ·have g3: ¬k= -1:=g3
     rw[decide_eq_false g3]at edef
     refine .B ?_
     have hb:lb=false:=by rw[edef];rfl
     refine T.cf rfl ?_
     refine .B ?_
     rw[ak (l:=l.length) (by omega) (by omega)]
     exact T.K (ih (i+1) ⟨by omega,eno hb⟩ (by omega))
  ·have h5:i=l.length:=by simp at h5;omega
   subst h5
   rw[CV (by simp;omega)]at he
   rw[he]
   refine .B ?_
   exact r1
 have k5: ¬c.kind=5:=k5
 rw[if_neg k5]
 refine .M ?_
 have e1:IntKind.i64.wrap (((l.map cI).length:Int).tdiv 2)=((c.vars.length / 2:Nat):Int):=by
  rw[C6,hpl,FB (by omega),ae (by omega) (by omega)]
  simp
 rw[e1]
 refine T.sub (Rel.frz (s:=5) (fun _ h=>h) rfl rfl) ?_
 refine .B ?_
 refine J.s1 (enc:=cI) (c.vars.length / 2) rfl rfl rfl rfl rfl rfl rfl rfl rfl (fun _=>rfl) rfl (by omega) ?_
 refine .B ?_
 refine J.s3 (enc:=cI) (c.vars.length / 2) rfl rfl rfl rfl rfl rfl rfl rfl rfl (fun _=>rfl) rfl (by omega) ?_
 refine .B ?_
 refine .C hord ?_
 refine .B ?_
 exact⟨_,.v rfl rfl (by rw[ho6]) (fun _=>rfl) .nil⟩
def bi (d:aa):Nat→List (List Int)
 |0=>[[]]
 |n+1=>(bi d n).flatMap fun a=>(vals (d.getD n [])).map fun v=>a++[v]
theorem qJ (d:aa): ∀(n:Nat) (a:List Int),a∈bi d n→a.length=n
 |0,a,h=>by simp[bi]at h;simp[h]
 |n+1,a,h=>by
  simp only[bi,Fb,EX]at h
  obtain⟨b,hb,v,_,rfl⟩:=h
  simp[qJ d n b hb]
def cutW (x:List (Int×Int))(k rest:Int):List (Int×Int):=if 0<k then domCut x (-1048576) (gq rest k)else domCut x (wr (0-gq rest (wr (0-k)))) 1048576
theorem rZ {x:List (Int×Int)}(h:az x)(k rest:Int):az (cutW x k rest)∧∀v,v∈vals (cutW x k rest)→v∈vals x:=by
 unfold cutW
 split
 ·exact⟨(bP h _ _).1,fun v hv=>(((bP h _ _).2 v).1 hv).1⟩
 ·exact⟨(bP h _ _).1,fun v hv=>(((bP h _ _).2 v).1 hv).1⟩
theorem qU {x:List (Int×Int)}(h:Fine x)(k rest:Int):Fine (cutW x k rest):=h.cut (rZ h.ok k rest).1 (rZ h.ok k rest).2
def gz (low rhs:Int)(x:List (Int×Int))(k:Int):Int:=wr (rhs-wr (low-(endW x k false).1))
def eK (low rhs:Int):List (Int×Int)→aa→Bool→aa×Bool×Bool
 | [],d,ch=>(d,ch,true)
 |(v,k)::l,d,ch=>
  if cutW (domAt d v) k (gz low rhs (domAt d v) k)=[]then(d,false,false)
  else eK low rhs l (d.set v.toNat (cutW (domAt d v) k (gz low rhs (domAt d v) k))) (ch|| !decide (cutW (domAt d v) k (gz low rhs (domAt d v) k)=domAt d v))
def mostW (d:aa)(vars coefs:List Int)(rhs:Int):aa×Bool×Bool:=eK (endsW d vars coefs).1 rhs (vars.zip coefs) d false
structure SumFine (d:aa)(vars coefs:List Int):Prop where
 len:vars.length=coefs.length
 vl:vars.length*8≤140737488355328
 vin: ∀v∈vars,0≤v∧v.toNat<d.length
 ck: ∀k∈coefs,CoefOk k
 dom: ∀x∈d,Fine x
 dl:d.length*24≤140737488355328
theorem SumFine.in_ {d:aa}{vars coefs:List Int}(h:SumFine d vars coefs):SumIn d vars coefs:=⟨h.len,h.vl,h.vin,h.ck,fun x hx=>(h.dom x hx).domB,h.dl⟩
theorem g8 {d:aa}{i:Nat}{x:List (Int×Int)}{p:List (Int×Int)→Prop}(h: ∀z∈d,p z)(hx:p x): ∀z∈d.set i x,p z:=by
 intro z hz
 rcases CX hz with hz|rfl
 ·exact h z hz
 ·exact hx
theorem oG (d:aa)(vars coefs:List Int)(rhs:Int)(h:SumFine d vars coefs):
  SpecM Tryz.prog 202 54 1 (d.map cD) [av vars,av coefs,.int .i64 rhs] ((mostW d vars coefs rhs).1.map cD) [.bool (mostW d vars coefs rhs).2.1,.bool (mostW d vars coefs rhs).2.2]:=by
 refine SpecM.body Tryz.func202 rfl rfl rfl (by simp[PV.flat]) fun w0 v0 Z1=> ?_
 have hends:=oK d vars coefs h.in_
 obtain⟨hlen,hvl,hvin,hck,hdom,hdl⟩:=h
 unfold mostW
 generalize endsW d vars coefs=es at*
 obtain⟨low,high,is⟩:=es
 simp only at hends⊢
 generalize hres:eK low rhs (vars.zip coefs) d false=res
 refine .B ?_
 refine .C hends ?_
 refine .B ?_
 refine T.K (T.ind (fun s:Nat×aa×Bool=>⟨[(0,.ref 0),(2,.val false (av coefs)),(3,.val false (.int .i64 rhs)),(10,.val true (.int .i64 low)),(13,.val true (.bool s.2.2)),(29,.val false (av vars)),(30,.val true (.int .i64 (vars.map cI).length)),(31,.val true (.int .i64 s.1))],[(0,some (.sl 54 1 true (s.2.1.map cD)))],1⟩)
  (fun s=>s.1≤vars.length∧eK low rhs ((vars.zip coefs).drop s.1) s.2.1 s.2.2=res∧s.2.1.length=d.length∧∀x∈s.2.1,Fine x) (fun s=>vars.length-s.1) (0,d,false) ⟨by simp,hres,rfl,hdom⟩ (fun _ _ h=>h) ?_)
 rintro⟨i,d1,ch⟩ ⟨hil,he,hl1,hf1⟩ ih
 simp only at hil he hl1 hf1
 dsimp only
 refine .B ?_
 refine T.cd rfl (fun h1=> ?_) (fun h1=> ?_)
 ·have h1:i<vars.length:=by simpa using h1
  have h2:i<coefs.length:=by omega
  have hv:=hvin _ (C5 h1)
  have hk:=hck _ (C5 h2)
  have hk2:=fQ hk
  have hvd:vars[i].toNat<d1.length:=by omega
  have hx:=hf1 _ (ah hvd)
  have hrow:(d1.map cD)[vars[i].toNat]? =some (cD (domAt d1 vars[i])):=by simp[ao hvd]
  have hz:i<(vars.zip coefs).length:=by simp;omega
  rw[CU hz,Ex,eK]at he
  have hend:=jl (domAt d1 vars[i]) coefs[i] false hx.domB hk
  have hfl:coefs[i]≠0:=hk.1
  have hng:IntKind.i64.wrap (0-coefs[i])≠0:=by rw[ae (by omega) (by omega)];omega
  have hfine:=qU hx coefs[i] (gz low rhs (domAt d1 vars[i]) coefs[i])
  have hdc:=fun lo hi=>(f5 (domAt d1 vars[i]) lo hi (by have:=hx.len;omega)).frz
  have hcw:cutW (domAt d1 vars[i]) coefs[i] (gz low rhs (domAt d1 vars[i]) coefs[i])=if 0<coefs[i]then domCut (domAt d1 vars[i]) (-1048576) (gq (gz low rhs (domAt d1 vars[i]) coefs[i]) coefs[i])else domCut (domAt d1 vars[i]) (wr (0-gq (gz low rhs (domAt d1 vars[i]) coefs[i]) (wr (0-coefs[i])))) 1048576:=rfl
  have hsame:=fun x hxl=>d8 x (domAt d1 vars[i]) hxl
  generalize cutW (domAt d1 vars[i]) coefs[i] (gz low rhs (domAt d1 vars[i]) coefs[i])=cx at*
  unfold gz at hcw
  generalize endW (domAt d1 vars[i]) coefs[i] false=e1 at*
  generalize hvi:vars[i]=v at*
  generalize hki:coefs[i]=k at*
  generalize domAt d1 v=dv at*
  refine .B ?_
  refine J.i rfl rfl rfl rfl rfl rfl rfl rfl rfl (r:=cI v) (by omega) (by rw[←hvi];exact aO h1) rfl ?_
  refine .B ?_
  refine J.i rfl rfl rfl rfl rfl rfl rfl rfl rfl (r:=cI k) (by omega) (by rw[←hki];exact aO h2) rfl ?_
  refine .B ?_
  refine J.io rfl rfl rfl rfl rfl rfl rfl rfl rfl hv.1 (by simpa using hvd) rfl ?_
  refine J.lo rfl rfl rfl rfl rfl rfl (r:=cD dv) hrow rfl ?_
  refine .B ?_
  refine .C hend ?_
  refine .B ?_
  refine J.io rfl rfl rfl rfl rfl rfl rfl rfl rfl hv.1 (by simpa using hvd) rfl ?_
  refine J.lo rfl rfl rfl rfl rfl rfl (r:=cD dv) hrow rfl ?_
  repeat' first|refine J.e rfl rfl rfl rfl ?_|refine J.skip rfl rfl rfl ?_|refine J.bx rfl rfl rfl rfl rfl rfl ?_
  refine J.nil ?_
  refine T.mid ⟨[(0,.ref 0),(2,.val false (av coefs)),(3,.val false (.int .i64 rhs)),(10,.val true (.int .i64 low)),(13,.val true (.bool ch)),(29,.val false (av vars)),(30,.val true (.int .i64 (vars.map cI).length)),(31,.val true (.int .i64 i)),(15,.val true (.int .i64 v)),(20,.val true (dm cx))],[(0,some (.sl 54 1 true (d1.map cD)))],1⟩ ?_ ?_
  ·refine .B ?_
   refine T.cd rfl (fun h3=> ?_) (fun h3=> ?_)
   ·have h3:0<k:=h3
    rw[if_pos h3]at hcw
    refine .B ?_
    refine J.cc rfl rfl rfl rfl rfl (o3 _ k hfl) rfl rfl ?_
    refine J.cc rfl rfl rfl rfl rfl (hdc _ _) rfl rfl ?_
    rw[hcw]
    refine .B ?_
    exact⟨rfl,[0,2,3,10,13,29,30,31,15,20],[0],rfl,rfl⟩
   ·have h3: ¬0<k:=h3
    rw[if_neg h3]at hcw
    refine .B ?_
    refine J.cc rfl rfl rfl rfl rfl (o3 _ _ hng) rfl rfl ?_
    refine .B ?_
    refine J.cc rfl rfl rfl rfl rfl (hdc _ _) rfl rfl ?_
    rw[hcw]
    refine .B ?_
    exact⟨rfl,[0,2,3,10,13,29,30,31,15,20],[0],rfl,rfl⟩
  ·clear hcw
   refine .B ?_
   refine T.cd rfl (fun h4=> ?_) (fun h4=> ?_)
   ·have h4:cx=[]:=by simp at h4;exact h4
    rw[if_pos h4]at he
    subst he
    refine .B ?_
    exact⟨.v rfl rfl rfl (fun h=>by cases h) (.v rfl rfl rfl (fun h=>by cases h) .nil),_,rfl,rfl⟩
   ·have h4:cx≠[]:=fun e=>h4 (by rw[e];rfl)
    rw[if_neg h4]at he
    have hset:=g8 (p:=Fine) (i:=v.toNat) hf1 hfine
    cases ch
    ·refine .B ?_
     refine J.io rfl rfl rfl rfl rfl rfl rfl rfl rfl hv.1 (by simpa using hvd) rfl ?_
     refine J.lo rfl rfl rfl rfl rfl rfl (r:=cD dv) hrow rfl ?_
     refine .B ?_
     refine .C (hsame cx (by have:=hfine.len;omega)) ?_
     refine .B ?_
     refine J.io rfl rfl rfl rfl rfl rfl rfl rfl rfl hv.1 (by simpa using hvd) rfl ?_
     refine J.w1 rfl rfl rfl rfl rfl rfl rfl rfl rfl rfl rfl (fun _=>rfl) hvd ?_
     refine .B ?_
     rw[ak (l:=vars.length) (by omega) (by omega)]
     exact T.K (ih (i+1,d1.set v.toNat cx,!decide (cx=dv)) ⟨by simp only;omega,he,by simp[hl1],hset⟩ (by simp only;omega))
    ·refine .B ?_
     refine J.io rfl rfl rfl rfl rfl rfl rfl rfl rfl hv.1 (by simpa using hvd) rfl ?_
     refine J.w1 rfl rfl rfl rfl rfl rfl rfl rfl rfl rfl rfl (fun _=>rfl) hvd ?_
     refine .B ?_
     rw[ak (l:=vars.length) (by omega) (by omega)]
     exact T.K (ih (i+1,d1.set v.toNat cx,true) ⟨by simp only;omega,he,by simp[hl1],hset⟩ (by simp only;omega))
 ·have h1:i=vars.length:=by simp at h1;omega
  subst h1
  rw[Dk (by simp;omega),eK]at he
  subst he
  refine .B ?_
  exact⟨.v rfl rfl rfl (fun h=>by cases h) (.v rfl rfl rfl (fun h=>by cases h) .nil),_,rfl,rfl⟩
def fW (i:Nat):Nat→List (List (Int×Int)×Int)→Int→Int
 |_,[],n=>n
 |k,t::ts,n=>fW i (k+1) ts (if k=i then n else wr (n+(BZ t.1 t.2).1))
def BE (x:List Int)(k rhs rest:Int):List Int:=x.filter fun v=>decide (wr (k*v)≤wr (rhs-rest))
def rG (d:aa)(vars coefs:List Int)(rhs:Int)(i:Nat):List (Int×Int):=cZ (BE (vals (domAt d (vars.getD i 0))) (coefs.getD i 0) rhs (fW i 0 (ac d vars coefs) 0))
def j8 (d:aa)(vars coefs:List Int)(rhs:Int):Nat→aa
 |0=>d
 |n+1=>(j8 d vars coefs rhs n).set (vars.getD n 0).toNat (rG d vars coefs rhs n)
theorem aN {l:List Int}{i:Nat}(h:i<l.length):l.getD i 0=l[i]:=by simp[C0,C1 h]
def bL:List (Int×Int)→Int→Int→List (Int×Int)→Int×List (Int×Int)
 | [],lo,hi,out=>(lo,out)
 |y::b,lo,hi,out=>if y.2<lo∨hi<y.1 then bL b lo hi out else bL b (wr (y.2+1)) hi (if lo<y.1 then out++[(lo,wr (y.1-1))]else out)
def cE (b:List (Int×Int))(out:List (Int×Int))(x:Int×Int):List (Int×Int):=if(bL b x.1 x.2 out).1≤x.2 then(bL b x.1 x.2 out).2++[((bL b x.1 x.2 out).1,x.2)]else(bL b x.1 x.2 out).2
def dY (a b:List (Int×Int)):List (Int×Int):=a.foldl (cE b) []
theorem j9 (a b:List (Int×Int))(hb:b.length*8≤140737488355328)(hl:(a.length+1)*(b.length+1)*16≤140737488355328):Spec Tryz.prog 142 false [dm a,dm b] [.own 53 2 ((dY a b).map cR)]:=by
 refine Spec.body Tryz.func142 rfl rfl rfl fun w0 Z0=> ?_
 have hal:a.length*8≤140737488355328:=by
  have:a.length+1≤(a.length+1)*(b.length+1):=Eu _ (by omega)
  omega
 refine .B ?_
 refine T.sub (Rel.own0 (s:=5) 53 2 rfl) ?_
 refine T.K (T.ind (fun s:Nat×List (Int×Int)=>⟨[(1,.val false (dm b)),(5,.ref 0),(10,.val false (dm a)),(11,.val true (.int .i64 (a.map cR).length)),(12,.val true (.int .i64 s.1))],[(0,some (.sl 53 2 true (s.2.map cR)))],1⟩)
  (fun s=>s.1≤a.length∧(a.drop s.1).foldl (cE b) s.2=dY a b∧s.2.length≤s.1*(b.length+1)) (fun s=>a.length-s.1) (0,[]) ⟨by simp,rfl,by simp⟩ (fun _ _ h=>h) ?_)
 rintro⟨n,out⟩ ⟨hn,he,hlo⟩ ih
 simp only at hn he hlo
 dsimp only
 refine .B ?_
 refine T.cd rfl (fun h1=> ?_) (fun h1=> ?_)
 ·have h1:n<a.length:=by simpa using h1
  rw[CU h1,CZ]at he
  have hmul:(n+1)*(b.length+1)≤(a.length+1)*(b.length+1):=DJ _ (by omega)
  have hmul2:(n+1)*(b.length+1)=n*(b.length+1)+(b.length+1):=by rw[EO,Nat.one_mul]
  have hr:(a.map cR)[((n:Nat):Int).toNat]? =some (cR a[n]):=aO h1
  generalize a[n]=x at*
  obtain⟨lo0,hi⟩:=x
  refine .B ?_
  refine .I (r:=cR (lo0,hi)) hr ?_
  refine .B ?_
  refine .L ?_
  refine .B ?_
  refine .W ?_
  refine .B ?_
  refine T.K (T.ind (fun s:Nat×Int×List (Int×Int)=>⟨[(1,.val false (dm b)),(5,.ref 0),(7,.optr 1 0 0 0),(10,.val false (dm a)),(11,.val true (.int .i64 (a.map cR).length)),(12,.val true (.int .i64 n)),(16,.val false (dm b)),(17,.val true (.int .i64 (b.map cR).length)),(18,.val true (.int .i64 s.1))],[(0,some (.sl 53 2 true (s.2.2.map cR))),(1,some (.box false (cR (s.2.1,hi))))],2⟩)
   (fun s=>s.1≤b.length∧bL (b.drop s.1) s.2.1 hi s.2.2=bL b lo0 hi out∧s.2.2.length≤out.length+s.1) (fun s=>b.length-s.1) (0,lo0,out) ⟨by simp,rfl,by simp⟩ (fun _ _ h=>h) ?_)
  rintro⟨m,lo,out2⟩ ⟨hm,he2,hlo2⟩ ih2
  simp only at hm he2 hlo2
  dsimp only
  refine .B ?_
  refine T.cd rfl (fun h2=> ?_) (fun h2=> ?_)
  ·have h2:m<b.length:=by simpa using h2
   rw[CU h2,bL]at he2
   have hr2:(b.map cR)[((m:Nat):Int).toNat]? =some (cR b[m]):=aO h2
   generalize b[m]=y at*
   obtain⟨y1,y2⟩:=y
   simp only at he2
   have skip:(y2<lo∨hi<y1)→bL (b.drop (m+1)) lo hi out2=bL b lo0 hi out:=fun h=>by rw[if_pos h]at he2;exact he2
   have keep: ¬(y2<lo∨hi<y1)→bL (b.drop (m+1)) (wr (y2+1)) hi (if lo<y1 then out2++[(lo,wr (y1-1))]else out2)=bL b lo0 hi out:=fun h=>by rw[if_neg h]at he2;exact he2
   refine .B ?_
   refine .I (r:=cR (y1,y2)) hr2 ?_
   refine .B ?_
   refine .L ?_
   refine .B ?_
   refine .W ?_
   refine .B ?_
   refine J.g rfl rfl rfl (fun h3=> ?_) (fun h3=> ?_)
   ·have h3:y2<lo:=h3
    refine .B ?_
    refine T.ct rfl ?_
    refine .B ?_
    rw[ak (l:=b.length) (by omega) (by omega)]
    exact T.K (ih2 (m+1,lo,out2) ⟨by simp only;omega,skip (.inl h3),by simp only;omega⟩ (by simp only;omega))
   ·have h3: ¬y2<lo:=h3
    refine .B ?_
    refine T.cd rfl (fun h4=> ?_) (fun h4=> ?_)
    ·have h4:hi<y1:=h4
     refine .B ?_
     rw[ak (l:=b.length) (by omega) (by omega)]
     exact T.K (ih2 (m+1,lo,out2) ⟨by simp only;omega,skip (.inr h4),by simp only;omega⟩ (by simp only;omega))
    ·have h4: ¬hi<y1:=h4
     have keep:=keep (fun h=>h.elim h3 h4)
     refine .B ?_
     refine T.cd rfl (fun h5=> ?_) (fun h5=> ?_)
     ·have h5:lo<y1:=h5
      rw[if_pos h5]at keep
      refine .B ?_
      refine .V ?_
      refine J.aR rfl rfl rfl rfl rfl rfl rfl rfl rfl rfl rfl rfl rfl rfl rfl rfl rfl rfl rfl (a:=lo) (b:=IntKind.i64.wrap (y1-1)) (by omega) ?_
      refine .B ?_
      refine .W ?_
      refine .B ?_
      rw[ak (l:=b.length) (by omega) (by omega)]
      exact T.K (ih2 (m+1,wr (y2+1),out2++[(lo,wr (y1-1))]) ⟨by simp only;omega,keep,by simp;omega⟩ (by simp only;omega))
     ·have h5: ¬lo<y1:=h5
      rw[if_neg h5]at keep
      refine .B ?_
      refine .W ?_
      refine .B ?_
      rw[ak (l:=b.length) (by omega) (by omega)]
      exact T.K (ih2 (m+1,wr (y2+1),out2) ⟨by simp only;omega,keep,by simp only;omega⟩ (by simp only;omega))
  ·have h2:m=b.length:=by simp at h2;omega
   subst h2
   rw[De,bL]at he2
   clear ih2
   have hmo:cE b out (lo0,hi)=if lo≤hi then out2++[(lo,hi)]else out2:=by
    unfold cE
    simp only[←he2]
   rw[hmo]at he
   refine .B ?_
   refine T.cd rfl (fun h5=> ?_) (fun h5=> ?_)
   ·have h5:lo≤hi:=h5
    rw[if_pos h5]at he
    refine .B ?_
    refine .V ?_
    refine J.aR rfl rfl rfl rfl rfl rfl rfl rfl rfl rfl rfl rfl rfl rfl rfl rfl rfl rfl rfl (by omega) ?_
    refine J.sub (Rel.flat (o:=2) rfl rQ) ?_
    refine .B ?_
    rw[ak (l:=a.length) (by omega) (by omega)]
    exact T.K (ih (n+1,out2++[(lo,hi)]) ⟨by simp only;omega,he,by simp;omega⟩ (by simp only;omega))
   ·have h5: ¬lo≤hi:=h5
    rw[if_neg h5]at he
    refine .B ?_
    rw[ak (l:=a.length) (by omega) (by omega)]
    exact T.K (ih (n+1,out2) ⟨by simp only;omega,he,by simp only;omega⟩ (by simp only;omega))
 ·have h1:n=a.length:=by simp at h1;omega
  subst h1
  rw[De,GE]at he
  subst he
  refine .B ?_
  exact⟨_,.o rfl rfl rfl (fun _=> .inl rfl) (by simp) .nil⟩
def c9:Nat→List (List (Int×Int)×Int)→Int→Int→Option (Int×Int)
 |_,[],op,s=>some (op,s)
 |i,t::ts,op,s=>if 1<fD t.1 then(if 0≤op then none else c9 (i+1) ts i s)else c9 (i+1) ts op (wr (s+(endW t.1 t.2 false).1))
def otherW (d:aa)(c:Con):aa×Bool:=
 match c9 0 (ac d c.vars c.coefs) (-1) 0 with
 |none=>(d,true)
 |some (op,s)=>
  if op<0 then(d,decide (s≠c.rhs))else
  if(wr (c.rhs-s)).tmod (coefAt c op.toNat)=0 then
   (d.set (varAt c op.toNat).toNat (dY (domAt d (varAt c op.toNat)) [(wr ((wr (c.rhs-s)).tdiv (coefAt c op.toNat)),wr ((wr (c.rhs-s)).tdiv (coefAt c op.toNat)))]),
    decide (0<(dY (domAt d (varAt c op.toNat)) [(wr ((wr (c.rhs-s)).tdiv (coefAt c op.toNat)),wr ((wr (c.rhs-s)).tdiv (coefAt c op.toNat)))]).length))
  else(d,decide (0<(domAt d (varAt c op.toNat)).length))
theorem j7: ∀(ts:List (List (Int×Int)×Int)) (i:Nat) (op s op' s':Int) (n:Nat),op<n→i+ts.length≤n→c9 i ts op s=some (op',s')→op'<n
 | [],i,op,s,op',s',n,h,_,e=>by
  simp only[c9,C3,Prod.mk.injEq]at e
  omega
 |t::ts,i,op,s,op',s',n,h,hn,e=>by
  simp only[D0]at hn
  rw[c9]at e
  split at e
  ·split at e
   ·cases e
   ·exact j7 ts (i+1) i s op' s' n (by omega) (by omega) e
  ·exact j7 ts (i+1) op _ op' s' n h (by omega) e
theorem tO (d:aa)(c:Con)(h:SumFine d c.vars c.coefs)(hsm: ∀x∈d,x.length*64+1048576≤140737488355328):
  SpecM Tryz.prog 200 54 1 (d.map cD) [.agg (cC c)] ((otherW d c).1.map cD) [.bool (otherW d c).2]:=by
 refine SpecM.body Tryz.func200 rfl rfl rfl (by simp[PV.flat]) fun w0 v0 Z1=> ?_
 obtain⟨hlen,hvl,hvin,hck,hdom,hdl⟩:=h
 have hin:=j7 (ac d c.vars c.coefs) 0 (-1) 0
 generalize hgo:c9 0 (ac d c.vars c.coefs) (-1) 0=go at hin
 refine .B ?_
 refine T.K (T.ind (fun s:Nat×Int×Int=>⟨[(0,.ref 0),(3,.optr 1 0 0 0),(5,.val true (.int .i64 s.2.1)),(6,.val true (.int .i64 s.2.2)),(15,.val false (av c.vars)),(16,.val true (.int .i64 (c.vars.map cI).length)),(17,.val true (.int .i64 s.1))],[(0,some (.sl 54 1 true (d.map cD))),(1,some (.box false (cC c)))],2⟩)
  (fun s=>s.1≤c.vars.length∧c9 s.1 ((ac d c.vars c.coefs).drop s.1) s.2.1 s.2.2=go) (fun s=>c.vars.length-s.1) (0,-1,0) ⟨by simp,hgo⟩ (fun _ _ h=>h) ?_)
 rintro⟨i,op,s⟩ ⟨hil,he⟩ ih
 simp only at hil he
 dsimp only
 refine .B ?_
 refine T.cd rfl (fun h1=> ?_) (fun h1=> ?_)
 ·have h1:i<c.vars.length:=by simpa using h1
  have h2:i<c.coefs.length:=by omega
  have hv:=hvin _ (C5 h1)
  have hk:=hck _ (C5 h2)
  have hx:=hdom _ (ah hv.2)
  have hrow:(d.map cD)[c.vars[i].toNat]? =some (cD (domAt d c.vars[i])):=by simp[ao hv.2]
  rw[nL h1 h2,c9]at he
  refine .B ?_
  refine .I (r:=cI c.vars[i]) (aO h1) ?_
  refine .B ?_
  refine J.io rfl rfl rfl rfl rfl rfl rfl rfl rfl hv.1 (by simpa using hv.2) rfl ?_
  refine J.lo rfl rfl rfl rfl rfl rfl (r:=cD (domAt d c.vars[i])) hrow rfl ?_
  refine .C (gy (domAt d c.vars[i]) (by have:=hx.len;omega)) ?_
  refine .B ?_
  refine T.cd rfl (fun h3=> ?_) (fun h3=> ?_)
  ·have h3:1<fD (domAt d c.vars[i]):=h3
   rw[if_pos h3]at he
   refine .B ?_
   refine T.cd rfl (fun h4=> ?_) (fun h4=> ?_)
   ·have h4:0≤op:=h4
    rw[if_pos h4]at he
    subst he
    have ho:otherW d c=(d,true):=by unfold otherW;rw[hgo]
    rw[ho]
    refine .B ?_
    exact⟨.v rfl rfl rfl (fun h=>by cases h) .nil,_,rfl,rfl⟩
   ·have h4: ¬0≤op:=h4
    rw[if_neg h4]at he
    refine .B ?_
    rw[ak (l:=c.vars.length) (by omega) (by omega)]
    exact T.K (ih (i+1,i,s) ⟨by simp only;omega,he⟩ (by simp only;omega))
  ·have h3: ¬1<fD (domAt d c.vars[i]):=h3
   rw[if_neg h3]at he
   refine .B ?_
   refine J.io rfl rfl rfl rfl rfl rfl rfl rfl rfl hv.1 (by simpa using hv.2) rfl ?_
   refine J.lo rfl rfl rfl rfl rfl rfl (r:=cD (domAt d c.vars[i])) hrow rfl ?_
   refine .B ?_
   refine .I (r:=cI c.coefs[i]) (aO h2) ?_
   refine .B ?_
   refine J.cc rfl rfl rfl rfl rfl (jl _ _ false hx.domB hk) rfl rfl ?_
   refine .B ?_
   rw[ak (l:=c.vars.length) (by omega) (by omega)]
   exact T.K (ih (i+1,op,wr (s+(endW (domAt d c.vars[i]) c.coefs[i] false).1)) ⟨by simp only;omega,he⟩ (by simp only;omega))
 ·have h1:i=c.vars.length:=by simp at h1;omega
  subst h1
  rw[pP hlen,c9]at he
  subst he
  clear ih
  have hop:=hin op s c.vars.length (by omega) (by simp[ac];omega) rfl
  unfold otherW
  rw[hgo]
  simp only
  refine .B ?_
  refine T.cd rfl (fun h3=> ?_) (fun h3=> ?_)
  ·have h3:op<0:=h3
   rw[if_pos h3]
   refine .B ?_
   exact⟨.v rfl rfl rfl (fun h=>by cases h) .nil,_,rfl,rfl⟩
  ·have h3: ¬op<0:=h3
   rw[if_neg h3]
   obtain⟨j,rfl⟩: ∃j:Nat,op=j:=⟨op.toNat,by omega⟩
   rw[D1]
   have hj:j<c.vars.length:=by omega
   have hv:=hvin _ (aK hj)
   have hk:=hck _ (show coefAt c j∈c.coefs by unfold coefAt;rw[aN (by omega)];exact C5 _)
   have hx:=hdom _ (ah hv.2)
   have hrow:(d.map cD)[(varAt c j).toNat]? =some (cD (domAt d (varAt c j))):=by simp[ao hv.2]
   have hkr:=ix (c:=c) (k:=j) (by omega)
   have hvr:=eD (c:=c) (k:=j) hj
   have hk0:=hk.1
   have hln:=hx.len
   have hls:=hsm _ (ah hv.2)
   have hm:=fun x=>(j9 (domAt d (varAt c j)) [(x,x)] (by simp) (by simp only[Db];omega)).frz
   generalize varAt c j=v at*
   generalize coefAt c j=k at*
   generalize domAt d v=dv at*
   refine .B ?_
   refine .I (r:=cI v) hvr ?_
   refine .B ?_
   refine .I (r:=cI k) hkr ?_
   refine .B ?_
   refine J.rm rfl rfl rfl rfl rfl rfl hk0 ?_
   refine .B ?_
   refine T.cd rfl (fun h4=> ?_) (fun h4=> ?_)
   ·have h4:(wr (c.rhs-s)).tmod k=0:=h4
    rw[if_pos h4]
    refine .B ?_
    refine J.qu rfl rfl rfl rfl rfl rfl hk0 ?_
    refine .B ?_
    refine J.io rfl rfl rfl rfl rfl rfl rfl rfl rfl hv.1 (by simpa using hv.2) rfl ?_
    refine J.lo rfl rfl rfl rfl rfl rfl (r:=cD dv) hrow rfl ?_
    refine .B ?_
    refine .V ?_
    refine J.cc rfl rfl rfl rfl rfl (hm _) rfl rfl ?_
    refine J.io rfl rfl rfl rfl rfl rfl rfl rfl rfl hv.1 (by simpa using hv.2) rfl ?_
    refine J.w1 rfl rfl rfl rfl rfl rfl rfl rfl rfl rfl rfl (fun _=>rfl) hv.2 ?_
    refine .B ?_
    refine J.io rfl rfl rfl rfl rfl rfl rfl rfl rfl hv.1 (by simpa using hv.2) rfl ?_
    refine J.lo rfl rfl rfl rfl rfl rfl (r:=cD (dY dv [(wr ((wr (c.rhs-s)).tdiv k),wr ((wr (c.rhs-s)).tdiv k))])) (by rw[C8,DH hv.2];rfl) rfl ?_
    refine .B ?_
    exact⟨.v rfl rfl (by simp only[C6];congr 1;simp) (fun h=>by cases h) .nil,_,rfl,rfl⟩
   ·have h4: ¬(wr (c.rhs-s)).tmod k=0:=h4
    rw[if_neg h4]
    refine .B ?_
    refine J.io rfl rfl rfl rfl rfl rfl rfl rfl rfl hv.1 (by simpa using hv.2) rfl ?_
    refine J.lo rfl rfl rfl rfl rfl rfl (r:=cD dv) hrow rfl ?_
    refine .B ?_
    exact⟨.v rfl rfl (by simp only[C6];congr 1;simp) (fun h=>by cases h) .nil,_,rfl,rfl⟩
theorem mP (low rhs:Int): ∀(l:List (Int×Int)) (d:aa) (ch:Bool),(∀p∈l,0≤p.1∧p.1.toNat<d.length)→(∀x∈d,Fine x)→(eK low rhs l d ch).1.length=d.length∧∀x∈(eK low rhs l d ch).1,Fine x
 | [],d,ch,_,hf=>⟨rfl,hf⟩
 |(v,k)::l,d,ch,hv,hf=>by
  rw[eK]
  split
  ·exact⟨rfl,hf⟩
  ·have hx:=hf _ (ah (hv _ (.head _)).2)
   obtain⟨h1,h2⟩:=mP low rhs l (d.set v.toNat (cutW (domAt d v) k (gz low rhs (domAt d v) k))) (ch|| !decide (cutW (domAt d v) k (gz low rhs (domAt d v) k)=domAt d v)) (fun p hp=>by rw[DI];exact hv p (.tail _ hp)) (g8 hf (qU hx k _))
   exact⟨by rw[h1,DI],h2⟩
theorem SumFine.most {d:aa}{vars coefs:List Int}(h:SumFine d vars coefs)(rhs:Int):SumFine (mostW d vars coefs rhs).1 vars coefs:=by
 obtain⟨h1,h2⟩:=mP (endsW d vars coefs).1 rhs (vars.zip coefs) d false (fun p hp=>h.vin _ (D5 hp).1) h.dom
 have h1:(mostW d vars coefs rhs).1.length=d.length:=h1
 exact⟨h.len,h.vl,fun v hv=>by rw[h1];exact h.vin v hv,h.ck,h2,by rw[h1];exact h.dl⟩
theorem c6 {k:Int}(h:CoefOk k):wr (0-k)= -k∧CoefOk (wr (0-k)):=by
 have:=fQ h
 have e:wr (0-k)= -k:=by rw[wr,ae (by omega) (by omega)];omega
 refine⟨e,?_⟩
 rw[e]
 unfold CoefOk aG at*
 omega
theorem SumFine.back {d:aa}{vars coefs:List Int}(h:SumFine d vars coefs):SumFine d vars (aA coefs):=
 ⟨by simp[aA,h.len],h.vl,h.vin,fun k hk=>by
  obtain⟨k0,hk0,rfl⟩:=List.mem_map.1 hk
  exact(c6 (h.ck _ hk0)).2,h.dom,h.dl⟩
def e5 (c:Con)(out:aa):Option aa ⊕ aa:=
 if(mostW out c.vars c.coefs c.rhs).2.2=false then .inl none else
 if c.op=0 then .inl (some (mostW out c.vars c.coefs c.rhs).1)else
 if(mostW (mostW out c.vars c.coefs c.rhs).1 c.vars (aA c.coefs) (wr (0-c.rhs))).2.2=false then .inl none else
 if(mostW out c.vars c.coefs c.rhs).2.1=false∧(mostW (mostW out c.vars c.coefs c.rhs).1 c.vars (aA c.coefs) (wr (0-c.rhs))).2.1=false then .inl (some (mostW (mostW out c.vars c.coefs c.rhs).1 c.vars (aA c.coefs) (wr (0-c.rhs))).1)
 else .inr (mostW (mostW out c.vars c.coefs c.rhs).1 c.vars (aA c.coefs) (wr (0-c.rhs))).1
def LinAns (d:aa)(c:Con)(R:Option aa)(N:Nat):Prop:=
 if []∈d then R=none else if c.op=2 then R=(if(otherW d c).2 then some (otherW d c).1 else none)else cH (e5 c) N d=some R
theorem tM (d:aa)(c:Con)(h:SumFine d c.vars c.coefs)(hsm: ∀x∈d,x.length*64+1048576≤140737488355328)(R:Option aa)(N:Nat)(hR:LinAns d c R N):
  Spec Tryz.prog 139 false [aJ d,.agg (cC c)] (aW R):=by
 refine Spec.body Tryz.func139 rfl rfl rfl fun w0 Z0=> ?_
 have hown:=yw d h.dl (fun x hx=>by have:=(h.dom x hx).len;omega)
 unfold LinAns at hR
 refine .B ?_
 refine T.scope (fun _ _ h=>h) ?_
 refine .B ?_
 refine .C hown ?_
 refine .B ?_
 by_cases hm: []∈d
 ·rw[if_pos hm]at hR
  subst hR
  rw[if_pos hm,decide_eq_true hm]
  refine T.ct rfl ?_
  refine .B ?_
  exact⟨_,.ownN rfl (.v rfl rfl rfl (fun _=>rfl) .nil)⟩
 ·rw[if_neg hm]at hR
  rw[if_neg hm,decide_eq_false hm]
  refine T.cf rfl ?_
  refine .B ?_
  refine T.cd rfl (fun h1=> ?_) (fun h1=> ?_)
  ·have h1:c.op=2:=h1
   rw[if_pos h1]at hR
   refine .B ?_
   have ho:=tO d c h hsm
   generalize otherW d c=ow at*
   obtain⟨d2,b⟩:=ow
   refine J.cm rfl rfl rfl rfl rfl rfl rfl rfl rfl ho rfl rfl rfl ?_
   refine .B ?_
   cases b
   ·subst hR
    refine T.ct rfl ?_
    refine .B ?_
    exact⟨_,.ownN rfl (.v rfl rfl rfl (fun _=>rfl) .nil)⟩
   ·subst hR
    refine T.cf rfl ?_
    refine .B ?_
    exact⟨_,.o rfl rfl rfl (fun _=> .inl rfl) (by simp) (.v rfl rfl rfl (fun _=>rfl) .nil)⟩
  ·have h1: ¬c.op=2:=h1
   rw[if_neg h1]at hR
   refine .B ?_
   refine .C (k6 c.coefs (by have:=h.vl;have:=h.len;omega)) ?_
   refine .B ?_
   refine T.K (T.ind (fun s:Nat×aa=>⟨[(3,.optr 0 0 0 0),(6,.ref 1),(8,.ref 2)],[(0,some (.box false (cC c))),(1,some (.sl 54 1 true (s.2.map cD))),(2,some (.sl 3 1 true ((aA c.coefs).map cI)))],3⟩)
    (fun s=>cH (e5 c) s.1 s.2=some R∧SumFine s.2 c.vars c.coefs) (fun s=>s.1) (N,d) ⟨hR,h⟩ (fun _ _ h=>h) ?_)
   rintro⟨m,out⟩ ⟨hR,hs⟩ ih
   simp only at hR hs
   dsimp only
   have hm1:=oG out c.vars c.coefs c.rhs hs
   have hs1:=hs.most c.rhs
   have hm2:=oG (mostW out c.vars c.coefs c.rhs).1 c.vars (aA c.coefs) (wr (0-c.rhs)) hs1.back
   have hs2:=hs1.back.most (wr (0-c.rhs))
   have hs3:SumFine (mostW (mostW out c.vars c.coefs c.rhs).1 c.vars (aA c.coefs) (wr (0-c.rhs))).1 c.vars c.coefs:=⟨hs.len,hs2.vl,hs2.vin,hs.ck,hs2.dom,hs2.dl⟩
   have hst:e5 c out=e5 c out:=rfl
   conv at hst=>rhs;unfold e5
   generalize mostW (mostW out c.vars c.coefs c.rhs).1 c.vars (aA c.coefs) (wr (0-c.rhs))=m2 at*
   generalize mostW out c.vars c.coefs c.rhs=m1 at*
   obtain⟨d1,ch1,ok1⟩:=m1
   obtain⟨d2,ch2,ok2⟩:=m2
   simp only at hm1 hm2 hst hs1 hs3
   refine .B ?_
   refine J.cm rfl rfl rfl rfl rfl rfl rfl rfl rfl hm1 rfl rfl rfl ?_
   refine .B ?_
   cases ok1
   ·rw[if_pos rfl]at hst
    obtain rfl:=be hR hst
    refine T.ct rfl ?_
    refine .B ?_
    exact⟨_,.ownN rfl (.v rfl rfl rfl (fun _=>rfl) .nil)⟩
   ·rw[if_neg (by decide)]at hst
    refine T.cf rfl ?_
    refine .B ?_
    refine T.cd rfl (fun h2=> ?_) (fun h2=> ?_)
    ·have h2:c.op=0:=h2
     rw[if_pos h2]at hst
     obtain rfl:=be hR hst
     refine .B ?_
     exact⟨_,.o rfl rfl rfl (fun _=> .inl rfl) (by simp) (.v rfl rfl rfl (fun _=>rfl) .nil)⟩
    ·have h2: ¬c.op=0:=h2
     rw[if_neg h2]at hst
     refine .B ?_
     refine J.cm rfl rfl rfl rfl rfl rfl rfl rfl rfl hm2 rfl rfl rfl ?_
     refine .B ?_
     cases ok2
     ·rw[if_pos rfl]at hst
      obtain rfl:=be hR hst
      refine T.ct rfl ?_
      refine .B ?_
      exact⟨_,.ownN rfl (.v rfl rfl rfl (fun _=>rfl) .nil)⟩
     ·rw[if_neg (by decide)]at hst
      refine T.cf rfl ?_
      refine .B ?_
      cases ch1
      ·cases ch2
       ·rw[if_pos ⟨rfl,rfl⟩]at hst
        obtain rfl:=be hR hst
        refine .B ?_
        refine T.ct rfl ?_
        refine .B ?_
        exact⟨_,.o rfl rfl rfl (fun _=> .inl rfl) (by simp) (.v rfl rfl rfl (fun _=>rfl) .nil)⟩
       ·rw[if_neg (by simp)]at hst
        obtain⟨m',hlt,hR'⟩:=gI hR hst
        refine .B ?_
        refine T.cf rfl ?_
        refine .B ?_
        exact T.K (ih (m',d2) ⟨hR',hs3⟩ hlt)
      ·rw[if_neg (by simp)]at hst
       obtain⟨m',hlt,hR'⟩:=gI hR hst
       refine .B ?_
       refine T.cf rfl ?_
       refine .B ?_
       exact T.K (ih (m',d2) ⟨hR',hs3⟩ hlt)
def hd0 (l:List Int):Int:=l.getD 0 0
def au:Nat→List (List (Int×Int)×Int)→Nat→Int→Nat→Nat×Int×Nat
 |_,[],m,s,a=>(m,s,a)
 |i,t::ts,m,s,a=>if 1<(vals t.1).length then au (i+1) ts (m+1) s i else au (i+1) ts m (wr (s+wr (t.2*hd0 (vals t.1)))) a
def bT (d:aa)(c:Con):aa:=
 let r:=au 0 (ac d c.vars c.coefs) 0 0 0
 if 1<r.1 then d else
 if r.1=0 then(if r.2.1=c.rhs then d.set (varAt c 0).toNat []else d)else
 d.set (varAt c r.2.2).toNat (cZ ((vals (domAt d (varAt c r.2.2))).filter fun v=>decide (wr (r.2.1+wr (coefAt c r.2.2*v))≠c.rhs)))
theorem cQ: ∀(ts:List (List (Int×Int)×Int)) (i m a:Nat) (s:Int) (n:Nat),a<n→i+ts.length≤n→m≤i→(au i ts m s a).2.2<n∧(au i ts m s a).1≤i+ts.length
 | [],i,m,a,s,n,h,_,hm=>by simp[au];omega
 |t::ts,i,m,a,s,n,h,hn,hm=>by
  simp only[D0]at hn⊢
  rw[au]
  split
  ·have:=cQ ts (i+1) (m+1) i s n (by omega) (by omega) (by omega)
   omega
  ·have:=cQ ts (i+1) m a (wr (s+wr (t.2*hd0 (vals t.1)))) n h (by omega) (by omega)
   omega
def tG (d:aa)(c:Con):aa:=j8 d c.vars c.coefs c.rhs c.vars.length
def xg (d:aa)(c:Con):aa:=j8 d c.vars (aA c.coefs) (wr (0-c.rhs)) c.vars.length
def wX (c:Con)(out:aa):Option aa ⊕ aa:=
 if c.op=1∧[]∉out then
  (if []∈xg out c then .inl none else if tG (xg out c) c=out then .inl (some out)else .inr (tG (xg out c) c))
 else .inl (if []∈out then none else some out)
def lF (d:aa)(c:Con)(R:Option aa)(N:Nat):Prop:=
 if []∈d then R=none else if c.op=2 then R=(if []∈bT d c then none else some (bT d c))else cH (wX c) N (tG d c)=some R
def soW (es:Int×Int×Bool)(c:Con):Bool:=
 if es.2.2=false then false else
 if c.op=0 then decide (es.2.1≤c.rhs)else
 if c.op=1 then decide (es.1=c.rhs)&&decide (es.2.1=c.rhs)else
 decide (c.rhs<es.1)||decide (es.2.1<c.rhs)
theorem tK (d:aa)(c:Con)(h:SumIn d c.vars c.coefs):Spec Tryz.prog 230 false [aJ d,.agg (cC c)] [.val (.bool (soW (endsW d c.vars c.coefs) c))]:=by
 refine Spec.body Tryz.func230 rfl rfl rfl fun w0 Z0=> ?_
 have he:=oK d c.vars c.coefs h
 generalize endsW d c.vars c.coefs=es at*
 obtain⟨lo,hi,b⟩:=es
 unfold soW
 simp only
 refine .B ?_
 refine .C he ?_
 cases b
 ·refine .B ?_
  refine T.ct rfl ?_
  refine .B ?_
  exact r1
 ·rw[if_neg (by decide)]
  refine .B ?_
  refine T.cf rfl ?_
  refine .B ?_
  refine T.cd rfl (fun h1=> ?_) (fun h1=> ?_)
  ·have h1:c.op=0:=h1
   rw[if_pos h1]
   refine .B ?_
   exact r1
  ·have h1: ¬c.op=0:=h1
   rw[if_neg h1]
   refine .B ?_
   refine T.cd rfl (fun h2=> ?_) (fun h2=> ?_)
   ·have h2:c.op=1:=h2
    rw[if_pos h2]
    refine .B ?_
    refine J.g rfl rfl rfl (fun h3=> ?_) (fun h3=> ?_)
    ·have h3:lo=c.rhs:=h3
     rw[decide_eq_true h3]
     refine .B ?_
     exact⟨_,.v rfl rfl (by simp) (fun _=>rfl) .nil⟩
    ·have h3: ¬lo=c.rhs:=h3
     rw[decide_eq_false h3]
     refine .B ?_
     exact r1
   ·have h2: ¬c.op=1:=h2
    rw[if_neg h2]
    refine .B ?_
    refine J.g rfl rfl rfl (fun h3=> ?_) (fun h3=> ?_)
    ·have h3:c.rhs<lo:=h3
     rw[decide_eq_true h3]
     refine .B ?_
     exact r1
    ·have h3: ¬c.rhs<lo:=h3
     rw[decide_eq_false h3]
     refine .B ?_
     exact⟨_,.v rfl rfl (by simp) (fun _=>rfl) .nil⟩
def bN (c:Con):Con:=
 if c.op=0 then { c with coefs:=aA c.coefs,rhs:=wr (wr (0-c.rhs)-1) } else
 if c.op=1 then { c with op:=2 } else
 if c.op=2 then { c with op:=1 } else c
theorem qt (c:Con)(hc:ConB c):Spec Tryz.prog 194 true [.agg (cC c)] [.val (.agg (cC (bN c)))]:=by
 refine Spec.body Tryz.func194 rfl rfl rfl fun w0 Z0=> ?_
 obtain⟨kind,vars,coefs,op,rhs,rows,b⟩:=c
 obtain⟨h1,h2,h3,h4⟩:=hc
 simp only at h1 h2 h3 h4
 unfold bN
 simp only
 have hcv:=(dR vars (by omega)).frz
 have hcc:=(dR coefs h2).frz
 have htc:=(k6 coefs h2).frz
 refine .B ?_
 refine .L ?_
 refine .B ?_
 refine .C hcv ?_
 refine .B ?_
 refine .W ?_
 refine .B ?_
 refine T.cd rfl (fun h5=> ?_) (fun h5=> ?_)
 ·have h5:op=0:=h5
  rw[if_pos h5]
  refine T.seq ?_
  refine T.K (?_:T _ _ ⟨[(1,.optr 0 0 0 0),(2,.optr 1 0 0 0)],[(0,some (.box false (cC ⟨kind,vars,coefs,op,rhs,rows,b⟩))),(1,some (.box true (cC ⟨0,[],[],0,0,[],0⟩)))],2⟩ _)
  refine T.rdw 11 rfl (by kernel_rfl) rfl ?_
  refine .B ?_
  refine .C htc ?_
  refine .B ?_
  refine J.wd rfl rfl rfl rfl rfl rfl rfl rfl rfl rfl ?_
  refine .B ?_
  refine J.wd rfl rfl rfl rfl rfl rfl rfl rfl rfl rfl ?_
  refine J.nil ?_
  refine⟨rfl,?_⟩
  refine .B ?_
  refine .W ?_
  refine .B ?_
  exact⟨_,.c rfl rfl rfl rfl (fun h=>by cases h) .nil⟩
 ·have h5: ¬op=0:=h5
  rw[if_neg h5]
  refine .B ?_
  refine T.cd rfl (fun h6=> ?_) (fun h6=> ?_)
  ·have h6:op=1:=h6
   rw[if_pos h6]
   refine .B ?_
   refine .W ?_
   refine .B ?_
   refine .C hcc ?_
   refine .B ?_
   refine .W ?_
   refine .B ?_
   refine .W ?_
   refine .B ?_
   exact⟨_,.c rfl rfl rfl rfl (fun h=>by cases h) .nil⟩
  ·have h6: ¬op=1:=h6
   rw[if_neg h6]
   refine .B ?_
   refine T.cd rfl (fun h7=> ?_) (fun h7=> ?_)
   ·have h7:op=2:=h7
    rw[if_pos h7]
    refine .B ?_
    refine .W ?_
    refine .B ?_
    refine .C hcc ?_
    refine .B ?_
    refine .W ?_
    refine .B ?_
    refine .W ?_
    refine .B ?_
    exact⟨_,.c rfl rfl rfl rfl (fun h=>by cases h) .nil⟩
   ·have h7: ¬op=2:=h7
    rw[if_neg h7]
    refine .B ?_
    refine .C hcc ?_
    refine .B ?_
    refine .W ?_
    refine .B ?_
    refine .W ?_
    refine .B ?_
    exact⟨_,.c rfl rfl rfl rfl (fun h=>by cases h) .nil⟩
theorem A2 {d:aa}{c:Con}(h:SumIn d c.vars c.coefs):SumIn d (bN c).vars (bN c).coefs:=by
 unfold bN
 split
 ·obtain⟨a1,a2,a3,a4,a5,a6⟩:=h
  exact⟨by simp[aA,a1],a2,a3,fun k hk=>by
   obtain⟨k0,hk0,rfl⟩:=List.mem_map.1 hk
   exact(c6 (a4 _ hk0)).2,a5,a6⟩
 ·split
  ·exact h
  ·split<;>exact h
theorem tS (d:aa)(c:Con)(hc:ConB c)(h:SumIn d c.vars c.coefs):Spec Tryz.prog 193 false [aJ d,.agg (cC c)]
  [.val (.bool (soW (endsW d c.vars c.coefs) c)),.val (.bool (soW (endsW d c.vars c.coefs) c||soW (endsW d (bN c).vars (bN c).coefs) (bN c)))]:=by
 refine Spec.body Tryz.func193 rfl rfl rfl fun w0 Z0=> ?_
 have h1:=tK d c h
 have h2:=tK d (bN c) (A2 h)
 have hn:=qt c hc
 generalize soW (endsW d c.vars c.coefs) c=b1 at*
 generalize soW (endsW d (bN c).vars (bN c).coefs) (bN c)=b2 at*
 refine .B ?_
 refine .C h1 ?_
 cases b1
 ·refine J.nil ?_
  refine T.cf rfl ?_
  refine .B ?_
  refine .C hn ?_
  refine .C h2 ?_
  refine .B ?_
  exact⟨_,.v rfl rfl rfl (fun _=>rfl) (.v rfl rfl (by simp) (fun _=>rfl) .nil)⟩
 ·refine J.nil ?_
  refine T.ct rfl ?_
  refine .B ?_
  exact r2
theorem iZ (a b:List (List Int))(hl:a.length*8≤140737488355328)(hx: ∀x∈a,x.length*8≤140737488355328):Spec Tryz.prog 16 false [bR a,bR b] [.val (.bool (decide (a=b)))]:=by
 refine Spec.body Tryz.func16 rfl rfl rfl fun w0 Z0=> ?_
 refine .B ?_
 refine T.cd rfl (fun h=> ?_) (fun h=> ?_)
 ·refine .B ?_
  refine⟨_,.v rfl rfl ?_ (fun _=>rfl) .nil⟩
  rw[decide_eq_false]
  intro e
  subst e
  exact h rfl
 ·have h:a.length=b.length:=by
   have h: ¬(((a.map cL).length:Int)≠(b.map cL).length):=h
   simp at h;omega
  refine .B ?_
  refine T.K (T.ind (fun i:Nat=>⟨[(0,.val false (bR a)),(1,.val false (bR b)),(5,.val true (.int .i64 i))],[],0⟩) (fun i=>i≤a.length∧a.take i=b.take i) (fun i=>a.length-i) 0 (by simp) (fun _ _ h=>h) ?_)
  rintro i ⟨hi,ht⟩ ih
  refine .B ?_
  refine T.cd rfl (fun h1=> ?_) (fun h1=> ?_)
  ·have h1:i<a.length:=by simpa using h1
   have h2:i<b.length:=by omega
   refine .B ?_
   refine .I (r:=cL a[i]) (aO h1) ?_
   refine .B ?_
   refine .I (r:=cL b[i]) (aO h2) ?_
   refine .B ?_
   refine J.cc rfl rfl rfl rfl rfl (lX a[i] b[i] (hx _ (C5 h1))) rfl rfl ?_
   refine .B ?_
   by_cases e:a[i]=b[i]
   ·rw[decide_eq_true e]
    refine T.cf rfl ?_
    refine .B ?_
    rw[ak (l:=a.length) (by omega) (by omega)]
    exact T.K (ih (i+1) ⟨by omega,lM ht h1 h2 e⟩ (by omega))
   ·rw[decide_eq_false e]
    refine T.ct rfl ?_
    refine .B ?_
    refine⟨_,.v rfl rfl ?_ (fun _=>rfl) .nil⟩
    rw[decide_eq_false]
    intro e2
    subst e2
    exact e rfl
  ·have h1:i=a.length:=by simp at h1;omega
   subst h1
   refine .B ?_
   refine⟨_,.v rfl rfl ?_ (fun _=>rfl) .nil⟩
   rw[DE,h,DE]at ht
   rw[decide_eq_true ht]
theorem qK (d:aa)(hl:d.length*24≤140737488355328)(hx: ∀x∈d,x.length*16≤140737488355328):Spec Tryz.prog 191 false [aJ d] [.own 54 1 ((if []∈d then []else d).map cD),.val (.bool (!decide ([]∈d)))]:=by
 refine Spec.body Tryz.func191 rfl rfl rfl fun w0 Z0=> ?_
 refine .B ?_
 refine T.sub (Rel.own0 (s:=4) 54 1 rfl) ?_
 refine T.K (T.listI d (fun pre=>[]∉pre) (fun n pre post=>⟨[(4,.ref 0),(7,.val false (aJ d)),(8,.val true (.int .i64 (d.map cD).length)),(9,.val true (.int .i64 n))],[(0,some (.sl 54 1 true (pre.map cD)))],1⟩) (fun _ _ h=>h) (by simp) ?_ ?_)
 ·rintro n pre x post h hn hi ih
  have hlt:=bY h hn
  have hxl:=hx x (by rw[h];simp)
  refine .B ?_
  refine T.ct2 rfl (bX h hn) ?_
  refine .B ?_
  refine .I (r:=cD x) (aS h hn) ?_
  refine .B ?_
  refine T.cd rfl (fun h1=> ?_) (fun h1=> ?_)
  ·have hx:x=[]:=by simp at h1;exact h1
   have hm: []∈d:=by rw[h,hx];simp
   rw[if_pos hm,decide_eq_true hm]
   refine .B ?_
   exact⟨_,.ownN rfl (.v rfl rfl rfl (fun _=>rfl) .nil)⟩
  ·have hx:x≠[]:=fun e=>h1 (by rw[e];rfl)
   refine .B ?_
   refine .C (bQ x (by omega)).frz ?_
   refine .B ?_
   refine .V ?_
   refine .B ?_
   refine J.aD rfl rfl rfl rfl rfl rfl rfl rfl rfl rfl rfl rfl rfl rfl rfl rfl rfl rfl rfl (by omega) ?_
   refine .B ?_
   rw[ak hlt (by omega)]
   exact T.K (ih (by simp[hi,Ne.symm hx]))
 ·intro hi
  refine .B ?_
  refine T.cf2 rfl bl ?_
  refine .B ?_
  exact⟨_,.o rfl rfl (by rw[if_neg hi]) (fun _=> .inl rfl) (by simp) (.v rfl rfl (by simp[hi]) (fun _=>rfl) .nil)⟩
theorem me (d:aa)(v value:Int)(hv:0≤v∧v.toNat<d.length)(hl:((domAt d v).length+1)*16≤140737488355328):
  SpecM Tryz.prog 192 54 1 (d.map cD) [.int .i64 v,.int .i64 value] ((d.set v.toNat (domCut (domAt d v) value value)).map cD) [.bool (!decide (domCut (domAt d v) value value=[]))]:=by
 refine SpecM.body Tryz.func192 rfl rfl rfl (by simp[PV.flat]) fun w0 v0 Z1=> ?_
 have hrow:(d.map cD)[v.toNat]? =some (cD (domAt d v)):=by simp[ao hv.2]
 have hc:=(f5 (domAt d v) value value hl).frz
 have hrow2:((d.set v.toNat (domCut (domAt d v) value value)).map cD)[v.toNat]? =some (cD (domCut (domAt d v) value value)):=by simp[hv.2]
 have hb:decide ((((domCut (domAt d v) value value).map cR).length:Int) > 0)= !decide (domCut (domAt d v) value value=[]):=by
  cases domCut (domAt d v) value value<;>simp
 generalize domCut (domAt d v) value value=cx at*
 generalize domAt d v=x at*
 refine .B ?_
 refine J.io rfl rfl rfl rfl rfl rfl rfl rfl rfl hv.1 (by simpa using hv.2) rfl ?_
 refine J.lo rfl rfl rfl rfl rfl rfl (r:=cD x) hrow rfl ?_
 refine .B ?_
 refine .C hc ?_
 refine J.io rfl rfl rfl rfl rfl rfl rfl rfl rfl hv.1 (by simpa using hv.2) rfl ?_
 refine J.w1 rfl rfl rfl rfl rfl rfl rfl rfl rfl rfl rfl (fun _=>rfl) hv.2 ?_
 refine .B ?_
 refine J.io rfl rfl rfl rfl rfl rfl rfl rfl rfl hv.1 (by simpa using hv.2) rfl ?_
 refine J.lo rfl rfl rfl rfl rfl rfl (r:=cD cx) hrow2 rfl ?_
 refine .B ?_
 exact⟨.v rfl rfl (by rw[←hb]) (fun h=>by cases h) .nil,_,rfl,rfl⟩
def dC (k:Int):Int:=wr ((wr (k+1)).tdiv 2)
theorem tU (k:Int):Spec Tryz.prog 195 false [.int .i64 k] [.val (.int .i64 (dC k))]:=by
 refine Spec.body Tryz.func195 rfl rfl rfl fun w0 Z0=> ?_
 refine .B ?_
 exact r1
theorem yI (r:Int×Int)(v:Int):Spec Tryz.prog 83 false [.agg (cR r),.ptr [.int .i64 v]] [.val (.bool (decide (r.1≤v)&&decide (v≤r.2)))]:=by
 refine Spec.body Tryz.func83 rfl rfl rfl fun w0 Z0=> ?_
 refine .B ?_
 refine J.g rfl rfl rfl (fun h=> ?_) (fun h=> ?_)
 ·have h:r.1≤v:=by simpa using h
  rw[decide_eq_true h]
  refine .B ?_
  exact r1
 ·have h: ¬r.1≤v:=by simpa using h
  rw[decide_eq_false h]
  refine .B ?_
  exact r1
theorem Bi {α:Type}{p:α→Bool}{d pre post:List α}{x:α}{n:Nat}(h:d=pre++x::post)(hn:n=pre.length)(hi: ∀r∈pre,p r=false)(hx:p x=true):(if d.any p then(d.findIdx p:Int)else -1)=n:=by
 subst h hn
 have h1:(pre++x::post).any p=true:=by simp[hx]
 rw[if_pos h1,List.findIdx_append]
 have h2:pre.findIdx p=pre.length:=List.findIdx_eq_length.2 hi
 rw[h2,if_neg (by omega),List.findIdx_cons,hx]
 simp
theorem wg (f:FuncId)(caps:List PV)(p:Int×Int→Bool)(d:List (Int×Int))(hl:d.length*16≤140737488355328)(hf: ∀r,Spec Tryz.prog f false (.agg (cR r)::caps) [.val (.bool (p r))]):
  Spec Tryz.prog 122 false [dm d,.fn (.func f) [] caps] [.val (.int .i64 (if d.any p then d.findIdx p else -1))]:=by
 refine Spec.body Tryz.func122 rfl rfl rfl fun w0 Z0=> ?_
 refine .B ?_
 refine T.K (T.listI d (fun pre=> ∀r∈pre,p r=false) (fun n pre post=>⟨[(0,.val false (dm d)),(1,.val false (.fn (.func f) [] caps)),(6,.val false (dm d)),(7,.val true (.int .i64 (d.map cR).length)),(8,.val true (.int .i64 n))],[],0⟩) (fun _ _ h=>h) (by simp) ?_ ?_)
 ·rintro n pre x post h hn hi ih
  have hlt:=bY h hn
  have hfx:=hf x
  refine .B ?_
  refine T.ct2 rfl (bX h hn) ?_
  refine .B ?_
  refine .I (r:=cR x) (aS h hn) ?_
  refine .B ?_
  refine .C hfx ?_
  refine .B ?_
  cases hp:p x
  ·refine T.cf rfl ?_
   refine .B ?_
   rw[ak hlt (by omega)]
   exact T.K (ih (fun r hr=>by
    rcases List.mem_append.1 hr with h|h
    ·exact hi r h
    ·simp at h;subst h;exact hp))
  ·refine T.ct rfl ?_
   refine .B ?_
   exact⟨_,.v rfl rfl (by rw[Bi h hn hi hp]) (fun _=>rfl) .nil⟩
 ·intro hi
  refine .B ?_
  refine T.cf2 rfl bl ?_
  refine .B ?_
  exact⟨_,.v rfl rfl (by rw[if_neg (by simpa using hi)]) (fun _=>rfl) .nil⟩
def hasV (d:List (Int×Int))(v:Int):Bool:=d.any fun r=>decide (r.1≤v)&&decide (v≤r.2)
theorem pC (f:FuncId)(caps:List PV)(p:Int×Int→Bool)(d:List (Int×Int))(hl:d.length*16≤140737488355328)(hf: ∀r,Spec Tryz.prog f false (.agg (cR r)::caps) [.val (.bool (p r))]):
  Spec Tryz.prog 82 false [dm d,.fn (.func f) [] caps] [.val (.bool (d.any p))]:=by
 refine Spec.body Tryz.func82 rfl rfl rfl fun w0 Z0=> ?_
 refine .B ?_
 refine .C (wg f caps p d hl hf) ?_
 refine .B ?_
 refine⟨_,.v rfl rfl ?_ (fun _=>rfl) .nil⟩
 cases d.any p
 ·rfl
 ·show PV.bool (decide ((d.findIdx p:Int)≥0))=_
  rw[decide_eq_true (by omega)]
theorem jy (d:List (Int×Int))(v:Int)(hl:d.length*16≤140737488355328):Spec Tryz.prog 55 false [dm d,.int .i64 v] [.val (.bool (hasV d v))]:=by
 refine Spec.body Tryz.func55 rfl rfl rfl fun w0 Z0=> ?_
 refine .B ?_
 refine J.sub (Rel.unbx (s:=3) (fun _ h=>h) rfl rfl) ?_
 refine J.sub (Rel.fp (s:=3) rfl) ?_
 refine .B ?_
 refine J.cc rfl rfl rfl rfl rfl (pC _ _ _ d hl fun r=>yI r v) rfl rfl ?_
 refine .B ?_
 exact r1
def dD (d:aa)(b v:Int):Option aa:=if domCut (domAt d b) v v=[]then none else some (d.set b.toNat (domCut (domAt d b) v v))
def bM (c:Con):Con:=⟨0,c.vars,c.coefs,c.op,c.rhs,[],0⟩
def yesW (d:aa)(c:Con):Bool:=soW (endsW d c.vars c.coefs) (bM c)
def noW (d:aa)(c:Con):Bool:=soW (endsW d (bN (bM c)).vars (bN (bM c)).coefs) (bN (bM c))
def s6 (d:aa)(c:Con)(RS RN:Option aa):Option aa:=
 if []∈d then none else
 if yesW d c then dD d c.b 1 else
 if noW d c then dD d c.b 0 else
 if hasV (domAt d c.b) 0=false then RS else
 if hasV (domAt d c.b) 1=false then RN else some d
theorem vW (d:aa)(c:Con)(h:SumIn d c.vars c.coefs)(hcb:ConB (bM c))(hb:0≤c.b∧c.b.toNat<d.length)(hx: ∀x∈d,(x.length+1)*16≤140737488355328)(RS RN:Option aa)
  (h1: []∉d→yesW d c=false→noW d c=false→hasV (domAt d c.b) 0=false→Spec Tryz.prog 139 false [aJ d,.agg (cC (bM c))] (aW RS)) (h2: []∉d→yesW d c=false→noW d c=false→hasV (domAt d c.b) 0=true→hasV (domAt d c.b) 1=false→Spec Tryz.prog 139 false [aJ d,.agg (cC (bN (bM c)))] (aW RN)):
  Spec Tryz.prog 136 false [aJ d,.agg (cC c)] (aW (s6 d c RS RN)):=by
 refine Spec.body Tryz.func136 rfl rfl rfl fun w0 Z0=> ?_
 have hown:=qK d h.dl (fun x hm=>by have:=hx x hm;omega)
 have hkn:Spec Tryz.prog 193 false [aJ d,.agg (cC (bM c))] [.val (.bool (yesW d c)),.val (.bool (yesW d c||noW d c))]:=tS d (bM c) hcb h
 have hnot:=qt (bM c) hcb
 have hrow:(d.map cD)[c.b.toNat]? =some (cD (domAt d c.b)):=by simp[ao hb.2]
 have hxb:=hx _ (ah hb.2)
 have hh0:=jy (domAt d c.b) 0 (by omega)
 have hh1:=jy (domAt d c.b) 1 (by omega)
 have hk0:=me d c.b 0 hb hxb
 have hk1:=me d c.b 1 hb hxb
 unfold s6
 unfold dD
 generalize yesW d c=y at*
 generalize noW d c=z at*
 refine .B ?_
 refine .C hown ?_
 refine .B ?_
 by_cases hm: []∈d
 ·rw[if_pos hm,if_pos hm,decide_eq_true hm]
  refine T.ct rfl ?_
  refine .B ?_
  exact⟨_,.ownN rfl (.v rfl rfl rfl (fun _=>rfl) .nil)⟩
 ·rw[if_neg hm,if_neg hm,decide_eq_false hm]
  have h1:=h1 hm
  have h2:=h2 hm
  refine T.cf rfl ?_
  refine .B ?_
  refine .L ?_
  refine .W ?_
  refine .B ?_
  refine J.mf rfl rfl rfl rfl rfl rfl rfl ?_
  refine .B ?_
  refine .C hkn ?_
  refine .B ?_
  cases y
  ·rw[if_neg (by decide)]
   cases z
   ·rw[if_neg (by decide)]
    refine .B ?_
    refine T.cf rfl ?_
    refine .B ?_
    refine T.cf rfl ?_
    refine .B ?_
    refine J.i rfl rfl rfl rfl rfl rfl rfl rfl rfl (r:=cD (domAt d c.b)) hb.1 hrow rfl ?_
    refine .B ?_
    refine .C hh0 ?_
    generalize hasV (domAt d c.b) 0=e0 at*
    cases e0
    ·rw[if_pos rfl]
     refine .B ?_
     refine T.ct rfl ?_
     refine .B ?_
     refine .C (h1 rfl rfl rfl) ?_
     refine .B ?_
     exact⟨_,.o rfl rfl rfl (fun _=> .inl rfl) (by simp) (.v rfl rfl rfl (fun _=>rfl) .nil)⟩
    ·rw[if_neg (by decide)]
     refine .B ?_
     refine T.cf rfl ?_
     refine .B ?_
     refine J.i rfl rfl rfl rfl rfl rfl rfl rfl rfl (r:=cD (domAt d c.b)) hb.1 hrow rfl ?_
     refine .B ?_
     refine .C hh1 ?_
     generalize hasV (domAt d c.b) 1=e1 at*
     cases e1
     ·rw[if_pos rfl]
      refine .B ?_
      refine T.ct rfl ?_
      refine .B ?_
      refine .C hnot ?_
      refine .B ?_
      refine .C (h2 rfl rfl rfl rfl) ?_
      refine .B ?_
      exact⟨_,.o rfl rfl rfl (fun _=> .inl rfl) (by simp) (.v rfl rfl rfl (fun _=>rfl) .nil)⟩
     ·rw[if_neg (by decide)]
      refine .B ?_
      refine T.cf rfl ?_
      refine .B ?_
      refine T.cf rfl ?_
      refine .B ?_
      exact⟨_,.o rfl rfl rfl (fun _=> .inl rfl) (by simp) (.v rfl rfl rfl (fun _=>rfl) .nil)⟩
   ·rw[if_pos rfl]
    refine .B ?_
    refine T.cf rfl ?_
    refine .B ?_
    refine T.ct rfl ?_
    refine .B ?_
    refine J.cmf rfl rfl rfl rfl rfl rfl rfl hk0 rfl rfl rfl ?_
    refine .B ?_
    by_cases hk:domCut (domAt d c.b) 0 0=[]
    ·rw[if_pos hk,decide_eq_true hk]
     refine T.ct rfl ?_
     refine .B ?_
     exact⟨_,.ownN rfl (.v rfl rfl rfl (fun _=>rfl) .nil)⟩
    ·rw[if_neg hk,decide_eq_false hk]
     refine T.cf rfl ?_
     refine .B ?_
     exact⟨_,.o rfl rfl rfl (fun _=> .inl rfl) (by simp) (.v rfl rfl rfl (fun _=>rfl) .nil)⟩
  ·rw[if_pos rfl]
   refine .B ?_
   refine T.ct rfl ?_
   refine .B ?_
   refine J.cmf rfl rfl rfl rfl rfl rfl rfl hk1 rfl rfl rfl ?_
   refine .B ?_
   by_cases hk:domCut (domAt d c.b) 1 1=[]
   ·rw[if_pos hk,decide_eq_true hk]
    refine T.ct rfl ?_
    refine .B ?_
    exact⟨_,.ownN rfl (.v rfl rfl rfl (fun _=>rfl) .nil)⟩
   ·rw[if_neg hk,decide_eq_false hk]
    refine T.cf rfl ?_
    refine .B ?_
    exact⟨_,.o rfl rfl rfl (fun _=> .inl rfl) (by simp) (.v rfl rfl rfl (fun _=>rfl) .nil)⟩
def mC (d:aa):Option aa:=if []∈d then none else some d
def eA (n:Nat)(us t:List Int)(k:Nat):List Int:=((us.zip t).take k).foldl (fun a p=>a.set p.1.toNat p.2) (List.replicate n 0)
def fK (P:List Int→Bool)(m:Nat)(all:List (List Int)):List (List Int):=(List.range m).map fun k=>(all.filter P).map (·.getD k 0)
def putsW (d:aa)(us:List Int)(ks:List (List Int))(k:Nat):aa:=((us.zip ks).take k).foldl (fun o p=>o.set p.1.toNat (cZ (aV p.2))) d
def lh (d:aa)(us:List Int)(P:List Int→Bool):Option aa:=
 if []∈d then none else mC (putsW d us (fK P us.length (bi (us.map (domAt d)) us.length)) us.length)
theorem yO (n:Nat)(us t:List Int)(k:Nat):(eA n us t k).length=n:=by
 unfold eA
 generalize (us.zip t).take k=l
 have: ∀(l:List (Int×Int)) (a:List Int),(l.foldl (fun a p=>a.set p.1.toNat p.2) a).length=a.length:=by
  intro l
  induction l with
  |nil=>simp
  |cons p l ih=>intro a;rw[CZ,ih];simp
 rw[this];simp
theorem x9 (d:aa)(us:List Int)(ks:List (List Int))(k:Nat):(putsW d us ks k).length=d.length:=by
 unfold putsW
 generalize (us.zip ks).take k=l
 have: ∀(l:List (Int×List Int)) (a:aa),(l.foldl (fun o p=>o.set p.1.toNat (cZ (aV p.2))) a).length=a.length:=by
  intro l
  induction l with
  |nil=>simp
  |cons p l ih=>intro a;rw[CZ,ih];simp
 rw[this]
theorem x7 {α:Type}{m k:Nat}(f:Nat→α)(x:α):((List.range m).map f).set k x=(List.range m).map fun j=>if j=k then x else f j:=by
 apply Ds
 intro i
 rw[Dc,C8,C8]
 by_cases hi:i<m
 ·have hr:(List.range m)[i]? =some i:=by simp[hi]
  rw[hr]
  by_cases e:k=i
  ·subst e
   rw[if_pos rfl,if_pos (by simpa using hi)]
   simp
  ·rw[if_neg e]
   simp only[DP]
   rw[if_neg (Ne.symm e)]
 ·have hr:(List.range m)[i]? =none:=by simp;omega
  rw[hr]
  by_cases e:k=i
  ·subst e
   rw[if_pos rfl,if_neg (by simpa using hi)];rfl
  ·rw[if_neg e];rfl
abbrev wP:=List (Value×List (List PV))
theorem uQ: ∀(l:List Int) (room:Int),eB room l=false→(∀k∈l,aG k≤4398046511104)∧(0≤room→aj l≤room)
 | [],room,h=>by simp[aj]
 |x::l,room,h=>by
  rw[eB]at h
  split at h
  ·cases h
  ·rename_i h1
   split at h
   ·cases h
   ·rename_i h2
    obtain⟨h3,h4⟩:=uQ l _ h
    have e:aj (x::l)=aG x*1048576+aj l:=by simp[aj]
    have e2:max x (-x)=aG x:=rfl
    rw[e2]at h2 h4
    refine⟨fun k hk=> ?_,fun h0=> ?_⟩
    ·rcases List.mem_cons.1 hk with rfl|hk
     ·unfold aG;omega
     ·exact h3 k hk
    ·rw[e]
     have:=h4 (by omega)
     omega
structure SumOk (d:aa)(c:Con):Prop where
 fine:SumFine d c.vars c.coefs
 nod:c.vars.Nodup
 pos:0<c.vars.length
 op:0≤c.op∧c.op≤2
 big:aj c.coefs≤4611686018427388928∧aG c.rhs≤4611686018427388928
theorem pj {c:Con}(h:ee c.coefs c.rhs=false):(∀k∈c.coefs,aG k≤4398046511104)∧aj c.coefs+aG c.rhs≤4611686018427387904:=by
 unfold ee at h
 split at h
 ·cases h
 ·rename_i h1
  obtain⟨h2,h3⟩:=uQ _ _ h
  have e:max c.rhs (-c.rhs)=aG c.rhs:=rfl
  rw[e]at h3
  refine⟨h2,?_⟩
  have:aG c.rhs≤4611686018427387904:=by unfold aG;omega
  have:=h3 (by omega)
  omega
theorem jz {d:aa}{c:Con}(h:conR d c=0):ee c.coefs c.rhs=false:=by
 unfold conR at h
 cases hb:ee c.coefs c.rhs with
 |false=>rfl
 |true=>
  rw[hb]at h
  split at h
  ·cases h
  ·split at h
   ·cases h
   ·split at h<;>cases h
theorem aU: ∀l:List Int,0≤aj l
 | []=>by simp[aj]
 |k::l=>by
  have:=aU l
  have:=bE k
  have e:aj (k::l)=aG k*1048576+aj l:=by simp[aj]
  omega
theorem rt {d:aa}{c:Con}(hc:ConB c)(h:conR d c=0)(hk:c.kind=0)(hf: ∀x∈d,Fine x)(hdl:d.length*24≤140737488355328):SumOk d c:=by
 obtain⟨hv,hr⟩:=r3 hc h
 obtain⟨h1,h2⟩:=pj (jz h);have hra:=bE c.rhs;have hwk:=aU c.coefs
 unfold rightR at hr
 rw[if_pos hk]at hr
 simp only[sumR,opR,CR,decide_eq_true_eq,Dd,decide_eq_false_iff_not]at hr
 obtain⟨⟨⟨_,⟨⟨h4,h5⟩,h6⟩,h7⟩,h8⟩,_⟩:=hr
 exact⟨⟨h6,hv.1,hv.2,fun k hk=>⟨fun e=>h7 (e▸hk),h1 k hk⟩,hf,hdl⟩,h4,h5,h8,by omega⟩
theorem di {d:aa}{vars coefs:List Int}(h:SumFine d vars coefs):f7 (ac d vars coefs):=by
 intro t ht
 obtain⟨p,hp,rfl⟩:=List.mem_map.1 ht
 obtain⟨h1,h2⟩:=D5 hp
 exact⟨h.dom _ (ah (h.vin _ h1).2),h.ck _ h2⟩
theorem cz {d:aa}{vars coefs:List Int}(h:vars.length=coefs.length):aY (ac d vars coefs)=aj coefs:=by
 unfold aY ac
 rw[Dz]
 congr 1
 have:((fun x:List (Int×Int)×Int=>x.2)∘fun p:Int×Int=>(domAt d p.1,p.2))=fun p:Int×Int=>p.2:=rfl
 rw[this,List.map_snd_zip]
 omega
theorem dh: ∀(l:List Int),(∀k∈l,CoefOk k)→aj (aA l)=aj l
 | [],_=>rfl
 |k::l,h=>by
  have e:=(c6 (h k (.head _))).1
  have ih:=dh l fun k hk=>h k (.tail _ hk)
  have e1:aj (k::l)=aG k*1048576+aj l:=by simp[aj]
  have e2:aj (aA (k::l))=aG (wr (0-k))*1048576+aj (aA l):=by simp[aj,aA]
  rw[e1,e2,ih,e]
  unfold aG
  omega
theorem qN {a b v:Int}(hb:0<b)(h1: -9223372036854775000≤a)(h2:a≤9223372036854775000):(v≤gq a b↔b*v≤a)∧-9223372036854775002≤gq a b∧gq a b≤9223372036854775002:=by
 have e:=Int.mul_tdiv_add_tmod a b
 have r1:=Int.tmod_lt_of_pos a hb
 have r2:=Int.lt_tmod_of_pos a hb
 have hq: -9223372036854775000≤a.tdiv b∧a.tdiv b≤9223372036854775000:=by
  have:=Ft a b
  omega
 unfold gq
 generalize a.tdiv b=q at*
 generalize a.tmod b=r at*
 have key: ∀w:Int,v≤w→b*v≤b*w:=fun w h=>DT h (by omega)
 have key2: ∀w:Int,w≤v→b*w≤b*v:=fun w h=>DT h (by omega)
 by_cases hr:r<0
 ·rw[if_pos hr]
  simp only[wr]
  rw[ae (n:=q) (by omega) (by omega),ae (n:=q-1) (by omega) (by omega)]
  refine⟨⟨fun h=> ?_,fun h=> ?_⟩,by omega,by omega⟩
  ·have:=key _ h
   rw[Int.mul_sub,Int.mul_one]at this
   omega
  ·by_cases hv:v≤q-1
   ·exact hv
   ·have:=key2 q (by omega)
    omega
 ·rw[if_neg hr]
  simp only[wr]
  rw[ae (n:=q) (by omega) (by omega)]
  refine⟨⟨fun h=> ?_,fun h=> ?_⟩,by omega,by omega⟩
  ·have:=key _ h
   omega
  ·by_cases hv:v≤q
   ·exact hv
   ·have:=key2 (q+1) (by omega)
    rw[Int.mul_add,Int.mul_one]at this
    omega
def yY (x:List (Int×Int))(k rest:Int):List (Int×Int):=cZ ((vals x).filter fun v=>decide (k*v≤rest))
theorem xB {x:List (Int×Int)}(h:az x)(k rest:Int):az (yY x k rest)∧∀v,v∈vals (yY x k rest)↔v∈vals x∧k*v≤rest:=by
 have hu:=fB (p:=fun v=>decide (k*v≤rest)) (aF h)
 refine⟨fX hu,fun v=> ?_⟩
 unfold yY
 rw[bI hu,EG]
 simp
theorem Bk {x:List (Int×Int)}{k rest:Int}(h:Fine x)(hk:CoefOk k)(h1: -9223372036854775000≤rest)(h2:rest≤9223372036854775000):cutW x k rest=yY x k rest:=by
 have hc:=fQ hk
 obtain⟨p1,p2⟩:=xB h.ok k rest
 have q1:=(rZ h.ok k rest).1
 refine iq q1 p1 (dF (aF q1) (aF p1) fun v=> ?_)
 rw[p2]
 unfold cutW
 by_cases hp:0<k
 ·rw[if_pos hp,(bP h.ok _ _).2,(qN hp h1 h2).1]
  constructor
  ·rintro⟨a,_,b⟩;exact⟨a,b⟩
  ·rintro⟨a,b⟩;exact⟨a,(h.val v a).1,b⟩
 ·rw[if_neg hp]
  have hn:0< -k:=by have:=hk.1;omega
  rw[(c6 hk).1,(bP h.ok _ _).2]
  obtain⟨f1,f2,f3⟩:=qN (v:= -v) hn h1 h2
  rw[Int.neg_mul_neg]at f1
  simp only[wr]
  rw[ae (by omega) (by omega),←f1]
  constructor
  ·rintro⟨a,b,_⟩;exact⟨a,by omega⟩
  ·rintro⟨a,b⟩;exact⟨a,by omega,(h.val v a).2⟩
end Go.Proofs.YtopcjbahjjhdmaaGreat
