/- The texts PuC, LiA, FnR, FnS, FuE, FuF, FuG, FuH, FuI, PuM, FvR, PuQ, PuR, FnP, FnQ, FgH, FgK, FnT, FnU, FnV, FnW, FnX, FnY, FnZ, FgA, FgB, FgL, LiB of the workplace, joined. -/
import Derived.Test.YtopcjbahjjhdmaaGreatB5
import Derived.Lib.Mul64
import Derived.Sort.OwnSortedInts
namespace Go.Proofs.YtopcjbahjjhdmaaGreat
open Go Go.RowKit
set_option linter.unusedVariables false
theorem xJ {α β:Type}{step:α→β ⊕ α}(Inv:α→Prop)(μ:α→Nat)(h: ∀x y,Inv x→step x= .inr y→Inv y∧μ y<μ x): ∀x,Inv x→∃N R,cE step N x=some R:=by
 have key: ∀n x,μ x=n→Inv x→∃N R,cE step N x=some R:=by
  intro n
  induction n using Nat.strongRecOn with
  |_ n ih=>
   intro x hx hi
   cases e:step x with
   |inl b=>exact⟨1,b,by simp[cE,e]⟩
   |inr y=>
    obtain⟨h1,h2⟩:=h x y hi e
    obtain⟨N,R,hR⟩:=ih (μ y) (hx▸h2) y rfl h1
    exact⟨N+1,R,by simp[cE,e,hR]⟩
 exact fun x hi=>key _ x rfl hi
theorem pg {α β:Type}{step:α→β ⊕ α}(Inv:α→Prop)(h: ∀x y,Inv x→step x= .inr y→Inv y): ∀(N:Nat) (x:α) (R:β),Inv x→cE step N x=some R→∃z,Inv z∧step z= .inl R
 |0,x,R,_,e=>by cases e
 |n+1,x,R,hi,e=>by
  cases hs:step x with
  |inl b=>simp only[cE,hs,D3]at e;exact⟨x,hi,by rw[hs,e]⟩
  |inr y=>simp only[cE,hs]at e;exact pg Inv h n y R (h x y hi hs) e
def weight (d:aa):Nat:=(d.map fun x=>(vals x).length).sum
theorem gW: ∀{d:aa} {i:Nat} {y:List (Int×Int)} (x:List (Int×Int)),d[i]? =some y→weight (d.set i x)+(vals y).length=weight d+(vals x).length
 | [],i,y,x,h=>by simp at h
 |z::d,0,y,x,h=>by
  simp at h;subst h
  simp only[Fr,weight,DJ,E5];omega
 |z::d,i+1,y,x,h=>by
  have:=gW (d:=d) (i:=i) x (by simpa using h)
  simp only[List.set_cons_succ,weight,DJ,E5]at this⊢;omega
theorem vG {d d':List (Int×Int)}(h:az d)(h':az d')(hs: ∀v∈vals d',v∈vals d):(vals d').length≤(vals d).length∧(d'≠d→(vals d').length<(vals d).length):=by
 have hle:=bV (aF h') hs
 refine⟨hle,fun hne=>Nat.lt_of_le_of_ne hle fun e=>hne ?_⟩
 refine iB h' h (dG (aF h') (aF h) fun v=>⟨hs v,fun hv=> ?_⟩)
 refine Classical.byContradiction fun hn=> ?_
 have h1:(v::vals d').Nodup:=List.nodup_cons.2 ⟨hn,dB (aF h')⟩
 have h2:(v::vals d').length≤(vals d).length:=h1.length_le_of_subset fun w hw=>by
  rcases List.mem_cons.1 hw with rfl|hw
  ·exact hv
  ·exact hs w hw
 simp at h2;omega
structure Cutd (d out:aa):Prop where
 len:out.length=d.length
 fine: ∀x∈out,Fine x
 ne: ∀x∈out,x≠[]
 sub: ∀(i:Nat) x y,out[i]? =some x→d[i]? =some y→∀v∈vals x,v∈vals y
theorem Cutd.set {d out:aa}(h:Cutd d out){i:Nat}{x y:List (Int×Int)}(hy:out[i]? =some y)(hx:az x)(hne:x≠[])(hs: ∀v∈vals x,v∈vals y):Cutd d (out.set i x):=by
 have hym:=D4 hy
 refine⟨by simp[h.len],fun z hz=> ?_,fun z hz=> ?_,fun j z w hz hw v hv=> ?_⟩
 ·rcases DG hz with hz|rfl
  ·exact h.fine z hz
  ·exact(h.fine y hym).cut hx hs
 ·rcases DG hz with hz|rfl
  ·exact h.ne z hz
  ·exact hne
 ·by_cases e:i=j
  ·subst e
   have hlt:=(List.getElem?_eq_some_iff.1 hy).1
   rw[DX hlt]at hz
   obtain rfl:=D2 hz
   exact h.sub i y w hy hw v (hs v hv)
  ·rw[DM e]at hz
   exact h.sub j z w hz hw v hv
theorem yh {c:Con}{d out next:aa}(hv:cJ out c)(h:Cutd d out)(hs:dJ c out= .inr next):Cutd d next∧cJ next c∧weight next<weight out:=by
 have hh:=jG c
 unfold dJ at hs
 split at hs
 ·cases hs
 ·rename_i hk
  have hkl:placeO out c<halfOf c:=by have:=mq (dX out c) (halfOf c);unfold placeO at hk⊢;omega
  have hp:dX out c (placeO out c)=false:=m8 hkl
  have hv1:=hv.2 _ (aK (c:=c) (k:=placeO out c) (by omega))
  have hv2:=hv.2 _ (aK (c:=c) (k:=halfOf c+placeO out c) (by omega))
  have hab:varAt c (placeO out c)≠varAt c (halfOf c+placeO out c):=fun e=>by rw[dX,e]at hp;simp[gz]at hp
  simp only at hs
  generalize varAt c (placeO out c)=a at*
  generalize varAt c (halfOf c+placeO out c)=b at*
  have ha:=ao hv1.2
  have hb:=ao hv2.2
  have fa:=h.fine _ (ah hv1.2)
  have fb:=h.fine _ (ah hv2.2)
  generalize domAt out a=da at*
  generalize domAt out b=db at*
  obtain⟨x1,x2⟩:=bR fa.ok (-1048576) (aO db)
  obtain⟨y1,y2⟩:=bR fb.ok (ay da) 1048576
  generalize domCut da (-1048576) (aO db)=x at*
  generalize domCut db (ay da) 1048576=y at*
  split at hs
  ·cases hs
  ·rename_i hne
   split at hs
   ·cases hs
   ·rename_i hns
    obtain rfl:=Sum.inr.inj hs
    have hsx: ∀v∈vals x,v∈vals da:=fun v hv=>((x2 v).1 hv).1
    have hsy: ∀v∈vals y,v∈vals db:=fun v hv=>((y2 v).1 hv).1
    have hne':a.toNat≠b.toNat:=by omega
    have hb':(out.set a.toNat x)[b.toNat]? =some db:=by rw[DM hne'];exact hb
    refine⟨(h.set ha x1 (fun e=>hne (.inl e)) hsx).set hb' y1 (fun e=>hne (.inr e)) hsy,(hv.set _ _).set _ _,?_⟩
    have w1:=gW x ha
    have w2:=gW y hb'
    have l1:=vG fa.ok x1 hsx
    have l2:=vG fb.ok y1 hsy
    by_cases e1:x=da
    ·have e2:y≠db:=fun e=>hns ⟨e1,e⟩
     have:=l2.2 e2
     subst e1;omega
    ·have:=l1.2 e1
     omega
theorem qx {c:Con}{d:aa}(hv:cJ d c)(hf: ∀x∈d,Fine x): ∃R N,(if []∈d then R=none else cE (dJ c) N d=some R)∧(∀out,R=some out→Cutd d out∧dJ c out= .inl (some out)):=by
 by_cases he: []∈d
 ·exact⟨none,0,by rw[if_pos he],fun out h=>by cases h⟩
 ·have h0:Cutd d d:=⟨rfl,hf,fun x hx e=>he (e▸hx),fun i x y hx hy v hv=>by rw[hx]at hy;exact D2 hy▸hv⟩
  have hst: ∀x y,(Cutd d x∧cJ x c)→dJ c x= .inr y→(Cutd d y∧cJ y c)∧weight y<weight x:=fun x y hi hs=>by
   have:=yh hi.2 hi.1 hs
   exact⟨⟨this.1,this.2.1⟩,this.2.2⟩
  obtain⟨N,R,hR⟩:=xJ (step:=dJ c) (fun x=>Cutd d x∧cJ x c) weight hst d ⟨h0,hv⟩
  refine⟨R,N,by rw[if_neg he];exact hR,fun out h=> ?_⟩
  obtain⟨z,hz,hs⟩:=pg (fun x=>Cutd d x∧cJ x c) (fun x y hi hs=>(hst x y hi hs).1) N d R ⟨h0,hv⟩ hR
  have:z=out:=by
   subst h
   unfold dJ at hs
   split at hs
   ·simpa using hs
   ·simp only at hs
    split at hs
    ·simp at hs
    ·split at hs
     ·simpa using hs
     ·cases hs
  subst this
  rw[h]at hs
  exact⟨hz.1,hs⟩
set_option linter.unusedSimpArgs false
abbrev wr (n:Int):Int:=IntKind.i64.wrap n
def smallI (n:Int):Bool:=decide (-4611686018427387904≤n)&&decide (n≤4611686018427387904)
def mulI (a b:Int):Int×Bool:=if smallI a&&smallI b&&smallI (a*b)then(a*b,true)else(0,false)
def endW (d:List (Int×Int))(k:Int)(high:Bool):Int×Bool:=((mulI k (if decide (0<k)==high then aO d else ay d)).1,!d.isEmpty&&(mulI k (if decide (0<k)==high then aO d else ay d)).2)
def kK:List (List (Int×Int)×Int)→Int→Int→Int×Int×Bool
 | [],lo,hi=>(lo,hi,true)
 |(x,k)::ts,lo,hi=>if(endW x k false).2 then kK ts (wr (lo+(endW x k false).1)) (wr (hi+(endW x k true).1))else(0,0,false)
def ac (d:aa)(vars coefs:List Int):List (List (Int×Int)×Int):=(vars.zip coefs).map fun p=>(domAt d p.1,p.2)
def endsW (d:aa)(vars coefs:List Int):Int×Int×Bool:=kK (ac d vars coefs) 0 0
def Co (d:List (Int×Int))(k:Int):Int×Int×Bool:=(min (wr (k*(pD d).1)) (wr (k*(pD d).2.1)),max (wr (k*(pD d).1)) (wr (k*(pD d).2.1)),(pD d).2.2)
def cg (d:List (Int×Int))(k:Int):Int:=if 0<k then k*ay d else k*aO d
def fP (d:List (Int×Int))(k:Int):Int:=if 0<k then k*aO d else k*ay d
def bi (ts:List (List (Int×Int)×Int)):Int:=(ts.map fun t=>cg t.1 t.2).sum
def fO (ts:List (List (Int×Int)×Int)):Int:=(ts.map fun t=>fP t.1 t.2).sum
def aG (k:Int):Int:=max k (-k)
def ak (coefs:List Int):Int:=(coefs.map fun k=>aG k*1048576).sum
theorem bE (k:Int):0≤aG k:=by unfold aG;omega
theorem dZ (k x:Int)(h1: -1048576≤x)(h2:x≤1048576): -(aG k*1048576)≤k*x∧k*x≤aG k*1048576:=by
 unfold aG
 by_cases hk:0≤k
 ·have e1:=Dt h2 hk
  have e2:=Dt h1 hk
  rw[show max k (-k)=k by omega]
  omega
 ·have hk':0≤-k:=by omega
  have e1:=Dt h2 hk'
  have e2:=Dt h1 hk'
  rw[Fu]at e1 e2
  rw[show max k (-k)= -k by omega]
  rw[Fu]at e1 e2⊢
  omega
theorem sB {d:List (Int×Int)}(h:Fine d)(hne:d≠[]): -1048576≤ay d∧ay d≤aO d∧aO d≤1048576:=by
 have h1:=fD h.ok hne
 have h2:=pd h.ok hne
 have:=h.val _ h1
 have:=h.val _ h2
 have:=nS h.ok h1
 omega
theorem lD {d:List (Int×Int)}(h:Fine d)(hne:d≠[])(k:Int): -(aG k*1048576)≤cg d k∧cg d k≤fP d k∧fP d k≤aG k*1048576:=by
 obtain⟨h1,h2,h3⟩:=sB h hne
 have m1:=dZ k (ay d) h1 (by omega)
 have m2:=dZ k (aO d) (by omega) h3
 unfold cg fP
 by_cases hk:0<k
 ·rw[if_pos hk,if_pos hk]
  have:=Dt h2 (show 0≤k by omega)
  omega
 ·rw[if_neg hk,if_neg hk]
  have:=F3 (show k≤0 by omega) h2
  omega
def CoefOk (k:Int):Prop:=k≠0∧aG k≤4398046511104
theorem lw {k x:Int}(hk:CoefOk k)(h1: -1048576≤x)(h2:x≤1048576):mulI k x=(k*x,true):=by
 have m:=dZ k x h1 h2
 have h3:=hk.2
 unfold mulI smallI
 have e:aG k=max k (-k):=rfl
 rw[if_pos]
 simp only[DA,decide_eq_true_eq]
 omega
theorem sC {d:List (Int×Int)}{k:Int}(h:Fine d)(hne:d≠[])(hk:CoefOk k):endW d k false=(cg d k,true)∧endW d k true=(fP d k,true):=by
 obtain⟨h1,h2,h3⟩:=sB h hne
 have hb:d.isEmpty=false:=by cases d with
  |nil=>exact absurd rfl hne
  |cons r d=>rfl
 unfold endW cg fP
 rw[hb]
 by_cases hp:0<k
 ·rw[decide_eq_true hp,if_pos hp,if_pos hp]
  simp only[Bool.not_false,E4,beq_self_eq_true,if_true]
  rw[if_neg (by decide),lw hk h1 (by omega),lw hk (by omega) h3]
  exact⟨rfl,rfl⟩
 ·rw[decide_eq_false hp,if_neg hp,if_neg hp]
  simp only[Bool.not_false,E4,beq_self_eq_true,if_true]
  rw[if_neg (by decide),lw hk h1 (by omega),lw hk (by omega) h3]
  exact⟨rfl,rfl⟩
theorem xQ {d:List (Int×Int)}{k:Int}(h:Fine d)(hne:d≠[])(hk:CoefOk k):Co d k=(cg d k,fP d k,true):=by
 obtain⟨h1,h2,h3⟩:=sB h hne
 have m1:=dZ k (ay d) h1 (by omega)
 have m2:=dZ k (aO d) (by omega) h3
 have h4:=hk.2
 unfold Co wr
 rw[AN h.ok hne]
 simp only
 rw[ae (by omega) (by omega),ae (by omega) (by omega)]
 unfold cg fP
 by_cases hp:0<k
 ·rw[if_pos hp,if_pos hp]
  have:=Dt h2 (show 0≤k by omega)
  rw[show min (k*ay d) (k*aO d)=k*ay d by omega,show max (k*ay d) (k*aO d)=k*aO d by omega]
 ·rw[if_neg hp,if_neg hp]
  have:=F3 (show k≤0 by omega) h2
  rw[show min (k*ay d) (k*aO d)=k*aO d by omega,show max (k*ay d) (k*aO d)=k*ay d by omega]
def gq (ts:List (List (Int×Int)×Int)):Prop:= ∀t∈ts,Fine t.1∧CoefOk t.2
def be (ts:List (List (Int×Int)×Int)):Int:=ak (ts.map (·.2))
theorem cw (t:List (Int×Int)×Int)(ts):be (t::ts)=aG t.2*1048576+be ts:=by simp[be,ak]
theorem di: ∀ts,0≤be ts
 | []=>by simp[be,ak]
 |t::ts=>by
  rw[cw]
  have:=di ts
  have:=bE t.2
  omega
theorem kU: ∀{ts:List (List (Int×Int)×Int)},gq ts→(∀t∈ts,t.1≠[])→-be ts≤bi ts∧bi ts≤fO ts∧fO ts≤be ts
 | [],_,_=>by simp[be,ak,bi,fO]
 |t::ts,h,hne=>by
  obtain⟨h1,h2,h3⟩:=kU (ts:=ts) (fun t ht=>h t (.tail _ ht)) (fun t ht=>hne t (.tail _ ht))
  obtain⟨h4,h5,h6⟩:=lD (h t (.head _)).1 (hne t (.head _)) t.2
  rw[cw]
  simp only[bi,fO,DJ,E5]at h1 h2 h3⊢
  omega
theorem jN: ∀{ts:List (List (Int×Int)×Int)} (lo hi:Int),gq ts→(∀t∈ts,t.1≠[])→-4611686018427388928≤lo-be ts→lo+be ts≤4611686018427388928→-4611686018427388928≤hi-be ts→hi+be ts≤4611686018427388928→kK ts lo hi=(lo+bi ts,hi+fO ts,true)
 | [],lo,hi,_,_,_,_,_,_=>by simp[kK,bi,fO]
 |(x,k)::ts,lo,hi,h,hne,h1,h2,h3,h4=>by
  obtain⟨hf,hk⟩:=h _ (.head _)
  have hx:=hne _ (.head _)
  obtain⟨e1,e2⟩:=sC hf hx hk
  obtain⟨b1,b2,b3⟩:=lD hf hx k
  have hp:=di ts
  rw[cw]at h1 h2 h3 h4
  simp only at h1 h2 h3 h4 e1 e2 b1 b2 b3
  rw[kK,e1,e2,if_pos rfl]
  simp only[wr]
  rw[ae (by omega) (by omega),ae (by omega) (by omega),jN _ _ (fun t ht=>h t (.tail _ ht)) (fun t ht=>hne t (.tail _ ht)) (by omega) (by omega) (by omega) (by omega)]
  simp only[bi,fO,DJ,E5,Prod.mk.injEq,and_true]
  omega
set_option maxRecDepth 8000
theorem gh (l:List Int)(hl:l.length*8≤140737488355328):Spec Tryz.prog 152 false [aq l] [.val (.bool (l.all smallI))]:=by
 refine Spec.body Tryz.func152 rfl rfl rfl fun w0 Z0=> ?_
 refine .B ?_
 refine T.K (T.ind (fun i:Nat=>⟨[(5,.val false (aq l)),(6,.val true (.int .i64 (l.map cI).length)),(7,.val true (.int .i64 i))],[],0⟩) (fun i=>i≤l.length∧(l.take i).all smallI=true) (fun i=>l.length-i) 0 (by simp) (fun _ _ h=>h) ?_)
 rintro i ⟨hi,hd⟩ ih
 refine .B ?_
 refine T.cd rfl (fun h1=> ?_) (fun h1=> ?_)
 ·have h1:i<l.length:=by simpa using h1
  have hno:smallI l[i]=false→l.all smallI=false:=fun h=>by
   cases h2:l.all smallI with
   |false=>rfl
   |true=>rw[List.all_eq_true.1 h2 _ (D5 h1)]at h;cases h
  refine .B ?_
  refine .I (r:=cI l[i]) (aL h1) ?_
  refine .B ?_
  refine J.g rfl rfl rfl (fun h2=> ?_) (fun h2=> ?_)
  ·refine .B ?_
   refine T.ct rfl ?_
   refine .B ?_
   exact⟨_,.v rfl rfl (by rw[hno];simp[smallI];omega) (fun _=>rfl) .nil⟩
  ·refine .B ?_
   refine T.cd rfl (fun h3=> ?_) (fun h3=> ?_)
   ·refine .B ?_
    exact⟨_,.v rfl rfl (by rw[hno];simp[smallI];omega) (fun _=>rfl) .nil⟩
   ·refine .B ?_
    rw[aj (l:=l.length) (by omega) (by omega)]
    refine T.K (ih (i+1) ⟨by omega,?_⟩ (by omega))
    rw[D7 h1,EP,hd]
    simp[smallI];omega
 ·have h1:i=l.length:=by simp at h1;omega
  subst h1
  rw[DY]at hd
  refine .B ?_
  exact⟨_,.v rfl rfl (by rw[hd]) (fun _=>rfl) .nil⟩
theorem qb (n:Int):IntKind.u64.wrap n=n % 18446744073709551616:=by simp[IntKind.wrap,IntKind.bits,IntKind.signed]
theorem pj (n:Int)(h: -9223372036854775808≤n)(h2:n≤9223372036854775807):Spec Tryz.prog 154 false [.int .i64 n] [.val (.int .u64 ((n.natAbs:Nat):Int))]:=by
 refine Spec.body Tryz.func154 rfl rfl rfl fun w0 Z0=> ?_
 refine .B ?_
 refine T.cd rfl (fun h3=> ?_) (fun h3=> ?_)
 ·have h3:n<0:=h3
  refine .B ?_
  exact⟨_,.v rfl rfl (by rw[qb,qb];congr 1;omega) (fun _=>rfl) .nil⟩
 ·have h3: ¬n<0:=h3
  refine .B ?_
  exact⟨_,.v rfl rfl (by rw[qb];congr 1;omega) (fun _=>rfl) .nil⟩
theorem At (a:Nat)(ha:a<18446744073709551616):IntKind.u64.wrap (BitVec.ofInt IntKind.u64.bits (a:Int) &&& BitVec.ofInt IntKind.u64.bits 4294967295).toNat=((a % 4294967296:Nat):Int):=by
 have e:(BitVec.ofInt IntKind.u64.bits (a:Int) &&& BitVec.ofInt IntKind.u64.bits 4294967295).toNat=a % 4294967296:=by
  rw[BitVec.toNat_and]
  have e1:(BitVec.ofInt IntKind.u64.bits (a:Int)).toNat=a:=by
   rw[BitVec.toNat_ofInt]
   have:((2 ^ IntKind.u64.bits:Nat):Int)=18446744073709551616:=rfl
   rw[this]
   omega
  have e2:(BitVec.ofInt IntKind.u64.bits 4294967295).toNat=2 ^ 32-1:=rfl
  rw[e1,e2,Nat.and_two_pow_sub_one_eq_mod]
 rw[e,qb]
 omega
theorem Dc (a:Nat):((a:Int)).fdiv (2 ^ (min (32:Int).toNat IntKind.u64.bits))=((a / 4294967296:Nat):Int):=by
 have:(2:Int) ^ (min (32:Int).toNat IntKind.u64.bits)=4294967296:=rfl
 rw[this,Int.fdiv_eq_ediv_of_nonneg _ (by decide)]
 omega
theorem CP (a b:Nat):(a:Int)*(b:Int)=((a*b:Nat):Int):=(Ge a b).symm
theorem Da (a b:Nat):(a:Int)+(b:Int)=((a+b:Nat):Int):=(Int.natCast_add a b).symm
theorem mP (a:Nat)(ha:a<18446744073709551616):IntKind.u64.wrap (a:Int)=(a:Int):=by rw[qb];omega
theorem Cu (a:Nat):IntKind.u64.wrap (a:Int)=((a % 18446744073709551616:Nat):Int):=by rw[qb];omega
theorem wt (x y:Nat)(hx:x<18446744073709551616)(hy:y<18446744073709551616):Spec Tryz.prog 153 false [.int .u64 (x:Int),.int .u64 (y:Int)] [.val (.int .u64 ((x*y / 18446744073709551616:Nat):Int)),.val (.int .u64 ((x*y % 18446744073709551616:Nat):Int))]:=by
 obtain⟨bd,bt,bw,hhi⟩:=Lib.mul64_hi x y hx hy
 have ba:=Lib.half_mul_le (a:=x / 4294967296) (b:=y / 4294967296) (by omega) (by omega)
 have bb:=Lib.half_mul_le (a:=x / 4294967296) (b:=y % 4294967296) (by omega) (by omega)
 have bc:=Lib.half_mul_le (a:=x % 4294967296) (b:=y / 4294967296) (by omega) (by omega)
 have ba':x / 4294967296*(y / 4294967296)<18446744073709551616:=by omega
 have bb':x / 4294967296*(y % 4294967296)<18446744073709551616:=by omega
 have bc':x % 4294967296*(y / 4294967296)<18446744073709551616:=by omega
 have bh1:x / 4294967296*(y / 4294967296)+(x / 4294967296*(y % 4294967296)+x % 4294967296*(y % 4294967296) / 4294967296) / 4294967296<18446744073709551616:=by omega
 have bh:x / 4294967296*(y / 4294967296)+(x / 4294967296*(y % 4294967296)+x % 4294967296*(y % 4294967296) / 4294967296) / 4294967296+((x / 4294967296*(y % 4294967296)+x % 4294967296*(y % 4294967296) / 4294967296) % 4294967296+x % 4294967296*(y / 4294967296)) / 4294967296<18446744073709551616:=by
  generalize (x / 4294967296)*(y / 4294967296)=a at*
  generalize (x / 4294967296)*(y % 4294967296)=b at*
  generalize (x % 4294967296)*(y / 4294967296)=c at*
  generalize (x % 4294967296)*(y % 4294967296)=d at*
  omega
 refine Spec.body Tryz.func153 rfl rfl rfl fun w0 Z0=> ?_
 refine .B ?_
 refine⟨_,.v rfl rfl ?_ (fun _=>rfl) (.v rfl rfl ?_ (fun _=>rfl) .nil)⟩
 ·simp only[At x hx,At y hy,Dc,CP,Da,mP _ bd,mP _ bb',mP _ bt,At _ bt,mP _ bc',mP _ bw,mP _ ba',mP _ bh1,mP _ bh]
  rw[hhi]
 ·rw[CP,Cu]
theorem mH (a b:Int)(ha1: -9223372036854775808≤a)(ha2:a≤9223372036854775807)(hb1: -9223372036854775808≤b)(hb2:b≤9223372036854775807):
  Spec Tryz.prog 120 false [.int .i64 a,.int .i64 b] [.val (.int .i64 (mulI a b).1),.val (.bool (mulI a b).2)]:=by
 refine Spec.body Tryz.func120 rfl rfl rfl fun w0 Z0=> ?_
 have hs:=gh [a,b] (by simp)
 refine .B ?_
 refine .V ?_
 refine .C hs ?_
 refine .B ?_
 refine T.cond rfl (fun h=> ?_) (fun h=> ?_)
 ·have e:mulI a b=(0,false):=by
   unfold mulI
   rw[if_neg]
   intro h2
   simp at h h2
   rcases h with h|h
   ·rw[h2.1.1]at h;cases h
   ·rw[h2.1.2]at h;cases h
  rw[e]
  refine .B ?_
  exact r2
 ·have hsa:smallI a=true∧smallI b=true:=by simpa using h
  obtain⟨hsa,hsb⟩:=hsa
  have ha: -4611686018427387904≤a∧a≤4611686018427387904:=by simpa[smallI]using hsa
  have hb: -4611686018427387904≤b∧b≤4611686018427387904:=by simpa[smallI]using hsb
  have hm:=wt a.natAbs b.natAbs (by omega) (by omega)
  have hab:(a*b).natAbs=a.natAbs*b.natAbs:=Int.natAbs_mul a b
  have hp1:(a<0)≠(b<0)→a*b≤0:=by
   intro hne
   by_cases h1:a<0
   ·have h2: ¬b<0:=fun h2=>hne (by simp[h1,h2])
    exact Int.mul_nonpos_of_nonpos_of_nonneg (by omega) (by omega)
   ·have h2:b<0:=by
     by_cases h2:b<0
     ·exact h2
     ·exact absurd (by simp[h1,h2]) hne
    exact Int.mul_nonpos_of_nonneg_of_nonpos (by omega) (by omega)
  have hp2:(a<0)=(b<0)→0≤a*b:=by
   intro heq
   by_cases h1:a<0
   ·have h2:b<0:=by rw[←heq];exact h1
    exact Int.mul_nonneg_of_nonpos_of_nonpos (by omega) (by omega)
   ·have h2: ¬b<0:=by rw[←heq];exact h1
    exact Int.mul_nonneg (by omega) (by omega)
  have hmi:mulI a b=if smallI (a*b)then(a*b,true)else(0,false):=by simp[mulI,hsa,hsb]
  rw[hmi]
  rw[←hab]at hm
  clear hab hmi
  generalize a*b=p at*
  refine .B ?_
  refine .C (pj a ha1 ha2) ?_
  refine .B ?_
  refine .C (pj b hb1 hb2) ?_
  refine .C hm ?_
  refine .B ?_
  refine J.g rfl rfl rfl (fun h4=> ?_) (fun h4=> ?_)
  ·have h4:((p.natAbs / 18446744073709551616:Nat):Int)≠0:=h4
   refine .B ?_
   refine T.ct rfl ?_
   have e:smallI p=false:=by simp[smallI];omega
   rw[e]
   refine .B ?_
   exact r2
  ·have h4: ¬((p.natAbs / 18446744073709551616:Nat):Int)≠0:=h4
   refine .B ?_
   refine T.cd rfl (fun h5=> ?_) (fun h5=> ?_)
   ·have h5:((p.natAbs % 18446744073709551616:Nat):Int) > 4611686018427387904:=h5
    have e:smallI p=false:=by simp[smallI];omega
    rw[e]
    refine .B ?_
    exact r2
   ·have h5: ¬((p.natAbs % 18446744073709551616:Nat):Int) > 4611686018427387904:=h5
    have e:smallI p=true:=by simp[smallI];omega
    rw[e]
    refine .B ?_
    refine T.cond rfl (fun h6=> ?_) (fun h6=> ?_)
    ·have h7:=hp1 (by intro e;simp[e]at h6)
     refine .B ?_
     exact⟨_,.v rfl rfl (by simp only[if_true];rw[ae (n:=((p.natAbs % 18446744073709551616:Nat):Int)) (by omega) (by omega),ae (by omega) (by omega)];congr 1;omega) (fun _=>rfl) (.v rfl rfl rfl (fun _=>rfl) .nil)⟩
    ·have h7:=hp2 (by
      by_cases h1:a<0<;>by_cases h2:b<0<;>simp[h1,h2]at h6⊢)
     refine .B ?_
     exact⟨_,.v rfl rfl (by simp only[if_true];rw[ae (by omega) (by omega)];congr 1;omega) (fun _=>rfl) (.v rfl rfl rfl (fun _=>rfl) .nil)⟩
theorem AM {d:List (Int×Int)}(h:InB d): -1048576≤ay d∧ay d≤1048576∧-1048576≤aO d∧aO d≤1048576:=by
 constructor
 ·cases d with
  |nil=>simp[ay]
  |cons r d=>exact(h r (.head _)).1
 ·constructor
  ·cases d with
   |nil=>simp[ay]
   |cons r d=>exact(h r (.head _)).2.1
  ·unfold aO
   cases hl:d.getLast? with
   |none=>simp
   |some r=>
    have:=h r (List.mem_of_getLast? hl)
    exact⟨this.2.2.1,this.2.2.2⟩
theorem fT {k:Int}(h:CoefOk k): -4398046511104≤k∧k≤4398046511104:=by
 have:=h.2
 unfold aG at this
 omega
theorem jB (d:List (Int×Int))(k:Int)(high:Bool)(hd:DomB d)(hk:CoefOk k):Spec Tryz.prog 233 false [dm d,.int .i64 k,.bool high] [.val (.int .i64 (endW d k high).1),.val (.bool (endW d k high).2)]:=by
 refine Spec.body Tryz.func233 rfl rfl rfl fun w0 Z0=> ?_
 obtain⟨h1,h2,h3,h4⟩:=AM hd.1
 have hk2:=fT hk
 refine T.seq ?_
 refine T.r ?_
 repeat' first|refine J.e rfl rfl rfl rfl ?_|refine J.skip rfl rfl rfl ?_|refine J.bx rfl rfl rfl rfl rfl rfl ?_
 refine J.nil ?_
 refine T.seq ?_
 refine T.r ?_
 repeat' first|refine J.e rfl rfl rfl rfl ?_|refine J.skip rfl rfl rfl ?_|refine J.bx rfl rfl rfl rfl rfl rfl ?_
 refine .C (kG d) ?_
 repeat' first|refine J.e rfl rfl rfl rfl ?_|refine J.skip rfl rfl rfl ?_|refine J.bx rfl rfl rfl rfl rfl rfl ?_
 refine J.nil ?_
 refine T.mid ⟨[(1,.val false (.int .i64 k)),(8,.val true (.int .i64 (if decide (0<k)==high then aO d else ay d))),(9,.val true (.bool (!d.isEmpty)))],[],0⟩ ?_ ?_
 ·refine .B ?_
  refine T.cond rfl (fun h=> ?_) (fun h=> ?_)
  ·have h:(decide (0<k)==high)=true:=h
   rw[if_pos h]
   refine .B ?_
   refine .C (qI d (by have:=hd.2.2;omega)) ?_
   refine .B ?_
   exact⟨rfl,[1,8,9],[],rfl,rfl⟩
  ·have h:(decide (0<k)==high)=false:=h
   rw[h]
   refine .B ?_
   exact⟨rfl,[1,8,9],[],rfl,rfl⟩
 ·have hm:=mH k (if decide (0<k)==high then aO d else ay d) (by omega) (by omega) (by split<;>omega) (by split<;>omega)
  unfold endW
  generalize (if decide (0<k)==high then aO d else ay d)=x at*
  generalize mulI k x=m at*
  refine .B ?_
  refine .C hm ?_
  refine .B ?_
  refine J.gb rfl rfl rfl (fun h=> ?_) (fun h=> ?_)
  ·rw[h]
   refine .B ?_
   exact⟨_,.v rfl rfl rfl (fun _=>rfl) (.v rfl rfl (by simp) (fun _=>rfl) .nil)⟩
  ·rw[h]
   refine .B ?_
   exact r2
structure SumIn (d:aa)(vars coefs:List Int):Prop where
 len:vars.length=coefs.length
 vl:vars.length*8≤140737488355328
 vin: ∀v∈vars,0≤v∧v.toNat<d.length
 ck: ∀k∈coefs,CoefOk k
 dom: ∀x∈d,DomB x
 dl:d.length*24≤140737488355328
theorem oc {d:aa}{vars coefs:List Int}{i:Nat}(h1:i<vars.length)(h2:i<coefs.length):(ac d vars coefs).drop i=(domAt d vars[i],coefs[i])::(ac d vars coefs).drop (i+1):=by
 have hl:i<(ac d vars coefs).length:=by simp[ac];omega
 rw[DD hl]
 simp[ac]
theorem qk {d:aa}{vars coefs:List Int}(h:vars.length=coefs.length):(ac d vars coefs).drop vars.length=[]:=by
 refine ED ?_
 simp[ac];omega
theorem pa (d:aa)(vars coefs:List Int)(h:SumIn d vars coefs):Spec Tryz.prog 234 false [aJ d,aq vars,aq coefs] [.val (.int .i64 (endsW d vars coefs).1),.val (.int .i64 (endsW d vars coefs).2.1),.val (.bool (endsW d vars coefs).2.2)]:=by
 refine Spec.body Tryz.func234 rfl rfl rfl fun w0 Z0=> ?_
 obtain⟨hlen,hvl,hvin,hck,hdom,hdl⟩:=h
 refine .B ?_
 refine T.K (T.ind (fun s:Nat×Int×Int=>⟨[(0,.val false (aJ d)),(2,.val false (aq coefs)),(9,.val true (.int .i64 s.2.1)),(10,.val true (.int .i64 s.2.2)),(17,.val false (aq vars)),(18,.val true (.int .i64 (vars.map cI).length)),(19,.val true (.int .i64 s.1))],[],0⟩)
  (fun s=>s.1≤vars.length∧kK ((ac d vars coefs).drop s.1) s.2.1 s.2.2=endsW d vars coefs) (fun s=>vars.length-s.1) (0,0,0) ⟨by simp,rfl⟩ (fun _ _ h=>h) ?_)
 rintro⟨i,lo,hi⟩ ⟨hil,he⟩ ih
 simp only at hil he
 dsimp only
 refine .B ?_
 refine T.cd rfl (fun h1=> ?_) (fun h1=> ?_)
 ·have h1:i<vars.length:=by simpa using h1
  have h2:i<coefs.length:=by omega
  have hv:=hvin _ (D5 h1)
  have hk:=hck _ (D5 h2)
  have hx:=hdom _ (ah hv.2)
  have hrow:(d.map cD)[vars[i].toNat]? =some (cD (domAt d vars[i])):=by simp[ao hv.2]
  rw[oc h1 h2,kK]at he
  refine .B ?_
  refine .I (r:=cI vars[i]) (aL h1) ?_
  refine .B ?_
  refine J.i rfl rfl rfl rfl rfl rfl rfl rfl rfl (r:=cD (domAt d vars[i])) hv.1 hrow rfl ?_
  refine .B ?_
  refine .I (r:=cI coefs[i]) (aL h2) ?_
  refine .B ?_
  refine J.cc rfl rfl rfl rfl rfl (jB _ _ false hx hk) rfl rfl ?_
  refine .B ?_
  refine J.i rfl rfl rfl rfl rfl rfl rfl rfl rfl (r:=cD (domAt d vars[i])) hv.1 hrow rfl ?_
  refine .B ?_
  refine .I (r:=cI coefs[i]) (aL h2) ?_
  refine .B ?_
  refine J.cc rfl rfl rfl rfl rfl (jB _ _ true hx hk) rfl rfl ?_
  generalize endW (domAt d vars[i]) coefs[i] false=e1 at*
  generalize endW (domAt d vars[i]) coefs[i] true=e2 at*
  obtain⟨n1,b1⟩:=e1
  refine .B ?_
  cases b1
  ·simp only[Dr,if_false]at he
   refine .B ?_
   refine T.ct rfl ?_
   refine .B ?_
   exact⟨_,.v rfl rfl (by rw[←he]) (fun _=>rfl) (.v rfl rfl (by rw[←he]) (fun _=>rfl) (.v rfl rfl (by rw[←he]) (fun _=>rfl) .nil))⟩
  ·simp only[if_true]at he
   refine .B ?_
   refine T.cf rfl ?_
   refine .B ?_
   rw[aj (l:=vars.length) (by omega) (by omega)]
   exact T.K (ih (i+1,wr (lo+n1),wr (hi+e2.1)) ⟨by simp only;omega,he⟩ (by simp only;omega))
 ·have h1:i=vars.length:=by simp at h1;omega
  subst h1
  rw[qk hlen]at he
  refine .B ?_
  exact⟨_,.v rfl rfl (by rw[←he];rfl) (fun _=>rfl) (.v rfl rfl (by rw[←he];rfl) (fun _=>rfl) (.v rfl rfl (by rw[←he];rfl) (fun _=>rfl) .nil))⟩
theorem yQ (d:aa)(hl:d.length*24≤140737488355328)(hx: ∀x∈d,x.length*16≤140737488355328):Spec Tryz.prog 199 false [aJ d] [.own 54 1 ((if []∈d then []else d).map cD),.val (.bool (!decide ([]∈d)))]:=by
 refine Spec.body Tryz.func199 rfl rfl rfl fun w0 Z0=> ?_
 refine .B ?_
 refine T.sub (Rel.own0 (s:=4) 54 1 rfl) ?_
 refine T.K (T.listI d (fun pre=>[]∉pre) (fun n pre post=>⟨[(4,.ref 0),(7,.val false (aJ d)),(8,.val true (.int .i64 (d.map cD).length)),(9,.val true (.int .i64 n))],[(0,some (.sl 54 1 true (pre.map cD)))],1⟩) (fun _ _ h=>h) (by simp) ?_ ?_)
 ·rintro n pre x post h hn hi ih
  have hlt:=bY h hn
  have hxl:=hx x (by rw[h];simp)
  refine .B ?_
  refine T.ct2 rfl (bX h hn) ?_
  refine .B ?_
  refine .I (r:=cD x) (aS h hn) ?_
  refine .B ?_
  refine T.cd rfl (fun h1=> ?_) (fun h1=> ?_)
  ·have hx:x=[]:=by simp at h1;exact h1
   have hm: []∈d:=by rw[h,hx];simp
   rw[if_pos hm,decide_eq_true hm]
   refine .B ?_
   exact⟨_,.ownN rfl (.v rfl rfl rfl (fun _=>rfl) .nil)⟩
  ·have hx:x≠[]:=fun e=>h1 (by rw[e];rfl)
   refine .B ?_
   refine .C (bS x (by omega)).frz ?_
   refine .B ?_
   refine .V ?_
   refine .B ?_
   refine J.aD rfl rfl rfl rfl rfl rfl rfl rfl rfl rfl rfl rfl rfl rfl rfl rfl rfl rfl rfl (by omega) ?_
   refine .B ?_
   rw[aj hlt (by omega)]
   exact T.K (ih (by simp[hi,Ne.symm hx]))
 ·intro hi
  refine .B ?_
  refine T.cf2 rfl bl ?_
  refine .B ?_
  exact⟨_,.o rfl rfl (by rw[if_neg hi]) (fun _=> .inl rfl) (by simp) (.v rfl rfl (by simp[hi]) (fun _=>rfl) .nil)⟩
def gB (a b:Int):Int:=if a.tmod b<0 then wr (wr (a.tdiv b)-1)else wr (a.tdiv b)
theorem px (a b:Int)(hb:b≠0):Spec Tryz.prog 235 false [.int .i64 a,.int .i64 b] [.val (.int .i64 (gB a b))]:=by
 refine Spec.body Tryz.func235 rfl rfl rfl fun w0 Z0=> ?_
 unfold gB
 refine .B ?_
 refine J.qu rfl rfl rfl rfl rfl rfl hb ?_
 refine .B ?_
 refine J.rm rfl rfl rfl rfl rfl rfl hb ?_
 refine .B ?_
 refine T.cd rfl (fun h=> ?_) (fun h=> ?_)
 ·have h:a.tmod b<0:=h
  refine .B ?_
  exact⟨_,.v rfl rfl (by rw[if_pos h]) (fun _=>rfl) .nil⟩
 ·have h: ¬a.tmod b<0:=h
  refine .B ?_
  exact⟨_,.v rfl rfl (by rw[if_neg h]) (fun _=>rfl) .nil⟩
def aA (l:List Int):List Int:=l.map fun k=>wr (0-k)
theorem lC (l:List Int)(hl:l.length*8≤140737488355328):Spec Tryz.prog 201 false [aq l] [.own 3 1 ((aA l).map cI)]:=by
 refine Spec.body Tryz.func201 rfl rfl rfl fun w0 Z0=> ?_
 refine .B ?_
 refine T.sub (Rel.own0 (s:=3) 3 1 rfl) ?_
 refine T.K (T.list l (fun n pre post=>⟨[(3,.ref 0),(6,.val false (aq l)),(7,.val true (.int .i64 (l.map cI).length)),(8,.val true (.int .i64 n))],[(0,some (.sl 3 1 true ((aA pre).map cI)))],1⟩) (fun _ _ h=>h) ?_ ?_)
 ·rintro n pre x post h hn ih
  have hlt:=bY h hn
  refine .B ?_
  refine T.ct2 rfl (bX h hn) ?_
  refine .B ?_
  refine .I (r:=cI x) (aS h hn) ?_
  refine .B ?_
  refine .V ?_
  refine J.aI rfl rfl rfl rfl rfl rfl rfl rfl rfl rfl rfl rfl rfl rfl rfl rfl rfl rfl rfl (by simp[aA];omega) ?_
  refine .B ?_
  rw[aj hlt (by omega),show aA pre++[IntKind.i64.wrap (0-x)]=aA (pre++[x])by simp[aA]]
  exact T.K ih
 ·refine .B ?_
  refine T.cf2 rfl bl ?_
  refine .B ?_
  exact⟨_,.o rfl rfl rfl (fun _=> .inl rfl) (by simp) .nil⟩
theorem dS (l:List Int)(hl:l.length*8≤140737488355328):Spec Tryz.prog 79 false [aq l] [.own 3 1 (l.map cI)]:=by
 refine Spec.body Tryz.func79 rfl rfl rfl fun w0 Z0=> ?_
 refine .B ?_
 refine J.nc rfl rfl rfl rfl rfl rfl rfl fun b hb=> ?_
 refine .B ?_
 cases b
 ·refine T.cf rfl ?_
  refine .B ?_
  refine .O ?_
  refine .B ?_
  refine J.a rfl rfl rfl rfl rfl rfl rfl rfl rfl rfl rfl rfl rfl rfl rfl rfl rfl qX (by show(0+List.length _)*8≤_;simp;omega) ?_
  refine .B ?_
  exact⟨_,.o rfl rfl rfl (fun _=> .inr wM) (by simp) .nil⟩
 ·have:l=[]:=by simpa using hb rfl
  subst this
  refine T.ct rfl ?_
  refine .B ?_
  exact⟨_,.ownN rfl .nil⟩
def fG (d:List (Int×Int)):Int:=d.foldl (fun n r=>wr (n+wr (wr (r.2-r.1)+1))) 0
theorem gG (d:List (Int×Int))(hl:d.length*8≤140737488355328):Spec Tryz.prog 109 false [dm d] [.val (.int .i64 (fG d))]:=by
 refine Spec.body Tryz.func109 rfl rfl rfl fun w0 Z0=> ?_
 refine .B ?_
 refine T.K (T.list d (fun n pre post=>⟨[(3,.val true (.int .i64 (fG pre))),(6,.val false (dm d)),(7,.val true (.int .i64 (d.map cR).length)),(8,.val true (.int .i64 n))],[],0⟩) (fun _ _ h=>h) ?_ ?_)
 ·rintro n pre x post h hn ih
  have hlt:=bY h hn
  refine .B ?_
  refine T.ct2 rfl (bX h hn) ?_
  refine .B ?_
  refine .I (r:=cR x) (aS h hn) ?_
  refine .B ?_
  refine .L ?_
  refine .B ?_
  refine .W ?_
  refine .B ?_
  rw[aj hlt (by omega),show IntKind.i64.wrap (fG pre+IntKind.i64.wrap (IntKind.i64.wrap (x.2-x.1)+1))=fG (pre++[x])by simp[fG]]
  exact T.K ih
 ·refine .B ?_
  refine T.cf2 rfl bl ?_
  refine .B ?_
  exact r1
def cK (l:List Int):List Int:=l.mergeSort fun x y=>decide (x≤y)
theorem po {w:World}{Z:Nat→Prop}: ∀{xs:List Int} {vs:List Value},L2 (Rep w Z) vs (xs.map (PV.int .i64))→vs=xs.map (Value.int .i64)
 | [],_,.nil=>rfl
 |x::xs,_,.cons h h2=>by
  cases h
  rw[po h2];rfl
theorem mj {w:World}{Z:Nat→Prop}: ∀(xs:List Int),L2 (Rep w Z) (xs.map (Value.int .i64)) (xs.map (PV.int .i64))
 | []=> .nil
 |x::xs=> .cons (.int _ _) (mj xs)
theorem ku (l:List Int)(hl:l.length*8≤140737488355328):SpecM Tryz.prog 86 3 1 (l.map cI) [] ((cK l).map cI) []:=by
 have hsl:(cK l).length=l.length:=FW ..
 refine⟨⟨_,Tryz.func86,rfl,rfl⟩,fun p hp=>(by cases hp),fun w Z1 v0 vs ho hz hvs=> ?_⟩
 cases hvs
 obtain⟨xs,hrow,hx,h1,h2⟩:=ho
 rw[show(l.map cI).flatten=l.map (PV.int .i64)from ro _ l]at hx
 obtain rfl:=po hx
 rw[D6]at hrow
 obtain⟨hln,hrow⟩:=hrow
 rcases hrow with ⟨rfl,hnil⟩|⟨g,cap,cur,rfl,_,hb,hcap,hmax,hsz,htk⟩
 ·obtain rfl:l=[]:=by simpa using hnil
  refine(nD none 0 w).mono ?_
  rintro e w' ⟨rfl,rfl⟩
  refine⟨[],rfl,rfl,rfl,rfl,DB _,fun _ _ _=>rfl,?_,.nil⟩
  rw[show cK []=[]from List.mergeSort_nil ..]
  refine⟨[],⟨rfl,.inl ⟨rfl,rfl⟩⟩,.nil,?_,?_⟩<;>(intro r hr;cases hr)
 ·have hg:g<w.heap.size:=(Array.getElem?_eq_some_iff.1 hb).1
  rw[Ft]at htk
  refine(vH g 0 cap l w (holds_of_blockI hb htk) hg (by omega)).mono ?_
  rintro e w' ⟨rfl,n,os,rfl⟩
  have hgr:=grownBy_sortedI (n:=n) (os:=os) (w:=w) (g:=g) (cK l).toArray
  refine⟨[],rfl,hgr.os,hgr.tape,hgr.output,hgr.size,fun b hb1 hb2=>hgr.block b hb1 (fun e=>hb2 (by simpa[VB,aw]using e.symm)),?_,.nil⟩
  have hr:=ownsRow_sortedI (base:=0) (n:=n) (os:=os) (ts:=cK l) hsl (DU _) hb hcap hmax hsz
  refine⟨(cK l).map (Value.int .i64),?_,?_,fun r hr=>by obtain⟨x,_,rfl⟩:=List.mem_map.1 hr;rfl,fun r hr p hp=>by obtain⟨x,_,rfl⟩:=List.mem_map.1 hr;simp[cI]at hp;rw[hp];rfl⟩
  ·rw[D6,hsl];exact hr
  ·rw[show((cK l).map cI).flatten=(cK l).map (PV.int .i64)from ro _ _]
   exact mj _
theorem k6 (l:List Int)(hl:l.length*8≤140737488351232):Spec Tryz.prog 220 false [.fn (.func 240) [] [.ptr [aq l]]] [.own 3 1 ((cK l).map cI)]:=by
 refine Spec.body Tryz.func220 rfl rfl rfl fun w0 Z0=> ?_
 have hc:=lX (g:=240) (caps:=[.ptr [aq l]]) (xs:=l) (enters_of Tryz.func240 (by kernel_rfl) rfl) (fun w Z us h=>by
  cases h with
  |cons h1 h2=>cases h2;exact pU 0 0 l hl w _ h1) (by omega)
 refine .B ?_
 refine .C hc ?_
 refine .B ?_
 refine J.cm rfl rfl rfl rfl rfl rfl rfl rfl rfl (ku l (by omega)) rfl rfl rfl ?_
 refine .B ?_
 exact⟨_,.o rfl rfl rfl (fun _=> .inl rfl) (by simp) .nil⟩
def domOfP (l:List Int):List (Int×Int)×Int:=if l.all aH=true then(if fG (packG (cK l)) > 4096 then([],2)else(packG (cK l),0))else([],20)
theorem kL (l:List Int)(hl:l.length*16≤140737488351232):Spec Tryz.prog 185 false [aq l] [.own 53 2 ((domOfP l).1.map cR),.val (.int .i64 (domOfP l).2)]:=by
 refine Spec.body Tryz.func185 rfl rfl rfl fun w0 Z0=> ?_
 have hc:=pK (p:=fun v=> !aH v) (f:=226) l (fun v _=>Al v) (by omega)
 have hsl:(cK l).length=l.length:=FW ..
 have hpg:=qB (cK l)
 refine .B ?_
 refine .C hc ?_
 refine .B ?_
 have hany:(l.any fun v=> !aH v)= !l.all aH:=by
  rw[Em]
 rw[hany]
 unfold domOfP
 cases ha:l.all aH with
 |false=>
  refine T.ct rfl ?_
  refine .B ?_
  exact⟨_,.ownN rfl (.v rfl rfl rfl (fun _=>rfl) .nil)⟩
 |true=>
  refine T.cf rfl ?_
  have hvs: ∀v∈cK l,aH v=true:=fun v hv=>List.all_eq_true.1 ha v ((GF l _).mem_iff.1 hv)
  refine .B ?_
  refine .C (oe l) ?_
  refine .B ?_
  refine .C (k6 l (by omega)).frz ?_
  refine .B ?_
  refine .C (tR (cK l) hvs (by omega)) ?_
  refine .B ?_
  refine .C (gG (packG (cK l)) (by omega)) ?_
  refine .B ?_
  refine T.cd rfl (fun h=> ?_) (fun h=> ?_)
  ·rw[if_pos rfl,if_pos h]
   refine .B ?_
   exact⟨_,.ownN rfl (.v rfl rfl rfl (fun _=>rfl) .nil)⟩
  ·rw[if_pos rfl,if_neg h]
   refine .B ?_
   exact⟨_,.o rfl rfl rfl (fun _=> .inl rfl) (by simp) (.v rfl rfl rfl (fun _=>rfl) .nil)⟩
theorem yR (d:aa)(vs:List Int)(hl:vs.length*24≤140737488355328):(listsP d vs).length*24≤140737488355328∧∀x∈listsP d vs,x.length*8≤140737488355328:=by
 refine⟨by rw[listsP,D6];exact hl,fun x hx=> ?_⟩
 obtain⟨v,_,rfl⟩:=List.mem_map.1 hx
 have:=qd (d.getD v.toNat [])
 omega
def nk (L:List (List Int))(i:Nat):List Int:=(L.getD i []).filter fun x=>(dq (L.set i [x])).2
def kX (L:List (List Int)):List Int→Nat→aa→aa
 | [],_,out=>out
 |v::vs,i,out=>kX L vs (i+1) (out.set v.toNat (domOfP (nk L i)).1)
def oM (d:aa)(vs:List Int):Option aa:=if []∈d then none else if(dq (listsP d vs)).2=true then some (kX (listsP d vs) vs 0 d)else none
theorem s9 (d:aa)(c:Con)(hd:jp d)(hb: ∀x∈d,InB x)(hx: ∀x∈d,x.length*16≤140737488351232)(hv: ∀v∈c.vars,0≤v∧v.toNat<d.length)(hl:c.vars.length*24≤140737488355328):Spec Tryz.prog 133 false [aJ d,.agg (cC c)] (aX (oM d c.vars)):=by
 refine Spec.body Tryz.func133 rfl rfl rfl fun w0 Z0=> ?_
 obtain⟨hd1,hd2⟩:=hd
 generalize hR:oM d c.vars=R
 unfold oM at hR
 refine .B ?_
 refine T.sub (Rel.own0 (s:=6) 54 1 rfl) ?_
 refine T.K (T.listI d (fun pre=>[]∉pre) (fun n pre post=>⟨[(0,.val false (aJ d)),(3,.optr 0 0 0 0),(6,.ref 1),(20,.val false (aJ d)),(21,.val true (.int .i64 (d.map cD).length)),(22,.val true (.int .i64 n))],[(0,some (.box false (cC c))),(1,some (.sl 54 1 true (pre.map cD)))],2⟩) (fun _ _ h=>h) (by simp) ?_ ?_)
 ·rintro n pre x post h hn hi ih
  have hlt:=bY h hn
  have hxl:=hd2 x (by rw[h];simp)
  refine .B ?_
  refine T.ct2 rfl (bX h hn) ?_
  refine .B ?_
  refine .I (r:=cD x) (aS h hn) ?_
  refine .B ?_
  refine T.cd rfl (fun h1=> ?_) (fun h1=> ?_)
  ·have hx:x=[]:=by simp at h1;exact h1
   have:R=none:=by rw[if_pos (by rw[h,hx];simp)]at hR;exact hR.symm
   subst this
   refine .B ?_
   exact⟨_,.ownN rfl (.v rfl rfl rfl (fun _=>rfl) .nil)⟩
  ·have hx:x≠[]:=fun e=>h1 (by rw[e];rfl)
   refine .B ?_
   refine .C (bS x (by omega)).frz ?_
   refine .B ?_
   refine .V ?_
   refine .B ?_
   refine J.aD rfl rfl rfl rfl rfl rfl rfl rfl rfl rfl rfl rfl rfl rfl rfl rfl rfl rfl rfl (by omega) ?_
   refine .B ?_
   rw[aj hlt (by omega)]
   exact T.K (ih (by simp[hi,Ne.symm hx]))
 ·intro hi
  rw[if_neg hi]at hR
  have hlo:=yR d c.vars hl
  have hlen:(listsP d c.vars).length=c.vars.length:=D6 ..
  have hL4: ∀x∈listsP d c.vars,x.length≤4097:=fun x hx=>by
   obtain⟨v,_,rfl⟩:=List.mem_map.1 hx
   exact qd _
  have hsl:=(ta d c.vars ⟨hd1,hd2⟩ hb hx hv hl).frz
  generalize listsP d c.vars=L at*
  have hsp:=lz L hlo.1 hlo.2
  refine .B ?_
  refine T.cf2 rfl bl ?_
  refine .B ?_
  refine .C hsl ?_
  refine .B ?_
  have hR2:(dq L).2=(c9 L).isSome:=by unfold dq;cases c9 L<;>rfl
  rw[hR2]at hR
  cases hm:c9 L with
  |none=>
   rw[hm]at hsp hR
   dsimp only at hsp
   obtain rfl:R=none:=by simpa using hR.symm
   refine J.co (qs:=[]) (cs2:=[]) false [] [] rfl rfl rfl rfl rfl rfl hsp trivial rfl rfl rfl rfl rfl rfl rfl fun ns hns=> ?_
   obtain rfl:ns=[]:=DC hns
   refine .B ?_
   refine T.ct rfl ?_
   refine .B ?_
   exact⟨_,.ownN rfl (.v rfl rfl rfl (fun _=>rfl) .nil)⟩
  |some b0=>
  rw[hm]at hsp hR
  dsimp only at hsp
  obtain rfl:R=some (kX L c.vars 0 d):=by simpa using hR.symm
  refine J.co (qs:=[]) (cs2:=[]) false [] [1001,1002] rfl rfl rfl rfl rfl rfl hsp trivial rfl rfl rfl rfl rfl rfl rfl fun ns hns=> ?_
  obtain⟨pm,pb,rfl⟩: ∃pm pb,ns=[pm,pb]:=by
   match ns,hns with
   | [a,b],_=>exact⟨a,b,rfl⟩
  refine .B ?_
  refine T.cf rfl ?_
  refine .B ?_
  refine T.K (T.ind (fun x:Nat×aa=>⟨[(3,.optr 0 0 0 0),(6,.ref 1),(9,.val true (aZ L)),(47,.val false (aq c.vars)),(48,.val true (.int .i64 (c.vars.map cI).length)),(49,.val true (.int .i64 x.1))],[(0,some (.box false (cC c))),(1,some (.sl 54 1 true (x.2.map cD)))],2⟩)
   (fun x=>x.1≤c.vars.length∧x.2.length=d.length∧kX L (c.vars.drop x.1) x.1 x.2=kX L c.vars 0 d) (fun x=>c.vars.length-x.1) (0,d) ⟨by simp,rfl,rfl⟩ (fun _ _ h=>h) ?_)
  rintro⟨k,out⟩ ⟨hk,hol,hst⟩ ih
  simp only at hk hol hst
  dsimp only
  refine .B ?_
  refine T.cd rfl (fun h1=> ?_) (fun h1=> ?_)
  rotate_left
  ·have h1:k=c.vars.length:=by simp at h1;omega
   subst h1
   rw[EA,kX]at hst
   subst hst
   refine .B ?_
   exact⟨_,.o rfl rfl rfl (fun _=> .inl rfl) (by simp) (.v rfl rfl rfl (fun _=>rfl) .nil)⟩
  have h1:k<c.vars.length:=by simpa using h1
  rw[DD h1,kX]at hst
  have hvk:=hv _ (D5 h1)
  have hvr:(c.vars.map cI)[((k:Nat):Int).toNat]? =some (cI c.vars[k]):=aL h1
  have hkL:k<L.length:=by omega
  have hrow:(L.map cL)[((k:Nat):Int).toNat]? =some (cL (L.getD k [])):=by simp[hkL]
  have hml:(L.getD k []).length≤4097:=by
   rw[D0,D1 hkL];exact hL4 _ (D5 hkL)
  have hw1:IntKind.i64.wrap ((k:Int)+1)=((k+1:Nat):Int):=aj (l:=c.vars.length) h1 (by omega)
  refine .B ?_
  refine .I (r:=cI c.vars[k]) hvr ?_
  generalize c.vars[k]=v at*
  refine .B ?_
  refine J.sub (Rel.own0 (s:=14) 3 1 rfl) ?_
  refine .I (r:=cL (L.getD k [])) hrow ?_
  refine .B ?_
  have hlf:nk L k=(L.getD k []).filter fun x=>(dq (L.set k [x])).2:=rfl
  generalize L.getD k []=Lk at*
  have hlL:(nk L k).length≤Lk.length:=by rw[hlf];exact Du ..
  refine T.K (T.list Lk (fun n pre post=>⟨[(3,.optr 0 0 0 0),(6,.ref 1),(9,.val true (aZ L)),(12,.val true (.int .i64 k)),(13,.val true (.int .i64 v)),(14,.ref 2),(47,.val false (aq c.vars)),(48,.val true (.int .i64 (c.vars.map cI).length)),(49,.val true (.int .i64 k)),(57,.val true (aq Lk)),(58,.val true (.int .i64 (Lk.map cI).length)),(59,.val true (.int .i64 n))],
    [(0,some (.box false (cC c))),(1,some (.sl 54 1 true (out.map cD))),(2,some (.sl 3 1 true ((pre.filter fun x=>(dq (L.set k [x])).2).map cI)))],3⟩) (fun _ _ h=>h) ?_ ?_)
  ·rintro n pre x post h hn ih2
   have hlt:=bY h hn
   have hfl:(pre.filter fun x=>(dq (L.set k [x])).2).length≤pre.length:=Du ..
   have hwn:IntKind.i64.wrap ((n:Int)+1)=((n+1:Nat):Int):=aj hlt (by omega)
   have hset: ∀y∈L.set k [x],y.length*8≤140737488355328:=fun y hy=>by
    rcases DG hy with hy|rfl
    ·exact hlo.2 y hy
    ·simp
   have hsp2:=lz (L.set k [x]) (by rw[Dk];exact hlo.1) hset
   have hR3:(dq (L.set k [x])).2=(c9 (L.set k [x])).isSome:=by unfold dq;cases c9 (L.set k [x])<;>rfl
   refine .B ?_
   refine T.ct2 rfl (bX h hn) ?_
   refine .B ?_
   refine .I (r:=cI x) (aS h hn) ?_
   refine .B ?_
   refine .C (u9 L hlo.1) ?_
   refine .B ?_
   refine .V ?_
   refine .B ?_
   refine J.io rfl rfl rfl rfl rfl rfl rfl rfl rfl (by omega) (by rw[D6];omega) rfl ?_
   refine .B ?_
   refine J.w1 rfl rfl rfl rfl rfl rfl rfl rfl rfl rfl rfl (z:=[x]) (fun _=>rfl) (by omega) ?_
   refine .B ?_
   refine J.sub (Rel.frz (s:=71) (fun _ h=>h) rfl rfl) ?_
   cases hm2:c9 (L.set k [x])with
   |none=>
    rw[hm2]at hsp2 hR3
    dsimp only at hsp2
    have hx2:(pre++[x]).filter (fun x=>(dq (L.set k [x])).2)=pre.filter fun x=>(dq (L.set k [x])).2:=by
     rw[Ez,F5 (by rw[hR3];simp)];simp
    rw[hx2]at ih2
    refine J.co (qs:=[]) (cs2:=[]) false [] [] rfl rfl rfl rfl rfl rfl hsp2 trivial rfl rfl rfl rfl rfl rfl rfl fun ns hns=> ?_
    obtain rfl:ns=[]:=DC hns
    refine .B ?_
    refine T.cf rfl ?_
    refine .B ?_
    rw[hwn]
    exact T.K ih2
   |some b2=>
    rw[hm2]at hsp2 hR3
    dsimp only at hsp2
    have hx2:(pre++[x]).filter (fun x=>(dq (L.set k [x])).2)=pre.filter (fun x=>(dq (L.set k [x])).2)++[x]:=by
     rw[Ez,Ek (by rw[hR3];simp)];simp
    rw[hx2]at ih2
    refine J.co (qs:=[]) (cs2:=[]) false [] [1003,1004] rfl rfl rfl rfl rfl rfl hsp2 trivial rfl rfl rfl rfl rfl rfl rfl fun ns hns=> ?_
    obtain⟨pm2,pb2,rfl⟩: ∃pm2 pb2,ns=[pm2,pb2]:=by
     match ns,hns with
     | [a,b],_=>exact⟨a,b,rfl⟩
    refine .B ?_
    refine T.ct rfl ?_
    refine .B ?_
    refine .V ?_
    refine .B ?_
    refine J.aI rfl rfl rfl rfl rfl rfl rfl rfl rfl rfl rfl rfl rfl rfl rfl rfl rfl rfl rfl (by omega) ?_
    refine .B ?_
    rw[hwn]
    exact T.K ih2
  ·rw[←hlf]
   refine .B ?_
   refine T.cf2 rfl bl ?_
   refine .B ?_
   refine .C (kL (nk L k) (by omega)).frz ?_
   refine .B ?_
   refine J.io rfl rfl rfl rfl rfl rfl rfl rfl rfl hvk.1 (by rw[D6,hol];exact hvk.2) rfl ?_
   refine .B ?_
   refine J.w1 rfl rfl rfl rfl rfl rfl rfl rfl rfl rfl rfl (z:=(domOfP (nk L k)).1) (fun _=>rfl) (by rw[hol];exact hvk.2) ?_
   refine .B ?_
   rw[hw1]
   exact T.K (ih (k+1,out.set v.toNat (domOfP (nk L k)).1) ⟨by omega,by rw[Dk];exact hol,hst⟩ (by show _-_<_-_;omega))
structure ValD (d:aa):Prop where
 small:d.length*24≤140737488355328
 inb: ∀x∈d,InB x
 len: ∀x∈d,x.length*16≤140737488351232
 vals: ∀x∈d,(vals x).length≤4097
theorem ValD.dom {d:aa}(h:ValD d){v:Int}(hv:v.toNat<d.length):domAt d v∈d:=by
 unfold domAt
 rw[D0,D1 hv];exact D5 hv
def wN (d:aa)(vars:List Int):Nat→List Int→Bool
 |0,_=>true
 |n+1,had=>(vals (domAt d (vars.getD had.length 0))).any fun x=> !decide (x∈had)&&wN d vars n (had++[x])
def iQ (d:aa)(vars:List Int)(v:Int):List Int:=(vals (domAt d v)).filter fun x=>wN (d.set v.toNat [(x,x)]) vars vars.length []
def iY (d:aa)(vars:List Int):List Int→aa→aa
 | [],out=>out
 |v::vs,out=>iY d vars vs (out.set v.toNat (c6 (iQ d vars v)))
def ie (d:aa)(vars:List Int):Option aa:=if []∈d then none else if []∈iY d vars vars d then none else some (iY d vars vars d)
theorem ValD.one {d:aa}(h:ValD d)(i:Nat){x:Int}(hx: -1048576≤x∧x≤1048576):ValD (d.set i [(x,x)]):=by
 have key: ∀y∈d.set i [(x,x)],y∈d∨y=[(x,x)]:=fun y hy=>DG hy
 refine⟨by rw[Dk];exact h.small,fun y hy=> ?_,fun y hy=> ?_,fun y hy=> ?_⟩
 ·rcases key y hy with hy|rfl
  ·exact h.inb y hy
  ·intro r hr
   obtain rfl:=List.mem_singleton.1 hr
   exact⟨hx.1,hx.2,hx.1,hx.2⟩
 ·rcases key y hy with hy|rfl
  ·exact h.len y hy
  ·simp
 ·rcases key y hy with hy|rfl
  ·exact h.vals y hy
  ·have:Go.Proofs.YtopcjbahjjhdmaaGreat.vals [(x,x)]=[x]:=by
    show rng x x++[]=_
    rw[bP];rfl
   rw[this];simp
def BH (vars:List Int):Con:=⟨1,vars,[],0,0,[],0⟩
theorem vZ {l:List Int}(h:Up l):packG l=c6 l:=by
 have key: ∀(l:List Int) (o:List (Int×Int)) (lo x:Int),Up (x::l)→l.foldl f8 (o++[(lo,x)])=o++dN lo x l:=by
  intro l
  induction l with
  |nil=>intro o lo x _;rfl
  |cons y l ih=>
   intro o lo x hu
   have h1:=List.pairwise_cons.1 hu
   have hxy:=h1.1 y (.head _)
   rw[DH,ig,if_neg (by omega),dN]
   by_cases e:y=x+1
   ·rw[if_pos (by omega),if_pos e,ih _ _ _ h1.2]
   ·rw[if_neg (by omega),if_neg e,ih _ _ _ h1.2,DV];rfl
 cases l with
 |nil=>rfl
 |cons x l=>
  show l.foldl f8 (f8 [] x)=_
  rw[qA]
  exact key l [] x x h
theorem zL {l:List Int}(h:Up l):cK l=l:=List.mergeSort_of_pairwise (h.imp fun h=>by simp;omega)
theorem ot {d:List (Int×Int)}(h:Fine d):fG d=((vals d).length:Nat):=by
 have hb:=h.domB.1
 have hf:=h.few
 have hok:=h.ok
 have key: ∀(d:List (Int×Int)) (n:Nat),InB d→(∀r∈d,r.1≤r.2)→n+(vals d).length≤1000000000000000→d.foldl (fun n r=>wr (n+wr (wr (r.2-r.1)+1))) (n:Int)=((n+(vals d).length:Nat):Int):=by
  intro d
  induction d with
  |nil=>intro n _ _ _;simp[vals]
  |cons r d ih=>
   intro n hb ho hl
   have h1:=hb r (.head _)
   have h2:=ho r (.head _)
   rw[bj,DF,show(rng r.1 r.2).length=(r.2+1-r.1).toNat by simp[rng]]at hl⊢
   rw[DH]
   have e:wr ((n:Int)+wr (wr (r.2-r.1)+1))=((n+(r.2+1-r.1).toNat:Nat):Int):=by
    simp only[wr]
    rw[ae (n:=r.2-r.1) (by omega) (by omega),ae (n:=r.2-r.1+1) (by omega) (by omega),ae (by omega) (by omega)]
    omega
   rw[e,ih _ (fun r hr=>hb r (.tail _ hr)) (fun r hr=>ho r (.tail _ hr)) (by omega)]
   congr 1
   omega
 have:=key d 0 hb hok.1 (by omega)
 simpa[fG]using this
theorem kB {l:List Int}(h:Up l)(hv: ∀v∈l,-1048576≤v∧v≤1048576)(hn:l.length≤4096):Fine (c6 l):=by
 refine⟨f7 h,?_,?_⟩
 ·rw[bK h];exact hv
 ·rw[bK h];omega
theorem rv {l:List Int}(h:Up l)(hv: ∀v∈l,-1048576≤v∧v≤1048576)(hn:l.length≤4096):domOfP l=(c6 l,0):=by
 unfold domOfP
 rw[zL h,vZ h,ot (kB h hv hn),bK h,if_pos (List.all_eq_true.2 fun v hm=>by simpa[aH]using hv v hm),if_neg (by omega)]
structure FewD (d:aa):Prop where
 small:d.length*24≤140737488355328
 fine: ∀x∈d,Fine x
 few: ∀x∈d,(vals x).length≤4096
theorem FewD.valD {d:aa}(h:FewD d):ValD d:=⟨h.small,fun x hx=>(h.fine x hx).domB.1,fun x hx=>by have:=(h.fine x hx).len;omega,fun x hx=>by have:=h.few x hx;omega⟩
theorem zz {x:List (Int×Int)}(h:(vals x).length≤4096):qe x=vals x:=DE (by omega)
theorem FewD.at {d:aa}(h:FewD d)(v:Int):(vals (domAt d v)).length≤4096∧Up (vals (domAt d v))∧∀x∈vals (domAt d v),-1048576≤x∧x≤1048576:=by
 unfold domAt
 by_cases hv:v.toNat<d.length
 ·rw[D0,D1 hv]
  have hm:d[v.toNat]∈d:=D5 hv
  exact⟨h.few _ hm,aF (h.fine _ hm).ok,(h.fine _ hm).val⟩
 ·rw[D0,Do (by omega)]
  exact⟨by simp[vals],.nil,fun x hx=>by cases hx⟩
theorem eN {d:aa}(h:FewD d)(vs:List Int):listsP d vs=vs.map fun v=>vals (domAt d v):=
 Ds fun v _=>zz (h.at v).1
theorem pA (d:aa)(vars:List Int): ∀(n:Nat) (had:List Int),had.Nodup→(wN d vars n had=true↔∃rest:List Int,rest.length=n∧(∀k,k<n→rest.getD k 0∈vals (domAt d (vars.getD (had.length+k) 0)))∧(had++rest).Nodup)
 |0,had,hn=>by
  rw[wN]
  exact⟨fun _=>⟨[],rfl,fun k hk=>by omega,by simpa using hn⟩,fun _=>rfl⟩
 |n+1,had,hn=>by
  rw[wN,El]
  constructor
  ·rintro⟨x,hx,h⟩
   simp only[DA,E9,decide_eq_false_iff_not]at h
   have hn2:(had++[x]).Nodup:=List.nodup_append.2 ⟨hn,by simp,fun a ha b hb=>by
    obtain rfl:=List.mem_singleton.1 hb
    exact fun e=>h.1 (e▸ha)⟩
   obtain⟨rest,h1,h2,h3⟩:=(pA d vars n (had++[x]) hn2).1 h.2
   refine⟨x::rest,by simp[h1],fun k hk=> ?_,by simpa using h3⟩
   cases k with
   |zero=>exact hx
   |succ k=>
    have:=h2 k (by omega)
    rw[DF,show had.length+ [x].length+k=had.length+(k+1)by simp;omega]at this
    exact this
  ·rintro⟨rest,h1,h2,h3⟩
   cases rest with
   |nil=>cases h1
   |cons x rest=>
    have hx:x∉had:=fun hm=>by
     have:=(List.nodup_append.1 h3).2.2 x hm x (.head _)
     exact this rfl
    have h4:((had++[x])++rest).Nodup:=by simpa using h3
    refine⟨x,h2 0 (by omega),?_⟩
    simp only[DA,E9,decide_eq_false_iff_not]
    refine⟨hx,(pA d vars n (had++[x]) (List.nodup_append.1 h4).1).2 ⟨rest,by simpa using h1,fun k hk=> ?_,h4⟩⟩
    have:=h2 (k+1) (by omega)
    rw[DF,show had.length+ [x].length+k=had.length+(k+1)by simp;omega]
    exact this
theorem v6 {d:aa}(h:FewD d)(vars:List Int):wN d vars vars.length []=(dq (listsP d vars)).2:=by
 have key:wN d vars vars.length []=true↔∃g,Others (listsP d vars) g:=by
  rw[pA d vars vars.length [] .nil,eN h]
  have hg: ∀j,j<vars.length→(vars.map fun v=>vals (domAt d v)).getD j []=vals (domAt d (vars.getD j 0)):=fun j hj=>by simp[hj]
  constructor
  ·rintro⟨rest,h1,h2,h3⟩
   rw[EB]at h3
   refine⟨fun j=>rest.getD j 0,fun j hj=> ?_,fun j k hj hk e=> ?_⟩
   ·rw[D6]at hj
    rw[hg j hj]
    have:=h2 j hj
    simpa using this
   ·rw[D6]at hj hk
    have e:rest.getD j 0=rest.getD k 0:=e
    rw[D0,D0,D1 (by omega),D1 (by omega)]at e
    exact(F7 h3).1 e
  ·rintro⟨g,h1,h2⟩
   rw[D6]at h1 h2
   refine⟨(List.range vars.length).map g,by simp,fun k hk=> ?_,?_⟩
   ·have:=h1 k hk
    rw[hg k hk]at this
    simpa[hk]using this
   ·rw[EB]
    exact fC List.nodup_range fun x hx y hy e=>h2 x y (List.mem_range.1 hx) (List.mem_range.1 hy) e
 rw[Ed,key,fK]
theorem FewD.one {d:aa}(h:FewD d)(i:Nat){x:Int}(hx: -1048576≤x∧x≤1048576):FewD (d.set i [(x,x)]):=by
 have key: ∀y∈d.set i [(x,x)],y∈d∨y=[(x,x)]:=fun y hy=>DG hy
 have hv:vals [(x,x)]=[x]:=by
  show rng x x++[]=_
  rw[bP];rfl
 refine⟨by rw[Dk];exact h.small,fun y hy=> ?_,fun y hy=> ?_⟩
 ·rcases key y hy with hy|rfl
  ·exact h.fine y hy
  ·refine⟨⟨fun r hr=> ?_,by simp⟩,?_,?_⟩
   ·obtain rfl:=List.mem_singleton.1 hr
    exact Dn _
   ·rw[hv];intro v hm;obtain rfl:=List.mem_singleton.1 hm;exact hx
   ·rw[hv];simp
 ·rcases key y hy with hy|rfl
  ·exact h.few y hy
  ·rw[hv];simp
theorem Up.filter {l:List Int}(h:Up l)(p:Int→Bool):Up (l.filter p):=List.Pairwise.filter p h
def kd (d:aa)(vars:List Int):Prop:=vars.Nodup∧∀v∈vars,0≤v∧v.toNat<d.length
theorem kF {d:aa}(h:FewD d){vars:List Int}(hv:kd d vars){i:Nat}(hi:i<vars.length){x:Int}(hx: -1048576≤x∧x≤1048576):listsP (d.set vars[i].toNat [(x,x)]) vars=(listsP d vars).set i [x]:=by
 rw[eN h,eN (h.one _ hx)]
 apply F0 (by simp)
 intro j h1 h2
 have hj:j<vars.length:=by simpa using h1
 rw[F8,List.getElem_set,F8]
 unfold domAt
 rw[D0,E8]
 by_cases e:i=j
 ·subst e
  rw[if_pos rfl,if_pos rfl,if_pos (hv.2 _ (D5 hi)).2]
  show rng x x++[]=_
  rw[bP];rfl
 ·have e2: ¬vars[i].toNat=vars[j].toNat:=fun e2=>by
   have h3:=(hv.2 _ (D5 hi)).1
   have h4:=(hv.2 _ (D5 hj)).1
   exact e ((F7 hv.1).1 (by omega:vars[i]=vars[j]))
  rw[if_neg e,if_neg e2,←D0]
theorem Bt {d:aa}(h:FewD d){vars:List Int}(hv:kd d vars){i:Nat}(hi:i<vars.length):nk (listsP d vars) i=iQ d vars vars[i]:=by
 unfold nk iQ
 have e:(listsP d vars).getD i []=vals (domAt d vars[i]):=by rw[eN h];simp[hi]
 rw[e]
 refine G0 fun x hx=> ?_
 have hxr:=(h.at vars[i]).2.2 x hx
 rw[←kF h hv hi hxr,v6 (h.one _ hxr)]
theorem lJ {d:aa}(h:FewD d)(vars:List Int)(v:Int):Up (iQ d vars v)∧(iQ d vars v).length≤4096∧(∀x∈iQ d vars v,-1048576≤x∧x≤1048576):=by
 obtain⟨h1,h2,h3⟩:=h.at v
 exact⟨h2.filter _,DO (Du ..) h1,fun x hx=>h3 x (List.mem_filter.1 hx).1⟩
theorem xm {d:aa}(h:FewD d){vars:List Int}(hv:kd d vars): ∀(n i:Nat) (out:aa),n+i=vars.length→kX (listsP d vars) (vars.drop i) i out=iY d vars (vars.drop i) out
 |0,i,out,hi=>by
  rw[ED (by omega)];rfl
 |n+1,i,out,hi=>by
  have hil:i<vars.length:=by omega
  rw[DD hil,kX,iY,Bt h hv hil]
  obtain⟨h1,h2,h3⟩:=lJ h vars vars[i]
  rw[rv h1 h3 h2]
  exact xm h hv n (i+1) _ (by omega)
theorem jt (d:aa)(vars:List Int): ∀(vs:List Int) (out:aa),(iY d vars vs out).length=out.length
 | [],out=>rfl
 |v::vs,out=>by rw[iY,jt d vars vs,Dk]
theorem kZ {d:aa}{vars:List Int}: ∀{vs:List Int} {out:aa} (j:Nat),vs.Nodup→(∀v∈vs,0≤v∧v.toNat<out.length)→(iY d vars vs out)[j]? =if(j:Int)∈vs then some (c6 (iQ d vars j))else out[j]?
 | [],out,j,_,_=>by simp[iY]
 |v::vs,out,j,hn,hv=>by
  obtain⟨h1,h2⟩:=List.nodup_cons.1 hn
  have hv0:=hv v (.head _)
  rw[iY,kZ j h2 (fun u hu=>by rw[Dk];exact hv u (.tail _ hu)),E8]
  by_cases e:v.toNat=j
  ·have e2:v=(j:Int):=by omega
   subst e2
   rw[if_neg h1,if_pos (List.mem_cons_self ..),if_pos e,if_pos hv0.2]
  ·by_cases hm:(j:Int)∈vs
   ·rw[if_pos hm,if_pos (.tail _ hm)]
   ·have hn2: ¬(j:Int)∈v::vs:=fun h=>by
     rcases List.mem_cons.1 h with h|h
     ·exact e (by omega)
     ·exact hm h
    rw[if_neg hm,if_neg hn2,if_neg e]
theorem jC {d:aa}(h:FewD d){vars:List Int}(hv:kd d vars){i:Nat}(hi:i<vars.length)(x:Int):x∈iQ d vars vars[i]↔∃g,Others (listsP d vars) g∧g i=x:=by
 have hL:(listsP d vars).getD i []=vals (domAt d vars[i]):=by rw[eN h];simp[hi]
 have hlen:(listsP d vars).length=vars.length:=D6 ..
 unfold iQ
 rw[Ei]
 constructor
 ·rintro⟨hx,he⟩
  have hxr:=(h.at vars[i]).2.2 x hx
  rw[v6 (h.one _ hxr),fK,kF h hv hi hxr]at he
  obtain⟨g,h1,h2⟩:=he
  rw[Dk]at h1 h2
  have hgi:g i=x:=by
   have:=h1 i (by omega)
   rw[D0,E8,if_pos rfl,if_pos (by omega)]at this
   simpa using this
  refine⟨g,⟨fun j hj=> ?_,h2⟩,hgi⟩
  by_cases e:j=i
  ·subst e;rw[hL,hgi];exact hx
  ·have:=h1 j hj
   rw[D0,E8,if_neg (Ne.symm e),←D0]at this
   exact this
 ·rintro⟨g,⟨h1,h2⟩,rfl⟩
  have hx:=h1 i (by omega)
  rw[hL]at hx
  have hxr:=(h.at vars[i]).2.2 _ hx
  refine⟨hx,?_⟩
  rw[v6 (h.one _ hxr),fK,kF h hv hi hxr]
  refine⟨g,fun j hj=> ?_,fun j k hj hk=> ?_⟩
  ·rw[Dk]at hj
   rw[D0,E8]
   by_cases e:i=j
   ·subst e;rw[if_pos rfl,if_pos hj];simp
   ·rw[if_neg e,←D0];exact h1 j hj
  ·rw[Dk]at hj hk
   exact h2 j k hj hk
theorem xx {l:List Int}(h:l≠[]):c6 l≠[]:=by
 cases l with
 |nil=>exact absurd rfl h
 |cons x l=>
  have: ∀(l:List Int) (lo x:Int),dN lo x l≠[]:=by
   intro l
   induction l with
   |nil=>intro lo x;simp[dN]
   |cons y l ih=>intro lo x;rw[dN];split;exact ih _ _;simp
  exact this l x x
theorem z1 {d:aa}(h:FewD d){vars:List Int}(hv:kd d vars)(hne:vars≠[]):oM d vars=ie d vars:=by
 unfold oM ie
 by_cases he: []∈d
 ·rw[if_pos he,if_pos he]
 rw[if_neg he,if_neg he]
 have hst:=xm h hv vars.length 0 d (by omega)
 rw[List.drop_zero]at hst
 rw[hst]
 have hat:=fun j=>kZ (d:=d) (vars:=vars) (out:=d) j hv.1 hv.2
 by_cases hm:(dq (listsP d vars)).2=true
 ·rw[if_pos hm,if_neg]
  intro hem
  obtain⟨j,hj⟩:=D9 hem
  rw[hat j]at hj
  split at hj
  ·rename_i hjm
   obtain⟨i,hi,e⟩:=Ee hjm
   obtain⟨g,hg⟩:=(fK _).1 hm
   have hl:=(jC h hv hi (g i)).2 ⟨g,hg,rfl⟩
   rw[e]at hl
   exact xx (fun e2=>by rw[e2]at hl;cases hl) (D2 hj)
  ·exact he (D4 hj)
 ·rw[if_neg hm,if_pos]
  cases hvs:vars with
  |nil=>exact absurd hvs hne
  |cons v vs=>
   have hi:0<vars.length:=by rw[hvs];simp
   have hv0:=hv.2 _ (D5 hi)
   have hl:iQ d vars vars[0]=[]:=by
    cases hl:iQ d vars vars[0]with
    |nil=>rfl
    |cons x l=>
     obtain⟨g,hg,_⟩:=(jC h hv hi x).1 (by rw[hl];exact .head _)
     exact absurd ((fK _).2 ⟨g,hg⟩) hm
   have:=hat vars[0].toNat
   have e:((vars[0].toNat:Nat):Int)=vars[0]:=by omega
   rw[e,if_pos (D5 hi),hl]at this
   rw[←hvs]
   exact D4 this
def badR (d:List (Int×Int))(i:Nat):Bool:= !aH (d.getD i (0,0)).1||(!aH (d.getD i (0,0)).2||(decide ((d.getD i (0,0)).1 > (d.getD i (0,0)).2)||(decide ((i:Int) > 0)&&decide ((d.getD i (0,0)).1-(d.getD (i-1) (0,0)).2<2))))
def sizeI (d:List (Int×Int)):Int:=(d.map fun r=>r.2-r.1+1).sum
def chkR (d:List (Int×Int)):Int:=if(List.range d.length).any (badR d)then 20 else if sizeI d > 4096 then 2 else 0
theorem tK (d:List (Int×Int))(hl:d.length≤1048576):Spec Tryz.prog 31 false [dm d] [.val (.int .i64 (chkR d))]:=by
 refine Spec.body Tryz.func31 rfl rfl rfl fun w0 Z0=> ?_
 generalize hR:chkR d=R
 refine .B ?_
 refine T.K (T.ind (fun i:Nat=>⟨[(0,.val false (dm d)),(3,.val true (.int .i64 (sizeI (d.take i)))),(4,.val true (.int .i64 i))],[],0⟩) (fun i=>i≤d.length∧(0≤sizeI (d.take i)∧sizeI (d.take i)≤i*4194304)∧∀j,j<i→badR d j=false) (fun i=>d.length-i) 0 ⟨DU _,by simp[sizeI],fun j hj=>absurd hj (Dw j)⟩ (fun _ _ h=>h) ?_)
 rintro i ⟨hi,hn,hb⟩ ih
 refine .B ?_
 refine T.cd rfl (fun h1=> ?_) (fun h1=> ?_)
 ·have h1:i<d.length:=by simpa using h1
  have hrow:(d.map cR)[((i:Nat):Int).toNat]? =some (cR (d.getD i (0,0))):=by simp[h1,D0]
  have hprev:0<i→(d.map cR)[(((i-1:Nat)):Int).toNat]? =some (cR (d.getD (i-1) (0,0)))∧aH (d.getD (i-1) (0,0)).2=true:=fun h=>by
   refine⟨by rw[DI,D8,D1 (show i-1<d.length by omega),D0,D1 (show i-1<d.length by omega)];rfl,?_⟩
   have:=hb (i-1) (by omega)
   unfold badR at this
   simp only[Fh,Ey]at this
   exact this.2.1
  have htk:sizeI (d.take (i+1))=sizeI (d.take i)+((d.getD i (0,0)).2-(d.getD i (0,0)).1+1):=by
   unfold sizeI
   rw[D7 h1,Di,List.sum_append,D0,D1 h1]
   simp
  have hno:badR d i=true→R=20:=fun h=>by
   rw[←hR];unfold chkR
   rw[if_pos (List.any_eq_true.2 ⟨i,List.mem_range.2 h1,h⟩)]
  have hbd:badR d i=(!aH (d.getD i (0,0)).1||(!aH (d.getD i (0,0)).2||(decide ((d.getD i (0,0)).1 > (d.getD i (0,0)).2)||(decide ((i:Int) > 0)&&decide ((d.getD i (0,0)).1-(d.getD (i-1) (0,0)).2<2))))):=rfl
  have ih1:=fun hbi:badR d i=false=>fun hs=>ih (i+1) ⟨by omega,hs,fun j hj=>by
   by_cases e:j=i
   ·rw[e];exact hbi
   ·exact hb j (by omega)⟩ (by omega)
  have hw1:IntKind.i64.wrap ((i:Int)+1)=((i+1:Nat):Int):=by rw[ae (by omega) (by omega)];omega
  have hw2:0<i→IntKind.i64.wrap ((i:Int)-1)=((i-1:Nat):Int):=fun h=>by rw[ae (by omega) (by omega)];omega
  generalize badR d i=bad at*
  rw[htk]at ih1
  generalize sizeI (d.take i)=n at*
  generalize d.getD i (0,0)=r at*
  generalize d.getD (i-1) (0,0)=p at*
  obtain⟨lo,hi2⟩:=r
  simp only at*
  refine .B ?_
  refine .I (r:=cR (lo,hi2)) hrow ?_
  refine .B ?_
  refine .C (kn lo) ?_
  cases a1:aH lo
  ·refine .B ?_
   refine T.ct rfl ?_
   refine .B ?_
   rw[hno (by rw[hbd,a1];rfl)]
   exact r1
  ·refine .B ?_
   refine .I (r:=cR (lo,hi2)) hrow ?_
   refine .B ?_
   refine .C (kn hi2) ?_
   cases a2:aH hi2
   ·refine .B ?_
    refine T.ct rfl ?_
    refine .B ?_
    rw[hno (by rw[hbd,a1,a2];rfl)]
    exact r1
   ·have v1:=a1
    have v2:=a2
    simp only[aH,decide_eq_true_eq]at v1 v2
    refine .B ?_
    refine .I (r:=cR (lo,hi2)) hrow ?_
    refine .B ?_
    refine .I (r:=cR (lo,hi2)) hrow ?_
    refine .B ?_
    refine J.g rfl rfl rfl (fun h3=> ?_) (fun h3=> ?_)
    ·refine .B ?_
     refine T.ct rfl ?_
     refine .B ?_
     rw[hno (by rw[hbd,a1,a2,decide_eq_true h3];rfl)]
     exact r1
    ·have h3: ¬lo > hi2:=h3
     refine .B ?_
     refine J.g rfl rfl rfl (fun h4=> ?_) (fun h4=> ?_)
     ·refine .B ?_
      refine .I (r:=cR (lo,hi2)) hrow ?_
      refine .B ?_
      rw[hw2 (by omega)]
      refine .I (r:=cR p) (hprev (by omega)).1 ?_
      refine .B ?_
      have hpv:=(hprev (by omega)).2
      simp only[aH,decide_eq_true_eq]at hpv
      rw[ae (n:=lo-p.2) (by omega) (by omega)]
      refine T.cd rfl (fun h5=> ?_) (fun h5=> ?_)
      ·refine .B ?_
       rw[hno (by rw[hbd,a1,a2,decide_eq_false h3,decide_eq_true h4,decide_eq_true h5];rfl)]
       exact r1
      ·refine .B ?_
       refine .I (r:=cR (lo,hi2)) hrow ?_
       refine .B ?_
       refine .I (r:=cR (lo,hi2)) hrow ?_
       refine .B ?_
       have e1:IntKind.i64.wrap (hi2-lo)=hi2-lo:=ae (by omega) (by omega)
       have e2:IntKind.i64.wrap (hi2-lo+1)=hi2-lo+1:=ae (by omega) (by omega)
       have e3:IntKind.i64.wrap (n+(hi2-lo+1))=n+(hi2-lo+1):=ae (by omega) (by omega)
       rw[e1,e2,e3,hw1]
       exact T.K (ih1 (by rw[hbd,a1,a2,decide_eq_false h3,decide_eq_true h4,decide_eq_false h5];rfl) (by omega))
     ·refine .B ?_
      refine T.cf rfl ?_
      refine .B ?_
      refine .I (r:=cR (lo,hi2)) hrow ?_
      refine .B ?_
      refine .I (r:=cR (lo,hi2)) hrow ?_
      refine .B ?_
      have e1:IntKind.i64.wrap (hi2-lo)=hi2-lo:=ae (by omega) (by omega)
      have e2:IntKind.i64.wrap (hi2-lo+1)=hi2-lo+1:=ae (by omega) (by omega)
      have e3:IntKind.i64.wrap (n+(hi2-lo+1))=n+(hi2-lo+1):=ae (by omega) (by omega)
      rw[e1,e2,e3,hw1]
      exact T.K (ih1 (by rw[hbd,a1,a2,decide_eq_false h3,decide_eq_false h4];rfl) (by omega))
 ·have h1:i=d.length:=by simp at h1;omega
  subst h1
  rw[DY]at hn⊢
  have hany:(List.range d.length).any (badR d)=false:=by
   rw[Fa]
   intro j hj
   rw[hb j (List.mem_range.1 hj)];simp
  unfold chkR at hR
  rw[hany]at hR
  simp only[Dr,if_false]at hR
  generalize sizeI d=n at*
  refine .B ?_
  refine T.cd rfl (fun h2=> ?_) (fun h2=> ?_)
  ·rw[if_pos h2]at hR
   subst hR
   refine .B ?_
   exact r1
  ·rw[if_neg h2]at hR
   subst hR
   refine .B ?_
   exact r1
structure Takes {α:Type}(le:α→α→Prop)(good:α→Prop)(f:α→Option α):Prop where
 less: ∀a a',good a→f a=some a'→good a'∧le a' a
 mono: ∀a a' b,good a→good b→le a b→f a=some a'→∃b',f b=some b'∧le a' b'
structure Order (α:Type)(le:α→α→Prop)(good:α→Prop):Prop where
 refl: ∀a,le a a
 trans: ∀a b c,le a b→le b c→le a c
 anti: ∀a b,good a→good b→le a b→le b a→a=b
section
variable {α γ:Type}{le:α→α→Prop}{good:α→Prop}(O:Order α le good){f:γ→α→Option α}
def dT (f:γ→α→Option α)(l:List γ)(a:α):Prop:= ∀c∈l,f c a=some a
structure Come (le:α→α→Prop)(good:α→Prop)(f:γ→α→Option α)(l:List γ)(d a:α):Prop where
 fine:good a
 less:le a d
 keep: ∀e,good e→le e d→dT f l e→le e a
include O in
theorem Come.refl {l:List γ}{d:α}(hd:good d):Come le good f l d d:=⟨hd,O.refl d,fun _ _ h _=>h⟩
include O in
theorem Come.step {l:List γ}{d a a':α}{c:γ}(h:Come le good f l d a)(hc:c∈l)(ht:Takes le good (f c))(he:f c a=some a'):Come le good f l d a':=by
 obtain⟨h1,h2⟩:=ht.less a a' h.fine he
 refine⟨h1,O.trans _ _ _ h2 h.less,fun e ge le_ hs=> ?_⟩
 obtain⟨b',hb,hle⟩:=ht.mono e e a ge h.fine (h.keep e ge le_ hs) (hs c hc)
 rw[he]at hb
 exact D2 hb▸hle
theorem Come.none {l:List γ}{d a:α}{c:γ}(h:Come le good f l d a)(hc:c∈l)(ht:Takes le good (f c))(he:f c a=none): ¬∃e,good e∧le e d∧dT f l e:=by
 rintro⟨e,ge,hle,hs⟩
 obtain⟨b',hb,_⟩:=ht.mono e e a ge h.fine (h.keep e ge hle hs) (hs c hc)
 rw[he]at hb;cases hb
def ep (le:α→α→Prop)(good:α→Prop)(f:γ→α→Option α)(l:List γ)(d:α):Option α→Prop
 |some a=>Come le good f l d a∧dT f l a
 |none=> ¬∃e,good e∧le e d∧dT f l e
include O in
theorem ep.one {l l':List γ}{d:α}{R R':Option α}(hl: ∀c,c∈l↔c∈l')(h:ep le good f l d R)(h':ep le good f l' d R'):R=R':=by
 have hst: ∀e,dT f l e↔dT f l' e:=fun e=>⟨fun h c hc=>h c ((hl c).2 hc),fun h c hc=>h c ((hl c).1 hc)⟩
 cases R with
 |none=>
  cases R' with
  |none=>rfl
  |some b=>exact absurd ⟨b,h'.1.fine,h'.1.less,(hst b).2 h'.2⟩ h
 |some a=>
  cases R' with
  |none=>exact absurd ⟨a,h.1.fine,h.1.less,(hst a).1 h.2⟩ h'
  |some b=>
   exact congrArg some (O.anti a b h.1.fine h'.1.fine (h'.1.keep a h.1.fine h.1.less ((hst a).1 h.2)) (h.1.keep b h'.1.fine h'.1.less ((hst b).2 h'.2)))
include O in
theorem ep.less {l l':List γ}{d d' a':α}{R:Option α}(hl: ∀c,c∈l→c∈l')(hd:le d' d)(h:ep le good f l d R)(h':ep le good f l' d' (some a')): ∃a,R=some a∧le a' a:=by
 have hs:dT f l a':=fun c hc=>h'.2 c (hl c hc)
 have hle:=O.trans _ _ _ h'.1.less hd
 cases R with
 |none=>exact absurd ⟨a',h'.1.fine,hle,hs⟩ h
 |some a=>exact⟨a,rfl,h.1.keep a' h'.1.fine hle hs⟩
theorem ep.keeps {l:List γ}{d e:α}{R:Option α}(h:ep le good f l d R)(ge:good e)(hle:le e d)(hs:dT f l e): ∃a,R=some a∧le e a:=by
 cases R with
 |none=>exact absurd ⟨e,ge,hle,hs⟩ h
 |some a=>exact⟨a,rfl,h.1.keep e ge hle hs⟩
theorem ep.takes {l:List γ}{F:α→Option α}(O:Order α le good)(h: ∀d,good d→ep le good f l d (F d)):Takes le good F:=by
 refine⟨fun a a' ga he=> ?_,fun a a' b ga gb hle he=> ?_⟩
 ·have:=h a ga
  rw[he]at this
  exact⟨this.1.fine,this.1.less⟩
 ·have h1:=h a ga
  rw[he]at h1
  exact ep.less O (fun _ h=>h) hle (h b gb) h1
theorem ep.fix {l:List γ}{F:α→Option α}(O:Order α le good)(h: ∀d,good d→ep le good f l d (F d)){a:α}(ga:good a):F a=some a↔dT f l a:=by
 constructor
 ·intro he
  have:=h a ga
  rw[he]at this
  exact this.2
 ·intro hs
  obtain⟨b,hb,hle⟩:=ep.keeps (h a ga) ga (O.refl a) hs
  have:=h a ga
  rw[hb]at this
  rw[hb,O.anti b a this.1.fine ga this.1.less hle]
end
def leD (a b:aa):Prop:=a.length=b.length∧∀v x:Int,0≤v→x∈vals (domAt a v)→x∈vals (domAt b v)
structure GoodD (n:Nat)(d:aa):Prop where
 few:FewD d
 len:d.length=n
 some': []∉d
theorem pG {d:aa}{j:Nat}(h:j<d.length):domAt d (j:Int)=d[j]:=by
 unfold domAt
 rw[D0,DI,D1 h];rfl
theorem pR.mono {a b:aa}(h:leD a b){us:List Int}(h0: ∀u∈us,0≤u){P:List Int→Bool}{v x:Int}(hs: ∃f:Int→Int,(∀u∈us,f u∈vals (domAt a u))∧P (us.map f)=true∧f v=x): ∃f:Int→Int,(∀u∈us,f u∈vals (domAt b u))∧P (us.map f)=true∧f v=x:=by
 obtain⟨f,h1,h2,h3⟩:=hs
 exact⟨f,fun u hu=>h.2 u _ (h0 u hu) (h1 u hu),h2,h3⟩
structure SuppS (n:Nat)(us:List Int)(P:List Int→Bool)(f:aa→Option aa):Prop where
 ok: ∀d out,GoodD n d→f d=some out→GoodD n out∧(∀v∈us,∀x,x∈vals (domAt out v)↔∃g:Int→Int,(∀u∈us,g u∈vals (domAt d u))∧P (us.map g)=true∧g v=x)∧∀v,0≤v→v∉us→domAt out v=domAt d v
 no: ∀d,GoodD n d→f d=none→∀g:Int→Int,(∀u∈us,g u∈vals (domAt d u))→P (us.map g)=false
 in': ∀u∈us,0≤u∧u.toNat<n
 ne:us≠[]
theorem GoodD.ne {n:Nat}{d:aa}(h:GoodD n d){v:Int}(hv:v.toNat<n): ∃x,x∈vals (domAt d v):=by
 have hm:domAt d v∈d:=by
  unfold domAt
  rw[D0,D1 (by rw[h.len];exact hv)]
  exact D5 _
 have hok:=(h.few.fine _ hm).ok
 cases hd:domAt d v with
 |nil=>rw[hd]at hm;exact absurd hm h.some'
 |cons r rest=>
  rw[hd]at hok
  exact⟨r.1,aU.2 ⟨r,.head _,Dn _,hok.1 r (.head _)⟩⟩
theorem SuppS.takes {n:Nat}{us:List Int}{P:List Int→Bool}{f:aa→Option aa}(h:SuppS n us P f):Takes leD (GoodD n) f:=by
 refine⟨fun a a' ga he=> ?_,fun a a' b ga gb hle he=> ?_⟩
 ·obtain⟨g1,h1,h2⟩:=h.ok a a' ga he
  refine⟨g1,by rw[g1.len,ga.len],fun v x h0 hx=> ?_⟩
  by_cases hv:v∈us
  ·obtain⟨g,h3,_,rfl⟩:=(h1 v hv x).1 hx
   exact h3 v hv
  ·rw[h2 v h0 hv]at hx;exact hx
 ·obtain⟨g1,h1,h2⟩:=h.ok a a' ga he
  cases hb:f b with
  |none=>
   obtain⟨u,hu⟩:=ES _ h.ne
   have hun:=(h.in' u hu).2
   obtain⟨x,hx⟩:=g1.ne hun
   obtain⟨g,h3,h4,_⟩:=(h1 u hu x).1 hx
   have:=h.no b gb hb g fun w hw=>hle.2 w _ (h.in' w hw).1 (h3 w hw)
   rw[h4]at this;cases this
  |some b'=>
   obtain⟨g2,h3,h4⟩:=h.ok b b' gb hb
   refine⟨b',rfl,by rw[g1.len,g2.len],fun v x h0 hx=> ?_⟩
   by_cases hv:v∈us
   ·exact(h3 v hv x).2 (pR.mono hle (fun u hu=>(h.in' u hu).1) ((h1 v hv x).1 hx))
   ·rw[h2 v h0 hv]at hx
    rw[h4 v h0 hv]
    exact hle.2 v x h0 hx
theorem CA {n:Nat}{vars:List Int}(hv:vars.Nodup∧∀v∈vars,0≤v∧v.toNat<n)(hne:vars≠[]):SuppS n vars (fun l=>decide l.Nodup) fun d=>ie d vars:=by
 have hV: ∀d,GoodD n d→kd d vars:=fun d hd=>⟨hv.1,fun v hm=>by rw[hd.len];exact hv.2 v hm⟩
 have ho: ∀d,GoodD n d→∀g:Int→Int,(∀u∈vars,g u∈vals (domAt d u))→(vars.map g).Nodup→Others (listsP d vars) fun j=>g (vars.getD j 0):=fun d hd g h1 h2=>by
  rw[eN hd.few]
  refine⟨fun j hj=> ?_,fun j k hj hk e=> ?_⟩
  ·rw[D6]at hj
   have:=h1 _ (D5 hj)
   simpa[hj]using this
  ·rw[D6]at hj hk
   have e:g (vars.getD j 0)=g (vars.getD k 0):=e
   have e2:(vars.map g)[j]'(by simpa using hj)=(vars.map g)[k]'(by simpa using hk):=by simpa[hj,hk]using e
   exact(F7 h2).1 e2
 refine⟨fun d out hd he=> ?_,fun d hd he g hg=> ?_,?_,?_⟩
 ·unfold ie at he
  split at he
  ·cases he
  ·split at he
   ·cases he
   ·rename_i hno
    obtain rfl:=D2 he
    have hat:=fun j=>kZ (d:=d) (vars:=vars) (out:=d) j hv.1 (hV d hd).2
    have hdat: ∀v,v∈vars→domAt (iY d vars vars d) v=c6 (iQ d vars v):=fun v hm=>by
     have h0:=hv.2 v hm
     have:=hat v.toNat
     rw[show((v.toNat:Nat):Int)=v by omega,if_pos hm]at this
     unfold domAt
     rw[D0,this];rfl
    refine⟨⟨⟨by rw[jt];exact hd.few.small,fun x hx=> ?_,fun x hx=> ?_⟩,by rw[jt,hd.len],hno⟩,fun v hm x=> ?_,fun v h0 hm=> ?_⟩
    ·obtain⟨j,hj⟩:=D9 hx
     rw[hat j]at hj
     split at hj
     ·obtain⟨h1,h2,h3⟩:=lJ hd.few vars (j:Int)
      exact D2 hj▸kB h1 h3 h2
     ·exact hd.few.fine x (D4 hj)
    ·obtain⟨j,hj⟩:=D9 hx
     rw[hat j]at hj
     split at hj
     ·obtain⟨h1,h2,h3⟩:=lJ hd.few vars (j:Int)
      rw[←D2 hj,bK h1];exact h2
     ·exact hd.few.few x (D4 hj)
    ·rw[hdat v hm,bK (lJ hd.few vars v).1]
     obtain⟨i,hi,rfl⟩:=Ee hm
     rw[jC hd.few (hV d hd) hi]
     have hlen:(listsP d vars).length=vars.length:=D6 ..
     constructor
     ·rintro⟨g,⟨h1,h2⟩,rfl⟩
      refine⟨fun u=>g (vars.idxOf u),fun u hu=> ?_,?_,?_⟩
      ·have hx:=Fb hu
       have:=h1 (vars.idxOf u) (by omega)
       rw[eN hd.few]at this
       simpa[hx]using this
      ·refine decide_eq_true (fC hv.1 fun a ha b hb e=> ?_)
       have hxa:=Fb ha
       have hxb:=Fb hb
       have e2:=h2 _ _ (by omega) (by omega) e
       have e3:vars[vars.idxOf a]=vars[vars.idxOf b]:=by simp only[e2]
       simpa using e3
      ·show g (vars.idxOf vars[i])=g i
       congr 1
       exact hv.1.idxOf_getElem i hi
     ·rintro⟨g,h1,h2,rfl⟩
      refine⟨_,ho d hd g h1 (of_decide_eq_true h2),?_⟩
      show g (vars.getD i 0)=_
      rw[D0,D1 hi];rfl
    ·by_cases hl:v.toNat<d.length
     ·have:=hat v.toNat
      rw[show((v.toNat:Nat):Int)=v by omega,if_neg hm]at this
      unfold domAt
      rw[D0,D0,this]
     ·unfold domAt
      rw[D0,D0,Do (by rw[jt];omega),Do (by omega)]
 ·refine decide_eq_false fun hn=> ?_
  have hoo:=ho d hd g hg hn
  unfold ie at he
  rw[if_neg hd.some']at he
  split at he
  ·rename_i hem
   obtain⟨j,hj⟩:=D9 hem
   rw[kZ j hv.1 (hV d hd).2]at hj
   split at hj
   ·rename_i hm
    obtain⟨i,hi,e⟩:=Ee hm
    have:=(jC hd.few (hV d hd) hi _).2 ⟨_,hoo,rfl⟩
    rw[e]at this
    exact xx (fun e2=>by rw[e2]at this;cases this) (D2 hj)
   ·exact hd.some' (D4 hj)
  ·cases he
 ·exact hv.2
 ·exact hne
theorem jk {n:Nat}{a b:aa}(ga:GoodD n a)(gb:GoodD n b)(h: ∀v x:Int,0≤v→(x∈vals (domAt a v)↔x∈vals (domAt b v))):a=b:=by
 refine F0 (by rw[ga.len,gb.len]) fun j h1 h2=> ?_
 have h3:=h (j:Int)
 rw[pG h1,pG h2]at h3
 have f1:=(ga.few.fine _ (D5 h1)).ok
 have f2:=(gb.few.fine _ (D5 h2)).ok
 rw[←eI f1,←eI f2,dG (aF f1) (aF f2) fun x=>h3 x (by omega)]
theorem aT (n:Nat):Order aa leD (GoodD n):=by
 refine⟨fun a=>⟨rfl,fun _ _ _ h=>h⟩,fun a b c h1 h2=>⟨h1.1.trans h2.1,fun v x h0 h=>h2.2 v x h0 (h1.2 v x h0 h)⟩,fun a b ga gb h1 h2=> ?_⟩
 exact jk ga gb fun v x h0=>⟨h1.2 v x h0,h2.2 v x h0⟩
theorem SuppS.stays {n:Nat}{us:List Int}{P:List Int→Bool}{f:aa→Option aa}(h:SuppS n us P f){a b:aa}(ga:GoodD n a)(gb:GoodD n b)(ha:f a=some a)(hab: ∀u∈us,domAt a u=domAt b u):f b=some b:=by
 obtain⟨_,h1,_⟩:=h.ok a a ga ha
 have hsupp: ∀v∈us,∀x,x∈vals (domAt b v)↔∃g:Int→Int,(∀u∈us,g u∈vals (domAt b u))∧P (us.map g)=true∧g v=x:=fun v hv x=>by
  rw[←hab v hv,h1 v hv x]
  constructor
  ·rintro⟨g,h2,h3,h4⟩
   exact⟨g,fun u hu=>by rw[←hab u hu];exact h2 u hu,h3,h4⟩
  ·rintro⟨g,h2,h3,h4⟩
   exact⟨g,fun u hu=>by rw[hab u hu];exact h2 u hu,h3,h4⟩
 cases hb:f b with
 |none=>
  obtain⟨u,hu⟩:=ES _ h.ne
  obtain⟨x,hx⟩:=gb.ne (h.in' u hu).2
  obtain⟨g,h2,h3,_⟩:=(hsupp u hu x).1 hx
  have:=h.no b gb hb g h2
  rw[h3]at this;cases this
 |some b'=>
  obtain⟨g',h2,h3⟩:=h.ok b b' gb hb
  congr 1
  refine jk g' gb fun v x h0=> ?_
  by_cases hv:v∈us
  ·rw[h2 v hv x,hsupp v hv x]
  ·rw[h3 v h0 hv]
theorem SuppS.point {n:Nat}{us:List Int}{P:List Int→Bool}{f:aa→Option aa}(h:SuppS n us P f){e:aa}(ge:GoodD n e)(g:Int→Int)(he: ∀u∈us,vals (domAt e u)=[g u]):f e=(if P (us.map g)=true then some e else none):=by
 have huniq: ∀g':Int→Int,(∀u∈us,g' u∈vals (domAt e u))→us.map g'=us.map g:=fun g' hg'=>Ds fun u hu=>by
  have:=hg' u hu
  rw[he u hu]at this
  exact List.mem_singleton.1 this
 cases hf:f e with
 |none=>
  have:=h.no e ge hf g fun u hu=>by rw[he u hu];exact .head _
  rw[this];rfl
 |some e'=>
  obtain⟨g',h2,h3⟩:=h.ok e e' ge hf
  have hp:P (us.map g)=true:=by
   obtain⟨u,hu⟩:=ES _ h.ne
   obtain⟨x,hx⟩:=g'.ne (h.in' u hu).2
   obtain⟨q,h4,h5,_⟩:=(h2 u hu x).1 hx
   rw[←huniq q h4];exact h5
  rw[if_pos hp]
  congr 1
  refine jk g' ge fun v x h0=> ?_
  by_cases hv:v∈us
  ·rw[h2 v hv x,he v hv,Dm]
   constructor
   ·rintro⟨q,h4,_,rfl⟩
    have:=h4 v hv
    rw[he v hv]at this
    exact List.mem_singleton.1 this
   ·rintro rfl
    exact⟨g,fun u hu=>by rw[he u hu];exact .head _,hp,rfl⟩
  ·rw[h3 v h0 hv]
def atR (a:List Int)(v:Int):Int:=if v<0 then 0 else a.getD v.toNat 0
theorem sP (a:List Int)(v:Int)(hl:a.length*8≤140737488355328):Spec Tryz.prog 53 false [aq a,.int .i64 v] [.val (.int .i64 (atR a v))]:=by
 refine Spec.body Tryz.func53 rfl rfl rfl fun w0 Z0=> ?_
 unfold atR
 refine .B ?_
 refine J.g rfl rfl rfl (fun h=> ?_) (fun h=> ?_)
 ·refine .B ?_
  refine T.ct rfl ?_
  refine .B ?_
  exact⟨_,.v rfl rfl (by rw[if_pos h]) (fun _=>rfl) .nil⟩
 ·refine .B ?_
  refine T.cd rfl (fun h2=> ?_) (fun h2=> ?_)
  ·refine .B ?_
   refine⟨_,.v rfl rfl ?_ (fun _=>rfl) .nil⟩
   rw[if_neg h,D0,Do (by simp at h2;omega)];rfl
  ·have h2:v.toNat<a.length:=by simp at h2;omega
   refine .B ?_
   refine J.i rfl rfl rfl rfl rfl rfl rfl rfl rfl (r:=cI a[v.toNat]) (by omega) (aL h2) rfl ?_
   refine .B ?_
   refine⟨_,.v rfl rfl ?_ (fun _=>rfl) .nil⟩
   rw[if_neg h,D0,D1 h2];rfl
def pickedR (vars a:List Int):List Int:=vars.map (atR a)
theorem tQ (vars a:List Int)(hv:vars.length*8≤140737488355328)(hl:a.length*8≤140737488355328):Spec Tryz.prog 50 false [aq vars,aq a] [.own 3 1 ((pickedR vars a).map cI)]:=by
 refine Spec.body Tryz.func50 rfl rfl rfl fun w0 Z0=> ?_
 refine .B ?_
 refine .O ?_
 refine .B ?_
 refine T.K (T.ind (fun i:Nat=>⟨[(0,.val false (aq vars)),(1,.val false (aq a)),(4,.nilsl),(5,.ref 0),(6,.val true (.int .i64 i))],[(0,some (.sl 3 1 true ((pickedR (vars.take i) a).map cI)))],1⟩) (fun i=>i≤vars.length) (fun i=>vars.length-i) 0 (by simp) (fun _ _ h=>h) ?_)
 rintro i hi ih
 refine .B ?_
 refine T.cd rfl (fun h1=> ?_) (fun h1=> ?_)
 ·have h1:i<vars.length:=by simpa using h1
  refine .B ?_
  refine .I (r:=cI vars[i]) (aL h1) ?_
  refine .B ?_
  refine .C (sP a vars[i] hl) ?_
  refine .B ?_
  refine .V ?_
  refine J.aI rfl rfl rfl rfl rfl rfl rfl rfl rfl rfl rfl rfl rfl rfl rfl rfl rfl rfl rfl (by simp[pickedR];omega) ?_
  refine .B ?_
  rw[aj (l:=vars.length) (by omega) (by omega)]
  have e:pickedR (vars.take i) a++[atR a vars[i]]=pickedR (vars.take (i+1)) a:=by
   rw[D7 h1]
   unfold pickedR
   rw[Di]
   rfl
  rw[e]
  exact T.K (ih (i+1) (by omega) (by omega))
 ·have h1:i=vars.length:=by simp at h1;omega
  subst h1
  refine .B ?_
  refine⟨_,.o rfl rfl (by rw[DY]) (fun _=> .inl rfl) (by simp) .nil⟩
def dt (op n rhs:Int):Bool:=if op=0 then decide (n≤rhs)else(decide (n=rhs)==decide (op=1))
theorem y0 (op n rhs:Int):Spec Tryz.prog 51 false [.int .i64 op,.int .i64 n,.int .i64 rhs] [.val (.bool (dt op n rhs))]:=by
 refine Spec.body Tryz.func51 rfl rfl rfl fun w0 Z0=> ?_
 unfold dt
 refine .B ?_
 refine T.cd rfl (fun h=> ?_) (fun h=> ?_)
 ·refine .B ?_
  exact⟨_,.v rfl rfl (by rw[if_pos h]) (fun _=>rfl) .nil⟩
 ·refine .B ?_
  exact⟨_,.v rfl rfl (by rw[if_neg h]) (fun _=>rfl) .nil⟩
def sumW (vars coefs a:List Int):Int:=(vars.zip coefs).foldl (fun n p=>IntKind.i64.wrap (n+IntKind.i64.wrap (p.2*atR a p.1))) 0
theorem qq (vars coefs a:List Int)(hv:vars.length*8≤140737488355328)(hc:coefs.length*8≤140737488355328)(hl:a.length*8≤140737488355328):Spec Tryz.prog 49 false [aq vars,aq coefs,aq a] [.val (.int .i64 (sumW vars coefs a))]:=by
 refine Spec.body Tryz.func49 rfl rfl rfl fun w0 Z0=> ?_
 refine .B ?_
 refine T.K (T.ind (fun i:Nat=>⟨[(0,.val false (aq vars)),(1,.val false (aq coefs)),(2,.val false (aq a)),(7,.val true (.int .i64 (sumW (vars.take i) (coefs.take i) a))),(8,.val true (.int .i64 i))],[],0⟩) (fun i=>i≤vars.length∧i≤coefs.length) (fun i=>vars.length-i) 0 (by simp) (fun _ _ h=>h) ?_)
 rintro i ⟨hi,hi2⟩ ih
 have fin: ∀(h:i=vars.length∨i=coefs.length),sumW (vars.take i) (coefs.take i) a=sumW vars coefs a:=by
  intro h
  unfold sumW
  rw[List.zip_eq_zipWith,List.zip_eq_zipWith,←List.take_zipWith,DE]
  simp;omega
 refine .B ?_
 refine J.g rfl rfl rfl (fun h=> ?_) (fun h=> ?_)
 ·have h:i<vars.length:=by simpa using h
  refine .B ?_
  refine T.cd rfl (fun h1=> ?_) (fun h1=> ?_)
  ·have h1:i<coefs.length:=by simpa using h1
   refine .B ?_
   refine .I (r:=cI coefs[i]) (aL h1) ?_
   refine .B ?_
   refine .I (r:=cI vars[i]) (aL h) ?_
   refine .B ?_
   refine .C (sP a vars[i] hl) ?_
   refine .B ?_
   have e:IntKind.i64.wrap (sumW (vars.take i) (coefs.take i) a+IntKind.i64.wrap (coefs[i]*atR a vars[i]))=sumW (vars.take (i+1)) (coefs.take (i+1)) a:=by
    unfold sumW
    rw[D7 h,D7 h1,List.zip_append (by simp;omega),GP]
    rfl
   rw[e,aj (l:=vars.length) (by omega) (by omega)]
   exact T.K (ih (i+1) ⟨by omega,by omega⟩ (by omega))
  ·refine .B ?_
   refine⟨_,.v rfl rfl (by rw[fin];simp at h1;omega) (fun _=>rfl) .nil⟩
 ·refine .B ?_
  refine T.cf rfl ?_
  refine .B ?_
  refine⟨_,.v rfl rfl (by rw[fin];simp at h;omega) (fun _=>rfl) .nil⟩
def dA:List Int→List Int→Int
 | [],[]=>0
 | [],_::_=> -1
 |_::_,[]=>1
 |x::xs,y::ys=>if x<y then -1 else if y<x then 1 else dA xs ys
theorem v7 (a b:List Int)(ha:a.length*8≤140737488355328)(hb:b.length*8≤140737488355328):Spec Tryz.prog 54 false [aq a,aq b] [.val (.int .i64 (dA a b))]:=by
 refine Spec.body Tryz.func54 rfl rfl rfl fun w0 Z0=> ?_
 refine .B ?_
 refine T.K (T.ind (fun i:Nat=>⟨[(0,.val false (aq a)),(1,.val false (aq b)),(5,.val true (.int .i64 i))],[],0⟩) (fun i=>i≤a.length∧i≤b.length∧dA (a.drop i) (b.drop i)=dA a b) (fun i=>a.length-i) 0 (by simp) (fun _ _ h=>h) ?_)
 rintro i ⟨hi,hi2,he⟩ ih
 refine .B ?_
 refine J.g rfl rfl rfl (fun h=> ?_) (fun h=> ?_)
 ·have h:i<a.length:=by simpa using h
  refine .B ?_
  refine T.cd rfl (fun h1=> ?_) (fun h1=> ?_)
  ·have h1:i<b.length:=by simpa using h1
   have ed:dA (a.drop i) (b.drop i)=if a[i]<b[i]then -1 else if b[i]<a[i]then 1 else dA (a.drop (i+1)) (b.drop (i+1)):=by
    rw[DD h,DD h1,dA]
   refine .B ?_
   refine .I (r:=cI a[i]) (aL h) ?_
   refine .B ?_
   refine .I (r:=cI b[i]) (aL h1) ?_
   refine .B ?_
   refine T.cd rfl (fun h2=> ?_) (fun h2=> ?_)
   ·refine .B ?_
    refine⟨_,.v rfl rfl ?_ (fun _=>rfl) .nil⟩
    rw[←he,ed,if_pos h2]
   ·refine .B ?_
    refine .I (r:=cI a[i]) (aL h) ?_
    refine .B ?_
    refine .I (r:=cI b[i]) (aL h1) ?_
    refine .B ?_
    refine T.cd rfl (fun h3=> ?_) (fun h3=> ?_)
    ·refine .B ?_
     refine⟨_,.v rfl rfl ?_ (fun _=>rfl) .nil⟩
     rw[←he,ed,if_neg h2,if_pos h3]
    ·refine .B ?_
     rw[aj (l:=a.length) (by omega) (by omega)]
     refine T.K (ih (i+1) ⟨by omega,by omega,?_⟩ (by omega))
     rw[←he,ed,if_neg h2,if_neg h3]
  ·have h1:i=b.length:=by simp at h1;omega
   refine .B ?_
   refine T.cd rfl (fun h2=> ?_) (fun h2=> ?_)
   ·exact absurd h2 (by simp;omega)
   ·refine .B ?_
    refine T.cd rfl (fun h3=> ?_) (fun h3=> ?_)
    ·refine .B ?_
     refine⟨_,.v rfl rfl ?_ (fun _=>rfl) .nil⟩
     rw[←he,h1,EA,DD (by omega),dA]
    ·exact absurd (by simp;omega) h3
 ·have h:i=a.length:=by simp at h;omega
  refine .B ?_
  refine T.cf rfl ?_
  refine .B ?_
  refine T.cd rfl (fun h2=> ?_) (fun h2=> ?_)
  ·have h2:a.length<b.length:=by simpa using h2
   refine .B ?_
   refine⟨_,.v rfl rfl ?_ (fun _=>rfl) .nil⟩
   rw[←he,h,EA,DD h2,dA]
  ·have h2: ¬a.length<b.length:=by simpa using h2
   refine .B ?_
   refine T.cd rfl (fun h3=> ?_) (fun h3=> ?_)
   ·exact absurd h3 (by simp;omega)
   ·refine .B ?_
    refine⟨_,.v rfl rfl ?_ (fun _=>rfl) .nil⟩
    rw[←he,h,EA,Fv (by omega),dA]
def holds6 (vars a:List Int):Bool:=decide (dA ((pickedR vars a).take (vars.length / 2)) ((pickedR vars a).drop (vars.length / 2))≤0)
def litH (p:Int×Int):Bool:=(decide (p.2=1)&&decide (p.1=1))||(decide (p.2= -1)&&decide (p.1=0))
def xR (l:List Int):Bool:=decide (2≤l.length)&&decide (0≤l.getD 0 0)&&decide (l.getD 0 0+2<l.length)&&decide (l.getD (l.getD 0 0+2).toNat 0=l.getD 1 0)
def soR (c:Con)(a:List Int):Bool:=dt c.op (sumW c.vars c.coefs a) c.rhs
def holdsR (c:Con)(a:List Int):Bool:=
 if c.kind=0 then soR c a else
 if c.kind=1 then decide ((aW (pickedR c.vars a)).length=(pickedR c.vars a).length)else
 if c.kind=2 then c.rows.any fun r=>decide (r=pickedR c.vars a)else
 if c.kind=3 then xR (pickedR c.vars a)else
 if c.kind=4 then(soR c a&&decide (atR a c.b=1))||(!soR c a&&decide (atR a c.b=0))else
 if c.kind=5 then((pickedR c.vars a).zip c.coefs).any litH else
 holds6 c.vars a
theorem wI (c:Con)(a:List Int)(hc:ConB c)(hl:a.length*8≤140737488355328)(hk5:c.kind=5→c.vars.length≤c.coefs.length)(hk3:c.kind=3→∀x∈a,x≤4611686018427387904):
  Spec Tryz.prog 25 false [.agg (cC c),aq a] [.val (.bool (holdsR c a))]:=by
 obtain⟨h1,h2,h3,h4⟩:=hc
 refine Spec.body Tryz.func25 rfl rfl rfl fun w0 Z0=> ?_
 have hpl:(pickedR c.vars a).length=c.vars.length:=by simp[pickedR]
 have hheld:=y0 c.op (sumW c.vars c.coefs a) c.rhs
 have hso:dt c.op (sumW c.vars c.coefs a) c.rhs=soR c a:=rfl
 rw[hso]at hheld
 have hsort:=iZ (pickedR c.vars a) (by omega)
 have hat:=sP a c.b hl
 have ho6:holds6 c.vars a=decide (dA ((pickedR c.vars a).take (c.vars.length / 2)) ((pickedR c.vars a).drop (c.vars.length / 2))≤0):=rfl
 have hord:=v7 ((pickedR c.vars a).take (c.vars.length / 2)) ((pickedR c.vars a).drop (c.vars.length / 2)) (by simp;omega) (by simp;omega)
 have hpk:=tQ c.vars a (by omega) hl
 have hsm:=qq c.vars c.coefs a (by omega) h2 hl
 have hpin:c.kind=3→∀x∈pickedR c.vars a,x≤4611686018427387904:=by
  intro hk x hx
  obtain⟨v,_,rfl⟩:=List.mem_map.1 hx
  unfold atR
  split
  ·omega
  ·rw[D0]
   cases hg:a[v.toNat]? with
   |none=>simp
   |some y=>simpa using hk3 hk y (D4 hg)
 clear hso
 unfold holdsR
 generalize holds6 c.vars a=h6 at*
 generalize sumW c.vars c.coefs a=sm at*
 generalize soR c a=so at*
 generalize pickedR c.vars a=l at*
 refine .B ?_
 refine .C hpk ?_
 refine .B ?_
 refine .C hsm ?_
 refine .B ?_
 refine .C hheld ?_
 refine .B ?_
 refine T.cd rfl (fun k0=> ?_) (fun k0=> ?_)
 ·have k0:c.kind=0:=k0
  rw[if_pos k0]
  refine .B ?_
  exact r1
 have k0: ¬c.kind=0:=k0
 rw[if_neg k0]
 refine .B ?_
 refine T.cd rfl (fun k1=> ?_) (fun k1=> ?_)
 ·have k1:c.kind=1:=k1
  rw[if_pos k1]
  refine .B ?_
  refine .C hsort ?_
  refine .B ?_
  exact⟨_,.v rfl rfl (by simp;omega) (fun _=>rfl) .nil⟩
 have k1: ¬c.kind=1:=k1
 rw[if_neg k1]
 refine .B ?_
 refine T.cd rfl (fun k2=> ?_) (fun k2=> ?_)
 ·have k2:c.kind=2:=k2
  rw[if_pos k2]
  refine .B ?_
  refine T.sub (Rel.frz (s:=5) (fun _ h=>h) rfl rfl) ?_
  refine T.K (T.ind (fun i:Nat=>⟨[(2,.optr 0 0 0 0),(5,.val true (aq l)),(7,.val true (.int .i64 i))],[(0,some (.box false (cC c)))],1⟩) (fun i=>i≤c.rows.length∧((c.rows.take i).any fun r=>decide (r=l))=false) (fun i=>c.rows.length-i) 0 (by simp) (fun _ _ h=>h) ?_)
  rintro i ⟨hi,he⟩ ih
  refine .B ?_
  refine T.cd rfl (fun h5=> ?_) (fun h5=> ?_)
  ·have h5:i<c.rows.length:=by simpa using h5
   have hrl:=h4 _ (D5 h5)
   have hn:=jz c.rows[i] l hrl
   refine .B ?_
   refine .I (r:=cL c.rows[i]) (aL h5) ?_
   refine .B ?_
   refine .C hn ?_
   by_cases e:c.rows[i]=l
   ·have hany:(c.rows.any fun r=>decide (r=l))=true:=List.any_eq_true.2 ⟨_,D5 h5,by simp[e]⟩
    rw[decide_eq_true e,hany]
    refine .B ?_
    refine T.ct rfl ?_
    refine .B ?_
    exact r1
   ·rw[decide_eq_false e]
    refine .B ?_
    refine T.cf rfl ?_
    refine .B ?_
    rw[aj (l:=c.rows.length) (by omega) (by omega)]
    exact T.K (ih (i+1) ⟨by omega,by rw[D7 h5,List.any_append,he];simp[e]⟩ (by omega))
  ·have h5:i=c.rows.length:=by simp at h5;omega
   subst h5
   rw[DY]at he
   rw[he]
   refine .B ?_
   exact r1
 have k2: ¬c.kind=2:=k2
 rw[if_neg k2]
 refine .B ?_
 refine T.cd rfl (fun k3=> ?_) (fun k3=> ?_)
 ·have k3:c.kind=3:=k3
  rw[if_pos k3]
  have hpin:=hpin k3
  unfold xR
  refine .M ?_
  refine T.sub (Rel.frz (s:=5) (fun _ h=>h) rfl rfl) ?_
  refine .B ?_
  refine J.g rfl rfl rfl (fun g1=> ?_) (fun g1=> ?_)
  ·have g1:2≤l.length:=by
    have g1:((l.map cI).length:Int)≥2:=g1
    simp only[D6]at g1;omega
   obtain⟨x0,hx0⟩: ∃x,l[0]? =some x:=⟨_,D1 (by omega)⟩
   obtain⟨x1,hx1⟩: ∃x,l[1]? =some x:=⟨_,D1 (by omega)⟩
   have e0:l.getD 0 0=x0:=by rw[D0,hx0];rfl
   have e1:l.getD 1 0=x1:=by rw[D0,hx1];rfl
   have hr0:(l.map cI)[(0:Int).toNat]? =some (cI x0):=by simp[hx0]
   have hr1:(l.map cI)[(1:Int).toNat]? =some (cI x1):=by simp[hx1]
   have hp0:=hpin x0 (D4 hx0)
   rw[decide_eq_true g1,e0,e1]
   refine .B ?_
   refine J.i rfl rfl rfl rfl rfl rfl rfl rfl rfl (r:=cI x0) (by decide) hr0 rfl ?_
   refine .B ?_
   refine J.g rfl rfl rfl (fun g2=> ?_) (fun g2=> ?_)
   ·have g2:0≤x0:=g2
    have ew:IntKind.i64.wrap (x0+2)=x0+2:=ae (by omega) (by omega)
    rw[decide_eq_true g2]
    refine .B ?_
    refine J.i rfl rfl rfl rfl rfl rfl rfl rfl rfl (r:=cI x0) (by decide) hr0 rfl ?_
    repeat' first|refine J.e rfl rfl rfl rfl ?_|refine J.skip rfl rfl rfl ?_|refine J.bx rfl rfl rfl rfl rfl rfl ?_
    rw[ew]
    repeat' first|refine J.e rfl rfl rfl rfl ?_|refine J.skip rfl rfl rfl ?_|refine J.bx rfl rfl rfl rfl rfl rfl ?_
    refine J.g rfl rfl rfl (fun g3=> ?_) (fun g3=> ?_)
    ·have g3:x0+2<l.length:=by simpa using g3
     have g4:(x0+2).toNat<l.length:=by omega
     obtain⟨x2,hx2⟩: ∃x,l[(x0+2).toNat]? =some x:=⟨_,D1 g4⟩
     have e2:l.getD (x0+2).toNat 0=x2:=by rw[D0,hx2];rfl
     have hr2:(l.map cI)[(x0+2).toNat]? =some (cI x2):=by simp[hx2]
     rw[decide_eq_true g3,e2]
     refine .B ?_
     refine J.i rfl rfl rfl rfl rfl rfl rfl rfl rfl (r:=cI x0) (by decide) hr0 rfl ?_
     repeat' first|refine J.e rfl rfl rfl rfl ?_|refine J.skip rfl rfl rfl ?_|refine J.bx rfl rfl rfl rfl rfl rfl ?_
     rw[ew]
     refine .I (r:=cI x2) hr2 ?_
     refine .B ?_
     refine J.i rfl rfl rfl rfl rfl rfl rfl rfl rfl (r:=cI x1) (by decide) hr1 rfl ?_
     refine .B ?_
     exact⟨_,.v rfl rfl (by simp) (fun _=>rfl) .nil⟩
    ·have g3: ¬x0+2<l.length:=by simpa using g3
     rw[decide_eq_false g3]
     refine .B ?_
     exact⟨_,.v rfl rfl (by simp) (fun _=>rfl) .nil⟩
   ·have g2: ¬0≤x0:=g2
    rw[decide_eq_false g2]
    refine .B ?_
    exact⟨_,.v rfl rfl (by simp) (fun _=>rfl) .nil⟩
  ·have g1: ¬2≤l.length:=by
    have g1: ¬((l.map cI).length:Int)≥2:=g1
    simp only[D6]at g1;omega
   rw[decide_eq_false g1]
   refine .B ?_
   exact⟨_,.v rfl rfl (by simp) (fun _=>rfl) .nil⟩
 have k3: ¬c.kind=3:=k3
 rw[if_neg k3]
 refine .B ?_
 refine T.cd rfl (fun k4=> ?_) (fun k4=> ?_)
 ·have k4:c.kind=4:=k4
  rw[if_pos k4]
  cases so
  ·refine .B ?_
   refine .C hat ?_
   refine .B ?_
   exact⟨_,.v rfl rfl (by simp) (fun _=>rfl) .nil⟩
  ·refine .B ?_
   refine .C hat ?_
   generalize atR a c.b=ab at*
   refine .B ?_
   refine J.g rfl rfl rfl (fun h=> ?_) (fun h=> ?_)
   ·have h:ab=1:=h
    rw[decide_eq_true h]
    refine .B ?_
    exact⟨_,.v rfl rfl (by simp) (fun _=>rfl) .nil⟩
   ·have h: ¬ab=1:=h
    rw[decide_eq_false h]
    refine .B ?_
    exact⟨_,.v rfl rfl (by simp) (fun _=>rfl) .nil⟩
 have k4: ¬c.kind=4:=k4
 rw[if_neg k4]
 refine .B ?_
 refine T.cd rfl (fun k5=> ?_) (fun k5=> ?_)
 ·have k5:c.kind=5:=k5
  rw[if_pos k5]
  have hk5:=hk5 k5
  refine .M ?_
  refine T.sub (Rel.frz (s:=5) (fun _ h=>h) rfl rfl) ?_
  refine T.K (T.ind (fun i:Nat=>⟨[(2,.optr 0 0 0 0),(5,.val true (aq l)),(8,.val true (.int .i64 i))],[(0,some (.box false (cC c)))],1⟩) (fun i=>i≤l.length∧((l.zip c.coefs).take i).any litH=false) (fun i=>l.length-i) 0 (by simp) (fun _ _ h=>h) ?_)
  rintro i ⟨hi,he⟩ ih
  refine .B ?_
  refine T.cd rfl (fun h5=> ?_) (fun h5=> ?_)
  ·have h5:i<l.length:=by simpa using h5
   have h6:i<c.coefs.length:=by omega
   have hz:i<(l.zip c.coefs).length:=by simp;omega
   have eyes:litH (l[i],c.coefs[i])=true→(l.zip c.coefs).any litH=true:=fun h=>List.any_eq_true.2 ⟨(l[i],c.coefs[i]),by rw[←FQ (h:=hz)];exact D5 hz,h⟩
   have eno:litH (l[i],c.coefs[i])=false→((l.zip c.coefs).take (i+1)).any litH=false:=fun h=>by
    rw[D7 hz,List.any_append,he,FQ]
    simp[h]
   have edef:litH (l[i],c.coefs[i])=((decide (c.coefs[i]=1)&&decide (l[i]=1))||(decide (c.coefs[i]= -1)&&decide (l[i]=0))):=rfl
   have hrl:=aL (enc:=cI) h5
   have hrk:=aL (enc:=cI) h6
   generalize litH (l[i],c.coefs[i])=lb at*
   generalize l[i]=x at*
   generalize c.coefs[i]=k at*
   refine .B ?_
   refine .I (r:=cI k) hrk ?_
   refine .B ?_
   refine J.g rfl rfl rfl (fun g1=> ?_) (fun g1=> ?_)
   ·have g1:k=1:=g1
    have g9: ¬k= -1:=by omega
    rw[decide_eq_true g1,decide_eq_false g9]at edef
    refine .B ?_
    refine .I (r:=cI x) hrl ?_
    refine .B ?_
    refine J.g rfl rfl rfl (fun g2=> ?_) (fun g2=> ?_)
    ·have g2:x=1:=g2
     rw[decide_eq_true g2]at edef
     refine .B ?_
     have hb:lb=true:=by rw[edef];rfl
     rw[eyes hb]
     refine T.ct rfl ?_
     refine .B ?_
     exact r1
    ·have g2: ¬x=1:=g2
     rw[decide_eq_false g2]at edef
     refine .B ?_
     refine .I (r:=cI k) hrk ?_
     refine .B ?_
     refine J.g rfl rfl rfl (fun g3=>absurd g3 g9) (fun _=> ?_)
     refine .B ?_
     have hb:lb=false:=by rw[edef];rfl
     refine T.cf rfl ?_
     refine .B ?_
     rw[aj (l:=l.length) (by omega) (by omega)]
     exact T.K (ih (i+1) ⟨by omega,eno hb⟩ (by omega))
   ·have g1: ¬k=1:=g1
    rw[decide_eq_false g1]at edef
    refine .B ?_
    refine .I (r:=cI k) hrk ?_
    refine .B ?_
    refine J.g rfl rfl rfl (fun g3=> ?_) (fun g3=> ?_)
    ·have g3:k= -1:=g3
     rw[decide_eq_true g3]at edef
     refine .B ?_
     refine .I (r:=cI x) hrl ?_
     refine .B ?_
     by_cases g4:x=0
     ·rw[decide_eq_true g4]at edef⊢
      have hb:lb=true:=by rw[edef];rfl
      rw[eyes hb]
      refine T.ct rfl ?_
      refine .B ?_
      exact r1
     ·rw[decide_eq_false g4]at edef⊢
      have hb:lb=false:=by rw[edef];rfl
      refine T.cf rfl ?_
      refine .B ?_
      rw[aj (l:=l.length) (by omega) (by omega)]
      exact T.K (ih (i+1) ⟨by omega,eno hb⟩ (by omega))
    ·have g3: ¬k= -1:=g3
     rw[decide_eq_false g3]at edef
     refine .B ?_
     have hb:lb=false:=by rw[edef];rfl
     refine T.cf rfl ?_
     refine .B ?_
     rw[aj (l:=l.length) (by omega) (by omega)]
     exact T.K (ih (i+1) ⟨by omega,eno hb⟩ (by omega))
  ·have h5:i=l.length:=by simp at h5;omega
   subst h5
   rw[DE (by simp;omega)]at he
   rw[he]
   refine .B ?_
   exact r1
 have k5: ¬c.kind=5:=k5
 rw[if_neg k5]
 refine .M ?_
 have e1:IntKind.i64.wrap (((l.map cI).length:Int).tdiv 2)=((c.vars.length / 2:Nat):Int):=by
  rw[D6,hpl,Ff (by omega),ae (by omega) (by omega)]
  simp
 rw[e1]
 refine T.sub (Rel.frz (s:=5) (fun _ h=>h) rfl rfl) ?_
 refine .B ?_
 refine J.s1 (enc:=cI) (c.vars.length / 2) rfl rfl rfl rfl rfl rfl rfl rfl rfl (fun _=>rfl) rfl (by omega) ?_
 refine .B ?_
 refine J.s3 (enc:=cI) (c.vars.length / 2) rfl rfl rfl rfl rfl rfl rfl rfl rfl (fun _=>rfl) rfl (by omega) ?_
 refine .B ?_
 refine .C hord ?_
 refine .B ?_
 exact⟨_,.v rfl rfl (by rw[ho6]) (fun _=>rfl) .nil⟩
def growR (d:aa):Nat→List (List Int)
 |0=>[[]]
 |n+1=>(growR d n).flatMap fun a=>(vals (d.getD n [])).map fun v=>a++[v]
theorem jH (d:aa): ∀(n:Nat) (a:List Int),a∈growR d n→a.length=n
 |0,a,h=>by simp[growR]at h;simp[h]
 |n+1,a,h=>by
  simp only[growR,G5,F1]at h
  obtain⟨b,hb,v,_,rfl⟩:=h
  simp[jH d n b hb]
theorem y4 (d:aa)(hd: ∀x∈d,DomB x)(hdl:d.length*8≤140737488355328): ∀n,n≤d.length→(∀m,m≤n→(growR d m).length*24≤140737488355328)→
  Spec Tryz.prog 46 false [aJ d,.int .i64 n] [.own 24 1 ((growR d n).map cL)]:=by
 intro n
 induction n with
 |zero=>
  intro _ _
  refine Spec.body Tryz.func46 rfl rfl rfl fun w0 Z0=> ?_
  refine .B ?_
  refine T.ct rfl ?_
  refine .B ?_
  refine .V ?_
  refine .O ?_
  refine .B ?_
  exact⟨_,.o rfl rfl rfl (fun _=> .inl rfl) (by simp) .nil⟩
 |succ n ih=>
  intro hn hm
  have hrec:=ih (by omega) (fun m h=>hm m (by omega))
  have hx:=hd _ (D5 (show n<d.length by omega))
  have hval:=fY d[n] hx.1 (by have:=hx.2.1;omega) hx.2.2
  have hg:d.getD n []=d[n]:=by rw[D0,D1 (by omega)];rfl
  have hgl:=jH d n
  have hG:growR d (n+1)=(growR d n).flatMap fun a=>(vals d[n]).map fun v=>a++[v]:=by rw[←hg];rfl
  have h1:=hm n (by omega)
  have h2:=hm (n+1) (DB _)
  have hsub:IntKind.i64.wrap (((n+1:Nat):Int)-1)=(n:Nat):=by rw[ae (by omega) (by omega)];omega
  have hrow:(d.map cD)[((n:Nat):Int).toNat]? =some (cD d[n]):=aL (by omega)
  have hvl:(vals d[n]).length*16≤140737488355328:=hx.2.1
  rw[hG]at h2⊢
  clear hm ih hG hg
  generalize growR d n=l at*
  generalize vals d[n]=v at*
  refine Spec.body Tryz.func46 rfl rfl rfl fun w0 Z0=> ?_
  refine .B ?_
  refine T.cd rfl (fun h=>absurd h (by show¬((n+1:Nat):Int)=0;omega)) (fun _=> ?_)
  refine .B ?_
  rw[hsub]
  refine .C hrec ?_
  refine .B ?_
  rw[hsub]
  refine .I (r:=cD d[n]) hrow ?_
  refine .B ?_
  refine .C hval ?_
  refine .B ?_
  refine .O ?_
  refine .B ?_
  refine T.sub (Rel.frz (s:=5) (fun _ h=>h) rfl rfl) ?_
  refine T.sub (Rel.frz (s:=6) (fun _ h=>h) rfl rfl) ?_
  have hsum: ∀(l:List (List Int)),(l.flatMap fun a=>v.map fun v=>a++[v]).length=l.length*v.length:=by
   intro l
   induction l with
   |nil=>simp
   |cons a l ih=>rw[ER,DF,ih,D6,DK,En];omega
  rw[hsum]at h2
  refine T.K (T.ind (fun i:Nat=>⟨[(5,.val true (aZ l)),(6,.val true (aq v)),(7,.ref 0),(8,.val true (.int .i64 i))],[(0,some (.sl 24 1 true (((l.take i).flatMap fun a=>v.map fun v=>a++[v]).map cL)))],1⟩) (fun i=>i≤l.length) (fun i=>l.length-i) 0 (by simp) (fun _ _ h=>h) ?_)
  rintro i hi ih
  refine .B ?_
  refine T.cd rfl (fun h3=> ?_) (fun h3=> ?_)
  ·have h3:i<l.length:=by simpa using h3
   have hil:l[i].length=n:=hgl _ (D5 h3)
   refine .B ?_
   have e0:(l.take i).flatMap (fun a=>v.map fun v=>a++[v])=(l.take i).flatMap (fun a=>v.map fun v=>a++[v])++(v.take 0).map fun v=>l[i]++[v]:=by simp
   rw[e0]
   refine T.K (T.ind (fun k:Nat=>⟨[(5,.val true (aZ l)),(6,.val true (aq v)),(7,.ref 0),(8,.val true (.int .i64 i)),(9,.val true (.int .i64 k))],[(0,some (.sl 24 1 true (((l.take i).flatMap (fun a=>v.map fun v=>a++[v])++(v.take k).map fun v=>l[i]++[v]).map cL)))],1⟩) (fun k=>k≤v.length) (fun k=>v.length-k) 0 (by simp) (fun _ _ h=>h) ?_)
   rintro k hk ih2
   refine .B ?_
   refine T.cd rfl (fun h4=> ?_) (fun h4=> ?_)
   ·have h4:k<v.length:=by simpa using h4
    refine .B ?_
    refine .O ?_
    refine .B ?_
    refine .I (r:=cL l[i]) (aL h3) ?_
    refine .B ?_
    refine J.a rfl rfl rfl rfl rfl rfl rfl rfl rfl rfl rfl rfl rfl rfl rfl rfl rfl qX (by show(0+List.length _)*8≤_;simp;omega) ?_
    refine .B ?_
    refine .I (r:=cI v[k]) (aL h4) ?_
    refine .B ?_
    refine .V ?_
    refine J.aI rfl rfl rfl rfl rfl rfl rfl rfl rfl rfl rfl rfl rfl rfl rfl rfl rfl rfl rfl (by omega) ?_
    refine .B ?_
    refine J.sub (Rel.frz (s:=52) (fun _ h=>h) rfl rfl) ?_
    refine .B ?_
    refine .V ?_
    have hb:((l.take i).flatMap (fun a=>v.map fun v=>a++[v])++(v.take k).map fun v=>l[i]++[v]).length+1≤l.length*v.length:=by
     rw[DF,hsum,D6,DS,DS,Dv (by omega),Dv (by omega)]
     have:i*v.length+v.length≤l.length*v.length:=by
      rw[←En]
      exact Dl _ h3
     omega
    refine J.a1 (enc:=cL) (x:=l[i]++[v[k]]) (B:=24) rfl rfl rfl rfl rfl rfl rfl rfl rfl rfl rfl rfl rfl rfl rfl rfl rfl rfl rfl rfl (by omega) ?_
    refine .B ?_
    have e:(l.take i).flatMap (fun a=>v.map fun v=>a++[v])++((v.take k).map fun v=>l[i]++[v])++[l[i]++[v[k]]]=(l.take i).flatMap (fun a=>v.map fun v=>a++[v])++(v.take (k+1)).map fun v=>l[i]++[v]:=by
     rw[D7 h4,Di,DV];rfl
    rw[e,aj (l:=v.length) (by omega) (by omega)]
    exact T.K (ih2 (k+1) (by omega) (by omega))
   ·have h4:k=v.length:=by simp at h4;omega
    subst h4
    rw[DY]
    refine .B ?_
    have e:(l.take i).flatMap (fun a=>v.map fun v=>a++[v])++(v.map fun v=>l[i]++[v])=(l.take (i+1)).flatMap fun a=>v.map fun v=>a++[v]:=by
     rw[D7 h3,GE];simp
    rw[e,aj (l:=l.length) (by omega) (by omega)]
    exact T.K (ih (i+1) (by omega) (by omega))
  ·have h3:i=l.length:=by simp at h3;omega
   subst h3
   rw[DY]
   refine .B ?_
   exact⟨_,.o rfl rfl rfl (fun _=> .inl rfl) (by simp) .nil⟩
def cutW (x:List (Int×Int))(k rest:Int):List (Int×Int):=if 0<k then domCut x (-1048576) (gB rest k)else domCut x (wr (0-gB rest (wr (0-k)))) 1048576
theorem sH {x:List (Int×Int)}(h:az x)(k rest:Int):az (cutW x k rest)∧∀v,v∈vals (cutW x k rest)→v∈vals x:=by
 unfold cutW
 split
 ·exact⟨(bR h _ _).1,fun v hv=>(((bR h _ _).2 v).1 hv).1⟩
 ·exact⟨(bR h _ _).1,fun v hv=>(((bR h _ _).2 v).1 hv).1⟩
theorem rx {x:List (Int×Int)}(h:Fine x)(k rest:Int):Fine (cutW x k rest):=h.cut (sH h.ok k rest).1 (sH h.ok k rest).2
def gH (low rhs:Int)(x:List (Int×Int))(k:Int):Int:=wr (rhs-wr (low-(endW x k false).1))
def eL (low rhs:Int):List (Int×Int)→aa→Bool→aa×Bool×Bool
 | [],d,ch=>(d,ch,true)
 |(v,k)::l,d,ch=>
  if cutW (domAt d v) k (gH low rhs (domAt d v) k)=[]then(d,false,false)
  else eL low rhs l (d.set v.toNat (cutW (domAt d v) k (gH low rhs (domAt d v) k))) (ch|| !decide (cutW (domAt d v) k (gH low rhs (domAt d v) k)=domAt d v))
def mostW (d:aa)(vars coefs:List Int)(rhs:Int):aa×Bool×Bool:=eL (endsW d vars coefs).1 rhs (vars.zip coefs) d false
structure SumFine (d:aa)(vars coefs:List Int):Prop where
 len:vars.length=coefs.length
 vl:vars.length*8≤140737488355328
 vin: ∀v∈vars,0≤v∧v.toNat<d.length
 ck: ∀k∈coefs,CoefOk k
 dom: ∀x∈d,Fine x
 dl:d.length*24≤140737488355328
theorem SumFine.in_ {d:aa}{vars coefs:List Int}(h:SumFine d vars coefs):SumIn d vars coefs:=⟨h.len,h.vl,h.vin,h.ck,fun x hx=>(h.dom x hx).domB,h.dl⟩
theorem ik {d:aa}{i:Nat}{x:List (Int×Int)}{p:List (Int×Int)→Prop}(h: ∀z∈d,p z)(hx:p x): ∀z∈d.set i x,p z:=by
 intro z hz
 rcases DG hz with hz|rfl
 ·exact h z hz
 ·exact hx
theorem o6 (d:aa)(vars coefs:List Int)(rhs:Int)(h:SumFine d vars coefs):
  SpecM Tryz.prog 202 54 1 (d.map cD) [aq vars,aq coefs,.int .i64 rhs] ((mostW d vars coefs rhs).1.map cD) [.bool (mostW d vars coefs rhs).2.1,.bool (mostW d vars coefs rhs).2.2]:=by
 refine SpecM.body Tryz.func202 rfl rfl rfl (by simp[PV.flat]) fun w0 v0 Z1=> ?_
 have hends:=pa d vars coefs h.in_
 obtain⟨hlen,hvl,hvin,hck,hdom,hdl⟩:=h
 unfold mostW
 generalize endsW d vars coefs=es at*
 obtain⟨low,high,is⟩:=es
 simp only at hends⊢
 generalize hres:eL low rhs (vars.zip coefs) d false=res
 refine .B ?_
 refine .C hends ?_
 refine .B ?_
 refine T.K (T.ind (fun s:Nat×aa×Bool=>⟨[(0,.ref 0),(2,.val false (aq coefs)),(3,.val false (.int .i64 rhs)),(10,.val true (.int .i64 low)),(13,.val true (.bool s.2.2)),(29,.val false (aq vars)),(30,.val true (.int .i64 (vars.map cI).length)),(31,.val true (.int .i64 s.1))],[(0,some (.sl 54 1 true (s.2.1.map cD)))],1⟩)
  (fun s=>s.1≤vars.length∧eL low rhs ((vars.zip coefs).drop s.1) s.2.1 s.2.2=res∧s.2.1.length=d.length∧∀x∈s.2.1,Fine x) (fun s=>vars.length-s.1) (0,d,false) ⟨by simp,hres,rfl,hdom⟩ (fun _ _ h=>h) ?_)
 rintro⟨i,d1,ch⟩ ⟨hil,he,hl1,hf1⟩ ih
 simp only at hil he hl1 hf1
 dsimp only
 refine .B ?_
 refine T.cd rfl (fun h1=> ?_) (fun h1=> ?_)
 ·have h1:i<vars.length:=by simpa using h1
  have h2:i<coefs.length:=by omega
  have hv:=hvin _ (D5 h1)
  have hk:=hck _ (D5 h2)
  have hk2:=fT hk
  have hvd:vars[i].toNat<d1.length:=by omega
  have hx:=hf1 _ (ah hvd)
  have hrow:(d1.map cD)[vars[i].toNat]? =some (cD (domAt d1 vars[i])):=by simp[ao hvd]
  have hz:i<(vars.zip coefs).length:=by simp;omega
  rw[DD hz,FQ,eL]at he
  have hend:=jB (domAt d1 vars[i]) coefs[i] false hx.domB hk
  have hfl:coefs[i]≠0:=hk.1
  have hng:IntKind.i64.wrap (0-coefs[i])≠0:=by rw[ae (by omega) (by omega)];omega
  have hfine:=rx hx coefs[i] (gH low rhs (domAt d1 vars[i]) coefs[i])
  have hdc:=fun lo hi=>(gp (domAt d1 vars[i]) lo hi (by have:=hx.len;omega)).frz
  have hcw:cutW (domAt d1 vars[i]) coefs[i] (gH low rhs (domAt d1 vars[i]) coefs[i])=if 0<coefs[i]then domCut (domAt d1 vars[i]) (-1048576) (gB (gH low rhs (domAt d1 vars[i]) coefs[i]) coefs[i])else domCut (domAt d1 vars[i]) (wr (0-gB (gH low rhs (domAt d1 vars[i]) coefs[i]) (wr (0-coefs[i])))) 1048576:=rfl
  have hsame:=fun x hxl=>ee x (domAt d1 vars[i]) hxl
  generalize cutW (domAt d1 vars[i]) coefs[i] (gH low rhs (domAt d1 vars[i]) coefs[i])=cx at*
  unfold gH at hcw
  generalize endW (domAt d1 vars[i]) coefs[i] false=e1 at*
  generalize hvi:vars[i]=v at*
  generalize hki:coefs[i]=k at*
  generalize domAt d1 v=dv at*
  refine .B ?_
  refine J.i rfl rfl rfl rfl rfl rfl rfl rfl rfl (r:=cI v) (by omega) (by rw[←hvi];exact aL h1) rfl ?_
  refine .B ?_
  refine J.i rfl rfl rfl rfl rfl rfl rfl rfl rfl (r:=cI k) (by omega) (by rw[←hki];exact aL h2) rfl ?_
  refine .B ?_
  refine J.io rfl rfl rfl rfl rfl rfl rfl rfl rfl hv.1 (by simpa using hvd) rfl ?_
  refine J.lo rfl rfl rfl rfl rfl rfl (r:=cD dv) hrow rfl ?_
  refine .B ?_
  refine .C hend ?_
  refine .B ?_
  refine J.io rfl rfl rfl rfl rfl rfl rfl rfl rfl hv.1 (by simpa using hvd) rfl ?_
  refine J.lo rfl rfl rfl rfl rfl rfl (r:=cD dv) hrow rfl ?_
  repeat' first|refine J.e rfl rfl rfl rfl ?_|refine J.skip rfl rfl rfl ?_|refine J.bx rfl rfl rfl rfl rfl rfl ?_
  refine J.nil ?_
  refine T.mid ⟨[(0,.ref 0),(2,.val false (aq coefs)),(3,.val false (.int .i64 rhs)),(10,.val true (.int .i64 low)),(13,.val true (.bool ch)),(29,.val false (aq vars)),(30,.val true (.int .i64 (vars.map cI).length)),(31,.val true (.int .i64 i)),(15,.val true (.int .i64 v)),(20,.val true (dm cx))],[(0,some (.sl 54 1 true (d1.map cD)))],1⟩ ?_ ?_
  ·refine .B ?_
   refine T.cd rfl (fun h3=> ?_) (fun h3=> ?_)
   ·have h3:0<k:=h3
    rw[if_pos h3]at hcw
    refine .B ?_
    refine J.cc rfl rfl rfl rfl rfl (px _ k hfl) rfl rfl ?_
    refine J.cc rfl rfl rfl rfl rfl (hdc _ _) rfl rfl ?_
    rw[hcw]
    refine .B ?_
    exact⟨rfl,[0,2,3,10,13,29,30,31,15,20],[0],rfl,rfl⟩
   ·have h3: ¬0<k:=h3
    rw[if_neg h3]at hcw
    refine .B ?_
    refine J.cc rfl rfl rfl rfl rfl (px _ _ hng) rfl rfl ?_
    refine .B ?_
    refine J.cc rfl rfl rfl rfl rfl (hdc _ _) rfl rfl ?_
    rw[hcw]
    refine .B ?_
    exact⟨rfl,[0,2,3,10,13,29,30,31,15,20],[0],rfl,rfl⟩
  ·clear hcw
   refine .B ?_
   refine T.cd rfl (fun h4=> ?_) (fun h4=> ?_)
   ·have h4:cx=[]:=by simp at h4;exact h4
    rw[if_pos h4]at he
    subst he
    refine .B ?_
    exact⟨.v rfl rfl rfl (fun h=>by cases h) (.v rfl rfl rfl (fun h=>by cases h) .nil),_,rfl,rfl⟩
   ·have h4:cx≠[]:=fun e=>h4 (by rw[e];rfl)
    rw[if_neg h4]at he
    have hset:=ik (p:=Fine) (i:=v.toNat) hf1 hfine
    cases ch
    ·refine .B ?_
     refine J.io rfl rfl rfl rfl rfl rfl rfl rfl rfl hv.1 (by simpa using hvd) rfl ?_
     refine J.lo rfl rfl rfl rfl rfl rfl (r:=cD dv) hrow rfl ?_
     refine .B ?_
     refine .C (hsame cx (by have:=hfine.len;omega)) ?_
     refine .B ?_
     refine J.io rfl rfl rfl rfl rfl rfl rfl rfl rfl hv.1 (by simpa using hvd) rfl ?_
     refine J.w1 rfl rfl rfl rfl rfl rfl rfl rfl rfl rfl rfl (fun _=>rfl) hvd ?_
     refine .B ?_
     rw[aj (l:=vars.length) (by omega) (by omega)]
     exact T.K (ih (i+1,d1.set v.toNat cx,!decide (cx=dv)) ⟨by simp only;omega,he,by simp[hl1],hset⟩ (by simp only;omega))
    ·refine .B ?_
     refine J.io rfl rfl rfl rfl rfl rfl rfl rfl rfl hv.1 (by simpa using hvd) rfl ?_
     refine J.w1 rfl rfl rfl rfl rfl rfl rfl rfl rfl rfl rfl (fun _=>rfl) hvd ?_
     refine .B ?_
     rw[aj (l:=vars.length) (by omega) (by omega)]
     exact T.K (ih (i+1,d1.set v.toNat cx,true) ⟨by simp only;omega,he,by simp[hl1],hset⟩ (by simp only;omega))
 ·have h1:i=vars.length:=by simp at h1;omega
  subst h1
  rw[ED (by simp;omega),eL]at he
  subst he
  refine .B ?_
  exact⟨.v rfl rfl rfl (fun h=>by cases h) (.v rfl rfl rfl (fun h=>by cases h) .nil),_,rfl,rfl⟩
def f4 (i:Nat):Nat→List (List (Int×Int)×Int)→Int→Int
 |_,[],n=>n
 |k,t::ts,n=>f4 i (k+1) ts (if k=i then n else wr (n+(Co t.1 t.2).1))
def BV (x:List Int)(k rhs rest:Int):List Int:=x.filter fun v=>decide (wr (k*v)≤wr (rhs-rest))
def r7 (d:aa)(vars coefs:List Int)(rhs:Int)(i:Nat):List (Int×Int):=c6 (BV (vals (domAt d (vars.getD i 0))) (coefs.getD i 0) rhs (f4 i 0 (ac d vars coefs) 0))
def kD (d:aa)(vars coefs:List Int)(rhs:Int):Nat→aa
 |0=>d
 |n+1=>(kD d vars coefs rhs n).set (vars.getD n 0).toNat (r7 d vars coefs rhs n)
theorem aM {l:List Int}{i:Nat}(h:i<l.length):l.getD i 0=l[i]:=by simp[D0,D1 h]
def bM:List (Int×Int)→Int→Int→List (Int×Int)→Int×List (Int×Int)
 | [],lo,hi,out=>(lo,out)
 |y::b,lo,hi,out=>if y.2<lo∨hi<y.1 then bM b lo hi out else bM b (wr (y.2+1)) hi (if lo<y.1 then out++[(lo,wr (y.1-1))]else out)
def cA (b:List (Int×Int))(out:List (Int×Int))(x:Int×Int):List (Int×Int):=if(bM b x.1 x.2 out).1≤x.2 then(bM b x.1 x.2 out).2++[((bM b x.1 x.2 out).1,x.2)]else(bM b x.1 x.2 out).2
def d3 (a b:List (Int×Int)):List (Int×Int):=a.foldl (cA b) []
theorem kE (a b:List (Int×Int))(hb:b.length*8≤140737488355328)(hl:(a.length+1)*(b.length+1)*16≤140737488355328):Spec Tryz.prog 142 false [dm a,dm b] [.own 53 2 ((d3 a b).map cR)]:=by
 refine Spec.body Tryz.func142 rfl rfl rfl fun w0 Z0=> ?_
 have hal:a.length*8≤140737488355328:=by
  have:a.length+1≤(a.length+1)*(b.length+1):=F4 _ (by omega)
  omega
 refine .B ?_
 refine T.sub (Rel.own0 (s:=5) 53 2 rfl) ?_
 refine T.K (T.ind (fun s:Nat×List (Int×Int)=>⟨[(1,.val false (dm b)),(5,.ref 0),(10,.val false (dm a)),(11,.val true (.int .i64 (a.map cR).length)),(12,.val true (.int .i64 s.1))],[(0,some (.sl 53 2 true (s.2.map cR)))],1⟩)
  (fun s=>s.1≤a.length∧(a.drop s.1).foldl (cA b) s.2=d3 a b∧s.2.length≤s.1*(b.length+1)) (fun s=>a.length-s.1) (0,[]) ⟨by simp,rfl,by simp⟩ (fun _ _ h=>h) ?_)
 rintro⟨n,out⟩ ⟨hn,he,hlo⟩ ih
 simp only at hn he hlo
 dsimp only
 refine .B ?_
 refine T.cd rfl (fun h1=> ?_) (fun h1=> ?_)
 ·have h1:n<a.length:=by simpa using h1
  rw[DD h1,DH]at he
  have hmul:(n+1)*(b.length+1)≤(a.length+1)*(b.length+1):=Dl _ (by omega)
  have hmul2:(n+1)*(b.length+1)=n*(b.length+1)+(b.length+1):=by rw[Et,Nat.one_mul]
  have hr:(a.map cR)[((n:Nat):Int).toNat]? =some (cR a[n]):=aL h1
  generalize a[n]=x at*
  obtain⟨lo0,hi⟩:=x
  refine .B ?_
  refine .I (r:=cR (lo0,hi)) hr ?_
  refine .B ?_
  refine .L ?_
  refine .B ?_
  refine .W ?_
  refine .B ?_
  refine T.K (T.ind (fun s:Nat×Int×List (Int×Int)=>⟨[(1,.val false (dm b)),(5,.ref 0),(7,.optr 1 0 0 0),(10,.val false (dm a)),(11,.val true (.int .i64 (a.map cR).length)),(12,.val true (.int .i64 n)),(16,.val false (dm b)),(17,.val true (.int .i64 (b.map cR).length)),(18,.val true (.int .i64 s.1))],[(0,some (.sl 53 2 true (s.2.2.map cR))),(1,some (.box false (cR (s.2.1,hi))))],2⟩)
   (fun s=>s.1≤b.length∧bM (b.drop s.1) s.2.1 hi s.2.2=bM b lo0 hi out∧s.2.2.length≤out.length+s.1) (fun s=>b.length-s.1) (0,lo0,out) ⟨by simp,rfl,by simp⟩ (fun _ _ h=>h) ?_)
  rintro⟨m,lo,out2⟩ ⟨hm,he2,hlo2⟩ ih2
  simp only at hm he2 hlo2
  dsimp only
  refine .B ?_
  refine T.cd rfl (fun h2=> ?_) (fun h2=> ?_)
  ·have h2:m<b.length:=by simpa using h2
   rw[DD h2,bM]at he2
   have hr2:(b.map cR)[((m:Nat):Int).toNat]? =some (cR b[m]):=aL h2
   generalize b[m]=y at*
   obtain⟨y1,y2⟩:=y
   simp only at he2
   have skip:(y2<lo∨hi<y1)→bM (b.drop (m+1)) lo hi out2=bM b lo0 hi out:=fun h=>by rw[if_pos h]at he2;exact he2
   have keep: ¬(y2<lo∨hi<y1)→bM (b.drop (m+1)) (wr (y2+1)) hi (if lo<y1 then out2++[(lo,wr (y1-1))]else out2)=bM b lo0 hi out:=fun h=>by rw[if_neg h]at he2;exact he2
   refine .B ?_
   refine .I (r:=cR (y1,y2)) hr2 ?_
   refine .B ?_
   refine .L ?_
   refine .B ?_
   refine .W ?_
   refine .B ?_
   refine J.g rfl rfl rfl (fun h3=> ?_) (fun h3=> ?_)
   ·have h3:y2<lo:=h3
    refine .B ?_
    refine T.ct rfl ?_
    refine .B ?_
    rw[aj (l:=b.length) (by omega) (by omega)]
    exact T.K (ih2 (m+1,lo,out2) ⟨by simp only;omega,skip (.inl h3),by simp only;omega⟩ (by simp only;omega))
   ·have h3: ¬y2<lo:=h3
    refine .B ?_
    refine T.cd rfl (fun h4=> ?_) (fun h4=> ?_)
    ·have h4:hi<y1:=h4
     refine .B ?_
     rw[aj (l:=b.length) (by omega) (by omega)]
     exact T.K (ih2 (m+1,lo,out2) ⟨by simp only;omega,skip (.inr h4),by simp only;omega⟩ (by simp only;omega))
    ·have h4: ¬hi<y1:=h4
     have keep:=keep (fun h=>h.elim h3 h4)
     refine .B ?_
     refine T.cd rfl (fun h5=> ?_) (fun h5=> ?_)
     ·have h5:lo<y1:=h5
      rw[if_pos h5]at keep
      refine .B ?_
      refine .V ?_
      refine J.aR rfl rfl rfl rfl rfl rfl rfl rfl rfl rfl rfl rfl rfl rfl rfl rfl rfl rfl rfl (a:=lo) (b:=IntKind.i64.wrap (y1-1)) (by omega) ?_
      refine .B ?_
      refine .W ?_
      refine .B ?_
      rw[aj (l:=b.length) (by omega) (by omega)]
      exact T.K (ih2 (m+1,wr (y2+1),out2++[(lo,wr (y1-1))]) ⟨by simp only;omega,keep,by simp;omega⟩ (by simp only;omega))
     ·have h5: ¬lo<y1:=h5
      rw[if_neg h5]at keep
      refine .B ?_
      refine .W ?_
      refine .B ?_
      rw[aj (l:=b.length) (by omega) (by omega)]
      exact T.K (ih2 (m+1,wr (y2+1),out2) ⟨by simp only;omega,keep,by simp only;omega⟩ (by simp only;omega))
  ·have h2:m=b.length:=by simp at h2;omega
   subst h2
   rw[EA,bM]at he2
   clear ih2
   have hmo:cA b out (lo0,hi)=if lo≤hi then out2++[(lo,hi)]else out2:=by
    unfold cA
    simp only[←he2]
   rw[hmo]at he
   refine .B ?_
   refine T.cd rfl (fun h5=> ?_) (fun h5=> ?_)
   ·have h5:lo≤hi:=h5
    rw[if_pos h5]at he
    refine .B ?_
    refine .V ?_
    refine J.aR rfl rfl rfl rfl rfl rfl rfl rfl rfl rfl rfl rfl rfl rfl rfl rfl rfl rfl rfl (by omega) ?_
    refine J.sub (Rel.flat (o:=2) rfl su) ?_
    refine .B ?_
    rw[aj (l:=a.length) (by omega) (by omega)]
    exact T.K (ih (n+1,out2++[(lo,hi)]) ⟨by simp only;omega,he,by simp;omega⟩ (by simp only;omega))
   ·have h5: ¬lo≤hi:=h5
    rw[if_neg h5]at he
    refine .B ?_
    rw[aj (l:=a.length) (by omega) (by omega)]
    exact T.K (ih (n+1,out2) ⟨by simp only;omega,he,by simp only;omega⟩ (by simp only;omega))
 ·have h1:n=a.length:=by simp at h1;omega
  subst h1
  rw[EA,Gg]at he
  subst he
  refine .B ?_
  exact⟨_,.o rfl rfl rfl (fun _=> .inl rfl) (by simp) .nil⟩
def de:Nat→List (List (Int×Int)×Int)→Int→Int→Option (Int×Int)
 |_,[],op,s=>some (op,s)
 |i,t::ts,op,s=>if 1<fG t.1 then(if 0≤op then none else de (i+1) ts i s)else de (i+1) ts op (wr (s+(endW t.1 t.2 false).1))
def otherW (d:aa)(c:Con):aa×Bool:=
 match de 0 (ac d c.vars c.coefs) (-1) 0 with
 |none=>(d,true)
 |some (op,s)=>
  if op<0 then(d,decide (s≠c.rhs))else
  if(wr (c.rhs-s)).tmod (coefAt c op.toNat)=0 then
   (d.set (varAt c op.toNat).toNat (d3 (domAt d (varAt c op.toNat)) [(wr ((wr (c.rhs-s)).tdiv (coefAt c op.toNat)),wr ((wr (c.rhs-s)).tdiv (coefAt c op.toNat)))]),
    decide (0<(d3 (domAt d (varAt c op.toNat)) [(wr ((wr (c.rhs-s)).tdiv (coefAt c op.toNat)),wr ((wr (c.rhs-s)).tdiv (coefAt c op.toNat)))]).length))
  else(d,decide (0<(domAt d (varAt c op.toNat)).length))
theorem kC: ∀(ts:List (List (Int×Int)×Int)) (i:Nat) (op s op' s':Int) (n:Nat),op<n→i+ts.length≤n→de i ts op s=some (op',s')→op'<n
 | [],i,op,s,op',s',n,h,_,e=>by
  simp only[de,D3,Prod.mk.injEq]at e
  omega
 |t::ts,i,op,s,op',s',n,h,hn,e=>by
  simp only[DK]at hn
  rw[de]at e
  split at e
  ·split at e
   ·cases e
   ·exact kC ts (i+1) i s op' s' n (by omega) (by omega) e
  ·exact kC ts (i+1) op _ op' s' n h (by omega) e
theorem uo (d:aa)(c:Con)(h:SumFine d c.vars c.coefs)(hsm: ∀x∈d,x.length*64+1048576≤140737488355328):
  SpecM Tryz.prog 200 54 1 (d.map cD) [.agg (cC c)] ((otherW d c).1.map cD) [.bool (otherW d c).2]:=by
 refine SpecM.body Tryz.func200 rfl rfl rfl (by simp[PV.flat]) fun w0 v0 Z1=> ?_
 obtain⟨hlen,hvl,hvin,hck,hdom,hdl⟩:=h
 have hin:=kC (ac d c.vars c.coefs) 0 (-1) 0
 generalize hgo:de 0 (ac d c.vars c.coefs) (-1) 0=go at hin
 refine .B ?_
 refine T.K (T.ind (fun s:Nat×Int×Int=>⟨[(0,.ref 0),(3,.optr 1 0 0 0),(5,.val true (.int .i64 s.2.1)),(6,.val true (.int .i64 s.2.2)),(15,.val false (aq c.vars)),(16,.val true (.int .i64 (c.vars.map cI).length)),(17,.val true (.int .i64 s.1))],[(0,some (.sl 54 1 true (d.map cD))),(1,some (.box false (cC c)))],2⟩)
  (fun s=>s.1≤c.vars.length∧de s.1 ((ac d c.vars c.coefs).drop s.1) s.2.1 s.2.2=go) (fun s=>c.vars.length-s.1) (0,-1,0) ⟨by simp,hgo⟩ (fun _ _ h=>h) ?_)
 rintro⟨i,op,s⟩ ⟨hil,he⟩ ih
 simp only at hil he
 dsimp only
 refine .B ?_
 refine T.cd rfl (fun h1=> ?_) (fun h1=> ?_)
 ·have h1:i<c.vars.length:=by simpa using h1
  have h2:i<c.coefs.length:=by omega
  have hv:=hvin _ (D5 h1)
  have hk:=hck _ (D5 h2)
  have hx:=hdom _ (ah hv.2)
  have hrow:(d.map cD)[c.vars[i].toNat]? =some (cD (domAt d c.vars[i])):=by simp[ao hv.2]
  rw[oc h1 h2,de]at he
  refine .B ?_
  refine .I (r:=cI c.vars[i]) (aL h1) ?_
  refine .B ?_
  refine J.io rfl rfl rfl rfl rfl rfl rfl rfl rfl hv.1 (by simpa using hv.2) rfl ?_
  refine J.lo rfl rfl rfl rfl rfl rfl (r:=cD (domAt d c.vars[i])) hrow rfl ?_
  refine .C (gG (domAt d c.vars[i]) (by have:=hx.len;omega)) ?_
  refine .B ?_
  refine T.cd rfl (fun h3=> ?_) (fun h3=> ?_)
  ·have h3:1<fG (domAt d c.vars[i]):=h3
   rw[if_pos h3]at he
   refine .B ?_
   refine T.cd rfl (fun h4=> ?_) (fun h4=> ?_)
   ·have h4:0≤op:=h4
    rw[if_pos h4]at he
    subst he
    have ho:otherW d c=(d,true):=by unfold otherW;rw[hgo]
    rw[ho]
    refine .B ?_
    exact⟨.v rfl rfl rfl (fun h=>by cases h) .nil,_,rfl,rfl⟩
   ·have h4: ¬0≤op:=h4
    rw[if_neg h4]at he
    refine .B ?_
    rw[aj (l:=c.vars.length) (by omega) (by omega)]
    exact T.K (ih (i+1,i,s) ⟨by simp only;omega,he⟩ (by simp only;omega))
  ·have h3: ¬1<fG (domAt d c.vars[i]):=h3
   rw[if_neg h3]at he
   refine .B ?_
   refine J.io rfl rfl rfl rfl rfl rfl rfl rfl rfl hv.1 (by simpa using hv.2) rfl ?_
   refine J.lo rfl rfl rfl rfl rfl rfl (r:=cD (domAt d c.vars[i])) hrow rfl ?_
   refine .B ?_
   refine .I (r:=cI c.coefs[i]) (aL h2) ?_
   refine .B ?_
   refine J.cc rfl rfl rfl rfl rfl (jB _ _ false hx.domB hk) rfl rfl ?_
   refine .B ?_
   rw[aj (l:=c.vars.length) (by omega) (by omega)]
   exact T.K (ih (i+1,op,wr (s+(endW (domAt d c.vars[i]) c.coefs[i] false).1)) ⟨by simp only;omega,he⟩ (by simp only;omega))
 ·have h1:i=c.vars.length:=by simp at h1;omega
  subst h1
  rw[qk hlen,de]at he
  subst he
  clear ih
  have hop:=hin op s c.vars.length (by omega) (by simp[ac];omega) rfl
  unfold otherW
  rw[hgo]
  simp only
  refine .B ?_
  refine T.cd rfl (fun h3=> ?_) (fun h3=> ?_)
  ·have h3:op<0:=h3
   rw[if_pos h3]
   refine .B ?_
   exact⟨.v rfl rfl rfl (fun h=>by cases h) .nil,_,rfl,rfl⟩
  ·have h3: ¬op<0:=h3
   rw[if_neg h3]
   obtain⟨j,rfl⟩: ∃j:Nat,op=j:=⟨op.toNat,by omega⟩
   rw[DI]
   have hj:j<c.vars.length:=by omega
   have hv:=hvin _ (aK hj)
   have hk:=hck _ (show coefAt c j∈c.coefs by unfold coefAt;rw[aM (by omega)];exact D5 _)
   have hx:=hdom _ (ah hv.2)
   have hrow:(d.map cD)[(varAt c j).toNat]? =some (cD (domAt d (varAt c j))):=by simp[ao hv.2]
   have hkr:=iH (c:=c) (k:=j) (by omega)
   have hvr:=eF (c:=c) (k:=j) hj
   have hk0:=hk.1
   have hln:=hx.len
   have hls:=hsm _ (ah hv.2)
   have hm:=fun x=>(kE (domAt d (varAt c j)) [(x,x)] (by simp) (by simp only[E7];omega)).frz
   generalize varAt c j=v at*
   generalize coefAt c j=k at*
   generalize domAt d v=dv at*
   refine .B ?_
   refine .I (r:=cI v) hvr ?_
   refine .B ?_
   refine .I (r:=cI k) hkr ?_
   refine .B ?_
   refine J.rm rfl rfl rfl rfl rfl rfl hk0 ?_
   refine .B ?_
   refine T.cd rfl (fun h4=> ?_) (fun h4=> ?_)
   ·have h4:(wr (c.rhs-s)).tmod k=0:=h4
    rw[if_pos h4]
    refine .B ?_
    refine J.qu rfl rfl rfl rfl rfl rfl hk0 ?_
    refine .B ?_
    refine J.io rfl rfl rfl rfl rfl rfl rfl rfl rfl hv.1 (by simpa using hv.2) rfl ?_
    refine J.lo rfl rfl rfl rfl rfl rfl (r:=cD dv) hrow rfl ?_
    refine .B ?_
    refine .V ?_
    refine J.cc rfl rfl rfl rfl rfl (hm _) rfl rfl ?_
    refine J.io rfl rfl rfl rfl rfl rfl rfl rfl rfl hv.1 (by simpa using hv.2) rfl ?_
    refine J.w1 rfl rfl rfl rfl rfl rfl rfl rfl rfl rfl rfl (fun _=>rfl) hv.2 ?_
    refine .B ?_
    refine J.io rfl rfl rfl rfl rfl rfl rfl rfl rfl hv.1 (by simpa using hv.2) rfl ?_
    refine J.lo rfl rfl rfl rfl rfl rfl (r:=cD (d3 dv [(wr ((wr (c.rhs-s)).tdiv k),wr ((wr (c.rhs-s)).tdiv k))])) (by rw[D8,DX hv.2];rfl) rfl ?_
    refine .B ?_
    exact⟨.v rfl rfl (by simp only[D6];congr 1;simp) (fun h=>by cases h) .nil,_,rfl,rfl⟩
   ·have h4: ¬(wr (c.rhs-s)).tmod k=0:=h4
    rw[if_neg h4]
    refine .B ?_
    refine J.io rfl rfl rfl rfl rfl rfl rfl rfl rfl hv.1 (by simpa using hv.2) rfl ?_
    refine J.lo rfl rfl rfl rfl rfl rfl (r:=cD dv) hrow rfl ?_
    refine .B ?_
    exact⟨.v rfl rfl (by simp only[D6];congr 1;simp) (fun h=>by cases h) .nil,_,rfl,rfl⟩
theorem ni (low rhs:Int): ∀(l:List (Int×Int)) (d:aa) (ch:Bool),(∀p∈l,0≤p.1∧p.1.toNat<d.length)→(∀x∈d,Fine x)→(eL low rhs l d ch).1.length=d.length∧∀x∈(eL low rhs l d ch).1,Fine x
 | [],d,ch,_,hf=>⟨rfl,hf⟩
 |(v,k)::l,d,ch,hv,hf=>by
  rw[eL]
  split
  ·exact⟨rfl,hf⟩
  ·have hx:=hf _ (ah (hv _ (.head _)).2)
   obtain⟨h1,h2⟩:=ni low rhs l (d.set v.toNat (cutW (domAt d v) k (gH low rhs (domAt d v) k))) (ch|| !decide (cutW (domAt d v) k (gH low rhs (domAt d v) k)=domAt d v)) (fun p hp=>by rw[Dk];exact hv p (.tail _ hp)) (ik hf (rx hx k _))
   exact⟨by rw[h1,Dk],h2⟩
theorem SumFine.most {d:aa}{vars coefs:List Int}(h:SumFine d vars coefs)(rhs:Int):SumFine (mostW d vars coefs rhs).1 vars coefs:=by
 obtain⟨h1,h2⟩:=ni (endsW d vars coefs).1 rhs (vars.zip coefs) d false (fun p hp=>h.vin _ (DP hp).1) h.dom
 have h1:(mostW d vars coefs rhs).1.length=d.length:=h1
 exact⟨h.len,h.vl,fun v hv=>by rw[h1];exact h.vin v hv,h.ck,h2,by rw[h1];exact h.dl⟩
theorem c8 {k:Int}(h:CoefOk k):wr (0-k)= -k∧CoefOk (wr (0-k)):=by
 have:=fT h
 have e:wr (0-k)= -k:=by rw[wr,ae (by omega) (by omega)];omega
 refine⟨e,?_⟩
 rw[e]
 unfold CoefOk aG at*
 omega
theorem SumFine.back {d:aa}{vars coefs:List Int}(h:SumFine d vars coefs):SumFine d vars (aA coefs):=
 ⟨by simp[aA,h.len],h.vl,h.vin,fun k hk=>by
  obtain⟨k0,hk0,rfl⟩:=List.mem_map.1 hk
  exact(c8 (h.ck _ hk0)).2,h.dom,h.dl⟩
def e7 (c:Con)(out:aa):Option aa ⊕ aa:=
 if(mostW out c.vars c.coefs c.rhs).2.2=false then .inl none else
 if c.op=0 then .inl (some (mostW out c.vars c.coefs c.rhs).1)else
 if(mostW (mostW out c.vars c.coefs c.rhs).1 c.vars (aA c.coefs) (wr (0-c.rhs))).2.2=false then .inl none else
 if(mostW out c.vars c.coefs c.rhs).2.1=false∧(mostW (mostW out c.vars c.coefs c.rhs).1 c.vars (aA c.coefs) (wr (0-c.rhs))).2.1=false then .inl (some (mostW (mostW out c.vars c.coefs c.rhs).1 c.vars (aA c.coefs) (wr (0-c.rhs))).1)
 else .inr (mostW (mostW out c.vars c.coefs c.rhs).1 c.vars (aA c.coefs) (wr (0-c.rhs))).1
def LinAns (d:aa)(c:Con)(R:Option aa)(N:Nat):Prop:=
 if []∈d then R=none else if c.op=2 then R=(if(otherW d c).2 then some (otherW d c).1 else none)else cE (e7 c) N d=some R
theorem um (d:aa)(c:Con)(h:SumFine d c.vars c.coefs)(hsm: ∀x∈d,x.length*64+1048576≤140737488355328)(R:Option aa)(N:Nat)(hR:LinAns d c R N):
  Spec Tryz.prog 139 false [aJ d,.agg (cC c)] (aX R):=by
 refine Spec.body Tryz.func139 rfl rfl rfl fun w0 Z0=> ?_
 have hown:=yQ d h.dl (fun x hx=>by have:=(h.dom x hx).len;omega)
 unfold LinAns at hR
 refine .B ?_
 refine T.scope (fun _ _ h=>h) ?_
 refine .B ?_
 refine .C hown ?_
 refine .B ?_
 by_cases hm: []∈d
 ·rw[if_pos hm]at hR
  subst hR
  rw[if_pos hm,decide_eq_true hm]
  refine T.ct rfl ?_
  refine .B ?_
  exact⟨_,.ownN rfl (.v rfl rfl rfl (fun _=>rfl) .nil)⟩
 ·rw[if_neg hm]at hR
  rw[if_neg hm,decide_eq_false hm]
  refine T.cf rfl ?_
  refine .B ?_
  refine T.cd rfl (fun h1=> ?_) (fun h1=> ?_)
  ·have h1:c.op=2:=h1
   rw[if_pos h1]at hR
   refine .B ?_
   have ho:=uo d c h hsm
   generalize otherW d c=ow at*
   obtain⟨d2,b⟩:=ow
   refine J.cm rfl rfl rfl rfl rfl rfl rfl rfl rfl ho rfl rfl rfl ?_
   refine .B ?_
   cases b
   ·subst hR
    refine T.ct rfl ?_
    refine .B ?_
    exact⟨_,.ownN rfl (.v rfl rfl rfl (fun _=>rfl) .nil)⟩
   ·subst hR
    refine T.cf rfl ?_
    refine .B ?_
    exact⟨_,.o rfl rfl rfl (fun _=> .inl rfl) (by simp) (.v rfl rfl rfl (fun _=>rfl) .nil)⟩
  ·have h1: ¬c.op=2:=h1
   rw[if_neg h1]at hR
   refine .B ?_
   refine .C (lC c.coefs (by have:=h.vl;have:=h.len;omega)) ?_
   refine .B ?_
   refine T.K (T.ind (fun s:Nat×aa=>⟨[(3,.optr 0 0 0 0),(6,.ref 1),(8,.ref 2)],[(0,some (.box false (cC c))),(1,some (.sl 54 1 true (s.2.map cD))),(2,some (.sl 3 1 true ((aA c.coefs).map cI)))],3⟩)
    (fun s=>cE (e7 c) s.1 s.2=some R∧SumFine s.2 c.vars c.coefs) (fun s=>s.1) (N,d) ⟨hR,h⟩ (fun _ _ h=>h) ?_)
   rintro⟨m,out⟩ ⟨hR,hs⟩ ih
   simp only at hR hs
   dsimp only
   have hm1:=o6 out c.vars c.coefs c.rhs hs
   have hs1:=hs.most c.rhs
   have hm2:=o6 (mostW out c.vars c.coefs c.rhs).1 c.vars (aA c.coefs) (wr (0-c.rhs)) hs1.back
   have hs2:=hs1.back.most (wr (0-c.rhs))
   have hs3:SumFine (mostW (mostW out c.vars c.coefs c.rhs).1 c.vars (aA c.coefs) (wr (0-c.rhs))).1 c.vars c.coefs:=⟨hs.len,hs2.vl,hs2.vin,hs.ck,hs2.dom,hs2.dl⟩
   have hst:e7 c out=e7 c out:=rfl
   conv at hst=>rhs;unfold e7
   generalize mostW (mostW out c.vars c.coefs c.rhs).1 c.vars (aA c.coefs) (wr (0-c.rhs))=m2 at*
   generalize mostW out c.vars c.coefs c.rhs=m1 at*
   obtain⟨d1,ch1,ok1⟩:=m1
   obtain⟨d2,ch2,ok2⟩:=m2
   simp only at hm1 hm2 hst hs1 hs3
   refine .B ?_
   refine J.cm rfl rfl rfl rfl rfl rfl rfl rfl rfl hm1 rfl rfl rfl ?_
   refine .B ?_
   cases ok1
   ·rw[if_pos rfl]at hst
    obtain rfl:=bf hR hst
    refine T.ct rfl ?_
    refine .B ?_
    exact⟨_,.ownN rfl (.v rfl rfl rfl (fun _=>rfl) .nil)⟩
   ·rw[if_neg (by decide)]at hst
    refine T.cf rfl ?_
    refine .B ?_
    refine T.cd rfl (fun h2=> ?_) (fun h2=> ?_)
    ·have h2:c.op=0:=h2
     rw[if_pos h2]at hst
     obtain rfl:=bf hR hst
     refine .B ?_
     exact⟨_,.o rfl rfl rfl (fun _=> .inl rfl) (by simp) (.v rfl rfl rfl (fun _=>rfl) .nil)⟩
    ·have h2: ¬c.op=0:=h2
     rw[if_neg h2]at hst
     refine .B ?_
     refine J.cm rfl rfl rfl rfl rfl rfl rfl rfl rfl hm2 rfl rfl rfl ?_
     refine .B ?_
     cases ok2
     ·rw[if_pos rfl]at hst
      obtain rfl:=bf hR hst
      refine T.ct rfl ?_
      refine .B ?_
      exact⟨_,.ownN rfl (.v rfl rfl rfl (fun _=>rfl) .nil)⟩
     ·rw[if_neg (by decide)]at hst
      refine T.cf rfl ?_
      refine .B ?_
      cases ch1
      ·cases ch2
       ·rw[if_pos ⟨rfl,rfl⟩]at hst
        obtain rfl:=bf hR hst
        refine .B ?_
        refine T.ct rfl ?_
        refine .B ?_
        exact⟨_,.o rfl rfl rfl (fun _=> .inl rfl) (by simp) (.v rfl rfl rfl (fun _=>rfl) .nil)⟩
       ·rw[if_neg (by simp)]at hst
        obtain⟨m',hlt,hR'⟩:=gQ hR hst
        refine .B ?_
        refine T.cf rfl ?_
        refine .B ?_
        exact T.K (ih (m',d2) ⟨hR',hs3⟩ hlt)
      ·rw[if_neg (by simp)]at hst
       obtain⟨m',hlt,hR'⟩:=gQ hR hst
       refine .B ?_
       refine T.cf rfl ?_
       refine .B ?_
       exact T.K (ih (m',d2) ⟨hR',hs3⟩ hlt)
def hd0 (l:List Int):Int:=l.getD 0 0
def av:Nat→List (List (Int×Int)×Int)→Nat→Int→Nat→Nat×Int×Nat
 |_,[],m,s,a=>(m,s,a)
 |i,t::ts,m,s,a=>if 1<(vals t.1).length then av (i+1) ts (m+1) s i else av (i+1) ts m (wr (s+wr (t.2*hd0 (vals t.1)))) a
def bT (d:aa)(c:Con):aa:=
 let r:=av 0 (ac d c.vars c.coefs) 0 0 0
 if 1<r.1 then d else
 if r.1=0 then(if r.2.1=c.rhs then d.set (varAt c 0).toNat []else d)else
 d.set (varAt c r.2.2).toNat (c6 ((vals (domAt d (varAt c r.2.2))).filter fun v=>decide (wr (r.2.1+wr (coefAt c r.2.2*v))≠c.rhs)))
theorem cN: ∀(ts:List (List (Int×Int)×Int)) (i m a:Nat) (s:Int) (n:Nat),a<n→i+ts.length≤n→m≤i→(av i ts m s a).2.2<n∧(av i ts m s a).1≤i+ts.length
 | [],i,m,a,s,n,h,_,hm=>by simp[av];omega
 |t::ts,i,m,a,s,n,h,hn,hm=>by
  simp only[DK]at hn⊢
  rw[av]
  split
  ·have:=cN ts (i+1) (m+1) i s n (by omega) (by omega) (by omega)
   omega
  ·have:=cN ts (i+1) m a (wr (s+wr (t.2*hd0 (vals t.1)))) n h (by omega) (by omega)
   omega
def ug (d:aa)(c:Con):aa:=kD d c.vars c.coefs c.rhs c.vars.length
def xB (d:aa)(c:Con):aa:=kD d c.vars (aA c.coefs) (wr (0-c.rhs)) c.vars.length
def xo (c:Con)(out:aa):Option aa ⊕ aa:=
 if c.op=1∧[]∉out then
  (if []∈xB out c then .inl none else if ug (xB out c) c=out then .inl (some out)else .inr (ug (xB out c) c))
 else .inl (if []∈out then none else some out)
def lZ (d:aa)(c:Con)(R:Option aa)(N:Nat):Prop:=
 if []∈d then R=none else if c.op=2 then R=(if []∈bT d c then none else some (bT d c))else cE (xo c) N (ug d c)=some R
def soW (es:Int×Int×Bool)(c:Con):Bool:=
 if es.2.2=false then false else
 if c.op=0 then decide (es.2.1≤c.rhs)else
 if c.op=1 then decide (es.1=c.rhs)&&decide (es.2.1=c.rhs)else
 decide (c.rhs<es.1)||decide (es.2.1<c.rhs)
theorem uj (d:aa)(c:Con)(h:SumIn d c.vars c.coefs):Spec Tryz.prog 230 false [aJ d,.agg (cC c)] [.val (.bool (soW (endsW d c.vars c.coefs) c))]:=by
 refine Spec.body Tryz.func230 rfl rfl rfl fun w0 Z0=> ?_
 have he:=pa d c.vars c.coefs h
 generalize endsW d c.vars c.coefs=es at*
 obtain⟨lo,hi,b⟩:=es
 unfold soW
 simp only
 refine .B ?_
 refine .C he ?_
 cases b
 ·refine .B ?_
  refine T.ct rfl ?_
  refine .B ?_
  exact r1
 ·rw[if_neg (by decide)]
  refine .B ?_
  refine T.cf rfl ?_
  refine .B ?_
  refine T.cd rfl (fun h1=> ?_) (fun h1=> ?_)
  ·have h1:c.op=0:=h1
   rw[if_pos h1]
   refine .B ?_
   exact r1
  ·have h1: ¬c.op=0:=h1
   rw[if_neg h1]
   refine .B ?_
   refine T.cd rfl (fun h2=> ?_) (fun h2=> ?_)
   ·have h2:c.op=1:=h2
    rw[if_pos h2]
    refine .B ?_
    refine J.g rfl rfl rfl (fun h3=> ?_) (fun h3=> ?_)
    ·have h3:lo=c.rhs:=h3
     rw[decide_eq_true h3]
     refine .B ?_
     exact⟨_,.v rfl rfl (by simp) (fun _=>rfl) .nil⟩
    ·have h3: ¬lo=c.rhs:=h3
     rw[decide_eq_false h3]
     refine .B ?_
     exact r1
   ·have h2: ¬c.op=1:=h2
    rw[if_neg h2]
    refine .B ?_
    refine J.g rfl rfl rfl (fun h3=> ?_) (fun h3=> ?_)
    ·have h3:c.rhs<lo:=h3
     rw[decide_eq_true h3]
     refine .B ?_
     exact r1
    ·have h3: ¬c.rhs<lo:=h3
     rw[decide_eq_false h3]
     refine .B ?_
     exact⟨_,.v rfl rfl (by simp) (fun _=>rfl) .nil⟩
def bQ (c:Con):Con:=
 if c.op=0 then { c with coefs:=aA c.coefs,rhs:=wr (wr (0-c.rhs)-1) } else
 if c.op=1 then { c with op:=2 } else
 if c.op=2 then { c with op:=1 } else c
theorem qS (c:Con)(hc:ConB c):Spec Tryz.prog 194 true [.agg (cC c)] [.val (.agg (cC (bQ c)))]:=by
 refine Spec.body Tryz.func194 rfl rfl rfl fun w0 Z0=> ?_
 obtain⟨kind,vars,coefs,op,rhs,rows,b⟩:=c
 obtain⟨h1,h2,h3,h4⟩:=hc
 simp only at h1 h2 h3 h4
 unfold bQ
 simp only
 have hcv:=(dS vars (by omega)).frz
 have hcc:=(dS coefs h2).frz
 have htc:=(lC coefs h2).frz
 refine .B ?_
 refine .L ?_
 refine .B ?_
 refine .C hcv ?_
 refine .B ?_
 refine .W ?_
 refine .B ?_
 refine T.cd rfl (fun h5=> ?_) (fun h5=> ?_)
 ·have h5:op=0:=h5
  rw[if_pos h5]
  refine T.seq ?_
  refine T.K (?_:T _ _ ⟨[(1,.optr 0 0 0 0),(2,.optr 1 0 0 0)],[(0,some (.box false (cC ⟨kind,vars,coefs,op,rhs,rows,b⟩))),(1,some (.box true (cC ⟨0,[],[],0,0,[],0⟩)))],2⟩ _)
  refine T.rdw 11 rfl (by kernel_rfl) rfl ?_
  refine .B ?_
  refine .C htc ?_
  refine .B ?_
  refine J.wd rfl rfl rfl rfl rfl rfl rfl rfl rfl rfl ?_
  refine .B ?_
  refine J.wd rfl rfl rfl rfl rfl rfl rfl rfl rfl rfl ?_
  refine J.nil ?_
  refine⟨rfl,?_⟩
  refine .B ?_
  refine .W ?_
  refine .B ?_
  exact⟨_,.c rfl rfl rfl rfl (fun h=>by cases h) .nil⟩
 ·have h5: ¬op=0:=h5
  rw[if_neg h5]
  refine .B ?_
  refine T.cd rfl (fun h6=> ?_) (fun h6=> ?_)
  ·have h6:op=1:=h6
   rw[if_pos h6]
   refine .B ?_
   refine .W ?_
   refine .B ?_
   refine .C hcc ?_
   refine .B ?_
   refine .W ?_
   refine .B ?_
   refine .W ?_
   refine .B ?_
   exact⟨_,.c rfl rfl rfl rfl (fun h=>by cases h) .nil⟩
  ·have h6: ¬op=1:=h6
   rw[if_neg h6]
   refine .B ?_
   refine T.cd rfl (fun h7=> ?_) (fun h7=> ?_)
   ·have h7:op=2:=h7
    rw[if_pos h7]
    refine .B ?_
    refine .W ?_
    refine .B ?_
    refine .C hcc ?_
    refine .B ?_
    refine .W ?_
    refine .B ?_
    refine .W ?_
    refine .B ?_
    exact⟨_,.c rfl rfl rfl rfl (fun h=>by cases h) .nil⟩
   ·have h7: ¬op=2:=h7
    rw[if_neg h7]
    refine .B ?_
    refine .C hcc ?_
    refine .B ?_
    refine .W ?_
    refine .B ?_
    refine .W ?_
    refine .B ?_
    exact⟨_,.c rfl rfl rfl rfl (fun h=>by cases h) .nil⟩
theorem Bl {d:aa}{c:Con}(h:SumIn d c.vars c.coefs):SumIn d (bQ c).vars (bQ c).coefs:=by
 unfold bQ
 split
 ·obtain⟨a1,a2,a3,a4,a5,a6⟩:=h
  exact⟨by simp[aA,a1],a2,a3,fun k hk=>by
   obtain⟨k0,hk0,rfl⟩:=List.mem_map.1 hk
   exact(c8 (a4 _ hk0)).2,a5,a6⟩
 ·split
  ·exact h
  ·split<;>exact h
theorem uv (d:aa)(c:Con)(hc:ConB c)(h:SumIn d c.vars c.coefs):Spec Tryz.prog 193 false [aJ d,.agg (cC c)]
  [.val (.bool (soW (endsW d c.vars c.coefs) c)),.val (.bool (soW (endsW d c.vars c.coefs) c||soW (endsW d (bQ c).vars (bQ c).coefs) (bQ c)))]:=by
 refine Spec.body Tryz.func193 rfl rfl rfl fun w0 Z0=> ?_
 have h1:=uj d c h
 have h2:=uj d (bQ c) (Bl h)
 have hn:=qS c hc
 generalize soW (endsW d c.vars c.coefs) c=b1 at*
 generalize soW (endsW d (bQ c).vars (bQ c).coefs) (bQ c)=b2 at*
 refine .B ?_
 refine .C h1 ?_
 cases b1
 ·refine J.nil ?_
  refine T.cf rfl ?_
  refine .B ?_
  refine .C hn ?_
  refine .C h2 ?_
  refine .B ?_
  exact⟨_,.v rfl rfl rfl (fun _=>rfl) (.v rfl rfl (by simp) (fun _=>rfl) .nil)⟩
 ·refine J.nil ?_
  refine T.ct rfl ?_
  refine .B ?_
  exact r2
theorem gg (a b:List (List Int))(hl:a.length*8≤140737488355328)(hx: ∀x∈a,x.length*8≤140737488355328):Spec Tryz.prog 16 false [aZ a,aZ b] [.val (.bool (decide (a=b)))]:=by
 refine Spec.body Tryz.func16 rfl rfl rfl fun w0 Z0=> ?_
 refine .B ?_
 refine T.cd rfl (fun h=> ?_) (fun h=> ?_)
 ·refine .B ?_
  refine⟨_,.v rfl rfl ?_ (fun _=>rfl) .nil⟩
  rw[decide_eq_false]
  intro e
  subst e
  exact h rfl
 ·have h:a.length=b.length:=by
   have h: ¬(((a.map cL).length:Int)≠(b.map cL).length):=h
   simp at h;omega
  refine .B ?_
  refine T.K (T.ind (fun i:Nat=>⟨[(0,.val false (aZ a)),(1,.val false (aZ b)),(5,.val true (.int .i64 i))],[],0⟩) (fun i=>i≤a.length∧a.take i=b.take i) (fun i=>a.length-i) 0 (by simp) (fun _ _ h=>h) ?_)
  rintro i ⟨hi,ht⟩ ih
  refine .B ?_
  refine T.cd rfl (fun h1=> ?_) (fun h1=> ?_)
  ·have h1:i<a.length:=by simpa using h1
   have h2:i<b.length:=by omega
   refine .B ?_
   refine .I (r:=cL a[i]) (aL h1) ?_
   refine .B ?_
   refine .I (r:=cL b[i]) (aL h2) ?_
   refine .B ?_
   refine J.cc rfl rfl rfl rfl rfl (jz a[i] b[i] (hx _ (D5 h1))) rfl rfl ?_
   refine .B ?_
   by_cases e:a[i]=b[i]
   ·rw[decide_eq_true e]
    refine T.cf rfl ?_
    refine .B ?_
    rw[aj (l:=a.length) (by omega) (by omega)]
    exact T.K (ih (i+1) ⟨by omega,l9 ht h1 h2 e⟩ (by omega))
   ·rw[decide_eq_false e]
    refine T.ct rfl ?_
    refine .B ?_
    refine⟨_,.v rfl rfl ?_ (fun _=>rfl) .nil⟩
    rw[decide_eq_false]
    intro e2
    subst e2
    exact e rfl
  ·have h1:i=a.length:=by simp at h1;omega
   subst h1
   refine .B ?_
   refine⟨_,.v rfl rfl ?_ (fun _=>rfl) .nil⟩
   rw[DY,h,DY]at ht
   rw[decide_eq_true ht]
theorem ri (d:aa)(hl:d.length*24≤140737488355328)(hx: ∀x∈d,x.length*16≤140737488355328):Spec Tryz.prog 191 false [aJ d] [.own 54 1 ((if []∈d then []else d).map cD),.val (.bool (!decide ([]∈d)))]:=by
 refine Spec.body Tryz.func191 rfl rfl rfl fun w0 Z0=> ?_
 refine .B ?_
 refine T.sub (Rel.own0 (s:=4) 54 1 rfl) ?_
 refine T.K (T.listI d (fun pre=>[]∉pre) (fun n pre post=>⟨[(4,.ref 0),(7,.val false (aJ d)),(8,.val true (.int .i64 (d.map cD).length)),(9,.val true (.int .i64 n))],[(0,some (.sl 54 1 true (pre.map cD)))],1⟩) (fun _ _ h=>h) (by simp) ?_ ?_)
 ·rintro n pre x post h hn hi ih
  have hlt:=bY h hn
  have hxl:=hx x (by rw[h];simp)
  refine .B ?_
  refine T.ct2 rfl (bX h hn) ?_
  refine .B ?_
  refine .I (r:=cD x) (aS h hn) ?_
  refine .B ?_
  refine T.cd rfl (fun h1=> ?_) (fun h1=> ?_)
  ·have hx:x=[]:=by simp at h1;exact h1
   have hm: []∈d:=by rw[h,hx];simp
   rw[if_pos hm,decide_eq_true hm]
   refine .B ?_
   exact⟨_,.ownN rfl (.v rfl rfl rfl (fun _=>rfl) .nil)⟩
  ·have hx:x≠[]:=fun e=>h1 (by rw[e];rfl)
   refine .B ?_
   refine .C (bS x (by omega)).frz ?_
   refine .B ?_
   refine .V ?_
   refine .B ?_
   refine J.aD rfl rfl rfl rfl rfl rfl rfl rfl rfl rfl rfl rfl rfl rfl rfl rfl rfl rfl rfl (by omega) ?_
   refine .B ?_
   rw[aj hlt (by omega)]
   exact T.K (ih (by simp[hi,Ne.symm hx]))
 ·intro hi
  refine .B ?_
  refine T.cf2 rfl bl ?_
  refine .B ?_
  exact⟨_,.o rfl rfl (by rw[if_neg hi]) (fun _=> .inl rfl) (by simp) (.v rfl rfl (by simp[hi]) (fun _=>rfl) .nil)⟩
theorem mE (d:aa)(v value:Int)(hv:0≤v∧v.toNat<d.length)(hl:((domAt d v).length+1)*16≤140737488355328):
  SpecM Tryz.prog 192 54 1 (d.map cD) [.int .i64 v,.int .i64 value] ((d.set v.toNat (domCut (domAt d v) value value)).map cD) [.bool (!decide (domCut (domAt d v) value value=[]))]:=by
 refine SpecM.body Tryz.func192 rfl rfl rfl (by simp[PV.flat]) fun w0 v0 Z1=> ?_
 have hrow:(d.map cD)[v.toNat]? =some (cD (domAt d v)):=by simp[ao hv.2]
 have hc:=(gp (domAt d v) value value hl).frz
 have hrow2:((d.set v.toNat (domCut (domAt d v) value value)).map cD)[v.toNat]? =some (cD (domCut (domAt d v) value value)):=by simp[hv.2]
 have hb:decide ((((domCut (domAt d v) value value).map cR).length:Int) > 0)= !decide (domCut (domAt d v) value value=[]):=by
  cases domCut (domAt d v) value value<;>simp
 generalize domCut (domAt d v) value value=cx at*
 generalize domAt d v=x at*
 refine .B ?_
 refine J.io rfl rfl rfl rfl rfl rfl rfl rfl rfl hv.1 (by simpa using hv.2) rfl ?_
 refine J.lo rfl rfl rfl rfl rfl rfl (r:=cD x) hrow rfl ?_
 refine .B ?_
 refine .C hc ?_
 refine J.io rfl rfl rfl rfl rfl rfl rfl rfl rfl hv.1 (by simpa using hv.2) rfl ?_
 refine J.w1 rfl rfl rfl rfl rfl rfl rfl rfl rfl rfl rfl (fun _=>rfl) hv.2 ?_
 refine .B ?_
 refine J.io rfl rfl rfl rfl rfl rfl rfl rfl rfl hv.1 (by simpa using hv.2) rfl ?_
 refine J.lo rfl rfl rfl rfl rfl rfl (r:=cD cx) hrow2 rfl ?_
 refine .B ?_
 exact⟨.v rfl rfl (by rw[←hb]) (fun h=>by cases h) .nil,_,rfl,rfl⟩
def dD (k:Int):Int:=wr ((wr (k+1)).tdiv 2)
theorem ux (k:Int):Spec Tryz.prog 195 false [.int .i64 k] [.val (.int .i64 (dD k))]:=by
 refine Spec.body Tryz.func195 rfl rfl rfl fun w0 Z0=> ?_
 refine .B ?_
 exact r1
theorem y3 (r:Int×Int)(v:Int):Spec Tryz.prog 83 false [.agg (cR r),.ptr [.int .i64 v]] [.val (.bool (decide (r.1≤v)&&decide (v≤r.2)))]:=by
 refine Spec.body Tryz.func83 rfl rfl rfl fun w0 Z0=> ?_
 refine .B ?_
 refine J.g rfl rfl rfl (fun h=> ?_) (fun h=> ?_)
 ·have h:r.1≤v:=by simpa using h
  rw[decide_eq_true h]
  refine .B ?_
  exact r1
 ·have h: ¬r.1≤v:=by simpa using h
  rw[decide_eq_false h]
  refine .B ?_
  exact r1
theorem BD {α:Type}{p:α→Bool}{d pre post:List α}{x:α}{n:Nat}(h:d=pre++x::post)(hn:n=pre.length)(hi: ∀r∈pre,p r=false)(hx:p x=true):(if d.any p then(d.findIdx p:Int)else -1)=n:=by
 subst h hn
 have h1:(pre++x::post).any p=true:=by simp[hx]
 rw[if_pos h1,List.findIdx_append]
 have h2:pre.findIdx p=pre.length:=List.findIdx_eq_length.2 hi
 rw[h2,if_neg (by omega),List.findIdx_cons,hx]
 simp
theorem wH (f:FuncId)(caps:List PV)(p:Int×Int→Bool)(d:List (Int×Int))(hl:d.length*16≤140737488355328)(hf: ∀r,Spec Tryz.prog f false (.agg (cR r)::caps) [.val (.bool (p r))]):
  Spec Tryz.prog 122 false [dm d,.fn (.func f) [] caps] [.val (.int .i64 (if d.any p then d.findIdx p else -1))]:=by
 refine Spec.body Tryz.func122 rfl rfl rfl fun w0 Z0=> ?_
 refine .B ?_
 refine T.K (T.listI d (fun pre=> ∀r∈pre,p r=false) (fun n pre post=>⟨[(0,.val false (dm d)),(1,.val false (.fn (.func f) [] caps)),(6,.val false (dm d)),(7,.val true (.int .i64 (d.map cR).length)),(8,.val true (.int .i64 n))],[],0⟩) (fun _ _ h=>h) (by simp) ?_ ?_)
 ·rintro n pre x post h hn hi ih
  have hlt:=bY h hn
  have hfx:=hf x
  refine .B ?_
  refine T.ct2 rfl (bX h hn) ?_
  refine .B ?_
  refine .I (r:=cR x) (aS h hn) ?_
  refine .B ?_
  refine .C hfx ?_
  refine .B ?_
  cases hp:p x
  ·refine T.cf rfl ?_
   refine .B ?_
   rw[aj hlt (by omega)]
   exact T.K (ih (fun r hr=>by
    rcases List.mem_append.1 hr with h|h
    ·exact hi r h
    ·simp at h;subst h;exact hp))
  ·refine T.ct rfl ?_
   refine .B ?_
   exact⟨_,.v rfl rfl (by rw[BD h hn hi hp]) (fun _=>rfl) .nil⟩
 ·intro hi
  refine .B ?_
  refine T.cf2 rfl bl ?_
  refine .B ?_
  exact⟨_,.v rfl rfl (by rw[if_neg (by simpa using hi)]) (fun _=>rfl) .nil⟩
def hasV (d:List (Int×Int))(v:Int):Bool:=d.any fun r=>decide (r.1≤v)&&decide (v≤r.2)
theorem pZ (f:FuncId)(caps:List PV)(p:Int×Int→Bool)(d:List (Int×Int))(hl:d.length*16≤140737488355328)(hf: ∀r,Spec Tryz.prog f false (.agg (cR r)::caps) [.val (.bool (p r))]):
  Spec Tryz.prog 82 false [dm d,.fn (.func f) [] caps] [.val (.bool (d.any p))]:=by
 refine Spec.body Tryz.func82 rfl rfl rfl fun w0 Z0=> ?_
 refine .B ?_
 refine .C (wH f caps p d hl hf) ?_
 refine .B ?_
 refine⟨_,.v rfl rfl ?_ (fun _=>rfl) .nil⟩
 cases d.any p
 ·rfl
 ·show PV.bool (decide ((d.findIdx p:Int)≥0))=_
  rw[decide_eq_true (by omega)]
theorem jP (d:List (Int×Int))(v:Int)(hl:d.length*16≤140737488355328):Spec Tryz.prog 55 false [dm d,.int .i64 v] [.val (.bool (hasV d v))]:=by
 refine Spec.body Tryz.func55 rfl rfl rfl fun w0 Z0=> ?_
 refine .B ?_
 refine J.sub (Rel.unbx (s:=3) (fun _ h=>h) rfl rfl) ?_
 refine J.sub (Rel.fp (s:=3) rfl) ?_
 refine .B ?_
 refine J.cc rfl rfl rfl rfl rfl (pZ _ _ _ d hl fun r=>y3 r v) rfl rfl ?_
 refine .B ?_
 exact r1
def dE (d:aa)(b v:Int):Option aa:=if domCut (domAt d b) v v=[]then none else some (d.set b.toNat (domCut (domAt d b) v v))
def bN (c:Con):Con:=⟨0,c.vars,c.coefs,c.op,c.rhs,[],0⟩
def yesW (d:aa)(c:Con):Bool:=soW (endsW d c.vars c.coefs) (bN c)
def noW (d:aa)(c:Con):Bool:=soW (endsW d (bQ (bN c)).vars (bQ (bN c)).coefs) (bQ (bN c))
def tH (d:aa)(c:Con)(RS RN:Option aa):Option aa:=
 if []∈d then none else
 if yesW d c then dE d c.b 1 else
 if noW d c then dE d c.b 0 else
 if hasV (domAt d c.b) 0=false then RS else
 if hasV (domAt d c.b) 1=false then RN else some d
theorem wx (d:aa)(c:Con)(h:SumIn d c.vars c.coefs)(hcb:ConB (bN c))(hb:0≤c.b∧c.b.toNat<d.length)(hx: ∀x∈d,(x.length+1)*16≤140737488355328)(RS RN:Option aa)
  (h1: []∉d→yesW d c=false→noW d c=false→hasV (domAt d c.b) 0=false→Spec Tryz.prog 139 false [aJ d,.agg (cC (bN c))] (aX RS)) (h2: []∉d→yesW d c=false→noW d c=false→hasV (domAt d c.b) 0=true→hasV (domAt d c.b) 1=false→Spec Tryz.prog 139 false [aJ d,.agg (cC (bQ (bN c)))] (aX RN)):
  Spec Tryz.prog 136 false [aJ d,.agg (cC c)] (aX (tH d c RS RN)):=by
 refine Spec.body Tryz.func136 rfl rfl rfl fun w0 Z0=> ?_
 have hown:=ri d h.dl (fun x hm=>by have:=hx x hm;omega)
 have hkn:Spec Tryz.prog 193 false [aJ d,.agg (cC (bN c))] [.val (.bool (yesW d c)),.val (.bool (yesW d c||noW d c))]:=uv d (bN c) hcb h
 have hnot:=qS (bN c) hcb
 have hrow:(d.map cD)[c.b.toNat]? =some (cD (domAt d c.b)):=by simp[ao hb.2]
 have hxb:=hx _ (ah hb.2)
 have hh0:=jP (domAt d c.b) 0 (by omega)
 have hh1:=jP (domAt d c.b) 1 (by omega)
 have hk0:=mE d c.b 0 hb hxb
 have hk1:=mE d c.b 1 hb hxb
 unfold tH
 unfold dE
 generalize yesW d c=y at*
 generalize noW d c=z at*
 refine .B ?_
 refine .C hown ?_
 refine .B ?_
 by_cases hm: []∈d
 ·rw[if_pos hm,if_pos hm,decide_eq_true hm]
  refine T.ct rfl ?_
  refine .B ?_
  exact⟨_,.ownN rfl (.v rfl rfl rfl (fun _=>rfl) .nil)⟩
 ·rw[if_neg hm,if_neg hm,decide_eq_false hm]
  have h1:=h1 hm
  have h2:=h2 hm
  refine T.cf rfl ?_
  refine .B ?_
  refine .L ?_
  refine .W ?_
  refine .B ?_
  refine J.mf rfl rfl rfl rfl rfl rfl rfl ?_
  refine .B ?_
  refine .C hkn ?_
  refine .B ?_
  cases y
  ·rw[if_neg (by decide)]
   cases z
   ·rw[if_neg (by decide)]
    refine .B ?_
    refine T.cf rfl ?_
    refine .B ?_
    refine T.cf rfl ?_
    refine .B ?_
    refine J.i rfl rfl rfl rfl rfl rfl rfl rfl rfl (r:=cD (domAt d c.b)) hb.1 hrow rfl ?_
    refine .B ?_
    refine .C hh0 ?_
    generalize hasV (domAt d c.b) 0=e0 at*
    cases e0
    ·rw[if_pos rfl]
     refine .B ?_
     refine T.ct rfl ?_
     refine .B ?_
     refine .C (h1 rfl rfl rfl) ?_
     refine .B ?_
     exact⟨_,.o rfl rfl rfl (fun _=> .inl rfl) (by simp) (.v rfl rfl rfl (fun _=>rfl) .nil)⟩
    ·rw[if_neg (by decide)]
     refine .B ?_
     refine T.cf rfl ?_
     refine .B ?_
     refine J.i rfl rfl rfl rfl rfl rfl rfl rfl rfl (r:=cD (domAt d c.b)) hb.1 hrow rfl ?_
     refine .B ?_
     refine .C hh1 ?_
     generalize hasV (domAt d c.b) 1=e1 at*
     cases e1
     ·rw[if_pos rfl]
      refine .B ?_
      refine T.ct rfl ?_
      refine .B ?_
      refine .C hnot ?_
      refine .B ?_
      refine .C (h2 rfl rfl rfl rfl) ?_
      refine .B ?_
      exact⟨_,.o rfl rfl rfl (fun _=> .inl rfl) (by simp) (.v rfl rfl rfl (fun _=>rfl) .nil)⟩
     ·rw[if_neg (by decide)]
      refine .B ?_
      refine T.cf rfl ?_
      refine .B ?_
      refine T.cf rfl ?_
      refine .B ?_
      exact⟨_,.o rfl rfl rfl (fun _=> .inl rfl) (by simp) (.v rfl rfl rfl (fun _=>rfl) .nil)⟩
   ·rw[if_pos rfl]
    refine .B ?_
    refine T.cf rfl ?_
    refine .B ?_
    refine T.ct rfl ?_
    refine .B ?_
    refine J.cmf rfl rfl rfl rfl rfl rfl rfl hk0 rfl rfl rfl ?_
    refine .B ?_
    by_cases hk:domCut (domAt d c.b) 0 0=[]
    ·rw[if_pos hk,decide_eq_true hk]
     refine T.ct rfl ?_
     refine .B ?_
     exact⟨_,.ownN rfl (.v rfl rfl rfl (fun _=>rfl) .nil)⟩
    ·rw[if_neg hk,decide_eq_false hk]
     refine T.cf rfl ?_
     refine .B ?_
     exact⟨_,.o rfl rfl rfl (fun _=> .inl rfl) (by simp) (.v rfl rfl rfl (fun _=>rfl) .nil)⟩
  ·rw[if_pos rfl]
   refine .B ?_
   refine T.ct rfl ?_
   refine .B ?_
   refine J.cmf rfl rfl rfl rfl rfl rfl rfl hk1 rfl rfl rfl ?_
   refine .B ?_
   by_cases hk:domCut (domAt d c.b) 1 1=[]
   ·rw[if_pos hk,decide_eq_true hk]
    refine T.ct rfl ?_
    refine .B ?_
    exact⟨_,.ownN rfl (.v rfl rfl rfl (fun _=>rfl) .nil)⟩
   ·rw[if_neg hk,decide_eq_false hk]
    refine T.cf rfl ?_
    refine .B ?_
    exact⟨_,.o rfl rfl rfl (fun _=> .inl rfl) (by simp) (.v rfl rfl rfl (fun _=>rfl) .nil)⟩
def mT (d:aa):Option aa:=if []∈d then none else some d
def eC (n:Nat)(us t:List Int)(k:Nat):List Int:=((us.zip t).take k).foldl (fun a p=>a.set p.1.toNat p.2) (List.replicate n 0)
def fN (P:List Int→Bool)(m:Nat)(all:List (List Int)):List (List Int):=(List.range m).map fun k=>(all.filter P).map (·.getD k 0)
def putsW (d:aa)(us:List Int)(ks:List (List Int))(k:Nat):aa:=((us.zip ks).take k).foldl (fun o p=>o.set p.1.toNat (c6 (aW p.2))) d
def lK (d:aa)(us:List Int)(P:List Int→Bool):Option aa:=
 if []∈d then none else mT (putsW d us (fN P us.length (growR (us.map (domAt d)) us.length)) us.length)
theorem y9 (n:Nat)(us t:List Int)(k:Nat):(eC n us t k).length=n:=by
 unfold eC
 generalize (us.zip t).take k=l
 have: ∀(l:List (Int×Int)) (a:List Int),(l.foldl (fun a p=>a.set p.1.toNat p.2) a).length=a.length:=by
  intro l
  induction l with
  |nil=>simp
  |cons p l ih=>intro a;rw[DH,ih];simp
 rw[this];simp
theorem yw (d:aa)(us:List Int)(ks:List (List Int))(k:Nat):(putsW d us ks k).length=d.length:=by
 unfold putsW
 generalize (us.zip ks).take k=l
 have: ∀(l:List (Int×List Int)) (a:aa),(l.foldl (fun o p=>o.set p.1.toNat (c6 (aW p.2))) a).length=a.length:=by
  intro l
  induction l with
  |nil=>simp
  |cons p l ih=>intro a;rw[DH,ih];simp
 rw[this]
theorem yu {α:Type}{m k:Nat}(f:Nat→α)(x:α):((List.range m).map f).set k x=(List.range m).map fun j=>if j=k then x else f j:=by
 apply EM
 intro i
 rw[E8,D8,D8]
 by_cases hi:i<m
 ·have hr:(List.range m)[i]? =some i:=by simp[hi]
  rw[hr]
  by_cases e:k=i
  ·subst e
   rw[if_pos rfl,if_pos (by simpa using hi)]
   simp
  ·rw[if_neg e]
   simp only[Dp]
   rw[if_neg (Ne.symm e)]
 ·have hr:(List.range m)[i]? =none:=by simp;omega
  rw[hr]
  by_cases e:k=i
  ·subst e
   rw[if_pos rfl,if_neg (by simpa using hi)];rfl
  ·rw[if_neg e];rfl
abbrev xg:=List (Value×List (List PV))
theorem vk: ∀(l:List Int) (room:Int),eD room l=false→(∀k∈l,aG k≤4398046511104)∧(0≤room→ak l≤room)
 | [],room,h=>by simp[ak]
 |x::l,room,h=>by
  rw[eD]at h
  split at h
  ·cases h
  ·rename_i h1
   split at h
   ·cases h
   ·rename_i h2
    obtain⟨h3,h4⟩:=vk l _ h
    have e:ak (x::l)=aG x*1048576+ak l:=by simp[ak]
    have e2:max x (-x)=aG x:=rfl
    rw[e2]at h2 h4
    refine⟨fun k hk=> ?_,fun h0=> ?_⟩
    ·rcases List.mem_cons.1 hk with rfl|hk
     ·unfold aG;omega
     ·exact h3 k hk
    ·rw[e]
     have:=h4 (by omega)
     omega
structure SumOk (d:aa)(c:Con):Prop where
 fine:SumFine d c.vars c.coefs
 nod:c.vars.Nodup
 pos:0<c.vars.length
 op:0≤c.op∧c.op≤2
 big:ak c.coefs≤4611686018427388928∧aG c.rhs≤4611686018427388928
theorem pL {c:Con}(h:eh c.coefs c.rhs=false):(∀k∈c.coefs,aG k≤4398046511104)∧ak c.coefs+aG c.rhs≤4611686018427387904:=by
 unfold eh at h
 split at h
 ·cases h
 ·rename_i h1
  obtain⟨h2,h3⟩:=vk _ _ h
  have e:max c.rhs (-c.rhs)=aG c.rhs:=rfl
  rw[e]at h3
  refine⟨h2,?_⟩
  have:aG c.rhs≤4611686018427387904:=by unfold aG;omega
  have:=h3 (by omega)
  omega
theorem jQ {d:aa}{c:Con}(h:conR d c=0):eh c.coefs c.rhs=false:=by
 unfold conR at h
 cases hb:eh c.coefs c.rhs with
 |false=>rfl
 |true=>
  rw[hb]at h
  split at h
  ·cases h
  ·split at h
   ·cases h
   ·split at h<;>cases h
theorem aV: ∀l:List Int,0≤ak l
 | []=>by simp[ak]
 |k::l=>by
  have:=aV l
  have:=bE k
  have e:ak (k::l)=aG k*1048576+ak l:=by simp[ak]
  omega
theorem rS {d:aa}{c:Con}(hc:ConB c)(h:conR d c=0)(hk:c.kind=0)(hf: ∀x∈d,Fine x)(hdl:d.length*24≤140737488355328):SumOk d c:=by
 obtain⟨hv,hr⟩:=sI hc h
 obtain⟨h1,h2⟩:=pL (jQ h);have hra:=bE c.rhs;have hwk:=aV c.coefs
 unfold rightR at hr
 rw[if_pos hk]at hr
 simp only[sumR,opR,DA,decide_eq_true_eq,E9,decide_eq_false_iff_not]at hr
 obtain⟨⟨⟨_,⟨⟨h4,h5⟩,h6⟩,h7⟩,h8⟩,_⟩:=hr
 exact⟨⟨h6,hv.1,hv.2,fun k hk=>⟨fun e=>h7 (e▸hk),h1 k hk⟩,hf,hdl⟩,h4,h5,h8,by omega⟩
theorem dn {d:aa}{vars coefs:List Int}(h:SumFine d vars coefs):gq (ac d vars coefs):=by
 intro t ht
 obtain⟨p,hp,rfl⟩:=List.mem_map.1 ht
 obtain⟨h1,h2⟩:=DP hp
 exact⟨h.dom _ (ah (h.vin _ h1).2),h.ck _ h2⟩
theorem cy {d:aa}{vars coefs:List Int}(h:vars.length=coefs.length):be (ac d vars coefs)=ak coefs:=by
 unfold be ac
 rw[EU]
 congr 1
 have:((fun x:List (Int×Int)×Int=>x.2)∘fun p:Int×Int=>(domAt d p.1,p.2))=fun p:Int×Int=>p.2:=rfl
 rw[this,List.map_snd_zip]
 omega
theorem dk: ∀(l:List Int),(∀k∈l,CoefOk k)→ak (aA l)=ak l
 | [],_=>rfl
 |k::l,h=>by
  have e:=(c8 (h k (.head _))).1
  have ih:=dk l fun k hk=>h k (.tail _ hk)
  have e1:ak (k::l)=aG k*1048576+ak l:=by simp[ak]
  have e2:ak (aA (k::l))=aG (wr (0-k))*1048576+ak (aA l):=by simp[ak,aA]
  rw[e1,e2,ih,e]
  unfold aG
  omega
theorem rn {a b v:Int}(hb:0<b)(h1: -9223372036854775000≤a)(h2:a≤9223372036854775000):(v≤gB a b↔b*v≤a)∧-9223372036854775002≤gB a b∧gB a b≤9223372036854775002:=by
 have e:=Int.mul_tdiv_add_tmod a b
 have r1:=Int.tmod_lt_of_pos a hb
 have r2:=Int.lt_tmod_of_pos a hb
 have hq: -9223372036854775000≤a.tdiv b∧a.tdiv b≤9223372036854775000:=by
  have:=GL a b
  omega
 unfold gB
 generalize a.tdiv b=q at*
 generalize a.tmod b=r at*
 have key: ∀w:Int,v≤w→b*v≤b*w:=fun w h=>Dt h (by omega)
 have key2: ∀w:Int,w≤v→b*w≤b*v:=fun w h=>Dt h (by omega)
 by_cases hr:r<0
 ·rw[if_pos hr]
  simp only[wr]
  rw[ae (n:=q) (by omega) (by omega),ae (n:=q-1) (by omega) (by omega)]
  refine⟨⟨fun h=> ?_,fun h=> ?_⟩,by omega,by omega⟩
  ·have:=key _ h
   rw[Int.mul_sub,Int.mul_one]at this
   omega
  ·by_cases hv:v≤q-1
   ·exact hv
   ·have:=key2 q (by omega)
    omega
 ·rw[if_neg hr]
  simp only[wr]
  rw[ae (n:=q) (by omega) (by omega)]
  refine⟨⟨fun h=> ?_,fun h=> ?_⟩,by omega,by omega⟩
  ·have:=key _ h
   omega
  ·by_cases hv:v≤q
   ·exact hv
   ·have:=key2 (q+1) (by omega)
    rw[Int.mul_add,Int.mul_one]at this
    omega
def zj (x:List (Int×Int))(k rest:Int):List (Int×Int):=c6 ((vals x).filter fun v=>decide (k*v≤rest))
theorem xU {x:List (Int×Int)}(h:az x)(k rest:Int):az (zj x k rest)∧∀v,v∈vals (zj x k rest)↔v∈vals x∧k*v≤rest:=by
 have hu:=fE (p:=fun v=>decide (k*v≤rest)) (aF h)
 refine⟨f7 hu,fun v=> ?_⟩
 unfold zj
 rw[bK hu,Ei]
 simp
theorem BF {x:List (Int×Int)}{k rest:Int}(h:Fine x)(hk:CoefOk k)(h1: -9223372036854775000≤rest)(h2:rest≤9223372036854775000):cutW x k rest=zj x k rest:=by
 have hc:=fT hk
 obtain⟨p1,p2⟩:=xU h.ok k rest
 have q1:=(sH h.ok k rest).1
 refine iB q1 p1 (dG (aF q1) (aF p1) fun v=> ?_)
 rw[p2]
 unfold cutW
 by_cases hp:0<k
 ·rw[if_pos hp,(bR h.ok _ _).2,(rn hp h1 h2).1]
  constructor
  ·rintro⟨a,_,b⟩;exact⟨a,b⟩
  ·rintro⟨a,b⟩;exact⟨a,(h.val v a).1,b⟩
 ·rw[if_neg hp]
  have hn:0< -k:=by have:=hk.1;omega
  rw[(c8 hk).1,(bR h.ok _ _).2]
  obtain⟨f1,f2,f3⟩:=rn (v:= -v) hn h1 h2
  rw[Int.neg_mul_neg]at f1
  simp only[wr]
  rw[ae (by omega) (by omega),←f1]
  constructor
  ·rintro⟨a,b,_⟩;exact⟨a,by omega⟩
  ·rintro⟨a,b⟩;exact⟨a,by omega,(h.val v a).2⟩
end Go.Proofs.YtopcjbahjjhdmaaGreat
