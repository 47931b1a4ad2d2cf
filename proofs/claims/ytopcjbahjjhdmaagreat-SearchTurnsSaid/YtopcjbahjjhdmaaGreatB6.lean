/- The texts PuC, LiA, FnR, FnS, FuE, FuF, FuG, FuH, FuI, PuM, FvR, PuQ, PuR, FnP, FnQ, FgH, FgK, FnT, FnU, FnV, FnW, FnX, FnY, FnZ, FgA, FgB, FgL, LiB, LiC, LiD of the workplace, joined. -/
import Derived.Test.YtopcjbahjjhdmaaGreatB5
import Derived.Lib.Mul64
import Derived.Sort.OwnSortedInts
namespace Go.Proofs.YtopcjbahjjhdmaaGreat
open Go Go.RowKit
set_option linter.unusedVariables false
theorem wU {α β:Type}{step:α→β ⊕ α}(Inv:α→Prop)(μ:α→Nat)(h: ∀x y,Inv x→step x= .inr y→Inv y∧μ y<μ x): ∀x,Inv x→∃N R,cB step N x=some R:=by
 have key: ∀n x,μ x=n→Inv x→∃N R,cB step N x=some R:=by
  intro n
  induction n using Nat.strongRecOn with
  |_ n ih=>
   intro x hx hi
   cases e:step x with
   |inl b=>exact⟨1,b,by simp[cB,e]⟩
   |inr y=>
    obtain⟨h1,h2⟩:=h x y hi e
    obtain⟨N,R,hR⟩:=ih (μ y) (hx▸h2) y rfl h1
    exact⟨N+1,R,by simp[cB,e,hR]⟩
 exact fun x hi=>key _ x rfl hi
theorem oA {α β:Type}{step:α→β ⊕ α}(Inv:α→Prop)(h: ∀x y,Inv x→step x= .inr y→Inv y): ∀(N:Nat) (x:α) (R:β),Inv x→cB step N x=some R→∃z,Inv z∧step z= .inl R
 |0,x,R,_,e=>by cases e
 |n+1,x,R,hi,e=>by
  cases hs:step x with
  |inl b=>simp only[cB,hs,Option.some.injEq]at e;exact⟨x,hi,by rw[hs,e]⟩
  |inr y=>simp only[cB,hs]at e;exact oA Inv h n y R (h x y hi hs) e
def weight (d:aa):Nat:=(d.map fun x=>(vals x).length).sum
theorem gM: ∀{d:aa} {i:Nat} {y:List (Int×Int)} (x:List (Int×Int)),d[i]? =some y→weight (d.set i x)+(vals y).length=weight d+(vals x).length
 | [],i,y,x,h=>by simp at h
 |z::d,0,y,x,h=>by
  simp at h;subst h
  simp only[List.set_cons_zero,weight,List.map_cons,List.sum_cons];omega
 |z::d,i+1,y,x,h=>by
  have:=gM (d:=d) (i:=i) x (by simpa using h)
  simp only[List.set_cons_succ,weight,List.map_cons,List.sum_cons]at this⊢;omega
theorem uQ {d d':List (Int×Int)}(h:ax d)(h':ax d')(hs: ∀v∈vals d',v∈vals d):(vals d').length≤(vals d).length∧(d'≠d→(vals d').length<(vals d).length):=by
 have hle:=bU (aE h') hs
 refine⟨hle,fun hne=>Nat.lt_of_le_of_ne hle fun e=>hne ?_⟩
 refine ik h' h (dP (aE h') (aE h) fun v=>⟨hs v,fun hv=> ?_⟩)
 refine Classical.byContradiction fun hn=> ?_
 have h1:(v::vals d').Nodup:=List.nodup_cons.2 ⟨hn,dw (aE h')⟩
 have h2:(v::vals d').length≤(vals d).length:=h1.length_le_of_subset fun w hw=>by
  rcases List.mem_cons.1 hw with rfl|hw
  ·exact hv
  ·exact hs w hw
 simp at h2;omega
structure Cutd (d out:aa):Prop where
 len:out.length=d.length
 fine: ∀x∈out,Fine x
 ne: ∀x∈out,x≠[]
 sub: ∀(i:Nat) x y,out[i]? =some x→d[i]? =some y→∀v∈vals x,v∈vals y
theorem Cutd.set {d out:aa}(h:Cutd d out){i:Nat}{x y:List (Int×Int)}(hy:out[i]? =some y)(hx:ax x)(hne:x≠[])(hs: ∀v∈vals x,v∈vals y):Cutd d (out.set i x):=by
 have hym:=List.mem_of_getElem? hy
 refine⟨by simp[h.len],fun z hz=> ?_,fun z hz=> ?_,fun j z w hz hw v hv=> ?_⟩
 ·rcases List.mem_or_eq_of_mem_set hz with hz|rfl
  ·exact h.fine z hz
  ·exact(h.fine y hym).cut hx hs
 ·rcases List.mem_or_eq_of_mem_set hz with hz|rfl
  ·exact h.ne z hz
  ·exact hne
 ·by_cases e:i=j
  ·subst e
   have hlt:=(List.getElem?_eq_some_iff.1 hy).1
   rw[List.getElem?_set_self hlt]at hz
   obtain rfl:=Option.some.inj hz
   exact h.sub i y w hy hw v (hs v hv)
  ·rw[List.getElem?_set_ne e]at hz
   exact h.sub j z w hz hw v hv
theorem xr {c:Con}{d out next:aa}(hv:cK out c)(h:Cutd d out)(hs:dE c out= .inr next):Cutd d next∧cK next c∧weight next<weight out:=by
 have hh:=jk c
 unfold dE at hs
 split at hs
 ·cases hs
 ·rename_i hk
  have hkl:placeO out c<halfOf c:=by have:=lJ (dT out c) (halfOf c);unfold placeO at hk⊢;omega
  have hp:dT out c (placeO out c)=false:=mx hkl
  have hv1:=hv.2 _ (aJ (c:=c) (k:=placeO out c) (by omega))
  have hv2:=hv.2 _ (aJ (c:=c) (k:=halfOf c+placeO out c) (by omega))
  have hab:varAt c (placeO out c)≠varAt c (halfOf c+placeO out c):=fun e=>by rw[dT,e]at hp;simp[gg]at hp
  simp only at hs
  generalize varAt c (placeO out c)=a at*
  generalize varAt c (halfOf c+placeO out c)=b at*
  have ha:=ak hv1.2
  have hb:=ak hv2.2
  have fa:=h.fine _ (af hv1.2)
  have fb:=h.fine _ (af hv2.2)
  generalize domAt out a=da at*
  generalize domAt out b=db at*
  obtain⟨x1,x2⟩:=bM fa.ok (-1048576) (aL db)
  obtain⟨y1,y2⟩:=bM fb.ok (aw da) 1048576
  generalize domCut da (-1048576) (aL db)=x at*
  generalize domCut db (aw da) 1048576=y at*
  split at hs
  ·cases hs
  ·rename_i hne
   split at hs
   ·cases hs
   ·rename_i hns
    obtain rfl:=Sum.inr.inj hs
    have hsx: ∀v∈vals x,v∈vals da:=fun v hv=>((x2 v).1 hv).1
    have hsy: ∀v∈vals y,v∈vals db:=fun v hv=>((y2 v).1 hv).1
    have hne':a.toNat≠b.toNat:=by omega
    have hb':(out.set a.toNat x)[b.toNat]? =some db:=by rw[List.getElem?_set_ne hne'];exact hb
    refine⟨(h.set ha x1 (fun e=>hne (.inl e)) hsx).set hb' y1 (fun e=>hne (.inr e)) hsy,(hv.set _ _).set _ _,?_⟩
    have w1:=gM x ha
    have w2:=gM y hb'
    have l1:=uQ fa.ok x1 hsx
    have l2:=uQ fb.ok y1 hsy
    by_cases e1:x=da
    ·have e2:y≠db:=fun e=>hns ⟨e1,e⟩
     have:=l2.2 e2
     subst e1;omega
    ·have:=l1.2 e1
     omega
theorem pL {c:Con}{d:aa}(hv:cK d c)(hf: ∀x∈d,Fine x): ∃R N,(if []∈d then R=none else cB (dE c) N d=some R)∧(∀out,R=some out→Cutd d out∧dE c out= .inl (some out)):=by
 by_cases he: []∈d
 ·exact⟨none,0,by rw[if_pos he],fun out h=>by cases h⟩
 ·have h0:Cutd d d:=⟨rfl,hf,fun x hx e=>he (e▸hx),fun i x y hx hy v hv=>by rw[hx]at hy;exact Option.some.inj hy▸hv⟩
  have hst: ∀x y,(Cutd d x∧cK x c)→dE c x= .inr y→(Cutd d y∧cK y c)∧weight y<weight x:=fun x y hi hs=>by
   have:=xr hi.2 hi.1 hs
   exact⟨⟨this.1,this.2.1⟩,this.2.2⟩
  obtain⟨N,R,hR⟩:=wU (step:=dE c) (fun x=>Cutd d x∧cK x c) weight hst d ⟨h0,hv⟩
  refine⟨R,N,by rw[if_neg he];exact hR,fun out h=> ?_⟩
  obtain⟨z,hz,hs⟩:=oA (fun x=>Cutd d x∧cK x c) (fun x y hi hs=>(hst x y hi hs).1) N d R ⟨h0,hv⟩ hR
  have:z=out:=by
   subst h
   unfold dE at hs
   split at hs
   ·simpa using hs
   ·simp only at hs
    split at hs
    ·simp at hs
    ·split at hs
     ·simpa using hs
     ·cases hs
  subst this
  rw[h]at hs
  exact⟨hz.1,hs⟩
set_option linter.unusedSimpArgs false
abbrev wr (n:Int):Int:=IntKind.i64.wrap n
def smallI (n:Int):Bool:=decide (-4611686018427387904≤n)&&decide (n≤4611686018427387904)
def mulI (a b:Int):Int×Bool:=if smallI a&&smallI b&&smallI (a*b)then(a*b,true)else(0,false)
def endW (d:List (Int×Int))(k:Int)(high:Bool):Int×Bool:=((mulI k (if decide (0<k)==high then aL d else aw d)).1,!d.isEmpty&&(mulI k (if decide (0<k)==high then aL d else aw d)).2)
def j9:List (List (Int×Int)×Int)→Int→Int→Int×Int×Bool
 | [],lo,hi=>(lo,hi,true)
 |(x,k)::ts,lo,hi=>if(endW x k false).2 then j9 ts (wr (lo+(endW x k false).1)) (wr (hi+(endW x k true).1))else(0,0,false)
def ab (d:aa)(vars coefs:List Int):List (List (Int×Int)×Int):=(vars.zip coefs).map fun p=>(domAt d p.1,p.2)
def endsW (d:aa)(vars coefs:List Int):Int×Int×Bool:=j9 (ab d vars coefs) 0 0
def Bo (d:List (Int×Int))(k:Int):Int×Int×Bool:=(min (wr (k*(oP d).1)) (wr (k*(oP d).2.1)),max (wr (k*(oP d).1)) (wr (k*(oP d).2.1)),(oP d).2.2)
def ce (d:List (Int×Int))(k:Int):Int:=if 0<k then k*aw d else k*aL d
def fL (d:List (Int×Int))(k:Int):Int:=if 0<k then k*aL d else k*aw d
def bf (ts:List (List (Int×Int)×Int)):Int:=(ts.map fun t=>ce t.1 t.2).sum
def fK (ts:List (List (Int×Int)×Int)):Int:=(ts.map fun t=>fL t.1 t.2).sum
def aF (k:Int):Int:=max k (-k)
def ai (coefs:List Int):Int:=(coefs.map fun k=>aF k*1048576).sum
theorem bC (k:Int):0≤aF k:=by unfold aF;omega
theorem dW (k x:Int)(h1: -1048576≤x)(h2:x≤1048576): -(aF k*1048576)≤k*x∧k*x≤aF k*1048576:=by
 unfold aF
 by_cases hk:0≤k
 ·have e1:=Int.mul_le_mul_of_nonneg_left h2 hk
  have e2:=Int.mul_le_mul_of_nonneg_left h1 hk
  rw[show max k (-k)=k by omega]
  omega
 ·have hk':0≤-k:=by omega
  have e1:=Int.mul_le_mul_of_nonneg_left h2 hk'
  have e2:=Int.mul_le_mul_of_nonneg_left h1 hk'
  rw[Int.neg_mul]at e1 e2
  rw[show max k (-k)= -k by omega]
  rw[Int.neg_mul]at e1 e2⊢
  omega
theorem rB {d:List (Int×Int)}(h:Fine d)(hne:d≠[]): -1048576≤aw d∧aw d≤aL d∧aL d≤1048576:=by
 have h1:=fz h.ok hne
 have h2:=oy h.ok hne
 have:=h.val _ h1
 have:=h.val _ h2
 have:=m6 h.ok h1
 omega
theorem kU {d:List (Int×Int)}(h:Fine d)(hne:d≠[])(k:Int): -(aF k*1048576)≤ce d k∧ce d k≤fL d k∧fL d k≤aF k*1048576:=by
 obtain⟨h1,h2,h3⟩:=rB h hne
 have m1:=dW k (aw d) h1 (by omega)
 have m2:=dW k (aL d) (by omega) h3
 unfold ce fL
 by_cases hk:0<k
 ·rw[if_pos hk,if_pos hk]
  have:=Int.mul_le_mul_of_nonneg_left h2 (show 0≤k by omega)
  omega
 ·rw[if_neg hk,if_neg hk]
  have:=Int.mul_le_mul_of_nonpos_left (show k≤0 by omega) h2
  omega
def CoefOk (k:Int):Prop:=k≠0∧aF k≤4398046511104
theorem kM {k x:Int}(hk:CoefOk k)(h1: -1048576≤x)(h2:x≤1048576):mulI k x=(k*x,true):=by
 have m:=dW k x h1 h2
 have h3:=hk.2
 unfold mulI smallI
 have e:aF k=max k (-k):=rfl
 rw[if_pos]
 simp only[Bool.and_eq_true,decide_eq_true_eq]
 omega
theorem rC {d:List (Int×Int)}{k:Int}(h:Fine d)(hne:d≠[])(hk:CoefOk k):endW d k false=(ce d k,true)∧endW d k true=(fL d k,true):=by
 obtain⟨h1,h2,h3⟩:=rB h hne
 have hb:d.isEmpty=false:=by cases d with
  |nil=>exact absurd rfl hne
  |cons r d=>rfl
 unfold endW ce fL
 rw[hb]
 by_cases hp:0<k
 ·rw[decide_eq_true hp,if_pos hp,if_pos hp]
  simp only[Bool.not_false,Bool.true_and,beq_self_eq_true,if_true]
  rw[if_neg (by decide),kM hk h1 (by omega),kM hk (by omega) h3]
  exact⟨rfl,rfl⟩
 ·rw[decide_eq_false hp,if_neg hp,if_neg hp]
  simp only[Bool.not_false,Bool.true_and,beq_self_eq_true,if_true]
  rw[if_neg (by decide),kM hk h1 (by omega),kM hk (by omega) h3]
  exact⟨rfl,rfl⟩
theorem w4 {d:List (Int×Int)}{k:Int}(h:Fine d)(hne:d≠[])(hk:CoefOk k):Bo d k=(ce d k,fL d k,true):=by
 obtain⟨h1,h2,h3⟩:=rB h hne
 have m1:=dW k (aw d) h1 (by omega)
 have m2:=dW k (aL d) (by omega) h3
 have h4:=hk.2
 unfold Bo wr
 rw[zN h.ok hne]
 simp only
 rw[ac (by omega) (by omega),ac (by omega) (by omega)]
 unfold ce fL
 by_cases hp:0<k
 ·rw[if_pos hp,if_pos hp]
  have:=Int.mul_le_mul_of_nonneg_left h2 (show 0≤k by omega)
  rw[show min (k*aw d) (k*aL d)=k*aw d by omega,show max (k*aw d) (k*aL d)=k*aL d by omega]
 ·rw[if_neg hp,if_neg hp]
  have:=Int.mul_le_mul_of_nonpos_left (show k≤0 by omega) h2
  rw[show min (k*aw d) (k*aL d)=k*aL d by omega,show max (k*aw d) (k*aL d)=k*aw d by omega]
def fZ (ts:List (List (Int×Int)×Int)):Prop:= ∀t∈ts,Fine t.1∧CoefOk t.2
def aW (ts:List (List (Int×Int)×Int)):Int:=ai (ts.map (·.2))
theorem cq (t:List (Int×Int)×Int)(ts):aW (t::ts)=aF t.2*1048576+aW ts:=by simp[aW,ai]
theorem c9: ∀ts,0≤aW ts
 | []=>by simp[aW,ai]
 |t::ts=>by
  rw[cq]
  have:=c9 ts
  have:=bC t.2
  omega
theorem kr: ∀{ts:List (List (Int×Int)×Int)},fZ ts→(∀t∈ts,t.1≠[])→-aW ts≤bf ts∧bf ts≤fK ts∧fK ts≤aW ts
 | [],_,_=>by simp[aW,ai,bf,fK]
 |t::ts,h,hne=>by
  obtain⟨h1,h2,h3⟩:=kr (ts:=ts) (fun t ht=>h t (.tail _ ht)) (fun t ht=>hne t (.tail _ ht))
  obtain⟨h4,h5,h6⟩:=kU (h t (.head _)).1 (hne t (.head _)) t.2
  rw[cq]
  simp only[bf,fK,List.map_cons,List.sum_cons]at h1 h2 h3⊢
  omega
theorem jp: ∀{ts:List (List (Int×Int)×Int)} (lo hi:Int),fZ ts→(∀t∈ts,t.1≠[])→-4611686018427388928≤lo-aW ts→lo+aW ts≤4611686018427388928→-4611686018427388928≤hi-aW ts→hi+aW ts≤4611686018427388928→j9 ts lo hi=(lo+bf ts,hi+fK ts,true)
 | [],lo,hi,_,_,_,_,_,_=>by simp[j9,bf,fK]
 |(x,k)::ts,lo,hi,h,hne,h1,h2,h3,h4=>by
  obtain⟨hf,hk⟩:=h _ (.head _)
  have hx:=hne _ (.head _)
  obtain⟨e1,e2⟩:=rC hf hx hk
  obtain⟨b1,b2,b3⟩:=kU hf hx k
  have hp:=c9 ts
  rw[cq]at h1 h2 h3 h4
  simp only at h1 h2 h3 h4 e1 e2 b1 b2 b3
  rw[j9,e1,e2,if_pos rfl]
  simp only[wr]
  rw[ac (by omega) (by omega),ac (by omega) (by omega),jp _ _ (fun t ht=>h t (.tail _ ht)) (fun t ht=>hne t (.tail _ ht)) (by omega) (by omega) (by omega) (by omega)]
  simp only[bf,fK,List.map_cons,List.sum_cons,Prod.mk.injEq,and_true]
  omega
set_option maxRecDepth 8000
theorem fX (l:List Int)(hl:l.length*8≤140737488355328):Spec Tryz.prog 152 false [aA l] [.val (.bool (l.all smallI))]:=by
 refine Spec.body Tryz.func152 rfl rfl rfl fun w0 Z0=> ?_
 refine .B ?_
 refine T.K (T.ind (fun i:Nat=>⟨[(5,.val false (aA l)),(6,.val true (.int .i64 (l.map cI).length)),(7,.val true (.int .i64 i))],[],0⟩) (fun i=>i≤l.length∧(l.take i).all smallI=true) (fun i=>l.length-i) 0 (by simp) (fun _ _ h=>h) ?_)
 rintro i ⟨hi,hd⟩ ih
 refine .B ?_
 refine T.cd rfl (fun h1=> ?_) (fun h1=> ?_)
 ·have h1:i<l.length:=by simpa using h1
  have hno:smallI l[i]=false→l.all smallI=false:=fun h=>by
   cases h2:l.all smallI with
   |false=>rfl
   |true=>rw[List.all_eq_true.1 h2 _ (List.getElem_mem h1)]at h;cases h
  refine .B ?_
  refine .I (r:=cI l[i]) (bq h1) ?_
  refine .B ?_
  refine J.g rfl rfl rfl (fun h2=> ?_) (fun h2=> ?_)
  ·refine .B ?_
   refine T.ct rfl ?_
   refine .B ?_
   exact⟨_,.v rfl rfl (by rw[hno];simp[smallI];omega) (fun _=>rfl) .nil⟩
  ·refine .B ?_
   refine T.cd rfl (fun h3=> ?_) (fun h3=> ?_)
   ·refine .B ?_
    exact⟨_,.v rfl rfl (by rw[hno];simp[smallI];omega) (fun _=>rfl) .nil⟩
   ·refine .B ?_
    rw[aj (l:=l.length) (by omega) (by omega)]
    refine T.K (ih (i+1) ⟨by omega,?_⟩ (by omega))
    rw[List.take_succ_eq_append_getElem h1,List.all_append,hd]
    simp[smallI];omega
 ·have h1:i=l.length:=by simp at h1;omega
  subst h1
  rw[List.take_length]at hd
  refine .B ?_
  exact⟨_,.v rfl rfl (by rw[hd]) (fun _=>rfl) .nil⟩
theorem po (n:Int):IntKind.u64.wrap n=n % 18446744073709551616:=by simp[IntKind.wrap,IntKind.bits,IntKind.signed]
theorem oC (n:Int)(h: -9223372036854775808≤n)(h2:n≤9223372036854775807):Spec Tryz.prog 154 false [.int .i64 n] [.val (.int .u64 ((n.natAbs:Nat):Int))]:=by
 refine Spec.body Tryz.func154 rfl rfl rfl fun w0 Z0=> ?_
 refine .B ?_
 refine T.cd rfl (fun h3=> ?_) (fun h3=> ?_)
 ·have h3:n<0:=h3
  refine .B ?_
  exact⟨_,.v rfl rfl (by rw[po,po];congr 1;omega) (fun _=>rfl) .nil⟩
 ·have h3: ¬n<0:=h3
  refine .B ?_
  exact⟨_,.v rfl rfl (by rw[po];congr 1;omega) (fun _=>rfl) .nil⟩
theorem zr (a:Nat)(ha:a<18446744073709551616):IntKind.u64.wrap (BitVec.ofInt IntKind.u64.bits (a:Int) &&& BitVec.ofInt IntKind.u64.bits 4294967295).toNat=((a % 4294967296:Nat):Int):=by
 have e:(BitVec.ofInt IntKind.u64.bits (a:Int) &&& BitVec.ofInt IntKind.u64.bits 4294967295).toNat=a % 4294967296:=by
  rw[BitVec.toNat_and]
  have e1:(BitVec.ofInt IntKind.u64.bits (a:Int)).toNat=a:=by
   rw[BitVec.toNat_ofInt]
   have:((2 ^ IntKind.u64.bits:Nat):Int)=18446744073709551616:=rfl
   rw[this]
   omega
  have e2:(BitVec.ofInt IntKind.u64.bits 4294967295).toNat=2 ^ 32-1:=rfl
  rw[e1,e2,Nat.and_two_pow_sub_one_eq_mod]
 rw[e,po]
 omega
theorem Ca (a:Nat):((a:Int)).fdiv (2 ^ (min (32:Int).toNat IntKind.u64.bits))=((a / 4294967296:Nat):Int):=by
 have:(2:Int) ^ (min (32:Int).toNat IntKind.u64.bits)=4294967296:=rfl
 rw[this,Int.fdiv_eq_ediv_of_nonneg _ (by decide)]
 omega
theorem BO (a b:Nat):(a:Int)*(b:Int)=((a*b:Nat):Int):=(Int.natCast_mul a b).symm
theorem B9 (a b:Nat):(a:Int)+(b:Int)=((a+b:Nat):Int):=(Int.natCast_add a b).symm
theorem me (a:Nat)(ha:a<18446744073709551616):IntKind.u64.wrap (a:Int)=(a:Int):=by rw[po];omega
theorem Bu (a:Nat):IntKind.u64.wrap (a:Int)=((a % 18446744073709551616:Nat):Int):=by rw[po];omega
theorem vw (x y:Nat)(hx:x<18446744073709551616)(hy:y<18446744073709551616):Spec Tryz.prog 153 false [.int .u64 (x:Int),.int .u64 (y:Int)] [.val (.int .u64 ((x*y / 18446744073709551616:Nat):Int)),.val (.int .u64 ((x*y % 18446744073709551616:Nat):Int))]:=by
 obtain⟨bd,bt,bw,hhi⟩:=Lib.mul64_hi x y hx hy
 have ba:=Lib.half_mul_le (a:=x / 4294967296) (b:=y / 4294967296) (by omega) (by omega)
 have bb:=Lib.half_mul_le (a:=x / 4294967296) (b:=y % 4294967296) (by omega) (by omega)
 have bc:=Lib.half_mul_le (a:=x % 4294967296) (b:=y / 4294967296) (by omega) (by omega)
 have ba':x / 4294967296*(y / 4294967296)<18446744073709551616:=by omega
 have bb':x / 4294967296*(y % 4294967296)<18446744073709551616:=by omega
 have bc':x % 4294967296*(y / 4294967296)<18446744073709551616:=by omega
 have bh1:x / 4294967296*(y / 4294967296)+(x / 4294967296*(y % 4294967296)+x % 4294967296*(y % 4294967296) / 4294967296) / 4294967296<18446744073709551616:=by omega
 have bh:x / 4294967296*(y / 4294967296)+(x / 4294967296*(y % 4294967296)+x % 4294967296*(y % 4294967296) / 4294967296) / 4294967296+((x / 4294967296*(y % 4294967296)+x % 4294967296*(y % 4294967296) / 4294967296) % 4294967296+x % 4294967296*(y / 4294967296)) / 4294967296<18446744073709551616:=by
  generalize (x / 4294967296)*(y / 4294967296)=a at*
  generalize (x / 4294967296)*(y % 4294967296)=b at*
  generalize (x % 4294967296)*(y / 4294967296)=c at*
  generalize (x % 4294967296)*(y % 4294967296)=d at*
  omega
 refine Spec.body Tryz.func153 rfl rfl rfl fun w0 Z0=> ?_
 refine .B ?_
 refine⟨_,.v rfl rfl ?_ (fun _=>rfl) (.v rfl rfl ?_ (fun _=>rfl) .nil)⟩
 ·simp only[zr x hx,zr y hy,Ca,BO,B9,me _ bd,me _ bb',me _ bt,zr _ bt,me _ bc',me _ bw,me _ ba',me _ bh1,me _ bh]
  rw[hhi]
 ·rw[BO,Bu]
theorem lZ (a b:Int)(ha1: -9223372036854775808≤a)(ha2:a≤9223372036854775807)(hb1: -9223372036854775808≤b)(hb2:b≤9223372036854775807):
  Spec Tryz.prog 120 false [.int .i64 a,.int .i64 b] [.val (.int .i64 (mulI a b).1),.val (.bool (mulI a b).2)]:=by
 refine Spec.body Tryz.func120 rfl rfl rfl fun w0 Z0=> ?_
 have hs:=fX [a,b] (by simp)
 refine .B ?_
 refine .V ?_
 refine .C hs ?_
 refine .B ?_
 refine T.cond rfl (fun h=> ?_) (fun h=> ?_)
 ·have e:mulI a b=(0,false):=by
   unfold mulI
   rw[if_neg]
   intro h2
   simp at h h2
   rcases h with h|h
   ·rw[h2.1.1]at h;cases h
   ·rw[h2.1.2]at h;cases h
  rw[e]
  refine .B ?_
  exact r2
 ·have hsa:smallI a=true∧smallI b=true:=by simpa using h
  obtain⟨hsa,hsb⟩:=hsa
  have ha: -4611686018427387904≤a∧a≤4611686018427387904:=by simpa[smallI]using hsa
  have hb: -4611686018427387904≤b∧b≤4611686018427387904:=by simpa[smallI]using hsb
  have hm:=vw a.natAbs b.natAbs (by omega) (by omega)
  have hab:(a*b).natAbs=a.natAbs*b.natAbs:=Int.natAbs_mul a b
  have hp1:(a<0)≠(b<0)→a*b≤0:=by
   intro hne
   by_cases h1:a<0
   ·have h2: ¬b<0:=fun h2=>hne (by simp[h1,h2])
    exact Int.mul_nonpos_of_nonpos_of_nonneg (by omega) (by omega)
   ·have h2:b<0:=by
     by_cases h2:b<0
     ·exact h2
     ·exact absurd (by simp[h1,h2]) hne
    exact Int.mul_nonpos_of_nonneg_of_nonpos (by omega) (by omega)
  have hp2:(a<0)=(b<0)→0≤a*b:=by
   intro heq
   by_cases h1:a<0
   ·have h2:b<0:=by rw[←heq];exact h1
    exact Int.mul_nonneg_of_nonpos_of_nonpos (by omega) (by omega)
   ·have h2: ¬b<0:=by rw[←heq];exact h1
    exact Int.mul_nonneg (by omega) (by omega)
  have hmi:mulI a b=if smallI (a*b)then(a*b,true)else(0,false):=by simp[mulI,hsa,hsb]
  rw[hmi]
  rw[←hab]at hm
  clear hab hmi
  generalize a*b=p at*
  refine .B ?_
  refine .C (oC a ha1 ha2) ?_
  refine .B ?_
  refine .C (oC b hb1 hb2) ?_
  refine .C hm ?_
  refine .B ?_
  refine J.g rfl rfl rfl (fun h4=> ?_) (fun h4=> ?_)
  ·have h4:((p.natAbs / 18446744073709551616:Nat):Int)≠0:=h4
   refine .B ?_
   refine T.ct rfl ?_
   have e:smallI p=false:=by simp[smallI];omega
   rw[e]
   refine .B ?_
   exact r2
  ·have h4: ¬((p.natAbs / 18446744073709551616:Nat):Int)≠0:=h4
   refine .B ?_
   refine T.cd rfl (fun h5=> ?_) (fun h5=> ?_)
   ·have h5:((p.natAbs % 18446744073709551616:Nat):Int) > 4611686018427387904:=h5
    have e:smallI p=false:=by simp[smallI];omega
    rw[e]
    refine .B ?_
    exact r2
   ·have h5: ¬((p.natAbs % 18446744073709551616:Nat):Int) > 4611686018427387904:=h5
    have e:smallI p=true:=by simp[smallI];omega
    rw[e]
    refine .B ?_
    refine T.cond rfl (fun h6=> ?_) (fun h6=> ?_)
    ·have h7:=hp1 (by intro e;simp[e]at h6)
     refine .B ?_
     exact⟨_,.v rfl rfl (by simp only[if_true];rw[ac (n:=((p.natAbs % 18446744073709551616:Nat):Int)) (by omega) (by omega),ac (by omega) (by omega)];congr 1;omega) (fun _=>rfl) (.v rfl rfl rfl (fun _=>rfl) .nil)⟩
    ·have h7:=hp2 (by
      by_cases h1:a<0<;>by_cases h2:b<0<;>simp[h1,h2]at h6⊢)
     refine .B ?_
     exact⟨_,.v rfl rfl (by simp only[if_true];rw[ac (by omega) (by omega)];congr 1;omega) (fun _=>rfl) (.v rfl rfl rfl (fun _=>rfl) .nil)⟩
theorem zM {d:List (Int×Int)}(h:InB d): -1048576≤aw d∧aw d≤1048576∧-1048576≤aL d∧aL d≤1048576:=by
 constructor
 ·cases d with
  |nil=>simp[aw]
  |cons r d=>exact(h r (.head _)).1
 ·constructor
  ·cases d with
   |nil=>simp[aw]
   |cons r d=>exact(h r (.head _)).2.1
  ·unfold aL
   cases hl:d.getLast? with
   |none=>simp
   |some r=>
    have:=h r (List.mem_of_getLast? hl)
    exact⟨this.2.2.1,this.2.2.2⟩
theorem eR {k:Int}(h:CoefOk k): -4398046511104≤k∧k≤4398046511104:=by
 have:=h.2
 unfold aF at this
 omega
theorem jf (d:List (Int×Int))(k:Int)(high:Bool)(hd:DomB d)(hk:CoefOk k):Spec Tryz.prog 233 false [dm d,.int .i64 k,.bool high] [.val (.int .i64 (endW d k high).1),.val (.bool (endW d k high).2)]:=by
 refine Spec.body Tryz.func233 rfl rfl rfl fun w0 Z0=> ?_
 obtain⟨h1,h2,h3,h4⟩:=zM hd.1
 have hk2:=eR hk
 refine T.seq ?_
 refine T.r ?_
 repeat' first|refine J.e rfl rfl rfl rfl ?_|refine J.skip rfl rfl rfl ?_|refine J.bx rfl rfl rfl rfl rfl rfl ?_
 refine J.nil ?_
 refine T.seq ?_
 refine T.r ?_
 repeat' first|refine J.e rfl rfl rfl rfl ?_|refine J.skip rfl rfl rfl ?_|refine J.bx rfl rfl rfl rfl rfl rfl ?_
 refine .C (j7 d) ?_
 repeat' first|refine J.e rfl rfl rfl rfl ?_|refine J.skip rfl rfl rfl ?_|refine J.bx rfl rfl rfl rfl rfl rfl ?_
 refine J.nil ?_
 refine T.mid ⟨[(1,.val false (.int .i64 k)),(8,.val true (.int .i64 (if decide (0<k)==high then aL d else aw d))),(9,.val true (.bool (!d.isEmpty)))],[],0⟩ ?_ ?_
 ·refine .B ?_
  refine T.cond rfl (fun h=> ?_) (fun h=> ?_)
  ·have h:(decide (0<k)==high)=true:=h
   rw[if_pos h]
   refine .B ?_
   refine .C (pZ d (by have:=hd.2.2;omega)) ?_
   refine .B ?_
   exact⟨rfl,[1,8,9],[],rfl,rfl⟩
  ·have h:(decide (0<k)==high)=false:=h
   rw[h]
   refine .B ?_
   exact⟨rfl,[1,8,9],[],rfl,rfl⟩
 ·have hm:=lZ k (if decide (0<k)==high then aL d else aw d) (by omega) (by omega) (by split<;>omega) (by split<;>omega)
  unfold endW
  generalize (if decide (0<k)==high then aL d else aw d)=x at*
  generalize mulI k x=m at*
  refine .B ?_
  refine .C hm ?_
  refine .B ?_
  refine J.gb rfl rfl rfl (fun h=> ?_) (fun h=> ?_)
  ·rw[h]
   refine .B ?_
   exact⟨_,.v rfl rfl rfl (fun _=>rfl) (.v rfl rfl (by simp) (fun _=>rfl) .nil)⟩
  ·rw[h]
   refine .B ?_
   exact r2
structure SumIn (d:aa)(vars coefs:List Int):Prop where
 len:vars.length=coefs.length
 vl:vars.length*8≤140737488355328
 vin: ∀v∈vars,0≤v∧v.toNat<d.length
 ck: ∀k∈coefs,CoefOk k
 dom: ∀x∈d,DomB x
 dl:d.length*24≤140737488355328
theorem nt {d:aa}{vars coefs:List Int}{i:Nat}(h1:i<vars.length)(h2:i<coefs.length):(ab d vars coefs).drop i=(domAt d vars[i],coefs[i])::(ab d vars coefs).drop (i+1):=by
 have hl:i<(ab d vars coefs).length:=by simp[ab];omega
 rw[List.drop_eq_getElem_cons hl]
 simp[ab]
theorem pA {d:aa}{vars coefs:List Int}(h:vars.length=coefs.length):(ab d vars coefs).drop vars.length=[]:=by
 refine List.drop_of_length_le ?_
 simp[ab];omega
theorem ot (d:aa)(vars coefs:List Int)(h:SumIn d vars coefs):Spec Tryz.prog 234 false [aH d,aA vars,aA coefs] [.val (.int .i64 (endsW d vars coefs).1),.val (.int .i64 (endsW d vars coefs).2.1),.val (.bool (endsW d vars coefs).2.2)]:=by
 refine Spec.body Tryz.func234 rfl rfl rfl fun w0 Z0=> ?_
 obtain⟨hlen,hvl,hvin,hck,hdom,hdl⟩:=h
 refine .B ?_
 refine T.K (T.ind (fun s:Nat×Int×Int=>⟨[(0,.val false (aH d)),(2,.val false (aA coefs)),(9,.val true (.int .i64 s.2.1)),(10,.val true (.int .i64 s.2.2)),(17,.val false (aA vars)),(18,.val true (.int .i64 (vars.map cI).length)),(19,.val true (.int .i64 s.1))],[],0⟩)
  (fun s=>s.1≤vars.length∧j9 ((ab d vars coefs).drop s.1) s.2.1 s.2.2=endsW d vars coefs) (fun s=>vars.length-s.1) (0,0,0) ⟨by simp,rfl⟩ (fun _ _ h=>h) ?_)
 rintro⟨i,lo,hi⟩ ⟨hil,he⟩ ih
 simp only at hil he
 dsimp only
 refine .B ?_
 refine T.cd rfl (fun h1=> ?_) (fun h1=> ?_)
 ·have h1:i<vars.length:=by simpa using h1
  have h2:i<coefs.length:=by omega
  have hv:=hvin _ (List.getElem_mem h1)
  have hk:=hck _ (List.getElem_mem h2)
  have hx:=hdom _ (af hv.2)
  have hrow:(d.map cD)[vars[i].toNat]? =some (cD (domAt d vars[i])):=by simp[ak hv.2]
  rw[nt h1 h2,j9]at he
  refine .B ?_
  refine .I (r:=cI vars[i]) (bq h1) ?_
  refine .B ?_
  refine J.i rfl rfl rfl rfl rfl rfl rfl rfl rfl (r:=cD (domAt d vars[i])) hv.1 hrow rfl ?_
  refine .B ?_
  refine .I (r:=cI coefs[i]) (bq h2) ?_
  refine .B ?_
  refine J.cc rfl rfl rfl rfl rfl (jf _ _ false hx hk) rfl rfl ?_
  refine .B ?_
  refine J.i rfl rfl rfl rfl rfl rfl rfl rfl rfl (r:=cD (domAt d vars[i])) hv.1 hrow rfl ?_
  refine .B ?_
  refine .I (r:=cI coefs[i]) (bq h2) ?_
  refine .B ?_
  refine J.cc rfl rfl rfl rfl rfl (jf _ _ true hx hk) rfl rfl ?_
  generalize endW (domAt d vars[i]) coefs[i] false=e1 at*
  generalize endW (domAt d vars[i]) coefs[i] true=e2 at*
  obtain⟨n1,b1⟩:=e1
  refine .B ?_
  cases b1
  ·simp only[Bool.false_eq_true,if_false]at he
   refine .B ?_
   refine T.ct rfl ?_
   refine .B ?_
   exact⟨_,.v rfl rfl (by rw[←he]) (fun _=>rfl) (.v rfl rfl (by rw[←he]) (fun _=>rfl) (.v rfl rfl (by rw[←he]) (fun _=>rfl) .nil))⟩
  ·simp only[if_true]at he
   refine .B ?_
   refine T.cf rfl ?_
   refine .B ?_
   rw[aj (l:=vars.length) (by omega) (by omega)]
   exact T.K (ih (i+1,wr (lo+n1),wr (hi+e2.1)) ⟨by simp only;omega,he⟩ (by simp only;omega))
 ·have h1:i=vars.length:=by simp at h1;omega
  subst h1
  rw[pA hlen]at he
  refine .B ?_
  exact⟨_,.v rfl rfl (by rw[←he];rfl) (fun _=>rfl) (.v rfl rfl (by rw[←he];rfl) (fun _=>rfl) (.v rfl rfl (by rw[←he];rfl) (fun _=>rfl) .nil))⟩
theorem xX (d:aa)(hl:d.length*24≤140737488355328)(hx: ∀x∈d,x.length*16≤140737488355328):Spec Tryz.prog 199 false [aH d] [.own 54 1 ((if []∈d then []else d).map cD),.val (.bool (!decide ([]∈d)))]:=by
 refine Spec.body Tryz.func199 rfl rfl rfl fun w0 Z0=> ?_
 refine .B ?_
 refine T.sub (Rel.own0 (s:=4) 54 1 rfl) ?_
 refine T.K (T.listI d (fun pre=>[]∉pre) (fun n pre post=>⟨[(4,.ref 0),(7,.val false (aH d)),(8,.val true (.int .i64 (d.map cD).length)),(9,.val true (.int .i64 n))],[(0,some (.sl 54 1 true (pre.map cD)))],1⟩) (fun _ _ h=>h) (by simp) ?_ ?_)
 ·rintro n pre x post h hn hi ih
  have hlt:=bZ h hn
  have hxl:=hx x (by rw[h];simp)
  refine .B ?_
  refine T.ct2 rfl (bY h hn) ?_
  refine .B ?_
  refine .I (r:=cD x) (aP h hn) ?_
  refine .B ?_
  refine T.cd rfl (fun h1=> ?_) (fun h1=> ?_)
  ·have hx:x=[]:=by simp at h1;exact h1
   have hm: []∈d:=by rw[h,hx];simp
   rw[if_pos hm,decide_eq_true hm]
   refine .B ?_
   exact⟨_,.ownN rfl (.v rfl rfl rfl (fun _=>rfl) .nil)⟩
  ·have hx:x≠[]:=fun e=>h1 (by rw[e];rfl)
   refine .B ?_
   refine .C (bN x (by omega)).frz ?_
   refine .B ?_
   refine .V ?_
   refine .B ?_
   refine J.aD rfl rfl rfl rfl rfl rfl rfl rfl rfl rfl rfl rfl rfl rfl rfl rfl rfl rfl rfl (by omega) ?_
   refine .B ?_
   rw[aj hlt (by omega)]
   exact T.K (ih (by simp[hi,Ne.symm hx]))
 ·intro hi
  refine .B ?_
  refine T.cf2 rfl bl ?_
  refine .B ?_
  exact⟨_,.o rfl rfl (by rw[if_neg hi]) (fun _=> .inl rfl) (by simp) (.v rfl rfl (by simp[hi]) (fun _=>rfl) .nil)⟩
def gj (a b:Int):Int:=if a.tmod b<0 then wr (wr (a.tdiv b)-1)else wr (a.tdiv b)
theorem oK (a b:Int)(hb:b≠0):Spec Tryz.prog 235 false [.int .i64 a,.int .i64 b] [.val (.int .i64 (gj a b))]:=by
 refine Spec.body Tryz.func235 rfl rfl rfl fun w0 Z0=> ?_
 unfold gj
 refine .B ?_
 refine J.qu rfl rfl rfl rfl rfl rfl hb ?_
 refine .B ?_
 refine J.rm rfl rfl rfl rfl rfl rfl hb ?_
 refine .B ?_
 refine T.cd rfl (fun h=> ?_) (fun h=> ?_)
 ·have h:a.tmod b<0:=h
  refine .B ?_
  exact⟨_,.v rfl rfl (by rw[if_pos h]) (fun _=>rfl) .nil⟩
 ·have h: ¬a.tmod b<0:=h
  refine .B ?_
  exact⟨_,.v rfl rfl (by rw[if_neg h]) (fun _=>rfl) .nil⟩
def ay (l:List Int):List Int:=l.map fun k=>wr (0-k)
theorem kR (l:List Int)(hl:l.length*8≤140737488355328):Spec Tryz.prog 201 false [aA l] [.own 3 1 ((ay l).map cI)]:=by
 refine Spec.body Tryz.func201 rfl rfl rfl fun w0 Z0=> ?_
 refine .B ?_
 refine T.sub (Rel.own0 (s:=3) 3 1 rfl) ?_
 refine T.K (T.list l (fun n pre post=>⟨[(3,.ref 0),(6,.val false (aA l)),(7,.val true (.int .i64 (l.map cI).length)),(8,.val true (.int .i64 n))],[(0,some (.sl 3 1 true ((ay pre).map cI)))],1⟩) (fun _ _ h=>h) ?_ ?_)
 ·rintro n pre x post h hn ih
  have hlt:=bZ h hn
  refine .B ?_
  refine T.ct2 rfl (bY h hn) ?_
  refine .B ?_
  refine .I (r:=cI x) (aP h hn) ?_
  refine .B ?_
  refine .V ?_
  refine J.aI rfl rfl rfl rfl rfl rfl rfl rfl rfl rfl rfl rfl rfl rfl rfl rfl rfl rfl rfl (by simp[ay];omega) ?_
  refine .B ?_
  rw[aj hlt (by omega),show ay pre++[IntKind.i64.wrap (0-x)]=ay (pre++[x])by simp[ay]]
  exact T.K ih
 ·refine .B ?_
  refine T.cf2 rfl bl ?_
  refine .B ?_
  exact⟨_,.o rfl rfl rfl (fun _=> .inl rfl) (by simp) .nil⟩
theorem dO (l:List Int)(hl:l.length*8≤140737488355328):Spec Tryz.prog 79 false [aA l] [.own 3 1 (l.map cI)]:=by
 refine Spec.body Tryz.func79 rfl rfl rfl fun w0 Z0=> ?_
 refine .B ?_
 refine J.nc rfl rfl rfl rfl rfl rfl rfl fun b hb=> ?_
 refine .B ?_
 cases b
 ·refine T.cf rfl ?_
  refine .B ?_
  refine .O ?_
  refine .B ?_
  refine J.a rfl rfl rfl rfl rfl rfl rfl rfl rfl rfl rfl rfl rfl rfl rfl rfl rfl ou (by show(0+List.length _)*8≤_;simp;omega) ?_
  refine .B ?_
  exact⟨_,.o rfl rfl rfl (fun _=> .inr vQ) (by simp) .nil⟩
 ·have:l=[]:=by simpa using hb rfl
  subst this
  refine T.ct rfl ?_
  refine .B ?_
  exact⟨_,.ownN rfl .nil⟩
def fC (d:List (Int×Int)):Int:=d.foldl (fun n r=>wr (n+wr (wr (r.2-r.1)+1))) 0
theorem gu (d:List (Int×Int))(hl:d.length*8≤140737488355328):Spec Tryz.prog 109 false [dm d] [.val (.int .i64 (fC d))]:=by
 refine Spec.body Tryz.func109 rfl rfl rfl fun w0 Z0=> ?_
 refine .B ?_
 refine T.K (T.list d (fun n pre post=>⟨[(3,.val true (.int .i64 (fC pre))),(6,.val false (dm d)),(7,.val true (.int .i64 (d.map cR).length)),(8,.val true (.int .i64 n))],[],0⟩) (fun _ _ h=>h) ?_ ?_)
 ·rintro n pre x post h hn ih
  have hlt:=bZ h hn
  refine .B ?_
  refine T.ct2 rfl (bY h hn) ?_
  refine .B ?_
  refine .I (r:=cR x) (aP h hn) ?_
  refine .B ?_
  refine .L ?_
  refine .B ?_
  refine .W ?_
  refine .B ?_
  rw[aj hlt (by omega),show IntKind.i64.wrap (fC pre+IntKind.i64.wrap (IntKind.i64.wrap (x.2-x.1)+1))=fC (pre++[x])by simp[fC]]
  exact T.K ih
 ·refine .B ?_
  refine T.cf2 rfl bl ?_
  refine .B ?_
  exact r1
def cN (l:List Int):List Int:=l.mergeSort fun x y=>decide (x≤y)
theorem oE {w:World}{Z:Nat→Prop}: ∀{xs:List Int} {vs:List Value},L2 (Rep w Z) vs (xs.map (PV.int .i64))→vs=xs.map (Value.int .i64)
 | [],_,.nil=>rfl
 |x::xs,_,.cons h h2=>by
  cases h
  rw[oE h2];rfl
theorem lG {w:World}{Z:Nat→Prop}: ∀(xs:List Int),L2 (Rep w Z) (xs.map (Value.int .i64)) (xs.map (PV.int .i64))
 | []=> .nil
 |x::xs=> .cons (.int _ _) (lG xs)
theorem jU (l:List Int)(hl:l.length*8≤140737488355328):SpecM Tryz.prog 86 3 1 (l.map cI) [] ((cN l).map cI) []:=by
 have hsl:(cN l).length=l.length:=List.length_mergeSort ..
 refine⟨⟨_,Tryz.func86,rfl,rfl⟩,fun p hp=>(by cases hp),fun w Z1 v0 vs ho hz hvs=> ?_⟩
 cases hvs
 obtain⟨xs,hrow,hx,h1,h2⟩:=ho
 rw[show(l.map cI).flatten=l.map (PV.int .i64)from qz _ l]at hx
 obtain rfl:=oE hx
 rw[List.length_map]at hrow
 obtain⟨hln,hrow⟩:=hrow
 rcases hrow with ⟨rfl,hnil⟩|⟨g,cap,cur,rfl,_,hb,hcap,hmax,hsz,htk⟩
 ·obtain rfl:l=[]:=by simpa using hnil
  refine(mP none 0 w).mono ?_
  rintro e w' ⟨rfl,rfl⟩
  refine⟨[],rfl,rfl,rfl,rfl,Nat.le_refl _,fun _ _ _=>rfl,?_,.nil⟩
  rw[show cN []=[]from List.mergeSort_nil ..]
  refine⟨[],⟨rfl,.inl ⟨rfl,rfl⟩⟩,.nil,?_,?_⟩<;>(intro r hr;cases hr)
 ·have hg:g<w.heap.size:=(Array.getElem?_eq_some_iff.1 hb).1
  rw[Nat.mul_one]at htk
  refine(uR g 0 cap l w (holds_of_blockI hb htk) hg (by omega)).mono ?_
  rintro e w' ⟨rfl,n,os,rfl⟩
  have hgr:=grownBy_sortedI (n:=n) (os:=os) (w:=w) (g:=g) (cN l).toArray
  refine⟨[],rfl,hgr.os,hgr.tape,hgr.output,hgr.size,fun b hb1 hb2=>hgr.block b hb1 (fun e=>hb2 (by simpa[VB,au]using e.symm)),?_,.nil⟩
  have hr:=ownsRow_sortedI (base:=0) (n:=n) (os:=os) (ts:=cN l) hsl (Nat.zero_le _) hb hcap hmax hsz
  refine⟨(cN l).map (Value.int .i64),?_,?_,fun r hr=>by obtain⟨x,_,rfl⟩:=List.mem_map.1 hr;rfl,fun r hr p hp=>by obtain⟨x,_,rfl⟩:=List.mem_map.1 hr;simp[cI]at hp;rw[hp];rfl⟩
  ·rw[List.length_map,hsl];exact hr
  ·rw[show((cN l).map cI).flatten=(cN l).map (PV.int .i64)from qz _ _]
   exact lG _
theorem kz (l:List Int)(hl:l.length*8≤140737488351232):Spec Tryz.prog 220 false [.fn (.func 240) [] [.ptr [aA l]]] [.own 3 1 ((cN l).map cI)]:=by
 refine Spec.body Tryz.func220 rfl rfl rfl fun w0 Z0=> ?_
 have hc:=ln (g:=240) (caps:=[.ptr [aA l]]) (xs:=l) (enters_of Tryz.func240 (by kernel_rfl) rfl) (fun w Z us h=>by
  cases h with
  |cons h1 h2=>cases h2;exact o9 0 0 l hl w _ h1) (by omega)
 refine .B ?_
 refine .C hc ?_
 refine .B ?_
 refine J.cm rfl rfl rfl rfl rfl rfl rfl rfl rfl (jU l (by omega)) rfl rfl rfl ?_
 refine .B ?_
 exact⟨_,.o rfl rfl rfl (fun _=> .inl rfl) (by simp) .nil⟩
def domOfP (l:List Int):List (Int×Int)×Int:=if l.all aG=true then(if fC (packG (cN l)) > 4096 then([],2)else(packG (cN l),0))else([],20)
theorem kd (l:List Int)(hl:l.length*16≤140737488351232):Spec Tryz.prog 185 false [aA l] [.own 53 2 ((domOfP l).1.map cR),.val (.int .i64 (domOfP l).2)]:=by
 refine Spec.body Tryz.func185 rfl rfl rfl fun w0 Z0=> ?_
 have hc:=oW (p:=fun v=> !aG v) (f:=226) l (fun v _=>zi v) (by omega)
 have hsl:(cN l).length=l.length:=List.length_mergeSort ..
 have hpg:=pQ (cN l)
 refine .B ?_
 refine .C hc ?_
 refine .B ?_
 have hany:(l.any fun v=> !aG v)= !l.all aG:=by
  rw[List.not_all_eq_any_not]
 rw[hany]
 unfold domOfP
 cases ha:l.all aG with
 |false=>
  refine T.ct rfl ?_
  refine .B ?_
  exact⟨_,.ownN rfl (.v rfl rfl rfl (fun _=>rfl) .nil)⟩
 |true=>
  refine T.cf rfl ?_
  have hvs: ∀v∈cN l,aG v=true:=fun v hv=>List.all_eq_true.1 ha v ((List.mergeSort_perm l _).mem_iff.1 hv)
  refine .B ?_
  refine .C (nw l) ?_
  refine .B ?_
  refine .C (kz l (by omega)).frz ?_
  refine .B ?_
  refine .C (sT (cN l) hvs (by omega)) ?_
  refine .B ?_
  refine .C (gu (packG (cN l)) (by omega)) ?_
  refine .B ?_
  refine T.cd rfl (fun h=> ?_) (fun h=> ?_)
  ·rw[if_pos rfl,if_pos h]
   refine .B ?_
   exact⟨_,.ownN rfl (.v rfl rfl rfl (fun _=>rfl) .nil)⟩
  ·rw[if_pos rfl,if_neg h]
   refine .B ?_
   exact⟨_,.o rfl rfl rfl (fun _=> .inl rfl) (by simp) (.v rfl rfl rfl (fun _=>rfl) .nil)⟩
theorem xY (d:aa)(vs:List Int)(hl:vs.length*24≤140737488355328):(listsP d vs).length*24≤140737488355328∧∀x∈listsP d vs,x.length*8≤140737488355328:=by
 refine⟨by rw[listsP,List.length_map];exact hl,fun x hx=> ?_⟩
 obtain⟨v,_,rfl⟩:=List.mem_map.1 hx
 have:=pq (d.getD v.toNat [])
 omega
def mD (L:List (List Int))(i:Nat):List Int:=(L.getD i []).filter fun x=>(dk (L.set i [x])).2
def kv (L:List (List Int)):List Int→Nat→aa→aa
 | [],_,out=>out
 |v::vs,i,out=>kv L vs (i+1) (out.set v.toNat (domOfP (mD L i)).1)
def nW (d:aa)(vs:List Int):Option aa:=if []∈d then none else if(dk (listsP d vs)).2=true then some (kv (listsP d vs) vs 0 d)else none
theorem r8 (d:aa)(c:Con)(hd:i7 d)(hb: ∀x∈d,InB x)(hx: ∀x∈d,x.length*16≤140737488351232)(hv: ∀v∈c.vars,0≤v∧v.toNat<d.length)(hl:c.vars.length*24≤140737488355328):Spec Tryz.prog 133 false [aH d,.agg (cC c)] (aU (nW d c.vars)):=by
 refine Spec.body Tryz.func133 rfl rfl rfl fun w0 Z0=> ?_
 obtain⟨hd1,hd2⟩:=hd
 generalize hR:nW d c.vars=R
 unfold nW at hR
 refine .B ?_
 refine T.sub (Rel.own0 (s:=6) 54 1 rfl) ?_
 refine T.K (T.listI d (fun pre=>[]∉pre) (fun n pre post=>⟨[(0,.val false (aH d)),(3,.optr 0 0 0 0),(6,.ref 1),(20,.val false (aH d)),(21,.val true (.int .i64 (d.map cD).length)),(22,.val true (.int .i64 n))],[(0,some (.box false (cC c))),(1,some (.sl 54 1 true (pre.map cD)))],2⟩) (fun _ _ h=>h) (by simp) ?_ ?_)
 ·rintro n pre x post h hn hi ih
  have hlt:=bZ h hn
  have hxl:=hd2 x (by rw[h];simp)
  refine .B ?_
  refine T.ct2 rfl (bY h hn) ?_
  refine .B ?_
  refine .I (r:=cD x) (aP h hn) ?_
  refine .B ?_
  refine T.cd rfl (fun h1=> ?_) (fun h1=> ?_)
  ·have hx:x=[]:=by simp at h1;exact h1
   have:R=none:=by rw[if_pos (by rw[h,hx];simp)]at hR;exact hR.symm
   subst this
   refine .B ?_
   exact⟨_,.ownN rfl (.v rfl rfl rfl (fun _=>rfl) .nil)⟩
  ·have hx:x≠[]:=fun e=>h1 (by rw[e];rfl)
   refine .B ?_
   refine .C (bN x (by omega)).frz ?_
   refine .B ?_
   refine .V ?_
   refine .B ?_
   refine J.aD rfl rfl rfl rfl rfl rfl rfl rfl rfl rfl rfl rfl rfl rfl rfl rfl rfl rfl rfl (by omega) ?_
   refine .B ?_
   rw[aj hlt (by omega)]
   exact T.K (ih (by simp[hi,Ne.symm hx]))
 ·intro hi
  rw[if_neg hi]at hR
  have hlo:=xY d c.vars hl
  have hlen:(listsP d c.vars).length=c.vars.length:=List.length_map ..
  have hL4: ∀x∈listsP d c.vars,x.length≤4097:=fun x hx=>by
   obtain⟨v,_,rfl⟩:=List.mem_map.1 hx
   exact pq _
  have hsl:=(r9 d c.vars ⟨hd1,hd2⟩ hb hx hv hl).frz
  generalize listsP d c.vars=L at*
  have hsp:=kP L hlo.1 hlo.2
  refine .B ?_
  refine T.cf2 rfl bl ?_
  refine .B ?_
  refine .C hsl ?_
  refine .B ?_
  have hR2:(dk L).2=(c5 L).isSome:=by unfold dk;cases c5 L<;>rfl
  rw[hR2]at hR
  cases hm:c5 L with
  |none=>
   rw[hm]at hsp hR
   dsimp only at hsp
   obtain rfl:R=none:=by simpa using hR.symm
   refine J.co (qs:=[]) (cs2:=[]) false [] [] rfl rfl rfl rfl rfl rfl hsp trivial rfl rfl rfl rfl rfl rfl rfl fun ns hns=> ?_
   obtain rfl:ns=[]:=List.eq_nil_of_length_eq_zero hns
   refine .B ?_
   refine T.ct rfl ?_
   refine .B ?_
   exact⟨_,.ownN rfl (.v rfl rfl rfl (fun _=>rfl) .nil)⟩
  |some b0=>
  rw[hm]at hsp hR
  dsimp only at hsp
  obtain rfl:R=some (kv L c.vars 0 d):=by simpa using hR.symm
  refine J.co (qs:=[]) (cs2:=[]) false [] [1001,1002] rfl rfl rfl rfl rfl rfl hsp trivial rfl rfl rfl rfl rfl rfl rfl fun ns hns=> ?_
  obtain⟨pm,pb,rfl⟩: ∃pm pb,ns=[pm,pb]:=by
   match ns,hns with
   | [a,b],_=>exact⟨a,b,rfl⟩
  refine .B ?_
  refine T.cf rfl ?_
  refine .B ?_
  refine T.K (T.ind (fun x:Nat×aa=>⟨[(3,.optr 0 0 0 0),(6,.ref 1),(9,.val true (bT L)),(47,.val false (aA c.vars)),(48,.val true (.int .i64 (c.vars.map cI).length)),(49,.val true (.int .i64 x.1))],[(0,some (.box false (cC c))),(1,some (.sl 54 1 true (x.2.map cD)))],2⟩)
   (fun x=>x.1≤c.vars.length∧x.2.length=d.length∧kv L (c.vars.drop x.1) x.1 x.2=kv L c.vars 0 d) (fun x=>c.vars.length-x.1) (0,d) ⟨by simp,rfl,rfl⟩ (fun _ _ h=>h) ?_)
  rintro⟨k,out⟩ ⟨hk,hol,hst⟩ ih
  simp only at hk hol hst
  dsimp only
  refine .B ?_
  refine T.cd rfl (fun h1=> ?_) (fun h1=> ?_)
  rotate_left
  ·have h1:k=c.vars.length:=by simp at h1;omega
   subst h1
   rw[List.drop_length,kv]at hst
   subst hst
   refine .B ?_
   exact⟨_,.o rfl rfl rfl (fun _=> .inl rfl) (by simp) (.v rfl rfl rfl (fun _=>rfl) .nil)⟩
  have h1:k<c.vars.length:=by simpa using h1
  rw[List.drop_eq_getElem_cons h1,kv]at hst
  have hvk:=hv _ (List.getElem_mem h1)
  have hvr:(c.vars.map cI)[((k:Nat):Int).toNat]? =some (cI c.vars[k]):=bq h1
  have hkL:k<L.length:=by omega
  have hrow:(L.map cL)[((k:Nat):Int).toNat]? =some (cL (L.getD k [])):=by simp[hkL]
  have hml:(L.getD k []).length≤4097:=by
   rw[List.getD_eq_getElem?_getD,List.getElem?_eq_getElem hkL];exact hL4 _ (List.getElem_mem hkL)
  have hw1:IntKind.i64.wrap ((k:Int)+1)=((k+1:Nat):Int):=aj (l:=c.vars.length) h1 (by omega)
  refine .B ?_
  refine .I (r:=cI c.vars[k]) hvr ?_
  generalize c.vars[k]=v at*
  refine .B ?_
  refine J.sub (Rel.own0 (s:=14) 3 1 rfl) ?_
  refine .I (r:=cL (L.getD k [])) hrow ?_
  refine .B ?_
  have hlf:mD L k=(L.getD k []).filter fun x=>(dk (L.set k [x])).2:=rfl
  generalize L.getD k []=Lk at*
  have hlL:(mD L k).length≤Lk.length:=by rw[hlf];exact List.length_filter_le ..
  refine T.K (T.list Lk (fun n pre post=>⟨[(3,.optr 0 0 0 0),(6,.ref 1),(9,.val true (bT L)),(12,.val true (.int .i64 k)),(13,.val true (.int .i64 v)),(14,.ref 2),(47,.val false (aA c.vars)),(48,.val true (.int .i64 (c.vars.map cI).length)),(49,.val true (.int .i64 k)),(57,.val true (aA Lk)),(58,.val true (.int .i64 (Lk.map cI).length)),(59,.val true (.int .i64 n))],
    [(0,some (.box false (cC c))),(1,some (.sl 54 1 true (out.map cD))),(2,some (.sl 3 1 true ((pre.filter fun x=>(dk (L.set k [x])).2).map cI)))],3⟩) (fun _ _ h=>h) ?_ ?_)
  ·rintro n pre x post h hn ih2
   have hlt:=bZ h hn
   have hfl:(pre.filter fun x=>(dk (L.set k [x])).2).length≤pre.length:=List.length_filter_le ..
   have hwn:IntKind.i64.wrap ((n:Int)+1)=((n+1:Nat):Int):=aj hlt (by omega)
   have hset: ∀y∈L.set k [x],y.length*8≤140737488355328:=fun y hy=>by
    rcases List.mem_or_eq_of_mem_set hy with hy|rfl
    ·exact hlo.2 y hy
    ·simp
   have hsp2:=kP (L.set k [x]) (by rw[List.length_set];exact hlo.1) hset
   have hR3:(dk (L.set k [x])).2=(c5 (L.set k [x])).isSome:=by unfold dk;cases c5 (L.set k [x])<;>rfl
   refine .B ?_
   refine T.ct2 rfl (bY h hn) ?_
   refine .B ?_
   refine .I (r:=cI x) (aP h hn) ?_
   refine .B ?_
   refine .C (um L hlo.1) ?_
   refine .B ?_
   refine .V ?_
   refine .B ?_
   refine J.io rfl rfl rfl rfl rfl rfl rfl rfl rfl (by omega) (by rw[List.length_map];omega) rfl ?_
   refine .B ?_
   refine J.w1 rfl rfl rfl rfl rfl rfl rfl rfl rfl rfl rfl (z:=[x]) (fun _=>rfl) (by omega) ?_
   refine .B ?_
   refine J.sub (Rel.frz (s:=71) (fun _ h=>h) rfl rfl) ?_
   cases hm2:c5 (L.set k [x])with
   |none=>
    rw[hm2]at hsp2 hR3
    dsimp only at hsp2
    have hx2:(pre++[x]).filter (fun x=>(dk (L.set k [x])).2)=pre.filter fun x=>(dk (L.set k [x])).2:=by
     rw[List.filter_append,List.filter_cons_of_neg (by rw[hR3];simp)];simp
    rw[hx2]at ih2
    refine J.co (qs:=[]) (cs2:=[]) false [] [] rfl rfl rfl rfl rfl rfl hsp2 trivial rfl rfl rfl rfl rfl rfl rfl fun ns hns=> ?_
    obtain rfl:ns=[]:=List.eq_nil_of_length_eq_zero hns
    refine .B ?_
    refine T.cf rfl ?_
    refine .B ?_
    rw[hwn]
    exact T.K ih2
   |some b2=>
    rw[hm2]at hsp2 hR3
    dsimp only at hsp2
    have hx2:(pre++[x]).filter (fun x=>(dk (L.set k [x])).2)=pre.filter (fun x=>(dk (L.set k [x])).2)++[x]:=by
     rw[List.filter_append,List.filter_cons_of_pos (by rw[hR3];simp)];simp
    rw[hx2]at ih2
    refine J.co (qs:=[]) (cs2:=[]) false [] [1003,1004] rfl rfl rfl rfl rfl rfl hsp2 trivial rfl rfl rfl rfl rfl rfl rfl fun ns hns=> ?_
    obtain⟨pm2,pb2,rfl⟩: ∃pm2 pb2,ns=[pm2,pb2]:=by
     match ns,hns with
     | [a,b],_=>exact⟨a,b,rfl⟩
    refine .B ?_
    refine T.ct rfl ?_
    refine .B ?_
    refine .V ?_
    refine .B ?_
    refine J.aI rfl rfl rfl rfl rfl rfl rfl rfl rfl rfl rfl rfl rfl rfl rfl rfl rfl rfl rfl (by omega) ?_
    refine .B ?_
    rw[hwn]
    exact T.K ih2
  ·rw[←hlf]
   refine .B ?_
   refine T.cf2 rfl bl ?_
   refine .B ?_
   refine .C (kd (mD L k) (by omega)).frz ?_
   refine .B ?_
   refine J.io rfl rfl rfl rfl rfl rfl rfl rfl rfl hvk.1 (by rw[List.length_map,hol];exact hvk.2) rfl ?_
   refine .B ?_
   refine J.w1 rfl rfl rfl rfl rfl rfl rfl rfl rfl rfl rfl (z:=(domOfP (mD L k)).1) (fun _=>rfl) (by rw[hol];exact hvk.2) ?_
   refine .B ?_
   rw[hw1]
   exact T.K (ih (k+1,out.set v.toNat (domOfP (mD L k)).1) ⟨by omega,by rw[List.length_set];exact hol,hst⟩ (by show _-_<_-_;omega))
structure ValD (d:aa):Prop where
 small:d.length*24≤140737488355328
 inb: ∀x∈d,InB x
 len: ∀x∈d,x.length*16≤140737488351232
 vals: ∀x∈d,(vals x).length≤4097
theorem ValD.dom {d:aa}(h:ValD d){v:Int}(hv:v.toNat<d.length):domAt d v∈d:=by
 unfold domAt
 rw[List.getD_eq_getElem?_getD,List.getElem?_eq_getElem hv];exact List.getElem_mem hv
def vR (d:aa)(vars:List Int):Nat→List Int→Bool
 |0,_=>true
 |n+1,had=>(vals (domAt d (vars.getD had.length 0))).any fun x=> !decide (x∈had)&&vR d vars n (had++[x])
def iB (d:aa)(vars:List Int)(v:Int):List Int:=(vals (domAt d v)).filter fun x=>vR (d.set v.toNat [(x,x)]) vars vars.length []
def iJ (d:aa)(vars:List Int):List Int→aa→aa
 | [],out=>out
 |v::vs,out=>iJ d vars vs (out.set v.toNat (cW (iB d vars v)))
def gT (d:aa)(vars:List Int):Option aa:=if []∈d then none else if []∈iJ d vars vars d then none else some (iJ d vars vars d)
theorem ValD.one {d:aa}(h:ValD d)(i:Nat){x:Int}(hx: -1048576≤x∧x≤1048576):ValD (d.set i [(x,x)]):=by
 have key: ∀y∈d.set i [(x,x)],y∈d∨y=[(x,x)]:=fun y hy=>List.mem_or_eq_of_mem_set hy
 refine⟨by rw[List.length_set];exact h.small,fun y hy=> ?_,fun y hy=> ?_,fun y hy=> ?_⟩
 ·rcases key y hy with hy|rfl
  ·exact h.inb y hy
  ·intro r hr
   obtain rfl:=List.mem_singleton.1 hr
   exact⟨hx.1,hx.2,hx.1,hx.2⟩
 ·rcases key y hy with hy|rfl
  ·exact h.len y hy
  ·simp
 ·rcases key y hy with hy|rfl
  ·exact h.vals y hy
  ·have:Go.Proofs.YtopcjbahjjhdmaaGreat.vals [(x,x)]=[x]:=by
    show rng x x++[]=_
    rw[cy];rfl
   rw[this];simp
def AM (vars:List Int):Con:=⟨1,vars,[],0,0,[],0⟩
theorem vf {l:List Int}(h:Up l):packG l=cW l:=by
 have key: ∀(l:List Int) (o:List (Int×Int)) (lo x:Int),Up (x::l)→l.foldl fV (o++[(lo,x)])=o++dI lo x l:=by
  intro l
  induction l with
  |nil=>intro o lo x _;rfl
  |cons y l ih=>
   intro o lo x hu
   have h1:=List.pairwise_cons.1 hu
   have hxy:=h1.1 y (.head _)
   rw[List.foldl_cons,gU,if_neg (by omega),dI]
   by_cases e:y=x+1
   ·rw[if_pos (by omega),if_pos e,ih _ _ _ h1.2]
   ·rw[if_neg (by omega),if_neg e,ih _ _ _ h1.2,List.append_assoc];rfl
 cases l with
 |nil=>rfl
 |cons x l=>
  show l.foldl fV (fV [] x)=_
  rw[pP]
  exact key l [] x x h
theorem yQ {l:List Int}(h:Up l):cN l=l:=List.mergeSort_of_pairwise (h.imp fun h=>by simp;omega)
theorem nC {d:List (Int×Int)}(h:Fine d):fC d=((vals d).length:Nat):=by
 have hb:=h.domB.1
 have hf:=h.few
 have hok:=h.ok
 have key: ∀(d:List (Int×Int)) (n:Nat),InB d→(∀r∈d,r.1≤r.2)→n+(vals d).length≤1000000000000000→d.foldl (fun n r=>wr (n+wr (wr (r.2-r.1)+1))) (n:Int)=((n+(vals d).length:Nat):Int):=by
  intro d
  induction d with
  |nil=>intro n _ _ _;simp[vals]
  |cons r d ih=>
   intro n hb ho hl
   have h1:=hb r (.head _)
   have h2:=ho r (.head _)
   rw[bg,List.length_append,show(rng r.1 r.2).length=(r.2+1-r.1).toNat by simp[rng]]at hl⊢
   rw[List.foldl_cons]
   have e:wr ((n:Int)+wr (wr (r.2-r.1)+1))=((n+(r.2+1-r.1).toNat:Nat):Int):=by
    simp only[wr]
    rw[ac (n:=r.2-r.1) (by omega) (by omega),ac (n:=r.2-r.1+1) (by omega) (by omega),ac (by omega) (by omega)]
    omega
   rw[e,ih _ (fun r hr=>hb r (.tail _ hr)) (fun r hr=>ho r (.tail _ hr)) (by omega)]
   congr 1
   omega
 have:=key d 0 hb hok.1 (by omega)
 simpa[fC]using this
theorem jY {l:List Int}(h:Up l)(hv: ∀v∈l,-1048576≤v∧v≤1048576)(hn:l.length≤4096):Fine (cW l):=by
 refine⟨fU h,?_,?_⟩
 ·rw[bG h];exact hv
 ·rw[bG h];omega
theorem qD {l:List Int}(h:Up l)(hv: ∀v∈l,-1048576≤v∧v≤1048576)(hn:l.length≤4096):domOfP l=(cW l,0):=by
 unfold domOfP
 rw[yQ h,vf h,nC (jY h hv hn),bG h,if_pos (List.all_eq_true.2 fun v hm=>by simpa[aG]using hv v hm),if_neg (by omega)]
structure FewD (d:aa):Prop where
 small:d.length*24≤140737488355328
 fine: ∀x∈d,Fine x
 few: ∀x∈d,(vals x).length≤4096
theorem FewD.valD {d:aa}(h:FewD d):ValD d:=⟨h.small,fun x hx=>(h.fine x hx).domB.1,fun x hx=>by have:=(h.fine x hx).len;omega,fun x hx=>by have:=h.few x hx;omega⟩
theorem yF {x:List (Int×Int)}(h:(vals x).length≤4096):pt x=vals x:=List.take_of_length_le (by omega)
theorem FewD.at {d:aa}(h:FewD d)(v:Int):(vals (domAt d v)).length≤4096∧Up (vals (domAt d v))∧∀x∈vals (domAt d v),-1048576≤x∧x≤1048576:=by
 unfold domAt
 by_cases hv:v.toNat<d.length
 ·rw[List.getD_eq_getElem?_getD,List.getElem?_eq_getElem hv]
  have hm:d[v.toNat]∈d:=List.getElem_mem hv
  exact⟨h.few _ hm,aE (h.fine _ hm).ok,(h.fine _ hm).val⟩
 ·rw[List.getD_eq_getElem?_getD,List.getElem?_eq_none (by omega)]
  exact⟨by simp[vals],.nil,fun x hx=>by cases hx⟩
theorem eI {d:aa}(h:FewD d)(vs:List Int):listsP d vs=vs.map fun v=>vals (domAt d v):=
 List.map_congr_left fun v _=>yF (h.at v).1
theorem oM (d:aa)(vars:List Int): ∀(n:Nat) (had:List Int),had.Nodup→(vR d vars n had=true↔∃rest:List Int,rest.length=n∧(∀k,k<n→rest.getD k 0∈vals (domAt d (vars.getD (had.length+k) 0)))∧(had++rest).Nodup)
 |0,had,hn=>by
  rw[vR]
  exact⟨fun _=>⟨[],rfl,fun k hk=>by omega,by simpa using hn⟩,fun _=>rfl⟩
 |n+1,had,hn=>by
  rw[vR,List.any_eq_true]
  constructor
  ·rintro⟨x,hx,h⟩
   simp only[Bool.and_eq_true,Bool.not_eq_true',decide_eq_false_iff_not]at h
   have hn2:(had++[x]).Nodup:=List.nodup_append.2 ⟨hn,by simp,fun a ha b hb=>by
    obtain rfl:=List.mem_singleton.1 hb
    exact fun e=>h.1 (e▸ha)⟩
   obtain⟨rest,h1,h2,h3⟩:=(oM d vars n (had++[x]) hn2).1 h.2
   refine⟨x::rest,by simp[h1],fun k hk=> ?_,by simpa using h3⟩
   cases k with
   |zero=>exact hx
   |succ k=>
    have:=h2 k (by omega)
    rw[List.length_append,show had.length+ [x].length+k=had.length+(k+1)by simp;omega]at this
    exact this
  ·rintro⟨rest,h1,h2,h3⟩
   cases rest with
   |nil=>cases h1
   |cons x rest=>
    have hx:x∉had:=fun hm=>by
     have:=(List.nodup_append.1 h3).2.2 x hm x (.head _)
     exact this rfl
    have h4:((had++[x])++rest).Nodup:=by simpa using h3
    refine⟨x,h2 0 (by omega),?_⟩
    simp only[Bool.and_eq_true,Bool.not_eq_true',decide_eq_false_iff_not]
    refine⟨hx,(oM d vars n (had++[x]) (List.nodup_append.1 h4).1).2 ⟨rest,by simpa using h1,fun k hk=> ?_,h4⟩⟩
    have:=h2 (k+1) (by omega)
    rw[List.length_append,show had.length+ [x].length+k=had.length+(k+1)by simp;omega]
    exact this
theorem vg {d:aa}(h:FewD d)(vars:List Int):vR d vars vars.length []=(dk (listsP d vars)).2:=by
 have key:vR d vars vars.length []=true↔∃g,Others (listsP d vars) g:=by
  rw[oM d vars vars.length [] .nil,eI h]
  have hg: ∀j,j<vars.length→(vars.map fun v=>vals (domAt d v)).getD j []=vals (domAt d (vars.getD j 0)):=fun j hj=>by simp[hj]
  constructor
  ·rintro⟨rest,h1,h2,h3⟩
   rw[List.nil_append]at h3
   refine⟨fun j=>rest.getD j 0,fun j hj=> ?_,fun j k hj hk e=> ?_⟩
   ·rw[List.length_map]at hj
    rw[hg j hj]
    have:=h2 j hj
    simpa using this
   ·rw[List.length_map]at hj hk
    have e:rest.getD j 0=rest.getD k 0:=e
    rw[List.getD_eq_getElem?_getD,List.getD_eq_getElem?_getD,List.getElem?_eq_getElem (by omega),List.getElem?_eq_getElem (by omega)]at e
    exact(List.getElem_inj h3).1 e
  ·rintro⟨g,h1,h2⟩
   rw[List.length_map]at h1 h2
   refine⟨(List.range vars.length).map g,by simp,fun k hk=> ?_,?_⟩
   ·have:=h1 k hk
    rw[hg k hk]at this
    simpa[hk]using this
   ·rw[List.nil_append]
    exact fw List.nodup_range fun x hx y hy e=>h2 x y (List.mem_range.1 hx) (List.mem_range.1 hy) e
 rw[Bool.eq_iff_iff,key,fG]
theorem FewD.one {d:aa}(h:FewD d)(i:Nat){x:Int}(hx: -1048576≤x∧x≤1048576):FewD (d.set i [(x,x)]):=by
 have key: ∀y∈d.set i [(x,x)],y∈d∨y=[(x,x)]:=fun y hy=>List.mem_or_eq_of_mem_set hy
 have hv:vals [(x,x)]=[x]:=by
  show rng x x++[]=_
  rw[cy];rfl
 refine⟨by rw[List.length_set];exact h.small,fun y hy=> ?_,fun y hy=> ?_⟩
 ·rcases key y hy with hy|rfl
  ·exact h.fine y hy
  ·refine⟨⟨fun r hr=> ?_,by simp⟩,?_,?_⟩
   ·obtain rfl:=List.mem_singleton.1 hr
    exact Int.le_refl _
   ·rw[hv];intro v hm;obtain rfl:=List.mem_singleton.1 hm;exact hx
   ·rw[hv];simp
 ·rcases key y hy with hy|rfl
  ·exact h.few y hy
  ·rw[hv];simp
theorem Up.filter {l:List Int}(h:Up l)(p:Int→Bool):Up (l.filter p):=List.Pairwise.filter p h
def jL (d:aa)(vars:List Int):Prop:=vars.Nodup∧∀v∈vars,0≤v∧v.toNat<d.length
theorem j6 {d:aa}(h:FewD d){vars:List Int}(hv:jL d vars){i:Nat}(hi:i<vars.length){x:Int}(hx: -1048576≤x∧x≤1048576):listsP (d.set vars[i].toNat [(x,x)]) vars=(listsP d vars).set i [x]:=by
 rw[eI h,eI (h.one _ hx)]
 apply List.ext_getElem (by simp)
 intro j h1 h2
 have hj:j<vars.length:=by simpa using h1
 rw[List.getElem_map,List.getElem_set,List.getElem_map]
 unfold domAt
 rw[List.getD_eq_getElem?_getD,List.getElem?_set]
 by_cases e:i=j
 ·subst e
  rw[if_pos rfl,if_pos rfl,if_pos (hv.2 _ (List.getElem_mem hi)).2]
  show rng x x++[]=_
  rw[cy];rfl
 ·have e2: ¬vars[i].toNat=vars[j].toNat:=fun e2=>by
   have h3:=(hv.2 _ (List.getElem_mem hi)).1
   have h4:=(hv.2 _ (List.getElem_mem hj)).1
   exact e ((List.getElem_inj hv.1).1 (by omega:vars[i]=vars[j]))
  rw[if_neg e,if_neg e2,←List.getD_eq_getElem?_getD]
theorem Az {d:aa}(h:FewD d){vars:List Int}(hv:jL d vars){i:Nat}(hi:i<vars.length):mD (listsP d vars) i=iB d vars vars[i]:=by
 unfold mD iB
 have e:(listsP d vars).getD i []=vals (domAt d vars[i]):=by rw[eI h];simp[hi]
 rw[e]
 refine List.filter_congr fun x hx=> ?_
 have hxr:=(h.at vars[i]).2.2 x hx
 rw[←j6 h hv hi hxr,vg (h.one _ hxr)]
theorem k6 {d:aa}(h:FewD d)(vars:List Int)(v:Int):Up (iB d vars v)∧(iB d vars v).length≤4096∧(∀x∈iB d vars v,-1048576≤x∧x≤1048576):=by
 obtain⟨h1,h2,h3⟩:=h.at v
 exact⟨h2.filter _,Nat.le_trans (List.length_filter_le ..) h1,fun x hx=>h3 x (List.mem_filter.1 hx).1⟩
theorem wz {d:aa}(h:FewD d){vars:List Int}(hv:jL d vars): ∀(n i:Nat) (out:aa),n+i=vars.length→kv (listsP d vars) (vars.drop i) i out=iJ d vars (vars.drop i) out
 |0,i,out,hi=>by
  rw[List.drop_of_length_le (by omega)];rfl
 |n+1,i,out,hi=>by
  have hil:i<vars.length:=by omega
  rw[List.drop_eq_getElem_cons hil,kv,iJ,Az h hv hil]
  obtain⟨h1,h2,h3⟩:=k6 h vars vars[i]
  rw[qD h1 h3 h2]
  exact wz h hv n (i+1) _ (by omega)
theorem jb (d:aa)(vars:List Int): ∀(vs:List Int) (out:aa),(iJ d vars vs out).length=out.length
 | [],out=>rfl
 |v::vs,out=>by rw[iJ,jb d vars vs,List.length_set]
theorem kx {d:aa}{vars:List Int}: ∀{vs:List Int} {out:aa} (j:Nat),vs.Nodup→(∀v∈vs,0≤v∧v.toNat<out.length)→(iJ d vars vs out)[j]? =if(j:Int)∈vs then some (cW (iB d vars j))else out[j]?
 | [],out,j,_,_=>by simp[iJ]
 |v::vs,out,j,hn,hv=>by
  obtain⟨h1,h2⟩:=List.nodup_cons.1 hn
  have hv0:=hv v (.head _)
  rw[iJ,kx j h2 (fun u hu=>by rw[List.length_set];exact hv u (.tail _ hu)),List.getElem?_set]
  by_cases e:v.toNat=j
  ·have e2:v=(j:Int):=by omega
   subst e2
   rw[if_neg h1,if_pos (List.mem_cons_self ..),if_pos e,if_pos hv0.2]
  ·by_cases hm:(j:Int)∈vs
   ·rw[if_pos hm,if_pos (.tail _ hm)]
   ·have hn2: ¬(j:Int)∈v::vs:=fun h=>by
     rcases List.mem_cons.1 h with h|h
     ·exact e (by omega)
     ·exact hm h
    rw[if_neg hm,if_neg hn2,if_neg e]
theorem jg {d:aa}(h:FewD d){vars:List Int}(hv:jL d vars){i:Nat}(hi:i<vars.length)(x:Int):x∈iB d vars vars[i]↔∃g,Others (listsP d vars) g∧g i=x:=by
 have hL:(listsP d vars).getD i []=vals (domAt d vars[i]):=by rw[eI h];simp[hi]
 have hlen:(listsP d vars).length=vars.length:=List.length_map ..
 unfold iB
 rw[List.mem_filter]
 constructor
 ·rintro⟨hx,he⟩
  have hxr:=(h.at vars[i]).2.2 x hx
  rw[vg (h.one _ hxr),fG,j6 h hv hi hxr]at he
  obtain⟨g,h1,h2⟩:=he
  rw[List.length_set]at h1 h2
  have hgi:g i=x:=by
   have:=h1 i (by omega)
   rw[List.getD_eq_getElem?_getD,List.getElem?_set,if_pos rfl,if_pos (by omega)]at this
   simpa using this
  refine⟨g,⟨fun j hj=> ?_,h2⟩,hgi⟩
  by_cases e:j=i
  ·subst e;rw[hL,hgi];exact hx
  ·have:=h1 j hj
   rw[List.getD_eq_getElem?_getD,List.getElem?_set,if_neg (Ne.symm e),←List.getD_eq_getElem?_getD]at this
   exact this
 ·rintro⟨g,⟨h1,h2⟩,rfl⟩
  have hx:=h1 i (by omega)
  rw[hL]at hx
  have hxr:=(h.at vars[i]).2.2 _ hx
  refine⟨hx,?_⟩
  rw[vg (h.one _ hxr),fG,j6 h hv hi hxr]
  refine⟨g,fun j hj=> ?_,fun j k hj hk=> ?_⟩
  ·rw[List.length_set]at hj
   rw[List.getD_eq_getElem?_getD,List.getElem?_set]
   by_cases e:i=j
   ·subst e;rw[if_pos rfl,if_pos hj];simp
   ·rw[if_neg e,←List.getD_eq_getElem?_getD];exact h1 j hj
  ·rw[List.length_set]at hj hk
   exact h2 j k hj hk
theorem wH {l:List Int}(h:l≠[]):cW l≠[]:=by
 cases l with
 |nil=>exact absurd rfl h
 |cons x l=>
  have: ∀(l:List Int) (lo x:Int),dI lo x l≠[]:=by
   intro l
   induction l with
   |nil=>intro lo x;simp[dI]
   |cons y l ih=>intro lo x;rw[dI];split;exact ih _ _;simp
  exact this l x x
theorem y5 {d:aa}(h:FewD d){vars:List Int}(hv:jL d vars)(hne:vars≠[]):nW d vars=gT d vars:=by
 unfold nW gT
 by_cases he: []∈d
 ·rw[if_pos he,if_pos he]
 rw[if_neg he,if_neg he]
 have hst:=wz h hv vars.length 0 d (by omega)
 rw[List.drop_zero]at hst
 rw[hst]
 have hat:=fun j=>kx (d:=d) (vars:=vars) (out:=d) j hv.1 hv.2
 by_cases hm:(dk (listsP d vars)).2=true
 ·rw[if_pos hm,if_neg]
  intro hem
  obtain⟨j,hj⟩:=List.getElem?_of_mem hem
  rw[hat j]at hj
  split at hj
  ·rename_i hjm
   obtain⟨i,hi,e⟩:=List.getElem_of_mem hjm
   obtain⟨g,hg⟩:=(fG _).1 hm
   have hl:=(jg h hv hi (g i)).2 ⟨g,hg,rfl⟩
   rw[e]at hl
   exact wH (fun e2=>by rw[e2]at hl;cases hl) (Option.some.inj hj)
  ·exact he (List.mem_of_getElem? hj)
 ·rw[if_neg hm,if_pos]
  cases hvs:vars with
  |nil=>exact absurd hvs hne
  |cons v vs=>
   have hi:0<vars.length:=by rw[hvs];simp
   have hv0:=hv.2 _ (List.getElem_mem hi)
   have hl:iB d vars vars[0]=[]:=by
    cases hl:iB d vars vars[0]with
    |nil=>rfl
    |cons x l=>
     obtain⟨g,hg,_⟩:=(jg h hv hi x).1 (by rw[hl];exact .head _)
     exact absurd ((fG _).2 ⟨g,hg⟩) hm
   have:=hat vars[0].toNat
   have e:((vars[0].toNat:Nat):Int)=vars[0]:=by omega
   rw[e,if_pos (List.getElem_mem hi),hl]at this
   rw[←hvs]
   exact List.mem_of_getElem? this
def badR (d:List (Int×Int))(i:Nat):Bool:= !aG (d.getD i (0,0)).1||(!aG (d.getD i (0,0)).2||(decide ((d.getD i (0,0)).1 > (d.getD i (0,0)).2)||(decide ((i:Int) > 0)&&decide ((d.getD i (0,0)).1-(d.getD (i-1) (0,0)).2<2))))
def sizeI (d:List (Int×Int)):Int:=(d.map fun r=>r.2-r.1+1).sum
def chkR (d:List (Int×Int)):Int:=if(List.range d.length).any (badR d)then 20 else if sizeI d > 4096 then 2 else 0
theorem sN (d:List (Int×Int))(hl:d.length≤1048576):Spec Tryz.prog 31 false [dm d] [.val (.int .i64 (chkR d))]:=by
 refine Spec.body Tryz.func31 rfl rfl rfl fun w0 Z0=> ?_
 generalize hR:chkR d=R
 refine .B ?_
 refine T.K (T.ind (fun i:Nat=>⟨[(0,.val false (dm d)),(3,.val true (.int .i64 (sizeI (d.take i)))),(4,.val true (.int .i64 i))],[],0⟩) (fun i=>i≤d.length∧(0≤sizeI (d.take i)∧sizeI (d.take i)≤i*4194304)∧∀j,j<i→badR d j=false) (fun i=>d.length-i) 0 ⟨Nat.zero_le _,by simp[sizeI],fun j hj=>absurd hj (Nat.not_lt_zero j)⟩ (fun _ _ h=>h) ?_)
 rintro i ⟨hi,hn,hb⟩ ih
 refine .B ?_
 refine T.cd rfl (fun h1=> ?_) (fun h1=> ?_)
 ·have h1:i<d.length:=by simpa using h1
  have hrow:(d.map cR)[((i:Nat):Int).toNat]? =some (cR (d.getD i (0,0))):=by simp[h1,List.getD_eq_getElem?_getD]
  have hprev:0<i→(d.map cR)[(((i-1:Nat)):Int).toNat]? =some (cR (d.getD (i-1) (0,0)))∧aG (d.getD (i-1) (0,0)).2=true:=fun h=>by
   refine⟨by rw[Int.toNat_natCast,List.getElem?_map,List.getElem?_eq_getElem (show i-1<d.length by omega),List.getD_eq_getElem?_getD,List.getElem?_eq_getElem (show i-1<d.length by omega)];rfl,?_⟩
   have:=hb (i-1) (by omega)
   unfold badR at this
   simp only[Bool.or_eq_false_iff,Bool.not_eq_false']at this
   exact this.2.1
  have htk:sizeI (d.take (i+1))=sizeI (d.take i)+((d.getD i (0,0)).2-(d.getD i (0,0)).1+1):=by
   unfold sizeI
   rw[List.take_succ_eq_append_getElem h1,List.map_append,List.sum_append,List.getD_eq_getElem?_getD,List.getElem?_eq_getElem h1]
   simp
  have hno:badR d i=true→R=20:=fun h=>by
   rw[←hR];unfold chkR
   rw[if_pos (List.any_eq_true.2 ⟨i,List.mem_range.2 h1,h⟩)]
  have hbd:badR d i=(!aG (d.getD i (0,0)).1||(!aG (d.getD i (0,0)).2||(decide ((d.getD i (0,0)).1 > (d.getD i (0,0)).2)||(decide ((i:Int) > 0)&&decide ((d.getD i (0,0)).1-(d.getD (i-1) (0,0)).2<2))))):=rfl
  have ih1:=fun hbi:badR d i=false=>fun hs=>ih (i+1) ⟨by omega,hs,fun j hj=>by
   by_cases e:j=i
   ·rw[e];exact hbi
   ·exact hb j (by omega)⟩ (by omega)
  have hw1:IntKind.i64.wrap ((i:Int)+1)=((i+1:Nat):Int):=by rw[ac (by omega) (by omega)];omega
  have hw2:0<i→IntKind.i64.wrap ((i:Int)-1)=((i-1:Nat):Int):=fun h=>by rw[ac (by omega) (by omega)];omega
  generalize badR d i=bad at*
  rw[htk]at ih1
  generalize sizeI (d.take i)=n at*
  generalize d.getD i (0,0)=r at*
  generalize d.getD (i-1) (0,0)=p at*
  obtain⟨lo,hi2⟩:=r
  simp only at*
  refine .B ?_
  refine .I (r:=cR (lo,hi2)) hrow ?_
  refine .B ?_
  refine .C (jQ lo) ?_
  cases a1:aG lo
  ·refine .B ?_
   refine T.ct rfl ?_
   refine .B ?_
   rw[hno (by rw[hbd,a1];rfl)]
   exact r1
  ·refine .B ?_
   refine .I (r:=cR (lo,hi2)) hrow ?_
   refine .B ?_
   refine .C (jQ hi2) ?_
   cases a2:aG hi2
   ·refine .B ?_
    refine T.ct rfl ?_
    refine .B ?_
    rw[hno (by rw[hbd,a1,a2];rfl)]
    exact r1
   ·have v1:=a1
    have v2:=a2
    simp only[aG,decide_eq_true_eq]at v1 v2
    refine .B ?_
    refine .I (r:=cR (lo,hi2)) hrow ?_
    refine .B ?_
    refine .I (r:=cR (lo,hi2)) hrow ?_
    refine .B ?_
    refine J.g rfl rfl rfl (fun h3=> ?_) (fun h3=> ?_)
    ·refine .B ?_
     refine T.ct rfl ?_
     refine .B ?_
     rw[hno (by rw[hbd,a1,a2,decide_eq_true h3];rfl)]
     exact r1
    ·have h3: ¬lo > hi2:=h3
     refine .B ?_
     refine J.g rfl rfl rfl (fun h4=> ?_) (fun h4=> ?_)
     ·refine .B ?_
      refine .I (r:=cR (lo,hi2)) hrow ?_
      refine .B ?_
      rw[hw2 (by omega)]
      refine .I (r:=cR p) (hprev (by omega)).1 ?_
      refine .B ?_
      have hpv:=(hprev (by omega)).2
      simp only[aG,decide_eq_true_eq]at hpv
      rw[ac (n:=lo-p.2) (by omega) (by omega)]
      refine T.cd rfl (fun h5=> ?_) (fun h5=> ?_)
      ·refine .B ?_
       rw[hno (by rw[hbd,a1,a2,decide_eq_false h3,decide_eq_true h4,decide_eq_true h5];rfl)]
       exact r1
      ·refine .B ?_
       refine .I (r:=cR (lo,hi2)) hrow ?_
       refine .B ?_
       refine .I (r:=cR (lo,hi2)) hrow ?_
       refine .B ?_
       have e1:IntKind.i64.wrap (hi2-lo)=hi2-lo:=ac (by omega) (by omega)
       have e2:IntKind.i64.wrap (hi2-lo+1)=hi2-lo+1:=ac (by omega) (by omega)
       have e3:IntKind.i64.wrap (n+(hi2-lo+1))=n+(hi2-lo+1):=ac (by omega) (by omega)
       rw[e1,e2,e3,hw1]
       exact T.K (ih1 (by rw[hbd,a1,a2,decide_eq_false h3,decide_eq_true h4,decide_eq_false h5];rfl) (by omega))
     ·refine .B ?_
      refine T.cf rfl ?_
      refine .B ?_
      refine .I (r:=cR (lo,hi2)) hrow ?_
      refine .B ?_
      refine .I (r:=cR (lo,hi2)) hrow ?_
      refine .B ?_
      have e1:IntKind.i64.wrap (hi2-lo)=hi2-lo:=ac (by omega) (by omega)
      have e2:IntKind.i64.wrap (hi2-lo+1)=hi2-lo+1:=ac (by omega) (by omega)
      have e3:IntKind.i64.wrap (n+(hi2-lo+1))=n+(hi2-lo+1):=ac (by omega) (by omega)
      rw[e1,e2,e3,hw1]
      exact T.K (ih1 (by rw[hbd,a1,a2,decide_eq_false h3,decide_eq_false h4];rfl) (by omega))
 ·have h1:i=d.length:=by simp at h1;omega
  subst h1
  rw[List.take_length]at hn⊢
  have hany:(List.range d.length).any (badR d)=false:=by
   rw[List.any_eq_false]
   intro j hj
   rw[hb j (List.mem_range.1 hj)];simp
  unfold chkR at hR
  rw[hany]at hR
  simp only[Bool.false_eq_true,if_false]at hR
  generalize sizeI d=n at*
  refine .B ?_
  refine T.cd rfl (fun h2=> ?_) (fun h2=> ?_)
  ·rw[if_pos h2]at hR
   subst hR
   refine .B ?_
   exact r1
  ·rw[if_neg h2]at hR
   subst hR
   refine .B ?_
   exact r1
structure Takes {α:Type}(le:α→α→Prop)(good:α→Prop)(f:α→Option α):Prop where
 less: ∀a a',good a→f a=some a'→good a'∧le a' a
 mono: ∀a a' b,good a→good b→le a b→f a=some a'→∃b',f b=some b'∧le a' b'
structure Order (α:Type)(le:α→α→Prop)(good:α→Prop):Prop where
 refl: ∀a,le a a
 trans: ∀a b c,le a b→le b c→le a c
 anti: ∀a b,good a→good b→le a b→le b a→a=b
section
variable {α γ:Type}{le:α→α→Prop}{good:α→Prop}(O:Order α le good){f:γ→α→Option α}
def eY (f:γ→α→Option α)(l:List γ)(a:α):Prop:= ∀c∈l,f c a=some a
structure Come (le:α→α→Prop)(good:α→Prop)(f:γ→α→Option α)(l:List γ)(d a:α):Prop where
 fine:good a
 less:le a d
 keep: ∀e,good e→le e d→eY f l e→le e a
include O in
theorem Come.refl {l:List γ}{d:α}(hd:good d):Come le good f l d d:=⟨hd,O.refl d,fun _ _ h _=>h⟩
include O in
theorem Come.step {l:List γ}{d a a':α}{c:γ}(h:Come le good f l d a)(hc:c∈l)(ht:Takes le good (f c))(he:f c a=some a'):Come le good f l d a':=by
 obtain⟨h1,h2⟩:=ht.less a a' h.fine he
 refine⟨h1,O.trans _ _ _ h2 h.less,fun e ge le_ hs=> ?_⟩
 obtain⟨b',hb,hle⟩:=ht.mono e e a ge h.fine (h.keep e ge le_ hs) (hs c hc)
 rw[he]at hb
 exact Option.some.inj hb▸hle
theorem Come.none {l:List γ}{d a:α}{c:γ}(h:Come le good f l d a)(hc:c∈l)(ht:Takes le good (f c))(he:f c a=none): ¬∃e,good e∧le e d∧eY f l e:=by
 rintro⟨e,ge,hle,hs⟩
 obtain⟨b',hb,_⟩:=ht.mono e e a ge h.fine (h.keep e ge hle hs) (hs c hc)
 rw[he]at hb;cases hb
def eh (le:α→α→Prop)(good:α→Prop)(f:γ→α→Option α)(l:List γ)(d:α):Option α→Prop
 |some a=>Come le good f l d a∧eY f l a
 |none=> ¬∃e,good e∧le e d∧eY f l e
include O in
theorem eh.one {l l':List γ}{d:α}{R R':Option α}(hl: ∀c,c∈l↔c∈l')(h:eh le good f l d R)(h':eh le good f l' d R'):R=R':=by
 have hst: ∀e,eY f l e↔eY f l' e:=fun e=>⟨fun h c hc=>h c ((hl c).2 hc),fun h c hc=>h c ((hl c).1 hc)⟩
 cases R with
 |none=>
  cases R' with
  |none=>rfl
  |some b=>exact absurd ⟨b,h'.1.fine,h'.1.less,(hst b).2 h'.2⟩ h
 |some a=>
  cases R' with
  |none=>exact absurd ⟨a,h.1.fine,h.1.less,(hst a).1 h.2⟩ h'
  |some b=>
   exact congrArg some (O.anti a b h.1.fine h'.1.fine (h'.1.keep a h.1.fine h.1.less ((hst a).1 h.2)) (h.1.keep b h'.1.fine h'.1.less ((hst b).2 h'.2)))
include O in
theorem eh.less {l l':List γ}{d d' a':α}{R:Option α}(hl: ∀c,c∈l→c∈l')(hd:le d' d)(h:eh le good f l d R)(h':eh le good f l' d' (some a')): ∃a,R=some a∧le a' a:=by
 have hs:eY f l a':=fun c hc=>h'.2 c (hl c hc)
 have hle:=O.trans _ _ _ h'.1.less hd
 cases R with
 |none=>exact absurd ⟨a',h'.1.fine,hle,hs⟩ h
 |some a=>exact⟨a,rfl,h.1.keep a' h'.1.fine hle hs⟩
theorem eh.keeps {l:List γ}{d e:α}{R:Option α}(h:eh le good f l d R)(ge:good e)(hle:le e d)(hs:eY f l e): ∃a,R=some a∧le e a:=by
 cases R with
 |none=>exact absurd ⟨e,ge,hle,hs⟩ h
 |some a=>exact⟨a,rfl,h.1.keep e ge hle hs⟩
theorem eh.takes {l:List γ}{F:α→Option α}(O:Order α le good)(h: ∀d,good d→eh le good f l d (F d)):Takes le good F:=by
 refine⟨fun a a' ga he=> ?_,fun a a' b ga gb hle he=> ?_⟩
 ·have:=h a ga
  rw[he]at this
  exact⟨this.1.fine,this.1.less⟩
 ·have h1:=h a ga
  rw[he]at h1
  exact eh.less O (fun _ h=>h) hle (h b gb) h1
theorem eh.fix {l:List γ}{F:α→Option α}(O:Order α le good)(h: ∀d,good d→eh le good f l d (F d)){a:α}(ga:good a):F a=some a↔eY f l a:=by
 constructor
 ·intro he
  have:=h a ga
  rw[he]at this
  exact this.2
 ·intro hs
  obtain⟨b,hb,hle⟩:=eh.keeps (h a ga) ga (O.refl a) hs
  have:=h a ga
  rw[hb]at this
  rw[hb,O.anti b a this.1.fine ga this.1.less hle]
end
def leD (a b:aa):Prop:=a.length=b.length∧∀v x:Int,0≤v→x∈vals (domAt a v)→x∈vals (domAt b v)
structure GoodD (n:Nat)(d:aa):Prop where
 few:FewD d
 len:d.length=n
 some': []∉d
theorem oS {d:aa}{j:Nat}(h:j<d.length):domAt d (j:Int)=d[j]:=by
 unfold domAt
 rw[List.getD_eq_getElem?_getD,Int.toNat_natCast,List.getElem?_eq_getElem h];rfl
theorem o6.mono {a b:aa}(h:leD a b){us:List Int}(h0: ∀u∈us,0≤u){P:List Int→Bool}{v x:Int}(hs: ∃f:Int→Int,(∀u∈us,f u∈vals (domAt a u))∧P (us.map f)=true∧f v=x): ∃f:Int→Int,(∀u∈us,f u∈vals (domAt b u))∧P (us.map f)=true∧f v=x:=by
 obtain⟨f,h1,h2,h3⟩:=hs
 exact⟨f,fun u hu=>h.2 u _ (h0 u hu) (h1 u hu),h2,h3⟩
structure SuppS (n:Nat)(us:List Int)(P:List Int→Bool)(f:aa→Option aa):Prop where
 ok: ∀d out,GoodD n d→f d=some out→GoodD n out∧(∀v∈us,∀x,x∈vals (domAt out v)↔∃g:Int→Int,(∀u∈us,g u∈vals (domAt d u))∧P (us.map g)=true∧g v=x)∧∀v,0≤v→v∉us→domAt out v=domAt d v
 no: ∀d,GoodD n d→f d=none→∀g:Int→Int,(∀u∈us,g u∈vals (domAt d u))→P (us.map g)=false
 in': ∀u∈us,0≤u∧u.toNat<n
 ne:us≠[]
theorem GoodD.ne {n:Nat}{d:aa}(h:GoodD n d){v:Int}(hv:v.toNat<n): ∃x,x∈vals (domAt d v):=by
 have hm:domAt d v∈d:=by
  unfold domAt
  rw[List.getD_eq_getElem?_getD,List.getElem?_eq_getElem (by rw[h.len];exact hv)]
  exact List.getElem_mem _
 have hok:=(h.few.fine _ hm).ok
 cases hd:domAt d v with
 |nil=>rw[hd]at hm;exact absurd hm h.some'
 |cons r rest=>
  rw[hd]at hok
  exact⟨r.1,aQ.2 ⟨r,.head _,Int.le_refl _,hok.1 r (.head _)⟩⟩
theorem SuppS.takes {n:Nat}{us:List Int}{P:List Int→Bool}{f:aa→Option aa}(h:SuppS n us P f):Takes leD (GoodD n) f:=by
 refine⟨fun a a' ga he=> ?_,fun a a' b ga gb hle he=> ?_⟩
 ·obtain⟨g1,h1,h2⟩:=h.ok a a' ga he
  refine⟨g1,by rw[g1.len,ga.len],fun v x h0 hx=> ?_⟩
  by_cases hv:v∈us
  ·obtain⟨g,h3,_,rfl⟩:=(h1 v hv x).1 hx
   exact h3 v hv
  ·rw[h2 v h0 hv]at hx;exact hx
 ·obtain⟨g1,h1,h2⟩:=h.ok a a' ga he
  cases hb:f b with
  |none=>
   obtain⟨u,hu⟩:=List.exists_mem_of_ne_nil _ h.ne
   have hun:=(h.in' u hu).2
   obtain⟨x,hx⟩:=g1.ne hun
   obtain⟨g,h3,h4,_⟩:=(h1 u hu x).1 hx
   have:=h.no b gb hb g fun w hw=>hle.2 w _ (h.in' w hw).1 (h3 w hw)
   rw[h4]at this;cases this
  |some b'=>
   obtain⟨g2,h3,h4⟩:=h.ok b b' gb hb
   refine⟨b',rfl,by rw[g1.len,g2.len],fun v x h0 hx=> ?_⟩
   by_cases hv:v∈us
   ·exact(h3 v hv x).2 (o6.mono hle (fun u hu=>(h.in' u hu).1) ((h1 v hv x).1 hx))
   ·rw[h2 v h0 hv]at hx
    rw[h4 v h0 hv]
    exact hle.2 v x h0 hx
theorem BB {n:Nat}{vars:List Int}(hv:vars.Nodup∧∀v∈vars,0≤v∧v.toNat<n)(hne:vars≠[]):SuppS n vars (fun l=>decide l.Nodup) fun d=>gT d vars:=by
 have hV: ∀d,GoodD n d→jL d vars:=fun d hd=>⟨hv.1,fun v hm=>by rw[hd.len];exact hv.2 v hm⟩
 have ho: ∀d,GoodD n d→∀g:Int→Int,(∀u∈vars,g u∈vals (domAt d u))→(vars.map g).Nodup→Others (listsP d vars) fun j=>g (vars.getD j 0):=fun d hd g h1 h2=>by
  rw[eI hd.few]
  refine⟨fun j hj=> ?_,fun j k hj hk e=> ?_⟩
  ·rw[List.length_map]at hj
   have:=h1 _ (List.getElem_mem hj)
   simpa[hj]using this
  ·rw[List.length_map]at hj hk
   have e:g (vars.getD j 0)=g (vars.getD k 0):=e
   have e2:(vars.map g)[j]'(by simpa using hj)=(vars.map g)[k]'(by simpa using hk):=by simpa[hj,hk]using e
   exact(List.getElem_inj h2).1 e2
 refine⟨fun d out hd he=> ?_,fun d hd he g hg=> ?_,?_,?_⟩
 ·unfold gT at he
  split at he
  ·cases he
  ·split at he
   ·cases he
   ·rename_i hno
    obtain rfl:=Option.some.inj he
    have hat:=fun j=>kx (d:=d) (vars:=vars) (out:=d) j hv.1 (hV d hd).2
    have hdat: ∀v,v∈vars→domAt (iJ d vars vars d) v=cW (iB d vars v):=fun v hm=>by
     have h0:=hv.2 v hm
     have:=hat v.toNat
     rw[show((v.toNat:Nat):Int)=v by omega,if_pos hm]at this
     unfold domAt
     rw[List.getD_eq_getElem?_getD,this];rfl
    refine⟨⟨⟨by rw[jb];exact hd.few.small,fun x hx=> ?_,fun x hx=> ?_⟩,by rw[jb,hd.len],hno⟩,fun v hm x=> ?_,fun v h0 hm=> ?_⟩
    ·obtain⟨j,hj⟩:=List.getElem?_of_mem hx
     rw[hat j]at hj
     split at hj
     ·obtain⟨h1,h2,h3⟩:=k6 hd.few vars (j:Int)
      exact Option.some.inj hj▸jY h1 h3 h2
     ·exact hd.few.fine x (List.mem_of_getElem? hj)
    ·obtain⟨j,hj⟩:=List.getElem?_of_mem hx
     rw[hat j]at hj
     split at hj
     ·obtain⟨h1,h2,h3⟩:=k6 hd.few vars (j:Int)
      rw[←Option.some.inj hj,bG h1];exact h2
     ·exact hd.few.few x (List.mem_of_getElem? hj)
    ·rw[hdat v hm,bG (k6 hd.few vars v).1]
     obtain⟨i,hi,rfl⟩:=List.getElem_of_mem hm
     rw[jg hd.few (hV d hd) hi]
     have hlen:(listsP d vars).length=vars.length:=List.length_map ..
     constructor
     ·rintro⟨g,⟨h1,h2⟩,rfl⟩
      refine⟨fun u=>g (vars.idxOf u),fun u hu=> ?_,?_,?_⟩
      ·have hx:=List.idxOf_lt_length_of_mem hu
       have:=h1 (vars.idxOf u) (by omega)
       rw[eI hd.few]at this
       simpa[hx]using this
      ·refine decide_eq_true (fw hv.1 fun a ha b hb e=> ?_)
       have hxa:=List.idxOf_lt_length_of_mem ha
       have hxb:=List.idxOf_lt_length_of_mem hb
       have e2:=h2 _ _ (by omega) (by omega) e
       have e3:vars[vars.idxOf a]=vars[vars.idxOf b]:=by simp only[e2]
       simpa using e3
      ·show g (vars.idxOf vars[i])=g i
       congr 1
       exact hv.1.idxOf_getElem i hi
     ·rintro⟨g,h1,h2,rfl⟩
      refine⟨_,ho d hd g h1 (of_decide_eq_true h2),?_⟩
      show g (vars.getD i 0)=_
      rw[List.getD_eq_getElem?_getD,List.getElem?_eq_getElem hi];rfl
    ·by_cases hl:v.toNat<d.length
     ·have:=hat v.toNat
      rw[show((v.toNat:Nat):Int)=v by omega,if_neg hm]at this
      unfold domAt
      rw[List.getD_eq_getElem?_getD,List.getD_eq_getElem?_getD,this]
     ·unfold domAt
      rw[List.getD_eq_getElem?_getD,List.getD_eq_getElem?_getD,List.getElem?_eq_none (by rw[jb];omega),List.getElem?_eq_none (by omega)]
 ·refine decide_eq_false fun hn=> ?_
  have hoo:=ho d hd g hg hn
  unfold gT at he
  rw[if_neg hd.some']at he
  split at he
  ·rename_i hem
   obtain⟨j,hj⟩:=List.getElem?_of_mem hem
   rw[kx j hv.1 (hV d hd).2]at hj
   split at hj
   ·rename_i hm
    obtain⟨i,hi,e⟩:=List.getElem_of_mem hm
    have:=(jg hd.few (hV d hd) hi _).2 ⟨_,hoo,rfl⟩
    rw[e]at this
    exact wH (fun e2=>by rw[e2]at this;cases this) (Option.some.inj hj)
   ·exact hd.some' (List.mem_of_getElem? hj)
  ·cases he
 ·exact hv.2
 ·exact hne
theorem iZ {n:Nat}{a b:aa}(ga:GoodD n a)(gb:GoodD n b)(h: ∀v x:Int,0≤v→(x∈vals (domAt a v)↔x∈vals (domAt b v))):a=b:=by
 refine List.ext_getElem (by rw[ga.len,gb.len]) fun j h1 h2=> ?_
 have h3:=h (j:Int)
 rw[oS h1,oS h2]at h3
 have f1:=(ga.few.fine _ (List.getElem_mem h1)).ok
 have f2:=(gb.few.fine _ (List.getElem_mem h2)).ok
 rw[←eD f1,←eD f2,dP (aE f1) (aE f2) fun x=>h3 x (by omega)]
theorem be (n:Nat):Order aa leD (GoodD n):=by
 refine⟨fun a=>⟨rfl,fun _ _ _ h=>h⟩,fun a b c h1 h2=>⟨h1.1.trans h2.1,fun v x h0 h=>h2.2 v x h0 (h1.2 v x h0 h)⟩,fun a b ga gb h1 h2=> ?_⟩
 exact iZ ga gb fun v x h0=>⟨h1.2 v x h0,h2.2 v x h0⟩
theorem SuppS.stays {n:Nat}{us:List Int}{P:List Int→Bool}{f:aa→Option aa}(h:SuppS n us P f){a b:aa}(ga:GoodD n a)(gb:GoodD n b)(ha:f a=some a)(hab: ∀u∈us,domAt a u=domAt b u):f b=some b:=by
 obtain⟨_,h1,_⟩:=h.ok a a ga ha
 have hsupp: ∀v∈us,∀x,x∈vals (domAt b v)↔∃g:Int→Int,(∀u∈us,g u∈vals (domAt b u))∧P (us.map g)=true∧g v=x:=fun v hv x=>by
  rw[←hab v hv,h1 v hv x]
  constructor
  ·rintro⟨g,h2,h3,h4⟩
   exact⟨g,fun u hu=>by rw[←hab u hu];exact h2 u hu,h3,h4⟩
  ·rintro⟨g,h2,h3,h4⟩
   exact⟨g,fun u hu=>by rw[hab u hu];exact h2 u hu,h3,h4⟩
 cases hb:f b with
 |none=>
  obtain⟨u,hu⟩:=List.exists_mem_of_ne_nil _ h.ne
  obtain⟨x,hx⟩:=gb.ne (h.in' u hu).2
  obtain⟨g,h2,h3,_⟩:=(hsupp u hu x).1 hx
  have:=h.no b gb hb g h2
  rw[h3]at this;cases this
 |some b'=>
  obtain⟨g',h2,h3⟩:=h.ok b b' gb hb
  congr 1
  refine iZ g' gb fun v x h0=> ?_
  by_cases hv:v∈us
  ·rw[h2 v hv x,hsupp v hv x]
  ·rw[h3 v h0 hv]
theorem SuppS.point {n:Nat}{us:List Int}{P:List Int→Bool}{f:aa→Option aa}(h:SuppS n us P f){e:aa}(ge:GoodD n e)(g:Int→Int)(he: ∀u∈us,vals (domAt e u)=[g u]):f e=(if P (us.map g)=true then some e else none):=by
 have huniq: ∀g':Int→Int,(∀u∈us,g' u∈vals (domAt e u))→us.map g'=us.map g:=fun g' hg'=>List.map_congr_left fun u hu=>by
  have:=hg' u hu
  rw[he u hu]at this
  exact List.mem_singleton.1 this
 cases hf:f e with
 |none=>
  have:=h.no e ge hf g fun u hu=>by rw[he u hu];exact .head _
  rw[this];rfl
 |some e'=>
  obtain⟨g',h2,h3⟩:=h.ok e e' ge hf
  have hp:P (us.map g)=true:=by
   obtain⟨u,hu⟩:=List.exists_mem_of_ne_nil _ h.ne
   obtain⟨x,hx⟩:=g'.ne (h.in' u hu).2
   obtain⟨q,h4,h5,_⟩:=(h2 u hu x).1 hx
   rw[←huniq q h4];exact h5
  rw[if_pos hp]
  congr 1
  refine iZ g' ge fun v x h0=> ?_
  by_cases hv:v∈us
  ·rw[h2 v hv x,he v hv,List.mem_singleton]
   constructor
   ·rintro⟨q,h4,_,rfl⟩
    have:=h4 v hv
    rw[he v hv]at this
    exact List.mem_singleton.1 this
   ·rintro rfl
    exact⟨g,fun u hu=>by rw[he u hu];exact .head _,hp,rfl⟩
  ·rw[h3 v h0 hv]
def atR (a:List Int)(v:Int):Int:=if v<0 then 0 else a.getD v.toNat 0
def aY (vars a:List Int):List Int:=vars.map (atR a)
def dK (op n rhs:Int):Bool:=if op=0 then decide (n≤rhs)else(decide (n=rhs)==decide (op=1))
def uP (vars coefs a:List Int):Int:=(vars.zip coefs).foldl (fun n p=>IntKind.i64.wrap (n+IntKind.i64.wrap (p.2*atR a p.1))) 0
def lL:List Int→List Int→Int
 | [],[]=>0
 | [],_::_=> -1
 |_::_,[]=>1
 |x::xs,y::ys=>if x<y then -1 else if y<x then 1 else lL xs ys
def vO (vars a:List Int):Bool:=decide (lL ((aY vars a).take (vars.length / 2)) ((aY vars a).drop (vars.length / 2))≤0)
def Ax (p:Int×Int):Bool:=(decide (p.2=1)&&decide (p.1=1))||(decide (p.2= -1)&&decide (p.1=0))
def zO (l:List Int):Bool:=decide (2≤l.length)&&decide (0≤l.getD 0 0)&&decide (l.getD 0 0+2<l.length)&&decide (l.getD (l.getD 0 0+2).toNat 0=l.getD 1 0)
def soR (c:Con)(a:List Int):Bool:=dK c.op (uP c.vars c.coefs a) c.rhs
def bS (c:Con)(a:List Int):Bool:=
 if c.kind=0 then soR c a else
 if c.kind=1 then decide ((aT (aY c.vars a)).length=(aY c.vars a).length)else
 if c.kind=2 then c.rows.any fun r=>decide (r=aY c.vars a)else
 if c.kind=3 then zO (aY c.vars a)else
 if c.kind=4 then(soR c a&&decide (atR a c.b=1))||(!soR c a&&decide (atR a c.b=0))else
 if c.kind=5 then((aY c.vars a).zip c.coefs).any Ax else
 vO c.vars a
def fM (d:aa):Nat→List (List Int)
 |0=>[[]]
 |n+1=>(fM d n).flatMap fun a=>(vals (d.getD n [])).map fun v=>a++[v]
def cutW (x:List (Int×Int))(k rest:Int):List (Int×Int):=if 0<k then domCut x (-1048576) (gj rest k)else domCut x (wr (0-gj rest (wr (0-k)))) 1048576
theorem rH {x:List (Int×Int)}(h:ax x)(k rest:Int):ax (cutW x k rest)∧∀v,v∈vals (cutW x k rest)→v∈vals x:=by
 unfold cutW
 split
 ·exact⟨(bM h _ _).1,fun v hv=>(((bM h _ _).2 v).1 hv).1⟩
 ·exact⟨(bM h _ _).1,fun v hv=>(((bM h _ _).2 v).1 hv).1⟩
theorem qE {x:List (Int×Int)}(h:Fine x)(k rest:Int):Fine (cutW x k rest):=h.cut (rH h.ok k rest).1 (rH h.ok k rest).2
def gv (low rhs:Int)(x:List (Int×Int))(k:Int):Int:=wr (rhs-wr (low-(endW x k false).1))
def eG (low rhs:Int):List (Int×Int)→aa→Bool→aa×Bool×Bool
 | [],d,ch=>(d,ch,true)
 |(v,k)::l,d,ch=>
  if cutW (domAt d v) k (gv low rhs (domAt d v) k)=[]then(d,false,false)
  else eG low rhs l (d.set v.toNat (cutW (domAt d v) k (gv low rhs (domAt d v) k))) (ch|| !decide (cutW (domAt d v) k (gv low rhs (domAt d v) k)=domAt d v))
def mostW (d:aa)(vars coefs:List Int)(rhs:Int):aa×Bool×Bool:=eG (endsW d vars coefs).1 rhs (vars.zip coefs) d false
structure SumFine (d:aa)(vars coefs:List Int):Prop where
 len:vars.length=coefs.length
 vl:vars.length*8≤140737488355328
 vin: ∀v∈vars,0≤v∧v.toNat<d.length
 ck: ∀k∈coefs,CoefOk k
 dom: ∀x∈d,Fine x
 dl:d.length*24≤140737488355328
theorem SumFine.in_ {d:aa}{vars coefs:List Int}(h:SumFine d vars coefs):SumIn d vars coefs:=⟨h.len,h.vl,h.vin,h.ck,fun x hx=>(h.dom x hx).domB,h.dl⟩
theorem gX {d:aa}{i:Nat}{x:List (Int×Int)}{p:List (Int×Int)→Prop}(h: ∀z∈d,p z)(hx:p x): ∀z∈d.set i x,p z:=by
 intro z hz
 rcases List.mem_or_eq_of_mem_set hz with hz|rfl
 ·exact h z hz
 ·exact hx
theorem ol (d:aa)(vars coefs:List Int)(rhs:Int)(h:SumFine d vars coefs):
  SpecM Tryz.prog 202 54 1 (d.map cD) [aA vars,aA coefs,.int .i64 rhs] ((mostW d vars coefs rhs).1.map cD) [.bool (mostW d vars coefs rhs).2.1,.bool (mostW d vars coefs rhs).2.2]:=by
 refine SpecM.body Tryz.func202 rfl rfl rfl (by simp[PV.flat]) fun w0 v0 Z1=> ?_
 have hends:=ot d vars coefs h.in_
 obtain⟨hlen,hvl,hvin,hck,hdom,hdl⟩:=h
 unfold mostW
 generalize endsW d vars coefs=es at*
 obtain⟨low,high,is⟩:=es
 simp only at hends⊢
 generalize hres:eG low rhs (vars.zip coefs) d false=res
 refine .B ?_
 refine .C hends ?_
 refine .B ?_
 refine T.K (T.ind (fun s:Nat×aa×Bool=>⟨[(0,.ref 0),(2,.val false (aA coefs)),(3,.val false (.int .i64 rhs)),(10,.val true (.int .i64 low)),(13,.val true (.bool s.2.2)),(29,.val false (aA vars)),(30,.val true (.int .i64 (vars.map cI).length)),(31,.val true (.int .i64 s.1))],[(0,some (.sl 54 1 true (s.2.1.map cD)))],1⟩)
  (fun s=>s.1≤vars.length∧eG low rhs ((vars.zip coefs).drop s.1) s.2.1 s.2.2=res∧s.2.1.length=d.length∧∀x∈s.2.1,Fine x) (fun s=>vars.length-s.1) (0,d,false) ⟨by simp,hres,rfl,hdom⟩ (fun _ _ h=>h) ?_)
 rintro⟨i,d1,ch⟩ ⟨hil,he,hl1,hf1⟩ ih
 simp only at hil he hl1 hf1
 dsimp only
 refine .B ?_
 refine T.cd rfl (fun h1=> ?_) (fun h1=> ?_)
 ·have h1:i<vars.length:=by simpa using h1
  have h2:i<coefs.length:=by omega
  have hv:=hvin _ (List.getElem_mem h1)
  have hk:=hck _ (List.getElem_mem h2)
  have hk2:=eR hk
  have hvd:vars[i].toNat<d1.length:=by omega
  have hx:=hf1 _ (af hvd)
  have hrow:(d1.map cD)[vars[i].toNat]? =some (cD (domAt d1 vars[i])):=by simp[ak hvd]
  have hz:i<(vars.zip coefs).length:=by simp;omega
  rw[List.drop_eq_getElem_cons hz,List.getElem_zip,eG]at he
  have hend:=jf (domAt d1 vars[i]) coefs[i] false hx.domB hk
  have hfl:coefs[i]≠0:=hk.1
  have hng:IntKind.i64.wrap (0-coefs[i])≠0:=by rw[ac (by omega) (by omega)];omega
  have hfine:=qE hx coefs[i] (gv low rhs (domAt d1 vars[i]) coefs[i])
  have hdc:=fun lo hi=>(fY (domAt d1 vars[i]) lo hi (by have:=hx.len;omega)).frz
  have hcw:cutW (domAt d1 vars[i]) coefs[i] (gv low rhs (domAt d1 vars[i]) coefs[i])=if 0<coefs[i]then domCut (domAt d1 vars[i]) (-1048576) (gj (gv low rhs (domAt d1 vars[i]) coefs[i]) coefs[i])else domCut (domAt d1 vars[i]) (wr (0-gj (gv low rhs (domAt d1 vars[i]) coefs[i]) (wr (0-coefs[i])))) 1048576:=rfl
  have hsame:=fun x hxl=>d7 x (domAt d1 vars[i]) hxl
  generalize cutW (domAt d1 vars[i]) coefs[i] (gv low rhs (domAt d1 vars[i]) coefs[i])=cx at*
  unfold gv at hcw
  generalize endW (domAt d1 vars[i]) coefs[i] false=e1 at*
  generalize hvi:vars[i]=v at*
  generalize hki:coefs[i]=k at*
  generalize domAt d1 v=dv at*
  refine .B ?_
  refine J.i rfl rfl rfl rfl rfl rfl rfl rfl rfl (r:=cI v) (by omega) (by rw[←hvi];exact bq h1) rfl ?_
  refine .B ?_
  refine J.i rfl rfl rfl rfl rfl rfl rfl rfl rfl (r:=cI k) (by omega) (by rw[←hki];exact bq h2) rfl ?_
  refine .B ?_
  refine J.io rfl rfl rfl rfl rfl rfl rfl rfl rfl hv.1 (by simpa using hvd) rfl ?_
  refine J.lo rfl rfl rfl rfl rfl rfl (r:=cD dv) hrow rfl ?_
  refine .B ?_
  refine .C hend ?_
  refine .B ?_
  refine J.io rfl rfl rfl rfl rfl rfl rfl rfl rfl hv.1 (by simpa using hvd) rfl ?_
  refine J.lo rfl rfl rfl rfl rfl rfl (r:=cD dv) hrow rfl ?_
  repeat' first|refine J.e rfl rfl rfl rfl ?_|refine J.skip rfl rfl rfl ?_|refine J.bx rfl rfl rfl rfl rfl rfl ?_
  refine J.nil ?_
  refine T.mid ⟨[(0,.ref 0),(2,.val false (aA coefs)),(3,.val false (.int .i64 rhs)),(10,.val true (.int .i64 low)),(13,.val true (.bool ch)),(29,.val false (aA vars)),(30,.val true (.int .i64 (vars.map cI).length)),(31,.val true (.int .i64 i)),(15,.val true (.int .i64 v)),(20,.val true (dm cx))],[(0,some (.sl 54 1 true (d1.map cD)))],1⟩ ?_ ?_
  ·refine .B ?_
   refine T.cd rfl (fun h3=> ?_) (fun h3=> ?_)
   ·have h3:0<k:=h3
    rw[if_pos h3]at hcw
    refine .B ?_
    refine J.cc rfl rfl rfl rfl rfl (oK _ k hfl) rfl rfl ?_
    refine J.cc rfl rfl rfl rfl rfl (hdc _ _) rfl rfl ?_
    rw[hcw]
    refine .B ?_
    exact⟨rfl,[0,2,3,10,13,29,30,31,15,20],[0],rfl,rfl⟩
   ·have h3: ¬0<k:=h3
    rw[if_neg h3]at hcw
    refine .B ?_
    refine J.cc rfl rfl rfl rfl rfl (oK _ _ hng) rfl rfl ?_
    refine .B ?_
    refine J.cc rfl rfl rfl rfl rfl (hdc _ _) rfl rfl ?_
    rw[hcw]
    refine .B ?_
    exact⟨rfl,[0,2,3,10,13,29,30,31,15,20],[0],rfl,rfl⟩
  ·clear hcw
   refine .B ?_
   refine T.cd rfl (fun h4=> ?_) (fun h4=> ?_)
   ·have h4:cx=[]:=by simp at h4;exact h4
    rw[if_pos h4]at he
    subst he
    refine .B ?_
    exact⟨.v rfl rfl rfl (fun h=>by cases h) (.v rfl rfl rfl (fun h=>by cases h) .nil),_,rfl,rfl⟩
   ·have h4:cx≠[]:=fun e=>h4 (by rw[e];rfl)
    rw[if_neg h4]at he
    have hset:=gX (p:=Fine) (i:=v.toNat) hf1 hfine
    cases ch
    ·refine .B ?_
     refine J.io rfl rfl rfl rfl rfl rfl rfl rfl rfl hv.1 (by simpa using hvd) rfl ?_
     refine J.lo rfl rfl rfl rfl rfl rfl (r:=cD dv) hrow rfl ?_
     refine .B ?_
     refine .C (hsame cx (by have:=hfine.len;omega)) ?_
     refine .B ?_
     refine J.io rfl rfl rfl rfl rfl rfl rfl rfl rfl hv.1 (by simpa using hvd) rfl ?_
     refine J.w1 rfl rfl rfl rfl rfl rfl rfl rfl rfl rfl rfl (fun _=>rfl) hvd ?_
     refine .B ?_
     rw[aj (l:=vars.length) (by omega) (by omega)]
     exact T.K (ih (i+1,d1.set v.toNat cx,!decide (cx=dv)) ⟨by simp only;omega,he,by simp[hl1],hset⟩ (by simp only;omega))
    ·refine .B ?_
     refine J.io rfl rfl rfl rfl rfl rfl rfl rfl rfl hv.1 (by simpa using hvd) rfl ?_
     refine J.w1 rfl rfl rfl rfl rfl rfl rfl rfl rfl rfl rfl (fun _=>rfl) hvd ?_
     refine .B ?_
     rw[aj (l:=vars.length) (by omega) (by omega)]
     exact T.K (ih (i+1,d1.set v.toNat cx,true) ⟨by simp only;omega,he,by simp[hl1],hset⟩ (by simp only;omega))
 ·have h1:i=vars.length:=by simp at h1;omega
  subst h1
  rw[List.drop_of_length_le (by simp;omega),eG]at he
  subst he
  refine .B ?_
  exact⟨.v rfl rfl rfl (fun h=>by cases h) (.v rfl rfl rfl (fun h=>by cases h) .nil),_,rfl,rfl⟩
def fT (i:Nat):Nat→List (List (Int×Int)×Int)→Int→Int
 |_,[],n=>n
 |k,t::ts,n=>fT i (k+1) ts (if k=i then n else wr (n+(Bo t.1 t.2).1))
def A1 (x:List Int)(k rhs rest:Int):List Int:=x.filter fun v=>decide (wr (k*v)≤wr (rhs-rest))
def rj (d:aa)(vars coefs:List Int)(rhs:Int)(i:Nat):List (Int×Int):=cW (A1 (vals (domAt d (vars.getD i 0))) (coefs.getD i 0) rhs (fT i 0 (ab d vars coefs) 0))
def j0 (d:aa)(vars coefs:List Int)(rhs:Int):Nat→aa
 |0=>d
 |n+1=>(j0 d vars coefs rhs n).set (vars.getD n 0).toNat (rj d vars coefs rhs n)
theorem aM {l:List Int}{i:Nat}(h:i<l.length):l.getD i 0=l[i]:=by simp[List.getD_eq_getElem?_getD,List.getElem?_eq_getElem h]
def bI:List (Int×Int)→Int→Int→List (Int×Int)→Int×List (Int×Int)
 | [],lo,hi,out=>(lo,out)
 |y::b,lo,hi,out=>if y.2<lo∨hi<y.1 then bI b lo hi out else bI b (wr (y.2+1)) hi (if lo<y.1 then out++[(lo,wr (y.1-1))]else out)
def cz (b:List (Int×Int))(out:List (Int×Int))(x:Int×Int):List (Int×Int):=if(bI b x.1 x.2 out).1≤x.2 then(bI b x.1 x.2 out).2++[((bI b x.1 x.2 out).1,x.2)]else(bI b x.1 x.2 out).2
def dX (a b:List (Int×Int)):List (Int×Int):=a.foldl (cz b) []
theorem j4 (a b:List (Int×Int))(hb:b.length*8≤140737488355328)(hl:(a.length+1)*(b.length+1)*16≤140737488355328):Spec Tryz.prog 142 false [dm a,dm b] [.own 53 2 ((dX a b).map cR)]:=by
 refine Spec.body Tryz.func142 rfl rfl rfl fun w0 Z0=> ?_
 have hal:a.length*8≤140737488355328:=by
  have:a.length+1≤(a.length+1)*(b.length+1):=Nat.le_mul_of_pos_right _ (by omega)
  omega
 refine .B ?_
 refine T.sub (Rel.own0 (s:=5) 53 2 rfl) ?_
 refine T.K (T.ind (fun s:Nat×List (Int×Int)=>⟨[(1,.val false (dm b)),(5,.ref 0),(10,.val false (dm a)),(11,.val true (.int .i64 (a.map cR).length)),(12,.val true (.int .i64 s.1))],[(0,some (.sl 53 2 true (s.2.map cR)))],1⟩)
  (fun s=>s.1≤a.length∧(a.drop s.1).foldl (cz b) s.2=dX a b∧s.2.length≤s.1*(b.length+1)) (fun s=>a.length-s.1) (0,[]) ⟨by simp,rfl,by simp⟩ (fun _ _ h=>h) ?_)
 rintro⟨n,out⟩ ⟨hn,he,hlo⟩ ih
 simp only at hn he hlo
 dsimp only
 refine .B ?_
 refine T.cd rfl (fun h1=> ?_) (fun h1=> ?_)
 ·have h1:n<a.length:=by simpa using h1
  rw[List.drop_eq_getElem_cons h1,List.foldl_cons]at he
  have hmul:(n+1)*(b.length+1)≤(a.length+1)*(b.length+1):=Nat.mul_le_mul_right _ (by omega)
  have hmul2:(n+1)*(b.length+1)=n*(b.length+1)+(b.length+1):=by rw[Nat.add_mul,Nat.one_mul]
  have hr:(a.map cR)[((n:Nat):Int).toNat]? =some (cR a[n]):=bq h1
  generalize a[n]=x at*
  obtain⟨lo0,hi⟩:=x
  refine .B ?_
  refine .I (r:=cR (lo0,hi)) hr ?_
  refine .B ?_
  refine .L ?_
  refine .B ?_
  refine .W ?_
  refine .B ?_
  refine T.K (T.ind (fun s:Nat×Int×List (Int×Int)=>⟨[(1,.val false (dm b)),(5,.ref 0),(7,.optr 1 0 0 0),(10,.val false (dm a)),(11,.val true (.int .i64 (a.map cR).length)),(12,.val true (.int .i64 n)),(16,.val false (dm b)),(17,.val true (.int .i64 (b.map cR).length)),(18,.val true (.int .i64 s.1))],[(0,some (.sl 53 2 true (s.2.2.map cR))),(1,some (.box false (cR (s.2.1,hi))))],2⟩)
   (fun s=>s.1≤b.length∧bI (b.drop s.1) s.2.1 hi s.2.2=bI b lo0 hi out∧s.2.2.length≤out.length+s.1) (fun s=>b.length-s.1) (0,lo0,out) ⟨by simp,rfl,by simp⟩ (fun _ _ h=>h) ?_)
  rintro⟨m,lo,out2⟩ ⟨hm,he2,hlo2⟩ ih2
  simp only at hm he2 hlo2
  dsimp only
  refine .B ?_
  refine T.cd rfl (fun h2=> ?_) (fun h2=> ?_)
  ·have h2:m<b.length:=by simpa using h2
   rw[List.drop_eq_getElem_cons h2,bI]at he2
   have hr2:(b.map cR)[((m:Nat):Int).toNat]? =some (cR b[m]):=bq h2
   generalize b[m]=y at*
   obtain⟨y1,y2⟩:=y
   simp only at he2
   have skip:(y2<lo∨hi<y1)→bI (b.drop (m+1)) lo hi out2=bI b lo0 hi out:=fun h=>by rw[if_pos h]at he2;exact he2
   have keep: ¬(y2<lo∨hi<y1)→bI (b.drop (m+1)) (wr (y2+1)) hi (if lo<y1 then out2++[(lo,wr (y1-1))]else out2)=bI b lo0 hi out:=fun h=>by rw[if_neg h]at he2;exact he2
   refine .B ?_
   refine .I (r:=cR (y1,y2)) hr2 ?_
   refine .B ?_
   refine .L ?_
   refine .B ?_
   refine .W ?_
   refine .B ?_
   refine J.g rfl rfl rfl (fun h3=> ?_) (fun h3=> ?_)
   ·have h3:y2<lo:=h3
    refine .B ?_
    refine T.ct rfl ?_
    refine .B ?_
    rw[aj (l:=b.length) (by omega) (by omega)]
    exact T.K (ih2 (m+1,lo,out2) ⟨by simp only;omega,skip (.inl h3),by simp only;omega⟩ (by simp only;omega))
   ·have h3: ¬y2<lo:=h3
    refine .B ?_
    refine T.cd rfl (fun h4=> ?_) (fun h4=> ?_)
    ·have h4:hi<y1:=h4
     refine .B ?_
     rw[aj (l:=b.length) (by omega) (by omega)]
     exact T.K (ih2 (m+1,lo,out2) ⟨by simp only;omega,skip (.inr h4),by simp only;omega⟩ (by simp only;omega))
    ·have h4: ¬hi<y1:=h4
     have keep:=keep (fun h=>h.elim h3 h4)
     refine .B ?_
     refine T.cd rfl (fun h5=> ?_) (fun h5=> ?_)
     ·have h5:lo<y1:=h5
      rw[if_pos h5]at keep
      refine .B ?_
      refine .V ?_
      refine J.aR rfl rfl rfl rfl rfl rfl rfl rfl rfl rfl rfl rfl rfl rfl rfl rfl rfl rfl rfl (a:=lo) (b:=IntKind.i64.wrap (y1-1)) (by omega) ?_
      refine .B ?_
      refine .W ?_
      refine .B ?_
      rw[aj (l:=b.length) (by omega) (by omega)]
      exact T.K (ih2 (m+1,wr (y2+1),out2++[(lo,wr (y1-1))]) ⟨by simp only;omega,keep,by simp;omega⟩ (by simp only;omega))
     ·have h5: ¬lo<y1:=h5
      rw[if_neg h5]at keep
      refine .B ?_
      refine .W ?_
      refine .B ?_
      rw[aj (l:=b.length) (by omega) (by omega)]
      exact T.K (ih2 (m+1,wr (y2+1),out2) ⟨by simp only;omega,keep,by simp only;omega⟩ (by simp only;omega))
  ·have h2:m=b.length:=by simp at h2;omega
   subst h2
   rw[List.drop_length,bI]at he2
   clear ih2
   have hmo:cz b out (lo0,hi)=if lo≤hi then out2++[(lo,hi)]else out2:=by
    unfold cz
    simp only[←he2]
   rw[hmo]at he
   refine .B ?_
   refine T.cd rfl (fun h5=> ?_) (fun h5=> ?_)
   ·have h5:lo≤hi:=h5
    rw[if_pos h5]at he
    refine .B ?_
    refine .V ?_
    refine J.aR rfl rfl rfl rfl rfl rfl rfl rfl rfl rfl rfl rfl rfl rfl rfl rfl rfl rfl rfl (by omega) ?_
    refine J.sub (Rel.flat (o:=2) rfl ry) ?_
    refine .B ?_
    rw[aj (l:=a.length) (by omega) (by omega)]
    exact T.K (ih (n+1,out2++[(lo,hi)]) ⟨by simp only;omega,he,by simp;omega⟩ (by simp only;omega))
   ·have h5: ¬lo≤hi:=h5
    rw[if_neg h5]at he
    refine .B ?_
    rw[aj (l:=a.length) (by omega) (by omega)]
    exact T.K (ih (n+1,out2) ⟨by simp only;omega,he,by simp only;omega⟩ (by simp only;omega))
 ·have h1:n=a.length:=by simp at h1;omega
  subst h1
  rw[List.drop_length,List.foldl_nil]at he
  subst he
  refine .B ?_
  exact⟨_,.o rfl rfl rfl (fun _=> .inl rfl) (by simp) .nil⟩
def c7:Nat→List (List (Int×Int)×Int)→Int→Int→Option (Int×Int)
 |_,[],op,s=>some (op,s)
 |i,t::ts,op,s=>if 1<fC t.1 then(if 0≤op then none else c7 (i+1) ts i s)else c7 (i+1) ts op (wr (s+(endW t.1 t.2 false).1))
def otherW (d:aa)(c:Con):aa×Bool:=
 match c7 0 (ab d c.vars c.coefs) (-1) 0 with
 |none=>(d,true)
 |some (op,s)=>
  if op<0 then(d,decide (s≠c.rhs))else
  if(wr (c.rhs-s)).tmod (coefAt c op.toNat)=0 then
   (d.set (varAt c op.toNat).toNat (dX (domAt d (varAt c op.toNat)) [(wr ((wr (c.rhs-s)).tdiv (coefAt c op.toNat)),wr ((wr (c.rhs-s)).tdiv (coefAt c op.toNat)))]),
    decide (0<(dX (domAt d (varAt c op.toNat)) [(wr ((wr (c.rhs-s)).tdiv (coefAt c op.toNat)),wr ((wr (c.rhs-s)).tdiv (coefAt c op.toNat)))]).length))
  else(d,decide (0<(domAt d (varAt c op.toNat)).length))
theorem jZ: ∀(ts:List (List (Int×Int)×Int)) (i:Nat) (op s op' s':Int) (n:Nat),op<n→i+ts.length≤n→c7 i ts op s=some (op',s')→op'<n
 | [],i,op,s,op',s',n,h,_,e=>by
  simp only[c7,Option.some.injEq,Prod.mk.injEq]at e
  omega
 |t::ts,i,op,s,op',s',n,h,hn,e=>by
  simp only[List.length_cons]at hn
  rw[c7]at e
  split at e
  ·split at e
   ·cases e
   ·exact jZ ts (i+1) i s op' s' n (by omega) (by omega) e
  ·exact jZ ts (i+1) op _ op' s' n h (by omega) e
theorem tp (d:aa)(c:Con)(h:SumFine d c.vars c.coefs)(hsm: ∀x∈d,x.length*64+1048576≤140737488355328):
  SpecM Tryz.prog 200 54 1 (d.map cD) [.agg (cC c)] ((otherW d c).1.map cD) [.bool (otherW d c).2]:=by
 refine SpecM.body Tryz.func200 rfl rfl rfl (by simp[PV.flat]) fun w0 v0 Z1=> ?_
 obtain⟨hlen,hvl,hvin,hck,hdom,hdl⟩:=h
 have hin:=jZ (ab d c.vars c.coefs) 0 (-1) 0
 generalize hgo:c7 0 (ab d c.vars c.coefs) (-1) 0=go at hin
 refine .B ?_
 refine T.K (T.ind (fun s:Nat×Int×Int=>⟨[(0,.ref 0),(3,.optr 1 0 0 0),(5,.val true (.int .i64 s.2.1)),(6,.val true (.int .i64 s.2.2)),(15,.val false (aA c.vars)),(16,.val true (.int .i64 (c.vars.map cI).length)),(17,.val true (.int .i64 s.1))],[(0,some (.sl 54 1 true (d.map cD))),(1,some (.box false (cC c)))],2⟩)
  (fun s=>s.1≤c.vars.length∧c7 s.1 ((ab d c.vars c.coefs).drop s.1) s.2.1 s.2.2=go) (fun s=>c.vars.length-s.1) (0,-1,0) ⟨by simp,hgo⟩ (fun _ _ h=>h) ?_)
 rintro⟨i,op,s⟩ ⟨hil,he⟩ ih
 simp only at hil he
 dsimp only
 refine .B ?_
 refine T.cd rfl (fun h1=> ?_) (fun h1=> ?_)
 ·have h1:i<c.vars.length:=by simpa using h1
  have h2:i<c.coefs.length:=by omega
  have hv:=hvin _ (List.getElem_mem h1)
  have hk:=hck _ (List.getElem_mem h2)
  have hx:=hdom _ (af hv.2)
  have hrow:(d.map cD)[c.vars[i].toNat]? =some (cD (domAt d c.vars[i])):=by simp[ak hv.2]
  rw[nt h1 h2,c7]at he
  refine .B ?_
  refine .I (r:=cI c.vars[i]) (bq h1) ?_
  refine .B ?_
  refine J.io rfl rfl rfl rfl rfl rfl rfl rfl rfl hv.1 (by simpa using hv.2) rfl ?_
  refine J.lo rfl rfl rfl rfl rfl rfl (r:=cD (domAt d c.vars[i])) hrow rfl ?_
  refine .C (gu (domAt d c.vars[i]) (by have:=hx.len;omega)) ?_
  refine .B ?_
  refine T.cd rfl (fun h3=> ?_) (fun h3=> ?_)
  ·have h3:1<fC (domAt d c.vars[i]):=h3
   rw[if_pos h3]at he
   refine .B ?_
   refine T.cd rfl (fun h4=> ?_) (fun h4=> ?_)
   ·have h4:0≤op:=h4
    rw[if_pos h4]at he
    subst he
    have ho:otherW d c=(d,true):=by unfold otherW;rw[hgo]
    rw[ho]
    refine .B ?_
    exact⟨.v rfl rfl rfl (fun h=>by cases h) .nil,_,rfl,rfl⟩
   ·have h4: ¬0≤op:=h4
    rw[if_neg h4]at he
    refine .B ?_
    rw[aj (l:=c.vars.length) (by omega) (by omega)]
    exact T.K (ih (i+1,i,s) ⟨by simp only;omega,he⟩ (by simp only;omega))
  ·have h3: ¬1<fC (domAt d c.vars[i]):=h3
   rw[if_neg h3]at he
   refine .B ?_
   refine J.io rfl rfl rfl rfl rfl rfl rfl rfl rfl hv.1 (by simpa using hv.2) rfl ?_
   refine J.lo rfl rfl rfl rfl rfl rfl (r:=cD (domAt d c.vars[i])) hrow rfl ?_
   refine .B ?_
   refine .I (r:=cI c.coefs[i]) (bq h2) ?_
   refine .B ?_
   refine J.cc rfl rfl rfl rfl rfl (jf _ _ false hx.domB hk) rfl rfl ?_
   refine .B ?_
   rw[aj (l:=c.vars.length) (by omega) (by omega)]
   exact T.K (ih (i+1,op,wr (s+(endW (domAt d c.vars[i]) c.coefs[i] false).1)) ⟨by simp only;omega,he⟩ (by simp only;omega))
 ·have h1:i=c.vars.length:=by simp at h1;omega
  subst h1
  rw[pA hlen,c7]at he
  subst he
  clear ih
  have hop:=hin op s c.vars.length (by omega) (by simp[ab];omega) rfl
  unfold otherW
  rw[hgo]
  simp only
  refine .B ?_
  refine T.cd rfl (fun h3=> ?_) (fun h3=> ?_)
  ·have h3:op<0:=h3
   rw[if_pos h3]
   refine .B ?_
   exact⟨.v rfl rfl rfl (fun h=>by cases h) .nil,_,rfl,rfl⟩
  ·have h3: ¬op<0:=h3
   rw[if_neg h3]
   obtain⟨j,rfl⟩: ∃j:Nat,op=j:=⟨op.toNat,by omega⟩
   rw[Int.toNat_natCast]
   have hj:j<c.vars.length:=by omega
   have hv:=hvin _ (aJ hj)
   have hk:=hck _ (show coefAt c j∈c.coefs by unfold coefAt;rw[aM (by omega)];exact List.getElem_mem _)
   have hx:=hdom _ (af hv.2)
   have hrow:(d.map cD)[(varAt c j).toNat]? =some (cD (domAt d (varAt c j))):=by simp[ak hv.2]
   have hkr:=ir (c:=c) (k:=j) (by omega)
   have hvr:=eA (c:=c) (k:=j) hj
   have hk0:=hk.1
   have hln:=hx.len
   have hls:=hsm _ (af hv.2)
   have hm:=fun x=>(j4 (domAt d (varAt c j)) [(x,x)] (by simp) (by simp only[List.length_singleton];omega)).frz
   generalize varAt c j=v at*
   generalize coefAt c j=k at*
   generalize domAt d v=dv at*
   refine .B ?_
   refine .I (r:=cI v) hvr ?_
   refine .B ?_
   refine .I (r:=cI k) hkr ?_
   refine .B ?_
   refine J.rm rfl rfl rfl rfl rfl rfl hk0 ?_
   refine .B ?_
   refine T.cd rfl (fun h4=> ?_) (fun h4=> ?_)
   ·have h4:(wr (c.rhs-s)).tmod k=0:=h4
    rw[if_pos h4]
    refine .B ?_
    refine J.qu rfl rfl rfl rfl rfl rfl hk0 ?_
    refine .B ?_
    refine J.io rfl rfl rfl rfl rfl rfl rfl rfl rfl hv.1 (by simpa using hv.2) rfl ?_
    refine J.lo rfl rfl rfl rfl rfl rfl (r:=cD dv) hrow rfl ?_
    refine .B ?_
    refine .V ?_
    refine J.cc rfl rfl rfl rfl rfl (hm _) rfl rfl ?_
    refine J.io rfl rfl rfl rfl rfl rfl rfl rfl rfl hv.1 (by simpa using hv.2) rfl ?_
    refine J.w1 rfl rfl rfl rfl rfl rfl rfl rfl rfl rfl rfl (fun _=>rfl) hv.2 ?_
    refine .B ?_
    refine J.io rfl rfl rfl rfl rfl rfl rfl rfl rfl hv.1 (by simpa using hv.2) rfl ?_
    refine J.lo rfl rfl rfl rfl rfl rfl (r:=cD (dX dv [(wr ((wr (c.rhs-s)).tdiv k),wr ((wr (c.rhs-s)).tdiv k))])) (by rw[List.getElem?_map,List.getElem?_set_self hv.2];rfl) rfl ?_
    refine .B ?_
    exact⟨.v rfl rfl (by simp only[List.length_map];congr 1;simp) (fun h=>by cases h) .nil,_,rfl,rfl⟩
   ·have h4: ¬(wr (c.rhs-s)).tmod k=0:=h4
    rw[if_neg h4]
    refine .B ?_
    refine J.io rfl rfl rfl rfl rfl rfl rfl rfl rfl hv.1 (by simpa using hv.2) rfl ?_
    refine J.lo rfl rfl rfl rfl rfl rfl (r:=cD dv) hrow rfl ?_
    refine .B ?_
    exact⟨.v rfl rfl (by simp only[List.length_map];congr 1;simp) (fun h=>by cases h) .nil,_,rfl,rfl⟩
theorem mC (low rhs:Int): ∀(l:List (Int×Int)) (d:aa) (ch:Bool),(∀p∈l,0≤p.1∧p.1.toNat<d.length)→(∀x∈d,Fine x)→(eG low rhs l d ch).1.length=d.length∧∀x∈(eG low rhs l d ch).1,Fine x
 | [],d,ch,_,hf=>⟨rfl,hf⟩
 |(v,k)::l,d,ch,hv,hf=>by
  rw[eG]
  split
  ·exact⟨rfl,hf⟩
  ·have hx:=hf _ (af (hv _ (.head _)).2)
   obtain⟨h1,h2⟩:=mC low rhs l (d.set v.toNat (cutW (domAt d v) k (gv low rhs (domAt d v) k))) (ch|| !decide (cutW (domAt d v) k (gv low rhs (domAt d v) k)=domAt d v)) (fun p hp=>by rw[List.length_set];exact hv p (.tail _ hp)) (gX hf (qE hx k _))
   exact⟨by rw[h1,List.length_set],h2⟩
theorem SumFine.most {d:aa}{vars coefs:List Int}(h:SumFine d vars coefs)(rhs:Int):SumFine (mostW d vars coefs rhs).1 vars coefs:=by
 obtain⟨h1,h2⟩:=mC (endsW d vars coefs).1 rhs (vars.zip coefs) d false (fun p hp=>h.vin _ (List.of_mem_zip hp).1) h.dom
 have h1:(mostW d vars coefs rhs).1.length=d.length:=h1
 exact⟨h.len,h.vl,fun v hv=>by rw[h1];exact h.vin v hv,h.ck,h2,by rw[h1];exact h.dl⟩
theorem cY {k:Int}(h:CoefOk k):wr (0-k)= -k∧CoefOk (wr (0-k)):=by
 have:=eR h
 have e:wr (0-k)= -k:=by rw[wr,ac (by omega) (by omega)];omega
 refine⟨e,?_⟩
 rw[e]
 unfold CoefOk aF at*
 omega
theorem SumFine.back {d:aa}{vars coefs:List Int}(h:SumFine d vars coefs):SumFine d vars (ay coefs):=
 ⟨by simp[ay,h.len],h.vl,h.vin,fun k hk=>by
  obtain⟨k0,hk0,rfl⟩:=List.mem_map.1 hk
  exact(cY (h.ck _ hk0)).2,h.dom,h.dl⟩
def eX (c:Con)(out:aa):Option aa ⊕ aa:=
 if(mostW out c.vars c.coefs c.rhs).2.2=false then .inl none else
 if c.op=0 then .inl (some (mostW out c.vars c.coefs c.rhs).1)else
 if(mostW (mostW out c.vars c.coefs c.rhs).1 c.vars (ay c.coefs) (wr (0-c.rhs))).2.2=false then .inl none else
 if(mostW out c.vars c.coefs c.rhs).2.1=false∧(mostW (mostW out c.vars c.coefs c.rhs).1 c.vars (ay c.coefs) (wr (0-c.rhs))).2.1=false then .inl (some (mostW (mostW out c.vars c.coefs c.rhs).1 c.vars (ay c.coefs) (wr (0-c.rhs))).1)
 else .inr (mostW (mostW out c.vars c.coefs c.rhs).1 c.vars (ay c.coefs) (wr (0-c.rhs))).1
def LinAns (d:aa)(c:Con)(R:Option aa)(N:Nat):Prop:=
 if []∈d then R=none else if c.op=2 then R=(if(otherW d c).2 then some (otherW d c).1 else none)else cB (eX c) N d=some R
theorem tn (d:aa)(c:Con)(h:SumFine d c.vars c.coefs)(hsm: ∀x∈d,x.length*64+1048576≤140737488355328)(R:Option aa)(N:Nat)(hR:LinAns d c R N):
  Spec Tryz.prog 139 false [aH d,.agg (cC c)] (aU R):=by
 refine Spec.body Tryz.func139 rfl rfl rfl fun w0 Z0=> ?_
 have hown:=xX d h.dl (fun x hx=>by have:=(h.dom x hx).len;omega)
 unfold LinAns at hR
 refine .B ?_
 refine T.scope (fun _ _ h=>h) ?_
 refine .B ?_
 refine .C hown ?_
 refine .B ?_
 by_cases hm: []∈d
 ·rw[if_pos hm]at hR
  subst hR
  rw[if_pos hm,decide_eq_true hm]
  refine T.ct rfl ?_
  refine .B ?_
  exact⟨_,.ownN rfl (.v rfl rfl rfl (fun _=>rfl) .nil)⟩
 ·rw[if_neg hm]at hR
  rw[if_neg hm,decide_eq_false hm]
  refine T.cf rfl ?_
  refine .B ?_
  refine T.cd rfl (fun h1=> ?_) (fun h1=> ?_)
  ·have h1:c.op=2:=h1
   rw[if_pos h1]at hR
   refine .B ?_
   have ho:=tp d c h hsm
   generalize otherW d c=ow at*
   obtain⟨d2,b⟩:=ow
   refine J.cm rfl rfl rfl rfl rfl rfl rfl rfl rfl ho rfl rfl rfl ?_
   refine .B ?_
   cases b
   ·subst hR
    refine T.ct rfl ?_
    refine .B ?_
    exact⟨_,.ownN rfl (.v rfl rfl rfl (fun _=>rfl) .nil)⟩
   ·subst hR
    refine T.cf rfl ?_
    refine .B ?_
    exact⟨_,.o rfl rfl rfl (fun _=> .inl rfl) (by simp) (.v rfl rfl rfl (fun _=>rfl) .nil)⟩
  ·have h1: ¬c.op=2:=h1
   rw[if_neg h1]at hR
   refine .B ?_
   refine .C (kR c.coefs (by have:=h.vl;have:=h.len;omega)) ?_
   refine .B ?_
   refine T.K (T.ind (fun s:Nat×aa=>⟨[(3,.optr 0 0 0 0),(6,.ref 1),(8,.ref 2)],[(0,some (.box false (cC c))),(1,some (.sl 54 1 true (s.2.map cD))),(2,some (.sl 3 1 true ((ay c.coefs).map cI)))],3⟩)
    (fun s=>cB (eX c) s.1 s.2=some R∧SumFine s.2 c.vars c.coefs) (fun s=>s.1) (N,d) ⟨hR,h⟩ (fun _ _ h=>h) ?_)
   rintro⟨m,out⟩ ⟨hR,hs⟩ ih
   simp only at hR hs
   dsimp only
   have hm1:=ol out c.vars c.coefs c.rhs hs
   have hs1:=hs.most c.rhs
   have hm2:=ol (mostW out c.vars c.coefs c.rhs).1 c.vars (ay c.coefs) (wr (0-c.rhs)) hs1.back
   have hs2:=hs1.back.most (wr (0-c.rhs))
   have hs3:SumFine (mostW (mostW out c.vars c.coefs c.rhs).1 c.vars (ay c.coefs) (wr (0-c.rhs))).1 c.vars c.coefs:=⟨hs.len,hs2.vl,hs2.vin,hs.ck,hs2.dom,hs2.dl⟩
   have hst:eX c out=eX c out:=rfl
   conv at hst=>rhs;unfold eX
   generalize mostW (mostW out c.vars c.coefs c.rhs).1 c.vars (ay c.coefs) (wr (0-c.rhs))=m2 at*
   generalize mostW out c.vars c.coefs c.rhs=m1 at*
   obtain⟨d1,ch1,ok1⟩:=m1
   obtain⟨d2,ch2,ok2⟩:=m2
   simp only at hm1 hm2 hst hs1 hs3
   refine .B ?_
   refine J.cm rfl rfl rfl rfl rfl rfl rfl rfl rfl hm1 rfl rfl rfl ?_
   refine .B ?_
   cases ok1
   ·rw[if_pos rfl]at hst
    obtain rfl:=aX hR hst
    refine T.ct rfl ?_
    refine .B ?_
    exact⟨_,.ownN rfl (.v rfl rfl rfl (fun _=>rfl) .nil)⟩
   ·rw[if_neg (by decide)]at hst
    refine T.cf rfl ?_
    refine .B ?_
    refine T.cd rfl (fun h2=> ?_) (fun h2=> ?_)
    ·have h2:c.op=0:=h2
     rw[if_pos h2]at hst
     obtain rfl:=aX hR hst
     refine .B ?_
     exact⟨_,.o rfl rfl rfl (fun _=> .inl rfl) (by simp) (.v rfl rfl rfl (fun _=>rfl) .nil)⟩
    ·have h2: ¬c.op=0:=h2
     rw[if_neg h2]at hst
     refine .B ?_
     refine J.cm rfl rfl rfl rfl rfl rfl rfl rfl rfl hm2 rfl rfl rfl ?_
     refine .B ?_
     cases ok2
     ·rw[if_pos rfl]at hst
      obtain rfl:=aX hR hst
      refine T.ct rfl ?_
      refine .B ?_
      exact⟨_,.ownN rfl (.v rfl rfl rfl (fun _=>rfl) .nil)⟩
     ·rw[if_neg (by decide)]at hst
      refine T.cf rfl ?_
      refine .B ?_
      cases ch1
      ·cases ch2
       ·rw[if_pos ⟨rfl,rfl⟩]at hst
        obtain rfl:=aX hR hst
        refine .B ?_
        refine T.ct rfl ?_
        refine .B ?_
        exact⟨_,.o rfl rfl rfl (fun _=> .inl rfl) (by simp) (.v rfl rfl rfl (fun _=>rfl) .nil)⟩
       ·rw[if_neg (by simp)]at hst
        obtain⟨m',hlt,hR'⟩:=gF hR hst
        refine .B ?_
        refine T.cf rfl ?_
        refine .B ?_
        exact T.K (ih (m',d2) ⟨hR',hs3⟩ hlt)
      ·rw[if_neg (by simp)]at hst
       obtain⟨m',hlt,hR'⟩:=gF hR hst
       refine .B ?_
       refine T.cf rfl ?_
       refine .B ?_
       exact T.K (ih (m',d2) ⟨hR',hs3⟩ hlt)
def hd0 (l:List Int):Int:=l.getD 0 0
def ar:Nat→List (List (Int×Int)×Int)→Nat→Int→Nat→Nat×Int×Nat
 |_,[],m,s,a=>(m,s,a)
 |i,t::ts,m,s,a=>if 1<(vals t.1).length then ar (i+1) ts (m+1) s i else ar (i+1) ts m (wr (s+wr (t.2*hd0 (vals t.1)))) a
def bP (d:aa)(c:Con):aa:=
 let r:=ar 0 (ab d c.vars c.coefs) 0 0 0
 if 1<r.1 then d else
 if r.1=0 then(if r.2.1=c.rhs then d.set (varAt c 0).toNat []else d)else
 d.set (varAt c r.2.2).toNat (cW ((vals (domAt d (varAt c r.2.2))).filter fun v=>decide (wr (r.2.1+wr (coefAt c r.2.2*v))≠c.rhs)))
theorem cO: ∀(ts:List (List (Int×Int)×Int)) (i m a:Nat) (s:Int) (n:Nat),a<n→i+ts.length≤n→m≤i→(ar i ts m s a).2.2<n∧(ar i ts m s a).1≤i+ts.length
 | [],i,m,a,s,n,h,_,hm=>by simp[ar];omega
 |t::ts,i,m,a,s,n,h,hn,hm=>by
  simp only[List.length_cons]at hn⊢
  rw[ar]
  split
  ·have:=cO ts (i+1) (m+1) i s n (by omega) (by omega) (by omega)
   omega
  ·have:=cO ts (i+1) m a (wr (s+wr (t.2*hd0 (vals t.1)))) n h (by omega) (by omega)
   omega
def tc (d:aa)(c:Con):aa:=j0 d c.vars c.coefs c.rhs c.vars.length
def wL (d:aa)(c:Con):aa:=j0 d c.vars (ay c.coefs) (wr (0-c.rhs)) c.vars.length
def wB (c:Con)(out:aa):Option aa ⊕ aa:=
 if c.op=1∧[]∉out then
  (if []∈wL out c then .inl none else if tc (wL out c) c=out then .inl (some out)else .inr (tc (wL out c) c))
 else .inl (if []∈out then none else some out)
def lu (d:aa)(c:Con)(R:Option aa)(N:Nat):Prop:=
 if []∈d then R=none else if c.op=2 then R=(if []∈bP d c then none else some (bP d c))else cB (wB c) N (tc d c)=some R
def soW (es:Int×Int×Bool)(c:Con):Bool:=
 if es.2.2=false then false else
 if c.op=0 then decide (es.2.1≤c.rhs)else
 if c.op=1 then decide (es.1=c.rhs)&&decide (es.2.1=c.rhs)else
 decide (c.rhs<es.1)||decide (es.2.1<c.rhs)
theorem ti (d:aa)(c:Con)(h:SumIn d c.vars c.coefs):Spec Tryz.prog 230 false [aH d,.agg (cC c)] [.val (.bool (soW (endsW d c.vars c.coefs) c))]:=by
 refine Spec.body Tryz.func230 rfl rfl rfl fun w0 Z0=> ?_
 have he:=ot d c.vars c.coefs h
 generalize endsW d c.vars c.coefs=es at*
 obtain⟨lo,hi,b⟩:=es
 unfold soW
 simp only
 refine .B ?_
 refine .C he ?_
 cases b
 ·refine .B ?_
  refine T.ct rfl ?_
  refine .B ?_
  exact r1
 ·rw[if_neg (by decide)]
  refine .B ?_
  refine T.cf rfl ?_
  refine .B ?_
  refine T.cd rfl (fun h1=> ?_) (fun h1=> ?_)
  ·have h1:c.op=0:=h1
   rw[if_pos h1]
   refine .B ?_
   exact r1
  ·have h1: ¬c.op=0:=h1
   rw[if_neg h1]
   refine .B ?_
   refine T.cd rfl (fun h2=> ?_) (fun h2=> ?_)
   ·have h2:c.op=1:=h2
    rw[if_pos h2]
    refine .B ?_
    refine J.g rfl rfl rfl (fun h3=> ?_) (fun h3=> ?_)
    ·have h3:lo=c.rhs:=h3
     rw[decide_eq_true h3]
     refine .B ?_
     exact⟨_,.v rfl rfl (by simp) (fun _=>rfl) .nil⟩
    ·have h3: ¬lo=c.rhs:=h3
     rw[decide_eq_false h3]
     refine .B ?_
     exact r1
   ·have h2: ¬c.op=1:=h2
    rw[if_neg h2]
    refine .B ?_
    refine J.g rfl rfl rfl (fun h3=> ?_) (fun h3=> ?_)
    ·have h3:c.rhs<lo:=h3
     rw[decide_eq_true h3]
     refine .B ?_
     exact r1
    ·have h3: ¬c.rhs<lo:=h3
     rw[decide_eq_false h3]
     refine .B ?_
     exact⟨_,.v rfl rfl (by simp) (fun _=>rfl) .nil⟩
def bL (c:Con):Con:=
 if c.op=0 then { c with coefs:=ay c.coefs,rhs:=wr (wr (0-c.rhs)-1) } else
 if c.op=1 then { c with op:=2 } else
 if c.op=2 then { c with op:=1 } else c
theorem qe (c:Con)(hc:ConB c):Spec Tryz.prog 194 true [.agg (cC c)] [.val (.agg (cC (bL c)))]:=by
 refine Spec.body Tryz.func194 rfl rfl rfl fun w0 Z0=> ?_
 obtain⟨kind,vars,coefs,op,rhs,rows,b⟩:=c
 obtain⟨h1,h2,h3,h4⟩:=hc
 simp only at h1 h2 h3 h4
 unfold bL
 simp only
 have hcv:=(dO vars (by omega)).frz
 have hcc:=(dO coefs h2).frz
 have htc:=(kR coefs h2).frz
 refine .B ?_
 refine .L ?_
 refine .B ?_
 refine .C hcv ?_
 refine .B ?_
 refine .W ?_
 refine .B ?_
 refine T.cd rfl (fun h5=> ?_) (fun h5=> ?_)
 ·have h5:op=0:=h5
  rw[if_pos h5]
  refine T.seq ?_
  refine T.K (?_:T _ _ ⟨[(1,.optr 0 0 0 0),(2,.optr 1 0 0 0)],[(0,some (.box false (cC ⟨kind,vars,coefs,op,rhs,rows,b⟩))),(1,some (.box true (cC ⟨0,[],[],0,0,[],0⟩)))],2⟩ _)
  refine T.rdw 11 rfl (by kernel_rfl) rfl ?_
  refine .B ?_
  refine .C htc ?_
  refine .B ?_
  refine J.wd rfl rfl rfl rfl rfl rfl rfl rfl rfl rfl ?_
  refine .B ?_
  refine J.wd rfl rfl rfl rfl rfl rfl rfl rfl rfl rfl ?_
  refine J.nil ?_
  refine⟨rfl,?_⟩
  refine .B ?_
  refine .W ?_
  refine .B ?_
  exact⟨_,.c rfl rfl rfl rfl (fun h=>by cases h) .nil⟩
 ·have h5: ¬op=0:=h5
  rw[if_neg h5]
  refine .B ?_
  refine T.cd rfl (fun h6=> ?_) (fun h6=> ?_)
  ·have h6:op=1:=h6
   rw[if_pos h6]
   refine .B ?_
   refine .W ?_
   refine .B ?_
   refine .C hcc ?_
   refine .B ?_
   refine .W ?_
   refine .B ?_
   refine .W ?_
   refine .B ?_
   exact⟨_,.c rfl rfl rfl rfl (fun h=>by cases h) .nil⟩
  ·have h6: ¬op=1:=h6
   rw[if_neg h6]
   refine .B ?_
   refine T.cd rfl (fun h7=> ?_) (fun h7=> ?_)
   ·have h7:op=2:=h7
    rw[if_pos h7]
    refine .B ?_
    refine .W ?_
    refine .B ?_
    refine .C hcc ?_
    refine .B ?_
    refine .W ?_
    refine .B ?_
    refine .W ?_
    refine .B ?_
    exact⟨_,.c rfl rfl rfl rfl (fun h=>by cases h) .nil⟩
   ·have h7: ¬op=2:=h7
    rw[if_neg h7]
    refine .B ?_
    refine .C hcc ?_
    refine .B ?_
    refine .W ?_
    refine .B ?_
    refine .W ?_
    refine .B ?_
    exact⟨_,.c rfl rfl rfl rfl (fun h=>by cases h) .nil⟩
theorem As {d:aa}{c:Con}(h:SumIn d c.vars c.coefs):SumIn d (bL c).vars (bL c).coefs:=by
 unfold bL
 split
 ·obtain⟨a1,a2,a3,a4,a5,a6⟩:=h
  exact⟨by simp[ay,a1],a2,a3,fun k hk=>by
   obtain⟨k0,hk0,rfl⟩:=List.mem_map.1 hk
   exact(cY (a4 _ hk0)).2,a5,a6⟩
 ·split
  ·exact h
  ·split<;>exact h
theorem tw (d:aa)(c:Con)(hc:ConB c)(h:SumIn d c.vars c.coefs):Spec Tryz.prog 193 false [aH d,.agg (cC c)]
  [.val (.bool (soW (endsW d c.vars c.coefs) c)),.val (.bool (soW (endsW d c.vars c.coefs) c||soW (endsW d (bL c).vars (bL c).coefs) (bL c)))]:=by
 refine Spec.body Tryz.func193 rfl rfl rfl fun w0 Z0=> ?_
 have h1:=ti d c h
 have h2:=ti d (bL c) (As h)
 have hn:=qe c hc
 generalize soW (endsW d c.vars c.coefs) c=b1 at*
 generalize soW (endsW d (bL c).vars (bL c).coefs) (bL c)=b2 at*
 refine .B ?_
 refine .C h1 ?_
 cases b1
 ·refine J.nil ?_
  refine T.cf rfl ?_
  refine .B ?_
  refine .C hn ?_
  refine .C h2 ?_
  refine .B ?_
  exact⟨_,.v rfl rfl rfl (fun _=>rfl) (.v rfl rfl (by simp) (fun _=>rfl) .nil)⟩
 ·refine J.nil ?_
  refine T.ct rfl ?_
  refine .B ?_
  exact r2
theorem iS (a b:List (List Int))(hl:a.length*8≤140737488355328)(hx: ∀x∈a,x.length*8≤140737488355328):Spec Tryz.prog 16 false [bT a,bT b] [.val (.bool (decide (a=b)))]:=by
 refine Spec.body Tryz.func16 rfl rfl rfl fun w0 Z0=> ?_
 refine .B ?_
 refine T.cd rfl (fun h=> ?_) (fun h=> ?_)
 ·refine .B ?_
  refine⟨_,.v rfl rfl ?_ (fun _=>rfl) .nil⟩
  rw[decide_eq_false]
  intro e
  subst e
  exact h rfl
 ·have h:a.length=b.length:=by
   have h: ¬(((a.map cL).length:Int)≠(b.map cL).length):=h
   simp at h;omega
  refine .B ?_
  refine T.K (T.ind (fun i:Nat=>⟨[(0,.val false (bT a)),(1,.val false (bT b)),(5,.val true (.int .i64 i))],[],0⟩) (fun i=>i≤a.length∧a.take i=b.take i) (fun i=>a.length-i) 0 (by simp) (fun _ _ h=>h) ?_)
  rintro i ⟨hi,ht⟩ ih
  refine .B ?_
  refine T.cd rfl (fun h1=> ?_) (fun h1=> ?_)
  ·have h1:i<a.length:=by simpa using h1
   have h2:i<b.length:=by omega
   refine .B ?_
   refine .I (r:=cL a[i]) (bq h1) ?_
   refine .B ?_
   refine .I (r:=cL b[i]) (bq h2) ?_
   refine .B ?_
   refine J.cc rfl rfl rfl rfl rfl (pU a[i] b[i] (hx _ (List.getElem_mem h1))) rfl rfl ?_
   refine .B ?_
   by_cases e:a[i]=b[i]
   ·rw[decide_eq_true e]
    refine T.cf rfl ?_
    refine .B ?_
    rw[aj (l:=a.length) (by omega) (by omega)]
    exact T.K (ih (i+1) ⟨by omega,lC ht h1 h2 e⟩ (by omega))
   ·rw[decide_eq_false e]
    refine T.ct rfl ?_
    refine .B ?_
    refine⟨_,.v rfl rfl ?_ (fun _=>rfl) .nil⟩
    rw[decide_eq_false]
    intro e2
    subst e2
    exact e rfl
  ·have h1:i=a.length:=by simp at h1;omega
   subst h1
   refine .B ?_
   refine⟨_,.v rfl rfl ?_ (fun _=>rfl) .nil⟩
   rw[List.take_length,h,List.take_length]at ht
   rw[decide_eq_true ht]
theorem qv (d:aa)(hl:d.length*24≤140737488355328)(hx: ∀x∈d,x.length*16≤140737488355328):Spec Tryz.prog 191 false [aH d] [.own 54 1 ((if []∈d then []else d).map cD),.val (.bool (!decide ([]∈d)))]:=by
 refine Spec.body Tryz.func191 rfl rfl rfl fun w0 Z0=> ?_
 refine .B ?_
 refine T.sub (Rel.own0 (s:=4) 54 1 rfl) ?_
 refine T.K (T.listI d (fun pre=>[]∉pre) (fun n pre post=>⟨[(4,.ref 0),(7,.val false (aH d)),(8,.val true (.int .i64 (d.map cD).length)),(9,.val true (.int .i64 n))],[(0,some (.sl 54 1 true (pre.map cD)))],1⟩) (fun _ _ h=>h) (by simp) ?_ ?_)
 ·rintro n pre x post h hn hi ih
  have hlt:=bZ h hn
  have hxl:=hx x (by rw[h];simp)
  refine .B ?_
  refine T.ct2 rfl (bY h hn) ?_
  refine .B ?_
  refine .I (r:=cD x) (aP h hn) ?_
  refine .B ?_
  refine T.cd rfl (fun h1=> ?_) (fun h1=> ?_)
  ·have hx:x=[]:=by simp at h1;exact h1
   have hm: []∈d:=by rw[h,hx];simp
   rw[if_pos hm,decide_eq_true hm]
   refine .B ?_
   exact⟨_,.ownN rfl (.v rfl rfl rfl (fun _=>rfl) .nil)⟩
  ·have hx:x≠[]:=fun e=>h1 (by rw[e];rfl)
   refine .B ?_
   refine .C (bN x (by omega)).frz ?_
   refine .B ?_
   refine .V ?_
   refine .B ?_
   refine J.aD rfl rfl rfl rfl rfl rfl rfl rfl rfl rfl rfl rfl rfl rfl rfl rfl rfl rfl rfl (by omega) ?_
   refine .B ?_
   rw[aj hlt (by omega)]
   exact T.K (ih (by simp[hi,Ne.symm hx]))
 ·intro hi
  refine .B ?_
  refine T.cf2 rfl bl ?_
  refine .B ?_
  exact⟨_,.o rfl rfl (by rw[if_neg hi]) (fun _=> .inl rfl) (by simp) (.v rfl rfl (by simp[hi]) (fun _=>rfl) .nil)⟩
theorem lW (d:aa)(v value:Int)(hv:0≤v∧v.toNat<d.length)(hl:((domAt d v).length+1)*16≤140737488355328):
  SpecM Tryz.prog 192 54 1 (d.map cD) [.int .i64 v,.int .i64 value] ((d.set v.toNat (domCut (domAt d v) value value)).map cD) [.bool (!decide (domCut (domAt d v) value value=[]))]:=by
 refine SpecM.body Tryz.func192 rfl rfl rfl (by simp[PV.flat]) fun w0 v0 Z1=> ?_
 have hrow:(d.map cD)[v.toNat]? =some (cD (domAt d v)):=by simp[ak hv.2]
 have hc:=(fY (domAt d v) value value hl).frz
 have hrow2:((d.set v.toNat (domCut (domAt d v) value value)).map cD)[v.toNat]? =some (cD (domCut (domAt d v) value value)):=by simp[hv.2]
 have hb:decide ((((domCut (domAt d v) value value).map cR).length:Int) > 0)= !decide (domCut (domAt d v) value value=[]):=by
  cases domCut (domAt d v) value value<;>simp
 generalize domCut (domAt d v) value value=cx at*
 generalize domAt d v=x at*
 refine .B ?_
 refine J.io rfl rfl rfl rfl rfl rfl rfl rfl rfl hv.1 (by simpa using hv.2) rfl ?_
 refine J.lo rfl rfl rfl rfl rfl rfl (r:=cD x) hrow rfl ?_
 refine .B ?_
 refine .C hc ?_
 refine J.io rfl rfl rfl rfl rfl rfl rfl rfl rfl hv.1 (by simpa using hv.2) rfl ?_
 refine J.w1 rfl rfl rfl rfl rfl rfl rfl rfl rfl rfl rfl (fun _=>rfl) hv.2 ?_
 refine .B ?_
 refine J.io rfl rfl rfl rfl rfl rfl rfl rfl rfl hv.1 (by simpa using hv.2) rfl ?_
 refine J.lo rfl rfl rfl rfl rfl rfl (r:=cD cx) hrow2 rfl ?_
 refine .B ?_
 exact⟨.v rfl rfl (by rw[←hb]) (fun h=>by cases h) .nil,_,rfl,rfl⟩
def dz (k:Int):Int:=wr ((wr (k+1)).tdiv 2)
theorem tC (k:Int):Spec Tryz.prog 195 false [.int .i64 k] [.val (.int .i64 (dz k))]:=by
 refine Spec.body Tryz.func195 rfl rfl rfl fun w0 Z0=> ?_
 refine .B ?_
 exact r1
theorem ya (r:Int×Int)(v:Int):Spec Tryz.prog 83 false [.agg (cR r),.ptr [.int .i64 v]] [.val (.bool (decide (r.1≤v)&&decide (v≤r.2)))]:=by
 refine Spec.body Tryz.func83 rfl rfl rfl fun w0 Z0=> ?_
 refine .B ?_
 refine J.g rfl rfl rfl (fun h=> ?_) (fun h=> ?_)
 ·have h:r.1≤v:=by simpa using h
  rw[decide_eq_true h]
  refine .B ?_
  exact r1
 ·have h: ¬r.1≤v:=by simpa using h
  rw[decide_eq_false h]
  refine .B ?_
  exact r1
theorem AI {α:Type}{p:α→Bool}{d pre post:List α}{x:α}{n:Nat}(h:d=pre++x::post)(hn:n=pre.length)(hi: ∀r∈pre,p r=false)(hx:p x=true):(if d.any p then(d.findIdx p:Int)else -1)=n:=by
 subst h hn
 have h1:(pre++x::post).any p=true:=by simp[hx]
 rw[if_pos h1,List.findIdx_append]
 have h2:pre.findIdx p=pre.length:=List.findIdx_eq_length.2 hi
 rw[h2,if_neg (by omega),List.findIdx_cons,hx]
 simp
theorem vM (f:FuncId)(caps:List PV)(p:Int×Int→Bool)(d:List (Int×Int))(hl:d.length*16≤140737488355328)(hf: ∀r,Spec Tryz.prog f false (.agg (cR r)::caps) [.val (.bool (p r))]):
  Spec Tryz.prog 122 false [dm d,.fn (.func f) [] caps] [.val (.int .i64 (if d.any p then d.findIdx p else -1))]:=by
 refine Spec.body Tryz.func122 rfl rfl rfl fun w0 Z0=> ?_
 refine .B ?_
 refine T.K (T.listI d (fun pre=> ∀r∈pre,p r=false) (fun n pre post=>⟨[(0,.val false (dm d)),(1,.val false (.fn (.func f) [] caps)),(6,.val false (dm d)),(7,.val true (.int .i64 (d.map cR).length)),(8,.val true (.int .i64 n))],[],0⟩) (fun _ _ h=>h) (by simp) ?_ ?_)
 ·rintro n pre x post h hn hi ih
  have hlt:=bZ h hn
  have hfx:=hf x
  refine .B ?_
  refine T.ct2 rfl (bY h hn) ?_
  refine .B ?_
  refine .I (r:=cR x) (aP h hn) ?_
  refine .B ?_
  refine .C hfx ?_
  refine .B ?_
  cases hp:p x
  ·refine T.cf rfl ?_
   refine .B ?_
   rw[aj hlt (by omega)]
   exact T.K (ih (fun r hr=>by
    rcases List.mem_append.1 hr with h|h
    ·exact hi r h
    ·simp at h;subst h;exact hp))
  ·refine T.ct rfl ?_
   refine .B ?_
   exact⟨_,.v rfl rfl (by rw[AI h hn hi hp]) (fun _=>rfl) .nil⟩
 ·intro hi
  refine .B ?_
  refine T.cf2 rfl bl ?_
  refine .B ?_
  exact⟨_,.v rfl rfl (by rw[if_neg (by simpa using hi)]) (fun _=>rfl) .nil⟩
def hasV (d:List (Int×Int))(v:Int):Bool:=d.any fun r=>decide (r.1≤v)&&decide (v≤r.2)
theorem pd (f:FuncId)(caps:List PV)(p:Int×Int→Bool)(d:List (Int×Int))(hl:d.length*16≤140737488355328)(hf: ∀r,Spec Tryz.prog f false (.agg (cR r)::caps) [.val (.bool (p r))]):
  Spec Tryz.prog 82 false [dm d,.fn (.func f) [] caps] [.val (.bool (d.any p))]:=by
 refine Spec.body Tryz.func82 rfl rfl rfl fun w0 Z0=> ?_
 refine .B ?_
 refine .C (vM f caps p d hl hf) ?_
 refine .B ?_
 refine⟨_,.v rfl rfl ?_ (fun _=>rfl) .nil⟩
 cases d.any p
 ·rfl
 ·show PV.bool (decide ((d.findIdx p:Int)≥0))=_
  rw[decide_eq_true (by omega)]
theorem jr (d:List (Int×Int))(v:Int)(hl:d.length*16≤140737488355328):Spec Tryz.prog 55 false [dm d,.int .i64 v] [.val (.bool (hasV d v))]:=by
 refine Spec.body Tryz.func55 rfl rfl rfl fun w0 Z0=> ?_
 refine .B ?_
 refine J.sub (Rel.unbx (s:=3) (fun _ h=>h) rfl rfl) ?_
 refine J.sub (Rel.fp (s:=3) rfl) ?_
 refine .B ?_
 refine J.cc rfl rfl rfl rfl rfl (pd _ _ _ d hl fun r=>ya r v) rfl rfl ?_
 refine .B ?_
 exact r1
def dA (d:aa)(b v:Int):Option aa:=if domCut (domAt d b) v v=[]then none else some (d.set b.toNat (domCut (domAt d b) v v))
def bJ (c:Con):Con:=⟨0,c.vars,c.coefs,c.op,c.rhs,[],0⟩
def yesW (d:aa)(c:Con):Bool:=soW (endsW d c.vars c.coefs) (bJ c)
def noW (d:aa)(c:Con):Bool:=soW (endsW d (bL (bJ c)).vars (bL (bJ c)).coefs) (bL (bJ c))
def sK (d:aa)(c:Con)(RS RN:Option aa):Option aa:=
 if []∈d then none else
 if yesW d c then dA d c.b 1 else
 if noW d c then dA d c.b 0 else
 if hasV (domAt d c.b) 0=false then RS else
 if hasV (domAt d c.b) 1=false then RN else some d
theorem vC (d:aa)(c:Con)(h:SumIn d c.vars c.coefs)(hcb:ConB (bJ c))(hb:0≤c.b∧c.b.toNat<d.length)(hx: ∀x∈d,(x.length+1)*16≤140737488355328)(RS RN:Option aa)
  (h1: []∉d→yesW d c=false→noW d c=false→hasV (domAt d c.b) 0=false→Spec Tryz.prog 139 false [aH d,.agg (cC (bJ c))] (aU RS)) (h2: []∉d→yesW d c=false→noW d c=false→hasV (domAt d c.b) 0=true→hasV (domAt d c.b) 1=false→Spec Tryz.prog 139 false [aH d,.agg (cC (bL (bJ c)))] (aU RN)):
  Spec Tryz.prog 136 false [aH d,.agg (cC c)] (aU (sK d c RS RN)):=by
 refine Spec.body Tryz.func136 rfl rfl rfl fun w0 Z0=> ?_
 have hown:=qv d h.dl (fun x hm=>by have:=hx x hm;omega)
 have hkn:Spec Tryz.prog 193 false [aH d,.agg (cC (bJ c))] [.val (.bool (yesW d c)),.val (.bool (yesW d c||noW d c))]:=tw d (bJ c) hcb h
 have hnot:=qe (bJ c) hcb
 have hrow:(d.map cD)[c.b.toNat]? =some (cD (domAt d c.b)):=by simp[ak hb.2]
 have hxb:=hx _ (af hb.2)
 have hh0:=jr (domAt d c.b) 0 (by omega)
 have hh1:=jr (domAt d c.b) 1 (by omega)
 have hk0:=lW d c.b 0 hb hxb
 have hk1:=lW d c.b 1 hb hxb
 unfold sK
 unfold dA
 generalize yesW d c=y at*
 generalize noW d c=z at*
 refine .B ?_
 refine .C hown ?_
 refine .B ?_
 by_cases hm: []∈d
 ·rw[if_pos hm,if_pos hm,decide_eq_true hm]
  refine T.ct rfl ?_
  refine .B ?_
  exact⟨_,.ownN rfl (.v rfl rfl rfl (fun _=>rfl) .nil)⟩
 ·rw[if_neg hm,if_neg hm,decide_eq_false hm]
  have h1:=h1 hm
  have h2:=h2 hm
  refine T.cf rfl ?_
  refine .B ?_
  refine .L ?_
  refine .W ?_
  refine .B ?_
  refine J.mf rfl rfl rfl rfl rfl rfl rfl ?_
  refine .B ?_
  refine .C hkn ?_
  refine .B ?_
  cases y
  ·rw[if_neg (by decide)]
   cases z
   ·rw[if_neg (by decide)]
    refine .B ?_
    refine T.cf rfl ?_
    refine .B ?_
    refine T.cf rfl ?_
    refine .B ?_
    refine J.i rfl rfl rfl rfl rfl rfl rfl rfl rfl (r:=cD (domAt d c.b)) hb.1 hrow rfl ?_
    refine .B ?_
    refine .C hh0 ?_
    generalize hasV (domAt d c.b) 0=e0 at*
    cases e0
    ·rw[if_pos rfl]
     refine .B ?_
     refine T.ct rfl ?_
     refine .B ?_
     refine .C (h1 rfl rfl rfl) ?_
     refine .B ?_
     exact⟨_,.o rfl rfl rfl (fun _=> .inl rfl) (by simp) (.v rfl rfl rfl (fun _=>rfl) .nil)⟩
    ·rw[if_neg (by decide)]
     refine .B ?_
     refine T.cf rfl ?_
     refine .B ?_
     refine J.i rfl rfl rfl rfl rfl rfl rfl rfl rfl (r:=cD (domAt d c.b)) hb.1 hrow rfl ?_
     refine .B ?_
     refine .C hh1 ?_
     generalize hasV (domAt d c.b) 1=e1 at*
     cases e1
     ·rw[if_pos rfl]
      refine .B ?_
      refine T.ct rfl ?_
      refine .B ?_
      refine .C hnot ?_
      refine .B ?_
      refine .C (h2 rfl rfl rfl rfl) ?_
      refine .B ?_
      exact⟨_,.o rfl rfl rfl (fun _=> .inl rfl) (by simp) (.v rfl rfl rfl (fun _=>rfl) .nil)⟩
     ·rw[if_neg (by decide)]
      refine .B ?_
      refine T.cf rfl ?_
      refine .B ?_
      refine T.cf rfl ?_
      refine .B ?_
      exact⟨_,.o rfl rfl rfl (fun _=> .inl rfl) (by simp) (.v rfl rfl rfl (fun _=>rfl) .nil)⟩
   ·rw[if_pos rfl]
    refine .B ?_
    refine T.cf rfl ?_
    refine .B ?_
    refine T.ct rfl ?_
    refine .B ?_
    refine J.cmf rfl rfl rfl rfl rfl rfl rfl hk0 rfl rfl rfl ?_
    refine .B ?_
    by_cases hk:domCut (domAt d c.b) 0 0=[]
    ·rw[if_pos hk,decide_eq_true hk]
     refine T.ct rfl ?_
     refine .B ?_
     exact⟨_,.ownN rfl (.v rfl rfl rfl (fun _=>rfl) .nil)⟩
    ·rw[if_neg hk,decide_eq_false hk]
     refine T.cf rfl ?_
     refine .B ?_
     exact⟨_,.o rfl rfl rfl (fun _=> .inl rfl) (by simp) (.v rfl rfl rfl (fun _=>rfl) .nil)⟩
  ·rw[if_pos rfl]
   refine .B ?_
   refine T.ct rfl ?_
   refine .B ?_
   refine J.cmf rfl rfl rfl rfl rfl rfl rfl hk1 rfl rfl rfl ?_
   refine .B ?_
   by_cases hk:domCut (domAt d c.b) 1 1=[]
   ·rw[if_pos hk,decide_eq_true hk]
    refine T.ct rfl ?_
    refine .B ?_
    exact⟨_,.ownN rfl (.v rfl rfl rfl (fun _=>rfl) .nil)⟩
   ·rw[if_neg hk,decide_eq_false hk]
    refine T.cf rfl ?_
    refine .B ?_
    exact⟨_,.o rfl rfl rfl (fun _=> .inl rfl) (by simp) (.v rfl rfl rfl (fun _=>rfl) .nil)⟩
def mi (d:aa):Option aa:=if []∈d then none else some d
def ex (n:Nat)(us t:List Int)(k:Nat):List Int:=((us.zip t).take k).foldl (fun a p=>a.set p.1.toNat p.2) (List.replicate n 0)
def fJ (P:List Int→Bool)(m:Nat)(all:List (List Int)):List (List Int):=(List.range m).map fun k=>(all.filter P).map (·.getD k 0)
def putsW (d:aa)(us:List Int)(ks:List (List Int))(k:Nat):aa:=((us.zip ks).take k).foldl (fun o p=>o.set p.1.toNat (cW (aT p.2))) d
def k7 (d:aa)(us:List Int)(P:List Int→Bool):Option aa:=
 if []∈d then none else mi (putsW d us (fJ P us.length (fM (us.map (domAt d)) us.length)) us.length)
theorem yg (n:Nat)(us t:List Int)(k:Nat):(ex n us t k).length=n:=by
 unfold ex
 generalize (us.zip t).take k=l
 have: ∀(l:List (Int×Int)) (a:List Int),(l.foldl (fun a p=>a.set p.1.toNat p.2) a).length=a.length:=by
  intro l
  induction l with
  |nil=>simp
  |cons p l ih=>intro a;rw[List.foldl_cons,ih];simp
 rw[this];simp
theorem xD (d:aa)(us:List Int)(ks:List (List Int))(k:Nat):(putsW d us ks k).length=d.length:=by
 unfold putsW
 generalize (us.zip ks).take k=l
 have: ∀(l:List (Int×List Int)) (a:aa),(l.foldl (fun o p=>o.set p.1.toNat (cW (aT p.2))) a).length=a.length:=by
  intro l
  induction l with
  |nil=>simp
  |cons p l ih=>intro a;rw[List.foldl_cons,ih];simp
 rw[this]
theorem xB {α:Type}{m k:Nat}(f:Nat→α)(x:α):((List.range m).map f).set k x=(List.range m).map fun j=>if j=k then x else f j:=by
 apply List.ext_getElem?
 intro i
 rw[List.getElem?_set,List.getElem?_map,List.getElem?_map]
 by_cases hi:i<m
 ·have hr:(List.range m)[i]? =some i:=by simp[hi]
  rw[hr]
  by_cases e:k=i
  ·subst e
   rw[if_pos rfl,if_pos (by simpa using hi)]
   simp
  ·rw[if_neg e]
   simp only[Option.map_some]
   rw[if_neg (Ne.symm e)]
 ·have hr:(List.range m)[i]? =none:=by simp;omega
  rw[hr]
  by_cases e:k=i
  ·subst e
   rw[if_pos rfl,if_neg (by simpa using hi)];rfl
  ·rw[if_neg e];rfl
abbrev wu:=List (Value×List (List PV))
theorem ux: ∀(l:List Int) (room:Int),ez room l=false→(∀k∈l,aF k≤4398046511104)∧(0≤room→ai l≤room)
 | [],room,h=>by simp[ai]
 |x::l,room,h=>by
  rw[ez]at h
  split at h
  ·cases h
  ·rename_i h1
   split at h
   ·cases h
   ·rename_i h2
    obtain⟨h3,h4⟩:=ux l _ h
    have e:ai (x::l)=aF x*1048576+ai l:=by simp[ai]
    have e2:max x (-x)=aF x:=rfl
    rw[e2]at h2 h4
    refine⟨fun k hk=> ?_,fun h0=> ?_⟩
    ·rcases List.mem_cons.1 hk with rfl|hk
     ·unfold aF;omega
     ·exact h3 k hk
    ·rw[e]
     have:=h4 (by omega)
     omega
structure SumOk (d:aa)(c:Con):Prop where
 fine:SumFine d c.vars c.coefs
 nod:c.vars.Nodup
 pos:0<c.vars.length
 op:0≤c.op∧c.op≤2
 big:ai c.coefs≤4611686018427388928∧aF c.rhs≤4611686018427388928
theorem oY {c:Con}(h:d9 c.coefs c.rhs=false):(∀k∈c.coefs,aF k≤4398046511104)∧ai c.coefs+aF c.rhs≤4611686018427387904:=by
 unfold d9 at h
 split at h
 ·cases h
 ·rename_i h1
  obtain⟨h2,h3⟩:=ux _ _ h
  have e:max c.rhs (-c.rhs)=aF c.rhs:=rfl
  rw[e]at h3
  refine⟨h2,?_⟩
  have:aF c.rhs≤4611686018427387904:=by unfold aF;omega
  have:=h3 (by omega)
  omega
theorem jt {d:aa}{c:Con}(h:conR d c=0):d9 c.coefs c.rhs=false:=by
 unfold conR at h
 cases hb:d9 c.coefs c.rhs with
 |false=>rfl
 |true=>
  rw[hb]at h
  split at h
  ·cases h
  ·split at h
   ·cases h
   ·split at h<;>cases h
theorem aS: ∀l:List Int,0≤ai l
 | []=>by simp[ai]
 |k::l=>by
  have:=aS l
  have:=bC k
  have e:ai (k::l)=aF k*1048576+ai l:=by simp[ai]
  omega
theorem qX {d:aa}{c:Con}(hc:ConB c)(h:conR d c=0)(hk:c.kind=0)(hf: ∀x∈d,Fine x)(hdl:d.length*24≤140737488355328):SumOk d c:=by
 obtain⟨hv,hr⟩:=rI hc h
 obtain⟨h1,h2⟩:=oY (jt h);have hra:=bC c.rhs;have hwk:=aS c.coefs
 unfold rightR at hr
 rw[if_pos hk]at hr
 simp only[sumR,opR,Bool.and_eq_true,decide_eq_true_eq,Bool.not_eq_true',decide_eq_false_iff_not]at hr
 obtain⟨⟨⟨_,⟨⟨h4,h5⟩,h6⟩,h7⟩,h8⟩,_⟩:=hr
 exact⟨⟨h6,hv.1,hv.2,fun k hk=>⟨fun e=>h7 (e▸hk),h1 k hk⟩,hf,hdl⟩,h4,h5,h8,by omega⟩
theorem de {d:aa}{vars coefs:List Int}(h:SumFine d vars coefs):fZ (ab d vars coefs):=by
 intro t ht
 obtain⟨p,hp,rfl⟩:=List.mem_map.1 ht
 obtain⟨h1,h2⟩:=List.of_mem_zip hp
 exact⟨h.dom _ (af (h.vin _ h1).2),h.ck _ h2⟩
theorem cw {d:aa}{vars coefs:List Int}(h:vars.length=coefs.length):aW (ab d vars coefs)=ai coefs:=by
 unfold aW ab
 rw[List.map_map]
 congr 1
 have:((fun x:List (Int×Int)×Int=>x.2)∘fun p:Int×Int=>(domAt d p.1,p.2))=fun p:Int×Int=>p.2:=rfl
 rw[this,List.map_snd_zip]
 omega
theorem dc: ∀(l:List Int),(∀k∈l,CoefOk k)→ai (ay l)=ai l
 | [],_=>rfl
 |k::l,h=>by
  have e:=(cY (h k (.head _))).1
  have ih:=dc l fun k hk=>h k (.tail _ hk)
  have e1:ai (k::l)=aF k*1048576+ai l:=by simp[ai]
  have e2:ai (ay (k::l))=aF (wr (0-k))*1048576+ai (ay l):=by simp[ai,ay]
  rw[e1,e2,ih,e]
  unfold aF
  omega
theorem qy {a b v:Int}(hb:0<b)(h1: -9223372036854775000≤a)(h2:a≤9223372036854775000):(v≤gj a b↔b*v≤a)∧-9223372036854775002≤gj a b∧gj a b≤9223372036854775002:=by
 have e:=Int.mul_tdiv_add_tmod a b
 have r1:=Int.tmod_lt_of_pos a hb
 have r2:=Int.lt_tmod_of_pos a hb
 have hq: -9223372036854775000≤a.tdiv b∧a.tdiv b≤9223372036854775000:=by
  have:=Int.natAbs_tdiv_le_natAbs a b
  omega
 unfold gj
 generalize a.tdiv b=q at*
 generalize a.tmod b=r at*
 have key: ∀w:Int,v≤w→b*v≤b*w:=fun w h=>Int.mul_le_mul_of_nonneg_left h (by omega)
 have key2: ∀w:Int,w≤v→b*w≤b*v:=fun w h=>Int.mul_le_mul_of_nonneg_left h (by omega)
 by_cases hr:r<0
 ·rw[if_pos hr]
  simp only[wr]
  rw[ac (n:=q) (by omega) (by omega),ac (n:=q-1) (by omega) (by omega)]
  refine⟨⟨fun h=> ?_,fun h=> ?_⟩,by omega,by omega⟩
  ·have:=key _ h
   rw[Int.mul_sub,Int.mul_one]at this
   omega
  ·by_cases hv:v≤q-1
   ·exact hv
   ·have:=key2 q (by omega)
    omega
 ·rw[if_neg hr]
  simp only[wr]
  rw[ac (n:=q) (by omega) (by omega)]
  refine⟨⟨fun h=> ?_,fun h=> ?_⟩,by omega,by omega⟩
  ·have:=key _ h
   omega
  ·by_cases hv:v≤q
   ·exact hv
   ·have:=key2 (q+1) (by omega)
    rw[Int.mul_add,Int.mul_one]at this
    omega
def yq (x:List (Int×Int))(k rest:Int):List (Int×Int):=cW ((vals x).filter fun v=>decide (k*v≤rest))
theorem w7 {x:List (Int×Int)}(h:ax x)(k rest:Int):ax (yq x k rest)∧∀v,v∈vals (yq x k rest)↔v∈vals x∧k*v≤rest:=by
 have hu:=fA (p:=fun v=>decide (k*v≤rest)) (aE h)
 refine⟨fU hu,fun v=> ?_⟩
 unfold yq
 rw[bG hu,List.mem_filter]
 simp
theorem AK {x:List (Int×Int)}{k rest:Int}(h:Fine x)(hk:CoefOk k)(h1: -9223372036854775000≤rest)(h2:rest≤9223372036854775000):cutW x k rest=yq x k rest:=by
 have hc:=eR hk
 obtain⟨p1,p2⟩:=w7 h.ok k rest
 have q1:=(rH h.ok k rest).1
 refine ik q1 p1 (dP (aE q1) (aE p1) fun v=> ?_)
 rw[p2]
 unfold cutW
 by_cases hp:0<k
 ·rw[if_pos hp,(bM h.ok _ _).2,(qy hp h1 h2).1]
  constructor
  ·rintro⟨a,_,b⟩;exact⟨a,b⟩
  ·rintro⟨a,b⟩;exact⟨a,(h.val v a).1,b⟩
 ·rw[if_neg hp]
  have hn:0< -k:=by have:=hk.1;omega
  rw[(cY hk).1,(bM h.ok _ _).2]
  obtain⟨f1,f2,f3⟩:=qy (v:= -v) hn h1 h2
  rw[Int.neg_mul_neg]at f1
  simp only[wr]
  rw[ac (by omega) (by omega),←f1]
  constructor
  ·rintro⟨a,b,_⟩;exact⟨a,by omega⟩
  ·rintro⟨a,b⟩;exact⟨a,by omega,(h.val v a).2⟩
def bQ:List (Int×List (Int×Int))→aa→aa
 | [],d=>d
 |p::ps,d=>bQ ps (d.set p.1.toNat p.2)
theorem jV: ∀(ps:List (Int×List (Int×Int))) (d:aa),(bQ ps d).length=d.length
 | [],d=>rfl
 |p::ps,d=>by rw[bQ,jV ps,List.length_set]
theorem cQ: ∀(ps:List (Int×List (Int×Int))) (d:aa) (i:Nat),(∀p∈ps,p.1.toNat≠i)→(bQ ps d)[i]? =d[i]?
 | [],d,i,_=>rfl
 |p::ps,d,i,h=>by
  rw[bQ,cQ ps _ i fun q hq=>h q (.tail _ hq),List.getElem?_set_ne (h p (.head _))]
def qO (ps:List (Int×List (Int×Int))):Prop:=ps.Pairwise fun p q=>p.1.toNat≠q.1.toNat
theorem dG: ∀{ps:List (Int×List (Int×Int))} {d:aa},qO ps→(∀p∈ps,p.1.toNat<d.length)→∀p∈ps,(bQ ps d)[p.1.toNat]? =some p.2
 |q::ps,d,ha,hl,p,hp=>by
  have h1:=List.pairwise_cons.1 ha
  rw[bQ]
  rcases List.mem_cons.1 hp with rfl|hp
  ·rw[cQ ps _ _ fun r hr=>Ne.symm (h1.1 r hr),List.getElem?_set_self (hl _ (.head _))]
  ·exact dG h1.2 (fun r hr=>by rw[List.length_set];exact hl r (.tail _ hr)) p hp
theorem ms: ∀(ps:List (Int×List (Int×Int))) (p:Int×List (Int×Int)) (d:aa),bQ (ps++[p]) d=(bQ ps d).set p.1.toNat p.2
 | [],p,d=>rfl
 |q::ps,p,d=>by rw[List.cons_append,bQ,bQ,ms ps]
theorem setAll_mem {ps:List (Int×List (Int×Int))}{d:aa}(ha:qO ps)(hl: ∀p∈ps,p.1.toNat<d.length){x:List (Int×Int)}:x∈bQ ps d→x∈d∨∃p∈ps,p.2=x:=by
 intro h
 obtain⟨i,hi⟩:=List.mem_iff_getElem?.1 h
 by_cases he: ∃p∈ps,p.1.toNat=i
 ·obtain⟨p,hp,rfl⟩:=he
  rw[dG ha hl p hp]at hi
  exact .inr ⟨p,hp,Option.some.inj hi⟩
 ·rw[cQ ps d i fun p hp e=>he ⟨p,hp,e⟩]at hi
  exact .inl (List.mem_of_getElem? hi)
theorem uU {ps:List (Int×List (Int×Int))}{d:aa}(ha:qO ps)(hl: ∀p∈ps,p.1.toNat<d.length){p}(hp:p∈ps):p.2∈bQ ps d:=List.mem_of_getElem? (dG ha hl p hp)
theorem sD {ps:List (Int×List (Int×Int))}{d:aa}(ha:qO ps)(hl: ∀p∈ps,p.1.toNat<d.length):bQ ps d=d↔∀p∈ps,p.2=domAt d p.1:=by
 constructor
 ·intro h p hp
  have:=dG ha hl p hp
  rw[h,ak (hl p hp)]at this
  exact(Option.some.inj this).symm
 ·intro h
  refine List.ext_getElem? fun i=> ?_
  by_cases he: ∃p∈ps,p.1.toNat=i
  ·obtain⟨p,hp,rfl⟩:=he
   rw[dG ha hl p hp,ak (hl p hp),h p hp]
  ·exact cQ ps d i fun p hp e=>he ⟨p,hp,e⟩
def dN (d:aa)(low rhs:Int)(p:Int×Int):List (Int×Int):=yq (domAt d p.1) p.2 (rhs-(low-ce (domAt d p.1) p.2))
def im (d:aa)(vars coefs:List Int)(rhs:Int):List (Int×List (Int×Int)):=(vars.zip coefs).map fun p=>(p.1,dN d (bf (ab d vars coefs)) rhs p)
def MO (d:aa)(vars coefs:List Int)(rhs:Int):aa:=bQ (im d vars coefs rhs) d
structure Whole (d:aa)(vars coefs:List Int)(rhs:Int):Prop where
 fine:SumFine d vars coefs
 nod:vars.Nodup
 ne: []∉d
 big:ai coefs≤4611686018427388928∧aF rhs≤4611686018427388928
theorem ly: ∀{vars coefs:List Int},vars.Nodup→(∀v∈vars,0≤v)→(vars.zip coefs).Pairwise fun p q=>p.1.toNat≠q.1.toNat
 | [],_,_,_=>by simp
 |_::_,[],_,_=>by simp
 |v::vars,k::coefs,hn,h0=>by
  have h1:=List.nodup_cons.1 hn
  rw[List.zip_cons_cons]
  refine List.pairwise_cons.2 ⟨fun p hp=> ?_,ly h1.2 fun v hv=>h0 v (.tail _ hv)⟩
  have hm:=(List.of_mem_zip hp).1
  have h2:=h0 _ (.head _)
  have h3:=h0 _ (.tail _ hm)
  intro e
  have:v=p.1:=by simp only at e;omega
  exact h1.1 (this▸hm)
theorem il {d:aa}{vars coefs:List Int}{rhs:Int}(h:Whole d vars coefs rhs):qO (im d vars coefs rhs)∧∀p∈im d vars coefs rhs,p.1.toNat<d.length:=by
 constructor
 ·unfold qO im
  rw[List.pairwise_map]
  exact ly h.nod fun v hv=>(h.fine.vin v hv).1
 ·intro p hp
  obtain⟨q,hq,rfl⟩:=List.mem_map.1 hp
  exact(h.fine.vin _ (List.of_mem_zip hq).1).2
theorem eN {d:aa}{vars coefs:List Int}{rhs:Int}(h:Whole d vars coefs rhs): ∀t∈ab d vars coefs,t.1≠[]:=by
 intro t ht e
 obtain⟨p,hp,rfl⟩:=List.mem_map.1 ht
 have:=af (h.fine.vin _ (List.of_mem_zip hp).1).2
 simp only at e
 rw[e]at this
 exact h.ne this
theorem to: ∀{ts:List (List (Int×Int)×Int)},fZ ts→(∀t∈ts,t.1≠[])→∀t∈ts,aF t.2*1048576-aW ts≤bf ts-ce t.1 t.2∧bf ts-ce t.1 t.2≤aW ts-aF t.2*1048576
 |t0::ts,h,hne,t,ht=>by
  have hs:=kr (ts:=ts) (fun t ht=>h t (.tail _ ht)) (fun t ht=>hne t (.tail _ ht))
  have e:bf (t0::ts)=ce t0.1 t0.2+bf ts:=by simp[bf]
  have hb:=kU (h t0 (.head _)).1 (hne t0 (.head _)) t0.2
  have hp:=c9 ts
  have ha:=bC t0.2
  rw[cq,e]
  rcases List.mem_cons.1 ht with rfl|ht
  ·omega
  ·have:=to (fun t ht=>h t (.tail _ ht)) (fun t ht=>hne t (.tail _ ht)) t ht
   omega
theorem wD {d:aa}{vars coefs:List Int}{rhs:Int}(h:Whole d vars coefs rhs){p:Int×Int}(hp:p∈vars.zip coefs):
  -4611686018427388928≤bf (ab d vars coefs)∧bf (ab d vars coefs)≤4611686018427388928∧-4611686018427388928≤bf (ab d vars coefs)-ce (domAt d p.1) p.2∧bf (ab d vars coefs)-ce (domAt d p.1) p.2≤4611686018427388928∧
   -9223372036853729280≤rhs-(bf (ab d vars coefs)-ce (domAt d p.1) p.2)∧rhs-(bf (ab d vars coefs)-ce (domAt d p.1) p.2)≤9223372036853729280:=by
 have hs:=kr (de h.fine) (eN h)
 have hm:=to (de h.fine) (eN h) (domAt d p.1,p.2) (List.mem_map.2 ⟨p,hp,rfl⟩)
 rw[cw h.fine.len]at hs hm
 have hb:=h.big
 have ha:aF rhs=max rhs (-rhs):=rfl
 have hk1:1≤aF p.2:=by have:=(h.fine.ck _ (List.of_mem_zip hp).2).1;unfold aF;omega
 simp only at hm
 omega
theorem p7 {d:aa}{vars coefs:List Int}{rhs:Int}(h:Whole d vars coefs rhs): ∀(l:List (Int×Int)) (d1:aa) (ch:Bool),(∀p∈l,p∈vars.zip coefs)→l.Pairwise (fun p q=>p.1.toNat≠q.1.toNat)→(∀p∈l,domAt d1 p.1=domAt d p.1)→
  ((∃p∈l,dN d (bf (ab d vars coefs)) rhs p=[])→(eG (bf (ab d vars coefs)) rhs l d1 ch).2.2=false)∧
  ((∀p∈l,dN d (bf (ab d vars coefs)) rhs p≠[])→eG (bf (ab d vars coefs)) rhs l d1 ch=(bQ (l.map fun p=>(p.1,dN d (bf (ab d vars coefs)) rhs p)) d1,ch||l.any (fun p=> !decide (dN d (bf (ab d vars coefs)) rhs p=domAt d p.1)),true))
 | [],d1,ch,_,_,_=>by simp[eG,bQ]
 |(v,k)::l,d1,ch,hm,ha,hd=>by
  have hz:=hm _ (.head _)
  obtain⟨hv,hk⟩:=List.of_mem_zip hz
  have hx:=h.fine.dom _ (af (h.fine.vin _ hv).2)
  have hne:domAt d v≠[]:=fun e=>h.ne (e▸af (h.fine.vin _ hv).2)
  have hck:=h.fine.ck _ hk
  have hr:=wD h hz
  have ha1:=List.pairwise_cons.1 ha
  have e1:domAt d1 v=domAt d v:=hd _ (.head _)
  have e2:cutW (domAt d1 v) k (gv (bf (ab d vars coefs)) rhs (domAt d1 v) k)=dN d (bf (ab d vars coefs)) rhs (v,k):=by
   rw[e1]
   unfold gv dN
   rw[(rC hx hne hck).1]
   simp only[wr]at hr⊢
   rw[ac (n:=bf (ab d vars coefs)-ce (domAt d v) k) (by omega) (by omega),ac (by omega) (by omega)]
   exact AK hx hck (by omega) (by omega)
  have hd2: ∀p∈l,domAt (d1.set v.toNat (dN d (bf (ab d vars coefs)) rhs (v,k))) p.1=domAt d p.1:=by
   intro p hp
   rw[←hd p (.tail _ hp)]
   unfold domAt
   rw[List.getD_eq_getElem?_getD,List.getD_eq_getElem?_getD,List.getElem?_set_ne (ha1.1 p hp)]
  obtain⟨i1,i2⟩:=p7 h l (d1.set v.toNat (dN d (bf (ab d vars coefs)) rhs (v,k))) (ch|| !decide (dN d (bf (ab d vars coefs)) rhs (v,k)=domAt d v)) (fun p hp=>hm p (.tail _ hp)) ha1.2 hd2
  rw[eG,e2,e1]
  constructor
  ·rintro⟨p,hp,he⟩
   by_cases h0:dN d (bf (ab d vars coefs)) rhs (v,k)=[]
   ·rw[if_pos h0]
   ·rw[if_neg h0]
    rcases List.mem_cons.1 hp with rfl|hp
    ·exact absurd he h0
    ·exact i1 ⟨p,hp,he⟩
  ·intro hall
   rw[if_neg (hall _ (.head _)),i2 fun p hp=>hall p (.tail _ hp)]
   simp only[List.map_cons,bQ,List.any_cons,Bool.or_assoc]
theorem tb {d:aa}{vars coefs:List Int}{rhs:Int}(h:Whole d vars coefs rhs):
  ([]∈MO d vars coefs rhs→(mostW d vars coefs rhs).2.2=false)∧([]∉MO d vars coefs rhs→mostW d vars coefs rhs=(MO d vars coefs rhs,!decide (MO d vars coefs rhs=d),true)):=by
 obtain⟨ha,hl⟩:=il h
 have hends:(endsW d vars coefs).1=bf (ab d vars coefs):=by
  unfold endsW
  have hb:=h.big
  have hr:=bC rhs
  have hw:=cw (d:=d) h.fine.len
  rw[jp 0 0 (de h.fine) (eN h) (by omega) (by omega) (by omega) (by omega)]
  simp
 obtain⟨i1,i2⟩:=p7 h (vars.zip coefs) d false (fun p hp=>hp) (ly h.nod fun v hv=>(h.fine.vin v hv).1) (fun p hp=>rfl)
 unfold mostW
 rw[hends]
 constructor
 ·intro hm
  rcases setAll_mem ha hl hm with hm|⟨p,hp,he⟩
  ·exact absurd hm h.ne
  ·obtain⟨q,hq,rfl⟩:=List.mem_map.1 hp
   exact i1 ⟨q,hq,he⟩
 ·intro hm
  have hall: ∀p∈vars.zip coefs,dN d (bf (ab d vars coefs)) rhs p≠[]:=fun p hp e=>hm (by
   have:=uU ha hl (List.mem_map.2 ⟨p,hp,rfl⟩:_∈im d vars coefs rhs)
   rw[show(p.1,dN d (bf (ab d vars coefs)) rhs p).2=[]from e]at this
   exact this)
  rw[i2 hall]
  refine Prod.ext rfl (Prod.ext ?_ rfl)
  simp only[Bool.false_or]
  rw[Bool.eq_iff_iff,List.any_eq_true]
  simp only[Bool.not_eq_true',decide_eq_false_iff_not]
  have hss:=sD ha hl
  constructor
  ·rintro⟨p,hp,hne⟩ e
   exact hne ((hss.1 e) _ (List.mem_map.2 ⟨p,hp,rfl⟩))
  ·intro hne
   refine Classical.byContradiction fun hno=>hne (hss.2 fun q hq=> ?_)
   obtain⟨p,hp,rfl⟩:=List.mem_map.1 hq
   exact Classical.byContradiction fun hn=>hno ⟨p,hp,hn⟩
theorem nP {i:Nat}: ∀{ts:List (List (Int×Int)×Int)} (k:Nat) (n:Int),fZ ts→(∀t∈ts,t.1≠[])→-4611686018427388928≤n-aW ts→n+aW ts≤4611686018427388928→∀(hi:k≤i) (t:List (Int×Int)×Int),ts[i-k]? =some t→fT i k ts n=n+(bf ts-ce t.1 t.2)
 | [],k,n,_,_,_,_,_,t,ht=>by simp at ht
 |t0::ts,k,n,h,hne,h1,h2,hi,t,ht=>by
  have hf:=h t0 (.head _)
  have hx:=hne t0 (.head _)
  have e1:=w4 hf.1 hx hf.2
  have b:=kU hf.1 hx t0.2
  have hp:=c9 ts
  have ha:=bC t0.2
  have hs:=kr (ts:=ts) (fun t ht=>h t (.tail _ ht)) (fun t ht=>hne t (.tail _ ht))
  rw[cq]at h1 h2
  have el:bf (t0::ts)=ce t0.1 t0.2+bf ts:=by simp[bf]
  rw[fT,el]
  by_cases hk:k=i
  ·subst hk
   rw[if_pos rfl]
   simp at ht
   subst ht
   have hrest: ∀(ts:List (List (Int×Int)×Int)) (j:Nat) (n:Int),k<j→fZ ts→(∀t∈ts,t.1≠[])→-4611686018427388928≤n-aW ts→n+aW ts≤4611686018427388928→fT k j ts n=n+bf ts:=by
    intro ts
    induction ts with
    |nil=>intro j n _ _ _ _ _;simp[fT,bf]
    |cons t1 ts ih=>
     intro j n hj h hne h1 h2
     have hf:=h t1 (.head _)
     have hx:=hne t1 (.head _)
     have e1:=w4 hf.1 hx hf.2
     have b:=kU hf.1 hx t1.2
     have hp:=c9 ts
     rw[cq]at h1 h2
     have el:bf (t1::ts)=ce t1.1 t1.2+bf ts:=by simp[bf]
     rw[fT,if_neg (by omega),e1]
     simp only[wr]
     rw[ac (by omega) (by omega),ih (j+1) _ (by omega) (fun t ht=>h t (.tail _ ht)) (fun t ht=>hne t (.tail _ ht)) (by omega) (by omega),el]
     omega
   rw[hrest ts (k+1) n (by omega) (fun t ht=>h t (.tail _ ht)) (fun t ht=>hne t (.tail _ ht)) (by omega) (by omega)]
   omega
  ·rw[if_neg hk,e1]
   simp only[wr]
   rw[ac (by omega) (by omega),nP (k+1) _ (fun t ht=>h t (.tail _ ht)) (fun t ht=>hne t (.tail _ ht)) (by omega) (by omega) (by omega) t (by
    rw[show i-k=(i-(k+1))+1 by omega]at ht
    simpa using ht)]
   omega
theorem p4 {d:aa}{vars coefs:List Int}{rhs:Int}(h:Whole d vars coefs rhs): ∀n,n≤vars.length→j0 d vars coefs rhs n=bQ ((im d vars coefs rhs).take n) d
 |0,_=>by simp[j0,bQ]
 |n+1,hn=>by
  have h1:n<vars.length:=by omega
  have h2:n<coefs.length:=by have:=h.fine.len;omega
  have hz:n<(vars.zip coefs).length:=by simp;omega
  have hp:(vars.zip coefs)[n]∈vars.zip coefs:=List.getElem_mem hz
  have hcl:n<(im d vars coefs rhs).length:=by simp[im];omega
  have ec:(im d vars coefs rhs)[n]=(vars[n],dN d (bf (ab d vars coefs)) rhs (vars[n],coefs[n])):=by simp[im]
  have hv:=h.fine.vin _ (List.getElem_mem h1)
  have hx:=h.fine.dom _ (af hv.2)
  have hne:domAt d vars[n]≠[]:=fun e=>h.ne (e▸af hv.2)
  have hck:=h.fine.ck _ (List.getElem_mem h2)
  have hzz:(vars[n],coefs[n])∈vars.zip coefs:=by
   have:=hp
   simpa using this
  have hr:=wD h hzz
  simp only at hr
  have hw:=cw (d:=d) h.fine.len
  have hb:=h.big
  have har:=bC rhs
  have hrest:fT n 0 (ab d vars coefs) 0=bf (ab d vars coefs)-ce (domAt d vars[n]) coefs[n]:=by
   have:=nP (i:=n) 0 0 (de h.fine) (eN h) (by omega) (by omega) (by omega) (domAt d vars[n],coefs[n]) (by
    rw[Nat.sub_zero]
    simp[ab,List.getElem?_eq_getElem hz])
   simp only at this
   omega
  have hat:rj d vars coefs rhs n=dN d (bf (ab d vars coefs)) rhs (vars[n],coefs[n]):=by
   unfold rj dN yq A1
   rw[aM h1,aM h2,hrest]
   congr 1
   refine List.filter_congr fun v hv=> ?_
   have hvb:=hx.val v hv
   have hm:=dW coefs[n] v hvb.1 hvb.2
   have hc2:=hck.2
   have e1:wr (coefs[n]*v)=coefs[n]*v:=ac (by omega) (by omega)
   have e2:wr (rhs-(bf (ab d vars coefs)-ce (domAt d vars[n]) coefs[n]))=rhs-(bf (ab d vars coefs)-ce (domAt d vars[n]) coefs[n]):=ac (by omega) (by omega)
   exact decide_eq_decide.2 (by rw[e1,e2])
  rw[j0,p4 h n (by omega),aM h1,hat,List.take_succ_eq_append_getElem hcl,ec,ms]
theorem od {d:aa}{vars coefs:List Int}{rhs:Int}(h:Whole d vars coefs rhs):j0 d vars coefs rhs vars.length=MO d vars coefs rhs:=by
 rw[p4 h _ (Nat.le_refl _),List.take_of_length_le (by simp[im];omega)]
 rfl
def Sub (a b:aa):Prop:=a.length=b.length∧∀(i:Nat) x y,a[i]? =some x→b[i]? =some y→∀v∈vals x,v∈vals y
theorem Sub.refl (a:aa):Sub a a:=⟨rfl,fun i x y h1 h2 v hv=>by rw[h1]at h2;exact Option.some.inj h2▸hv⟩
theorem Sub.trans {a b c:aa}(h:Sub a b)(k:Sub b c):Sub a c:=by
 refine⟨h.1.trans k.1,fun i x z hx hz v hv=> ?_⟩
 have hi:i<a.length:=(List.getElem?_eq_some_iff.1 hx).1
 have hi2:i<b.length:=by have:=h.1;omega
 have hy:b[i]? =some b[i]:=List.getElem?_eq_getElem hi2
 exact k.2 i _ z hy hz v (h.2 i x _ hx hy v hv)
theorem Sub.antisymm {a b:aa}(h:Sub a b)(k:Sub b a)(ha: ∀x∈a,Fine x)(hb: ∀x∈b,Fine x):a=b:=by
 refine List.ext_getElem? fun i=> ?_
 by_cases hi:i<a.length
 ·have hi2:i<b.length:=by have:=h.1;omega
  have hx:a[i]? =some a[i]:=List.getElem?_eq_getElem hi
  have hy:b[i]? =some b[i]:=List.getElem?_eq_getElem hi2
  have fx:=(ha _ (List.getElem_mem hi)).ok
  have fy:=(hb _ (List.getElem_mem hi2)).ok
  rw[hx,hy]
  congr 1
  exact ik fx fy (dP (aE fx) (aE fy) fun v=>⟨h.2 i _ _ hx hy v,k.2 i _ _ hy hx v⟩)
 ·rw[List.getElem?_eq_none (by omega),List.getElem?_eq_none (by have:=h.1;omega)]
theorem i9: ∀{a b:aa},Sub a b→(∀x∈a,Fine x)→(∀x∈b,Fine x)→weight a≤weight b∧(a≠b→weight a<weight b)
 | [],[],_,_,_=>⟨Nat.le_refl _,fun h=>absurd rfl h⟩
 | [],_::_,h,_,_=>by have:=h.1;simp at this
 |_::_,[],h,_,_=>by have:=h.1;simp at this
 |x::a,y::b,h,ha,hb=>by
  have h1:=uQ (hb y (.head _)).ok (ha x (.head _)).ok (h.2 0 x y rfl rfl)
  have h2:=i9 (a:=a) (b:=b) ⟨by have:=h.1;simpa using this,fun i z w hz hw=>h.2 (i+1) z w (by simpa using hz) (by simpa using hw)⟩ (fun z hz=>ha z (.tail _ hz)) (fun z hz=>hb z (.tail _ hz))
  simp only[weight,List.map_cons,List.sum_cons]at h2⊢
  refine⟨by omega,fun hne=> ?_⟩
  by_cases e:x=y
  ·have:a≠b:=fun e2=>hne (by rw[e,e2])
   have:=h2.2 this
   omega
  ·have:=h1.2 e
   omega
theorem fO {d:aa}{vars coefs:List Int}{rhs:Int}(h:Whole d vars coefs rhs){p:Int×Int}(hp:p∈vars.zip coefs)(low:Int):
  ax (dN d low rhs p)∧∀v,v∈vals (dN d low rhs p)↔v∈vals (domAt d p.1)∧p.2*v≤rhs-(low-ce (domAt d p.1) p.2):=
 w7 (h.fine.dom _ (af (h.fine.vin _ (List.of_mem_zip hp).1).2)).ok _ _
theorem ee {d:aa}{vars coefs:List Int}{rhs:Int}(h:Whole d vars coefs rhs):(∀x∈MO d vars coefs rhs,Fine x)∧Sub (MO d vars coefs rhs) d:=by
 obtain⟨ha,hl⟩:=il h
 refine⟨fun x hx=> ?_,jV _ _,fun i x y hx hy v hv=> ?_⟩
 ·rcases setAll_mem ha hl hx with hm|⟨p,hp,rfl⟩
  ·exact h.fine.dom x hm
  ·obtain⟨q,hq,rfl⟩:=List.mem_map.1 hp
   obtain⟨c1,c2⟩:=fO h hq (bf (ab d vars coefs))
   exact(h.fine.dom _ (af (h.fine.vin _ (List.of_mem_zip hq).1).2)).cut c1 fun v hv=>((c2 v).1 hv).1
 ·by_cases he: ∃p∈im d vars coefs rhs,p.1.toNat=i
  ·obtain⟨p,hp,rfl⟩:=he
   have e:=dG ha hl p hp
   rw[show MO d vars coefs rhs=bQ (im d vars coefs rhs) d from rfl,e]at hx
   obtain rfl:=Option.some.inj hx
   rw[ak (hl p hp)]at hy
   obtain rfl:=Option.some.inj hy
   obtain⟨q,hq,rfl⟩:=List.mem_map.1 hp
   exact(((fO h hq (bf (ab d vars coefs))).2 v).1 hv).1
  ·rw[show MO d vars coefs rhs=bQ (im d vars coefs rhs) d from rfl,cQ _ _ _ fun p hp e=>he ⟨p,hp,e⟩,hy]at hx
   exact Option.some.inj hx▸hv
theorem Whole.most {d:aa}{vars coefs:List Int}{rhs:Int}(h:Whole d vars coefs rhs)(hne: []∉MO d vars coefs rhs):Whole (MO d vars coefs rhs) vars coefs rhs:=by
 obtain⟨h1,h2⟩:=ee h
 exact⟨⟨h.fine.len,h.fine.vl,fun v hv=>by rw[h2.1];exact h.fine.vin v hv,h.fine.ck,h1,by rw[h2.1];exact h.fine.dl⟩,h.nod,hne,h.big⟩
theorem nh {rhs:Int}(h:aF rhs≤4611686018427388928):wr (0-rhs)= -rhs∧aF (wr (0-rhs))=aF rhs:=by
 have e:wr (0-rhs)= -rhs:=by
  unfold aF at h
  rw[wr,ac (by omega) (by omega)];omega
 refine⟨e,?_⟩
 rw[e]
 unfold aF
 omega
theorem Whole.back {d:aa}{vars coefs:List Int}{rhs:Int}(h:Whole d vars coefs rhs):Whole d vars (ay coefs) (wr (0-rhs)):=by
 have hb:=h.big
 have hp:=aS coefs
 refine⟨h.fine.back,h.nod,h.ne,?_⟩
 rw[dc _ h.fine.ck,(nh (by omega)).2]
 exact hb
theorem Whole.unback {d d2:aa}{vars coefs:List Int}{rhs:Int}(h:Whole d vars coefs rhs)(h2:Whole d2 vars (ay coefs) (wr (0-rhs))):Whole d2 vars coefs rhs:=
 ⟨⟨h.fine.len,h.fine.vl,h2.fine.vin,h.fine.ck,h2.fine.dom,h2.fine.dl⟩,h.nod,h2.ne,h.big⟩
def M1 (c:Con)(d:aa):aa:=MO d c.vars c.coefs c.rhs
def M2 (c:Con)(d:aa):aa:=MO d c.vars (ay c.coefs) (wr (0-c.rhs))
def bD (c:Con)(d:aa):Prop:=Whole d c.vars c.coefs c.rhs
theorem dh {c:Con}{d:aa}(h:bD c d):eX c d=
  if []∈M1 c d then .inl none else if c.op=0 then .inl (some (M1 c d))else if []∈M2 c (M1 c d)then .inl none else
  if M1 c d=d∧M2 c (M1 c d)=M1 c d then .inl (some (M2 c (M1 c d)))else .inr (M2 c (M1 c d)):=by
 obtain⟨a1,a2⟩:=tb h
 unfold eX
 by_cases h1: []∈M1 c d
 ·rw[if_pos h1,if_pos (a1 h1)]
 ·have hw:bD c (M1 c d):=Whole.most h h1
  obtain⟨b1,b2⟩:=tb hw.back
  rw[if_neg h1,a2 h1]
  simp only[Bool.true_eq_false,if_false]
  by_cases h2:c.op=0
  ·rw[if_pos h2,if_pos h2]
   rfl
  ·rw[if_neg h2,if_neg h2]
   by_cases h3: []∈M2 c (M1 c d)
   ·have b1':(mostW (MO d c.vars c.coefs c.rhs) c.vars (ay c.coefs) (wr (0-c.rhs))).2.2=false:=b1 h3
    rw[if_pos h3,if_pos b1']
   ·have e:mostW (MO d c.vars c.coefs c.rhs) c.vars (ay c.coefs) (wr (0-c.rhs))=(M2 c (M1 c d),!decide (M2 c (M1 c d)=M1 c d),true):=b2 h3
    rw[if_neg h3,e]
    simp only[Bool.true_eq_false,if_false,Bool.not_eq_false',decide_eq_true_eq]
    rfl
theorem nz {c:Con}{d:aa}(h: []∉d→bD c d):wB c d=
  if c.op=1∧[]∉d then(if []∈M2 c d then .inl none else if M1 c (M2 c d)=d then .inl (some d)else .inr (M1 c (M2 c d)))else .inl (if []∈d then none else some d):=by
 unfold wB
 by_cases h1:c.op=1∧[]∉d
 ·have hw:=h h1.2
  have e:wL d c=M2 c d:=od hw.back
  rw[if_pos h1,if_pos h1,e]
  by_cases h2: []∈M2 c d
  ·rw[if_pos h2,if_pos h2]
  ·have hw2:bD c (M2 c d):=hw.unback (Whole.most hw.back h2)
   have e2:tc (M2 c d) c=M1 c (M2 c d):=od hw2
   rw[if_neg h2,if_neg h2,e2]
 ·rw[if_neg h1,if_neg h1]
theorem tD {c:Con}(hop:c.op=1): ∀(N:Nat) (p:aa) (R:Option aa),bD c p→cB (eX c) N p=some R→∃N',cB (wB c) N' (M1 c p)=some R
 |0,p,R,_,h=>by cases h
 |n+1,p,R,hw,h=>by
  have hs:=dh hw
  obtain⟨f1,s1⟩:=ee hw
  by_cases h1: []∈M1 c p
  ·rw[if_pos h1]at hs
   obtain rfl:=aX h hs
   refine⟨1,?_⟩
   have e:=nz (c:=c) (d:=M1 c p) (fun hn=>absurd h1 hn)
   rw[if_neg (fun hh=>hh.2 h1),if_pos h1]at e
   simp only[cB,e]
  ·rw[if_neg h1,if_neg (by omega)]at hs
   have hw1:bD c (M1 c p):=Whole.most hw h1
   have hd:=nz (c:=c) (d:=M1 c p) (fun _=>hw1)
   rw[if_pos ⟨hop,h1⟩]at hd
   obtain⟨f2,s2⟩:=ee hw1.back
   by_cases h2: []∈M2 c (M1 c p)
   ·rw[if_pos h2]at hs hd
    obtain rfl:=aX h hs
    exact⟨1,by simp only[cB,hd]⟩
   ·rw[if_neg h2]at hs hd
    have hw2:bD c (M2 c (M1 c p)):=hw1.unback (Whole.most hw1.back h2)
    obtain⟨f3,s3⟩:=ee hw2
    by_cases h3:M1 c p=p∧M2 c (M1 c p)=M1 c p
    ·rw[if_pos h3]at hs
     obtain rfl:=aX h hs
     have e:M1 c (M2 c (M1 c p))=M1 c p:=by rw[h3.2,h3.1,h3.1]
     rw[if_pos e]at hd
     exact⟨1,by simp only[cB,hd,h3.2]⟩
    ·rw[if_neg h3]at hs
     simp only[cB,hs]at h
     by_cases h4:M1 c (M2 c (M1 c p))=M1 c p
     ·rw[if_pos h4]at hd
      have e1:M2 c (M1 c p)=M1 c p:=s2.antisymm (by have s3':=s3;rw[show MO (M2 c (M1 c p)) c.vars c.coefs c.rhs=M1 c p from h4]at s3';exact s3') f2 f1
      have e2:M1 c (M1 c p)=M1 c p:=by rw[e1]at h4;exact h4
      rw[e1]at h
      cases n with
      |zero=>cases h
      |succ n=>
       have hs2:=dh hw1
       rw[e2,if_neg h1,if_neg (by omega),e1,if_neg h1,if_pos ⟨rfl,rfl⟩]at hs2
       obtain rfl:=aX h hs2
       exact⟨1,by simp only[cB,hd]⟩
     ·rw[if_neg h4]at hd
      obtain⟨N',hN⟩:=tD hop n _ R hw2 h
      exact⟨N'+1,by simp only[cB,hd];exact hN⟩
theorem Bh {c:Con}{p:aa}(hw:bD c p): ∃N R,cB (eX c) N p=some R:=by
 refine wU (step:=eX c) (fun x=>bD c x) weight (fun x y hx hy=> ?_) p hw
 rw[dh hx]at hy
 obtain⟨f1,s1⟩:=ee hx
 by_cases h1: []∈M1 c x
 ·rw[if_pos h1]at hy;cases hy
 ·have hw1:bD c (M1 c x):=Whole.most hx h1
  obtain⟨f2,s2⟩:=ee hw1.back
  rw[if_neg h1]at hy
  by_cases h2:c.op=0
  ·rw[if_pos h2]at hy;cases hy
  ·rw[if_neg h2]at hy
   by_cases h3: []∈M2 c (M1 c x)
   ·rw[if_pos h3]at hy;cases hy
   ·rw[if_neg h3]at hy
    by_cases h4:M1 c x=x∧M2 c (M1 c x)=M1 c x
    ·rw[if_pos h4]at hy;cases hy
    ·rw[if_neg h4]at hy
     obtain rfl:=Sum.inr.inj hy
     refine⟨hw1.unback (Whole.most hw1.back h3),?_⟩
     have w1:=i9 s1 f1 hx.fine.dom
     have w2:=i9 s2 f2 f1
     by_cases e1:M1 c x=x
     ·have e2:M2 c (M1 c x)≠M1 c x:=fun e2=>h4 ⟨e1,e2⟩
      have:=w2.2 e2
      have:=w1.1
      exact Nat.lt_of_lt_of_le (w2.2 e2) w1.1
     ·exact Nat.lt_of_le_of_lt w2.1 (w1.2 e1)
end Go.Proofs.YtopcjbahjjhdmaaGreat
