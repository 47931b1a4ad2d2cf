/- The texts FnU, FnV, FnW, FnX, FnY, FnZ, FgA, FgB, FgL, LiB, LiC, LiD, LiE, LiF, PuG, FgC, FgD, PuF, FgE, LiG, PuH, PuK of the workplace, joined. -/
import Derived.Test.YtlcobmehnaeebaaGreatB6
namespace Go.Proofs.YtlcobmehnaeebaaGreat
open Go Go.RowKit
set_option linter.unusedVariables false
set_option linter.unusedSimpArgs false
set_option maxRecDepth 8000
def minusIn:List (Int×Int)→Int→Int→List (Int×Int)→Int×List (Int×Int)
 | [],lo,hi,out=>(lo,out)
 |y::b,lo,hi,out=>if y.2<lo∨hi<y.1 then minusIn b lo hi out else minusIn b (wr (y.2+1)) hi (if lo<y.1 then out++[(lo,wr (y.1-1))]else out)
def minusOne (b:List (Int×Int))(out:List (Int×Int))(x:Int×Int):List (Int×Int):=if(minusIn b x.1 x.2 out).1≤x.2 then(minusIn b x.1 x.2 out).2++[((minusIn b x.1 x.2 out).1,x.2)]else(minusIn b x.1 x.2 out).2
def minusW (a b:List (Int×Int)):List (Int×Int):=a.foldl (minusOne b) []
theorem minus_spec (a b:List (Int×Int))(hb:b.length*8≤140737488355328)(hl:(a.length+1)*(b.length+1)*16≤140737488355328):Spec Tryz.prog 130 false [dm a,dm b] [.own 47 2 ((minusW a b).map cR)]:=by
 refine Spec.body Tryz.func130 rfl rfl rfl fun w0 Z0=> ?_
 have hal:a.length*8≤140737488355328:=by
  have:a.length+1≤(a.length+1)*(b.length+1):=Nat.le_mul_of_pos_right _ (by omega)
  omega
 repeat(refine .A ?_;conv=>whnf)
 refine T.sub (Rel.own0 (s:=5) 47 2 rfl) ?_
 refine T.K (T.ind (fun s:Nat×List (Int×Int)=>⟨[(1,.val false (dm b)),(5,.ref 0),(10,.val false (dm a)),(11,.val true (.int .i64 (a.map cR).length)),(12,.val true (.int .i64 s.1))],[(0,some (.sl 47 2 true (s.2.map cR)))],1⟩)
  (fun s=>s.1≤a.length∧(a.drop s.1).foldl (minusOne b) s.2=minusW a b∧s.2.length≤s.1*(b.length+1)) (fun s=>a.length-s.1) (0,[]) ⟨by simp,rfl,by simp⟩ (fun _ _ h=>h) ?_)
 rintro⟨n,out⟩ ⟨hn,he,hlo⟩ ih
 simp only at hn he hlo
 dsimp only
 repeat(refine .A ?_;conv=>whnf)
 refine T.cd rfl (fun h1=> ?_) (fun h1=> ?_)
 ·have h1:n<a.length:=by simpa using h1
  rw[List.drop_eq_getElem_cons h1,List.foldl_cons]at he
  have hmul:(n+1)*(b.length+1)≤(a.length+1)*(b.length+1):=Nat.mul_le_mul_right _ (by omega)
  have hmul2:(n+1)*(b.length+1)=n*(b.length+1)+(b.length+1):=by rw[Nat.add_mul,Nat.one_mul]
  have hr:(a.map cR)[((n:Nat):Int).toNat]? =some (cR a[n]):=row_i h1
  generalize a[n]=x at*
  obtain⟨lo0,hi⟩:=x
  repeat(refine .A ?_;conv=>whnf)
  refine .I (r:=cR (lo0,hi)) hr ?_
  repeat(refine .A ?_;conv=>whnf)
  refine J.al rfl rfl rfl rfl rfl rfl rfl ?_
  repeat(refine .A ?_;conv=>whnf)
  refine J.w rfl rfl rfl rfl rfl rfl rfl rfl rfl rfl ?_
  repeat(refine .A ?_;conv=>whnf)
  refine T.K (T.ind (fun s:Nat×Int×List (Int×Int)=>⟨[(1,.val false (dm b)),(5,.ref 0),(7,.optr 1 0 0 0),(10,.val false (dm a)),(11,.val true (.int .i64 (a.map cR).length)),(12,.val true (.int .i64 n)),(16,.val false (dm b)),(17,.val true (.int .i64 (b.map cR).length)),(18,.val true (.int .i64 s.1))],[(0,some (.sl 47 2 true (s.2.2.map cR))),(1,some (.box false (cR (s.2.1,hi))))],2⟩)
   (fun s=>s.1≤b.length∧minusIn (b.drop s.1) s.2.1 hi s.2.2=minusIn b lo0 hi out∧s.2.2.length≤out.length+s.1) (fun s=>b.length-s.1) (0,lo0,out) ⟨by simp,rfl,by simp⟩ (fun _ _ h=>h) ?_)
  rintro⟨m,lo,out2⟩ ⟨hm,he2,hlo2⟩ ih2
  simp only at hm he2 hlo2
  dsimp only
  repeat(refine .A ?_;conv=>whnf)
  refine T.cd rfl (fun h2=> ?_) (fun h2=> ?_)
  ·have h2:m<b.length:=by simpa using h2
   rw[List.drop_eq_getElem_cons h2,minusIn]at he2
   have hr2:(b.map cR)[((m:Nat):Int).toNat]? =some (cR b[m]):=row_i h2
   generalize b[m]=y at*
   obtain⟨y1,y2⟩:=y
   simp only at he2
   have skip:(y2<lo∨hi<y1)→minusIn (b.drop (m+1)) lo hi out2=minusIn b lo0 hi out:=fun h=>by rw[if_pos h]at he2;exact he2
   have keep: ¬(y2<lo∨hi<y1)→minusIn (b.drop (m+1)) (wr (y2+1)) hi (if lo<y1 then out2++[(lo,wr (y1-1))]else out2)=minusIn b lo0 hi out:=fun h=>by rw[if_neg h]at he2;exact he2
   repeat(refine .A ?_;conv=>whnf)
   refine .I (r:=cR (y1,y2)) hr2 ?_
   repeat(refine .A ?_;conv=>whnf)
   refine J.al rfl rfl rfl rfl rfl rfl rfl ?_
   repeat(refine .A ?_;conv=>whnf)
   refine J.w rfl rfl rfl rfl rfl rfl rfl rfl rfl rfl ?_
   repeat(refine .A ?_;conv=>whnf)
   refine J.g rfl rfl rfl (fun h3=> ?_) (fun h3=> ?_)
   ·have h3:y2<lo:=h3
    repeat(refine .A ?_;conv=>whnf)
    refine T.ct rfl ?_
    repeat(refine .A ?_;conv=>whnf)
    rw[wrap1 (l:=b.length) (by omega) (by omega)]
    exact T.K (ih2 (m+1,lo,out2) ⟨by simp only;omega,skip (.inl h3),by simp only;omega⟩ (by simp only;omega))
   ·have h3: ¬y2<lo:=h3
    repeat(refine .A ?_;conv=>whnf)
    refine T.cd rfl (fun h4=> ?_) (fun h4=> ?_)
    ·have h4:hi<y1:=h4
     repeat(refine .A ?_;conv=>whnf)
     rw[wrap1 (l:=b.length) (by omega) (by omega)]
     exact T.K (ih2 (m+1,lo,out2) ⟨by simp only;omega,skip (.inr h4),by simp only;omega⟩ (by simp only;omega))
    ·have h4: ¬hi<y1:=h4
     have keep:=keep (fun h=>h.elim h3 h4)
     repeat(refine .A ?_;conv=>whnf)
     refine T.cd rfl (fun h5=> ?_) (fun h5=> ?_)
     ·have h5:lo<y1:=h5
      rw[if_pos h5]at keep
      repeat(refine .A ?_;conv=>whnf)
      refine .V ?_
      refine J.aR rfl rfl rfl rfl rfl rfl rfl rfl rfl rfl rfl rfl rfl rfl rfl rfl rfl rfl rfl (a:=lo) (b:=IntKind.i64.wrap (y1-1)) (by omega) ?_
      repeat(refine .A ?_;conv=>whnf)
      refine J.w rfl rfl rfl rfl rfl rfl rfl rfl rfl rfl ?_
      repeat(refine .A ?_;conv=>whnf)
      rw[wrap1 (l:=b.length) (by omega) (by omega)]
      exact T.K (ih2 (m+1,wr (y2+1),out2++[(lo,wr (y1-1))]) ⟨by simp only;omega,keep,by simp;omega⟩ (by simp only;omega))
     ·have h5: ¬lo<y1:=h5
      rw[if_neg h5]at keep
      repeat(refine .A ?_;conv=>whnf)
      refine J.w rfl rfl rfl rfl rfl rfl rfl rfl rfl rfl ?_
      repeat(refine .A ?_;conv=>whnf)
      rw[wrap1 (l:=b.length) (by omega) (by omega)]
      exact T.K (ih2 (m+1,wr (y2+1),out2) ⟨by simp only;omega,keep,by simp only;omega⟩ (by simp only;omega))
  ·have h2:m=b.length:=by simp at h2;omega
   subst h2
   rw[List.drop_length,minusIn]at he2
   clear ih2
   have hmo:minusOne b out (lo0,hi)=if lo≤hi then out2++[(lo,hi)]else out2:=by
    unfold minusOne
    simp only[←he2]
   rw[hmo]at he
   repeat(refine .A ?_;conv=>whnf)
   refine T.cd rfl (fun h5=> ?_) (fun h5=> ?_)
   ·have h5:lo≤hi:=h5
    rw[if_pos h5]at he
    repeat(refine .A ?_;conv=>whnf)
    refine .V ?_
    refine J.aR rfl rfl rfl rfl rfl rfl rfl rfl rfl rfl rfl rfl rfl rfl rfl rfl rfl rfl rfl (by omega) ?_
    refine J.sub (Rel.flat (o:=2) rfl flat_R) ?_
    repeat(refine .A ?_;conv=>whnf)
    rw[wrap1 (l:=a.length) (by omega) (by omega)]
    exact T.K (ih (n+1,out2++[(lo,hi)]) ⟨by simp only;omega,he,by simp;omega⟩ (by simp only;omega))
   ·have h5: ¬lo≤hi:=h5
    rw[if_neg h5]at he
    repeat(refine .A ?_;conv=>whnf)
    rw[wrap1 (l:=a.length) (by omega) (by omega)]
    exact T.K (ih (n+1,out2) ⟨by simp only;omega,he,by simp only;omega⟩ (by simp only;omega))
 ·have h1:n=a.length:=by simp at h1;omega
  subst h1
  rw[List.drop_length,List.foldl_nil]at he
  subst he
  repeat(refine .A ?_;conv=>whnf)
  exact⟨_,.o rfl rfl rfl (fun _=> .inl rfl) (by simp) .nil⟩
def otherGo:Nat→List (List (Int×Int)×Int)→Int→Int→Option (Int×Int)
 |_,[],op,s=>some (op,s)
 |i,t::ts,op,s=>if 1<sizeW t.1 then(if 0≤op then none else otherGo (i+1) ts i s)else otherGo (i+1) ts op (wr (s+(endW t.1 t.2 false).1))
def otherW (d:Doms)(c:Con):Doms×Bool:=
 match otherGo 0 (termsOf d c.vars c.coefs) (-1) 0 with
 |none=>(d,true)
 |some (op,s)=>
  if op<0 then(d,decide (s≠c.rhs))else
  if(wr (c.rhs-s)).tmod (coefAt c op.toNat)=0 then
   (d.set (varAt c op.toNat).toNat (minusW (domAt d (varAt c op.toNat)) [(wr ((wr (c.rhs-s)).tdiv (coefAt c op.toNat)),wr ((wr (c.rhs-s)).tdiv (coefAt c op.toNat)))]),
    decide (0<(minusW (domAt d (varAt c op.toNat)) [(wr ((wr (c.rhs-s)).tdiv (coefAt c op.toNat)),wr ((wr (c.rhs-s)).tdiv (coefAt c op.toNat)))]).length))
  else(d,decide (0<(domAt d (varAt c op.toNat)).length))
theorem otherGo_in: ∀(ts:List (List (Int×Int)×Int)) (i:Nat) (op s op' s':Int) (n:Nat),op<n→i+ts.length≤n→otherGo i ts op s=some (op',s')→op'<n
 | [],i,op,s,op',s',n,h,_,e=>by
  simp only[otherGo,Option.some.injEq,Prod.mk.injEq]at e
  omega
 |t::ts,i,op,s,op',s',n,h,hn,e=>by
  simp only[List.length_cons]at hn
  rw[otherGo]at e
  split at e
  ·split at e
   ·cases e
   ·exact otherGo_in ts (i+1) i s op' s' n (by omega) (by omega) e
  ·exact otherGo_in ts (i+1) op _ op' s' n h (by omega) e
theorem lother_spec (d:Doms)(c:Con)(h:SumFine d c.vars c.coefs)(hsm: ∀x∈d,x.length*64+1048576≤140737488355328):
  SpecM Tryz.prog 82 45 1 (d.map cD) [.agg (cC c)] ((otherW d c).1.map cD) [.bool (otherW d c).2]:=by
 refine SpecM.body Tryz.func82 rfl rfl rfl (by simp[PV.flat]) fun w0 v0 Z1=> ?_
 obtain⟨hlen,hvl,hvin,hck,hdom,hdl⟩:=h
 have hin:=otherGo_in (termsOf d c.vars c.coefs) 0 (-1) 0
 generalize hgo:otherGo 0 (termsOf d c.vars c.coefs) (-1) 0=go at hin
 repeat(refine .A ?_;conv=>whnf)
 refine T.K (T.ind (fun s:Nat×Int×Int=>⟨[(0,.ref 0),(3,.optr 1 0 0 0),(5,.val true (.int .i64 s.2.1)),(6,.val true (.int .i64 s.2.2)),(15,.val false (ints c.vars)),(16,.val true (.int .i64 (c.vars.map cI).length)),(17,.val true (.int .i64 s.1))],[(0,some (.sl 45 1 true (d.map cD))),(1,some (.box false (cC c)))],2⟩)
  (fun s=>s.1≤c.vars.length∧otherGo s.1 ((termsOf d c.vars c.coefs).drop s.1) s.2.1 s.2.2=go) (fun s=>c.vars.length-s.1) (0,-1,0) ⟨by simp,hgo⟩ (fun _ _ h=>h) ?_)
 rintro⟨i,op,s⟩ ⟨hil,he⟩ ih
 simp only at hil he
 dsimp only
 repeat(refine .A ?_;conv=>whnf)
 refine T.cd rfl (fun h1=> ?_) (fun h1=> ?_)
 ·have h1:i<c.vars.length:=by simpa using h1
  have h2:i<c.coefs.length:=by omega
  have hv:=hvin _ (List.getElem_mem h1)
  have hk:=hck _ (List.getElem_mem h2)
  have hx:=hdom _ (domAt_mem hv.2)
  have hrow:(d.map cD)[c.vars[i].toNat]? =some (cD (domAt d c.vars[i])):=by simp[domAt_some hv.2]
  rw[terms_cons h1 h2,otherGo]at he
  repeat(refine .A ?_;conv=>whnf)
  refine .I (r:=cI c.vars[i]) (row_i h1) ?_
  repeat(refine .A ?_;conv=>whnf)
  refine J.io rfl rfl rfl rfl rfl rfl rfl rfl rfl hv.1 (by simpa using hv.2) rfl ?_
  refine J.lo rfl rfl rfl rfl rfl rfl (r:=cD (domAt d c.vars[i])) hrow rfl ?_
  refine .C (size_spec (domAt d c.vars[i]) (by have:=hx.len;omega)) ?_
  repeat(refine .A ?_;conv=>whnf)
  refine T.cd rfl (fun h3=> ?_) (fun h3=> ?_)
  ·have h3:1<sizeW (domAt d c.vars[i]):=h3
   rw[if_pos h3]at he
   repeat(refine .A ?_;conv=>whnf)
   refine T.cd rfl (fun h4=> ?_) (fun h4=> ?_)
   ·have h4:0≤op:=h4
    rw[if_pos h4]at he
    subst he
    have ho:otherW d c=(d,true):=by unfold otherW;rw[hgo]
    rw[ho]
    repeat(refine .A ?_;conv=>whnf)
    exact⟨.v rfl rfl rfl (fun h=>by cases h) .nil,_,rfl,rfl⟩
   ·have h4: ¬0≤op:=h4
    rw[if_neg h4]at he
    repeat(refine .A ?_;conv=>whnf)
    rw[wrap1 (l:=c.vars.length) (by omega) (by omega)]
    exact T.K (ih (i+1,i,s) ⟨by simp only;omega,he⟩ (by simp only;omega))
  ·have h3: ¬1<sizeW (domAt d c.vars[i]):=h3
   rw[if_neg h3]at he
   repeat(refine .A ?_;conv=>whnf)
   refine J.io rfl rfl rfl rfl rfl rfl rfl rfl rfl hv.1 (by simpa using hv.2) rfl ?_
   refine J.lo rfl rfl rfl rfl rfl rfl (r:=cD (domAt d c.vars[i])) hrow rfl ?_
   repeat(refine .A ?_;conv=>whnf)
   refine .I (r:=cI c.coefs[i]) (row_i h2) ?_
   repeat(refine .A ?_;conv=>whnf)
   refine J.cc rfl rfl rfl rfl rfl (lend_spec _ _ false hx.domB hk) rfl rfl ?_
   repeat(refine .A ?_;conv=>whnf)
   rw[wrap1 (l:=c.vars.length) (by omega) (by omega)]
   exact T.K (ih (i+1,op,wr (s+(endW (domAt d c.vars[i]) c.coefs[i] false).1)) ⟨by simp only;omega,he⟩ (by simp only;omega))
 ·have h1:i=c.vars.length:=by simp at h1;omega
  subst h1
  rw[terms_end hlen,otherGo]at he
  subst he
  clear ih
  have hop:=hin op s c.vars.length (by omega) (by simp[termsOf];omega) rfl
  unfold otherW
  rw[hgo]
  simp only
  repeat(refine .A ?_;conv=>whnf)
  refine T.cd rfl (fun h3=> ?_) (fun h3=> ?_)
  ·have h3:op<0:=h3
   rw[if_pos h3]
   repeat(refine .A ?_;conv=>whnf)
   exact⟨.v rfl rfl rfl (fun h=>by cases h) .nil,_,rfl,rfl⟩
  ·have h3: ¬op<0:=h3
   rw[if_neg h3]
   obtain⟨j,rfl⟩: ∃j:Nat,op=j:=⟨op.toNat,by omega⟩
   rw[Int.toNat_natCast]
   have hj:j<c.vars.length:=by omega
   have hv:=hvin _ (varAt_mem hj)
   have hk:=hck _ (show coefAt c j∈c.coefs by unfold coefAt;rw[getD_at (by omega)];exact List.getElem_mem _)
   have hx:=hdom _ (domAt_mem hv.2)
   have hrow:(d.map cD)[(varAt c j).toNat]? =some (cD (domAt d (varAt c j))):=by simp[domAt_some hv.2]
   have hkr:=coefAt_row (c:=c) (k:=j) (by omega)
   have hvr:=varAt_row (c:=c) (k:=j) hj
   have hk0:=hk.1
   have hln:=hx.len
   have hls:=hsm _ (domAt_mem hv.2)
   have hm:=fun x=>(minus_spec (domAt d (varAt c j)) [(x,x)] (by simp) (by simp only[List.length_singleton];omega)).frz
   generalize varAt c j=v at*
   generalize coefAt c j=k at*
   generalize domAt d v=dv at*
   repeat(refine .A ?_;conv=>whnf)
   refine .I (r:=cI v) hvr ?_
   repeat(refine .A ?_;conv=>whnf)
   refine .I (r:=cI k) hkr ?_
   repeat(refine .A ?_;conv=>whnf)
   refine J.rm rfl rfl rfl rfl rfl rfl hk0 ?_
   repeat(refine .A ?_;conv=>whnf)
   refine T.cd rfl (fun h4=> ?_) (fun h4=> ?_)
   ·have h4:(wr (c.rhs-s)).tmod k=0:=h4
    rw[if_pos h4]
    repeat(refine .A ?_;conv=>whnf)
    refine J.qu rfl rfl rfl rfl rfl rfl hk0 ?_
    repeat(refine .A ?_;conv=>whnf)
    refine J.io rfl rfl rfl rfl rfl rfl rfl rfl rfl hv.1 (by simpa using hv.2) rfl ?_
    refine J.lo rfl rfl rfl rfl rfl rfl (r:=cD dv) hrow rfl ?_
    repeat(refine .A ?_;conv=>whnf)
    refine .V ?_
    refine J.cc rfl rfl rfl rfl rfl (hm _) rfl rfl ?_
    refine J.io rfl rfl rfl rfl rfl rfl rfl rfl rfl hv.1 (by simpa using hv.2) rfl ?_
    refine J.w1 rfl rfl rfl rfl rfl rfl rfl rfl rfl rfl rfl (fun _=>rfl) hv.2 ?_
    repeat(refine .A ?_;conv=>whnf)
    refine J.io rfl rfl rfl rfl rfl rfl rfl rfl rfl hv.1 (by simpa using hv.2) rfl ?_
    refine J.lo rfl rfl rfl rfl rfl rfl (r:=cD (minusW dv [(wr ((wr (c.rhs-s)).tdiv k),wr ((wr (c.rhs-s)).tdiv k))])) (by rw[List.getElem?_map,List.getElem?_set_self hv.2];rfl) rfl ?_
    repeat(refine .A ?_;conv=>whnf)
    exact⟨.v rfl rfl (by simp only[List.length_map];congr 1;simp) (fun h=>by cases h) .nil,_,rfl,rfl⟩
   ·have h4: ¬(wr (c.rhs-s)).tmod k=0:=h4
    rw[if_neg h4]
    repeat(refine .A ?_;conv=>whnf)
    refine J.io rfl rfl rfl rfl rfl rfl rfl rfl rfl hv.1 (by simpa using hv.2) rfl ?_
    refine J.lo rfl rfl rfl rfl rfl rfl (r:=cD dv) hrow rfl ?_
    repeat(refine .A ?_;conv=>whnf)
    exact⟨.v rfl rfl (by simp only[List.length_map];congr 1;simp) (fun h=>by cases h) .nil,_,rfl,rfl⟩
theorem mostGo_fine (low rhs:Int): ∀(l:List (Int×Int)) (d:Doms) (ch:Bool),(∀p∈l,0≤p.1∧p.1.toNat<d.length)→(∀x∈d,Fine x)→(mostGo low rhs l d ch).1.length=d.length∧∀x∈(mostGo low rhs l d ch).1,Fine x
 | [],d,ch,_,hf=>⟨rfl,hf⟩
 |(v,k)::l,d,ch,hv,hf=>by
  rw[mostGo]
  split
  ·exact⟨rfl,hf⟩
  ·have hx:=hf _ (domAt_mem (hv _ (.head _)).2)
   obtain⟨h1,h2⟩:=mostGo_fine low rhs l (d.set v.toNat (cutW (domAt d v) k (restW low rhs (domAt d v) k))) (ch|| !decide (cutW (domAt d v) k (restW low rhs (domAt d v) k)=domAt d v)) (fun p hp=>by rw[List.length_set];exact hv p (.tail _ hp)) (mem_set hf (cutW_fine hx k _))
   exact⟨by rw[h1,List.length_set],h2⟩
theorem SumFine.most {d:Doms}{vars coefs:List Int}(h:SumFine d vars coefs)(rhs:Int):SumFine (mostW d vars coefs rhs).1 vars coefs:=by
 obtain⟨h1,h2⟩:=mostGo_fine (endsW d vars coefs).1 rhs (vars.zip coefs) d false (fun p hp=>h.vin _ (List.of_mem_zip hp).1) h.dom
 have h1:(mostW d vars coefs rhs).1.length=d.length:=h1
 exact⟨h.len,h.vl,fun v hv=>by rw[h1];exact h.vin v hv,h.ck,h2,by rw[h1];exact h.dl⟩
theorem turned_ok {k:Int}(h:CoefOk k):wr (0-k)= -k∧CoefOk (wr (0-k)):=by
 have:=coef_int h
 have e:wr (0-k)= -k:=by rw[wr,wrap_id (by omega) (by omega)];omega
 refine⟨e,?_⟩
 rw[e]
 unfold CoefOk absK at*
 omega
theorem SumFine.back {d:Doms}{vars coefs:List Int}(h:SumFine d vars coefs):SumFine d vars (turnedW coefs):=
 ⟨by simp[turnedW,h.len],h.vl,h.vin,fun k hk=>by
  obtain⟨k0,hk0,rfl⟩:=List.mem_map.1 hk
  exact(turned_ok (h.ck _ hk0)).2,h.dom,h.dl⟩
def stepL (c:Con)(out:Doms):Option Doms ⊕ Doms:=
 if(mostW out c.vars c.coefs c.rhs).2.2=false then .inl none else
 if c.op=0 then .inl (some (mostW out c.vars c.coefs c.rhs).1)else
 if(mostW (mostW out c.vars c.coefs c.rhs).1 c.vars (turnedW c.coefs) (wr (0-c.rhs))).2.2=false then .inl none else
 if(mostW out c.vars c.coefs c.rhs).2.1=false∧(mostW (mostW out c.vars c.coefs c.rhs).1 c.vars (turnedW c.coefs) (wr (0-c.rhs))).2.1=false then .inl (some (mostW (mostW out c.vars c.coefs c.rhs).1 c.vars (turnedW c.coefs) (wr (0-c.rhs))).1)
 else .inr (mostW (mostW out c.vars c.coefs c.rhs).1 c.vars (turnedW c.coefs) (wr (0-c.rhs))).1
def LinAns (d:Doms)(c:Con)(R:Option Doms)(N:Nat):Prop:=
 if []∈d then R=none else if c.op=2 then R=(if(otherW d c).2 then some (otherW d c).1 else none)else iter (stepL c) N d=some R
theorem lprune_spec (d:Doms)(c:Con)(h:SumFine d c.vars c.coefs)(hsm: ∀x∈d,x.length*64+1048576≤140737488355328)(R:Option Doms)(N:Nat)(hR:LinAns d c R N):
  Spec Tryz.prog 35 false [doms d,.agg (cC c)] (pruneRes R):=by
 refine Spec.body Tryz.func35 rfl rfl rfl fun w0 Z0=> ?_
 have hown:=lown_spec d h.dl (fun x hx=>by have:=(h.dom x hx).len;omega)
 unfold LinAns at hR
 repeat(refine .A ?_;conv=>whnf)
 refine T.scope (fun _ _ h=>h) ?_
 repeat(refine .A ?_;conv=>whnf)
 refine .C hown ?_
 repeat(refine .A ?_;conv=>whnf)
 by_cases hm: []∈d
 ·rw[if_pos hm]at hR
  subst hR
  rw[if_pos hm,decide_eq_true hm]
  refine T.ct rfl ?_
  repeat(refine .A ?_;conv=>whnf)
  exact⟨_,.ownN rfl (.v rfl rfl rfl (fun _=>rfl) .nil)⟩
 ·rw[if_neg hm]at hR
  rw[if_neg hm,decide_eq_false hm]
  refine T.cf rfl ?_
  repeat(refine .A ?_;conv=>whnf)
  refine T.cd rfl (fun h1=> ?_) (fun h1=> ?_)
  ·have h1:c.op=2:=h1
   rw[if_pos h1]at hR
   repeat(refine .A ?_;conv=>whnf)
   have ho:=lother_spec d c h hsm
   generalize otherW d c=ow at*
   obtain⟨d2,b⟩:=ow
   refine J.cm rfl rfl rfl rfl rfl rfl rfl rfl rfl ho rfl rfl rfl ?_
   repeat(refine .A ?_;conv=>whnf)
   cases b
   ·subst hR
    refine T.ct rfl ?_
    repeat(refine .A ?_;conv=>whnf)
    exact⟨_,.ownN rfl (.v rfl rfl rfl (fun _=>rfl) .nil)⟩
   ·subst hR
    refine T.cf rfl ?_
    repeat(refine .A ?_;conv=>whnf)
    exact⟨_,.o rfl rfl rfl (fun _=> .inl rfl) (by simp) (.v rfl rfl rfl (fun _=>rfl) .nil)⟩
  ·have h1: ¬c.op=2:=h1
   rw[if_neg h1]at hR
   repeat(refine .A ?_;conv=>whnf)
   refine .C (lturned_spec c.coefs (by have:=h.vl;have:=h.len;omega)) ?_
   repeat(refine .A ?_;conv=>whnf)
   refine T.K (T.ind (fun s:Nat×Doms=>⟨[(3,.optr 0 0 0 0),(6,.ref 1),(8,.ref 2)],[(0,some (.box false (cC c))),(1,some (.sl 45 1 true (s.2.map cD))),(2,some (.sl 3 1 true ((turnedW c.coefs).map cI)))],3⟩)
    (fun s=>iter (stepL c) s.1 s.2=some R∧SumFine s.2 c.vars c.coefs) (fun s=>s.1) (N,d) ⟨hR,h⟩ (fun _ _ h=>h) ?_)
   rintro⟨m,out⟩ ⟨hR,hs⟩ ih
   simp only at hR hs
   dsimp only
   have hm1:=lmost_spec out c.vars c.coefs c.rhs hs
   have hs1:=hs.most c.rhs
   have hm2:=lmost_spec (mostW out c.vars c.coefs c.rhs).1 c.vars (turnedW c.coefs) (wr (0-c.rhs)) hs1.back
   have hs2:=hs1.back.most (wr (0-c.rhs))
   have hs3:SumFine (mostW (mostW out c.vars c.coefs c.rhs).1 c.vars (turnedW c.coefs) (wr (0-c.rhs))).1 c.vars c.coefs:=⟨hs.len,hs2.vl,hs2.vin,hs.ck,hs2.dom,hs2.dl⟩
   have hst:stepL c out=stepL c out:=rfl
   conv at hst=>rhs;unfold stepL
   generalize mostW (mostW out c.vars c.coefs c.rhs).1 c.vars (turnedW c.coefs) (wr (0-c.rhs))=m2 at*
   generalize mostW out c.vars c.coefs c.rhs=m1 at*
   obtain⟨d1,ch1,ok1⟩:=m1
   obtain⟨d2,ch2,ok2⟩:=m2
   simp only at hm1 hm2 hst hs1 hs3
   repeat(refine .A ?_;conv=>whnf)
   refine J.cm rfl rfl rfl rfl rfl rfl rfl rfl rfl hm1 rfl rfl rfl ?_
   repeat(refine .A ?_;conv=>whnf)
   cases ok1
   ·rw[if_pos rfl]at hst
    obtain rfl:=iter_inl hR hst
    refine T.ct rfl ?_
    repeat(refine .A ?_;conv=>whnf)
    exact⟨_,.ownN rfl (.v rfl rfl rfl (fun _=>rfl) .nil)⟩
   ·rw[if_neg (by decide)]at hst
    refine T.cf rfl ?_
    repeat(refine .A ?_;conv=>whnf)
    refine T.cd rfl (fun h2=> ?_) (fun h2=> ?_)
    ·have h2:c.op=0:=h2
     rw[if_pos h2]at hst
     obtain rfl:=iter_inl hR hst
     repeat(refine .A ?_;conv=>whnf)
     exact⟨_,.o rfl rfl rfl (fun _=> .inl rfl) (by simp) (.v rfl rfl rfl (fun _=>rfl) .nil)⟩
    ·have h2: ¬c.op=0:=h2
     rw[if_neg h2]at hst
     repeat(refine .A ?_;conv=>whnf)
     refine J.cm rfl rfl rfl rfl rfl rfl rfl rfl rfl hm2 rfl rfl rfl ?_
     repeat(refine .A ?_;conv=>whnf)
     cases ok2
     ·rw[if_pos rfl]at hst
      obtain rfl:=iter_inl hR hst
      refine T.ct rfl ?_
      repeat(refine .A ?_;conv=>whnf)
      exact⟨_,.ownN rfl (.v rfl rfl rfl (fun _=>rfl) .nil)⟩
     ·rw[if_neg (by decide)]at hst
      refine T.cf rfl ?_
      repeat(refine .A ?_;conv=>whnf)
      cases ch1
      ·cases ch2
       ·rw[if_pos ⟨rfl,rfl⟩]at hst
        obtain rfl:=iter_inl hR hst
        repeat(refine .A ?_;conv=>whnf)
        refine T.ct rfl ?_
        repeat(refine .A ?_;conv=>whnf)
        exact⟨_,.o rfl rfl rfl (fun _=> .inl rfl) (by simp) (.v rfl rfl rfl (fun _=>rfl) .nil)⟩
       ·rw[if_neg (by simp)]at hst
        obtain⟨m',hlt,hR'⟩:=iter_inr hR hst
        repeat(refine .A ?_;conv=>whnf)
        refine T.cf rfl ?_
        repeat(refine .A ?_;conv=>whnf)
        exact T.K (ih (m',d2) ⟨hR',hs3⟩ hlt)
      ·rw[if_neg (by simp)]at hst
       obtain⟨m',hlt,hR'⟩:=iter_inr hR hst
       repeat(refine .A ?_;conv=>whnf)
       refine T.cf rfl ?_
       repeat(refine .A ?_;conv=>whnf)
       exact T.K (ih (m',d2) ⟨hR',hs3⟩ hlt)
def hd0 (l:List Int):Int:=l.getD 0 0
def rotherGo:Nat→List (List (Int×Int)×Int)→Nat→Int→Nat→Nat×Int×Nat
 |_,[],m,s,a=>(m,s,a)
 |i,t::ts,m,s,a=>if 1<(vals t.1).length then rotherGo (i+1) ts (m+1) s i else rotherGo (i+1) ts m (wr (s+wr (t.2*hd0 (vals t.1)))) a
def rotherW (d:Doms)(c:Con):Doms:=
 let r:=rotherGo 0 (termsOf d c.vars c.coefs) 0 0 0
 if 1<r.1 then d else
 if r.1=0 then(if r.2.1=c.rhs then d.set (varAt c 0).toNat []else d)else
 d.set (varAt c r.2.2).toNat (pack ((vals (domAt d (varAt c r.2.2))).filter fun v=>decide (wr (r.2.1+wr (coefAt c r.2.2*v))≠c.rhs)))
theorem rotherGo_in: ∀(ts:List (List (Int×Int)×Int)) (i m a:Nat) (s:Int) (n:Nat),a<n→i+ts.length≤n→m≤i→(rotherGo i ts m s a).2.2<n∧(rotherGo i ts m s a).1≤i+ts.length
 | [],i,m,a,s,n,h,_,hm=>by simp[rotherGo];omega
 |t::ts,i,m,a,s,n,h,hn,hm=>by
  simp only[List.length_cons]at hn⊢
  rw[rotherGo]
  split
  ·have:=rotherGo_in ts (i+1) (m+1) i s n (by omega) (by omega) (by omega)
   omega
  ·have:=rotherGo_in ts (i+1) m a (wr (s+wr (t.2*hd0 (vals t.1)))) n h (by omega) (by omega)
   omega
theorem rother_spec (d:Doms)(c:Con)(h:SumIn d c.vars c.coefs)(hpos:0<c.vars.length)(hne: ∀v∈c.vars,vals (domAt d v)≠[]):
  Spec Tryz.prog 86 false [doms d,.agg (cC c)] [.own 45 1 ((rotherW d c).map cD)]:=by
 refine Spec.body Tryz.func86 rfl rfl rfl fun w0 Z0=> ?_
 obtain⟨hlen,hvl,hvin,hck,hdom,hdl⟩:=h
 unfold rotherW
 have hin:=rotherGo_in (termsOf d c.vars c.coefs) 0 0 0 0 c.vars.length hpos (by simp[termsOf];omega) (Nat.le_refl _)
 generalize hgo:rotherGo 0 (termsOf d c.vars c.coefs) 0 0 0=go at hin
 simp only
 repeat(refine .A ?_;conv=>whnf)
 refine .C (lists_spec d hdl (fun x hx=>(hdom x hx).2.2)) ?_
 repeat(refine .A ?_;conv=>whnf)
 refine T.K (T.ind (fun s:Nat×Nat×Int×Nat=>⟨[(0,.val false (doms d)),(3,.optr 0 0 0 0),(5,.ref 1),(6,.val true (.int .i64 s.2.1)),(7,.val true (.int .i64 s.2.2.1)),(8,.val true (.int .i64 s.2.2.2)),(9,.val true (.int .i64 s.1))],[(0,some (.box false (cC c))),(1,some (.sl 45 1 true (d.map cD)))],2⟩)
  (fun s=>s.1≤c.vars.length∧s.2.1≤s.1∧rotherGo s.1 ((termsOf d c.vars c.coefs).drop s.1) s.2.1 s.2.2.1 s.2.2.2=go) (fun s=>c.vars.length-s.1) (0,0,0,0) ⟨by simp,by simp,hgo⟩ (fun _ _ h=>h) ?_)
 rintro⟨i,m,s,a⟩ ⟨hil,hmi,he⟩ ih
 simp only at hil hmi he
 dsimp only
 repeat(refine .A ?_;conv=>whnf)
 refine T.cd rfl (fun h1=> ?_) (fun h1=> ?_)
 ·have h1:i<c.vars.length:=by simpa using h1
  have h2:i<c.coefs.length:=by omega
  have hv:=hvin _ (List.getElem_mem h1)
  have hx:=hdom _ (domAt_mem hv.2)
  have hrow:(d.map cD)[c.vars[i].toNat]? =some (cD (domAt d c.vars[i])):=by simp[domAt_some hv.2]
  have hnv:=hne _ (List.getElem_mem h1)
  have hvx:=values_spec (domAt d c.vars[i]) hx.1 (by have:=hx.2.1;omega) hx.2.2
  rw[terms_cons h1 h2,rotherGo]at he
  simp only at he
  generalize vals (domAt d c.vars[i])=l at*
  repeat(refine .A ?_;conv=>whnf)
  refine .I (r:=cI c.vars[i]) (row_i h1) ?_
  repeat(refine .A ?_;conv=>whnf)
  refine J.i rfl rfl rfl rfl rfl rfl rfl rfl rfl (r:=cD (domAt d c.vars[i])) hv.1 hrow rfl ?_
  repeat(refine .A ?_;conv=>whnf)
  refine .C hvx ?_
  repeat(refine .A ?_;conv=>whnf)
  refine T.cd rfl (fun h3=> ?_) (fun h3=> ?_)
  ·have h3:1<l.length:=by
    have h3:((l.map cI).length:Int) > 1:=h3
    simp only[List.length_map]at h3;omega
   rw[if_pos h3]at he
   repeat(refine .A ?_;conv=>whnf)
   rw[wrap1 (l:=c.vars.length) (n:=m) (by omega) (by omega),wrap1 (l:=c.vars.length) (n:=i) (by omega) (by omega)]
   exact T.K (ih (i+1,m+1,s,i) ⟨by simp only;omega,by simp only;omega,he⟩ (by simp only;omega))
  ·have h3: ¬1<l.length:=by
    have h3: ¬((l.map cI).length:Int) > 1:=h3
    simp only[List.length_map]at h3;omega
   rw[if_neg h3]at he
   obtain⟨x,rfl⟩: ∃x,l=[x]:=by
    cases l with
    |nil=>exact absurd rfl hnv
    |cons x l=>cases l with
     |nil=>exact⟨x,rfl⟩
     |cons y l=>simp at h3
   repeat(refine .A ?_;conv=>whnf)
   refine .I (r:=cI c.coefs[i]) (row_i h2) ?_
   repeat(refine .A ?_;conv=>whnf)
   refine J.io rfl rfl rfl rfl rfl rfl rfl rfl rfl (by decide) (by simp) rfl ?_
   refine J.lo rfl rfl rfl rfl rfl rfl (r:=cI x) rfl rfl ?_
   repeat(refine .A ?_;conv=>whnf)
   rw[wrap1 (l:=c.vars.length) (n:=i) (by omega) (by omega)]
   exact T.K (ih (i+1,m,wr (s+wr (c.coefs[i]*x)),a) ⟨by simp only;omega,by simp only;omega,he⟩ (by simp only;omega))
 ·have h1:i=c.vars.length:=by simp at h1;omega
  subst h1
  rw[terms_end hlen,rotherGo]at he
  subst he
  clear ih
  simp only at hin⊢
  repeat(refine .A ?_;conv=>whnf)
  refine T.cd rfl (fun h3=> ?_) (fun h3=> ?_)
  ·have h3:1<m:=by have h3:(m:Int) > 1:=h3;omega
   rw[if_pos h3]
   repeat(refine .A ?_;conv=>whnf)
   exact⟨_,.o rfl rfl rfl (fun _=> .inl rfl) (by simp) .nil⟩
  ·have h3: ¬1<m:=by have h3: ¬(m:Int) > 1:=h3;omega
   rw[if_neg h3]
   repeat(refine .A ?_;conv=>whnf)
   refine T.cd rfl (fun h4=> ?_) (fun h4=> ?_)
   ·have h4:m=0:=by have h4:(m:Int)=0:=h4;omega
    rw[if_pos h4]
    repeat(refine .A ?_;conv=>whnf)
    refine T.cd rfl (fun h5=> ?_) (fun h5=> ?_)
    ·have h5:s=c.rhs:=h5
     rw[if_pos h5]
     have hv:=hvin _ (varAt_mem (c:=c) (k:=0) hpos)
     have hvr:=varAt_row (c:=c) (k:=0) hpos
     repeat(refine .A ?_;conv=>whnf)
     refine .I (r:=cI (varAt c 0)) hvr ?_
     repeat(refine .A ?_;conv=>whnf)
     refine .V ?_
     refine J.io rfl rfl rfl rfl rfl rfl rfl rfl rfl hv.1 (by simpa using hv.2) rfl ?_
     refine J.w1 rfl rfl rfl rfl rfl rfl rfl rfl rfl rfl rfl (z:=[]) (fun _=>rfl) hv.2 ?_
     repeat(refine .A ?_;conv=>whnf)
     exact⟨_,.o rfl rfl rfl (fun _=> .inl rfl) (by simp) .nil⟩
    ·have h5: ¬s=c.rhs:=h5
     rw[if_neg h5]
     repeat(refine .A ?_;conv=>whnf)
     exact⟨_,.o rfl rfl rfl (fun _=> .inl rfl) (by simp) .nil⟩
   ·have h4: ¬m=0:=by have h4: ¬(m:Int)=0:=h4;omega
    rw[if_neg h4]
    have hj:=hin.1
    have hv:=hvin _ (varAt_mem hj)
    have hx:=hdom _ (domAt_mem hv.2)
    have hrow:(d.map cD)[(varAt c a).toNat]? =some (cD (domAt d (varAt c a))):=by simp[domAt_some hv.2]
    have hkr:=coefAt_row (c:=c) (k:=a) (by omega)
    have hvr:=varAt_row (c:=c) (k:=a) hj
    have hvx:=values_spec (domAt d (varAt c a)) hx.1 (by have:=hx.2.1;omega) hx.2.2
    have hvin2:=vals_in hx.1
    have hvl2:=hx.2.1
    generalize vals (domAt d (varAt c a))=l at*
    generalize varAt c a=v at*
    generalize coefAt c a=k at*
    repeat(refine .A ?_;conv=>whnf)
    refine .I (r:=cI v) hvr ?_
    repeat(refine .A ?_;conv=>whnf)
    refine J.i rfl rfl rfl rfl rfl rfl rfl rfl rfl (r:=cD (domAt d v)) hv.1 hrow rfl ?_
    repeat(refine .A ?_;conv=>whnf)
    refine .C hvx ?_
    refine .O ?_
    repeat(refine .A ?_;conv=>whnf)
    refine T.K (T.ind (fun n:Nat=>⟨[(3,.optr 0 0 0 0),(5,.ref 1),(7,.val true (.int .i64 s)),(8,.val true (.int .i64 a)),(11,.ref 2),(12,.ref 3),(13,.val true (.int .i64 n))],[(0,some (.box false (cC c))),(1,some (.sl 45 1 true (d.map cD))),(2,some (.sl 3 1 true (l.map cI))),(3,some (.sl 3 1 true (((l.take n).filter fun v=>decide (wr (s+wr (k*v))≠c.rhs)).map cI)))],4⟩)
     (fun n=>n≤l.length) (fun n=>l.length-n) 0 (by simp) (fun _ _ h=>h) ?_)
    rintro n hn ih
    repeat(refine .A ?_;conv=>whnf)
    refine T.cd rfl (fun h5=> ?_) (fun h5=> ?_)
    ·have h5:n<l.length:=by simpa using h5
     have hfl:((l.take n).filter fun v=>decide (wr (s+wr (k*v))≠c.rhs)).length≤n:=by
      refine Nat.le_trans (List.length_filter_le _ _) ?_
      simp;omega
     have e:(l.take (n+1)).filter (fun v=>decide (wr (s+wr (k*v))≠c.rhs))=(l.take n).filter (fun v=>decide (wr (s+wr (k*v))≠c.rhs))++if wr (s+wr (k*l[n]))≠c.rhs then [l[n]]else []:=by
      rw[List.take_succ_eq_append_getElem h5,List.filter_append]
      congr 1
      by_cases hc:wr (s+wr (k*l[n]))=c.rhs
      ·simp[hc]
      ·simp[hc]
     repeat(refine .A ?_;conv=>whnf)
     refine .I (r:=cI k) hkr ?_
     repeat(refine .A ?_;conv=>whnf)
     refine J.io rfl rfl rfl rfl rfl rfl rfl rfl rfl (by omega) (by simpa using h5) rfl ?_
     refine J.lo rfl rfl rfl rfl rfl rfl (r:=cI l[n]) (row_i h5) rfl ?_
     repeat(refine .A ?_;conv=>whnf)
     refine T.cd rfl (fun h6=> ?_) (fun h6=> ?_)
     ·rw[if_pos h6]at e
      repeat(refine .A ?_;conv=>whnf)
      refine J.io rfl rfl rfl rfl rfl rfl rfl rfl rfl (by omega) (by simpa using h5) rfl ?_
      refine J.lo rfl rfl rfl rfl rfl rfl (r:=cI l[n]) (row_i h5) rfl ?_
      repeat(refine .A ?_;conv=>whnf)
      refine .V ?_
      refine J.aI rfl rfl rfl rfl rfl rfl rfl rfl rfl rfl rfl rfl rfl rfl rfl rfl rfl rfl rfl (by omega) ?_
      repeat(refine .A ?_;conv=>whnf)
      rw[wrap1 (l:=l.length) (by omega) (by omega),←e]
      exact T.K (ih (n+1) (by omega) (by omega))
     ·rw[if_neg h6,List.append_nil]at e
      repeat(refine .A ?_;conv=>whnf)
      rw[wrap1 (l:=l.length) (by omega) (by omega),←e]
      exact T.K (ih (n+1) (by omega) (by omega))
    ·have h5:n=l.length:=by simp at h5;omega
     subst h5
     rw[List.take_length]
     have hpk:=(pack_spec (l.filter fun v=>decide (wr (s+wr (k*v))≠c.rhs)) (fun v hv=>by
      have:=hvin2 v (List.mem_filter.1 hv).1
      omega) (by
      have:(l.filter fun v=>decide (wr (s+wr (k*v))≠c.rhs)).length≤l.length:=List.length_filter_le _ _
      omega)).frz
     repeat(refine .N ?_;conv=>whnf)
     refine T.rdw 10 rfl (by kernel_rfl) rfl ?_
     repeat' first|refine J.e rfl rfl rfl rfl ?_|refine J.skip rfl rfl rfl ?_|refine J.bx rfl rfl rfl rfl rfl rfl ?_
     refine .I (r:=cI v) hvr ?_
     repeat' first|refine J.e rfl rfl rfl rfl ?_|refine J.skip rfl rfl rfl ?_|refine J.bx rfl rfl rfl rfl rfl rfl ?_
     refine .C hpk ?_
     refine J.io rfl rfl rfl rfl rfl rfl rfl rfl rfl hv.1 (by simpa using hv.2) rfl ?_
     refine J.wd1 rfl rfl rfl rfl rfl rfl rfl rfl rfl rfl rfl (enc:=cD) (z:=pack (l.filter fun v=>decide (wr (s+wr (k*v))≠c.rhs))) (fun _=>rfl) hv.2 ?_
     refine J.nil ?_
     refine⟨rfl,?_⟩
     repeat(refine .A ?_;conv=>whnf)
     exact⟨_,.o rfl rfl rfl (fun _=> .inl rfl) (by simp) .nil⟩
def mostD (d:Doms)(c:Con):Doms:=mostRd d c.vars c.coefs c.rhs c.vars.length
def mostB (d:Doms)(c:Con):Doms:=mostRd d c.vars (turnedW c.coefs) (wr (0-c.rhs)) c.vars.length
def stepD (c:Con)(out:Doms):Option Doms ⊕ Doms:=
 if c.op=1∧[]∉out then
  (if []∈mostB out c then .inl none else if mostD (mostB out c) c=out then .inl (some out)else .inr (mostD (mostB out c) c))
 else .inl (if []∈out then none else some out)
def LinAnsR (d:Doms)(c:Con)(R:Option Doms)(N:Nat):Prop:=
 if []∈d then R=none else if c.op=2 then R=(if []∈rotherW d c then none else some (rotherW d c))else iter (stepD c) N (mostD d c)=some R
theorem rlprune_spec (d:Doms)(c:Con)(hv:c.vars.length=c.coefs.length)(hvl:c.vars.length*8≤140737488355328)(hck: ∀k∈c.coefs,CoefOk k)(hpos:0<c.vars.length)(hvin: ∀v∈c.vars,0≤v∧v.toNat<d.length)(hdl:d.length*24≤140737488355328)
  (hf: ∀x∈d,Fine x) (hother: ∀x∈rotherW d c,DomB x) (Inv:Doms→Prop) (hi1: ∀out,Inv out→(∀x∈out,DomB x)∧out.length=d.length) (hi2: ∀out,Inv out→Inv (mostD out c)∧Inv (mostB out c)) (h0:Inv d)
  (R:Option Doms) (N:Nat) (hR:LinAnsR d c R N):Spec Tryz.prog 36 false [doms d,.agg (cC c)] [.val (doms (R.getD [])),.val (.bool R.isSome)]:=by
 refine Spec.body Tryz.func36 rfl rfl rfl fun w0 Z0=> ?_
 unfold LinAnsR at hR
 have hsi: ∀out,Inv out→SumIn out c.vars c.coefs:=fun out hi=>⟨hv,hvl,fun v hm=>by rw[(hi1 out hi).2];exact hvin v hm,hck,(hi1 out hi).1,by rw[(hi1 out hi).2];exact hdl⟩
 have hsb: ∀out,Inv out→SumIn out c.vars (turnedW c.coefs):=fun out hi=>⟨by simp[turnedW,hv],hvl,fun v hm=>by rw[(hi1 out hi).2];exact hvin v hm,fun k hk=>by
  obtain⟨k0,hk0,rfl⟩:=List.mem_map.1 hk
  exact(turned_ok (hck _ hk0)).2,(hi1 out hi).1,by rw[(hi1 out hi).2];exact hdl⟩
 have hem: ∀out:Doms,out.length=d.length→Spec Tryz.prog 49 false [doms out] [.val (.bool (decide ([]∈out)))]:=fun out hl=>empty_spec out (by omega)
 have htold: ∀out:Doms,out.length=d.length→Spec Tryz.prog 85 true [doms out] ([doms (if []∈out then []else out),.bool (!decide ([]∈out))].map .val):=fun out hl=>told_spec out (by omega)
 repeat(refine .A ?_;conv=>whnf)
 refine .C (hem d rfl) ?_
 repeat(refine .A ?_;conv=>whnf)
 by_cases hm: []∈d
 ·rw[if_pos hm]at hR
  subst hR
  rw[decide_eq_true hm]
  refine T.ct rfl ?_
  repeat(refine .A ?_;conv=>whnf)
  exact⟨_,.v rfl rfl rfl (fun _=>rfl) (.v rfl rfl rfl (fun _=>rfl) .nil)⟩
 ·rw[if_neg hm]at hR
  rw[decide_eq_false hm]
  refine T.cf rfl ?_
  repeat(refine .A ?_;conv=>whnf)
  refine T.cd rfl (fun h1=> ?_) (fun h1=> ?_)
  ·have h1:c.op=2:=h1
   rw[if_pos h1]at hR
   have hne: ∀v∈c.vars,vals (domAt d v)≠[]:=fun v hvm e=>by
    have hmem:=domAt_mem (hvin v hvm).2
    have:=(vals_ne (hf _ hmem).ok).1 e
    rw[this]at hmem
    exact hm hmem
   have hro:=(rother_spec d c (hsi d h0) hpos hne).frz
   have hrl:(rotherW d c).length=d.length:=by
    unfold rotherW
    simp only
    split
    ·rfl
    ·split
     ·split<;>simp
     ·simp
   have htl:=htold _ hrl
   generalize rotherW d c=od at*
   repeat(refine .A ?_;conv=>whnf)
   refine .C hro ?_
   refine J.ct rfl rfl rfl rfl rfl htl rfl rfl ?_
   repeat(refine .A ?_;conv=>whnf)
   subst hR
   by_cases he: []∈od
   ·rw[if_pos he,decide_eq_true he]
    rw[if_pos he]
    exact⟨_,.v rfl rfl rfl (fun _=>rfl) (.v rfl rfl rfl (fun _=>rfl) .nil)⟩
   ·rw[if_neg he,decide_eq_false he]
    rw[if_neg he]
    exact⟨_,.v rfl rfl rfl (fun _=>rfl) (.v rfl rfl rfl (fun _=>rfl) .nil)⟩
  ·have h1: ¬c.op=2:=h1
   rw[if_neg h1]at hR
   repeat(refine .A ?_;conv=>whnf)
   refine .C (rmost_spec d c.vars c.coefs c.rhs (hsi d h0)).frz ?_
   repeat(refine .A ?_;conv=>whnf)
   have h0':=(hi2 d h0).1
   refine T.K (T.ind (fun s:Nat×Doms=>⟨[(3,.optr 0 0 0 0),(6,.val true (doms s.2))],[(0,some (.box false (cC c)))],1⟩)
    (fun s=>iter (stepD c) s.1 s.2=some R∧Inv s.2) (fun s=>s.1) (N,mostD d c) ⟨hR,h0'⟩ (fun _ _ h=>h) ?_)
   rintro⟨m,out⟩ ⟨hR,hi⟩ ih
   simp only at hR hi
   dsimp only
   obtain⟨hdb,hol⟩:=hi1 out hi
   have hm2:=(rmost_spec out c.vars (turnedW c.coefs) (wr (0-c.rhs)) (hsb out hi)).frz
   obtain⟨_,hib⟩:=hi2 out hi
   have hm1:=(rmost_spec (mostB out c) c.vars c.coefs c.rhs (hsi _ hib)).frz
   obtain⟨hid,_⟩:=hi2 _ hib
   have hbl:=(hi1 _ hib).2
   have hdl2:=(hi1 _ hid).2
   have hse:=sames_spec (mostD (mostB out c) c) out (by omega) (fun x hx=>by have:=((hi1 _ hid).1 x hx).2.2;omega)
   have hst:stepD c out=stepD c out:=rfl
   conv at hst=>rhs;unfold stepD
   have e1:mostRd out c.vars (turnedW c.coefs) (wr (0-c.rhs)) c.vars.length=mostB out c:=rfl
   have e2:mostRd (mostB out c) c.vars c.coefs c.rhs c.vars.length=mostD (mostB out c) c:=rfl
   rw[e1]at hm2
   rw[e2]at hm1
   generalize mostD (mostB out c) c=n2 at*
   generalize mostB out c=n1 at*
   have fin:c.op≠1∨[]∈out→R=if []∈out then none else some out:=fun h=>by
    rw[if_neg (by rintro⟨h2,h3⟩;exact h.elim (fun h=>h h2) h3)]at hst
    exact(iter_inl hR hst).symm
   repeat(refine .A ?_;conv=>whnf)
   refine J.g rfl rfl rfl (fun h2=> ?_) (fun h2=> ?_)
   ·have h2:c.op=1:=h2
    repeat(refine .A ?_;conv=>whnf)
    refine .C (hem out hol) ?_
    repeat(refine .A ?_;conv=>whnf)
    by_cases he: []∈out
    ·rw[decide_eq_true he]
     refine T.cf rfl ?_
     have hR2:=fin (.inr he)
     rw[if_pos he]at hR2
     subst hR2
     repeat(refine .A ?_;conv=>whnf)
     refine J.ct rfl rfl rfl rfl rfl (htold out hol) rfl rfl ?_
     rw[if_pos he,decide_eq_true he]
     repeat(refine .A ?_;conv=>whnf)
     exact⟨_,.v rfl rfl rfl (fun _=>rfl) (.v rfl rfl rfl (fun _=>rfl) .nil)⟩
    ·rw[decide_eq_false he]
     rw[if_pos ⟨h2,he⟩]at hst
     refine T.ct rfl ?_
     repeat(refine .A ?_;conv=>whnf)
     refine .C (rturned_spec c.coefs (by omega)) ?_
     repeat(refine .A ?_;conv=>whnf)
     refine .C hm2 ?_
     repeat(refine .A ?_;conv=>whnf)
     refine .C (hem n1 hbl) ?_
     repeat(refine .A ?_;conv=>whnf)
     by_cases he1: []∈n1
     ·rw[decide_eq_true he1]
      rw[if_pos he1]at hst
      obtain rfl:=iter_inl hR hst
      refine T.ct rfl ?_
      repeat(refine .A ?_;conv=>whnf)
      exact⟨_,.v rfl rfl rfl (fun _=>rfl) (.v rfl rfl rfl (fun _=>rfl) .nil)⟩
     ·rw[decide_eq_false he1]
      rw[if_neg he1]at hst
      refine T.cf rfl ?_
      repeat(refine .A ?_;conv=>whnf)
      refine .C hm1 ?_
      repeat(refine .A ?_;conv=>whnf)
      refine .C hse ?_
      repeat(refine .A ?_;conv=>whnf)
      by_cases hs:n2=out
      ·rw[decide_eq_true hs]
       rw[if_pos hs]at hst
       obtain rfl:=iter_inl hR hst
       refine T.ct rfl ?_
       repeat(refine .A ?_;conv=>whnf)
       exact⟨_,.v rfl rfl rfl (fun _=>rfl) (.v rfl rfl rfl (fun _=>rfl) .nil)⟩
      ·rw[decide_eq_false hs]
       rw[if_neg hs]at hst
       obtain⟨m',hlt,hR'⟩:=iter_inr hR hst
       refine T.cf rfl ?_
       repeat(refine .A ?_;conv=>whnf)
       exact T.K (ih (m',n2) ⟨hR',hid⟩ hlt)
   ·have h2: ¬c.op=1:=h2
    have hR2:=fin (.inl h2)
    repeat(refine .A ?_;conv=>whnf)
    refine T.cf rfl ?_
    repeat(refine .A ?_;conv=>whnf)
    refine J.ct rfl rfl rfl rfl rfl (htold out hol) rfl rfl ?_
    subst hR2
    by_cases he: []∈out
    ·rw[if_pos he,decide_eq_true he]
     rw[if_pos he]
     repeat(refine .A ?_;conv=>whnf)
     exact⟨_,.v rfl rfl rfl (fun _=>rfl) (.v rfl rfl rfl (fun _=>rfl) .nil)⟩
    ·rw[if_neg he,decide_eq_false he]
     rw[if_neg he]
     repeat(refine .A ?_;conv=>whnf)
     exact⟨_,.v rfl rfl rfl (fun _=>rfl) (.v rfl rfl rfl (fun _=>rfl) .nil)⟩
def soW (es:Int×Int×Bool)(c:Con):Bool:=
 if es.2.2=false then false else
 if c.op=0 then decide (es.2.1≤c.rhs)else
 if c.op=1 then decide (es.1=c.rhs)&&decide (es.2.1=c.rhs)else
 decide (c.rhs<es.1)||decide (es.2.1<c.rhs)
theorem lso_spec (d:Doms)(c:Con)(h:SumIn d c.vars c.coefs):Spec Tryz.prog 124 false [doms d,.agg (cC c)] [.val (.bool (soW (endsW d c.vars c.coefs) c))]:=by
 refine Spec.body Tryz.func124 rfl rfl rfl fun w0 Z0=> ?_
 have he:=lends_spec d c.vars c.coefs h
 generalize endsW d c.vars c.coefs=es at*
 obtain⟨lo,hi,b⟩:=es
 unfold soW
 simp only
 repeat(refine .A ?_;conv=>whnf)
 refine .C he ?_
 cases b
 ·repeat(refine .A ?_;conv=>whnf)
  refine T.ct rfl ?_
  repeat(refine .A ?_;conv=>whnf)
  exact⟨_,.v rfl rfl rfl (fun _=>rfl) .nil⟩
 ·rw[if_neg (by decide)]
  repeat(refine .A ?_;conv=>whnf)
  refine T.cf rfl ?_
  repeat(refine .A ?_;conv=>whnf)
  refine T.cd rfl (fun h1=> ?_) (fun h1=> ?_)
  ·have h1:c.op=0:=h1
   rw[if_pos h1]
   repeat(refine .A ?_;conv=>whnf)
   exact⟨_,.v rfl rfl rfl (fun _=>rfl) .nil⟩
  ·have h1: ¬c.op=0:=h1
   rw[if_neg h1]
   repeat(refine .A ?_;conv=>whnf)
   refine T.cd rfl (fun h2=> ?_) (fun h2=> ?_)
   ·have h2:c.op=1:=h2
    rw[if_pos h2]
    repeat(refine .A ?_;conv=>whnf)
    refine J.g rfl rfl rfl (fun h3=> ?_) (fun h3=> ?_)
    ·have h3:lo=c.rhs:=h3
     rw[decide_eq_true h3]
     repeat(refine .A ?_;conv=>whnf)
     exact⟨_,.v rfl rfl (by simp) (fun _=>rfl) .nil⟩
    ·have h3: ¬lo=c.rhs:=h3
     rw[decide_eq_false h3]
     repeat(refine .A ?_;conv=>whnf)
     exact⟨_,.v rfl rfl rfl (fun _=>rfl) .nil⟩
   ·have h2: ¬c.op=1:=h2
    rw[if_neg h2]
    repeat(refine .A ?_;conv=>whnf)
    refine J.g rfl rfl rfl (fun h3=> ?_) (fun h3=> ?_)
    ·have h3:c.rhs<lo:=h3
     rw[decide_eq_true h3]
     repeat(refine .A ?_;conv=>whnf)
     exact⟨_,.v rfl rfl rfl (fun _=>rfl) .nil⟩
    ·have h3: ¬c.rhs<lo:=h3
     rw[decide_eq_false h3]
     repeat(refine .A ?_;conv=>whnf)
     exact⟨_,.v rfl rfl (by simp) (fun _=>rfl) .nil⟩
theorem rso_spec (d:Doms)(c:Con)(h:SumIn d c.vars c.coefs):Spec Tryz.prog 136 false [doms d,.agg (cC c)] [.val (.bool (soW (endsRW d c.vars c.coefs) c))]:=by
 refine Spec.body Tryz.func136 rfl rfl rfl fun w0 Z0=> ?_
 have he:=rends_spec d c.vars c.coefs h
 generalize endsRW d c.vars c.coefs=es at*
 obtain⟨lo,hi,b⟩:=es
 unfold soW
 simp only
 repeat(refine .A ?_;conv=>whnf)
 refine .C he ?_
 repeat(refine .A ?_;conv=>whnf)
 refine T.cd rfl (fun h1=> ?_) (fun h1=> ?_)
 ·have h1:c.op=0:=h1
  rw[if_pos h1]
  cases b
  ·repeat(refine .A ?_;conv=>whnf)
   exact⟨_,.v rfl rfl rfl (fun _=>rfl) .nil⟩
  ·repeat(refine .A ?_;conv=>whnf)
   exact⟨_,.v rfl rfl rfl (fun _=>rfl) .nil⟩
 ·have h1: ¬c.op=0:=h1
  rw[if_neg h1]
  repeat(refine .A ?_;conv=>whnf)
  refine T.cd rfl (fun h2=> ?_) (fun h2=> ?_)
  ·have h2:c.op=1:=h2
   rw[if_pos h2]
   cases b
   ·repeat(refine .A ?_;conv=>whnf)
    exact⟨_,.v rfl rfl rfl (fun _=>rfl) .nil⟩
   ·rw[if_neg (by decide)]
    repeat(refine .A ?_;conv=>whnf)
    refine J.g rfl rfl rfl (fun h3=> ?_) (fun h3=> ?_)
    ·have h3:lo=c.rhs:=h3
     rw[decide_eq_true h3]
     repeat(refine .A ?_;conv=>whnf)
     exact⟨_,.v rfl rfl (by simp) (fun _=>rfl) .nil⟩
    ·have h3: ¬lo=c.rhs:=h3
     rw[decide_eq_false h3]
     repeat(refine .A ?_;conv=>whnf)
     exact⟨_,.v rfl rfl rfl (fun _=>rfl) .nil⟩
  ·have h2: ¬c.op=1:=h2
   rw[if_neg h2]
   cases b
   ·repeat(refine .A ?_;conv=>whnf)
    exact⟨_,.v rfl rfl rfl (fun _=>rfl) .nil⟩
   ·rw[if_neg (by decide)]
    repeat(refine .A ?_;conv=>whnf)
    refine J.g rfl rfl rfl (fun h3=> ?_) (fun h3=> ?_)
    ·have h3:c.rhs<lo:=h3
     rw[decide_eq_true h3]
     repeat(refine .A ?_;conv=>whnf)
     exact⟨_,.v rfl rfl rfl (fun _=>rfl) .nil⟩
    ·have h3: ¬c.rhs<lo:=h3
     rw[decide_eq_false h3]
     repeat(refine .A ?_;conv=>whnf)
     exact⟨_,.v rfl rfl (by simp) (fun _=>rfl) .nil⟩
def notW (c:Con):Con:=
 if c.op=0 then { c with coefs:=turnedW c.coefs,rhs:=wr (wr (0-c.rhs)-1) } else
 if c.op=1 then { c with op:=2 } else
 if c.op=2 then { c with op:=1 } else c
theorem lnot_spec (c:Con)(hc:ConB c):Spec Tryz.prog 76 true [.agg (cC c)] [.val (.agg (cC (notW c)))]:=by
 refine Spec.body Tryz.func76 rfl rfl rfl fun w0 Z0=> ?_
 obtain⟨kind,vars,coefs,op,rhs,rows,b⟩:=c
 obtain⟨h1,h2,h3,h4⟩:=hc
 simp only at h1 h2 h3 h4
 unfold notW
 simp only
 have hcv:=(clonei_spec vars (by omega)).frz
 have hcc:=(clonei_spec coefs h2).frz
 have htc:=(lturned_spec coefs h2).frz
 repeat(refine .A ?_;conv=>whnf)
 refine J.al rfl rfl rfl rfl rfl rfl rfl ?_
 repeat(refine .A ?_;conv=>whnf)
 refine .C hcv ?_
 repeat(refine .A ?_;conv=>whnf)
 refine J.w rfl rfl rfl rfl rfl rfl rfl rfl rfl rfl ?_
 repeat(refine .A ?_;conv=>whnf)
 refine T.cd rfl (fun h5=> ?_) (fun h5=> ?_)
 ·have h5:op=0:=h5
  rw[if_pos h5]
  refine T.seq ?_
  refine T.K (?_:T _ _ ⟨[(1,.optr 0 0 0 0),(2,.optr 1 0 0 0)],[(0,some (.box false (cC ⟨kind,vars,coefs,op,rhs,rows,b⟩))),(1,some (.box true (cC ⟨0,[],[],0,0,[],0⟩)))],2⟩ _)
  refine T.rdw 11 rfl (by kernel_rfl) rfl ?_
  repeat(refine .A ?_;conv=>whnf)
  refine .C htc ?_
  repeat(refine .A ?_;conv=>whnf)
  refine J.wd rfl rfl rfl rfl rfl rfl rfl rfl rfl rfl ?_
  repeat(refine .A ?_;conv=>whnf)
  refine J.wd rfl rfl rfl rfl rfl rfl rfl rfl rfl rfl ?_
  refine J.nil ?_
  refine⟨rfl,?_⟩
  repeat(refine .A ?_;conv=>whnf)
  refine J.w rfl rfl rfl rfl rfl rfl rfl rfl rfl rfl ?_
  repeat(refine .A ?_;conv=>whnf)
  exact⟨_,.c rfl rfl rfl rfl (fun h=>by cases h) .nil⟩
 ·have h5: ¬op=0:=h5
  rw[if_neg h5]
  repeat(refine .A ?_;conv=>whnf)
  refine T.cd rfl (fun h6=> ?_) (fun h6=> ?_)
  ·have h6:op=1:=h6
   rw[if_pos h6]
   repeat(refine .A ?_;conv=>whnf)
   refine J.w rfl rfl rfl rfl rfl rfl rfl rfl rfl rfl ?_
   repeat(refine .A ?_;conv=>whnf)
   refine .C hcc ?_
   repeat(refine .A ?_;conv=>whnf)
   refine J.w rfl rfl rfl rfl rfl rfl rfl rfl rfl rfl ?_
   repeat(refine .A ?_;conv=>whnf)
   refine J.w rfl rfl rfl rfl rfl rfl rfl rfl rfl rfl ?_
   repeat(refine .A ?_;conv=>whnf)
   exact⟨_,.c rfl rfl rfl rfl (fun h=>by cases h) .nil⟩
  ·have h6: ¬op=1:=h6
   rw[if_neg h6]
   repeat(refine .A ?_;conv=>whnf)
   refine T.cd rfl (fun h7=> ?_) (fun h7=> ?_)
   ·have h7:op=2:=h7
    rw[if_pos h7]
    repeat(refine .A ?_;conv=>whnf)
    refine J.w rfl rfl rfl rfl rfl rfl rfl rfl rfl rfl ?_
    repeat(refine .A ?_;conv=>whnf)
    refine .C hcc ?_
    repeat(refine .A ?_;conv=>whnf)
    refine J.w rfl rfl rfl rfl rfl rfl rfl rfl rfl rfl ?_
    repeat(refine .A ?_;conv=>whnf)
    refine J.w rfl rfl rfl rfl rfl rfl rfl rfl rfl rfl ?_
    repeat(refine .A ?_;conv=>whnf)
    exact⟨_,.c rfl rfl rfl rfl (fun h=>by cases h) .nil⟩
   ·have h7: ¬op=2:=h7
    rw[if_neg h7]
    repeat(refine .A ?_;conv=>whnf)
    refine .C hcc ?_
    repeat(refine .A ?_;conv=>whnf)
    refine J.w rfl rfl rfl rfl rfl rfl rfl rfl rfl rfl ?_
    repeat(refine .A ?_;conv=>whnf)
    refine J.w rfl rfl rfl rfl rfl rfl rfl rfl rfl rfl ?_
    repeat(refine .A ?_;conv=>whnf)
    exact⟨_,.c rfl rfl rfl rfl (fun h=>by cases h) .nil⟩
theorem rnot_spec (c:Con)(hc:ConB c):Spec Tryz.prog 95 true [.agg (cC c)] [.val (.agg (cC (notW c)))]:=by
 refine Spec.body Tryz.func95 rfl rfl rfl fun w0 Z0=> ?_
 obtain⟨kind,vars,coefs,op,rhs,rows,b⟩:=c
 obtain⟨h1,h2,h3,h4⟩:=hc
 simp only at h1 h2 h3 h4
 unfold notW
 simp only
 have htc:=(rturned_spec coefs h2).frz
 repeat(refine .A ?_;conv=>whnf)
 refine J.al rfl rfl rfl rfl rfl rfl rfl ?_
 repeat(refine .A ?_;conv=>whnf)
 refine J.al rfl rfl rfl rfl rfl rfl rfl ?_
 refine J.w rfl rfl rfl rfl rfl rfl rfl rfl rfl rfl ?_
 repeat(refine .A ?_;conv=>whnf)
 refine .O ?_
 repeat(refine .A ?_;conv=>whnf)
 refine J.a rfl rfl rfl rfl rfl rfl rfl rfl rfl rfl rfl rfl rfl rfl rfl rfl rfl len_I (by show(0+List.length _)*8≤_;simp;omega) ?_
 repeat(refine .A ?_;conv=>whnf)
 refine J.sub (Rel.frz (s:=8) (fun _ h=>h) rfl rfl) ?_
 refine J.w rfl rfl rfl rfl rfl rfl rfl rfl rfl rfl ?_
 repeat(refine .A ?_;conv=>whnf)
 refine .O ?_
 repeat(refine .A ?_;conv=>whnf)
 refine J.a rfl rfl rfl rfl rfl rfl rfl rfl rfl rfl rfl rfl rfl rfl rfl rfl rfl len_I (by show(0+List.length _)*8≤_;simp;omega) ?_
 repeat(refine .A ?_;conv=>whnf)
 refine J.sub (Rel.frz (s:=13) (fun _ h=>h) rfl rfl) ?_
 refine J.w rfl rfl rfl rfl rfl rfl rfl rfl rfl rfl ?_
 refine J.nil ?_
 refine T.K (?_:T _ _ ⟨[(1,.optr 0 0 0 0),(2,.optr 1 0 0 0),(3,.optr 2 0 0 0)],[(0,some (.box false (cC ⟨kind,vars,coefs,op,rhs,rows,b⟩))),(1,some (.box true (cC ⟨0,[],[],0,0,[],0⟩))),(2,some (.box false (cC ⟨kind,vars,coefs,op,rhs,rows,b⟩)))],3⟩ _)
 repeat(refine .A ?_;conv=>whnf)
 refine T.cd rfl (fun h5=> ?_) (fun h5=> ?_)
 ·have h5:op=0:=h5
  subst h5
  repeat(refine .A ?_;conv=>whnf)
  refine .C htc ?_
  repeat(refine .A ?_;conv=>whnf)
  refine J.w rfl rfl rfl rfl rfl rfl rfl rfl rfl rfl ?_
  repeat(refine .A ?_;conv=>whnf)
  refine J.w rfl rfl rfl rfl rfl rfl rfl rfl rfl rfl ?_
  repeat(refine .A ?_;conv=>whnf)
  refine T.cf rfl ?_
  repeat(refine .A ?_;conv=>whnf)
  refine T.cf rfl ?_
  repeat(refine .A ?_;conv=>whnf)
  refine J.w rfl rfl rfl rfl rfl rfl rfl rfl rfl rfl ?_
  repeat(refine .A ?_;conv=>whnf)
  exact⟨_,.c rfl rfl rfl rfl (fun h=>by cases h) .nil⟩
 ·have h5: ¬op=0:=h5
  rw[if_neg h5]
  repeat(refine .A ?_;conv=>whnf)
  refine T.cd rfl (fun h6=> ?_) (fun h6=> ?_)
  ·have h6:op=1:=h6
   subst h6
   repeat(refine .A ?_;conv=>whnf)
   refine J.w rfl rfl rfl rfl rfl rfl rfl rfl rfl rfl ?_
   repeat(refine .A ?_;conv=>whnf)
   refine T.cf rfl ?_
   repeat(refine .A ?_;conv=>whnf)
   refine J.w rfl rfl rfl rfl rfl rfl rfl rfl rfl rfl ?_
   repeat(refine .A ?_;conv=>whnf)
   exact⟨_,.c rfl rfl rfl rfl (fun h=>by cases h) .nil⟩
  ·have h6: ¬op=1:=h6
   rw[if_neg h6]
   repeat(refine .A ?_;conv=>whnf)
   refine T.cd rfl (fun h7=> ?_) (fun h7=> ?_)
   ·have h7:op=2:=h7
    rw[if_pos h7]
    repeat(refine .A ?_;conv=>whnf)
    refine J.w rfl rfl rfl rfl rfl rfl rfl rfl rfl rfl ?_
    repeat(refine .A ?_;conv=>whnf)
    refine J.w rfl rfl rfl rfl rfl rfl rfl rfl rfl rfl ?_
    repeat(refine .A ?_;conv=>whnf)
    exact⟨_,.c rfl rfl rfl rfl (fun h=>by cases h) .nil⟩
   ·have h7: ¬op=2:=h7
    rw[if_neg h7]
    repeat(refine .A ?_;conv=>whnf)
    refine J.w rfl rfl rfl rfl rfl rfl rfl rfl rfl rfl ?_
    repeat(refine .A ?_;conv=>whnf)
    exact⟨_,.c rfl rfl rfl rfl (fun h=>by cases h) .nil⟩
theorem notW_in {d:Doms}{c:Con}(h:SumIn d c.vars c.coefs):SumIn d (notW c).vars (notW c).coefs:=by
 unfold notW
 split
 ·obtain⟨a1,a2,a3,a4,a5,a6⟩:=h
  exact⟨by simp[turnedW,a1],a2,a3,fun k hk=>by
   obtain⟨k0,hk0,rfl⟩:=List.mem_map.1 hk
   exact(turned_ok (a4 _ hk0)).2,a5,a6⟩
 ·split
  ·exact h
  ·split<;>exact h
theorem lknown_spec (d:Doms)(c:Con)(hc:ConB c)(h:SumIn d c.vars c.coefs):Spec Tryz.prog 74 false [doms d,.agg (cC c)]
  [.val (.bool (soW (endsW d c.vars c.coefs) c)),.val (.bool (soW (endsW d c.vars c.coefs) c||soW (endsW d (notW c).vars (notW c).coefs) (notW c)))]:=by
 refine Spec.body Tryz.func74 rfl rfl rfl fun w0 Z0=> ?_
 have h1:=lso_spec d c h
 have h2:=lso_spec d (notW c) (notW_in h)
 have hn:=lnot_spec c hc
 generalize soW (endsW d c.vars c.coefs) c=b1 at*
 generalize soW (endsW d (notW c).vars (notW c).coefs) (notW c)=b2 at*
 repeat(refine .A ?_;conv=>whnf)
 refine .C h1 ?_
 cases b1
 ·refine J.nil ?_
  refine T.cf rfl ?_
  repeat(refine .A ?_;conv=>whnf)
  refine .C hn ?_
  refine .C h2 ?_
  repeat(refine .A ?_;conv=>whnf)
  exact⟨_,.v rfl rfl rfl (fun _=>rfl) (.v rfl rfl (by simp) (fun _=>rfl) .nil)⟩
 ·refine J.nil ?_
  refine T.ct rfl ?_
  repeat(refine .A ?_;conv=>whnf)
  exact⟨_,.v rfl rfl rfl (fun _=>rfl) (.v rfl rfl rfl (fun _=>rfl) .nil)⟩
theorem rknown_spec (d:Doms)(c:Con)(hc:ConB c)(h:SumIn d c.vars c.coefs):Spec Tryz.prog 93 false [doms d,.agg (cC c)]
  [.val (.bool (soW (endsRW d c.vars c.coefs) c)),.val (.bool (soW (endsRW d c.vars c.coefs) c||soW (endsRW d (notW c).vars (notW c).coefs) (notW c)))]:=by
 refine Spec.body Tryz.func93 rfl rfl rfl fun w0 Z0=> ?_
 have h1:=rso_spec d c h
 have h2:=rso_spec d (notW c) (notW_in h)
 have hn:=rnot_spec c hc
 generalize soW (endsRW d c.vars c.coefs) c=b1 at*
 generalize soW (endsRW d (notW c).vars (notW c).coefs) (notW c)=b2 at*
 repeat(refine .A ?_;conv=>whnf)
 refine .C h1 ?_
 repeat(refine .A ?_;conv=>whnf)
 refine .C hn ?_
 repeat(refine .A ?_;conv=>whnf)
 refine .C h2 ?_
 repeat' first|refine J.e rfl rfl rfl rfl ?_|refine J.skip rfl rfl rfl ?_|refine J.bx rfl rfl rfl rfl rfl rfl ?_
 refine J.nil ?_
 refine T.canon (keep:=[6,7]) (os:=[]) rfl ?_
 cases b1
 ·repeat(refine .A ?_;conv=>whnf)
  exact⟨_,.v rfl rfl rfl (fun _=>rfl) (.v rfl rfl (by simp) (fun _=>rfl) .nil)⟩
 ·repeat(refine .A ?_;conv=>whnf)
  exact⟨_,.v rfl rfl rfl (fun _=>rfl) (.v rfl rfl rfl (fun _=>rfl) .nil)⟩
theorem gown_spec (d:Doms)(hl:d.length*24≤140737488355328)(hx: ∀x∈d,x.length*16≤140737488355328):Spec Tryz.prog 72 false [doms d] [.own 45 1 ((if []∈d then []else d).map cD),.val (.bool (!decide ([]∈d)))]:=by
 refine Spec.body Tryz.func72 rfl rfl rfl fun w0 Z0=> ?_
 repeat(refine .A ?_;conv=>whnf)
 refine T.sub (Rel.own0 (s:=4) 45 1 rfl) ?_
 refine T.K (T.listI d (fun pre=>[]∉pre) (fun n pre post=>⟨[(4,.ref 0),(7,.val false (doms d)),(8,.val true (.int .i64 (d.map cD).length)),(9,.val true (.int .i64 n))],[(0,some (.sl 45 1 true (pre.map cD)))],1⟩) (fun _ _ h=>h) (by simp) ?_ ?_)
 ·rintro n pre x post h hn hi ih
  have hlt:=at_lt h hn
  have hxl:=hx x (by rw[h];simp)
  repeat(refine .A ?_;conv=>whnf)
  refine T.ct2 rfl (lt_at h hn) ?_
  repeat(refine .A ?_;conv=>whnf)
  refine .I (r:=cD x) (row_at h hn) ?_
  repeat(refine .A ?_;conv=>whnf)
  refine T.cd rfl (fun h1=> ?_) (fun h1=> ?_)
  ·have hx:x=[]:=by simp at h1;exact h1
   have hm: []∈d:=by rw[h,hx];simp
   rw[if_pos hm,decide_eq_true hm]
   repeat(refine .A ?_;conv=>whnf)
   exact⟨_,.ownN rfl (.v rfl rfl rfl (fun _=>rfl) .nil)⟩
  ·have hx:x≠[]:=fun e=>h1 (by rw[e];rfl)
   repeat(refine .A ?_;conv=>whnf)
   refine .C (clone_spec x (by omega)).frz ?_
   repeat(refine .A ?_;conv=>whnf)
   refine .V ?_
   repeat(refine .A ?_;conv=>whnf)
   refine J.aD rfl rfl rfl rfl rfl rfl rfl rfl rfl rfl rfl rfl rfl rfl rfl rfl rfl rfl rfl (by omega) ?_
   repeat(refine .A ?_;conv=>whnf)
   rw[wrap1 hlt (by omega)]
   exact T.K (ih (by simp[hi,Ne.symm hx]))
 ·intro hi
  repeat(refine .A ?_;conv=>whnf)
  refine T.cf2 rfl lt_end ?_
  repeat(refine .A ?_;conv=>whnf)
  exact⟨_,.o rfl rfl (by rw[if_neg hi]) (fun _=> .inl rfl) (by simp) (.v rfl rfl (by simp[hi]) (fun _=>rfl) .nil)⟩
theorem keep_spec (d:Doms)(v value:Int)(hv:0≤v∧v.toNat<d.length)(hl:((domAt d v).length+1)*16≤140737488355328):
  SpecM Tryz.prog 73 45 1 (d.map cD) [.int .i64 v,.int .i64 value] ((d.set v.toNat (domCut (domAt d v) value value)).map cD) [.bool (!decide (domCut (domAt d v) value value=[]))]:=by
 refine SpecM.body Tryz.func73 rfl rfl rfl (by simp[PV.flat]) fun w0 v0 Z1=> ?_
 have hrow:(d.map cD)[v.toNat]? =some (cD (domAt d v)):=by simp[domAt_some hv.2]
 have hc:=(domcut_spec (domAt d v) value value hl).frz
 have hrow2:((d.set v.toNat (domCut (domAt d v) value value)).map cD)[v.toNat]? =some (cD (domCut (domAt d v) value value)):=by simp[hv.2]
 have hb:decide ((((domCut (domAt d v) value value).map cR).length:Int) > 0)= !decide (domCut (domAt d v) value value=[]):=by
  cases domCut (domAt d v) value value<;>simp
 generalize domCut (domAt d v) value value=cx at*
 generalize domAt d v=x at*
 repeat(refine .A ?_;conv=>whnf)
 refine J.io rfl rfl rfl rfl rfl rfl rfl rfl rfl hv.1 (by simpa using hv.2) rfl ?_
 refine J.lo rfl rfl rfl rfl rfl rfl (r:=cD x) hrow rfl ?_
 repeat(refine .A ?_;conv=>whnf)
 refine .C hc ?_
 refine J.io rfl rfl rfl rfl rfl rfl rfl rfl rfl hv.1 (by simpa using hv.2) rfl ?_
 refine J.w1 rfl rfl rfl rfl rfl rfl rfl rfl rfl rfl rfl (fun _=>rfl) hv.2 ?_
 repeat(refine .A ?_;conv=>whnf)
 refine J.io rfl rfl rfl rfl rfl rfl rfl rfl rfl hv.1 (by simpa using hv.2) rfl ?_
 refine J.lo rfl rfl rfl rfl rfl rfl (r:=cD cx) hrow2 rfl ?_
 repeat(refine .A ?_;conv=>whnf)
 exact⟨.v rfl rfl (by rw[←hb]) (fun h=>by cases h) .nil,_,rfl,rfl⟩
def litW (k:Int):Int:=wr ((wr (k+1)).tdiv 2)
theorem lit_spec (k:Int):Spec Tryz.prog 77 false [.int .i64 k] [.val (.int .i64 (litW k))]:=by
 refine Spec.body Tryz.func77 rfl rfl rfl fun w0 Z0=> ?_
 repeat(refine .A ?_;conv=>whnf)
 exact⟨_,.v rfl rfl rfl (fun _=>rfl) .nil⟩
theorem has1_spec (r:Int×Int)(v:Int):Spec Tryz.prog 126 false [.agg (cR r),.ptr [.int .i64 v]] [.val (.bool (decide (r.1≤v)&&decide (v≤r.2)))]:=by
 refine Spec.body Tryz.func126 rfl rfl rfl fun w0 Z0=> ?_
 repeat(refine .A ?_;conv=>whnf)
 refine J.g rfl rfl rfl (fun h=> ?_) (fun h=> ?_)
 ·have h:r.1≤v:=by simpa using h
  rw[decide_eq_true h]
  repeat(refine .A ?_;conv=>whnf)
  exact⟨_,.v rfl rfl rfl (fun _=>rfl) .nil⟩
 ·have h: ¬r.1≤v:=by simpa using h
  rw[decide_eq_false h]
  repeat(refine .A ?_;conv=>whnf)
  exact⟨_,.v rfl rfl rfl (fun _=>rfl) .nil⟩
theorem find_at {α:Type}{p:α→Bool}{d pre post:List α}{x:α}{n:Nat}(h:d=pre++x::post)(hn:n=pre.length)(hi: ∀r∈pre,p r=false)(hx:p x=true):(if d.any p then(d.findIdx p:Int)else -1)=n:=by
 subst h hn
 have h1:(pre++x::post).any p=true:=by simp[hx]
 rw[if_pos h1,List.findIdx_append]
 have h2:pre.findIdx p=pre.length:=List.findIdx_eq_length.2 hi
 rw[h2,if_neg (by omega),List.findIdx_cons,hx]
 simp
theorem index_spec (f:FuncId)(caps:List PV)(p:Int×Int→Bool)(d:List (Int×Int))(hl:d.length*16≤140737488355328)(hf: ∀r,Spec Tryz.prog f false (.agg (cR r)::caps) [.val (.bool (p r))]):
  Spec Tryz.prog 150 false [dm d,.fn (.func f) [] caps] [.val (.int .i64 (if d.any p then d.findIdx p else -1))]:=by
 refine Spec.body Tryz.func150 rfl rfl rfl fun w0 Z0=> ?_
 repeat(refine .A ?_;conv=>whnf)
 refine T.K (T.listI d (fun pre=> ∀r∈pre,p r=false) (fun n pre post=>⟨[(0,.val false (dm d)),(1,.val false (.fn (.func f) [] caps)),(6,.val false (dm d)),(7,.val true (.int .i64 (d.map cR).length)),(8,.val true (.int .i64 n))],[],0⟩) (fun _ _ h=>h) (by simp) ?_ ?_)
 ·rintro n pre x post h hn hi ih
  have hlt:=at_lt h hn
  have hfx:=hf x
  repeat(refine .A ?_;conv=>whnf)
  refine T.ct2 rfl (lt_at h hn) ?_
  repeat(refine .A ?_;conv=>whnf)
  refine .I (r:=cR x) (row_at h hn) ?_
  repeat(refine .A ?_;conv=>whnf)
  refine .C hfx ?_
  repeat(refine .A ?_;conv=>whnf)
  cases hp:p x
  ·refine T.cf rfl ?_
   repeat(refine .A ?_;conv=>whnf)
   rw[wrap1 hlt (by omega)]
   exact T.K (ih (fun r hr=>by
    rcases List.mem_append.1 hr with h|h
    ·exact hi r h
    ·simp at h;subst h;exact hp))
  ·refine T.ct rfl ?_
   repeat(refine .A ?_;conv=>whnf)
   exact⟨_,.v rfl rfl (by rw[find_at h hn hi hp]) (fun _=>rfl) .nil⟩
 ·intro hi
  repeat(refine .A ?_;conv=>whnf)
  refine T.cf2 rfl lt_end ?_
  repeat(refine .A ?_;conv=>whnf)
  exact⟨_,.v rfl rfl (by rw[if_neg (by simpa using hi)]) (fun _=>rfl) .nil⟩
def hasV (d:List (Int×Int))(v:Int):Bool:=d.any fun r=>decide (r.1≤v)&&decide (v≤r.2)
theorem contains_spec (f:FuncId)(caps:List PV)(p:Int×Int→Bool)(d:List (Int×Int))(hl:d.length*16≤140737488355328)(hf: ∀r,Spec Tryz.prog f false (.agg (cR r)::caps) [.val (.bool (p r))]):
  Spec Tryz.prog 125 false [dm d,.fn (.func f) [] caps] [.val (.bool (d.any p))]:=by
 refine Spec.body Tryz.func125 rfl rfl rfl fun w0 Z0=> ?_
 repeat(refine .A ?_;conv=>whnf)
 refine .C (index_spec f caps p d hl hf) ?_
 repeat(refine .A ?_;conv=>whnf)
 refine⟨_,.v rfl rfl ?_ (fun _=>rfl) .nil⟩
 cases d.any p
 ·rfl
 ·show PV.bool (decide ((d.findIdx p:Int)≥0))=_
  rw[decide_eq_true (by omega)]
theorem dhas_spec (d:List (Int×Int))(v:Int)(hl:d.length*16≤140737488355328):Spec Tryz.prog 75 false [dm d,.int .i64 v] [.val (.bool (hasV d v))]:=by
 refine Spec.body Tryz.func75 rfl rfl rfl fun w0 Z0=> ?_
 repeat(refine .A ?_;conv=>whnf)
 refine J.sub (Rel.unbx (s:=3) (fun _ h=>h) rfl rfl) ?_
 refine J.sub (Rel.fp (s:=3) rfl) ?_
 repeat(refine .A ?_;conv=>whnf)
 refine J.cc rfl rfl rfl rfl rfl (contains_spec _ _ _ d hl fun r=>has1_spec r v) rfl rfl ?_
 repeat(refine .A ?_;conv=>whnf)
 exact⟨_,.v rfl rfl rfl (fun _=>rfl) .nil⟩
def keepO (d:Doms)(b v:Int):Option Doms:=if domCut (domAt d b) v v=[]then none else some (d.set b.toNat (domCut (domAt d b) v v))
def sumOf (c:Con):Con:=⟨0,c.vars,c.coefs,c.op,c.rhs,[],0⟩
def yesW (d:Doms)(c:Con):Bool:=soW (endsW d c.vars c.coefs) (sumOf c)
def noW (d:Doms)(c:Con):Bool:=soW (endsW d (notW (sumOf c)).vars (notW (sumOf c)).coefs) (notW (sumOf c))
def reifW (d:Doms)(c:Con)(RS RN:Option Doms):Option Doms:=
 if []∈d then none else
 if yesW d c then keepO d c.b 1 else
 if noW d c then keepO d c.b 0 else
 if hasV (domAt d c.b) 0=false then RS else
 if hasV (domAt d c.b) 1=false then RN else some d
theorem lreif_spec (d:Doms)(c:Con)(h:SumIn d c.vars c.coefs)(hcb:ConB (sumOf c))(hb:0≤c.b∧c.b.toNat<d.length)(hx: ∀x∈d,(x.length+1)*16≤140737488355328)(RS RN:Option Doms)
  (h1: []∉d→yesW d c=false→noW d c=false→hasV (domAt d c.b) 0=false→Spec Tryz.prog 35 false [doms d,.agg (cC (sumOf c))] (pruneRes RS)) (h2: []∉d→yesW d c=false→noW d c=false→hasV (domAt d c.b) 0=true→hasV (domAt d c.b) 1=false→Spec Tryz.prog 35 false [doms d,.agg (cC (notW (sumOf c)))] (pruneRes RN)):
  Spec Tryz.prog 32 false [doms d,.agg (cC c)] (pruneRes (reifW d c RS RN)):=by
 refine Spec.body Tryz.func32 rfl rfl rfl fun w0 Z0=> ?_
 have hown:=gown_spec d h.dl (fun x hm=>by have:=hx x hm;omega)
 have hkn:Spec Tryz.prog 74 false [doms d,.agg (cC (sumOf c))] [.val (.bool (yesW d c)),.val (.bool (yesW d c||noW d c))]:=lknown_spec d (sumOf c) hcb h
 have hnot:=lnot_spec (sumOf c) hcb
 have hrow:(d.map cD)[c.b.toNat]? =some (cD (domAt d c.b)):=by simp[domAt_some hb.2]
 have hxb:=hx _ (domAt_mem hb.2)
 have hh0:=dhas_spec (domAt d c.b) 0 (by omega)
 have hh1:=dhas_spec (domAt d c.b) 1 (by omega)
 have hk0:=keep_spec d c.b 0 hb hxb
 have hk1:=keep_spec d c.b 1 hb hxb
 unfold reifW
 unfold keepO
 generalize yesW d c=y at*
 generalize noW d c=z at*
 repeat(refine .A ?_;conv=>whnf)
 refine .C hown ?_
 repeat(refine .A ?_;conv=>whnf)
 by_cases hm: []∈d
 ·rw[if_pos hm,if_pos hm,decide_eq_true hm]
  refine T.ct rfl ?_
  repeat(refine .A ?_;conv=>whnf)
  exact⟨_,.ownN rfl (.v rfl rfl rfl (fun _=>rfl) .nil)⟩
 ·rw[if_neg hm,if_neg hm,decide_eq_false hm]
  have h1:=h1 hm
  have h2:=h2 hm
  refine T.cf rfl ?_
  repeat(refine .A ?_;conv=>whnf)
  refine J.al rfl rfl rfl rfl rfl rfl rfl ?_
  refine J.w rfl rfl rfl rfl rfl rfl rfl rfl rfl rfl ?_
  repeat(refine .A ?_;conv=>whnf)
  refine J.mf rfl rfl rfl rfl rfl rfl rfl ?_
  repeat(refine .A ?_;conv=>whnf)
  refine .C hkn ?_
  repeat(refine .A ?_;conv=>whnf)
  cases y
  ·rw[if_neg (by decide)]
   cases z
   ·rw[if_neg (by decide)]
    repeat(refine .A ?_;conv=>whnf)
    refine T.cf rfl ?_
    repeat(refine .A ?_;conv=>whnf)
    refine T.cf rfl ?_
    repeat(refine .A ?_;conv=>whnf)
    refine J.i rfl rfl rfl rfl rfl rfl rfl rfl rfl (r:=cD (domAt d c.b)) hb.1 hrow rfl ?_
    repeat(refine .A ?_;conv=>whnf)
    refine .C hh0 ?_
    generalize hasV (domAt d c.b) 0=e0 at*
    cases e0
    ·rw[if_pos rfl]
     repeat(refine .A ?_;conv=>whnf)
     refine T.ct rfl ?_
     repeat(refine .A ?_;conv=>whnf)
     refine .C (h1 rfl rfl rfl) ?_
     repeat(refine .A ?_;conv=>whnf)
     exact⟨_,.o rfl rfl rfl (fun _=> .inl rfl) (by simp) (.v rfl rfl rfl (fun _=>rfl) .nil)⟩
    ·rw[if_neg (by decide)]
     repeat(refine .A ?_;conv=>whnf)
     refine T.cf rfl ?_
     repeat(refine .A ?_;conv=>whnf)
     refine J.i rfl rfl rfl rfl rfl rfl rfl rfl rfl (r:=cD (domAt d c.b)) hb.1 hrow rfl ?_
     repeat(refine .A ?_;conv=>whnf)
     refine .C hh1 ?_
     generalize hasV (domAt d c.b) 1=e1 at*
     cases e1
     ·rw[if_pos rfl]
      repeat(refine .A ?_;conv=>whnf)
      refine T.ct rfl ?_
      repeat(refine .A ?_;conv=>whnf)
      refine .C hnot ?_
      repeat(refine .A ?_;conv=>whnf)
      refine .C (h2 rfl rfl rfl rfl) ?_
      repeat(refine .A ?_;conv=>whnf)
      exact⟨_,.o rfl rfl rfl (fun _=> .inl rfl) (by simp) (.v rfl rfl rfl (fun _=>rfl) .nil)⟩
     ·rw[if_neg (by decide)]
      repeat(refine .A ?_;conv=>whnf)
      refine T.cf rfl ?_
      repeat(refine .A ?_;conv=>whnf)
      refine T.cf rfl ?_
      repeat(refine .A ?_;conv=>whnf)
      exact⟨_,.o rfl rfl rfl (fun _=> .inl rfl) (by simp) (.v rfl rfl rfl (fun _=>rfl) .nil)⟩
   ·rw[if_pos rfl]
    repeat(refine .A ?_;conv=>whnf)
    refine T.cf rfl ?_
    repeat(refine .A ?_;conv=>whnf)
    refine T.ct rfl ?_
    repeat(refine .A ?_;conv=>whnf)
    refine J.cmf rfl rfl rfl rfl rfl rfl rfl hk0 rfl rfl rfl ?_
    repeat(refine .A ?_;conv=>whnf)
    by_cases hk:domCut (domAt d c.b) 0 0=[]
    ·rw[if_pos hk,decide_eq_true hk]
     refine T.ct rfl ?_
     repeat(refine .A ?_;conv=>whnf)
     exact⟨_,.ownN rfl (.v rfl rfl rfl (fun _=>rfl) .nil)⟩
    ·rw[if_neg hk,decide_eq_false hk]
     refine T.cf rfl ?_
     repeat(refine .A ?_;conv=>whnf)
     exact⟨_,.o rfl rfl rfl (fun _=> .inl rfl) (by simp) (.v rfl rfl rfl (fun _=>rfl) .nil)⟩
  ·rw[if_pos rfl]
   repeat(refine .A ?_;conv=>whnf)
   refine T.ct rfl ?_
   repeat(refine .A ?_;conv=>whnf)
   refine J.cmf rfl rfl rfl rfl rfl rfl rfl hk1 rfl rfl rfl ?_
   repeat(refine .A ?_;conv=>whnf)
   by_cases hk:domCut (domAt d c.b) 1 1=[]
   ·rw[if_pos hk,decide_eq_true hk]
    refine T.ct rfl ?_
    repeat(refine .A ?_;conv=>whnf)
    exact⟨_,.ownN rfl (.v rfl rfl rfl (fun _=>rfl) .nil)⟩
   ·rw[if_neg hk,decide_eq_false hk]
    refine T.cf rfl ?_
    repeat(refine .A ?_;conv=>whnf)
    exact⟨_,.o rfl rfl rfl (fun _=> .inl rfl) (by simp) (.v rfl rfl rfl (fun _=>rfl) .nil)⟩
def toldO (d:Doms):Option Doms:=if []∈d then none else some d
def reifR (d:Doms)(c:Con)(y z:Bool)(RS RN:Option Doms):Option Doms:=
 if []∈d then none else
 if y then toldO (d.set c.b.toNat (cutR (domAt d c.b) 1 1))else
 if z then toldO (d.set c.b.toNat (cutR (domAt d c.b) 0 0))else
 if vals (domAt d c.b)=[1]then RS else
 if vals (domAt d c.b)=[0]then RN else some d
theorem rreif_spec (d:Doms)(c:Con)(h:SumIn d c.vars c.coefs)(hcb:ConB (sumOf c))(hb:0≤c.b∧c.b.toNat<d.length)(y z:Bool)(hy:soW (endsRW d c.vars c.coefs) (sumOf c)=y)(hz:soW (endsRW d (notW (sumOf c)).vars (notW (sumOf c)).coefs) (notW (sumOf c))=z)(RS RN:Option Doms)
  (h1: []∉d→Spec Tryz.prog 36 false [doms d,.agg (cC (sumOf c))] [.val (doms (RS.getD [])),.val (.bool RS.isSome)]) (h2: []∉d→Spec Tryz.prog 36 false [doms d,.agg (cC (notW (sumOf c)))] [.val (doms (RN.getD [])),.val (.bool RN.isSome)]):
  Spec Tryz.prog 40 false [doms d,.agg (cC c)] [.val (doms ((reifR d c y z RS RN).getD [])),.val (.bool (reifR d c y z RS RN).isSome)]:=by
 refine Spec.body Tryz.func40 rfl rfl rfl fun w0 Z0=> ?_
 have hkn:Spec Tryz.prog 93 false [doms d,.agg (cC (sumOf c))] [.val (.bool y),.val (.bool (y||z))]:=by
  have:=rknown_spec d (sumOf c) hcb h
  rw[show endsRW d (sumOf c).vars (sumOf c).coefs=endsRW d c.vars c.coefs from rfl,hy,hz]at this
  exact this
 have hnot:=rnot_spec (sumOf c) hcb
 have hrow:(d.map cD)[c.b.toNat]? =some (cD (domAt d c.b)):=by simp[domAt_some hb.2]
 have hdb:=h.dom _ (domAt_mem hb.2)
 have hvl:=values_spec (domAt d c.b) hdb.1 (by have:=hdb.2.1;omega) hdb.2.2
 have hc0:=(cut_spec (domAt d c.b) 0 0 hdb).frz
 have hc1:=(cut_spec (domAt d c.b) 1 1 hdb).frz
 have ht: ∀x,Spec Tryz.prog 85 true [doms (d.set c.b.toNat x)] ([doms (if []∈d.set c.b.toNat x then []else d.set c.b.toNat x),.bool (!decide ([]∈d.set c.b.toNat x))].map .val):=fun x=>told_spec _ (by have:=h.dl;simp;omega)
 have hem:=empty_spec d (by have:=h.dl;omega)
 have hli:=lists_spec d h.dl fun x hx=>(h.dom x hx).2.2
 have hn1:=nums_spec (vals (domAt d c.b)) [1] (by have:=hdb.2.1;omega)
 have hn0:=nums_spec (vals (domAt d c.b)) [0] (by have:=hdb.2.1;omega)
 unfold reifR
 unfold toldO
 clear hy hz
 repeat(refine .A ?_;conv=>whnf)
 refine .C hem ?_
 repeat(refine .A ?_;conv=>whnf)
 by_cases hm: []∈d
 ·rw[if_pos hm,decide_eq_true hm]
  refine T.ct rfl ?_
  repeat(refine .A ?_;conv=>whnf)
  exact⟨_,.v rfl rfl rfl (fun _=>rfl) (.v rfl rfl rfl (fun _=>rfl) .nil)⟩
 ·rw[if_neg hm,decide_eq_false hm]
  have h1:=h1 hm
  have h2:=h2 hm
  refine T.cf rfl ?_
  repeat(refine .A ?_;conv=>whnf)
  refine J.al rfl rfl rfl rfl rfl rfl rfl ?_
  refine J.w rfl rfl rfl rfl rfl rfl rfl rfl rfl rfl ?_
  repeat(refine .A ?_;conv=>whnf)
  refine .C hkn ?_
  repeat(refine .A ?_;conv=>whnf)
  refine J.i rfl rfl rfl rfl rfl rfl rfl rfl rfl (r:=cD (domAt d c.b)) hb.1 hrow rfl ?_
  repeat(refine .A ?_;conv=>whnf)
  refine .C hvl ?_
  repeat(refine .A ?_;conv=>whnf)
  cases y
  ·rw[if_neg (by decide)]
   cases z
   ·rw[if_neg (by decide)]
    repeat(refine .A ?_;conv=>whnf)
    refine T.cf rfl ?_
    repeat(refine .A ?_;conv=>whnf)
    refine .V ?_
    refine .C hn1 ?_
    repeat(refine .A ?_;conv=>whnf)
    by_cases e1:vals (domAt d c.b)=[1]
    ·rw[if_pos e1,decide_eq_true e1]
     refine T.ct rfl ?_
     repeat(refine .A ?_;conv=>whnf)
     refine .C h1 ?_
     repeat(refine .A ?_;conv=>whnf)
     exact⟨_,.v rfl rfl rfl (fun _=>rfl) (.v rfl rfl rfl (fun _=>rfl) .nil)⟩
    ·rw[if_neg e1,decide_eq_false e1]
     refine T.cf rfl ?_
     repeat(refine .A ?_;conv=>whnf)
     refine .V ?_
     refine .C hn0 ?_
     repeat(refine .A ?_;conv=>whnf)
     by_cases e0:vals (domAt d c.b)=[0]
     ·rw[if_pos e0,decide_eq_true e0]
      refine T.ct rfl ?_
      repeat(refine .A ?_;conv=>whnf)
      refine .C hnot ?_
      refine .C h2 ?_
      repeat(refine .A ?_;conv=>whnf)
      exact⟨_,.v rfl rfl rfl (fun _=>rfl) (.v rfl rfl rfl (fun _=>rfl) .nil)⟩
     ·rw[if_neg e0,decide_eq_false e0]
      refine T.cf rfl ?_
      repeat(refine .A ?_;conv=>whnf)
      refine .C hli ?_
      repeat' first|refine J.e rfl rfl rfl rfl ?_|refine J.skip rfl rfl rfl ?_|refine J.bx rfl rfl rfl rfl rfl rfl ?_
      refine J.sub (Rel.frz (s:=4) (fun _ h=>h) rfl rfl) ?_
      repeat(refine .A ?_;conv=>whnf)
      exact⟨_,.v rfl rfl rfl (fun _=>rfl) (.v rfl rfl rfl (fun _=>rfl) .nil)⟩
   ·rw[if_pos rfl]
    repeat(refine .A ?_;conv=>whnf)
    refine T.ct rfl ?_
    repeat(refine .A ?_;conv=>whnf)
    refine T.cf rfl ?_
    repeat(refine .A ?_;conv=>whnf)
    refine .C hli ?_
    repeat' first|refine J.e rfl rfl rfl rfl ?_|refine J.skip rfl rfl rfl ?_|refine J.bx rfl rfl rfl rfl rfl rfl ?_
    refine J.nil ?_
    refine T.seq ?_
    refine T.rdw 13 rfl (by kernel_rfl) rfl ?_
    repeat' first|refine J.e rfl rfl rfl rfl ?_|refine J.skip rfl rfl rfl ?_|refine J.bx rfl rfl rfl rfl rfl rfl ?_
    refine J.i rfl rfl rfl rfl rfl rfl rfl rfl rfl (r:=cD (domAt d c.b)) hb.1 hrow rfl ?_
    repeat' first|refine J.e rfl rfl rfl rfl ?_|refine J.skip rfl rfl rfl ?_|refine J.bx rfl rfl rfl rfl rfl rfl ?_
    refine .C hc0 ?_
    refine J.io rfl rfl rfl rfl rfl rfl rfl rfl rfl hb.1 (by simpa using hb.2) rfl ?_
    refine J.wd1 rfl rfl rfl rfl rfl rfl rfl rfl rfl rfl rfl (enc:=cD) (z:=cutR (domAt d c.b) 0 0) (fun _=>rfl) hb.2 ?_
    refine J.nil ?_
    refine⟨rfl,?_⟩
    refine J.nil ?_
    refine T.sub (Rel.frz (s:=11) (fun _ h=>h) rfl rfl) ?_
    repeat(refine .A ?_;conv=>whnf)
    refine J.ct rfl rfl rfl rfl rfl (ht (cutR (domAt d c.b) 0 0)) rfl rfl ?_
    repeat(refine .A ?_;conv=>whnf)
    by_cases hk: []∈d.set c.b.toNat (cutR (domAt d c.b) 0 0)
    ·rw[if_pos hk,if_pos hk,decide_eq_true hk]
     exact⟨_,.v rfl rfl rfl (fun _=>rfl) (.v rfl rfl rfl (fun _=>rfl) .nil)⟩
    ·rw[if_neg hk,if_neg hk,decide_eq_false hk]
     exact⟨_,.v rfl rfl rfl (fun _=>rfl) (.v rfl rfl rfl (fun _=>rfl) .nil)⟩
  ·rw[if_pos rfl]
   repeat(refine .A ?_;conv=>whnf)
   refine T.ct rfl ?_
   repeat(refine .A ?_;conv=>whnf)
   refine T.ct rfl ?_
   repeat(refine .A ?_;conv=>whnf)
   refine .C hli ?_
   repeat' first|refine J.e rfl rfl rfl rfl ?_|refine J.skip rfl rfl rfl ?_|refine J.bx rfl rfl rfl rfl rfl rfl ?_
   refine J.nil ?_
   refine T.seq ?_
   refine T.rdw 13 rfl (by kernel_rfl) rfl ?_
   repeat' first|refine J.e rfl rfl rfl rfl ?_|refine J.skip rfl rfl rfl ?_|refine J.bx rfl rfl rfl rfl rfl rfl ?_
   refine J.i rfl rfl rfl rfl rfl rfl rfl rfl rfl (r:=cD (domAt d c.b)) hb.1 hrow rfl ?_
   repeat' first|refine J.e rfl rfl rfl rfl ?_|refine J.skip rfl rfl rfl ?_|refine J.bx rfl rfl rfl rfl rfl rfl ?_
   refine .C hc1 ?_
   refine J.io rfl rfl rfl rfl rfl rfl rfl rfl rfl hb.1 (by simpa using hb.2) rfl ?_
   refine J.wd1 rfl rfl rfl rfl rfl rfl rfl rfl rfl rfl rfl (enc:=cD) (z:=cutR (domAt d c.b) 1 1) (fun _=>rfl) hb.2 ?_
   refine J.nil ?_
   refine⟨rfl,?_⟩
   refine J.nil ?_
   refine T.sub (Rel.frz (s:=11) (fun _ h=>h) rfl rfl) ?_
   repeat(refine .A ?_;conv=>whnf)
   refine J.ct rfl rfl rfl rfl rfl (ht (cutR (domAt d c.b) 1 1)) rfl rfl ?_
   repeat(refine .A ?_;conv=>whnf)
   by_cases hk: []∈d.set c.b.toNat (cutR (domAt d c.b) 1 1)
   ·rw[if_pos hk,if_pos hk,decide_eq_true hk]
    exact⟨_,.v rfl rfl rfl (fun _=>rfl) (.v rfl rfl rfl (fun _=>rfl) .nil)⟩
   ·rw[if_neg hk,if_neg hk,decide_eq_false hk]
    exact⟨_,.v rfl rfl rfl (fun _=>rfl) (.v rfl rfl rfl (fun _=>rfl) .nil)⟩
def fillW (n:Nat)(us t:List Int)(k:Nat):List Int:=((us.zip t).take k).foldl (fun a p=>a.set p.1.toNat p.2) (List.replicate n 0)
def keepsW (P:List Int→Bool)(m:Nat)(all:List (List Int)):List (List Int):=(List.range m).map fun k=>(all.filter P).map (·.getD k 0)
def putsW (d:Doms)(us:List Int)(ks:List (List Int))(k:Nat):Doms:=((us.zip ks).take k).foldl (fun o p=>o.set p.1.toNat (pack (sortU p.2))) d
def keptR (d:Doms)(us:List Int)(P:List Int→Bool):Option Doms:=
 if []∈d then none else toldO (putsW d us (keepsW P us.length (growR (us.map (domAt d)) us.length)) us.length)
theorem fillW_len (n:Nat)(us t:List Int)(k:Nat):(fillW n us t k).length=n:=by
 unfold fillW
 generalize (us.zip t).take k=l
 have: ∀(l:List (Int×Int)) (a:List Int),(l.foldl (fun a p=>a.set p.1.toNat p.2) a).length=a.length:=by
  intro l
  induction l with
  |nil=>simp
  |cons p l ih=>intro a;rw[List.foldl_cons,ih];simp
 rw[this];simp
theorem putsW_len (d:Doms)(us:List Int)(ks:List (List Int))(k:Nat):(putsW d us ks k).length=d.length:=by
 unfold putsW
 generalize (us.zip ks).take k=l
 have: ∀(l:List (Int×List Int)) (a:Doms),(l.foldl (fun o p=>o.set p.1.toNat (pack (sortU p.2))) a).length=a.length:=by
  intro l
  induction l with
  |nil=>simp
  |cons p l ih=>intro a;rw[List.foldl_cons,ih];simp
 rw[this]
theorem zip_take_succ {α β:Type}{l:List α}{m:List β}{k:Nat}(h1:k<l.length)(h2:k<m.length):(l.zip m).take (k+1)=(l.zip m).take k++[(l[k],m[k])]:=by
 rw[List.take_succ_eq_append_getElem (by simp;omega),List.getElem_zip]
theorem fillW_succ {n:Nat}{us t:List Int}{k:Nat}(h1:k<us.length)(h2:k<t.length):fillW n us t (k+1)=(fillW n us t k).set us[k].toNat t[k]:=by
 unfold fillW
 rw[zip_take_succ h1 h2,List.foldl_append];rfl
theorem putsW_succ {d:Doms}{us:List Int}{ks:List (List Int)}{k:Nat}(h1:k<us.length)(h2:k<ks.length):putsW d us ks (k+1)=(putsW d us ks k).set us[k].toNat (pack (sortU ks[k])):=by
 unfold putsW
 rw[zip_take_succ h1 h2,List.foldl_append];rfl
theorem at_sl {e:TypeId}{sz:Nat}{fr:Bool}{rows:List (List PV)}{i:Nat}{r:List PV}(h:rows[i]? =some r):(Own.sl e sz fr rows).at_ i 0 sz=some (fr,r):=by
 simp only[Own.at_,Nat.beq_refl,h,List.drop_zero]
theorem range_set {α:Type}{m k:Nat}(f:Nat→α)(x:α):((List.range m).map f).set k x=(List.range m).map fun j=>if j=k then x else f j:=by
 apply List.ext_getElem?
 intro i
 rw[List.getElem?_set,List.getElem?_map,List.getElem?_map]
 by_cases hi:i<m
 ·have hr:(List.range m)[i]? =some i:=by simp[hi]
  rw[hr]
  by_cases e:k=i
  ·subst e
   rw[if_pos rfl,if_pos (by simpa using hi)]
   simp
  ·rw[if_neg e]
   simp only[Option.map_some]
   rw[if_neg (Ne.symm e)]
 ·have hr:(List.range m)[i]? =none:=by simp;omega
  rw[hr]
  by_cases e:k=i
  ·subst e
   rw[if_pos rfl,if_neg (by simpa using hi)];rfl
  ·rw[if_neg e];rfl
def kpW (P:List Int→Bool)(all:List (List Int))(i k j:Nat):List Int:=((all.take i).filter P).map (·.getD j 0)++if j<k then [(all.getD i []).getD j 0]else []
theorem kpW_set {P:List Int→Bool}{all:List (List Int)}{i k m:Nat}:((List.range m).map fun j=>(kpW P all i k j).map cI).set k ((kpW P all i k k++[(all.getD i []).getD k 0]).map cI)=(List.range m).map fun j=>(kpW P all i (k+1) j).map cI:=by
 rw[range_set]
 refine List.map_congr_left fun j _=> ?_
 by_cases e:j=k
 ·subst e
  rw[if_pos rfl]
  simp[kpW]
 ·rw[if_neg e]
  have:(j<k+1)=(j<k):=by simp;omega
  simp only[kpW,this]
theorem kpW_next {P:List Int→Bool}{all:List (List Int)}{i m:Nat}(hi:i<all.length)(hp:P all[i]=true):((List.range m).map fun j=>(kpW P all i m j).map cI)=(List.range m).map fun j=>(kpW P all (i+1) 0 j).map cI:=by
 refine List.map_congr_left fun j hj=> ?_
 have hj:j<m:=List.mem_range.1 hj
 have e:all.getD i []=all[i]:=by rw[List.getD_eq_getElem?_getD,List.getElem?_eq_getElem hi];rfl
 simp only[kpW,hj,if_true,Nat.not_lt_zero,if_false,List.append_nil,e]
 rw[List.take_succ_eq_append_getElem hi,List.filter_append,List.filter_cons_of_pos hp]
 simp
theorem kpW_skip {P:List Int→Bool}{all:List (List Int)}{i m:Nat}(hi:i<all.length)(hp: ¬P all[i]=true):((List.range m).map fun j=>(kpW P all i 0 j).map cI)=(List.range m).map fun j=>(kpW P all (i+1) 0 j).map cI:=by
 refine List.map_congr_left fun j hj=> ?_
 simp only[kpW,Nat.not_lt_zero,if_false,List.append_nil]
 rw[List.take_succ_eq_append_getElem hi,List.filter_append,List.filter_cons_of_neg hp]
 simp
theorem kpW_len {P:List Int→Bool}{all:List (List Int)}{i k j:Nat}(hi:i≤all.length):(kpW P all i k j).length≤all.length+1:=by
 have h:((all.take i).filter P).length≤all.length:=Nat.le_trans (List.length_filter_le _ _) (by simp;omega)
 simp only[kpW,List.length_append,List.length_map]
 split<;>simp<;>omega
abbrev FamL:=List (Value×List (List PV))
def famE (p:Value×List (List PV)):List PV:=[.raw p.1]
theorem kept_spec (d:Doms)(c:Con)(us:List Int)(P:List Int→Bool)(hd: ∀x∈d,DomB x)(hdl:d.length*24≤140737488355328)(hul:us.length*24≤140737488355328)(hus: ∀u∈us,0≤u∧u.toNat<d.length)
  (hall: ∀m,m≤us.length→(growR (us.map (domAt d)) m).length*24+1048576≤140737488355328) (hin: ∀t∈growR (us.map (domAt d)) us.length,∀v∈t,-1048576≤v∧v≤1048576)
  (hh: ∀t∈growR (us.map (domAt d)) us.length,Spec Tryz.prog 54 false [.agg (cC c),ints (fillW d.length us t us.length)] [.val (.bool (P t))]):
  Spec Tryz.prog 91 false [doms d,.agg (cC c),ints us] [.val (doms ((keptR d us P).getD [])),.val (.bool (keptR d us P).isSome)]:=by
 refine Spec.body Tryz.func91 rfl rfl rfl fun w0 Z0=> ?_
 have hem:=empty_spec d (by omega)
 have hli:=lists_spec d hdl fun x hx=>(hd x hx).2.2
 have hgl:=growR_len (us.map (domAt d)) us.length
 have hgr:=grow_spec (us.map (domAt d)) (fun x hx=>by obtain⟨u,hu,rfl⟩:=List.mem_map.1 hx;exact hd _ (domAt_mem (hus u hu).2)) (by simp;omega) us.length (by simp) fun m hm=>by have:=hall m hm;omega
 have hbig:=hall us.length (Nat.le_refl _)
 unfold keptR
 clear hall
 generalize growR (us.map (domAt d)) us.length=all at*
 repeat(refine .A ?_;conv=>whnf)
 refine .C hem ?_
 repeat(refine .A ?_;conv=>whnf)
 by_cases hm: []∈d
 ·rw[if_pos hm,decide_eq_true hm]
  refine T.ct rfl ?_
  repeat(refine .A ?_;conv=>whnf)
  exact⟨_,.v rfl rfl rfl (fun _=>rfl) (.v rfl rfl rfl (fun _=>rfl) .nil)⟩
 rw[if_neg hm,decide_eq_false hm]
 refine T.cf rfl ?_
 repeat(refine .A ?_;conv=>whnf)
 refine .O ?_
 repeat(refine .A ?_;conv=>whnf)
 refine T.sub (Rel.wk (o:=1) rfl) ?_
 refine T.K (T.ind (fun i:Nat=>⟨[(0,.val false (doms d)),(2,.val false (ints us)),(4,.optr 0 0 0 0),(8,.ref 1),(9,.val true (.int .i64 i))],[(0,some (.box false (cC c))),(1,some (.sl 45 1 false (((us.take i).map (domAt d)).map cD)))],2⟩) (fun i=>i≤us.length) (fun i=>us.length-i) 0 (by simp) (fun _ _ h=>h) ?_)
 rintro i hi ih
 repeat(refine .A ?_;conv=>whnf)
 refine T.cd rfl (fun h1=> ?_) (fun h1=> ?_)
 ·have h1:i<us.length:=by simpa using h1
  have hu:=hus _ (List.getElem_mem h1)
  have hrow:(d.map cD)[us[i].toNat]? =some (cD (domAt d us[i])):=by simp[domAt_some hu.2]
  repeat(refine .A ?_;conv=>whnf)
  refine .I (r:=cI us[i]) (row_i h1) ?_
  repeat(refine .A ?_;conv=>whnf)
  refine J.i rfl rfl rfl rfl rfl rfl rfl rfl rfl (r:=cD (domAt d us[i])) hu.1 hrow rfl ?_
  repeat(refine .A ?_;conv=>whnf)
  refine .V ?_
  refine J.aD rfl rfl rfl rfl rfl rfl rfl rfl rfl rfl rfl rfl rfl rfl rfl rfl rfl rfl rfl (by simp;omega) ?_
  repeat(refine .A ?_;conv=>whnf)
  have e:(us.take i).map (domAt d)++[domAt d us[i]]=(us.take (i+1)).map (domAt d):=by rw[List.take_succ_eq_append_getElem h1,List.map_append];rfl
  rw[e,wrap1 (l:=us.length) (by omega) (by omega)]
  exact T.K (ih (i+1) (by omega) (by omega))
 have h1:i=us.length:=by simp at h1;omega
 subst h1
 rw[List.take_length]
 clear ih hi
 repeat(refine .A ?_;conv=>whnf)
 refine J.cc rfl rfl rfl rfl rfl hgr rfl (by simp[doms]) ?_
 repeat(refine .A ?_;conv=>whnf)
 refine J.ms (.raw (.slice none 0 0)) us.length rfl rfl rfl rfl rfl rfl rfl rfl rfl rfl rfl rfl rfl rfl (by simp) (by simp) (fun _ _=> .raw _ rfl) hul ?_
 repeat(refine .A ?_;conv=>whnf)
 refine T.sub (Rel.frz (s:=10) (fun _ h=>h) rfl rfl) ?_
 refine T.sub (fun a w h=>Rel.fam0 us.length 3 1 h) ?_
 refine T.nameO 9 4 rfl rfl fun U0=> ?_
 rw[show List.replicate us.length [PV.raw (.slice none 0 0)]=(List.replicate us.length ((.slice none 0 0:Value),([]:List (List PV)))).map famE from by simp[famE]]
 refine T.K (T.ind (fun s:Nat×Value×FamL=>⟨[(0,.val false (doms d)),(2,.val false (ints us)),(4,.optr 0 0 0 0),(9,.eq s.2.1 2),(10,.val true (lists all)),(11,.ref 1),(12,.val true (.int .i64 s.1))],[(0,some (.box false (cC c))),(1,some (.sl 24 1 true (s.2.2.map famE))),(2,some (.fam 3 1 true s.2.2))],3⟩)
  (fun s=>s.1≤all.length∧s.2.2.map (·.2)=(List.range us.length).map fun j=>(kpW P all s.1 0 j).map cI) (fun s=>all.length-s.1) (0,U0,List.replicate us.length (.slice none 0 0,[])) ⟨by simp,by simp[kpW,List.map_const']⟩ (fun _ _ h=>h) ?_)
 rintro⟨i,U,L⟩ ⟨hi,hL⟩ ih
 simp only at hi hL
 dsimp only
 repeat(refine .A ?_;conv=>whnf)
 refine T.cd rfl (fun h1=> ?_) (fun h1=> ?_)
 ·have h1:i<all.length:=by simpa using h1
  have hil:all[i].length=us.length:=hgl _ (List.getElem_mem h1)
  repeat(refine .A ?_;conv=>whnf)
  refine J.ms (B:=8) (.int .i64 0) d.length rfl rfl rfl rfl rfl rfl rfl rfl rfl rfl rfl rfl rfl rfl (by simp) (by simp) (fun _ _=> .int _ _) (by omega) ?_
  repeat(refine .A ?_;conv=>whnf)
  rw[show List.replicate d.length [PV.int .i64 0]=(fillW d.length us all[i] 0).map cI from by simp[fillW,cI]]
  refine T.K (T.ind (fun k:Nat=>⟨[(0,.val false (doms d)),(2,.val false (ints us)),(4,.optr 0 0 0 0),(9,.eq U 2),(10,.val true (lists all)),(11,.ref 1),(12,.val true (.int .i64 i)),(13,.ref 3),(14,.val true (.int .i64 k))],[(0,some (.box false (cC c))),(1,some (.sl 24 1 true (L.map famE))),(2,some (.fam 3 1 true L)),(3,some (.sl 3 1 true ((fillW d.length us all[i] k).map cI)))],4⟩) (fun k=>k≤us.length) (fun k=>us.length-k) 0 (by simp) (fun _ _ h=>h) ?_)
  rintro k hk ih2
  repeat(refine .A ?_;conv=>whnf)
  refine T.cd rfl (fun h2=> ?_) (fun h2=> ?_)
  ·have h2:k<us.length:=by simpa using h2
   have hu:=hus _ (List.getElem_mem h2)
   have h3:k<all[i].length:=by omega
   repeat(refine .A ?_;conv=>whnf)
   refine T.rdm 13 rfl (by kernel_rfl) rfl ?_
   repeat(refine .N ?_;conv=>whnf)
   refine .I (r:=cI us[k]) (row_i h2) ?_
   repeat(refine .N ?_;conv=>whnf)
   refine .I (r:=cL all[i]) (row_i h1) ?_
   repeat(refine .N ?_;conv=>whnf)
   refine .I (r:=cI all[i][k]) (row_i h3) ?_
   repeat(refine .N ?_;conv=>whnf)
   refine J.io rfl rfl rfl rfl rfl rfl rfl rfl rfl hu.1 (by simp[fillW_len];exact hu.2) rfl ?_
   repeat(refine .N ?_;conv=>whnf)
   refine J.w1 rfl rfl rfl rfl rfl rfl rfl rfl rfl rfl rfl (z:=all[i][k]) (fun _=>rfl) (by rw[fillW_len];exact hu.2) ?_
   repeat(refine .A ?_;conv=>whnf)
   rw[wrap1 (l:=us.length) (by omega) (by omega)]
   have:=ih2 (k+1) (by omega) (by omega)
   rw[fillW_succ h2 h3]at this
   exact T.K this
  have h2:k=us.length:=by simp at h2;omega
  subst h2
  clear ih2 hk
  repeat(refine .A ?_;conv=>whnf)
  refine J.cc rfl rfl rfl rfl rfl (hh _ (List.getElem_mem h1)) rfl rfl ?_
  repeat(refine .A ?_;conv=>whnf)
  by_cases hp:P all[i]=true
  ·rw[hp]
   refine T.ct rfl ?_
   repeat(refine .A ?_;conv=>whnf)
   refine T.K (T.ind (fun s:Nat×Value×FamL=>⟨[(0,.val false (doms d)),(2,.val false (ints us)),(4,.optr 0 0 0 0),(9,.eq s.2.1 2),(10,.val true (lists all)),(11,.ref 1),(12,.val true (.int .i64 i)),(15,.val true (.int .i64 s.1))],[(0,some (.box false (cC c))),(1,some (.sl 24 1 true (s.2.2.map famE))),(2,some (.fam 3 1 true s.2.2))],3⟩)
    (fun s=>s.1≤us.length∧s.2.2.map (·.2)=(List.range us.length).map fun j=>(kpW P all i s.1 j).map cI) (fun s=>us.length-s.1) (0,U,L) ⟨by simp,hL⟩ (fun _ _ h=>h) ?_)
   rintro⟨k,U2,L2⟩ ⟨hk,hL2⟩ ih2
   simp only at hk hL2
   dsimp only
   repeat(refine .A ?_;conv=>whnf)
   refine T.cd rfl (fun h2=> ?_) (fun h2=> ?_)
   ·have h2:k<us.length:=by simpa using h2
    have h3:k<all[i].length:=by omega
    have hLl:L2.length=us.length:=by have:=congrArg List.length hL2;simpa using this
    obtain⟨u,hk2⟩: ∃u,L2[k]? =some (u,(kpW P all i k k).map cI):=by
     have h4:(L2.map (·.2))[k]? =some ((kpW P all i k k).map cI):=by rw[hL2];simp[h2]
     rw[List.getElem?_map]at h4
     obtain⟨p,hp1,hp2⟩:=Option.map_eq_some_iff.1 h4
     exact⟨p.1,by rw[hp1,←hp2]⟩
    have hfe:(L2.map famE)[k]? =some [.raw u]:=by simp[famE,hk2]
    have hkl:=kpW_len (P:=P) (k:=k) (j:=k) (Nat.le_of_lt h1)
    repeat(refine .N ?_;conv=>whnf)
    refine T.sub (fun a w h=>Rel.split 13 k (q:=2) rfl rfl hk2 h) ?_
    refine T.rdw 16 rfl (by kernel_rfl) rfl ?_
    repeat(refine .N ?_;conv=>whnf)
    refine J.io rfl rfl rfl rfl rfl rfl rfl rfl rfl (by omega) (by simpa[hLl]using h2) rfl ?_
    refine J.lr 13 (q:=3) (u:=u) rfl rfl rfl rfl rfl (at_sl (e:=24) hfe) rfl rfl rfl ?_
    repeat(refine .N ?_;conv=>whnf)
    refine .I (r:=cL all[i]) (row_i h1) ?_
    repeat(refine .N ?_;conv=>whnf)
    refine .I (r:=cI all[i][k]) (row_i h3) ?_
    repeat(refine .N ?_;conv=>whnf)
    refine .V ?_
    refine J.ad rfl rfl rfl rfl rfl rfl rfl rfl rfl rfl rfl rfl rfl rfl rfl rfl rfl rfl (one_len rfl) (by show(List.length _+1)*8≤_;simp;omega) ?_
    refine J.io rfl rfl rfl rfl rfl rfl rfl rfl rfl (by omega) (by simpa[hLl]using h2) rfl ?_
    refine J.nil ⟨rfl,?_⟩
    refine J.name 14 (s:=95) rfl rfl rfl fun u'=> ?_
    refine J.sub (Rel.raw (s:=95) (g:=14) rfl (.inl rfl) rfl rfl rfl) ?_
    refine J.w1 (enc:=famE) (z:=(u',((kpW P all i k k)++[all[i][k]]).map cI)) rfl rfl rfl rfl rfl rfl rfl rfl rfl rfl rfl (fun _=>rfl) (by omega) ?_
    refine J.sub (fun a w h=>Rel.join k (g:=14) (q:=4) (n:=5) (rows:=((kpW P all i k k)++[all[i][k]]).map cI) rfl (by rw[List.map_append];rfl) rfl rfl h) ?_
    refine J.nil ?_
    refine T.nameO 9 6 rfl rfl fun U3=> ?_
    repeat(refine .A ?_;conv=>whnf)
    rw[wrap1 (l:=us.length) (by omega) (by omega),List.set_set]
    have e2:(all.getD i []).getD k 0=all[i][k]:=by
     rw[List.getD_eq_getElem?_getD,List.getD_eq_getElem?_getD,List.getElem?_eq_getElem h1]
     simp[h3]
    have:=ih2 (k+1,U3,L2.set k (u',((kpW P all i k k)++[all[i][k]]).map cI)) ⟨by omega,by rw[List.map_set,hL2,←kpW_set,e2]⟩ (by show _-_<_-_;omega)
    exact T.K this
   have h2:k=us.length:=by simp at h2;omega
   subst h2
   clear ih2 hk
   repeat(refine .A ?_;conv=>whnf)
   rw[wrap1 (l:=all.length) (by omega) (by omega)]
   exact T.K (ih (i+1,U2,L2) ⟨by omega,by rw[←kpW_next h1 hp];exact hL2⟩ (by show _-_<_-_;omega))
  ·rw[eq_false_of_ne_true hp]
   refine T.cf rfl ?_
   repeat(refine .A ?_;conv=>whnf)
   rw[wrap1 (l:=all.length) (by omega) (by omega)]
   exact T.K (ih (i+1,U,L) ⟨by omega,by rw[←kpW_skip h1 hp];exact hL⟩ (by show _-_<_-_;omega))
 have h1:i=all.length:=by simp at h1;omega
 subst h1
 clear ih hi
 have hks:(L.map fun p=>[PV.sl p.2])=(keepsW P us.length all).map cL:=by
  have e:(L.map fun p=>[PV.sl p.2])=(L.map (·.2)).map fun r=>[PV.sl r]:=by rw[List.map_map];rfl
  rw[e,hL,keepsW,List.map_map,List.map_map]
  refine List.map_congr_left fun j _=> ?_
  simp[kpW,cL,ints]
 refine T.sub (fun a w h=>Rel.meltF (qc:=1) (q:=2) (l:=L) (fun _ h=>h) rfl rfl rfl h) ?_
 rw[hks]
 have hkl:(keepsW P us.length all).length=us.length:=by simp[keepsW]
 have hkin: ∀l∈keepsW P us.length all,l.length≤all.length∧∀v∈l,-1048576≤v∧v≤1048576:=by
  intro l hl
  obtain⟨j,hj,rfl⟩:=List.mem_map.1 hl
  refine⟨by rw[List.length_map];exact List.length_filter_le _ _,fun v hv=> ?_⟩
  obtain⟨t,ht,rfl⟩:=List.mem_map.1 hv
  have ht:=(List.mem_filter.1 ht).1
  rw[List.getD_eq_getElem?_getD]
  cases hg:t[j]? with
  |none=>simp
  |some x=>simpa using hin t ht x (List.mem_of_getElem? hg)
 generalize keepsW P us.length all=ks at*
 refine T.sub (Rel.frz (s:=11) (fun _ h=>h) rfl rfl) ?_
 repeat(refine .A ?_;conv=>whnf)
 refine .C hli ?_
 repeat(refine .A ?_;conv=>whnf)
 refine T.K (T.ind (fun k:Nat=>⟨[(2,.val false (ints us)),(11,.val true (lists ks)),(16,.ref 0),(17,.val true (.int .i64 k))],[(0,some (.sl 45 1 true ((putsW d us ks k).map cD)))],1⟩) (fun k=>k≤us.length) (fun k=>us.length-k) 0 (by simp) (fun _ _ h=>h) ?_)
 rintro k hk ih2
 repeat(refine .A ?_;conv=>whnf)
 refine T.cd rfl (fun h2=> ?_) (fun h2=> ?_)
 ·have h2:k<us.length:=by simpa using h2
  have h3:k<ks.length:=by omega
  have hu:=hus _ (List.getElem_mem h2)
  have hki:=hkin _ (List.getElem_mem h3)
  have hso:=(sorted_spec ks[k] (by omega)).frz
  have hpa:=(pack_spec (sortU ks[k]) (fun v hv=>by have:=hki.2 v ((sortU_mem v _).1 hv);omega) (by have:=sortU_length ks[k];omega)).frz
  repeat(refine .A ?_;conv=>whnf)
  refine T.rdm 12 rfl (by kernel_rfl) rfl ?_
  repeat(refine .N ?_;conv=>whnf)
  refine .I (r:=cI us[k]) (row_i h2) ?_
  repeat(refine .N ?_;conv=>whnf)
  refine .I (r:=cL ks[k]) (row_i h3) ?_
  repeat(refine .N ?_;conv=>whnf)
  refine .C hso ?_
  repeat(refine .N ?_;conv=>whnf)
  refine .C hpa ?_
  repeat(refine .N ?_;conv=>whnf)
  refine J.io rfl rfl rfl rfl rfl rfl rfl rfl rfl hu.1 (by rw[List.length_map,putsW_len];exact hu.2) rfl ?_
  repeat(refine .N ?_;conv=>whnf)
  refine J.w1 rfl rfl rfl rfl rfl rfl rfl rfl rfl rfl rfl (z:=pack (sortU ks[k])) (fun _=>rfl) (by rw[putsW_len];exact hu.2) ?_
  repeat(refine .A ?_;conv=>whnf)
  rw[wrap1 (l:=us.length) (by omega) (by omega)]
  have:=ih2 (k+1) (by omega) (by omega)
  rw[putsW_succ h2 h3]at this
  exact T.K this
 have h2:k=us.length:=by simp at h2;omega
 subst h2
 have hto:=told_spec (putsW d us ks us.length) (by rw[putsW_len];omega)
 unfold toldO
 generalize putsW d us ks us.length=out at*
 repeat(refine .A ?_;conv=>whnf)
 refine J.sub (Rel.frz (s:=117) (fun _ h=>h) rfl rfl) ?_
 refine J.ct rfl rfl rfl rfl rfl hto rfl rfl ?_
 repeat(refine .A ?_;conv=>whnf)
 by_cases hn: []∈out
 ·rw[if_pos hn,if_pos hn,decide_eq_true hn]
  exact⟨_,.v rfl rfl rfl (fun _=>rfl) (.v rfl rfl rfl (fun _=>rfl) .nil)⟩
 ·rw[if_neg hn,if_neg hn,decide_eq_false hn]
  exact⟨_,.v rfl rfl rfl (fun _=>rfl) (.v rfl rfl rfl (fun _=>rfl) .nil)⟩
theorem bigGo_no: ∀(l:List Int) (room:Int),bigGo room l=false→(∀k∈l,absK k≤4398046511104)∧(0≤room→weightK l≤room)
 | [],room,h=>by simp[weightK]
 |x::l,room,h=>by
  rw[bigGo]at h
  split at h
  ·cases h
  ·rename_i h1
   split at h
   ·cases h
   ·rename_i h2
    obtain⟨h3,h4⟩:=bigGo_no l _ h
    have e:weightK (x::l)=absK x*1048576+weightK l:=by simp[weightK]
    have e2:max x (-x)=absK x:=rfl
    rw[e2]at h2 h4
    refine⟨fun k hk=> ?_,fun h0=> ?_⟩
    ·rcases List.mem_cons.1 hk with rfl|hk
     ·unfold absK;omega
     ·exact h3 k hk
    ·rw[e]
     have:=h4 (by omega)
     omega
structure SumOk (d:Doms)(c:Con):Prop where
 fine:SumFine d c.vars c.coefs
 nod:c.vars.Nodup
 pos:0<c.vars.length
 op:0≤c.op∧c.op≤2
 big:weightK c.coefs+absK c.rhs≤4611686018427388928
theorem big_no {c:Con}(h:bigR c.coefs c.rhs=false):(∀k∈c.coefs,absK k≤4398046511104)∧weightK c.coefs+absK c.rhs≤4611686018427387904:=by
 unfold bigR at h
 split at h
 ·cases h
 ·rename_i h1
  obtain⟨h2,h3⟩:=bigGo_no _ _ h
  have e:max c.rhs (-c.rhs)=absK c.rhs:=rfl
  rw[e]at h3
  refine⟨h2,?_⟩
  have:absK c.rhs≤4611686018427387904:=by unfold absK;omega
  have:=h3 (by omega)
  omega
theorem con_big {d:Doms}{c:Con}(h:conR d c=0):bigR c.coefs c.rhs=false:=by
 unfold conR at h
 cases hb:bigR c.coefs c.rhs with
 |false=>rfl
 |true=>
  rw[hb]at h
  split at h
  ·cases h
  ·split at h
   ·cases h
   ·split at h<;>cases h
theorem sum_in {d:Doms}{c:Con}(hc:ConB c)(h:conR d c=0)(hk:c.kind=0)(hf: ∀x∈d,Fine x)(hdl:d.length*24≤140737488355328):SumOk d c:=by
 obtain⟨hv,hr⟩:=con_in hc h
 obtain⟨h1,h2⟩:=big_no (con_big h)
 unfold rightR at hr
 rw[if_pos hk]at hr
 simp only[sumR,opR,Bool.and_eq_true,decide_eq_true_eq,Bool.not_eq_true',decide_eq_false_iff_not]at hr
 obtain⟨⟨⟨_,⟨⟨h4,h5⟩,h6⟩,h7⟩,h8⟩,_⟩:=hr
 exact⟨⟨h6,hv.1,hv.2,fun k hk=>⟨fun e=>h7 (e▸hk),h1 k hk⟩,hf,hdl⟩,h4,h5,h8,by omega⟩
theorem terms_ok {d:Doms}{vars coefs:List Int}(h:SumFine d vars coefs):TermsOk (termsOf d vars coefs):=by
 intro t ht
 obtain⟨p,hp,rfl⟩:=List.mem_map.1 ht
 obtain⟨h1,h2⟩:=List.of_mem_zip hp
 exact⟨h.dom _ (domAt_mem (h.vin _ h1).2),h.ck _ h2⟩
theorem terms_weight {d:Doms}{vars coefs:List Int}(h:vars.length=coefs.length):weightT (termsOf d vars coefs)=weightK coefs:=by
 unfold weightT termsOf
 rw[List.map_map]
 congr 1
 have:((fun x:List (Int×Int)×Int=>x.2)∘fun p:Int×Int=>(domAt d p.1,p.2))=fun p:Int×Int=>p.2:=rfl
 rw[this,List.map_snd_zip]
 omega
theorem weightK_pos: ∀l:List Int,0≤weightK l
 | []=>by simp[weightK]
 |k::l=>by
  have:=weightK_pos l
  have:=absK_pos k
  have e:weightK (k::l)=absK k*1048576+weightK l:=by simp[weightK]
  omega
theorem weightK_turned: ∀(l:List Int),(∀k∈l,CoefOk k)→weightK (turnedW l)=weightK l
 | [],_=>rfl
 |k::l,h=>by
  have e:=(turned_ok (h k (.head _))).1
  have ih:=weightK_turned l fun k hk=>h k (.tail _ hk)
  have e1:weightK (k::l)=absK k*1048576+weightK l:=by simp[weightK]
  have e2:weightK (turnedW (k::l))=absK (wr (0-k))*1048576+weightK (turnedW l):=by simp[weightK,turnedW]
  rw[e1,e2,ih,e]
  unfold absK
  omega
theorem so_same {d:Doms}{vars coefs:List Int}(h:SumFine d vars coefs)(hw:weightK coefs≤4611686018427388928):endsW d vars coefs=endsRW d vars coefs:=
 ends_same (terms_ok h) (by rw[terms_weight h.len];exact hw)
theorem floor_iff {a b v:Int}(hb:0<b)(h1: -9223372036854775000≤a)(h2:a≤9223372036854775000):(v≤floorW a b↔b*v≤a)∧-9223372036854775002≤floorW a b∧floorW a b≤9223372036854775002:=by
 have e:=Int.mul_tdiv_add_tmod a b
 have r1:=Int.tmod_lt_of_pos a hb
 have r2:=Int.lt_tmod_of_pos a hb
 have hq: -9223372036854775000≤a.tdiv b∧a.tdiv b≤9223372036854775000:=by
  have:=Int.natAbs_tdiv_le_natAbs a b
  omega
 unfold floorW
 generalize a.tdiv b=q at*
 generalize a.tmod b=r at*
 have key: ∀w:Int,v≤w→b*v≤b*w:=fun w h=>Int.mul_le_mul_of_nonneg_left h (by omega)
 have key2: ∀w:Int,w≤v→b*w≤b*v:=fun w h=>Int.mul_le_mul_of_nonneg_left h (by omega)
 by_cases hr:r<0
 ·rw[if_pos hr]
  simp only[wr]
  rw[wrap_id (n:=q) (by omega) (by omega),wrap_id (n:=q-1) (by omega) (by omega)]
  refine⟨⟨fun h=> ?_,fun h=> ?_⟩,by omega,by omega⟩
  ·have:=key _ h
   rw[Int.mul_sub,Int.mul_one]at this
   omega
  ·by_cases hv:v≤q-1
   ·exact hv
   ·have:=key2 q (by omega)
    omega
 ·rw[if_neg hr]
  simp only[wr]
  rw[wrap_id (n:=q) (by omega) (by omega)]
  refine⟨⟨fun h=> ?_,fun h=> ?_⟩,by omega,by omega⟩
  ·have:=key _ h
   omega
  ·by_cases hv:v≤q
   ·exact hv
   ·have:=key2 (q+1) (by omega)
    rw[Int.mul_add,Int.mul_one]at this
    omega
def cutP (x:List (Int×Int))(k rest:Int):List (Int×Int):=pack ((vals x).filter fun v=>decide (k*v≤rest))
theorem cutP_ok {x:List (Int×Int)}(h:DomOk x)(k rest:Int):DomOk (cutP x k rest)∧∀v,v∈vals (cutP x k rest)↔v∈vals x∧k*v≤rest:=by
 have hu:=filter_up (p:=fun v=>decide (k*v≤rest)) (vals_up h)
 refine⟨pack_ok hu,fun v=> ?_⟩
 unfold cutP
 rw[vals_pack hu,List.mem_filter]
 simp
theorem cutW_eq {x:List (Int×Int)}{k rest:Int}(h:Fine x)(hk:CoefOk k)(h1: -9223372036854775000≤rest)(h2:rest≤9223372036854775000):cutW x k rest=cutP x k rest:=by
 have hc:=coef_int hk
 obtain⟨p1,p2⟩:=cutP_ok h.ok k rest
 have q1:=(cutW_ok h.ok k rest).1
 refine dom_ext q1 p1 (up_ext (vals_up q1) (vals_up p1) fun v=> ?_)
 rw[p2]
 unfold cutW
 by_cases hp:0<k
 ·rw[if_pos hp,(domCut_ok h.ok _ _).2,(floor_iff hp h1 h2).1]
  constructor
  ·rintro⟨a,_,b⟩;exact⟨a,b⟩
  ·rintro⟨a,b⟩;exact⟨a,(h.val v a).1,b⟩
 ·rw[if_neg hp]
  have hn:0< -k:=by have:=hk.1;omega
  rw[(turned_ok hk).1,(domCut_ok h.ok _ _).2]
  obtain⟨f1,f2,f3⟩:=floor_iff (v:= -v) hn h1 h2
  rw[Int.neg_mul_neg]at f1
  simp only[wr]
  rw[wrap_id (by omega) (by omega),←f1]
  constructor
  ·rintro⟨a,b,_⟩;exact⟨a,by omega⟩
  ·rintro⟨a,b⟩;exact⟨a,by omega,(h.val v a).2⟩
def setAll:List (Int×List (Int×Int))→Doms→Doms
 | [],d=>d
 |p::ps,d=>setAll ps (d.set p.1.toNat p.2)
theorem setAll_len: ∀(ps:List (Int×List (Int×Int))) (d:Doms),(setAll ps d).length=d.length
 | [],d=>rfl
 |p::ps,d=>by rw[setAll,setAll_len ps,List.length_set]
theorem setAll_other: ∀(ps:List (Int×List (Int×Int))) (d:Doms) (i:Nat),(∀p∈ps,p.1.toNat≠i)→(setAll ps d)[i]? =d[i]?
 | [],d,i,_=>rfl
 |p::ps,d,i,h=>by
  rw[setAll,setAll_other ps _ i fun q hq=>h q (.tail _ hq),List.getElem?_set_ne (h p (.head _))]
def Apart (ps:List (Int×List (Int×Int))):Prop:=ps.Pairwise fun p q=>p.1.toNat≠q.1.toNat
theorem setAll_at: ∀{ps:List (Int×List (Int×Int))} {d:Doms},Apart ps→(∀p∈ps,p.1.toNat<d.length)→∀p∈ps,(setAll ps d)[p.1.toNat]? =some p.2
 |q::ps,d,ha,hl,p,hp=>by
  have h1:=List.pairwise_cons.1 ha
  rw[setAll]
  rcases List.mem_cons.1 hp with rfl|hp
  ·rw[setAll_other ps _ _ fun r hr=>Ne.symm (h1.1 r hr),List.getElem?_set_self (hl _ (.head _))]
  ·exact setAll_at h1.2 (fun r hr=>by rw[List.length_set];exact hl r (.tail _ hr)) p hp
theorem setAll_snoc: ∀(ps:List (Int×List (Int×Int))) (p:Int×List (Int×Int)) (d:Doms),setAll (ps++[p]) d=(setAll ps d).set p.1.toNat p.2
 | [],p,d=>rfl
 |q::ps,p,d=>by rw[List.cons_append,setAll,setAll,setAll_snoc ps]
theorem setAll_mem {ps:List (Int×List (Int×Int))}{d:Doms}(ha:Apart ps)(hl: ∀p∈ps,p.1.toNat<d.length){x:List (Int×Int)}:x∈setAll ps d→x∈d∨∃p∈ps,p.2=x:=by
 intro h
 obtain⟨i,hi⟩:=List.mem_iff_getElem?.1 h
 by_cases he: ∃p∈ps,p.1.toNat=i
 ·obtain⟨p,hp,rfl⟩:=he
  rw[setAll_at ha hl p hp]at hi
  exact .inr ⟨p,hp,Option.some.inj hi⟩
 ·rw[setAll_other ps d i fun p hp e=>he ⟨p,hp,e⟩]at hi
  exact .inl (List.mem_of_getElem? hi)
theorem setAll_has {ps:List (Int×List (Int×Int))}{d:Doms}(ha:Apart ps)(hl: ∀p∈ps,p.1.toNat<d.length){p}(hp:p∈ps):p.2∈setAll ps d:=List.mem_of_getElem? (setAll_at ha hl p hp)
theorem setAll_same {ps:List (Int×List (Int×Int))}{d:Doms}(ha:Apart ps)(hl: ∀p∈ps,p.1.toNat<d.length):setAll ps d=d↔∀p∈ps,p.2=domAt d p.1:=by
 constructor
 ·intro h p hp
  have:=setAll_at ha hl p hp
  rw[h,domAt_some (hl p hp)]at this
  exact(Option.some.inj this).symm
 ·intro h
  refine List.ext_getElem? fun i=> ?_
  by_cases he: ∃p∈ps,p.1.toNat=i
  ·obtain⟨p,hp,rfl⟩:=he
   rw[setAll_at ha hl p hp,domAt_some (hl p hp),h p hp]
  ·exact setAll_other ps d i fun p hp e=>he ⟨p,hp,e⟩
def cutAt (d:Doms)(low rhs:Int)(p:Int×Int):List (Int×Int):=cutP (domAt d p.1) p.2 (rhs-(low-lowE (domAt d p.1) p.2))
def cuts (d:Doms)(vars coefs:List Int)(rhs:Int):List (Int×List (Int×Int)):=(vars.zip coefs).map fun p=>(p.1,cutAt d (lowS (termsOf d vars coefs)) rhs p)
def MO (d:Doms)(vars coefs:List Int)(rhs:Int):Doms:=setAll (cuts d vars coefs rhs) d
structure Whole (d:Doms)(vars coefs:List Int)(rhs:Int):Prop where
 fine:SumFine d vars coefs
 nod:vars.Nodup
 ne: []∉d
 big:weightK coefs+absK rhs≤4611686018427388928
theorem zip_apart: ∀{vars coefs:List Int},vars.Nodup→(∀v∈vars,0≤v)→(vars.zip coefs).Pairwise fun p q=>p.1.toNat≠q.1.toNat
 | [],_,_,_=>by simp
 |_::_,[],_,_=>by simp
 |v::vars,k::coefs,hn,h0=>by
  have h1:=List.nodup_cons.1 hn
  rw[List.zip_cons_cons]
  refine List.pairwise_cons.2 ⟨fun p hp=> ?_,zip_apart h1.2 fun v hv=>h0 v (.tail _ hv)⟩
  have hm:=(List.of_mem_zip hp).1
  have h2:=h0 _ (.head _)
  have h3:=h0 _ (.tail _ hm)
  intro e
  have:v=p.1:=by simp only at e;omega
  exact h1.1 (this▸hm)
theorem cuts_apart {d:Doms}{vars coefs:List Int}{rhs:Int}(h:Whole d vars coefs rhs):Apart (cuts d vars coefs rhs)∧∀p∈cuts d vars coefs rhs,p.1.toNat<d.length:=by
 constructor
 ·unfold Apart cuts
  rw[List.pairwise_map]
  exact zip_apart h.nod fun v hv=>(h.fine.vin v hv).1
 ·intro p hp
  obtain⟨q,hq,rfl⟩:=List.mem_map.1 hp
  exact(h.fine.vin _ (List.of_mem_zip hq).1).2
theorem terms_ne {d:Doms}{vars coefs:List Int}{rhs:Int}(h:Whole d vars coefs rhs): ∀t∈termsOf d vars coefs,t.1≠[]:=by
 intro t ht e
 obtain⟨p,hp,rfl⟩:=List.mem_map.1 ht
 have:=domAt_mem (h.fine.vin _ (List.of_mem_zip hp).1).2
 simp only at e
 rw[e]at this
 exact h.ne this
theorem lowS_mem: ∀{ts:List (List (Int×Int)×Int)},TermsOk ts→(∀t∈ts,t.1≠[])→∀t∈ts,-weightT ts≤lowS ts-lowE t.1 t.2∧lowS ts-lowE t.1 t.2≤weightT ts
 |t0::ts,h,hne,t,ht=>by
  have hs:=sums_in (ts:=ts) (fun t ht=>h t (.tail _ ht)) (fun t ht=>hne t (.tail _ ht))
  have e:lowS (t0::ts)=lowE t0.1 t0.2+lowS ts:=by simp[lowS]
  have hb:=lowE_in (h t0 (.head _)).1 (hne t0 (.head _)) t0.2
  have hp:=weightT_pos ts
  have ha:=absK_pos t0.2
  rw[weightT_cons,e]
  rcases List.mem_cons.1 ht with rfl|ht
  ·omega
  ·have:=lowS_mem (fun t ht=>h t (.tail _ ht)) (fun t ht=>hne t (.tail _ ht)) t ht
   omega
theorem rest_in {d:Doms}{vars coefs:List Int}{rhs:Int}(h:Whole d vars coefs rhs){p:Int×Int}(hp:p∈vars.zip coefs):
  -4611686018427388928≤lowS (termsOf d vars coefs)∧lowS (termsOf d vars coefs)≤4611686018427388928∧-4611686018427388928≤lowS (termsOf d vars coefs)-lowE (domAt d p.1) p.2∧lowS (termsOf d vars coefs)-lowE (domAt d p.1) p.2≤4611686018427388928∧
   -4611686018427388928≤rhs-(lowS (termsOf d vars coefs)-lowE (domAt d p.1) p.2)∧rhs-(lowS (termsOf d vars coefs)-lowE (domAt d p.1) p.2)≤4611686018427388928:=by
 have hs:=sums_in (terms_ok h.fine) (terms_ne h)
 have hm:=lowS_mem (terms_ok h.fine) (terms_ne h) (domAt d p.1,p.2) (List.mem_map.2 ⟨p,hp,rfl⟩)
 rw[terms_weight h.fine.len]at hs hm
 have hb:=h.big
 have ha:absK rhs=max rhs (-rhs):=rfl
 simp only at hm
 omega
theorem mostGo_eq {d:Doms}{vars coefs:List Int}{rhs:Int}(h:Whole d vars coefs rhs): ∀(l:List (Int×Int)) (d1:Doms) (ch:Bool),(∀p∈l,p∈vars.zip coefs)→l.Pairwise (fun p q=>p.1.toNat≠q.1.toNat)→(∀p∈l,domAt d1 p.1=domAt d p.1)→
  ((∃p∈l,cutAt d (lowS (termsOf d vars coefs)) rhs p=[])→(mostGo (lowS (termsOf d vars coefs)) rhs l d1 ch).2.2=false)∧
  ((∀p∈l,cutAt d (lowS (termsOf d vars coefs)) rhs p≠[])→mostGo (lowS (termsOf d vars coefs)) rhs l d1 ch=(setAll (l.map fun p=>(p.1,cutAt d (lowS (termsOf d vars coefs)) rhs p)) d1,ch||l.any (fun p=> !decide (cutAt d (lowS (termsOf d vars coefs)) rhs p=domAt d p.1)),true))
 | [],d1,ch,_,_,_=>by simp[mostGo,setAll]
 |(v,k)::l,d1,ch,hm,ha,hd=>by
  have hz:=hm _ (.head _)
  obtain⟨hv,hk⟩:=List.of_mem_zip hz
  have hx:=h.fine.dom _ (domAt_mem (h.fine.vin _ hv).2)
  have hne:domAt d v≠[]:=fun e=>h.ne (e▸domAt_mem (h.fine.vin _ hv).2)
  have hck:=h.fine.ck _ hk
  have hr:=rest_in h hz
  have ha1:=List.pairwise_cons.1 ha
  have e1:domAt d1 v=domAt d v:=hd _ (.head _)
  have e2:cutW (domAt d1 v) k (restW (lowS (termsOf d vars coefs)) rhs (domAt d1 v) k)=cutAt d (lowS (termsOf d vars coefs)) rhs (v,k):=by
   rw[e1]
   unfold restW cutAt
   rw[(endW_ok hx hne hck).1]
   simp only[wr]at hr⊢
   rw[wrap_id (n:=lowS (termsOf d vars coefs)-lowE (domAt d v) k) (by omega) (by omega),wrap_id (by omega) (by omega)]
   exact cutW_eq hx hck (by omega) (by omega)
  have hd2: ∀p∈l,domAt (d1.set v.toNat (cutAt d (lowS (termsOf d vars coefs)) rhs (v,k))) p.1=domAt d p.1:=by
   intro p hp
   rw[←hd p (.tail _ hp)]
   unfold domAt
   rw[List.getD_eq_getElem?_getD,List.getD_eq_getElem?_getD,List.getElem?_set_ne (ha1.1 p hp)]
  obtain⟨i1,i2⟩:=mostGo_eq h l (d1.set v.toNat (cutAt d (lowS (termsOf d vars coefs)) rhs (v,k))) (ch|| !decide (cutAt d (lowS (termsOf d vars coefs)) rhs (v,k)=domAt d v)) (fun p hp=>hm p (.tail _ hp)) ha1.2 hd2
  rw[mostGo,e2,e1]
  constructor
  ·rintro⟨p,hp,he⟩
   by_cases h0:cutAt d (lowS (termsOf d vars coefs)) rhs (v,k)=[]
   ·rw[if_pos h0]
   ·rw[if_neg h0]
    rcases List.mem_cons.1 hp with rfl|hp
    ·exact absurd he h0
    ·exact i1 ⟨p,hp,he⟩
  ·intro hall
   rw[if_neg (hall _ (.head _)),i2 fun p hp=>hall p (.tail _ hp)]
   simp only[List.map_cons,setAll,List.any_cons,Bool.or_assoc]
theorem mostW_eq {d:Doms}{vars coefs:List Int}{rhs:Int}(h:Whole d vars coefs rhs):
  ([]∈MO d vars coefs rhs→(mostW d vars coefs rhs).2.2=false)∧([]∉MO d vars coefs rhs→mostW d vars coefs rhs=(MO d vars coefs rhs,!decide (MO d vars coefs rhs=d),true)):=by
 obtain⟨ha,hl⟩:=cuts_apart h
 have hends:(endsW d vars coefs).1=lowS (termsOf d vars coefs):=by
  unfold endsW
  have hb:=h.big
  have hr:=absK_pos rhs
  have hw:=terms_weight (d:=d) h.fine.len
  rw[endsGo_ok 0 0 (terms_ok h.fine) (terms_ne h) (by omega) (by omega) (by omega) (by omega)]
  simp
 obtain⟨i1,i2⟩:=mostGo_eq h (vars.zip coefs) d false (fun p hp=>hp) (zip_apart h.nod fun v hv=>(h.fine.vin v hv).1) (fun p hp=>rfl)
 unfold mostW
 rw[hends]
 constructor
 ·intro hm
  rcases setAll_mem ha hl hm with hm|⟨p,hp,he⟩
  ·exact absurd hm h.ne
  ·obtain⟨q,hq,rfl⟩:=List.mem_map.1 hp
   exact i1 ⟨q,hq,he⟩
 ·intro hm
  have hall: ∀p∈vars.zip coefs,cutAt d (lowS (termsOf d vars coefs)) rhs p≠[]:=fun p hp e=>hm (by
   have:=setAll_has ha hl (List.mem_map.2 ⟨p,hp,rfl⟩:_∈cuts d vars coefs rhs)
   rw[show(p.1,cutAt d (lowS (termsOf d vars coefs)) rhs p).2=[]from e]at this
   exact this)
  rw[i2 hall]
  refine Prod.ext rfl (Prod.ext ?_ rfl)
  simp only[Bool.false_or]
  rw[Bool.eq_iff_iff,List.any_eq_true]
  simp only[Bool.not_eq_true',decide_eq_false_iff_not]
  have hss:=setAll_same ha hl
  constructor
  ·rintro⟨p,hp,hne⟩ e
   exact hne ((hss.1 e) _ (List.mem_map.2 ⟨p,hp,rfl⟩))
  ·intro hne
   refine Classical.byContradiction fun hno=>hne (hss.2 fun q hq=> ?_)
   obtain⟨p,hp,rfl⟩:=List.mem_map.1 hq
   exact Classical.byContradiction fun hn=>hno ⟨p,hp,hn⟩
theorem restRGo_eq {i:Nat}: ∀{ts:List (List (Int×Int)×Int)} (k:Nat) (n:Int),TermsOk ts→(∀t∈ts,t.1≠[])→-4611686018427388928≤n-weightT ts→n+weightT ts≤4611686018427388928→∀(hi:k≤i) (t:List (Int×Int)×Int),ts[i-k]? =some t→restRGo i k ts n=n+(lowS ts-lowE t.1 t.2)
 | [],k,n,_,_,_,_,_,t,ht=>by simp at ht
 |t0::ts,k,n,h,hne,h1,h2,hi,t,ht=>by
  have hf:=h t0 (.head _)
  have hx:=hne t0 (.head _)
  have e1:=endR_ok hf.1 hx hf.2
  have b:=lowE_in hf.1 hx t0.2
  have hp:=weightT_pos ts
  have ha:=absK_pos t0.2
  have hs:=sums_in (ts:=ts) (fun t ht=>h t (.tail _ ht)) (fun t ht=>hne t (.tail _ ht))
  rw[weightT_cons]at h1 h2
  have el:lowS (t0::ts)=lowE t0.1 t0.2+lowS ts:=by simp[lowS]
  rw[restRGo,el]
  by_cases hk:k=i
  ·subst hk
   rw[if_pos rfl]
   simp at ht
   subst ht
   have hrest: ∀(ts:List (List (Int×Int)×Int)) (j:Nat) (n:Int),k<j→TermsOk ts→(∀t∈ts,t.1≠[])→-4611686018427388928≤n-weightT ts→n+weightT ts≤4611686018427388928→restRGo k j ts n=n+lowS ts:=by
    intro ts
    induction ts with
    |nil=>intro j n _ _ _ _ _;simp[restRGo,lowS]
    |cons t1 ts ih=>
     intro j n hj h hne h1 h2
     have hf:=h t1 (.head _)
     have hx:=hne t1 (.head _)
     have e1:=endR_ok hf.1 hx hf.2
     have b:=lowE_in hf.1 hx t1.2
     have hp:=weightT_pos ts
     rw[weightT_cons]at h1 h2
     have el:lowS (t1::ts)=lowE t1.1 t1.2+lowS ts:=by simp[lowS]
     rw[restRGo,if_neg (by omega),e1]
     simp only[wr]
     rw[wrap_id (by omega) (by omega),ih (j+1) _ (by omega) (fun t ht=>h t (.tail _ ht)) (fun t ht=>hne t (.tail _ ht)) (by omega) (by omega),el]
     omega
   rw[hrest ts (k+1) n (by omega) (fun t ht=>h t (.tail _ ht)) (fun t ht=>hne t (.tail _ ht)) (by omega) (by omega)]
   omega
  ·rw[if_neg hk,e1]
   simp only[wr]
   rw[wrap_id (by omega) (by omega),restRGo_eq (k+1) _ (fun t ht=>h t (.tail _ ht)) (fun t ht=>hne t (.tail _ ht)) (by omega) (by omega) (by omega) t (by
    rw[show i-k=(i-(k+1))+1 by omega]at ht
    simpa using ht)]
   omega
theorem mostRd_eq {d:Doms}{vars coefs:List Int}{rhs:Int}(h:Whole d vars coefs rhs): ∀n,n≤vars.length→mostRd d vars coefs rhs n=setAll ((cuts d vars coefs rhs).take n) d
 |0,_=>by simp[mostRd,setAll]
 |n+1,hn=>by
  have h1:n<vars.length:=by omega
  have h2:n<coefs.length:=by have:=h.fine.len;omega
  have hz:n<(vars.zip coefs).length:=by simp;omega
  have hp:(vars.zip coefs)[n]∈vars.zip coefs:=List.getElem_mem hz
  have hcl:n<(cuts d vars coefs rhs).length:=by simp[cuts];omega
  have ec:(cuts d vars coefs rhs)[n]=(vars[n],cutAt d (lowS (termsOf d vars coefs)) rhs (vars[n],coefs[n])):=by simp[cuts]
  have hv:=h.fine.vin _ (List.getElem_mem h1)
  have hx:=h.fine.dom _ (domAt_mem hv.2)
  have hne:domAt d vars[n]≠[]:=fun e=>h.ne (e▸domAt_mem hv.2)
  have hck:=h.fine.ck _ (List.getElem_mem h2)
  have hzz:(vars[n],coefs[n])∈vars.zip coefs:=by
   have:=hp
   simpa using this
  have hr:=rest_in h hzz
  simp only at hr
  have hw:=terms_weight (d:=d) h.fine.len
  have hb:=h.big
  have har:=absK_pos rhs
  have hrest:restRGo n 0 (termsOf d vars coefs) 0=lowS (termsOf d vars coefs)-lowE (domAt d vars[n]) coefs[n]:=by
   have:=restRGo_eq (i:=n) 0 0 (terms_ok h.fine) (terms_ne h) (by omega) (by omega) (by omega) (domAt d vars[n],coefs[n]) (by
    rw[Nat.sub_zero]
    simp[termsOf,List.getElem?_eq_getElem hz])
   simp only at this
   omega
  have hat:mostRAt d vars coefs rhs n=cutAt d (lowS (termsOf d vars coefs)) rhs (vars[n],coefs[n]):=by
   unfold mostRAt cutAt cutP leftR
   rw[getD_at h1,getD_at h2,hrest]
   congr 1
   refine List.filter_congr fun v hv=> ?_
   have hvb:=hx.val v hv
   have hm:=mul_in coefs[n] v hvb.1 hvb.2
   have hc2:=hck.2
   have e1:wr (coefs[n]*v)=coefs[n]*v:=wrap_id (by omega) (by omega)
   have e2:wr (rhs-(lowS (termsOf d vars coefs)-lowE (domAt d vars[n]) coefs[n]))=rhs-(lowS (termsOf d vars coefs)-lowE (domAt d vars[n]) coefs[n]):=wrap_id (by omega) (by omega)
   exact decide_eq_decide.2 (by rw[e1,e2])
  rw[mostRd,mostRd_eq h n (by omega),getD_at h1,hat,List.take_succ_eq_append_getElem hcl,ec,setAll_snoc]
theorem mostR_eq {d:Doms}{vars coefs:List Int}{rhs:Int}(h:Whole d vars coefs rhs):mostRd d vars coefs rhs vars.length=MO d vars coefs rhs:=by
 rw[mostRd_eq h _ (Nat.le_refl _),List.take_of_length_le (by simp[cuts];omega)]
 rfl
def Sub (a b:Doms):Prop:=a.length=b.length∧∀(i:Nat) x y,a[i]? =some x→b[i]? =some y→∀v∈vals x,v∈vals y
theorem Sub.refl (a:Doms):Sub a a:=⟨rfl,fun i x y h1 h2 v hv=>by rw[h1]at h2;exact Option.some.inj h2▸hv⟩
theorem Sub.trans {a b c:Doms}(h:Sub a b)(k:Sub b c):Sub a c:=by
 refine⟨h.1.trans k.1,fun i x z hx hz v hv=> ?_⟩
 have hi:i<a.length:=(List.getElem?_eq_some_iff.1 hx).1
 have hi2:i<b.length:=by have:=h.1;omega
 have hy:b[i]? =some b[i]:=List.getElem?_eq_getElem hi2
 exact k.2 i _ z hy hz v (h.2 i x _ hx hy v hv)
theorem Sub.antisymm {a b:Doms}(h:Sub a b)(k:Sub b a)(ha: ∀x∈a,Fine x)(hb: ∀x∈b,Fine x):a=b:=by
 refine List.ext_getElem? fun i=> ?_
 by_cases hi:i<a.length
 ·have hi2:i<b.length:=by have:=h.1;omega
  have hx:a[i]? =some a[i]:=List.getElem?_eq_getElem hi
  have hy:b[i]? =some b[i]:=List.getElem?_eq_getElem hi2
  have fx:=(ha _ (List.getElem_mem hi)).ok
  have fy:=(hb _ (List.getElem_mem hi2)).ok
  rw[hx,hy]
  congr 1
  exact dom_ext fx fy (up_ext (vals_up fx) (vals_up fy) fun v=>⟨h.2 i _ _ hx hy v,k.2 i _ _ hy hx v⟩)
 ·rw[List.getElem?_eq_none (by omega),List.getElem?_eq_none (by have:=h.1;omega)]
theorem weight_lt: ∀{a b:Doms},Sub a b→(∀x∈a,Fine x)→(∀x∈b,Fine x)→weight a≤weight b∧(a≠b→weight a<weight b)
 | [],[],_,_,_=>⟨Nat.le_refl _,fun h=>absurd rfl h⟩
 | [],_::_,h,_,_=>by have:=h.1;simp at this
 |_::_,[],h,_,_=>by have:=h.1;simp at this
 |x::a,y::b,h,ha,hb=>by
  have h1:=sub_lt (hb y (.head _)).ok (ha x (.head _)).ok (h.2 0 x y rfl rfl)
  have h2:=weight_lt (a:=a) (b:=b) ⟨by have:=h.1;simpa using this,fun i z w hz hw=>h.2 (i+1) z w (by simpa using hz) (by simpa using hw)⟩ (fun z hz=>ha z (.tail _ hz)) (fun z hz=>hb z (.tail _ hz))
  simp only[weight,List.map_cons,List.sum_cons]at h2⊢
  refine⟨by omega,fun hne=> ?_⟩
  by_cases e:x=y
  ·have:a≠b:=fun e2=>hne (by rw[e,e2])
   have:=h2.2 this
   omega
  ·have:=h1.2 e
   omega
theorem cutAt_ok {d:Doms}{vars coefs:List Int}{rhs:Int}(h:Whole d vars coefs rhs){p:Int×Int}(hp:p∈vars.zip coefs)(low:Int):
  DomOk (cutAt d low rhs p)∧∀v,v∈vals (cutAt d low rhs p)↔v∈vals (domAt d p.1)∧p.2*v≤rhs-(low-lowE (domAt d p.1) p.2):=
 cutP_ok (h.fine.dom _ (domAt_mem (h.fine.vin _ (List.of_mem_zip hp).1).2)).ok _ _
theorem MO_ok {d:Doms}{vars coefs:List Int}{rhs:Int}(h:Whole d vars coefs rhs):(∀x∈MO d vars coefs rhs,Fine x)∧Sub (MO d vars coefs rhs) d:=by
 obtain⟨ha,hl⟩:=cuts_apart h
 refine⟨fun x hx=> ?_,setAll_len _ _,fun i x y hx hy v hv=> ?_⟩
 ·rcases setAll_mem ha hl hx with hm|⟨p,hp,rfl⟩
  ·exact h.fine.dom x hm
  ·obtain⟨q,hq,rfl⟩:=List.mem_map.1 hp
   obtain⟨c1,c2⟩:=cutAt_ok h hq (lowS (termsOf d vars coefs))
   exact(h.fine.dom _ (domAt_mem (h.fine.vin _ (List.of_mem_zip hq).1).2)).cut c1 fun v hv=>((c2 v).1 hv).1
 ·by_cases he: ∃p∈cuts d vars coefs rhs,p.1.toNat=i
  ·obtain⟨p,hp,rfl⟩:=he
   have e:=setAll_at ha hl p hp
   rw[show MO d vars coefs rhs=setAll (cuts d vars coefs rhs) d from rfl,e]at hx
   obtain rfl:=Option.some.inj hx
   rw[domAt_some (hl p hp)]at hy
   obtain rfl:=Option.some.inj hy
   obtain⟨q,hq,rfl⟩:=List.mem_map.1 hp
   exact(((cutAt_ok h hq (lowS (termsOf d vars coefs))).2 v).1 hv).1
  ·rw[show MO d vars coefs rhs=setAll (cuts d vars coefs rhs) d from rfl,setAll_other _ _ _ fun p hp e=>he ⟨p,hp,e⟩,hy]at hx
   exact Option.some.inj hx▸hv
theorem Whole.most {d:Doms}{vars coefs:List Int}{rhs:Int}(h:Whole d vars coefs rhs)(hne: []∉MO d vars coefs rhs):Whole (MO d vars coefs rhs) vars coefs rhs:=by
 obtain⟨h1,h2⟩:=MO_ok h
 exact⟨⟨h.fine.len,h.fine.vl,fun v hv=>by rw[h2.1];exact h.fine.vin v hv,h.fine.ck,h1,by rw[h2.1];exact h.fine.dl⟩,h.nod,hne,h.big⟩
theorem wr_neg {rhs:Int}(h:absK rhs≤4611686018427388928):wr (0-rhs)= -rhs∧absK (wr (0-rhs))=absK rhs:=by
 have e:wr (0-rhs)= -rhs:=by
  unfold absK at h
  rw[wr,wrap_id (by omega) (by omega)];omega
 refine⟨e,?_⟩
 rw[e]
 unfold absK
 omega
theorem Whole.back {d:Doms}{vars coefs:List Int}{rhs:Int}(h:Whole d vars coefs rhs):Whole d vars (turnedW coefs) (wr (0-rhs)):=by
 have hb:=h.big
 have hp:=weightK_pos coefs
 refine⟨h.fine.back,h.nod,h.ne,?_⟩
 rw[weightK_turned _ h.fine.ck,(wr_neg (by omega)).2]
 exact hb
theorem Whole.unback {d d2:Doms}{vars coefs:List Int}{rhs:Int}(h:Whole d vars coefs rhs)(h2:Whole d2 vars (turnedW coefs) (wr (0-rhs))):Whole d2 vars coefs rhs:=
 ⟨⟨h.fine.len,h.fine.vl,h2.fine.vin,h.fine.ck,h2.fine.dom,h2.fine.dl⟩,h.nod,h2.ne,h.big⟩
def M1 (c:Con)(d:Doms):Doms:=MO d c.vars c.coefs c.rhs
def M2 (c:Con)(d:Doms):Doms:=MO d c.vars (turnedW c.coefs) (wr (0-c.rhs))
def WholeC (c:Con)(d:Doms):Prop:=Whole d c.vars c.coefs c.rhs
theorem stepL_eq {c:Con}{d:Doms}(h:WholeC c d):stepL c d=
  if []∈M1 c d then .inl none else if c.op=0 then .inl (some (M1 c d))else if []∈M2 c (M1 c d)then .inl none else
  if M1 c d=d∧M2 c (M1 c d)=M1 c d then .inl (some (M2 c (M1 c d)))else .inr (M2 c (M1 c d)):=by
 obtain⟨a1,a2⟩:=mostW_eq h
 unfold stepL
 by_cases h1: []∈M1 c d
 ·rw[if_pos h1,if_pos (a1 h1)]
 ·have hw:WholeC c (M1 c d):=Whole.most h h1
  obtain⟨b1,b2⟩:=mostW_eq hw.back
  rw[if_neg h1,a2 h1]
  simp only[Bool.true_eq_false,if_false]
  by_cases h2:c.op=0
  ·rw[if_pos h2,if_pos h2]
   rfl
  ·rw[if_neg h2,if_neg h2]
   by_cases h3: []∈M2 c (M1 c d)
   ·have b1':(mostW (MO d c.vars c.coefs c.rhs) c.vars (turnedW c.coefs) (wr (0-c.rhs))).2.2=false:=b1 h3
    rw[if_pos h3,if_pos b1']
   ·have e:mostW (MO d c.vars c.coefs c.rhs) c.vars (turnedW c.coefs) (wr (0-c.rhs))=(M2 c (M1 c d),!decide (M2 c (M1 c d)=M1 c d),true):=b2 h3
    rw[if_neg h3,e]
    simp only[Bool.true_eq_false,if_false,Bool.not_eq_false',decide_eq_true_eq]
    rfl
theorem stepD_eq {c:Con}{d:Doms}(h: []∉d→WholeC c d):stepD c d=
  if c.op=1∧[]∉d then(if []∈M2 c d then .inl none else if M1 c (M2 c d)=d then .inl (some d)else .inr (M1 c (M2 c d)))else .inl (if []∈d then none else some d):=by
 unfold stepD
 by_cases h1:c.op=1∧[]∉d
 ·have hw:=h h1.2
  have e:mostB d c=M2 c d:=mostR_eq hw.back
  rw[if_pos h1,if_pos h1,e]
  by_cases h2: []∈M2 c d
  ·rw[if_pos h2,if_pos h2]
  ·have hw2:WholeC c (M2 c d):=hw.unback (Whole.most hw.back h2)
   have e2:mostD (M2 c d) c=M1 c (M2 c d):=mostR_eq hw2
   rw[if_neg h2,if_neg h2,e2]
 ·rw[if_neg h1,if_neg h1]
theorem lin_same {c:Con}(hop:c.op=1): ∀(N:Nat) (p:Doms) (R:Option Doms),WholeC c p→iter (stepL c) N p=some R→∃N',iter (stepD c) N' (M1 c p)=some R
 |0,p,R,_,h=>by cases h
 |n+1,p,R,hw,h=>by
  have hs:=stepL_eq hw
  obtain⟨f1,s1⟩:=MO_ok hw
  by_cases h1: []∈M1 c p
  ·rw[if_pos h1]at hs
   obtain rfl:=iter_inl h hs
   refine⟨1,?_⟩
   have e:=stepD_eq (c:=c) (d:=M1 c p) (fun hn=>absurd h1 hn)
   rw[if_neg (fun hh=>hh.2 h1),if_pos h1]at e
   simp only[iter,e]
  ·rw[if_neg h1,if_neg (by omega)]at hs
   have hw1:WholeC c (M1 c p):=Whole.most hw h1
   have hd:=stepD_eq (c:=c) (d:=M1 c p) (fun _=>hw1)
   rw[if_pos ⟨hop,h1⟩]at hd
   obtain⟨f2,s2⟩:=MO_ok hw1.back
   by_cases h2: []∈M2 c (M1 c p)
   ·rw[if_pos h2]at hs hd
    obtain rfl:=iter_inl h hs
    exact⟨1,by simp only[iter,hd]⟩
   ·rw[if_neg h2]at hs hd
    have hw2:WholeC c (M2 c (M1 c p)):=hw1.unback (Whole.most hw1.back h2)
    obtain⟨f3,s3⟩:=MO_ok hw2
    by_cases h3:M1 c p=p∧M2 c (M1 c p)=M1 c p
    ·rw[if_pos h3]at hs
     obtain rfl:=iter_inl h hs
     have e:M1 c (M2 c (M1 c p))=M1 c p:=by rw[h3.2,h3.1,h3.1]
     rw[if_pos e]at hd
     exact⟨1,by simp only[iter,hd,h3.2]⟩
    ·rw[if_neg h3]at hs
     simp only[iter,hs]at h
     by_cases h4:M1 c (M2 c (M1 c p))=M1 c p
     ·rw[if_pos h4]at hd
      have e1:M2 c (M1 c p)=M1 c p:=s2.antisymm (by have s3':=s3;rw[show MO (M2 c (M1 c p)) c.vars c.coefs c.rhs=M1 c p from h4]at s3';exact s3') f2 f1
      have e2:M1 c (M1 c p)=M1 c p:=by rw[e1]at h4;exact h4
      rw[e1]at h
      cases n with
      |zero=>cases h
      |succ n=>
       have hs2:=stepL_eq hw1
       rw[e2,if_neg h1,if_neg (by omega),e1,if_neg h1,if_pos ⟨rfl,rfl⟩]at hs2
       obtain rfl:=iter_inl h hs2
       exact⟨1,by simp only[iter,hd]⟩
     ·rw[if_neg h4]at hd
      obtain⟨N',hN⟩:=lin_same hop n _ R hw2 h
      exact⟨N'+1,by simp only[iter,hd];exact hN⟩
theorem lin_ex {c:Con}{p:Doms}(hw:WholeC c p): ∃N R,iter (stepL c) N p=some R:=by
 refine iter_ex (step:=stepL c) (fun x=>WholeC c x) weight (fun x y hx hy=> ?_) p hw
 rw[stepL_eq hx]at hy
 obtain⟨f1,s1⟩:=MO_ok hx
 by_cases h1: []∈M1 c x
 ·rw[if_pos h1]at hy;cases hy
 ·have hw1:WholeC c (M1 c x):=Whole.most hx h1
  obtain⟨f2,s2⟩:=MO_ok hw1.back
  rw[if_neg h1]at hy
  by_cases h2:c.op=0
  ·rw[if_pos h2]at hy;cases hy
  ·rw[if_neg h2]at hy
   by_cases h3: []∈M2 c (M1 c x)
   ·rw[if_pos h3]at hy;cases hy
   ·rw[if_neg h3]at hy
    by_cases h4:M1 c x=x∧M2 c (M1 c x)=M1 c x
    ·rw[if_pos h4]at hy;cases hy
    ·rw[if_neg h4]at hy
     obtain rfl:=Sum.inr.inj hy
     refine⟨hw1.unback (Whole.most hw1.back h3),?_⟩
     have w1:=weight_lt s1 f1 hx.fine.dom
     have w2:=weight_lt s2 f2 f1
     by_cases e1:M1 c x=x
     ·have e2:M2 c (M1 c x)≠M1 c x:=fun e2=>h4 ⟨e1,e2⟩
      have:=w2.2 e2
      have:=w1.1
      exact Nat.lt_of_lt_of_le (w2.2 e2) w1.1
     ·exact Nat.lt_of_le_of_lt w2.1 (w1.2 e1)
theorem rng_len (lo hi:Int):(rng lo hi).length=(hi+1-lo).toNat:=by simp[rng]
theorem sizeW_eq {d:List (Int×Int)}(h:Fine d):sizeW d=((vals d).length:Nat):=by
 have hb:=h.domB.1
 have hf:=h.few
 have hok:=h.ok
 have key: ∀(d:List (Int×Int)) (n:Nat),InB d→(∀r∈d,r.1≤r.2)→n+(vals d).length≤1000000000000000→d.foldl (fun n r=>wr (n+wr (wr (r.2-r.1)+1))) (n:Int)=((n+(vals d).length:Nat):Int):=by
  intro d
  induction d with
  |nil=>intro n _ _ _;simp[vals]
  |cons r d ih=>
   intro n hb ho hl
   have h1:=hb r (.head _)
   have h2:=ho r (.head _)
   rw[vals_cons,List.length_append,rng_len]at hl⊢
   rw[List.foldl_cons]
   have e:wr ((n:Int)+wr (wr (r.2-r.1)+1))=((n+(r.2+1-r.1).toNat:Nat):Int):=by
    simp only[wr]
    rw[wrap_id (n:=r.2-r.1) (by omega) (by omega),wrap_id (n:=r.2-r.1+1) (by omega) (by omega),wrap_id (by omega) (by omega)]
    omega
   rw[e,ih _ (fun r hr=>hb r (.tail _ hr)) (fun r hr=>ho r (.tail _ hr)) (by omega)]
   congr 1
   omega
 have:=key d 0 hb hok.1 (by omega)
 simpa[sizeW]using this
def piece (x:Int)(r:Int×Int):List (Int×Int):=if x<r.1∨r.2<x then [r]else(if r.1<x then [(r.1,x-1)]else [])++(if x<r.2 then [(x+1,r.2)]else [])
theorem minus_piece {a:List (Int×Int)}{x:Int}(ho: ∀r∈a,r.1≤r.2)(hx: -9000000000000000000≤x∧x≤9000000000000000000):minusW a [(x,x)]=a.flatMap (piece x):=by
 have key: ∀(a:List (Int×Int)) (out:List (Int×Int)),(∀r∈a,r.1≤r.2)→a.foldl (minusOne [(x,x)]) out=out++a.flatMap (piece x):=by
  intro a
  induction a with
  |nil=>intro out _;simp
  |cons r a ih=>
   intro out ho
   have h1:=ho r (.head _)
   have e:minusOne [(x,x)] out r=out++piece x r:=by
    unfold minusOne piece
    simp only[minusIn,wr]
    rw[wrap_id (n:=x+1) (by omega) (by omega),wrap_id (n:=x-1) (by omega) (by omega)]
    by_cases h2:x<r.1∨r.2<x
    ·rw[if_pos h2,if_pos h2]
     simp only
     rw[if_pos h1]
    ·rw[if_neg h2,if_neg h2]
     simp only
     by_cases h3:r.1<x<;>by_cases h4:x<r.2
     ·rw[if_pos (show x+1≤r.2 by omega),if_pos h3,if_pos h3,if_pos h4,List.append_assoc]
     ·rw[if_neg (show¬x+1≤r.2 by omega),if_pos h3,if_pos h3,if_neg h4,List.append_nil]
     ·rw[if_pos (show x+1≤r.2 by omega),if_neg h3,if_neg h3,if_pos h4,List.nil_append]
     ·rw[if_neg (show¬x+1≤r.2 by omega),if_neg h3,if_neg h3,if_neg h4];simp
   rw[List.foldl_cons,e,ih _ fun r hr=>ho r (.tail _ hr),List.flatMap_cons,List.append_assoc]
 unfold minusW
 rw[key a [] ho]
 rfl
theorem piece_in {x:Int}{r s:Int×Int}(h:r.1≤r.2)(hs:s∈piece x r):r.1≤s.1∧s.1≤s.2∧s.2≤r.2:=by
 unfold piece at hs
 split at hs
 ·simp only[List.mem_singleton]at hs;subst hs;omega
 ·rcases List.mem_append.1 hs with hs|hs
  ·split at hs
   ·simp only[List.mem_singleton]at hs;subst hs;simp only;omega
   ·cases hs
  ·split at hs
   ·simp only[List.mem_singleton]at hs;subst hs;simp only;omega
   ·cases hs
theorem piece_ok {a:List (Int×Int)}{x:Int}(h:DomOk a):DomOk (a.flatMap (piece x)):=by
 refine⟨fun s hs=> ?_,?_⟩
 ·obtain⟨r,hr,hs⟩:=List.mem_flatMap.1 hs
  exact(piece_in (h.1 r hr) hs).2.1
 ·induction a with
  |nil=>exact .nil
  |cons r a ih=>
   have hp:=List.pairwise_cons.1 h.2
   rw[List.flatMap_cons]
   refine List.pairwise_append.2 ⟨?_,ih h.tail,fun s hs t ht=> ?_⟩
   ·unfold piece
    split
    ·simp
    ·split<;>split<;>simp
     omega
   ·obtain⟨q,hq,ht⟩:=List.mem_flatMap.1 ht
    have h1:=piece_in (h.1 r (.head _)) hs
    have h2:=piece_in (h.1 q (.tail _ hq)) ht
    have:=hp.1 q hq
    omega
theorem piece_mem {x v:Int}{r:Int×Int}:(∃s∈piece x r,s.1≤v∧v≤s.2)↔r.1≤v∧v≤r.2∧v≠x:=by
 unfold piece
 constructor
 ·rintro⟨s,hs,h1,h2⟩
  split at hs
  ·simp only[List.mem_singleton]at hs;subst hs;omega
  ·rcases List.mem_append.1 hs with hs|hs
   ·split at hs
    ·simp only[List.mem_singleton]at hs;subst hs;simp only at h1 h2;omega
    ·cases hs
   ·split at hs
    ·simp only[List.mem_singleton]at hs;subst hs;simp only at h1 h2;omega
    ·cases hs
 ·rintro⟨h1,h2,h3⟩
  by_cases hc:x<r.1∨r.2<x
  ·rw[if_pos hc];exact⟨r,.head _,h1,h2⟩
  ·rw[if_neg hc]
   by_cases hv:v<x
   ·exact⟨(r.1,x-1),List.mem_append_left _ (by rw[if_pos (by omega)];exact .head _),h1,by simp only;omega⟩
   ·exact⟨(x+1,r.2),List.mem_append_right _ (by rw[if_pos (by omega)];exact .head _),by simp only;omega,h2⟩
theorem minus_ok {a:List (Int×Int)}{x:Int}(h:DomOk a)(hx: -9000000000000000000≤x∧x≤9000000000000000000):DomOk (minusW a [(x,x)])∧∀v,v∈vals (minusW a [(x,x)])↔v∈vals a∧v≠x:=by
 rw[minus_piece h.1 hx]
 refine⟨piece_ok h,fun v=> ?_⟩
 rw[mem_vals,mem_vals]
 constructor
 ·rintro⟨s,hs,h1⟩
  obtain⟨r,hr,hs⟩:=List.mem_flatMap.1 hs
  have:=piece_mem.1 ⟨s,hs,h1⟩
  exact⟨⟨r,hr,this.1,this.2.1⟩,this.2.2⟩
 ·rintro⟨⟨r,hr,h1,h2⟩,h3⟩
  obtain⟨s,hs,h4⟩:=piece_mem.2 ⟨h1,h2,h3⟩
  exact⟨s,List.mem_flatMap.2 ⟨r,hr,hs⟩,h4⟩
theorem one_val {x:List (Int×Int)}(h:Fine x)(hne:x≠[])(h1: ¬1<(vals x).length): ∃v,x=[(v,v)]∧vals x=[v]∧-1048576≤v∧v≤1048576:=by
 have hv:(vals x).length=1:=by
  have:vals x≠[]:=fun e=>hne ((vals_ne h.ok).1 e)
  cases hx:vals x with
  |nil=>exact absurd hx this
  |cons a l=>rw[hx]at h1;simp at h1⊢;exact h1
 obtain⟨v,rfl⟩:=(one_iff h.ok).1 hv
 have e:vals [(v,v)]=[v]:=by simp[vals,rng_self]
 have:=h.val v (by rw[e];exact .head _)
 exact⟨v,rfl,e,this⟩
theorem otherGo_same {B:Int}(hB:B≤4611686018427388928): ∀(ts:List (List (Int×Int)×Int)) (i:Nat) (op:Int) (s:Int) (m a:Nat),TermsOk ts→(∀t∈ts,t.1≠[])→-B≤s-weightT ts→s+weightT ts≤B→(op<0∧m=0∨0≤op∧m=1∧op=a∧-(B-1048576)≤s-weightT ts∧s+weightT ts≤B-1048576)→
  (otherGo i ts op s=none∧1<(rotherGo i ts m s a).1)∨∃s',-B≤s'∧s'≤B∧((∃op',op'<0∧otherGo i ts op s=some (op',s')∧∃a',rotherGo i ts m s a=(0,s',a'))∨∃a':Nat,-(B-1048576)≤s'∧s'≤B-1048576∧otherGo i ts op s=some ((a':Int),s')∧rotherGo i ts m s a=(1,s',a'))
 | [],i,op,s,m,a,_,_,h1,h2,hr=>by
  have e:weightT []=0:=by simp[weightT,weightK]
  rw[e]at h1 h2 hr
  refine .inr ⟨s,by omega,by omega,?_⟩
  rcases hr with ⟨ho,rfl⟩|⟨ho,rfl,rfl,h3,h4⟩
  ·exact .inl ⟨op,ho,rfl,a,rfl⟩
  ·exact .inr ⟨a,by omega,by omega,rfl,rfl⟩
 |t::ts,i,op,s,m,a,h,hne,h1,h2,hr=>by
  have hf:=h t (.head _)
  have hx:=hne t (.head _)
  have hp:=weightT_pos ts
  have ha:=absK_pos t.2
  rw[weightT_cons]at h1 h2 hr
  have hk1:1≤absK t.2:=by have:=hf.2.1;unfold absK;omega
  rw[otherGo,rotherGo,sizeW_eq hf.1]
  by_cases hc:1<(vals t.1).length
  ·rw[if_pos (show(1:Int)<((vals t.1).length:Nat)by omega),if_pos hc]
   rcases hr with ⟨ho,rfl⟩|⟨ho,rfl,rfl,h3,h4⟩
   ·rw[if_neg (by omega)]
    exact otherGo_same hB ts (i+1) i s 1 i (fun t ht=>h t (.tail _ ht)) (fun t ht=>hne t (.tail _ ht)) (by omega) (by omega) (.inr ⟨by omega,rfl,rfl,by omega,by omega⟩)
   ·rw[if_pos (by omega)]
    refine .inl ⟨rfl,?_⟩
    have mono: ∀(ts:List (List (Int×Int)×Int)) (i m:Nat) (s:Int) (a:Nat),m≤(rotherGo i ts m s a).1:=by
     intro ts
     induction ts with
     |nil=>intro i m s a;exact Nat.le_refl _
     |cons t ts ih=>
      intro i m s a
      rw[rotherGo]
      split
      ·exact Nat.le_trans (Nat.le_succ m) (ih _ _ _ _)
      ·exact ih _ _ _ _
    exact mono ts (i+1) 2 s i
  ·rw[if_neg (show¬(1:Int)<((vals t.1).length:Nat)by omega),if_neg hc]
   obtain⟨v,e1,e2,b1,b2⟩:=one_val hf.1 hx hc
   have hm:=mul_in t.2 v b1 b2
   have hck:=hf.2.2
   have el:(endW t.1 t.2 false).1=t.2*v:=by
    rw[(endW_ok hf.1 hx hf.2).1,e1]
    simp[lowE,leastR,lastR]
   have er:wr (t.2*hd0 (vals t.1))=t.2*v:=by
    rw[e2]
    simp only[hd0,wr,List.getD_cons_zero]
    rw[wrap_id (by omega) (by omega)]
   have es:wr (s+t.2*v)=s+t.2*v:=by rw[wr,wrap_id (by omega) (by omega)]
   rw[el,er,es]
   exact otherGo_same hB ts (i+1) op (s+t.2*v) m a (fun t ht=>h t (.tail _ ht)) (fun t ht=>hne t (.tail _ ht)) (by omega) (by omega) (hr.imp id fun⟨q1,q2,q3,q4,q5⟩=>⟨q1,q2,q3,by omega,by omega⟩)
theorem set_self {d:Doms}{v:Int}(h:v.toNat<d.length):d.set v.toNat (domAt d v)=d:=by
 refine List.ext_getElem? fun i=> ?_
 by_cases e:v.toNat=i
 ·subst e;rw[List.getElem?_set_self h,domAt_some h]
 ·rw[List.getElem?_set_ne e]
theorem set_empty {d:Doms}{i:Nat}{x:List (Int×Int)}(hi:i<d.length)(hne: []∉d): []∈d.set i x↔x=[]:=by
 constructor
 ·intro h
  rcases List.mem_or_eq_of_mem_set h with h|h
  ·exact absurd h hne
  ·exact h.symm
 ·rintro rfl
  exact List.mem_iff_getElem?.2 ⟨i,List.getElem?_set_self hi⟩
theorem pos_iff {α:Type}{l:List α}:0<l.length↔l≠[]:=by cases l<;>simp
theorem other_cut {x:List (Int×Int)}{k s rhs:Int}(hx:Fine x)(hk:CoefOk k)(h1: -4611686018426340352≤s∧s≤4611686018426340352)(h2: -4611686018427388928≤rhs-s∧rhs-s≤4611686018427388928):
  ((wr (rhs-s)).tmod k=0→minusW x [(wr ((wr (rhs-s)).tdiv k),wr ((wr (rhs-s)).tdiv k))]=pack ((vals x).filter fun v=>decide (wr (s+wr (k*v))≠rhs)))∧
  (¬(wr (rhs-s)).tmod k=0→pack ((vals x).filter fun v=>decide (wr (s+wr (k*v))≠rhs))=x):=by
 have hck:=hk.2
 have hmem: ∀w,w∈vals x→(wr (s+wr (k*w))=rhs↔k*w=rhs-s):=by
  intro w hw
  have b:=hx.val w hw
  have m:=mul_in k w b.1 b.2
  simp only[wr]
  rw[wrap_id (n:=k*w) (by omega) (by omega),wrap_id (by omega) (by omega)]
  omega
 have er:wr (rhs-s)=rhs-s:=by rw[wr,wrap_id (by omega) (by omega)]
 rw[er]
 have et:=Int.mul_tdiv_add_tmod (rhs-s) k
 have hq: -4611686018427388928≤(rhs-s).tdiv k∧(rhs-s).tdiv k≤4611686018427388928:=by
  have:=Int.natAbs_tdiv_le_natAbs (rhs-s) k
  omega
 have hu:=filter_up (p:=fun w=>decide (wr (s+wr (k*w))≠rhs)) (vals_up hx.ok)
 constructor
 ·intro hz
  rw[hz,Int.add_zero]at et
  clear hz
  generalize (rhs-s).tdiv k=q at*
  have eq:wr q=q:=by rw[wr,wrap_id (by omega) (by omega)]
  rw[eq]
  obtain⟨m1,m2⟩:=minus_ok (x:=q) hx.ok (by omega)
  refine dom_ext m1 (pack_ok hu) (up_ext (vals_up m1) (vals_up (pack_ok hu)) fun v=> ?_)
  rw[m2,vals_pack hu,List.mem_filter]
  refine and_congr_right fun hv=> ?_
  rw[decide_eq_true_eq,ne_eq,ne_eq,hmem v hv,←et]
  refine not_congr ⟨fun e=>by rw[e],fun e=>Int.eq_of_mul_eq_mul_left hk.1 e⟩
 ·intro hz
  have e:((vals x).filter fun w=>decide (wr (s+wr (k*w))≠rhs))=vals x:=by
   refine List.filter_eq_self.2 fun w hw=> ?_
   rw[decide_eq_true]
   intro e
   have e2:=(hmem w hw).1 e
   rw[←e2,Int.mul_tmod_right]at hz
   exact hz rfl
  rw[e,pack_vals hx.ok]
theorem other_same {d:Doms}{c:Con}(h:WholeC c d)(hpos:0<c.vars.length):(if(otherW d c).2 then some (otherW d c).1 else none)=if []∈rotherW d c then none else some (rotherW d c):=by
 have hw:=terms_weight (d:=d) h.fine.len
 have hb:=h.big
 have har:absK c.rhs=max c.rhs (-c.rhs):=rfl
 have hin:=rotherGo_in (termsOf d c.vars c.coefs) 0 0 0 0 c.vars.length hpos (by have:=h.fine.len;simp[termsOf];omega) (Nat.le_refl _)
 have key:=otherGo_same (B:=weightK c.coefs) (by omega) (termsOf d c.vars c.coefs) 0 (-1) 0 0 0 (terms_ok h.fine) (terms_ne h) (by omega) (by omega) (.inl ⟨by omega,rfl⟩)
 unfold otherW rotherW
 simp only
 rcases key with ⟨e1,e2⟩|⟨s,hs1,hs2,⟨op,ho,e1,a,e2⟩|⟨a,hs3,hs4,e1,e2⟩⟩
 ·rw[e1,if_pos e2,if_neg h.ne]
  rfl
 ·rw[e1,e2]
  simp only[Nat.not_lt_zero,if_false,if_true,if_pos ho]
  have hv:=h.fine.vin _ (varAt_mem (c:=c) (k:=0) hpos)
  by_cases hs:s=c.rhs
  ·rw[if_pos hs,if_pos ((set_empty hv.2 h.ne).2 rfl),decide_eq_false (by simpa using hs)]
   rfl
  ·rw[if_neg hs,if_neg h.ne,decide_eq_true hs]
   rfl
 ·rw[e1]
  rw[e2]at hin⊢
  simp only[Nat.lt_irrefl,if_false,Nat.one_ne_zero,Int.toNat_natCast,if_neg (show¬(a:Int)<0 by omega)]
  have hal:a<c.vars.length:=hin.1
  have hac:a<c.coefs.length:=by have:=h.fine.len;omega
  have hv:=h.fine.vin _ (varAt_mem (c:=c) (k:=a) hal)
  have hk:=h.fine.ck (coefAt c a) (by unfold coefAt;rw[getD_at hac];exact List.getElem_mem _)
  have hx:=h.fine.dom _ (domAt_mem hv.2)
  obtain⟨o1,o2⟩:=other_cut (s:=s) (rhs:=c.rhs) hx hk (by omega) (by omega)
  by_cases hz:(wr (c.rhs-s)).tmod (coefAt c a)=0
  ·rw[if_pos hz]
   simp only[o1 hz]
   by_cases he:pack ((vals (domAt d (varAt c a))).filter fun v=>decide (wr (s+wr (coefAt c a*v))≠c.rhs))=[]
   ·rw[if_pos ((set_empty hv.2 h.ne).2 he),he]
    rfl
   ·rw[if_neg (fun hm=>he ((set_empty hv.2 h.ne).1 hm)),decide_eq_true (pos_iff.2 he)]
    rfl
  ·rw[if_neg hz,o2 hz,set_self hv.2,if_neg h.ne]
   have:0<(domAt d (varAt c a)).length:=pos_iff.2 fun e=>h.ne (e▸domAt_mem hv.2)
   simp only
   rw[decide_eq_true this]
   rfl
theorem pack_fine {x:List (Int×Int)}(h:Fine x)(p:Int→Bool):Fine (pack ((vals x).filter p)):=by
 have hu:=filter_up (p:=p) (vals_up h.ok)
 refine h.cut (pack_ok hu) fun v hv=> ?_
 rw[vals_pack hu]at hv
 exact(List.mem_filter.1 hv).1
theorem mostRd_fine {d:Doms}{vars coefs:List Int}(rhs:Int)(hv: ∀v∈vars,0≤v∧v.toNat<d.length)(hf: ∀x∈d,Fine x): ∀n,n≤vars.length→∀x∈mostRd d vars coefs rhs n,Fine x
 |0,_=>hf
 |n+1,hn=>by
  have h1:n<vars.length:=by omega
  refine mem_set (mostRd_fine rhs hv hf n (by omega)) ?_
  unfold mostRAt
  rw[getD_at h1]
  exact pack_fine (hf _ (domAt_mem (hv _ (List.getElem_mem h1)).2)) _
theorem rother_fine {d:Doms}{c:Con}(h:WholeC c d)(hpos:0<c.vars.length):(rotherW d c).length=d.length∧∀x∈rotherW d c,Fine x:=by
 have hin:=rotherGo_in (termsOf d c.vars c.coefs) 0 0 0 0 c.vars.length hpos (by have:=h.fine.len;simp[termsOf];omega) (Nat.le_refl _)
 unfold rotherW
 simp only
 split
 ·exact⟨rfl,h.fine.dom⟩
 ·split
  ·split
   ·exact⟨by simp,mem_set h.fine.dom ⟨⟨by simp,.nil⟩,by simp[vals],by simp[vals]⟩⟩
   ·exact⟨rfl,h.fine.dom⟩
  ·exact⟨by simp,mem_set h.fine.dom (pack_fine (h.fine.dom _ (domAt_mem (h.fine.vin _ (varAt_mem hin.1)).2)) _)⟩
theorem SumOk.whole {d:Doms}{c:Con}(h:SumOk d c)(hne: []∉d):WholeC c d:=⟨h.fine,h.nod,hne,h.big⟩
theorem lin_ans {d:Doms}{c:Con}(h:SumOk d c): ∃R N N',LinAns d c R N∧LinAnsR d c R N'∧∀out,R=some out→out.length=d.length∧[]∉out∧∀x∈out,Fine x:=by
 by_cases hne: []∈d
 ·exact⟨none,0,0,by rw[LinAns,if_pos hne],by rw[LinAnsR,if_pos hne],fun out h=>by cases h⟩
 ·have hw:=h.whole hne
  have hm:mostD d c=M1 c d:=mostR_eq hw
  by_cases h2:c.op=2
  ·have hs:=other_same hw h.pos
   obtain⟨r1,r2⟩:=rother_fine hw h.pos
   refine⟨if []∈rotherW d c then none else some (rotherW d c),0,0,by rw[LinAns,if_neg hne,if_pos h2,hs],by rw[LinAnsR,if_neg hne,if_pos h2],fun out ho=> ?_⟩
   split at ho
   ·cases ho
   ·rename_i hn
    obtain rfl:=Option.some.inj ho
    exact⟨r1,hn,r2⟩
  ·have hfin: ∀N R,iter (stepL c) N d=some R→∀out,R=some out→out.length=d.length∧[]∉out∧∀x∈out,Fine x:=by
    intro N R hR out ho
    have hst: ∀x y,(WholeC c x∧x.length=d.length)→stepL c x= .inr y→WholeC c y∧y.length=d.length:=by
     rintro x y ⟨hx,hl⟩ hy
     rw[stepL_eq hx]at hy
     obtain⟨f1,s1⟩:=MO_ok hx
     by_cases h1: []∈M1 c x
     ·rw[if_pos h1]at hy;cases hy
     ·have hw1:WholeC c (M1 c x):=Whole.most hx h1
      obtain⟨f2,s2⟩:=MO_ok hw1.back
      rw[if_neg h1]at hy
      split at hy
      ·cases hy
      ·split at hy
       ·cases hy
       ·rename_i h3
        split at hy
        ·cases hy
        ·obtain rfl:=Sum.inr.inj hy
         exact⟨hw1.unback (Whole.most hw1.back h3),s2.1.trans (s1.1.trans hl)⟩
    obtain⟨z,⟨hz,hzl⟩,hs⟩:=iter_end (fun x=>WholeC c x∧x.length=d.length) hst N d R ⟨hw,rfl⟩ hR
    rw[stepL_eq hz,ho]at hs
    obtain⟨f1,s1⟩:=MO_ok hz
    by_cases h1: []∈M1 c z
    ·rw[if_pos h1]at hs;cases hs
    ·have hw1:WholeC c (M1 c z):=Whole.most hz h1
     obtain⟨f2,s2⟩:=MO_ok hw1.back
     rw[if_neg h1]at hs
     split at hs
     ·obtain rfl:=Option.some.inj (Sum.inl.inj hs)
      exact⟨s1.1.trans hzl,h1,f1⟩
     ·split at hs
      ·cases hs
      ·rename_i h3
       split at hs
       ·obtain rfl:=Option.some.inj (Sum.inl.inj hs)
        exact⟨s2.1.trans (s1.1.trans hzl),h3,f2⟩
       ·cases hs
   obtain⟨N,R,hR⟩:=lin_ex hw
   by_cases h0:c.op=0
   ·have hs:=stepL_eq hw
    have e:R=if []∈M1 c d then none else some (M1 c d):=by
     by_cases h1: []∈M1 c d
     ·rw[if_pos h1]at hs⊢
      exact(iter_inl hR hs).symm
     ·rw[if_neg h1,if_pos h0]at hs
      rw[if_neg h1]
      exact(iter_inl hR hs).symm
    refine⟨R,N,1,by rw[LinAns,if_neg hne,if_neg h2];exact hR,?_,hfin N R hR⟩
    rw[LinAnsR,if_neg hne,if_neg h2,hm]
    have hd:=stepD_eq (c:=c) (d:=M1 c d) (fun hn=>Whole.most hw hn)
    rw[if_neg (fun hh=>by have:=hh.1;omega)]at hd
    simp only[iter,hd,e]
   ·have h1:c.op=1:=by have:=h.op;omega
    obtain⟨N',hN⟩:=lin_same h1 N d R hw hR
    exact⟨R,N,N',by rw[LinAns,if_neg hne,if_neg h2];exact hR,by rw[LinAnsR,if_neg hne,if_neg h2,hm];exact hN,hfin N R hR⟩
theorem truth_cases {x:List (Int×Int)}(h:DomOk x)(ht:truthR x=true):x=[]∨x=[(0,0)]∨x=[(1,1)]∨x=[(0,1)]:=by
 obtain⟨h1,h2⟩:=h
 have ht: ∀r∈x,0≤r.1∧r.2≤1:=by
  intro r hr
  have:=List.all_eq_true.1 ht r hr
  simp at this
  omega
 cases x with
 |nil=>exact .inl rfl
 |cons r l=>
  have a1:=h1 r (.head _)
  have a2:=ht r (.head _)
  cases l with
  |cons s l=>
   have b1:=h1 s (.tail _ (.head _))
   have b2:=ht s (.tail _ (.head _))
   have b3:=(List.pairwise_cons.1 h2).1 s (.head _)
   omega
  |nil=>
   obtain⟨a,b⟩:=r
   simp only at a1 a2
   have:(a=0∧b=0)∨(a=1∧b=1)∨(a=0∧b=1):=by omega
   rcases this with ⟨rfl,rfl⟩|⟨rfl,rfl⟩|⟨rfl,rfl⟩
   ·exact .inr (.inl rfl)
   ·exact .inr (.inr (.inl rfl))
   ·exact .inr (.inr (.inr rfl))
theorem keep_told {d:Doms}{b v:Int}(hb:b.toNat<d.length)(hm: []∉d)(hx:DomOk (domAt d b)):keepO d b v=toldO (d.set b.toNat (cutR (domAt d b) v v)):=by
 unfold keepO toldO
 rw[cut_eq hx (fun w _=>Iff.rfl)]
 by_cases he:cutR (domAt d b) v v=[]
 ·rw[if_pos he,if_pos ((set_empty hb hm).2 he)]
 ·rw[if_neg he,if_neg fun h=>he ((set_empty hb hm).1 h)]
theorem reif_same {d:Doms}{c:Con}(hb:0≤c.b∧c.b.toNat<d.length)(hf: ∀x∈d,Fine x)(ht:truthR (domAt d c.b)=true)(RS RN:Option Doms):reifR d c (yesW d c) (noW d c) RS RN=reifW d c RS RN:=by
 unfold reifR reifW
 by_cases hm: []∈d
 ·rw[if_pos hm,if_pos hm]
 ·have hmem:=domAt_mem hb.2
  have hok:=(hf _ hmem).ok
  rw[if_neg hm,if_neg hm,←keep_told hb.2 hm hok,←keep_told hb.2 hm hok]
  generalize yesW d c=y
  generalize noW d c=z
  cases y
  ·cases z
   ·simp only[Bool.false_eq_true,if_false]
    rcases truth_cases hok ht with h|h|h|h
    ·rw[h]at hmem;exact absurd hmem hm
    ·rw[h,if_neg (by decide),if_pos (by decide),if_neg (by decide),if_pos (by decide)]
    ·rw[h,if_pos (by decide),if_pos (by decide)]
    ·rw[h,if_neg (by decide),if_neg (by decide),if_neg (by decide),if_neg (by decide)]
   ·simp
  ·simp
structure ReifOk (d:Doms)(c:Con):Prop where
 sum:SumOk d (sumOf c)
 sumN:SumOk d (notW (sumOf c))
 con:ConB (sumOf c)
 b:0≤c.b∧c.b.toNat<d.length
 truth:truthR (domAt d c.b)=true
 apart:c.b∉c.vars
theorem not_ok {d:Doms}{c:Con}(h:SumOk d c)(hw:weightK c.coefs+absK c.rhs≤4611686018427387904):SumOk d (notW c):=by
 obtain⟨h1,h2,h3,h4,h5⟩:=h
 obtain⟨kind,vars,coefs,op,rhs,rows,b⟩:=c
 simp only at h1 h2 h3 h4 h5 hw
 have hwp:=weightK_pos coefs
 have ha: -absK rhs≤rhs∧rhs≤absK rhs:=by unfold absK;omega
 unfold notW
 simp only
 split
 ·have e1:wr (0-rhs)= -rhs:=by rw[wr,wrap_id (by omega) (by omega)];omega
  have e2:wr (wr (0-rhs)-1)= -rhs-1:=by rw[e1,wr,wrap_id (by omega) (by omega)]
  refine⟨h1.back,h2,h3,h4,?_⟩
  simp only
  rw[weightK_turned _ h1.ck,e2]
  unfold absK at*
  omega
 ·split
  ·exact⟨h1,h2,h3,⟨by show(0:Int)≤2;omega,by show(2:Int)≤2;omega⟩,h5⟩
  ·split
   ·exact⟨h1,h2,h3,⟨by show(0:Int)≤1;omega,by show(1:Int)≤2;omega⟩,h5⟩
   ·exact⟨h1,h2,h3,h4,h5⟩
theorem reif_in {d:Doms}{c:Con}(hc:ConB c)(h:conR d c=0)(hk:c.kind=4)(hf: ∀x∈d,Fine x)(hdl:d.length*24≤140737488355328):ReifOk d c:=by
 obtain⟨hv,hr⟩:=con_in hc h
 obtain⟨h1,h2⟩:=big_no (con_big h)
 have hb:0≤c.b∧c.b.toNat<d.length:=by
  unfold conR at h
  split at h
  ·cases h
  ·split at h
   ·cases h
   ·rename_i hu
    exact(uses_in hc (by simpa using hu)).2 hk
 unfold rightR at hr
 rw[if_neg (by omega),if_neg (by omega),if_neg (by omega),if_neg (by omega),if_pos hk]at hr
 simp only[sumR,opR,Bool.and_eq_true,decide_eq_true_eq,Bool.not_eq_true',decide_eq_false_iff_not]at hr
 obtain⟨⟨⟨⟨_,⟨⟨h4,h5⟩,h6⟩,h7⟩,h8⟩,h9⟩,h10⟩:=hr
 have hs:SumOk d (sumOf c):=⟨⟨h6,hv.1,hv.2,fun k hk=>⟨fun e=>h7 (e▸hk),h1 k hk⟩,hf,hdl⟩,h4,h5,h8,by show weightK c.coefs+absK c.rhs≤_;omega⟩
 exact⟨hs,not_ok hs h2,⟨hc.1,hc.2.1,by simp[sumOf],by simp[sumOf]⟩,hb,h9,h10⟩
def litB (d:Doms)(p:Int×Int):Bool:=hasV (domAt d p.1) (litW p.2)
def clGo (d:Doms):Nat→List (Int×Int)→Int→Option Int
 |_,[],op=>some op
 |i,p::l,op=>if litB d p=false then clGo d (i+1) l op else if 0≤op then none else clGo d (i+1) l i
def clauseO (d:Doms)(c:Con)(r:Option Int):Option Doms:=
 match r with
 |none=>some d
 |some op=>if op<0 then none else keepO d (varAt c op.toNat) (litW (coefAt c op.toNat))
def clauseW (d:Doms)(c:Con):Option Doms:=if []∈d then none else clauseO d c (clGo d 0 (c.vars.zip c.coefs) (-1))
structure ClIn (d:Doms)(c:Con):Prop where
 len:c.vars.length=c.coefs.length
 vl:c.vars.length*8≤140737488355328
 vin: ∀v∈c.vars,0≤v∧v.toNat<d.length
 dl:d.length*24≤140737488355328
 dom: ∀x∈d,(x.length+1)*16≤140737488355328
theorem lclause_spec (d:Doms)(c:Con)(h:ClIn d c):Spec Tryz.prog 33 false [doms d,.agg (cC c)] (pruneRes (clauseW d c)):=by
 refine Spec.body Tryz.func33 rfl rfl rfl fun w0 Z0=> ?_
 obtain⟨hlen,hvl,hvin,hdl,hdom⟩:=h
 have hown:=gown_spec d hdl (fun x hm=>by have:=hdom x hm;omega)
 unfold clauseW
 repeat(refine .A ?_;conv=>whnf)
 refine .C hown ?_
 repeat(refine .A ?_;conv=>whnf)
 by_cases hm: []∈d
 ·rw[if_pos hm,if_pos hm,decide_eq_true hm]
  refine T.ct rfl ?_
  repeat(refine .A ?_;conv=>whnf)
  exact⟨_,.ownN rfl (.v rfl rfl rfl (fun _=>rfl) .nil)⟩
 ·rw[if_neg hm,if_neg hm,decide_eq_false hm]
  refine T.cf rfl ?_
  generalize hres:clGo d 0 (c.vars.zip c.coefs) (-1)=res
  repeat(refine .A ?_;conv=>whnf)
  refine T.K (T.ind (fun s:Nat×Int=>⟨[(3,.optr 0 0 0 0),(6,.ref 1),(8,.val true (.int .i64 s.2)),(19,.val false (ints c.vars)),(20,.val true (.int .i64 (c.vars.map cI).length)),(21,.val true (.int .i64 s.1))],[(0,some (.box false (cC c))),(1,some (.sl 45 1 true (d.map cD)))],2⟩)
   (fun s=>s.1≤c.vars.length∧clGo d s.1 ((c.vars.zip c.coefs).drop s.1) s.2=res∧s.2<s.1) (fun s=>c.vars.length-s.1) (0,-1) ⟨by simp,hres,by decide⟩ (fun _ _ h=>h) ?_)
  rintro⟨i,op⟩ ⟨hil,he,hop⟩ ih
  simp only at hil he hop
  dsimp only
  repeat(refine .A ?_;conv=>whnf)
  refine T.cd rfl (fun h1=> ?_) (fun h1=> ?_)
  ·have h1:i<c.vars.length:=by simpa using h1
   have h2:i<c.coefs.length:=by omega
   have hv:=hvin _ (List.getElem_mem h1)
   have hx:=hdom _ (domAt_mem hv.2)
   have hrow:(d.map cD)[c.vars[i].toNat]? =some (cD (domAt d c.vars[i])):=by simp[domAt_some hv.2]
   have hz:i<(c.vars.zip c.coefs).length:=by simp;omega
   rw[List.drop_eq_getElem_cons hz,List.getElem_zip,clGo]at he
   have hhas:=dhas_spec (domAt d c.vars[i]) (litW c.coefs[i]) (by omega)
   have hlb:litB d (c.vars[i],c.coefs[i])=hasV (domAt d c.vars[i]) (litW c.coefs[i]):=rfl
   rw[←hlb]at hhas
   generalize litB d (c.vars[i],c.coefs[i])=b at*
   repeat(refine .A ?_;conv=>whnf)
   refine .I (r:=cI c.vars[i]) (row_i h1) ?_
   repeat(refine .A ?_;conv=>whnf)
   refine J.io rfl rfl rfl rfl rfl rfl rfl rfl rfl hv.1 (by simpa using hv.2) rfl ?_
   refine J.lo rfl rfl rfl rfl rfl rfl (r:=cD (domAt d c.vars[i])) hrow rfl ?_
   repeat(refine .A ?_;conv=>whnf)
   refine .I (r:=cI c.coefs[i]) (row_i h2) ?_
   repeat(refine .A ?_;conv=>whnf)
   refine .C (lit_spec c.coefs[i]) ?_
   refine .C hhas ?_
   repeat(refine .A ?_;conv=>whnf)
   cases b
   ·rw[if_pos rfl]at he
    refine T.ct rfl ?_
    repeat(refine .A ?_;conv=>whnf)
    rw[wrap1 (l:=c.vars.length) (by omega) (by omega)]
    exact T.K (ih (i+1,op) ⟨by simp only;omega,he,by simp only;omega⟩ (by simp only;omega))
   ·rw[if_neg (by decide)]at he
    refine T.cf rfl ?_
    repeat(refine .A ?_;conv=>whnf)
    refine T.cd rfl (fun h3=> ?_) (fun h3=> ?_)
    ·have h3:0≤op:=h3
     rw[if_pos h3]at he
     subst he
     repeat(refine .A ?_;conv=>whnf)
     exact⟨_,.o rfl rfl rfl (fun _=> .inl rfl) (by simp) (.v rfl rfl rfl (fun _=>rfl) .nil)⟩
    ·have h3: ¬0≤op:=h3
     rw[if_neg h3]at he
     repeat(refine .A ?_;conv=>whnf)
     rw[wrap1 (l:=c.vars.length) (by omega) (by omega)]
     exact T.K (ih (i+1,i) ⟨by simp only;omega,he,by simp only;omega⟩ (by simp only;omega))
  ·have h1:i=c.vars.length:=by simp at h1;omega
   subst h1
   rw[List.drop_of_length_le (by simp;omega),clGo]at he
   subst he
   clear ih
   unfold clauseO
   dsimp only
   repeat(refine .N ?_;conv=>whnf)
   refine T.rdm 15 rfl (by kernel_rfl) rfl ?_
   repeat' first|refine J.e rfl rfl rfl rfl ?_|refine J.skip rfl rfl rfl ?_|refine J.bx rfl rfl rfl rfl rfl rfl ?_
   refine J.g rfl rfl rfl (fun h3=> ?_) (fun h3=> ?_)
   ·have h3:op<0:=h3
    rw[if_pos h3]
    repeat(refine .A ?_;conv=>whnf)
    refine T.ct rfl ?_
    repeat(refine .A ?_;conv=>whnf)
    exact⟨_,.ownN rfl (.v rfl rfl rfl (fun _=>rfl) .nil)⟩
   ·have h3: ¬op<0:=h3
    rw[if_neg h3]
    have hj:op.toNat<c.vars.length:=by omega
    have hj2:op.toNat<c.coefs.length:=by omega
    have hv:=hvin _ (varAt_mem hj)
    have hx:=hdom _ (domAt_mem hv.2)
    have hk:=keep_spec d (varAt c op.toNat) (litW (coefAt c op.toNat)) hv hx
    unfold keepO
    repeat' first|refine J.e rfl rfl rfl rfl ?_|refine J.skip rfl rfl rfl ?_|refine J.bx rfl rfl rfl rfl rfl rfl ?_
    refine J.i rfl rfl rfl rfl rfl rfl rfl rfl rfl (r:=cI (varAt c op.toNat)) (by omega) (varAt_row hj) rfl ?_
    repeat' first|refine J.e rfl rfl rfl rfl ?_|refine J.skip rfl rfl rfl ?_|refine J.bx rfl rfl rfl rfl rfl rfl ?_
    refine J.i rfl rfl rfl rfl rfl rfl rfl rfl rfl (r:=cI (coefAt c op.toNat)) (by omega) (coefAt_row hj2) rfl ?_
    repeat' first|refine J.e rfl rfl rfl rfl ?_|refine J.skip rfl rfl rfl ?_|refine J.bx rfl rfl rfl rfl rfl rfl ?_
    refine .C (lit_spec (coefAt c op.toNat)) ?_
    refine J.nil ?_
    refine J.cm rfl rfl rfl rfl rfl rfl rfl rfl rfl hk rfl rfl rfl ?_
    repeat(refine .A ?_;conv=>whnf)
    by_cases hk:domCut (domAt d (varAt c op.toNat)) (litW (coefAt c op.toNat)) (litW (coefAt c op.toNat))=[]
    ·rw[if_pos hk,decide_eq_true hk]
     refine T.ct rfl ?_
     repeat(refine .A ?_;conv=>whnf)
     exact⟨_,.ownN rfl (.v rfl rfl rfl (fun _=>rfl) .nil)⟩
    ·rw[if_neg hk,decide_eq_false hk]
     refine T.cf rfl ?_
     repeat(refine .A ?_;conv=>whnf)
     exact⟨_,.o rfl rfl rfl (fun _=> .inl rfl) (by simp) (.v rfl rfl rfl (fun _=>rfl) .nil)⟩
def Supp (a:List Int)(d:Doms):Prop:=a.length=d.length∧∀(i:Nat) x v,d[i]? =some x→a[i]? =some v→v∈vals x
theorem Supp.at {a:List Int}{d:Doms}(h:Supp a d){v:Int}(h0:0≤v)(hl:v.toNat<d.length):atR a v∈vals (domAt d v):=by
 have ha:v.toNat<a.length:=by have:=h.1;omega
 refine h.2 v.toNat _ _ (domAt_some hl) ?_
 unfold atR
 rw[if_neg (by omega),List.getD_eq_getElem?_getD,List.getElem?_eq_getElem ha]
 rfl
theorem Supp.ne {a:List Int}{d:Doms}(h:Supp a d): []∉d:=by
 intro hm
 obtain⟨i,hi⟩:=List.mem_iff_getElem?.1 hm
 have hl:=(List.getElem?_eq_some_iff.1 hi).1
 have:=h.2 i [] _ hi (List.getElem?_eq_getElem (by have:=h.1;omega))
 simp[vals]at this
def plainS (vars coefs a:List Int):Int:=((vars.zip coefs).map fun p=>p.2*atR a p.1).sum
theorem lowE_le {x:List (Int×Int)}(h:DomOk x){v k:Int}(hv:v∈vals x):lowE x k≤k*v∧k*v≤highE x k:=by
 have h1:=least_le h hv
 have h2:=le_last h hv
 unfold lowE highE
 by_cases hk:0<k
 ·rw[if_pos hk,if_pos hk]
  exact⟨Int.mul_le_mul_of_nonneg_left h1 (by omega),Int.mul_le_mul_of_nonneg_left h2 (by omega)⟩
 ·rw[if_neg hk,if_neg hk]
  exact⟨Int.mul_le_mul_of_nonpos_left (by omega) h2,Int.mul_le_mul_of_nonpos_left (by omega) h1⟩
theorem sum_le_sum {α:Type}{f g:α→Int}: ∀{l:List α},(∀p∈l,f p≤g p)→(l.map f).sum≤(l.map g).sum∧∀p∈l,g p-f p≤(l.map g).sum-(l.map f).sum
 | [],_=>by simp
 |p::l,h=>by
  obtain⟨h1,h2⟩:=sum_le_sum (l:=l) fun q hq=>h q (.tail _ hq)
  have h0:=h p (.head _)
  simp only[List.map_cons,List.sum_cons]
  refine⟨by omega,fun q hq=> ?_⟩
  rcases List.mem_cons.1 hq with rfl|hq
  ·omega
  ·have:=h2 q hq
   omega
theorem lowS_zip (d:Doms)(vars coefs:List Int):lowS (termsOf d vars coefs)=((vars.zip coefs).map fun p=>lowE (domAt d p.1) p.2).sum:=by
 unfold lowS termsOf
 rw[List.map_map]
 rfl
theorem highS_zip (d:Doms)(vars coefs:List Int):highS (termsOf d vars coefs)=((vars.zip coefs).map fun p=>highE (domAt d p.1) p.2).sum:=by
 unfold highS termsOf
 rw[List.map_map]
 rfl
theorem plain_in {d:Doms}{vars coefs a:List Int}(h:SumFine d vars coefs)(hs:Supp a d):
  lowS (termsOf d vars coefs)≤plainS vars coefs a∧plainS vars coefs a≤highS (termsOf d vars coefs)∧∀p∈vars.zip coefs,p.2*atR a p.1-lowE (domAt d p.1) p.2≤plainS vars coefs a-lowS (termsOf d vars coefs):=by
 have hmem: ∀p∈vars.zip coefs,lowE (domAt d p.1) p.2≤p.2*atR a p.1∧p.2*atR a p.1≤highE (domAt d p.1) p.2:=fun p hp=>by
  have hv:=h.vin _ (List.of_mem_zip hp).1
  exact lowE_le (h.dom _ (domAt_mem hv.2)).ok (hs.at hv.1 hv.2)
 rw[lowS_zip,highS_zip]
 obtain⟨h1,h2⟩:=sum_le_sum (f:=fun p:Int×Int=>lowE (domAt d p.1) p.2) (g:=fun p=>p.2*atR a p.1) fun p hp=>(hmem p hp).1
 obtain⟨h3,_⟩:=sum_le_sum (f:=fun p:Int×Int=>p.2*atR a p.1) (g:=fun p=>highE (domAt d p.1) p.2) fun p hp=>(hmem p hp).2
 exact⟨h1,h3,h2⟩
theorem plain_turned {vars coefs a:List Int}(h: ∀k∈coefs,CoefOk k):plainS vars (turnedW coefs) a= -plainS vars coefs a:=by
 unfold plainS turnedW
 induction vars generalizing coefs with
 |nil=>simp
 |cons v vars ih=>
  cases coefs with
  |nil=>simp
  |cons k coefs=>
   have e:=(turned_ok (h k (.head _))).1
   have:=ih fun k hk=>h k (.tail _ hk)
   simp only[List.map_cons,List.zip_cons_cons,List.sum_cons]at this⊢
   rw[this,e,Int.neg_mul]
   omega
theorem MO_supp {d:Doms}{vars coefs a:List Int}{rhs:Int}(h:Whole d vars coefs rhs)(hs:Supp a d)(hle:plainS vars coefs a≤rhs):Supp a (MO d vars coefs rhs):=by
 obtain⟨ha,hl⟩:=cuts_apart h
 obtain⟨_,_,hp3⟩:=plain_in h.fine hs
 refine⟨by rw[MO,setAll_len];exact hs.1,fun i x v hx hv=> ?_⟩
 by_cases he: ∃p∈cuts d vars coefs rhs,p.1.toNat=i
 ·obtain⟨p,hp,rfl⟩:=he
  rw[show MO d vars coefs rhs=setAll (cuts d vars coefs rhs) d from rfl,setAll_at ha hl p hp]at hx
  obtain rfl:=Option.some.inj hx
  obtain⟨q,hq,rfl⟩:=List.mem_map.1 hp
  have hvq:=h.fine.vin _ (List.of_mem_zip hq).1
  have hat:=hs.at hvq.1 hvq.2
  have e:atR a q.1=v:=by
   unfold atR
   rw[if_neg (by omega),List.getD_eq_getElem?_getD,hv]
   rfl
  refine((cutAt_ok h hq _).2 v).2 ⟨e▸hat,?_⟩
  have:=hp3 q hq
  rw[e]at this
  omega
 ·rw[show MO d vars coefs rhs=setAll (cuts d vars coefs rhs) d from rfl,setAll_other _ _ _ fun p hp e=>he ⟨p,hp,e⟩]at hx
  exact hs.2 i x v hx hv
def holds0 (c:Con)(a:List Int):Bool:=heldR c.op (plainS c.vars c.coefs a) c.rhs
theorem iter_supp {c:Con}{a:List Int}(hop:c.op=0∨c.op=1)(hh:holds0 c a=true): ∀(N:Nat) (p:Doms) (R:Option Doms),WholeC c p→Supp a p→iter (stepL c) N p=some R→∃out,R=some out∧Supp a out
 |0,p,R,_,_,h=>by cases h
 |n+1,p,R,hw,hs,h=>by
  have hle:plainS c.vars c.coefs a≤c.rhs:=by
   unfold holds0 heldR at hh
   rcases hop with h0|h1
   ·rw[if_pos h0]at hh;exact of_decide_eq_true hh
   ·rw[if_neg (by omega),h1]at hh
    simp at hh
    omega
  have hst:=stepL_eq hw
  have s1:Supp a (M1 c p):=MO_supp hw hs hle
  rw[if_neg s1.ne]at hst
  by_cases h0:c.op=0
  ·rw[if_pos h0]at hst
   obtain rfl:=iter_inl h hst
   exact⟨_,rfl,s1⟩
  ·rw[if_neg h0]at hst
   have h1:c.op=1:=by omega
   have hw1:WholeC c (M1 c p):=Whole.most hw s1.ne
   have heq:plainS c.vars c.coefs a=c.rhs:=by
    unfold holds0 heldR at hh
    rw[if_neg h0,h1]at hh
    simpa using hh
   have hb:=hw.big
   have hp:=weightK_pos c.coefs
   have s2:Supp a (M2 c (M1 c p)):=MO_supp hw1.back s1 (by rw[plain_turned hw.fine.ck,(wr_neg (by omega)).1];omega)
   rw[if_neg s2.ne]at hst
   by_cases h3:M1 c p=p∧M2 c (M1 c p)=M1 c p
   ·rw[if_pos h3]at hst
    obtain rfl:=iter_inl h hst
    exact⟨_,rfl,s2⟩
   ·rw[if_neg h3]at hst
    simp only[iter,hst]at h
    exact iter_supp (.inr h1) hh n _ R (hw1.unback (Whole.most hw1.back s2.ne)) s2 h
def ValsIn (ts:List ((List (Int×Int)×Int)×Int)):Prop:= ∀t∈ts,t.2∈vals t.1.1
theorem rotherGo_sum {B:Int}(hB:B≤4611686018427388928): ∀(ts:List ((List (Int×Int)×Int)×Int)) (i m:Nat) (s:Int) (a:Nat),TermsOk (ts.map (·.1))→ValsIn ts→-B≤s-weightT (ts.map (·.1))→s+weightT (ts.map (·.1))≤B→
  ((rotherGo i (ts.map (·.1)) m s a).1=m→(rotherGo i (ts.map (·.1)) m s a).2.1=s+(ts.map fun t=>t.1.2*t.2).sum∧(rotherGo i (ts.map (·.1)) m s a).2.2=a)∧
  m≤(rotherGo i (ts.map (·.1)) m s a).1∧
  ((rotherGo i (ts.map (·.1)) m s a).1=m+1→∃j t,(rotherGo i (ts.map (·.1)) m s a).2.2=i+j∧ts[j]? =some t∧(rotherGo i (ts.map (·.1)) m s a).2.1+t.1.2*t.2=s+(ts.map fun t=>t.1.2*t.2).sum)
 | [],i,m,s,a,_,_,_,_=>by simp[rotherGo]
 |t::ts,i,m,s,a,h,hv,h1,h2=>by
  have hf:=h t.1 (.head _)
  have hvt:=hv t (.head _)
  have hp:=weightT_pos (ts.map (·.1))
  have ha:=absK_pos t.1.2
  have hx:t.1.1≠[]:=fun e=>by rw[e]at hvt;simp[vals]at hvt
  simp only[List.map_cons]at h1 h2⊢
  rw[weightT_cons]at h1 h2
  rw[rotherGo]
  simp only[List.sum_cons]
  by_cases hc:1<(vals t.1.1).length
  ·rw[if_pos hc]
   obtain⟨i1,i2,i3⟩:=rotherGo_sum hB ts (i+1) (m+1) s i (fun t ht=>h t (.tail _ ht)) (fun t ht=>hv t (.tail _ ht)) (by omega) (by omega)
   refine⟨fun e=>by omega,by omega,fun e=> ?_⟩
   obtain⟨j1,j2⟩:=i1 e
   exact⟨0,t,by rw[j2];rfl,rfl,by rw[j1];omega⟩
  ·rw[if_neg hc]
   obtain⟨v,e1,e2,b1,b2⟩:=one_val hf.1 hx hc
   have hm:=mul_in t.1.2 v b1 b2
   have hck:=hf.2.2
   have ev:t.2=v:=by rw[e2]at hvt;simpa using hvt
   have er:wr (t.1.2*hd0 (vals t.1.1))=t.1.2*v:=by
    rw[e2]
    simp only[hd0,wr,List.getD_cons_zero]
    rw[wrap_id (by omega) (by omega)]
   have es:wr (s+t.1.2*v)=s+t.1.2*v:=by rw[wr,wrap_id (by omega) (by omega)]
   rw[er,es,ev]
   obtain⟨i1,i2,i3⟩:=rotherGo_sum hB ts (i+1) m (s+t.1.2*v) a (fun t ht=>h t (.tail _ ht)) (fun t ht=>hv t (.tail _ ht)) (by omega) (by omega)
   refine⟨fun e=> ?_,i2,fun e=> ?_⟩
   ·obtain⟨j1,j2⟩:=i1 e
    exact⟨by rw[j1];omega,j2⟩
   ·obtain⟨j,u,j1,j2,j3⟩:=i3 e
    exact⟨j+1,u,by rw[j1];omega,by simpa using j2,by rw[j3];omega⟩
theorem rother_supp {d:Doms}{c:Con}{a:List Int}(h:WholeC c d)(hpos:0<c.vars.length)(hs:Supp a d)(hne:plainS c.vars c.coefs a≠c.rhs):Supp a (rotherW d c):=by
 have hw:=terms_weight (d:=d) h.fine.len
 have hb:=h.big
 have har:absK c.rhs=max c.rhs (-c.rhs):=rfl
 let ts:List ((List (Int×Int)×Int)×Int):=(c.vars.zip c.coefs).map fun p=>((domAt d p.1,p.2),atR a p.1)
 have et:ts.map (·.1)=termsOf d c.vars c.coefs:=by simp only[ts,List.map_map];rfl
 have eS:(ts.map fun t=>t.1.2*t.2).sum=plainS c.vars c.coefs a:=by simp only[ts,List.map_map];rfl
 have hv:ValsIn ts:=by
  intro t ht
  obtain⟨p,hp,rfl⟩:=List.mem_map.1 ht
  have:=h.fine.vin _ (List.of_mem_zip hp).1
  exact hs.at this.1 this.2
 have key:=rotherGo_sum (B:=weightK c.coefs) (by omega) ts 0 0 0 0 (by rw[et];exact terms_ok h.fine) hv (by rw[et];omega) (by rw[et];omega)
 rw[et,eS]at key
 have hin:=rotherGo_in (termsOf d c.vars c.coefs) 0 0 0 0 c.vars.length hpos (by have:=h.fine.len;simp[termsOf];omega) (Nat.le_refl _)
 have hsame:=otherGo_same (B:=weightK c.coefs) (by omega) (termsOf d c.vars c.coefs) 0 (-1) 0 0 0 (terms_ok h.fine) (terms_ne h) (by omega) (by omega) (.inl ⟨by omega,rfl⟩)
 obtain⟨k1,_,k3⟩:=key
 unfold rotherW
 simp only
 by_cases hm1:1<(rotherGo 0 (termsOf d c.vars c.coefs) 0 0 0).1
 ·rw[if_pos hm1];exact hs
 ·rw[if_neg hm1]
  by_cases hm0:(rotherGo 0 (termsOf d c.vars c.coefs) 0 0 0).1=0
  ·rw[if_pos hm0]
   have:=(k1 hm0).1
   rw[if_neg (fun e=>hne (by rw[this,Int.zero_add]at e;exact e))]
   exact hs
  ·rw[if_neg hm0]
   obtain⟨j,t,j1,j2,j3⟩:=k3 (by omega)
   rw[Nat.zero_add]at j1
   have hj:j<c.vars.length:=by rw[←j1];exact hin.1
   have hjc:j<c.coefs.length:=by have:=h.fine.len;omega
   have ht:t=((domAt d (varAt c j),coefAt c j),atR a (varAt c j)):=by
    have hz:j<(c.vars.zip c.coefs).length:=by simp;omega
    simp only[ts,List.getElem?_map,List.getElem?_eq_getElem hz,Option.map_some,Option.some.injEq]at j2
    rw[←j2,show varAt c j=c.vars[j]from getD_at hj,show coefAt c j=c.coefs[j]from getD_at hjc]
    simp
   rw[j1]
   have hv:=h.fine.vin _ (varAt_mem hj)
   have hx:=h.fine.dom _ (domAt_mem hv.2)
   have hk:=h.fine.ck (coefAt c j) (by unfold coefAt;rw[getD_at hjc];exact List.getElem_mem _)
   have hat:=hs.at hv.1 hv.2
   rw[ht]at j3
   simp only at j3
   have hs': -(weightK c.coefs-1048576)≤(rotherGo 0 (termsOf d c.vars c.coefs) 0 0 0).2.1∧(rotherGo 0 (termsOf d c.vars c.coefs) 0 0 0).2.1≤weightK c.coefs-1048576:=by
    rcases hsame with ⟨_,e⟩|⟨s',_,_,⟨_,_,_,a',e⟩|⟨a',b1,b2,_,e⟩⟩
    ·omega
    ·rw[e]at hm0;exact absurd rfl hm0
    ·rw[e];exact⟨b1,b2⟩
   generalize (rotherGo 0 (termsOf d c.vars c.coefs) 0 0 0).2.1=s at*
   have b:=hx.val _ hat
   have m:=mul_in (coefAt c j) _ b.1 b.2
   have hck:=hk.2
   have hu:=filter_up (p:=fun v=>decide (wr (s+wr (coefAt c j*v))≠c.rhs)) (vals_up hx.ok)
   refine⟨by rw[List.length_set];exact hs.1,fun i x v hxi hvi=> ?_⟩
   by_cases e:(varAt c j).toNat=i
   ·subst e
    rw[List.getElem?_set_self hv.2]at hxi
    obtain rfl:=Option.some.inj hxi
    have ev:atR a (varAt c j)=v:=by
     unfold atR
     rw[if_neg (by omega),List.getD_eq_getElem?_getD,hvi]
     rfl
    rw[ev]at hat j3 m
    rw[vals_pack hu,List.mem_filter]
    refine⟨hat,?_⟩
    rw[decide_eq_true_eq]
    rw[Int.zero_add]at j3
    clear k1 k3 hsame hin hm1 hm0 j1 j2 ht
    simp only[wr]
    rw[wrap_id (n:=coefAt c j*v) (by omega) (by omega),wrap_id (by omega) (by omega),j3]
    exact hne
   ·rw[List.getElem?_set_ne e]at hxi
    exact hs.2 i x v hxi hvi
theorem lin_sound {d:Doms}{c:Con}{a:List Int}(h:SumOk d c)(hs:Supp a d)(hh:holds0 c a=true){R:Option Doms}{N:Nat}(hR:LinAns d c R N): ∃out,R=some out∧Supp a out:=by
 have hw:=h.whole hs.ne
 unfold LinAns at hR
 rw[if_neg hs.ne]at hR
 by_cases h2:c.op=2
 ·rw[if_pos h2,other_same hw h.pos]at hR
  have hne:plainS c.vars c.coefs a≠c.rhs:=by
   unfold holds0 heldR at hh
   rw[if_neg (by omega),h2]at hh
   simpa using hh
  have:=rother_supp hw h.pos hs hne
  rw[if_neg this.ne]at hR
  exact⟨_,hR,this⟩
 ·rw[if_neg h2]at hR
  exact iter_supp (by have:=h.op;omega) hh N d R hw hs hR
theorem so_holds {d:Doms}{c:Con}{a:List Int}(h:SumFine d c.vars c.coefs)(hw:weightK c.coefs≤4611686018427388928)(hop:0≤c.op∧c.op≤2)(hs:Supp a d)(hso:soW (endsW d c.vars c.coefs) c=true):holds0 c a=true:=by
 have hne: ∀t∈termsOf d c.vars c.coefs,t.1≠[]:=by
  intro t ht e
  obtain⟨p,hp,rfl⟩:=List.mem_map.1 ht
  have:=domAt_mem (h.vin _ (List.of_mem_zip hp).1).2
  simp only at e
  rw[e]at this
  exact hs.ne this
 have ht:=terms_weight (d:=d) h.len
 have hk:=weightK_pos c.coefs
 obtain⟨p1,p2,_⟩:=plain_in h hs
 unfold endsW at hso
 rw[endsGo_ok 0 0 (terms_ok h) hne (by omega) (by omega) (by omega) (by omega)]at hso
 unfold soW at hso
 simp only[Bool.true_eq_false,if_false,Int.zero_add]at hso
 unfold holds0 heldR
 by_cases h0:c.op=0
 ·rw[if_pos h0]at hso⊢
  exact decide_eq_true (by have:=of_decide_eq_true hso;omega)
 ·rw[if_neg h0]at hso⊢
  by_cases h1:c.op=1
  ·rw[if_pos h1]at hso
   simp only[Bool.and_eq_true,decide_eq_true_eq]at hso
   rw[decide_eq_true h1,decide_eq_true (by omega)]
   rfl
  ·rw[if_neg h1]at hso
   simp only[Bool.or_eq_true,decide_eq_true_eq]at hso
   rw[decide_eq_false h1,decide_eq_false (by omega)]
   rfl
theorem not_holds {d:Doms}{c:Con}{a:List Int}(h:SumOk d c)(hs:Supp a d)(hso:soW (endsW d (notW c).vars (notW c).coefs) (notW c)=true):holds0 c a=false:=by
 have hb:=h.big
 have hr:absK c.rhs=max c.rhs (-c.rhs):=rfl
 have hk:=weightK_pos c.coefs
 have hn:SumFine d (notW c).vars (notW c).coefs∧weightK (notW c).coefs≤4611686018427388928∧0≤(notW c).op∧(notW c).op≤2:=by
  have e:weightK c.coefs≤4611686018427388928:=by omega
  have ho:=h.op
  unfold notW
  split
  ·exact⟨h.fine.back,by simp only;rw[weightK_turned _ h.fine.ck];exact e,ho⟩
  ·split
   ·exact⟨h.fine,e,by simp,by simp⟩
   ·split
    ·exact⟨h.fine,e,by simp,by simp⟩
    ·exact⟨h.fine,e,ho⟩
 have hh:=so_holds hn.1 hn.2.1 hn.2.2 hs hso
 unfold holds0 heldR at hh⊢
 unfold notW at hh
 have ho:=h.op
 by_cases h0:c.op=0
 ·rw[if_pos h0]at hh
  simp only[if_pos h0]at hh
  rw[if_pos h0]
  rw[plain_turned h.fine.ck]at hh
  have e:wr (wr (0-c.rhs)-1)= -c.rhs-1:=by
   rw[(wr_neg (by omega)).1,wr,wrap_id (by omega) (by omega)]
  rw[e]at hh
  exact decide_eq_false (by have:=of_decide_eq_true hh;omega)
 ·rw[if_neg h0]at hh⊢
  by_cases h1:c.op=1
  ·rw[if_pos h1]at hh
   rw[if_neg (by simp)]at hh
   simp at hh
   rw[decide_eq_true h1,decide_eq_false hh]
   rfl
  ·have h2:c.op=2:=by omega
   rw[if_neg h1,if_pos h2]at hh
   rw[if_neg (by simp)]at hh
   simp at hh
   rw[decide_eq_false h1,decide_eq_true hh]
   rfl
def clF (d:Doms)(l:List (Int×Int)):Option Doms:=
 match l with
 | []=>none
 | [p]=>keepO d p.1 (litW p.2)
 |_::_::_=>some d
theorem clGo_eq (d:Doms)(c:Con)(hl:c.vars.length=c.coefs.length): ∀(l:List (Int×Int)) (i:Nat) (op:Int),l=(c.vars.zip c.coefs).drop i→(0≤op→op.toNat<c.vars.length)→
  clauseO d c (clGo d i l op)=if op<0 then clF d (l.filter (litB d))else(match l.filter (litB d)with| []=>keepO d (varAt c op.toNat) (litW (coefAt c op.toNat))|_::_=>some d)
 | [],i,op,h,ho=>by
  rw[clGo,clauseO]
  by_cases h1:op<0
  ·rw[if_pos h1,if_pos h1];rfl
  ·rw[if_neg h1,if_neg h1];rfl
 |p::l,i,op,h,ho=>by
  have hi:i<(c.vars.zip c.coefs).length:=by
   have:=congrArg List.length h
   simp at this
   simp;omega
  have hd:=List.drop_eq_getElem_cons hi
  rw[←h]at hd
  injection hd with hp hl'
  have hiv:i<c.vars.length:=by simp at hi;omega
  have hic:i<c.coefs.length:=by omega
  have hpe:p=(varAt c i,coefAt c i):=by
   rw[hp,List.getElem_zip]
   simp[varAt,coefAt,hiv,hic]
  rw[clGo]
  by_cases hb:litB d p=true
  ·rw[if_neg (by simp[hb]),List.filter_cons_of_pos hb]
   by_cases h1:op<0
   ·rw[if_neg (by omega),if_pos h1,clGo_eq d c hl l (i+1) i hl' (fun _=>by simpa using hiv),if_neg (by omega)]
    cases hf:l.filter (litB d)with
    |nil=>simp[clF,hpe]
    |cons q m=>simp[clF]
   ·rw[if_pos (by omega),if_neg h1]
    rfl
  ·have hb:litB d p=false:=by simpa using hb
   rw[if_pos hb,List.filter_cons_of_neg (by simp[hb]),clGo_eq d c hl l (i+1) op hl' ho]
theorem clauseW_eq {d:Doms}{c:Con}(hl:c.vars.length=c.coefs.length):clauseW d c=if []∈d then none else clF d ((c.vars.zip c.coefs).filter (litB d)):=by
 unfold clauseW
 rw[clGo_eq d c hl (c.vars.zip c.coefs) 0 (-1) rfl (by omega),if_pos (by decide:(-1:Int)<0)]
structure ClOk (d:Doms)(c:Con):Prop where
 len:c.vars.length=c.coefs.length
 nod:c.vars.Nodup
 pos:0<c.vars.length
 vl:c.vars.length*8≤140737488355328
 vin: ∀v∈c.vars,0≤v∧v.toNat<d.length
 unit: ∀k∈c.coefs,k=1∨k= -1
 truth: ∀v∈c.vars,truthR (domAt d v)=true
theorem lit_1:litW 1=1:=by decide +kernel
theorem lit_m:litW (-1)=0:=by decide +kernel
theorem clause_in {d:Doms}{c:Con}(hc:ConB c)(h:conR d c=0)(hk:c.kind=5):ClOk d c:=by
 obtain⟨hv,hr⟩:=con_in hc h
 unfold rightR at hr
 rw[if_neg (by omega),if_neg (by omega),if_neg (by omega),if_neg (by omega),if_neg (by omega),if_pos hk]at hr
 simp only[sumR,Bool.and_eq_true,decide_eq_true_eq,Bool.not_eq_true',decide_eq_false_iff_not]at hr
 obtain⟨⟨_,⟨⟨h4,h5⟩,h6⟩,h7⟩,h8⟩:=hr
 have hu: ∀i,i<c.vars.length→truthR (domAt d (varAt c i))=true∧(coefAt c i=1∨coefAt c i= -1):=by
  intro i hi
  have:=List.all_eq_true.1 h8 i (List.mem_range.2 hi)
  simpa[unitAt]using this
 refine⟨h6,h4,h5,hv.1,hv.2,fun k hk=> ?_,fun v hv=> ?_⟩
 ·obtain⟨i,hi,rfl⟩:=List.getElem_of_mem hk
  have:=(hu i (by omega)).2
  simpa[coefAt,hi]using this
 ·obtain⟨i,hi,rfl⟩:=List.getElem_of_mem hv
  have:=(hu i hi).1
  simpa[varAt,hi]using this
theorem clin_in {d:Doms}{c:Con}(h:ClOk d c)(hdl:d.length*24≤140737488355328)(hx: ∀x∈d,(x.length+1)*16≤140737488355328):ClIn d c:=⟨h.len,h.vl,h.vin,hdl,hx⟩
theorem domAt_set {d:Doms}{v w:Int}{x:List (Int×Int)}(hv:v.toNat<d.length):domAt (d.set v.toNat x) w=if v.toNat=w.toNat then x else domAt d w:=by
 unfold domAt
 rw[List.getD_eq_getElem?_getD,List.getD_eq_getElem?_getD,List.getElem?_set]
 by_cases h:v.toNat=w.toNat
 ·rw[if_pos h,if_pos h,if_pos hv];rfl
 ·rw[if_neg h,if_neg h]
theorem mem_growR {D:Doms}: ∀{n:Nat} {t:List Int},t∈growR D n↔t.length=n∧∀k,k<n→t.getD k 0∈vals (D.getD k [])
 |0,t=>by simp[growR]
 |n+1,t=>by
  simp only[growR,List.mem_flatMap,List.mem_map]
  constructor
  ·rintro⟨a,ha,v,hv,rfl⟩
   obtain⟨hl,h⟩:=mem_growR.1 ha
   refine⟨by simp[hl],fun k hk=> ?_⟩
   by_cases e:k=n
   ·subst e;subst hl
    simp only[List.getD_eq_getElem?_getD]
    rw[List.getElem?_append_right (Nat.le_refl _)]
    simpa using hv
   ·have:=h k (by omega)
    simp only[List.getD_eq_getElem?_getD]at this⊢
    rw[List.getElem?_append_left (by omega)]
    exact this
  ·rintro⟨hl,h⟩
   refine⟨t.take n,mem_growR.2 ⟨by simp;omega,fun k hk=> ?_⟩,t.getD n 0,h n (by omega),?_⟩
   ·have:=h k (by omega)
    simp only[List.getD_eq_getElem?_getD]at this⊢
    rw[List.getElem?_take,if_pos hk]
    exact this
   ·have e:t=t.take n++[t[n]]:=by
     rw[←List.take_succ_eq_append_getElem (by omega),List.take_of_length_le (by omega)]
    rw[List.getD_eq_getElem?_getD,List.getElem?_eq_getElem (by omega)]
    exact e.symm
theorem nodup_idx {us:List Int}(h:us.Nodup){k:Nat}(hk:k<us.length):us.idxOf us[k]=k:=by
 have h1:us.idxOf us[k]<us.length:=List.idxOf_lt_length_iff.2 (List.getElem_mem hk)
 have h2:=List.getElem_idxOf h1
 exact(List.getElem_inj h).1 h2
theorem grow_fun {d:Doms}{us:List Int}(h:us.Nodup){t:List Int}:t∈growR (us.map (domAt d)) us.length↔∃f:Int→Int,t=us.map f∧∀v∈us,f v∈vals (domAt d v):=by
 rw[mem_growR]
 have hD: ∀k (hk:k<us.length),(us.map (domAt d)).getD k []=domAt d us[k]:=fun k hk=>by
  rw[List.getD_eq_getElem?_getD,List.getElem?_map,List.getElem?_eq_getElem hk];rfl
 constructor
 ·rintro⟨hl,hk⟩
  refine⟨fun v=>t.getD (us.idxOf v) 0,?_,fun v hv=> ?_⟩
  ·apply List.ext_getElem (by simp[hl])
   intro k h1 h2
   have h3:k<us.length:=by simpa using h2
   rw[List.getElem_map,nodup_idx h h3,List.getD_eq_getElem?_getD,List.getElem?_eq_getElem h1];rfl
  ·obtain⟨k,hk2,rfl⟩:=List.getElem_of_mem hv
   have:=hk k hk2
   rw[hD k hk2]at this
   simp only[nodup_idx h hk2]
   exact this
 ·rintro⟨f,rfl,hf⟩
  refine⟨by simp,fun k hk=> ?_⟩
  rw[hD k hk,List.getD_eq_getElem?_getD,List.getElem?_map,List.getElem?_eq_getElem hk]
  exact hf _ (List.getElem_mem hk)
theorem foldl_set_at {α:Type}(f:Int→α): ∀(us:List Int) (a:List α) (i:Nat),(∀u∈us,0≤u)→(us.foldl (fun a u=>a.set u.toNat (f u)) a)[i]? =if(i:Int)∈us∧i<a.length then some (f i)else a[i]?
 | [],a,i,_=>by simp
 |u::us,a,i,h=>by
  rw[List.foldl_cons,foldl_set_at f us _ i fun v hv=>h v (.tail _ hv)]
  have hu:=h u (.head _)
  simp only[List.length_set,List.mem_cons]
  by_cases h1:(i:Int)∈us∧i<a.length
  ·rw[if_pos h1,if_pos ⟨.inr h1.1,h1.2⟩]
  ·rw[if_neg h1,List.getElem?_set]
   by_cases e:u.toNat=i
   ·have e2:(i:Int)=u:=by omega
    rw[if_pos e]
    by_cases hl:i<a.length
    ·rw[if_pos (by omega),if_pos ⟨.inl e2,hl⟩,e2]
    ·rw[if_neg (by omega),if_neg (fun h=>hl h.2),List.getElem?_eq_none (by omega)]
   ·rw[if_neg e,if_neg]
    rintro⟨h2|h2,h3⟩
    ·omega
    ·exact h1 ⟨h2,h3⟩
theorem zip_foldl {β γ:Type}(g:Int→β)(st:γ→Int×β→γ): ∀(us:List Int) (a:γ),(us.zip (us.map g)).foldl st a=us.foldl (fun a u=>st a (u,g u)) a
 | [],_=>rfl
 |u::us,a=>by rw[List.map_cons,List.zip_cons_cons,List.foldl_cons,List.foldl_cons,zip_foldl g st us]
theorem fillW_at {n:Nat}{us:List Int}(f:Int→Int)(h0: ∀u∈us,0≤u∧u.toNat<n){v:Int}(hv:v∈us):atR (fillW n us (us.map f) us.length) v=f v:=by
 have hl:=fillW_len n us (us.map f) us.length
 have h1:=h0 v hv
 have e:fillW n us (us.map f) us.length=us.foldl (fun a u=>a.set u.toNat (f u)) (List.replicate n 0):=by
  unfold fillW
  rw[List.take_of_length_le (by simp),zip_foldl (γ:=List Int) f]
 unfold atR
 rw[if_neg (by omega),List.getD_eq_getElem?_getD,e,foldl_set_at f us _ _ (fun u hu=>(h0 u hu).1),Int.toNat_of_nonneg h1.1,if_pos ⟨hv,by simpa using h1.2⟩]
 rfl
def SuppK (d:Doms)(us:List Int)(P:List Int→Bool)(v x:Int):Prop:= ∃f:Int→Int,(∀u∈us,f u∈vals (domAt d u))∧P (us.map f)=true∧f v=x
theorem puts_at {d:Doms}{us:List Int}{P:List Int→Bool}(hn:us.Nodup)(h0: ∀u∈us,0≤u∧u.toNat<d.length)(i:Nat):
  ((i:Int)∉us→(putsW d us (keepsW P us.length (growR (us.map (domAt d)) us.length)) us.length)[i]? =d[i]?)∧
  ((i:Int)∈us→∃y,(putsW d us (keepsW P us.length (growR (us.map (domAt d)) us.length)) us.length)[i]? =some y∧DomOk y∧∀x,x∈vals y↔SuppK d us P i x):=by
 let G:Int→List Int:=fun v=>((growR (us.map (domAt d)) us.length).filter P).map (·.getD (us.idxOf v) 0)
 have hG: ∀v∈us,∀x,x∈G v↔SuppK d us P v x:=by
  intro v hv x
  have hk:us.idxOf v<us.length:=List.idxOf_lt_length_iff.2 hv
  have hf: ∀f:Int→Int,(us.map f).getD (us.idxOf v) 0=f v:=fun f=>by
   rw[List.getD_eq_getElem?_getD,List.getElem?_map,List.getElem?_eq_getElem hk,List.getElem_idxOf];rfl
  simp only[G,List.mem_map,List.mem_filter]
  constructor
  ·rintro⟨t,⟨ht,hp⟩,rfl⟩
   obtain⟨f,rfl,h⟩:=(grow_fun hn).1 ht
   exact⟨f,h,hp,(hf f).symm⟩
  ·rintro⟨f,h,hp,rfl⟩
   exact⟨us.map f,⟨(grow_fun hn).2 ⟨f,rfl,h⟩,hp⟩,hf f⟩
 have hks:keepsW P us.length (growR (us.map (domAt d)) us.length)=us.map G:=by
  apply List.ext_getElem (by simp[keepsW])
  intro k h1 h2
  have h3:k<us.length:=by simpa using h2
  simp only[keepsW,List.getElem_map,List.getElem_range,G,nodup_idx hn h3]
 have e:putsW d us (keepsW P us.length (growR (us.map (domAt d)) us.length)) us.length=us.foldl (fun a u=>a.set u.toNat (pack (sortU (G u)))) d:=by
  rw[hks]
  unfold putsW
  rw[List.take_of_length_le (by simp),zip_foldl (γ:=Doms) G]
 rw[e,foldl_set_at (fun u=>pack (sortU (G u))) us d i fun u hu=>(h0 u hu).1]
 constructor
 ·intro h;rw[if_neg fun h2=>h h2.1]
 ·intro h
  have:=h0 _ h
  rw[if_pos ⟨h,by simpa using this.2⟩]
  refine⟨_,rfl,pack_ok (sortU_up _),fun x=> ?_⟩
  rw[vals_pack (sortU_up _),sortU_mem]
  exact hG _ h x
theorem kept_eq {d out:Doms}{us:List Int}{P:List Int→Bool}(hn:us.Nodup)(h0: ∀u∈us,0≤u∧u.toNat<d.length)(hl:out.length=d.length)(hok: ∀x∈out,DomOk x)
  (h1: ∀v∈us,∀x,x∈vals (domAt out v)↔SuppK d us P v x) (h2: ∀i:Nat,(i:Int)∉us→out[i]? =d[i]?):putsW d us (keepsW P us.length (growR (us.map (domAt d)) us.length)) us.length=out:=by
 apply List.ext_getElem?
 intro i
 obtain⟨h3,h4⟩:=puts_at (P:=P) hn h0 i
 by_cases hi:(i:Int)∈us
 ·obtain⟨y,hy,hd,hx⟩:=h4 hi
  have hlt:=(h0 _ hi).2
  have ho:out[i]? =some (domAt out i):=by
   have:=domAt_some (d:=out) (v:=(i:Int)) (by omega)
   simpa using this
  rw[hy,ho]
  congr 1
  refine dom_ext hd (hok _ (List.mem_of_getElem? ho)) (up_ext (vals_up hd) (vals_up (hok _ (List.mem_of_getElem? ho))) fun x=> ?_)
  rw[hx x,h1 _ hi x]
 ·rw[h3 hi,h2 i hi]
end Go.Proofs.YtlcobmehnaeebaaGreat
