/- The texts FvM, PuT, PvD, FvA, FvC, PvC, FvD, FvE, LiH, FvF, PuE, FvG, FvN, FvI, FvJ, FvO, FvP, FvH, FvQ, FvR, FvS, FvT, FvU, PvI of the workplace, joined. -/
import Derived.Test.YtlcobmehnaeebaaGreatB8
namespace Go.Proofs.YtlcobmehnaeebaaGreat
open Go Go.RowKit
set_option linter.unusedVariables false
set_option linter.unusedSimpArgs false
set_option maxRecDepth 8000
theorem indexG_spec {p:Int→Bool}{f:FuncId}(caps:List PV)(l:List Int)(hp: ∀v∈l,Spec Tryz.prog f false (.int .i64 v::caps) [.val (.bool (p v))])(hl:l.length*8≤140737488355328):Spec Tryz.prog 119 false [ints l,.fn (.func f) [] caps] [.val (.int .i64 (indexP p l))]:=by
 refine Spec.body Tryz.func119 rfl rfl rfl fun w0 Z0=> ?_
 repeat(refine .A ?_;conv=>whnf)
 refine T.K (T.listI l (fun pre=> ∀v∈pre,p v=false) (fun n pre post=>⟨[(0,.val false (ints l)),(1,.val false (.fn (.func f) [] caps)),(7,.val true (.int .i64 (l.map cI).length)),(8,.val true (.int .i64 n))],[],0⟩) (fun _ _ h=>h) (fun v hv=>by cases hv) ?_ ?_)
 ·rintro n pre v post h hn hi ih
  have hlt:=at_lt h hn
  have hsp:=hp v (by rw[h];simp)
  repeat(refine .A ?_;conv=>whnf)
  refine T.ct2 rfl (lt_at h hn) ?_
  repeat(refine .A ?_;conv=>whnf)
  refine .I (r:=cI v) (row_at h hn) ?_
  repeat(refine .A ?_;conv=>whnf)
  refine .C hsp ?_
  repeat(refine .A ?_;conv=>whnf)
  refine T.cond rfl (fun h2=> ?_) (fun h2=> ?_)
  ·have h2:p v=true:=h2
   repeat(refine .A ?_;conv=>whnf)
   have e:indexP p l=(n:Int):=by
    unfold indexP
    rw[h,List.findIdx?_append,List.findIdx?_eq_none_iff.2 (by simpa using hi),List.findIdx?_cons,if_pos h2]
    simp[hn]
   rw[e]
   exact⟨_,.v rfl rfl rfl (fun _=>rfl) .nil⟩
  ·have h2:p v=false:=h2
   repeat(refine .A ?_;conv=>whnf)
   rw[wrap1 hlt (by omega)]
   exact T.K (ih (by
    intro x hx
    rcases List.mem_append.1 hx with hx|hx
    ·exact hi x hx
    ·rw[List.mem_singleton.1 hx];exact h2))
 ·intro hi
  have e:indexP p l= -1:=by
   unfold indexP
   rw[List.findIdx?_eq_none_iff.2 (by simpa using hi)]
  rw[e]
  repeat(refine .A ?_;conv=>whnf)
  refine T.cf2 rfl lt_end ?_
  repeat(refine .A ?_;conv=>whnf)
  exact⟨_,.v rfl rfl rfl (fun _=>rfl) .nil⟩
theorem indexP_cases (p:Int→Bool)(l:List Int):(indexP p l= -1∧∀v∈l,p v=false)∨∃i:Nat,i<l.length∧indexP p l=(i:Int)∧p (l.getD i 0)=true∧∀v∈l.take i,p v=false:=by
 unfold indexP
 cases h:l.findIdx? p with
 |none=>exact .inl ⟨rfl,by simpa using List.findIdx?_eq_none_iff.1 h⟩
 |some i=>
  obtain⟨h1,h2,h3⟩:=List.findIdx?_eq_some_iff_getElem.1 h
  refine .inr ⟨i,h1,rfl,by rw[getD_at h1];exact h2,fun v hv=> ?_⟩
  obtain⟨j,hj⟩:=List.getElem?_of_mem hv
  have hjl:=(List.getElem?_eq_some_iff.1 hj).1
  have hji:j<i:=by simp at hjl;omega
  have:=h3 j hji
  rw[List.getElem?_take_of_lt hji,List.getElem?_eq_getElem (by omega)]at hj
  rw[←Option.some.inj hj]
  simpa using this
structure DelInv (p:Int→Bool)(l:List Int)(j:Nat)(L:List Int):Prop where
 len:L.length=l.length
 le:j≤l.length
 lt:((l.take j).filter fun x=> !p x).length<j
 tk:L.take ((l.take j).filter fun x=> !p x).length=(l.take j).filter fun x=> !p x
 dr:L.drop j=l.drop j
theorem DelInv.at {p:Int→Bool}{l L:List Int}{j:Nat}(h:DelInv p l j L)(hj:j<l.length):L.getD j 0=l.getD j 0:=by
 have h1:=h.dr
 have hL:=h.len
 rw[List.drop_eq_getElem_cons (by omega),List.drop_eq_getElem_cons hj]at h1
 rw[getD_at (by omega),getD_at hj]
 exact(List.cons.inj h1).1
theorem DelInv.step {p:Int→Bool}{l L:List Int}{j:Nat}(h:DelInv p l j L)(hj:j<l.length):
  (p (l.getD j 0)=true→DelInv p l (j+1) L∧((l.take (j+1)).filter fun x=> !p x).length=((l.take j).filter fun x=> !p x).length)∧
  (p (l.getD j 0)=false→DelInv p l (j+1) (L.set ((l.take j).filter fun x=> !p x).length (l.getD j 0))∧((l.take (j+1)).filter fun x=> !p x).length=((l.take j).filter fun x=> !p x).length+1):=by
 obtain⟨h1,h2,h3,h4,h5⟩:=h
 have ht:l.take (j+1)=l.take j++[l.getD j 0]:=by rw[List.take_succ_eq_append_getElem hj,getD_at hj]
 have hd:L.drop (j+1)=l.drop (j+1):=by
  have:=congrArg (List.drop 1) h5
  rwa[List.drop_drop,List.drop_drop]at this
 refine⟨fun hp=> ?_,fun hp=> ?_⟩
 ·have e:(l.take (j+1)).filter (fun x=> !p x)=(l.take j).filter fun x=> !p x:=by rw[List.getD_eq_getElem?_getD]at hp;rw[ht,List.filter_append];simp[hp]
  exact⟨⟨h1,hj,by rw[e];omega,by rw[e];exact h4,hd⟩,by rw[e]⟩
 ·have e:(l.take (j+1)).filter (fun x=> !p x)=((l.take j).filter fun x=> !p x)++[l.getD j 0]:=by rw[List.getD_eq_getElem?_getD]at hp;rw[ht,List.filter_append];simp[hp]
  refine⟨⟨by simpa using h1,hj,by rw[e];simp;omega,?_,?_⟩,by rw[e];simp⟩
  ·rw[e,List.length_append,List.length_singleton,List.take_succ_eq_append_getElem (by simp;omega),List.getElem_set_self,List.take_set_of_le (Nat.le_refl _),h4]
  ·rw[List.drop_set_of_lt (by omega)]
   exact hd
theorem deleteF_spec {p:Int→Bool}{f:FuncId}(caps:List PV)(l:List Int)(hp: ∀v∈l,Spec Tryz.prog f false (.int .i64 v::caps) [.val (.bool (p v))])(hl:l.length*8≤140737488355328):
  SpecP Tryz.prog 67 [] [] 3 1 (l.map cI) [.fn (.func f) [] caps] ((l.filter fun x=> !p x).map cI):=by
 refine SpecP.body Tryz.func67 rfl rfl rfl (fun r hr q hq=>by obtain⟨x,_,rfl⟩:=List.mem_map.1 hr;simp[cI]at hq;rw[hq];rfl) fun w0 v0 Z1=> ?_
 have hix:=indexG_spec caps l hp hl
 have hcs:=indexP_cases p l
 generalize indexP p l=i0 at*
 repeat(refine .A ?_;conv=>whnf)
 refine .C hix ?_
 repeat(refine .A ?_;conv=>whnf)
 rcases hcs with ⟨rfl,hall⟩|⟨i,hi,rfl,hpi,hbe⟩
 ·refine T.ct rfl ?_
  repeat(refine .A ?_;conv=>whnf)
  rw[List.filter_eq_self.2 (fun x hx=>by rw[hall x hx];rfl)]
  exact⟨4,0,rfl,rfl,rfl⟩
 ·refine T.cf2 rfl (decide_eq_false (by omega)) ?_
  have hf0:(l.take i).filter (fun x=> !p x)=l.take i:=List.filter_eq_self.2 (fun x hx=>by rw[hbe x hx];rfl)
  have hf1:(l.take (i+1)).filter (fun x=> !p x)=l.take i:=by
   rw[List.getD_eq_getElem?_getD]at hpi;rw[List.take_succ_eq_append_getElem hi,List.filter_append,hf0,←getD_at hi];simp[hpi]
  have hinv:DelInv p l (i+1) l:=⟨rfl,hi,by rw[hf1];simp;omega,by rw[hf1];simp[Nat.min_eq_left (Nat.le_of_lt hi)],rfl⟩
  repeat(refine .A ?_;conv=>whnf)
  rw[wrap1 hi hl]
  refine T.K (T.ind (fun s:Nat×Nat×List Int=>⟨[(0,.ref 0),(1,.val false (.fn (.func f) [] caps)),(5,.val true (.int .i64 s.2.1)),(6,.val true (.int .i64 s.1))],[(0,some (.sl 3 1 true (s.2.2.map cI)))],1⟩)
   (fun s=>DelInv p l s.1 s.2.2∧s.2.1=((l.take s.1).filter fun x=> !p x).length) (fun s=>l.length-s.1) (i+1,i,l) ⟨hinv,by simp only;rw[hf1];simp;omega⟩ (fun _ _ h=>h) ?_)
  rintro⟨j,k,L⟩ ⟨hinv,hk⟩ ih
  simp only at hinv hk
  dsimp only
  have hle:=hinv.le
  have hlen:=hinv.len
  have hlt:=hinv.lt
  rw[←hk]at hlt
  repeat(refine .A ?_;conv=>whnf)
  refine T.cd rfl (fun h6=> ?_) (fun h6=> ?_)
  ·have h6:j<l.length:=by simp at h6;omega
   have hrow:(L.map cI)[((j:Nat):Int).toNat]? =some (cI (l.getD j 0)):=by
    rw[←hinv.at h6,getD_at (by omega)];exact row_i (by omega)
   obtain⟨hs1,hs2⟩:=hinv.step h6
   have hsp:=hp (l.getD j 0) (by rw[getD_at h6];exact List.getElem_mem _)
   have hw1:IntKind.i64.wrap ((j:Int)+1)=((j+1:Nat):Int):=wrap1 h6 hl
   have hw2:IntKind.i64.wrap ((k:Int)+1)=((k+1:Nat):Int):=wrap1 (l:=l.length) (by omega) hl
   have ih1:=fun k2 L2 h1 h2=>ih (j+1,k2,L2) ⟨h1,h2⟩ (by show _-_<_-_;omega)
   rw[←hk]at hs1 hs2
   repeat(refine .A ?_;conv=>whnf)
   refine J.io rfl rfl rfl rfl rfl rfl rfl rfl rfl (by omega) (by simp;omega) rfl ?_
   repeat(refine .A ?_;conv=>whnf)
   refine J.lo rfl rfl rfl rfl rfl rfl (r:=cI (l.getD j 0)) hrow rfl ?_
   repeat(refine .A ?_;conv=>whnf)
   refine .C hsp ?_
   repeat(refine .A ?_;conv=>whnf)
   cases hpv:p (l.getD j 0)with
   |true=>
    obtain⟨a1,a2⟩:=hs1 hpv
    refine T.cf rfl ?_
    repeat(refine .A ?_;conv=>whnf)
    rw[hw1]
    exact T.K (ih1 k L a1 a2.symm)
   |false=>
    obtain⟨a1,a2⟩:=hs2 hpv
    refine T.ct rfl ?_
    repeat(refine .A ?_;conv=>whnf)
    refine J.io rfl rfl rfl rfl rfl rfl rfl rfl rfl (by omega) (by simp;omega) rfl ?_
    repeat(refine .A ?_;conv=>whnf)
    refine J.w1 rfl rfl rfl rfl rfl rfl rfl rfl rfl rfl rfl (enc:=cI) (z:=l.getD j 0) (fun _=>rfl) (by simp;omega) ?_
    repeat(refine .A ?_;conv=>whnf)
    rw[hw1,hw2]
    exact T.K (ih1 (k+1) _ a1 a2.symm)
  ·have h6:j=l.length:=by simp at h6;omega
   have htk:=hinv.tk
   subst h6
   rw[←hk]at htk
   rw[List.take_length]at htk
   repeat(refine .A ?_;conv=>whnf)
   refine J.clr (l:=L) k rfl rfl rfl rfl rfl rfl rfl (by omega) rfl rfl rfl (fun w=>by kernel_rfl) rfl rfl rfl rfl (fun _=>rfl) fun u=> ?_
   repeat(refine .A ?_;conv=>whnf)
   refine J.cut (l:=L.take k++List.replicate (L.length-k) 0) k rfl rfl rfl rfl rfl rfl rfl (by simp;omega) rfl rfl ?_
   repeat(refine .A ?_;conv=>whnf)
   rw[show(L.take k++List.replicate (L.length-k) (0:Int)).take k=l.filter fun x=> !p x by rw[List.take_append_of_le_length (by simp;omega),List.take_take,Nat.min_self,htk]]
   exact⟨4,1,rfl,rfl,rfl⟩
theorem sh_doms {D:Doms}{p:PV}(h:Sh (doms D) p): ∃D':Doms,p=doms D'∧D'.map List.length=D.map List.length:=by
 cases h with
 |sl rs ts h=>
  have: ∀(D:Doms) (ts:List (List PV)),L2 (L2 Sh) (D.map cD) ts→∃D':Doms,ts=D'.map cD∧D'.map List.length=D.map List.length:=by
   intro D
   induction D with
   |nil=>intro ts h;cases h;exact⟨[],rfl,rfl⟩
   |cons x D ih=>
    intro ts h
    cases h with
    |cons h1 h2=>
     obtain⟨D',rfl,e⟩:=ih _ h2
     cases h1 with
     |cons h3 h4=>
      cases h4
      cases h3 with
      |sl rs ts h5=>
       have: ∀(x:List (Int×Int)) (ts:List (List PV)),L2 (L2 Sh) (x.map cR) ts→∃x':List (Int×Int),ts=x'.map cR∧x'.length=x.length:=by
        intro x
        induction x with
        |nil=>intro ts h;cases h;exact⟨[],rfl,rfl⟩
        |cons r x ih=>
         intro ts h
         cases h with
         |cons h1 h2=>
          obtain⟨x',rfl,e⟩:=ih _ h2
          cases h1 with
          |cons h3 h4=>cases h4 with
           |cons h5 h6=>
            cases h6
            cases h3
            cases h5
            rename_i a b
            exact⟨(a,b)::x',rfl,by simp[e]⟩
       obtain⟨x',rfl,e2⟩:=this _ _ h5
       exact⟨x'::D',rfl,by simp[e,e2]⟩
  obtain⟨D',rfl,e⟩:=this _ _ h
  exact⟨D',rfl,e⟩
def clP (d:Doms)(c:Con)(us t:List Int):Bool:=holdsR c (fillW d.length us t us.length)
theorem lit_iff {x k:Int}(hk:k=1∨k= -1):litH (x,k)=true↔x=litW k:=by
 rcases hk with rfl|rfl
 ·rw[lit_1];simp[litH]
 ·rw[lit_m];simp[litH]
theorem clP_iff {d:Doms}{c:Con}(h:ClOk d c)(hk:c.kind=5)(f:Int→Int):clP d c (sortU c.vars) ((sortU c.vars).map f)=true↔∃p∈c.vars.zip c.coefs,f p.1=litW p.2:=by
 have hin: ∀u∈sortU c.vars,0≤u∧u.toNat<d.length:=fun u hu=>h.vin u ((sortU_mem u _).1 hu)
 have hat: ∀v∈c.vars,atR (fillW d.length (sortU c.vars) ((sortU c.vars).map f) (sortU c.vars).length) v=f v:=fun v hv=>fillW_at f hin ((sortU_mem v _).2 hv)
 have hp:pickedR c.vars (fillW d.length (sortU c.vars) ((sortU c.vars).map f) (sortU c.vars).length)=c.vars.map f:=List.map_congr_left fun v hv=>hat v hv
 unfold clP holdsR
 rw[if_neg (by omega),if_neg (by omega),if_neg (by omega),if_neg (by omega),if_neg (by omega),if_pos hk,hp,List.any_eq_true]
 constructor
 ·rintro⟨q,hq,hl⟩
  obtain⟨i,hi⟩:=List.getElem?_of_mem hq
  rw[List.getElem?_zip_eq_some]at hi
  obtain⟨h1,h2⟩:=hi
  rw[List.getElem?_map]at h1
  obtain⟨v,hv,e⟩:=Option.map_eq_some_iff.1 h1
  refine⟨(v,q.2),List.mem_of_getElem? (i:=i) (List.getElem?_zip_eq_some.2 ⟨hv,h2⟩),?_⟩
  rw[show q=(q.1,q.2)from rfl,lit_iff (h.unit _ (List.mem_of_getElem? h2))]at hl
  rw[←hl,←e]
 ·rintro⟨p,hp,e⟩
  obtain⟨i,hi⟩:=List.getElem?_of_mem hp
  rw[List.getElem?_zip_eq_some]at hi
  refine⟨(f p.1,p.2),List.mem_of_getElem? (i:=i) (List.getElem?_zip_eq_some.2 ⟨by rw[List.getElem?_map,hi.1];rfl,hi.2⟩),?_⟩
  rw[lit_iff (h.unit _ (List.mem_of_getElem? hi.2))]
  exact e
theorem zip_inj {c:Con}(hn:c.vars.Nodup){p q:Int×Int}(hp:p∈c.vars.zip c.coefs)(hq:q∈c.vars.zip c.coefs)(h:p.1=q.1):p=q:=by
 obtain⟨i,hi⟩:=List.getElem?_of_mem hp
 obtain⟨j,hj⟩:=List.getElem?_of_mem hq
 have e:i=j:=by
  rw[List.getElem?_zip_eq_some]at hi hj
  obtain⟨h1,h2⟩:=List.getElem?_eq_some_iff.1 hi.1
  obtain⟨h3,h4⟩:=List.getElem?_eq_some_iff.1 hj.1
  exact(List.getElem_inj hn).1 (h2.trans (h.trans h4.symm))
 subst e
 exact Option.some.inj (hi.symm.trans hj)
theorem clause_kept {d:Doms}{c:Con}(h:ClOk d c)(hk:c.kind=5)(hf: ∀x∈d,Fine x):keptR d (sortU c.vars) (clP d c (sortU c.vars))=clauseW d c:=by
 have hus: ∀u,u∈sortU c.vars↔u∈c.vars:=fun u=>sortU_mem u _
 have hnd:(sortU c.vars).Nodup:=up_nodup (sortU_up _)
 have hin: ∀u∈sortU c.vars,0≤u∧u.toNat<d.length:=fun u hu=>h.vin u ((hus u).1 hu)
 have hP:=clP_iff h hk
 have hpv: ∀p∈c.vars.zip c.coefs,p.1∈c.vars:=fun p hp=>(List.of_mem_zip hp).1
 have hlb: ∀p,litB d p=true↔litW p.2∈vals (domAt d p.1):=fun p=>has_iff
 unfold keptR
 rw[clauseW_eq h.len]
 by_cases hm: []∈d
 ·rw[if_pos hm,if_pos hm]
 rw[if_neg hm,if_neg hm]
 have hne: ∀v∈c.vars,∃x,x∈vals (domAt d v):=by
  intro v hv
  have hd:=hf _ (domAt_mem (h.vin v hv).2)
  have:domAt d v≠[]:=fun e=>hm (e▸domAt_mem (h.vin v hv).2)
  exact⟨_,least_mem hd.ok this⟩
 obtain⟨g,hg⟩: ∃g:Int→Int,∀v∈c.vars,g v∈vals (domAt d v):=⟨fun v=>leastR (domAt d v),fun v hv=>least_mem (hf _ (domAt_mem (h.vin v hv).2)).ok fun e=>hm (e▸domAt_mem (h.vin v hv).2)⟩
 cases hL:(c.vars.zip c.coefs).filter (litB d)with
 |nil=>
  have hno: ∀p∈c.vars.zip c.coefs,litB d p=false:=fun p hp=>by
   have:=List.filter_eq_nil_iff.1 hL p hp
   simpa using this
  obtain⟨v,hv⟩: ∃v,v∈c.vars:=⟨c.vars[0]'h.pos,List.getElem_mem _⟩
  have hvi:=h.vin v hv
  obtain⟨y,hy,hyd,hyv⟩:=(puts_at (P:=clP d c (sortU c.vars)) hnd hin v.toNat).2 (by rw[Int.toNat_of_nonneg hvi.1];exact(hus v).2 hv)
  have hy0:y=[]:=by
   refine(vals_ne hyd).1 (List.eq_nil_iff_forall_not_mem.2 fun x hx=> ?_)
   obtain⟨f,hf1,hf2,_⟩:=(hyv x).1 hx
   obtain⟨p,hp,e⟩:=(hP f).1 hf2
   have:=hf1 p.1 ((hus _).2 (hpv p hp))
   rw[e]at this
   have:=hno p hp
   rw[(hlb p).2 ‹_›]at this
   cases this
  subst hy0
  unfold toldO
  rw[if_pos (List.mem_of_getElem? hy)]
  rfl
 |cons p l=>
  have hp:p∈c.vars.zip c.coefs∧litB d p=true:=List.mem_filter.1 (by rw[hL];exact .head _)
  have hpl:=(hlb p).1 hp.2
  have hpi:=h.vin _ (hpv p hp.1)
  have hpd:=hf _ (domAt_mem hpi.2)
  cases l with
  |nil=>
   obtain⟨hc1,hc2⟩:=domCut_ok hpd.ok (litW p.2) (litW p.2)
   have hcv: ∀x,x∈vals (domCut (domAt d p.1) (litW p.2) (litW p.2))↔x=litW p.2:=fun x=>by
    rw[hc2]
    constructor
    ·rintro⟨_,h1,h2⟩;omega
    ·rintro rfl;exact⟨hpl,by omega,by omega⟩
   have hcn:domCut (domAt d p.1) (litW p.2) (litW p.2)≠[]:=fun e=>by
    have:=(hcv (litW p.2)).2 rfl
    rw[e]at this
    cases this
   have honly: ∀q∈c.vars.zip c.coefs,litB d q=true→q=p:=fun q hq hb=>by
    have:q∈(c.vars.zip c.coefs).filter (litB d):=List.mem_filter.2 ⟨hq,hb⟩
    rw[hL]at this
    simpa using this
   have hkeep:clF d [p]=some (d.set p.1.toNat (domCut (domAt d p.1) (litW p.2) (litW p.2))):=by
    show keepO d p.1 (litW p.2)=_
    unfold keepO
    rw[if_neg hcn]
   rw[hkeep,kept_eq (out:=d.set p.1.toNat (domCut (domAt d p.1) (litW p.2) (litW p.2))) hnd hin (by simp) ?_ ?_ ?_]
   ·unfold toldO
    rw[if_neg fun hc=>hcn ((set_empty hpi.2 hm).1 hc)]
   ·intro x hx
    rcases List.mem_or_eq_of_mem_set hx with hx|rfl
    ·exact(hf x hx).ok
    ·exact hc1
   ·intro v hv x
    have hvc:=(hus v).1 hv
    have hvi:=h.vin v hvc
    rw[domAt_set hpi.2]
    by_cases e:p.1.toNat=v.toNat
    ·have e2:p.1=v:=by omega
     rw[if_pos e,hcv]
     subst e2
     constructor
     ·rintro rfl
      refine⟨fun u=>if u=p.1 then litW p.2 else g u,fun u hu=> ?_,(hP _).2 ⟨p,hp.1,if_pos rfl⟩,if_pos rfl⟩
      by_cases e3:u=p.1
      ·simp only[e3,if_true];exact hpl
      ·simp only[e3,if_false];exact hg u ((hus u).1 hu)
     ·rintro⟨f,hf1,hf2,rfl⟩
      obtain⟨q,hq,e3⟩:=(hP f).1 hf2
      have:=hf1 q.1 ((hus _).2 (hpv q hq))
      rw[e3]at this
      have:=honly q hq ((hlb q).2 this)
      subst this
      exact e3
    ·have e2:p.1≠v:=fun e2=>e (by rw[e2])
     rw[if_neg e]
     constructor
     ·intro hx
      refine⟨fun u=>if u=p.1 then litW p.2 else if u=v then x else g u,fun u hu=> ?_,(hP _).2 ⟨p,hp.1,if_pos rfl⟩,by simp only[Ne.symm e2,if_false,if_true]⟩
      by_cases e3:u=p.1
      ·simp only[e3,if_true];exact hpl
      ·by_cases e4:u=v
       ·subst e4;simp only[e3,if_false,if_true];exact hx
       ·simp only[e3,e4,if_false];exact hg u ((hus u).1 hu)
     ·rintro⟨f,hf1,_,rfl⟩
      exact hf1 v hv
   ·intro i hi
    rw[List.getElem?_set_ne]
    rintro rfl
    exact hi (by rw[Int.toNat_of_nonneg hpi.1];exact(hus _).2 (hpv p hp.1))
  |cons q l=>
   have hq:q∈c.vars.zip c.coefs∧litB d q=true:=List.mem_filter.1 (by rw[hL];exact .tail _ (.head _))
   have hql:=(hlb q).1 hq.2
   have hpq:p.1≠q.1:=by
    intro e
    have e2:=zip_inj h.nod hp.1 hq.1 e
    have hz:(c.vars.zip c.coefs).Nodup:=by
     refine List.Pairwise.of_map (S:=(· ≠ ·)) Prod.fst (fun a b hne e=>hne (by rw[e])) ?_
     rw[List.map_fst_zip (by rw[h.len];exact Nat.le_refl _)]
     exact h.nod
    have:=hz.filter (litB d)
    rw[hL,e2]at this
    simp at this
   have hcl:clF d (p::q::l)=some d:=rfl
   rw[hcl,kept_eq (out:=d) hnd hin rfl (fun x hx=>(hf x hx).ok) ?_ (fun _ _=>rfl)]
   ·unfold toldO;rw[if_neg hm]
   ·intro v hv x
    constructor
    ·intro hx
     obtain⟨r,hr,hrv⟩: ∃r,(r∈c.vars.zip c.coefs∧litW r.2∈vals (domAt d r.1))∧r.1≠v:=by
      by_cases e:p.1=v
      ·exact⟨q,⟨hq.1,hql⟩,fun e2=>hpq (e.trans e2.symm)⟩
      ·exact⟨p,⟨hp.1,hpl⟩,e⟩
     refine⟨fun u=>if u=r.1 then litW r.2 else if u=v then x else g u,fun u hu=> ?_,(hP _).2 ⟨r,hr.1,if_pos rfl⟩,by simp only[Ne.symm hrv,if_false,if_true]⟩
     by_cases e3:u=r.1
     ·simp only[e3,if_true];exact hr.2
     ·by_cases e4:u=v
      ·subst e4;simp only[e3,if_false,if_true];exact hx
      ·simp only[e3,e4,if_false];exact hg u ((hus u).1 hu)
    ·rintro⟨f,hf1,_,rfl⟩
     exact hf1 v hv
theorem rclause_spec (d:Doms)(c:Con)(us:List Int)(hu:us=sortU c.vars)(P:List Int→Bool)(hcl:c.vars.length*8≤140737488355328)(hk:Spec Tryz.prog 91 false [doms d,.agg (cC c),ints us] [.val (doms ((keptR d us P).getD [])),.val (.bool (keptR d us P).isSome)]):
  Spec Tryz.prog 41 false [doms d,.agg (cC c)] [.val (doms ((keptR d us P).getD [])),.val (.bool (keptR d us P).isSome)]:=by
 refine Spec.body Tryz.func41 rfl rfl rfl fun w0 Z0=> ?_
 have hso:=sorted_spec c.vars hcl
 rw[←hu]at hso
 generalize (keptR d us P).getD []=D at*
 generalize (keptR d us P).isSome=b at*
 repeat(refine .A ?_;conv=>whnf)
 refine .C hso ?_
 repeat(refine .A ?_;conv=>whnf)
 refine .C hk ?_
 repeat(refine .A ?_;conv=>whnf)
 exact⟨_,.v rfl rfl rfl (fun _=>rfl) (.v rfl rfl rfl (fun _=>rfl) .nil)⟩
abbrev Uses:=List (Int×List Int)
def mpU (u:Uses):Own:= .mp true none (u.map fun p=>(Value.int .i64 p.1,ints p.2))
def nextP (n:Nat)(o:Seen):Option Nat:=(List.range n).find? fun i=>(lkA o (i:Int)).getD false
def boxQ (rows:List (List PV))(ua uu:Value):Own:= .box true [.sl rows,.raw ua,.raw uu]
theorem next_spec (rows:List (List PV))(o:Seen)(uq ua uu:Value)(hl:rows.length≤4611686018427387904):
  SpecO Tryz.prog 46 false [uq,ua] [boxQ rows ua uu,mpS o] [.raw uq] [boxQ rows ua uu,mpS (match nextP rows.length o with
   |some i=>dlA o (i:Int)
   |none=>o)] (fun _=>[]) (fun _=>[.int .i64 ((nextP rows.length o).getD 0:Nat),.bool (nextP rows.length o).isSome]):=by
 refine SpecO.body [1001,1002] [] Tryz.func46 rfl rfl rfl rfl fun w0 Z1=> ?_
 refine T.sub (Rel.derawp (s:=0) (g:=1001) rfl rfl rfl) ?_
 repeat(refine .A ?_;conv=>whnf)
 refine T.K (T.ind (fun i:Nat=>⟨[(0,.optr 0 0 0 0),(9,.val true (.int .i64 rows.length)),(10,.val true (.int .i64 i)),(1001,.eq uq 0),(1002,.eq ua 1)],[(0,some (boxQ rows ua uu)),(1,some (mpS o))],2⟩)
  (fun i=>i≤rows.length∧∀j,j<i→(lkA o (j:Int)).getD false=false) (fun i=>rows.length-i) 0 ⟨by simp,fun j hj=>by omega⟩ (fun _ _ h=>h) ?_)
 rintro i ⟨hi,hb⟩ ih
 repeat(refine .A ?_;conv=>whnf)
 refine T.cd rfl (fun h1=> ?_) (fun h1=> ?_)
 ·have h1:i<rows.length:=by simpa using h1
  repeat(refine .A ?_;conv=>whnf)
  refine J.sub (Rel.deraw (s:=16) (g:=1002) rfl rfl) ?_
  repeat(refine .A ?_;conv=>whnf)
  refine J.ml (i:Int) (.bool false) rfl rfl rfl rfl rfl rfl rfl rfl rfl zeroB (fun _ _=> .bool _) (keyI Tryz.underlying3) (fun _ _ _ h=>rep_int h) ?_
  have hmb:((lkA o (i:Int)).map PV.bool).getD (.bool false)= .bool ((lkA o (i:Int)).getD false):=by cases lkA o (i:Int)<;>rfl
  rw[hmb]
  by_cases hs:(lkA o (i:Int)).getD false=true
  ·have hn:nextP rows.length o=some i:=by
    unfold nextP
    rw[List.find?_range_eq_some]
    exact⟨hs,by simpa using h1,fun j hj=>by simpa using hb j hj⟩
   rw[hn,hs]
   repeat(refine .A ?_;conv=>whnf)
   refine T.ct rfl ?_
   repeat(refine .A ?_;conv=>whnf)
   refine J.sub (Rel.deraw (s:=22) (g:=1002) rfl rfl) ?_
   repeat(refine .A ?_;conv=>whnf)
   refine J.dl (i:Int) rfl rfl rfl rfl rfl rfl rfl rfl rfl rfl (keyI Tryz.underlying3) (fun _ _ _ h=>rep_int h) ?_
   repeat(refine .A ?_;conv=>whnf)
   exact⟨[0,1],[],[],⟨rfl,rfl,rfl,rfl,rfl,rfl,trivial⟩,trivial,rfl,.v rfl rfl rfl (fun _=>rfl) (.v rfl rfl rfl (fun _=>rfl) .nil)⟩
  ·rw[eq_false_of_ne_true hs]
   repeat(refine .A ?_;conv=>whnf)
   refine T.cf rfl ?_
   repeat(refine .A ?_;conv=>whnf)
   have hw:IntKind.i64.wrap ((i:Int)+1)=((i+1:Nat):Int):=by rw[wrap_id (by omega) (by omega)];omega
   rw[hw]
   refine T.K (ih (i+1) ⟨by omega,fun j hj=> ?_⟩ (by omega))
   by_cases e:j=i
   ·subst e;exact eq_false_of_ne_true hs
   ·exact hb j (by omega)
 ·have h1:i=rows.length:=by simp at h1;omega
  subst h1
  have hn:nextP rows.length o=none:=by
   unfold nextP
   rw[List.find?_eq_none]
   intro j hj
   rw[hb j (List.mem_range.1 hj)]
   simp
  rw[hn]
  repeat(refine .A ?_;conv=>whnf)
  exact⟨[0,1],[],[],⟨rfl,rfl,rfl,rfl,rfl,rfl,trivial⟩,trivial,rfl,.v rfl rfl rfl (fun _=>rfl) (.v rfl rfl rfl (fun _=>rfl) .nil)⟩
def openAll (l:List Int)(o:Seen):Seen:=l.foldl (fun o i=>upA o i true) o
theorem zeroL (w:World):(zeroValue 24).run Tryz.prog w= .ok (.slice none 0 0) w:=by kernel_rfl
theorem changed_spec (rows:List (List PV))(o:Seen)(u:Uses)(v:Int)(uq ua uu:Value)(hl: ∀p∈u,p.2.length*8≤140737488355328):
  SpecO Tryz.prog 48 false [uq,ua,uu] [boxQ rows ua uu,mpS o,mpU u] [.raw uq,.int .i64 v] [boxQ rows ua uu,mpS (openAll ((lkA u v).getD []) o),mpU u] (fun _=>[]) (fun _=>[]):=by
 refine SpecO.body [1001,1002,1003] [] Tryz.func48 rfl rfl rfl rfl fun w0 Z1=> ?_
 refine T.sub (Rel.derawp (s:=0) (g:=1001) rfl rfl rfl) ?_
 refine T.sub (Rel.fine (s:=1) rfl rfl) ?_
 repeat(refine .A ?_;conv=>whnf)
 refine J.sub (Rel.deraw (s:=9) (g:=1003) rfl rfl) ?_
 repeat(refine .A ?_;conv=>whnf)
 refine J.ml v (.sl []) rfl rfl rfl rfl rfl rfl rfl rfl rfl zeroL (fun _ _=> .nilsl) (keyI Tryz.underlying3) (fun _ _ _ h=>rep_int h) ?_
 have hmb:((lkA u v).map ints).getD (.sl [])=ints ((lkA u v).getD []):=by cases lkA u v<;>rfl
 rw[hmb]
 have hll:((lkA u v).getD []).length*8≤140737488355328:=by
  cases h:lkA u v with
  |none=>simp
  |some l=>exact hl _ (lk_mem h)
 generalize hL:(lkA u v).getD []=l at*
 generalize hR:openAll l o=R
 repeat(refine .A ?_;conv=>whnf)
 refine T.K (T.ind (fun x:Nat×Seen=>⟨[(0,.optr 0 0 0 0),(11,.val true (ints l)),(12,.val true (.int .i64 (l.map cI).length)),(13,.val true (.int .i64 x.1)),(1001,.eq uq 0),(1002,.eq ua 1),(1003,.eq uu 2)],[(0,some (boxQ rows ua uu)),(1,some (mpS x.2)),(2,some (mpU u))],3⟩)
  (fun x=>x.1≤l.length∧openAll (l.drop x.1) x.2=R) (fun x=>l.length-x.1) (0,o) ⟨by simp,hR⟩ (fun _ _ h=>h) ?_)
 rintro⟨i,s⟩ ⟨hi,hR⟩ ih
 simp only at hi hR
 dsimp only
 repeat(refine .A ?_;conv=>whnf)
 refine T.cd rfl (fun h1=> ?_) (fun h1=> ?_)
 ·have h1:i<l.length:=by simpa using h1
  rw[List.drop_eq_getElem_cons h1]at hR
  repeat(refine .A ?_;conv=>whnf)
  refine .I (r:=cI l[i]) (row_i h1) ?_
  repeat(refine .A ?_;conv=>whnf)
  refine J.sub (Rel.deraw (s:=20) (g:=1002) rfl rfl) ?_
  repeat(refine .A ?_;conv=>whnf)
  refine J.mu l[i] true rfl rfl rfl rfl rfl rfl rfl rfl rfl rfl rfl (keyI Tryz.underlying3) (fun _ _ _ h=>rep_int h) rfl ?_
  repeat(refine .A ?_;conv=>whnf)
  rw[wrap1 (l:=l.length) h1 hll]
  exact T.K (ih (i+1,upA s l[i] true) ⟨by omega,hR⟩ (by show _-_<_-_;omega))
 ·have h1:i=l.length:=by simp at h1;omega
  subst h1
  rw[List.drop_length]at hR
  obtain rfl:s=R:=hR
  repeat(refine .A ?_;conv=>whnf)
  exact⟨[0,1,2],[],[],⟨rfl,rfl,rfl,rfl,rfl,rfl,rfl,rfl,rfl,trivial⟩,trivial,rfl,.nil⟩
abbrev nilS:Value:= .slice none 0 0
def fvL (L:FamL)(k:Int):Value:=(L.getD k.toNat (nilS,[])).1
def usesAdd (u:Uses)(i:Int)(vs:List Int):Uses:=vs.foldl (fun u v=>upA u v ((lkA u v).getD []++[i])) u
def begunGo:Nat→List Con→Seen→Uses→Seen×Uses
 |_,[],o,u=>(o,u)
 |i,c::cs,o,u=>begunGo (i+1) cs (upA o i true) (usesAdd u i (usesR c))
def begunP (cons:List Con):Seen×Uses:=begunGo 0 cons [] []
theorem lk_mapv {β γ:Type}(f:Int→γ)(a:Int): ∀u:List (Int×β),lkA (u.map fun p=>(p.1,f p.1)) a=(lkA u a).map fun _=>f a
 | []=>rfl
 |p::u=>by
  rw[List.map_cons,lkA_cons,lkA_cons,lk_mapv f a u]
  by_cases h:p.1=a
  ·simp[h]
  ·simp[h]
theorem up_mapv {β γ:Type}{f f':Int→γ}{a:Int}{y:γ}{x:β}(h2:f' a=y): ∀u:List (Int×β),(u.map (·.1)).Nodup→(∀p∈u,p.1≠a→f' p.1=f p.1)→upA (u.map fun p=>(p.1,f p.1)) a y=(upA u a x).map fun p=>(p.1,f' p.1)
 | [],_,_=>by simp[upA,fiA,h2]
 |p::u,hn,h1=>by
  have hn:=List.nodup_cons.1 hn
  rw[List.map_cons,up_cons,up_cons]
  by_cases h:p.1=a
  ·rw[if_pos h,if_pos h,List.map_cons,h2]
   congr 1
   refine List.map_congr_left fun q hq=> ?_
   have:q.1≠a:=fun e=>hn.1 (List.mem_map.2 ⟨q,hq,e.trans h.symm⟩)
   rw[h1 q (.tail _ hq) this]
  ·rw[if_neg h,if_neg h,List.map_cons,h1 p (.head _) h,up_mapv h2 u hn.2 fun q hq=>h1 q (.tail _ hq)]
theorem up_keys {β:Type}{a:Int}{x:β}: ∀u:List (Int×β),(u.map (·.1)).Nodup→((upA u a x).map (·.1)).Nodup
 | [],_=>by simp[upA,fiA]
 |p::u,hn=>by
  have hn2:=List.nodup_cons.1 hn
  rw[up_cons]
  by_cases h:p.1=a
  ·rw[if_pos h]
   have e:((a,x)::u).map (·.1)=(p::u).map (·.1):=by simp[h]
   rw[e];exact hn
  ·rw[if_neg h,List.map_cons]
   refine List.nodup_cons.2 ⟨fun hm=> ?_,up_keys u hn2.2⟩
   obtain⟨q,hq,e⟩:=List.mem_map.1 hm
   rcases mem_upA hq with hq|rfl
   ·exact hn2.1 (List.mem_map.2 ⟨q,hq,e⟩)
   ·exact h e.symm
theorem lk_of_mem {β:Type}: ∀{u:List (Int×β)},(u.map (·.1)).Nodup→∀{p:Int×β},p∈u→lkA u p.1=some p.2
 |q::u,hn,p,hp=>by
  have hn2:=List.nodup_cons.1 hn
  rw[lkA_cons]
  rcases List.mem_cons.1 hp with rfl|hp
  ·rw[if_pos rfl]
  ·have:q.1≠p.1:=fun e=>hn2.1 (List.mem_map.2 ⟨p,hp,e.symm⟩)
   rw[if_neg this]
   exact lk_of_mem hn2.2 hp
structure UsOk (N t:Nat)(u:Uses)(L:FamL):Prop where
 rows:L.map (·.2)=(List.range N).map fun k:Nat=>((lkA u (k:Int)).getD []).map cI
 nil: ∀k:Nat,lkA u (k:Int)=none→(L.getD k (nilS,[])).1=nilS
 nod:(u.map (·.1)).Nodup
 ks: ∀p∈u,0≤p.1∧p.1.toNat<N
 len: ∀p∈u,p.2.length≤t
theorem UsOk.at {N t:Nat}{u:Uses}{L:FamL}(h:UsOk N t u L){k:Nat}(hk:k<N): ∃v,L[k]? =some (v,((lkA u (k:Int)).getD []).map cI)∧fvL L k=v:=by
 have e:(L.map (·.2))[k]? =some (((lkA u (k:Int)).getD []).map cI):=by rw[h.rows,List.getElem?_map,List.getElem?_range hk];rfl
 rw[List.getElem?_map]at e
 obtain⟨p,hp,e2⟩:=Option.map_eq_some_iff.1 e
 refine⟨p.1,by rw[hp,←e2],?_⟩
 unfold fvL
 rw[Int.toNat_natCast,List.getD_eq_getElem?_getD,hp];rfl
theorem UsOk.put {N t:Nat}{u:Uses}{L:FamL}(h:UsOk N t u L){v i:Int}(h0:0≤v)(hv:v.toNat<N)(u':Value):
  UsOk N (t+1) (upA u v ((lkA u v).getD []++[i])) (L.set v.toNat (u',((lkA u v).getD []++[i]).map cI))∧
  upA (u.map fun p=>(p.1,fvL L p.1)) v u'=(upA u v ((lkA u v).getD []++[i])).map fun p=>(p.1,fvL (L.set v.toNat (u',((lkA u v).getD []++[i]).map cI)) p.1):=by
 have hL:L.length=N:=by have:=congrArg List.length h.rows;simpa using this
 have ev:((v.toNat:Nat):Int)=v:=by omega
 have hlen:((lkA u v).getD []).length≤t:=by
  cases hc:lkA u v with
  |none=>simp
  |some l=>exact h.len _ (lk_mem hc)
 refine⟨⟨?_,fun k hk=> ?_,up_keys u h.nod,fun p hp=> ?_,fun p hp=> ?_⟩,up_mapv ?_ u h.nod fun p hp hne=> ?_⟩
 ·rw[List.map_set,h.rows,range_set]
  refine List.map_congr_left fun j _=> ?_
  rw[lk_up]
  by_cases e:j=v.toNat
  ·rw[if_pos e,if_pos (by omega)];rfl
  ·rw[if_neg e,if_neg (by omega)]
 ·rw[lk_up]at hk
  split at hk
  ·cases hk
  ·rename_i hne
   rw[List.getD_eq_getElem?_getD,List.getElem?_set_ne (by omega),←List.getD_eq_getElem?_getD]
   exact h.nil k hk
 ·rcases mem_upA hp with hp|rfl
  ·exact h.ks p hp
  ·exact⟨h0,hv⟩
 ·rcases mem_upA hp with hp|rfl
  ·have:=h.len p hp;omega
  ·simp;omega
 ·unfold fvL
  rw[List.getD_eq_getElem?_getD,List.getElem?_set_self (by omega)];rfl
 ·have:=h.ks p hp
  unfold fvL
  rw[List.getD_eq_getElem?_getD,List.getElem?_set_ne (by omega),←List.getD_eq_getElem?_getD]
def consPV (cons:List Con):PV:= .sl (cons.map cC)
def mpR (u:Uses)(L:FamL):Own:= .mp true none ((u.map fun p=>(p.1,fvL L p.1)).map fun p=>(Value.int .i64 p.1,PV.raw p.2))
theorem begun_spec (cons:List Con)(N:Nat)(hc: ∀c∈cons,ConB c)(hN: ∀c∈cons,∀v∈usesR c,0≤v∧v.toNat<N)(hl:cons.length*128≤140737488355328)(hM:((cons.map fun c=>(usesR c).length).sum+1)*8≤140737488355328):
  SpecO Tryz.prog 45 true [] [] [consPV cons] [] (fun ns=>[boxQ (cons.map cC) (ns.getD 1 undef) (ns.getD 2 undef),mpS (begunP cons).1,mpU (begunP cons).2]) (fun ns=>[.raw (ns.getD 0 undef)]):=by
 refine SpecO.body [] [1001,1002,1003] Tryz.func45 rfl rfl rfl rfl fun w0 Z1=> ?_
 generalize hM2:(cons.map fun c=>(usesR c).length).sum=M at hM
 generalize hR:begunP cons=R
 repeat(refine .A ?_;conv=>whnf)
 refine J.mm rfl rfl rfl rfl ?_
 refine J.mm rfl rfl rfl rfl ?_
 refine J.name 1002 (s:=9) rfl rfl rfl fun ua=> ?_
 refine J.name 1003 (s:=10) rfl rfl rfl fun uu=> ?_
 refine J.sub (Rel.raw (s:=9) (g:=1002) rfl (.inl rfl) rfl rfl rfl) ?_
 refine J.sub (Rel.raw (s:=10) (g:=1003) rfl (.inl rfl) rfl rfl rfl) ?_
 repeat(refine .A ?_;conv=>whnf)
 refine T.sub (fun a w h=>Rel.fam0 N 3 1 h) ?_
 refine T.nameO 1004 3 rfl rfl fun U0=> ?_
 refine T.name 1001 (s:=3) rfl rfl rfl fun uq=> ?_
 have hcl:(cons.map cC).length=cons.length:=List.length_map ..
 refine T.K (T.ind (fun x:Nat×Seen×Uses×Value×FamL=>⟨[(3,.optr 0 0 0 0),(13,.val true (consPV cons)),(14,.val true (.int .i64 (cons.map cC).length)),(15,.val true (.int .i64 x.1)),(1001,.eq uq 0),(1002,.eq ua 1),(1003,.eq uu 2),(1004,.eq x.2.2.2.1 3)],[(0,some (boxQ (cons.map cC) ua uu)),(1,some (mpS x.2.1)),(2,some (mpR x.2.2.1 x.2.2.2.2)),(3,some (.fam 3 1 true x.2.2.2.2))],4⟩)
  (fun x=>x.1≤cons.length∧begunGo x.1 (cons.drop x.1) x.2.1 x.2.2.1=R∧∃t,UsOk N t x.2.2.1 x.2.2.2.2∧t+((cons.drop x.1).map fun c=>(usesR c).length).sum≤M) (fun x=>cons.length-x.1) (0,[],[],U0,List.replicate N (nilS,[]))
  ⟨by simp,hR,0,⟨by simp[List.map_const',lk_nil],fun k hk=> ?_,.nil,by simp,by simp⟩,by simp[hM2]⟩ (fun _ _ h=>h) ?_)
 ·show((List.replicate N ((nilS,[]):Value×List (List PV))).getD k (nilS,[])).1=nilS
  rw[List.getD_eq_getElem?_getD]
  cases hk:(List.replicate N ((nilS,[]):Value×List (List PV)))[k]? with
  |none=>rfl
  |some p=>rw[List.eq_of_mem_replicate (List.mem_of_getElem? hk)];rfl
 rintro⟨i,o,u,U,L⟩ ⟨hi,hR,t,hu,ht⟩ ih
 simp only at hi hR hu ht
 dsimp only
 repeat(refine .A ?_;conv=>whnf)
 refine T.cd rfl (fun h1=> ?_) (fun h1=> ?_)
 ·have h1:i<cons.length:=by simpa using h1
  have hrow:(cons.map cC)[((i:Nat):Int).toNat]? =some (cC cons[i]):=by simp[h1]
  have hcb:=hc _ (List.getElem_mem h1)
  have hin:=hN _ (List.getElem_mem h1)
  have hus:=muses_spec cons[i] hcb
  rw[List.drop_eq_getElem_cons h1]at hR ht
  rw[begunGo]at hR
  simp only[List.map_cons,List.sum_cons]at ht
  generalize cons[i]=c at*
  generalize usesR c=vs at*
  repeat(refine .A ?_;conv=>whnf)
  refine .I (r:=cC c) hrow ?_
  repeat(refine .A ?_;conv=>whnf)
  refine J.al rfl rfl rfl rfl rfl rfl rfl ?_
  repeat(refine .A ?_;conv=>whnf)
  refine J.w rfl rfl rfl rfl rfl rfl rfl rfl rfl rfl ?_
  repeat(refine .A ?_;conv=>whnf)
  refine J.sub (Rel.deraw (s:=23) (g:=1002) rfl rfl) ?_
  repeat(refine .A ?_;conv=>whnf)
  refine J.mu (i:Int) true rfl rfl rfl rfl rfl rfl rfl rfl rfl rfl rfl (keyI Tryz.underlying3) (fun _ _ _ h=>rep_int h) rfl ?_
  repeat(refine .A ?_;conv=>whnf)
  refine .C hus.frz ?_
  repeat(refine .A ?_;conv=>whnf)
  generalize hu1:usesAdd u i vs=u1 at hR
  generalize hrest:((cons.drop (i+1)).map fun c=>(usesR c).length).sum=rest at ht
  refine T.K (T.ind (fun x:Nat×Uses×Value×FamL=>⟨[(3,.optr 0 0 0 0),(4,.val true (.int .i64 i)),(13,.val true (consPV cons)),(14,.val true (.int .i64 (cons.map cC).length)),(15,.val true (.int .i64 i)),(26,.val true (ints vs)),(27,.val true (.int .i64 (vs.map cI).length)),(28,.val true (.int .i64 x.1)),(1001,.eq uq 0),(1002,.eq ua 1),(1003,.eq uu 2),(1004,.eq x.2.2.1 3)],[(0,some (boxQ (cons.map cC) ua uu)),(1,some (mpS (upA o (i:Int) true))),(2,some (mpR x.2.1 x.2.2.2)),(3,some (.fam 3 1 true x.2.2.2))],4⟩)
   (fun x=>x.1≤vs.length∧usesAdd x.2.1 i (vs.drop x.1)=u1∧∃t,UsOk N t x.2.1 x.2.2.2∧t+(vs.length-x.1)+rest≤M) (fun x=>vs.length-x.1) (0,u,U,L) ⟨by simp,hu1,t,hu,by simp;omega⟩ (fun _ _ h=>h) ?_)
  rintro⟨j,u,U,L⟩ ⟨hj,hu1,t,hu,ht⟩ ih2
  simp only at hj hu1 hu ht
  dsimp only
  repeat(refine .A ?_;conv=>whnf)
  refine T.cd rfl (fun h2=> ?_) (fun h2=> ?_)
  ·have h2:j<vs.length:=by simpa using h2
   have hv:=hin _ (List.getElem_mem h2)
   have hvr:(vs.map cI)[((j:Nat):Int).toNat]? =some (cI vs[j]):=row_i h2
   rw[List.drop_eq_getElem_cons h2]at hu1
   generalize vs[j]=v at*
   obtain⟨uk,hk,hfv⟩:=hu.at hv.2
   have ev:((v.toNat:Nat):Int)=v:=by omega
   rw[ev]at hk hfv
   have hpu:=fun u'=>hu.put (i:=(i:Int)) hv.1 hv.2 u'
   have hkl:((lkA u v).getD []).length≤t:=by
    cases hc:lkA u v with
    |none=>simp
    |some l=>exact hu.len _ (lk_mem hc)
   have hval:((lkA (u.map fun p=>(p.1,fvL L p.1)) v).map fun x=>PV.raw x)=some (.raw uk)∨(lkA (u.map fun p=>(p.1,fvL L p.1)) v=none∧nilS=uk):=by
    rw[lk_mapv]
    cases hc:lkA u v with
    |some l=>exact .inl (by simp[hfv])
    |none=>
     refine .inr ⟨rfl,?_⟩
     have:=hu.nil v.toNat (by rw[ev];exact hc)
     rw[List.getD_eq_getElem?_getD,hk]at this
     exact this.symm
   generalize hold:((lkA u v).getD []:List Int)=old at*
   repeat(refine .A ?_;conv=>whnf)
   refine .I (r:=cI v) hvr ?_
   repeat(refine .N ?_;conv=>whnf)
   refine T.sub (fun a w h=>Rel.split 1005 v.toNat (q:=3) rfl rfl hk h) ?_
   refine T.rdw 14 rfl (by kernel_rfl) rfl ?_
   iterate 8 refine J.H rfl ?_
   refine J.lr 1003 (q:=2) (u:=uu) rfl rfl rfl rfl rfl rfl rfl rfl rfl ?_
   refine J.H rfl ?_
   refine J.lm 1005 v rfl rfl rfl rfl rfl rfl rfl rfl rfl zeroL (keyI Tryz.underlying3) (fun _ _ _ h=>rep_int h) hval rfl rfl ?_
   refine J.H rfl ?_
   refine .V ?_
   refine J.ad rfl rfl rfl rfl rfl rfl rfl rfl rfl rfl rfl rfl rfl rfl rfl rfl rfl rfl (one_len rfl) (by show(List.length _+1)*8≤_;simp;omega) ?_
   refine J.nil ⟨rfl,?_⟩
   refine J.name 1006 (s:=45) rfl rfl rfl fun u'=> ?_
   refine J.sub (Rel.raw (s:=45) (g:=1006) rfl (.inl rfl) rfl rfl rfl) ?_
   refine J.sub (Rel.deraw (s:=35) (g:=1003) rfl rfl) ?_
   refine J.mu v u' rfl rfl rfl rfl rfl rfl rfl rfl rfl rfl rfl (keyI Tryz.underlying3) (fun _ _ _ h=>rep_int h) rfl ?_
   refine J.sub (fun a w h=>Rel.join v.toNat (g:=1006) (q:=5) (n:=6) (rows:=(old++[(i:Int)]).map cI) rfl (by rw[List.map_append];rfl) rfl rfl h) ?_
   refine J.nil ?_
   refine T.nameO 1004 7 rfl rfl fun U3=> ?_
   repeat(refine .A ?_;conv=>whnf)
   rw[wrap1 (l:=vs.length) h2 (by omega),List.set_set,(hpu u').2]
   have hih:=ih2 (j+1,upA u v (old++[(i:Int)]),U3,L.set v.toNat (u',(old++[(i:Int)]).map cI)) ⟨by omega,by rw[←hu1,←hold];rfl,t+1,(hpu u').1,by show t+1+(vs.length-(j+1))+rest≤M;omega⟩ (by show _-_<_-_;omega)
   exact T.K hih
  ·have h2:j=vs.length:=by simp at h2;omega
   subst h2
   rw[List.drop_length]at hu1
   obtain rfl:u=u1:=hu1
   repeat(refine .A ?_;conv=>whnf)
   rw[wrap1 (l:=cons.length) h1 (by omega)]
   have hih:=ih (i+1,upA o (i:Int) true,u,U,L) ⟨by omega,hR,t,hu,by show t+((cons.drop (i+1)).map fun c=>(usesR c).length).sum≤M;omega⟩ (by show _-_<_-_;omega)
   exact T.K hih
 ·have h1:i=cons.length:=by simp at h1;omega
  subst h1
  rw[List.drop_length,begunGo]at hR
  subst hR
  have hin: ∀p∈u.map fun p=>(Value.int .i64 p.1,fvL L p.1,p.2.map cI),p.2∈L:=by
   intro p hp
   obtain⟨q,hq,rfl⟩:=List.mem_map.1 hp
   have hks:=hu.ks q hq
   obtain⟨v,h1,h2⟩:=hu.at hks.2
   have ev:((q.1.toNat:Nat):Int)=q.1:=by omega
   rw[ev]at h1 h2
   have hlk:lkA u q.1=some q.2:=by
    obtain⟨i,hi⟩:=List.getElem?_of_mem hq
    exact lk_of_mem hu.nod hq
   rw[hlk]at h1
   simp only[h2]
   exact List.mem_of_getElem? h1
  have hmp:mpR u L= .mp true none ((u.map fun p=>(Value.int .i64 p.1,fvL L p.1,p.2.map cI)).map fun p=>(p.1,PV.raw p.2.1)):=by
   unfold mpR
   rw[List.map_map,List.map_map];rfl
  refine T.sub (fun a w h=>Rel.meltM (qc:=2) (q:=3) (e:=3) (sz:=1) (frc:=true) (fr:=true) (b:=none) (L:=L) (u.map fun p=>(Value.int .i64 p.1,fvL L p.1,p.2.map cI)) hin (fun b h=>by obtain⟨u,hu,_⟩:=h;cases hu) (by exact congrArg some hmp) rfl rfl h) ?_
  refine T.sub (Rel.raw (s:=3) (g:=1001) rfl (.inr rfl) rfl rfl rfl) ?_
  rw[show((u.map fun p=>(Value.int .i64 p.1,fvL L p.1,p.2.map cI)).map fun p=>(p.1,PV.sl p.2.2))=u.map fun p=>(Value.int .i64 p.1,ints p.2)from by rw[List.map_map];rfl]
  repeat(refine .A ?_;conv=>whnf)
  exact⟨[],[0,1,2],[uq,ua,uu],trivial,⟨rfl,rfl,rfl,rfl,rfl,rfl,rfl,rfl,rfl,trivial⟩,rfl,.v rfl rfl rfl (fun _=>rfl) .nil⟩
def openB (o:Seen)(j:Nat):Bool:=(lkA o (j:Int)).getD false
theorem openAll_lk (c:Int): ∀(l:List Int) (o:Seen),lkA (openAll l o) c=if c∈l then some true else lkA o c
 | [],o=>by simp[openAll]
 |x::l,o=>by
  have:=openAll_lk c l (upA o x true)
  rw[show openAll (x::l) o=openAll l (upA o x true)from rfl,this,lk_up]
  by_cases h:c∈l
  ·rw[if_pos h,if_pos (.tail _ h)]
  ·rw[if_neg h]
   by_cases e:x=c
   ·rw[if_pos e,if_pos (by rw[e];exact .head _)]
   ·rw[if_neg e,if_neg (fun hm=>(List.mem_cons.1 hm).elim (fun h2=>e h2.symm) h)]
theorem openAll_nod: ∀(l:List Int) (o:Seen),(o.map (·.1)).Nodup→((openAll l o).map (·.1)).Nodup
 | [],o,h=>h
 |x::l,o,h=>openAll_nod l (upA o x true) (up_keys o h)
theorem dl_cons {β:Type}(p:Int×β)(l:List (Int×β))(a:Int):dlA (p::l) a=if p.1=a then l else p::dlA l a:=by
 unfold dlA
 rw[fi_cons]
 by_cases h:p.1=a
 ·rw[if_pos h,if_pos h];rfl
 ·rw[if_neg h,if_neg h]
  cases fiA l a<;>simp
theorem dl_sub {β:Type}(a:Int): ∀l:List (Int×β),(dlA l a).Sublist l
 | []=>by simp[dlA,fiA]
 |p::l=>by
  rw[dl_cons]
  split
  ·exact List.sublist_cons_self _ _
  ·exact(dl_sub a l).cons_cons p
theorem dl_lk {β:Type}(a c:Int): ∀l:List (Int×β),(l.map (·.1)).Nodup→lkA (dlA l a) c=if a=c then none else lkA l c
 | [],_=>by simp[dlA,fiA,lk_nil]
 |p::l,hn=>by
  have hn2:=List.nodup_cons.1 hn
  have hno:p.1=c→lkA l c=none:=fun e=>by
   cases h:lkA l c with
   |none=>rfl
   |some b=>exact absurd (List.mem_map.2 ⟨(c,b),lk_mem h,e.symm⟩) hn2.1
  rw[dl_cons]
  by_cases h:p.1=a
  ·rw[if_pos h,lkA_cons]
   by_cases e:a=c
   ·rw[if_pos e];exact hno (h.trans e)
   ·rw[if_neg e,if_neg (fun h2=>e (h.symm.trans h2))]
  ·rw[if_neg h,lkA_cons,lkA_cons,dl_lk a c l hn2.2]
   by_cases e:p.1=c
   ·rw[if_pos e,if_pos e,if_neg (fun h2=>h (e.trans h2.symm))]
   ·rw[if_neg e,if_neg e]
theorem usesAdd_lk (i c:Int): ∀(vs:List Int) (u:Uses),vs.Nodup→(lkA (usesAdd u i vs) c).getD []=if c∈vs then(lkA u c).getD []++[i]else(lkA u c).getD []
 | [],u,_=>by simp[usesAdd]
 |v::vs,u,hn=>by
  have hn2:=List.nodup_cons.1 hn
  rw[show usesAdd u i (v::vs)=usesAdd (upA u v ((lkA u v).getD []++[i])) i vs from rfl,usesAdd_lk i c vs _ hn2.2,lk_up]
  by_cases e:v=c
  ·subst e
   rw[if_neg hn2.1,if_pos rfl,if_pos (.head _)];rfl
  ·rw[if_neg e]
   by_cases h:c∈vs
   ·rw[if_pos h,if_pos (.tail _ h)]
   ·rw[if_neg h,if_neg (fun hm=>(List.mem_cons.1 hm).elim (fun h2=>e h2.symm) h)]
theorem begun_lk: ∀(cons:List Con) (i:Nat) (o:Seen) (u:Uses),(o.map (·.1)).Nodup→
  (((begunGo i cons o u).1).map (·.1)).Nodup∧(∀j,openB (begunGo i cons o u).1 j=if i≤j∧j<i+cons.length then true else openB o j)∧
  ∀(v x:Int),x∈(lkA (begunGo i cons o u).2 v).getD []↔x∈(lkA u v).getD []∨∃k c,cons[k]? =some c∧v∈usesR c∧x=((i+k:Nat):Int)
 | [],i,o,u,h=>⟨h,fun j=>by rw[if_neg (by simp)];rfl,fun v x=>by simp[begunGo]⟩
 |c::cons,i,o,u,h=>by
  obtain⟨h1,h2,h3⟩:=begun_lk cons (i+1) (upA o i true) (usesAdd u i (usesR c)) (up_keys o h)
  refine⟨h1,fun j=> ?_,fun v x=> ?_⟩
  ·have e1:openB (upA o i true) j=if i=j then true else openB o j:=by
    unfold openB
    rw[lk_up]
    by_cases e:i=j
    ·rw[if_pos e,if_pos (by omega)];rfl
    ·rw[if_neg e,if_neg (by omega)]
   rw[begunGo,h2 j,e1]
   by_cases e:i=j
   ·rw[if_pos e,ite_self,if_pos (by simp;omega)]
   ·rw[if_neg e]
    by_cases hj:i+1≤j∧j<i+1+cons.length
    ·rw[if_pos hj,if_pos (by simp;omega)]
    ·rw[if_neg hj,if_neg (by simp;omega)]
  ·rw[begunGo,h3 v x,usesAdd_lk _ _ (usesR c) u (up_nodup (sortU_up _))]
   constructor
   ·rintro(hx|⟨k,c',h4,h5,h6⟩)
    ·split at hx
     ·rename_i hv
      rcases List.mem_append.1 hx with hx|hx
      ·exact .inl hx
      ·exact .inr ⟨0,c,rfl,hv,by rw[List.mem_singleton.1 hx];rfl⟩
     ·exact .inl hx
    ·exact .inr ⟨k+1,c',by simpa using h4,h5,by rw[h6];congr 1;omega⟩
   ·rintro(hx|⟨k,c',h4,h5,h6⟩)
    ·refine .inl ?_
     split
     ·exact List.mem_append_left _ hx
     ·exact hx
    ·cases k with
     |zero=>
      simp at h4
      subst h4
      rw[if_pos h5]
      exact .inl (List.mem_append_right _ (by rw[h6];exact .head _))
     |succ k=>exact .inr ⟨k,c',by simpa using h4,h5,by rw[h6];congr 1;omega⟩
theorem usesAdd_len {t:Nat}(i:Int): ∀(vs:List Int) (u:Uses),(∀p∈u,p.2.length≤t)→∀p∈usesAdd u i vs,p.2.length≤t+vs.length
 | [],u,h,p,hp=>h p hp
 |v::vs,u,h,p,hp=>by
  have:=usesAdd_len (t:=t+1) i vs (upA u v ((lkA u v).getD []++[i])) (fun q hq=>by
   rcases mem_upA hq with hq|rfl
   ·have:=h q hq;omega
   ·have:((lkA u v).getD []).length≤t:=by
     cases hc:lkA u v with
     |none=>simp
     |some l=>exact h _ (lk_mem hc)
    simp;omega) p hp
  simp;omega
theorem begun_len: ∀(cons:List Con) (i t:Nat) (o:Seen) (u:Uses),(∀p∈u,p.2.length≤t)→∀p∈(begunGo i cons o u).2,p.2.length≤t+(cons.map fun c=>(usesR c).length).sum
 | [],i,t,o,u,h,p,hp=>by simpa[begunGo]using h p hp
 |c::cons,i,t,o,u,h,p,hp=>by
  have:=begun_len cons (i+1) (t+(usesR c).length) (upA o i true) (usesAdd u i (usesR c)) (usesAdd_len _ _ _ h) p hp
  simp only[List.map_cons,List.sum_cons]
  omega
def AllEnds (cons:List Con)(d:Doms)(R:Option Doms):Prop:=Ends leD (GoodD d.length) oneO cons d R
open Classical in
noncomputable def allO (cons:List Con)(d:Doms):Option Doms:=if h: ∃R:Option Doms,AllEnds cons d R then h.choose else none
theorem allO_eq {cons:List Con}{d:Doms}{R:Option Doms}(h:AllEnds cons d R):R=allO cons d:=by
 have hex: ∃R:Option Doms,AllEnds cons d R:=⟨R,h⟩
 unfold allO
 rw[dif_pos hex]
 exact Ends.one (orderD d.length) (fun _=>Iff.rfl) h hex.choose_spec
theorem allO_empty {cons:List Con}{d:Doms}(h: []∈d):allO cons d=none:=by
 refine(allO_eq (R:=none) ?_).symm
 rintro⟨e,ge,hle,_⟩
 obtain⟨j,hj⟩:=List.getElem?_of_mem h
 have hjl:=(List.getElem?_eq_some_iff.1 hj).1
 obtain⟨x,hx⟩:=ge.ne (v:=(j:Int)) (by simpa using hjl)
 have:=hle.2 j x (by omega) hx
 unfold domAt at this
 rw[List.getD_eq_getElem?_getD,Int.toNat_natCast,hj]at this
 cases this
theorem leD.sub {n:Nat}{a b:Doms}(ga:GoodD n a)(gb:GoodD n b)(h:leD a b):Sub a b:=by
 refine⟨h.1,fun i x y hx hy v hv=> ?_⟩
 have h1:domAt a (i:Int)=x:=by
  unfold domAt;rw[List.getD_eq_getElem?_getD,Int.toNat_natCast,hx];rfl
 have h2:domAt b (i:Int)=y:=by
  unfold domAt;rw[List.getD_eq_getElem?_getD,Int.toNat_natCast,hy];rfl
 have:=h.2 (i:Int) v (by omega) (by rw[h1];exact hv)
 rwa[h2]at this
theorem weight_le {n:Nat}{a b:Doms}(ga:GoodD n a)(gb:GoodD n b)(h:leD a b):weight a≤weight b∧(a≠b→weight a<weight b):=weight_lt (leD.sub ga gb h) ga.few.fine gb.few.fine
def cntO (m:Nat)(o:Seen):Nat:=((List.range m).filter (openB o)).length
theorem cntO_le (m:Nat)(o:Seen):cntO m o≤m:=by
 have:=List.length_filter_le (openB o) (List.range m)
 simpa[cntO]using this
structure QInv (cons:List Con)(d:Doms)(x:Doms×Seen):Prop where
 come:Come leD (GoodD d.length) oneO cons d x.1
 nod:(x.2.map (·.1)).Nodup
 shut: ∀(j:Nat) c,cons[j]? =some c→openB x.2 j=false→oneO c x.1=some x.1
theorem qinv_begin {cons:List Con}{d:Doms}(gd:GoodD d.length d):QInv cons d (d,(begunP cons).1):=by
 obtain⟨h1,h2,_⟩:=begun_lk cons 0 [] [] .nil
 refine⟨Come.refl (orderD _) gd,h1,fun j c hj hb=> ?_⟩
 have hjl:=(List.getElem?_eq_some_iff.1 hj).1
 have:=h2 j
 rw[if_pos (by omega)]at this
 rw[show openB (d,(begunP cons).1).2 j=openB (begunGo 0 cons [] []).1 j from rfl,this]at hb
 cases hb
theorem qinv_end {cons:List Con}{d:Doms}{x:Doms×Seen}(h:QInv cons d x)(hn:nextP cons.length x.2=none):AllEnds cons d (some x.1):=by
 refine⟨h.come,fun c hc=> ?_⟩
 obtain⟨j,hj⟩:=List.getElem?_of_mem hc
 have hjl:=(List.getElem?_eq_some_iff.1 hj).1
 have:=List.find?_eq_none.1 hn j (List.mem_range.2 hjl)
 exact h.shut j c hj (by simpa[openB]using this)
theorem qinv_step {cons:List Con}{d:Doms}{P:Con→(Int→Int)→Prop}(hs: ∀c∈cons,StepOK d.length (usesR c) (P c) (oneO c)){x:Doms×Seen}{i:Nat}{c:Con}{now:Doms}{o2:Seen}(h:QInv cons d x)(hi:nextP cons.length x.2=some i)(hc:cons[i]? =some c)(hnow:oneO c x.1=some now)
  (ho: ∀j,openB o2 j=true↔openB (dlA x.2 (i:Int)) j=true∨∃v c',v<x.1.length∧x.1[v]? ≠now[v]? ∧cons[j]? =some c'∧(v:Int)∈usesR c') (hn2:(o2.map (·.1)).Nodup):
  QInv cons d (now,o2)∧weight now*(cons.length+1)+cntO cons.length o2<weight x.1*(cons.length+1)+cntO cons.length x.2:=by
 have O:=orderD d.length
 have hcm:=List.mem_of_getElem? hc
 have hst:=hs c hcm
 have gx:=h.come.fine
 have hcome:=h.come.step O hcm hst.takes hnow
 have gn:=hcome.fine
 have hlo:x.1.length=now.length:=by rw[gx.len,gn.len]
 have hle:=(hst.takes.less _ _ gx hnow).2
 have hopen:openB x.2 i=true∧i<cons.length:=by
  unfold nextP at hi
  rw[List.find?_range_eq_some]at hi
  exact⟨hi.1,by simpa using hi.2.1⟩
 have hd: ∀j,openB (dlA x.2 (i:Int)) j=if i=j then false else openB x.2 j:=fun j=>by
  unfold openB
  rw[dl_lk _ _ _ h.nod]
  by_cases e:i=j
  ·subst e;rw[if_pos rfl,if_pos rfl];rfl
  ·rw[if_neg (by omega),if_neg e]
 have same: ∀j c',cons[j]? =some c'→openB o2 j=false→∀u∈usesR c',domAt x.1 u=domAt now u:=fun j c' hj hb u hu=>by
  have hin:=(hs c' (List.mem_of_getElem? hj)).in' u hu
  have hne: ¬(x.1[u.toNat]? ≠now[u.toNat]?):=fun hne=>by
   have:=(ho j).2 (.inr ⟨u.toNat,c',by rw[gx.len];exact hin.2,hne,hj,by rw[show((u.toNat:Nat):Int)=u by omega];exact hu⟩)
   rw[hb]at this;cases this
  have e:=Classical.not_not.1 hne
  unfold domAt
  rw[List.getD_eq_getElem?_getD,List.getD_eq_getElem?_getD,e]
 refine⟨⟨hcome,hn2,fun j c' hj hb=> ?_⟩,?_⟩
 ·have hbd:openB (dlA x.2 (i:Int)) j=false:=by
   cases hh:openB (dlA x.2 (i:Int)) j with
   |false=>rfl
   |true=>rw[(ho j).2 (.inl hh)]at hb;cases hb
  rw[hd j]at hbd
  by_cases e:i=j
  ·subst e
   rw[hc]at hj
   obtain rfl:=Option.some.inj hj
   have hsm:=same i c hc hb
   have e:now=x.1:=doms_ext gn gx fun v y h0=>by
    by_cases hv:v∈usesR c
    ·rw[hsm v hv]
    ·rw[hst.off x.1 now gx hnow v h0 hv]
   show oneO c now=some now
   rw[e,hnow,e]
  ·rw[if_neg e]at hbd
   exact(hs c' (List.mem_of_getElem? hj)).stays x.1 now gx gn (h.shut j c' hj hbd) (same j c' hj hb)
 ·have hw:=weight_le gn gx hle
  by_cases e:now=x.1
  ·subst e
   have hcnt:cntO cons.length o2<cntO cons.length x.2:=by
    refine filter_lt (p:=openB x.2) (q:=openB o2) (List.range cons.length) i (fun j hj=> ?_) (List.mem_range.2 hopen.2) hopen.1 ?_
    ·rcases (ho j).1 hj with h1|⟨v,_,_,hne,_⟩
     ·rw[hd j]at h1
      split at h1
      ·cases h1
      ·exact h1
     ·exact absurd rfl hne
    ·cases hb:openB o2 i with
     |false=>rfl
     |true=>
      rcases (ho i).1 hb with h1|⟨v,_,_,hne,_⟩
      ·rw[hd i,if_pos rfl]at h1;cases h1
      ·exact absurd rfl hne
   omega
  ·have h1:=hw.2 e
   have h2:=cntO_le cons.length o2
   have h3:weight now*(cons.length+1)+(cons.length+1)≤weight x.1*(cons.length+1):=by
    have:=Nat.mul_le_mul_right (cons.length+1) h1
    rw[Nat.succ_mul]at this
    exact this
   omega
def oneV (x:List (Int×Int)):Bool:=decide ((vals x).length=1)
def solvedO (d:Doms):Option (List Int):=if d.all oneV=true then some (d.map leastR)else none
def numsRes (R:Option (List Int)):List RV:=[.own 3 1 ((R.getD []).map cI),.val (.bool R.isSome)]
theorem solvedO_no {pre post:Doms}{x:List (Int×Int)}(h:oneV x=false):solvedO (pre++x::post)=none:=by
 unfold solvedO
 rw[if_neg]
 simp[h]
theorem fsolved_spec (d:Doms)(hd:d.length*24≤140737488355328)(hf: ∀x∈d,Fine x):Spec Tryz.prog 18 false [doms d] (numsRes (solvedO d)):=by
 refine Spec.body Tryz.func18 rfl rfl rfl fun w0 Z0=> ?_
 generalize hR:solvedO d=R
 repeat(refine .A ?_;conv=>whnf)
 refine .O ?_
 repeat(refine .A ?_;conv=>whnf)
 refine T.K (T.listI d (fun pre=>pre.all oneV=true) (fun n pre post=>⟨[(4,.ref 0),(10,.val false (doms d)),(11,.val true (.int .i64 (d.map cD).length)),(12,.val true (.int .i64 n))],[(0,some (.sl 3 1 true ((pre.map leastR).map cI)))],1⟩) (fun _ _ h=>h) (by simp) ?_ ?_)
 ·rintro n pre x post h hn hi ih
  have hlt:=at_lt h hn
  have hfx:=hf x (by rw[h];simp)
  have hxl:=hfx.len
  have hs:=sizeW_eq hfx
  repeat(refine .A ?_;conv=>whnf)
  refine T.ct2 rfl (lt_at h hn) ?_
  repeat(refine .A ?_;conv=>whnf)
  refine .I (r:=cD x) (row_at h hn) ?_
  repeat(refine .A ?_;conv=>whnf)
  refine .C (least_spec x) ?_
  repeat(refine .A ?_;conv=>whnf)
  have no:oneV x=false→R=none:=fun hx=>by rw[←hR,h];exact solvedO_no hx
  cases hx:x.isEmpty with
  |true=>
   have hxe:x=[]:=by simpa using hx
   have hR2:=no (by rw[hxe];rfl)
   subst hR2
   repeat(refine .A ?_;conv=>whnf)
   refine T.ct rfl ?_
   repeat(refine .A ?_;conv=>whnf)
   exact⟨_,.ownN rfl (.v rfl rfl rfl (fun _=>rfl) .nil)⟩
  |false=>
   repeat(refine .A ?_;conv=>whnf)
   refine .C (size_spec x (by omega)) ?_
   repeat(refine .A ?_;conv=>whnf)
   refine T.cd rfl (fun h1=> ?_) (fun h1=> ?_)
   ·have hR2:=no (decide_eq_false fun e=>by
     rw[hs,e]at h1
     exact h1 rfl)
    subst hR2
    repeat(refine .A ?_;conv=>whnf)
    exact⟨_,.ownN rfl (.v rfl rfl rfl (fun _=>rfl) .nil)⟩
   ·have h1:oneV x=true:=decide_eq_true (by
     have:sizeW x=1:=Classical.not_not.1 h1
     rw[hs]at this;omega)
    repeat(refine .A ?_;conv=>whnf)
    refine .V ?_
    refine J.aI rfl rfl rfl rfl rfl rfl rfl rfl rfl rfl rfl rfl rfl rfl rfl rfl rfl rfl rfl (by simp;omega) ?_
    repeat(refine .A ?_;conv=>whnf)
    rw[wrap1 hlt (by omega)]
    have:=ih (by simp[hi,h1])
    rw[List.map_append]at this
    exact T.K this
 ·intro hi
  have hR:some (d.map leastR)=R:=by rw[←hR,solvedO,if_pos hi]
  subst hR
  repeat(refine .A ?_;conv=>whnf)
  refine T.cf2 rfl lt_end ?_
  repeat(refine .A ?_;conv=>whnf)
  exact⟨_,.o rfl rfl rfl (fun _=> .inl rfl) (by simp) (.v rfl rfl rfl (fun _=>rfl) .nil)⟩
theorem rsolved_spec (d:Doms)(hd:d.length*24≤140737488355328)(hf: ∀x∈d,Fine x):Spec Tryz.prog 19 false [doms d] (numsRes (solvedO d)):=by
 refine Spec.body Tryz.func19 rfl rfl rfl fun w0 Z0=> ?_
 generalize hR:solvedO d=R
 repeat(refine .A ?_;conv=>whnf)
 refine .O ?_
 repeat(refine .A ?_;conv=>whnf)
 refine T.K (T.ind (fun i:Nat=>⟨[(0,.val false (doms d)),(4,.ref 0),(5,.val true (.int .i64 i))],[(0,some (.sl 3 1 true (((d.take i).map leastR).map cI)))],1⟩) (fun i=>i≤d.length∧(d.take i).all oneV=true) (fun i=>d.length-i) 0 (by simp) (fun _ _ h=>h) ?_)
 rintro i ⟨hi,ho⟩ ih
 repeat(refine .A ?_;conv=>whnf)
 refine T.cd rfl (fun h1=> ?_) (fun h1=> ?_)
 ·have h1:i<d.length:=by simpa using h1
  have hfx:=hf _ (List.getElem_mem h1)
  have hv:=values_spec d[i] (dom_inB hfx.ok hfx.val) (by have:=hfx.few;omega) (by have:=hfx.len;omega)
  have hrow:(d.map cD)[((i:Nat):Int).toNat]? =some (cD d[i]):=by simp[h1]
  repeat(refine .A ?_;conv=>whnf)
  refine .I (r:=cD d[i]) hrow ?_
  repeat(refine .A ?_;conv=>whnf)
  refine .C hv.frz ?_
  repeat(refine .A ?_;conv=>whnf)
  refine T.cd rfl (fun h2=> ?_) (fun h2=> ?_)
  ·have h2:oneV d[i]=false:=decide_eq_false fun e=>by
    simp only[List.length_map]at h2
    exact h2 (by rw[e];rfl)
   have hR2:R=none:=by
    rw[←hR,←List.take_append_drop i d,List.drop_eq_getElem_cons h1]
    exact solvedO_no h2
   subst hR2
   repeat(refine .A ?_;conv=>whnf)
   refine .O ?_
   repeat(refine .A ?_;conv=>whnf)
   exact⟨_,.o rfl rfl rfl (fun _=> .inl rfl) (by simp) (.v rfl rfl rfl (fun _=>rfl) .nil)⟩
  ·have h2:(vals d[i]).length=1:=by
    have:(((vals d[i]).map cI).length:Int)=1:=Classical.not_not.1 h2
    rw[List.length_map]at this;omega
   have hlr:vals d[i]=[leastR d[i]]:=by
    obtain⟨x,hx⟩:=(one_iff hfx.ok).1 h2
    rw[hx];simp[vals,rng_self,leastR]
   rw[hlr]
   repeat(refine .A ?_;conv=>whnf)
   refine .I (r:=cI (leastR d[i])) rfl ?_
   repeat(refine .A ?_;conv=>whnf)
   refine .V ?_
   refine J.aI rfl rfl rfl rfl rfl rfl rfl rfl rfl rfl rfl rfl rfl rfl rfl rfl rfl rfl rfl (by simp;have:=hfx.few;omega) ?_
   repeat(refine .A ?_;conv=>whnf)
   rw[wrap1 (l:=d.length) h1 (by omega)]
   have:=ih (i+1) ⟨by omega,by rw[List.take_succ_eq_append_getElem h1,List.all_append,ho];simp[oneV,h2]⟩ (by omega)
   rw[List.take_succ_eq_append_getElem h1,List.map_append]at this
   exact T.K this
 ·have h1:i=d.length:=by simp at h1;omega
  subst h1
  rw[List.take_length]at ho⊢
  have hR:some (d.map leastR)=R:=by rw[←hR,solvedO,if_pos ho]
  subst hR
  repeat(refine .A ?_;conv=>whnf)
  exact⟨_,.o rfl rfl rfl (fun _=> .inl rfl) (by simp) (.v rfl rfl rfl (fun _=>rfl) .nil)⟩
structure ConsOk (d:Doms)(cons:List Con):Prop where
 con: ∀c∈cons,ConB c
 right: ∀c∈cons,conR d c=0
 few:cons.length*128≤140737488355328
 uses:((cons.map fun c=>(usesR c).length).sum+1)*8≤140737488355328
theorem ConsOk.step {d:Doms}{cons:List Con}(h:ConsOk d cons)(gd:GoodD d.length d): ∀c∈cons,StepOK d.length (usesR c) (fun g=>(c.kind=4→0≤g c.b∧g c.b≤1)→holdsR c (tabG d.length g)=true) (oneO c):=fun c hc=>one_step gd (h.con c hc) (h.right c hc)
theorem fall_spec (d:Doms)(cons:List Con)(hd:d.length*24≤140737488355328)(hx: ∀x∈d,Fine x∧(vals x).length≤4096)(hc:ConsOk d cons)
  (hone: ∀c∈cons,∀out,GoodD d.length out→leD out d→Spec Tryz.prog 13 false [doms out,.agg (cC c)] (pruneRes (oneO c out))):
  Spec Tryz.prog 16 false [doms d,consPV cons] (pruneRes (allO cons d)):=by
 refine Spec.body Tryz.func16 rfl rfl rfl fun w0 Z0=> ?_
 generalize hR:allO cons d=R
 repeat(refine .A ?_;conv=>whnf)
 refine T.sub (Rel.own0 (s:=6) 45 1 rfl) ?_
 refine T.K (T.listI d (fun pre=>[]∉pre) (fun n pre post=>⟨[(1,.val false (consPV cons)),(6,.ref 0),(15,.val false (doms d)),(16,.val true (.int .i64 (d.map cD).length)),(17,.val true (.int .i64 n))],[(0,some (.sl 45 1 true (pre.map cD)))],1⟩) (fun _ _ h=>h) (by simp) ?_ ?_)
 ·rintro n pre x post h hn hi ih
  have hlt:=at_lt h hn
  have hxl:=(hx x (by rw[h];simp)).1.len
  repeat(refine .A ?_;conv=>whnf)
  refine T.ct2 rfl (lt_at h hn) ?_
  repeat(refine .A ?_;conv=>whnf)
  refine .I (r:=cD x) (row_at h hn) ?_
  repeat(refine .A ?_;conv=>whnf)
  refine T.cd rfl (fun h1=> ?_) (fun h1=> ?_)
  ·have hxe:x=[]:=by simp at h1;exact h1
   have:R=none:=by rw[←hR,allO_empty (by rw[h,hxe];simp)]
   subst this
   repeat(refine .A ?_;conv=>whnf)
   exact⟨_,.ownN rfl (.v rfl rfl rfl (fun _=>rfl) .nil)⟩
  ·have hxe:x≠[]:=fun e=>h1 (by rw[e];rfl)
   repeat(refine .A ?_;conv=>whnf)
   refine .C (clone_spec x (by omega)).frz ?_
   repeat(refine .A ?_;conv=>whnf)
   refine .V ?_
   refine J.aD rfl rfl rfl rfl rfl rfl rfl rfl rfl rfl rfl rfl rfl rfl rfl rfl rfl rfl rfl (by omega) ?_
   repeat(refine .A ?_;conv=>whnf)
   rw[wrap1 hlt (by omega)]
   exact T.K (ih (by simp[hi,Ne.symm hxe]))
 ·intro hne
  have gd:GoodD d.length d:=⟨⟨hd,fun x h=>(hx x h).1,fun x h=>(hx x h).2⟩,rfl,hne⟩
  have hst:=hc.step gd
  repeat(refine .A ?_;conv=>whnf)
  refine T.cf2 rfl lt_end ?_
  repeat(refine .A ?_;conv=>whnf)
  have hbg:=begun_spec cons d.length hc.con (fun c hcc=>(right_split (hc.con c hcc) (hc.right c hcc)).2.2.2) hc.few hc.uses
  refine J.co (qs:=[]) (cs2:=[]) false [] [1001,1002,1003] rfl rfl rfl rfl rfl rfl hbg trivial rfl rfl rfl rfl rfl rfl rfl fun ns hns=> ?_
  obtain⟨uq,ua,uu,rfl⟩: ∃uq ua uu,ns=[uq,ua,uu]:=by
   match ns,hns with
   | [a,b,c],_=>exact⟨a,b,c,rfl⟩
  repeat(refine .A ?_;conv=>whnf)
  have hlen: ∀p∈(begunP cons).2,p.2.length*8≤140737488355328:=fun p hp=>by
   have:=begun_len cons 0 0 [] [] (by simp) p hp
   have:=hc.uses
   omega
  have hlk: ∀(v x:Int),x∈(lkA (begunP cons).2 v).getD []↔∃(k:Nat) (c:Con),cons[k]? =some c∧v∈usesR c∧x=(k:Int):=fun v x=>by
   have:=(begun_lk cons 0 [] [] .nil).2.2 v x
   rw[show(begunP cons).2=(begunGo 0 cons [] []).2 from rfl,this]
   simp[lk_nil]
  have hqb:=qinv_begin (cons:=cons) gd
  generalize (begunP cons).1=o0 at*
  generalize (begunP cons).2=us at*
  refine T.K (T.ind (fun x:Doms×Seen=>⟨[(1,.val false (consPV cons)),(6,.ref 0),(9,.val true (.raw uq)),(1001,.eq uq 1),(1002,.eq ua 2),(1003,.eq uu 3)],[(0,some (.sl 45 1 true (x.1.map cD))),(1,some ((boxQ (cons.map cC) ua uu).reg false)),(2,some ((mpS x.2).reg false)),(3,some ((mpU us).reg false))],4⟩)
   (fun x=>QInv cons d x) (fun x=>weight x.1*(cons.length+1)+cntO cons.length x.2) (d,o0) hqb (fun _ _ h=>h) ?_)
  rintro⟨out,o⟩ hq ih
  dsimp only
  have gx:GoodD d.length out:=hq.come.fine
  have hnx:=next_spec (cons.map cC) o uq ua uu (by simp;have:=hc.few;omega)
  rw[List.length_map]at hnx
  repeat(refine .A ?_;conv=>whnf)
  refine J.co (qs:=[1,2]) (cs2:=[(boxQ (cons.map cC) ua uu).reg false,(mpS o).reg false]) false [1001,1002] [] rfl rfl rfl rfl rfl rfl hnx ⟨rfl,rfl,rfl,rfl,trivial⟩ rfl rfl rfl rfl rfl rfl rfl fun ns hns=> ?_
  obtain rfl:ns=[]:=List.eq_nil_of_length_eq_zero hns
  cases hn:nextP cons.length o with
  |none=>
   have hfin:=allO_eq (qinv_end hq hn)
   rw[hR]at hfin
   subst hfin
   repeat(refine .A ?_;conv=>whnf)
   refine T.ct rfl ?_
   repeat(refine .A ?_;conv=>whnf)
   exact⟨_,.o rfl rfl rfl (fun _=> .inl rfl) (by simp) (.v rfl rfl rfl (fun _=>rfl) .nil)⟩
  |some i=>
   have hil:i<cons.length:=by
    unfold nextP at hn
    rw[List.find?_range_eq_some]at hn
    simpa using hn.2.1
   have hci:cons[i]? =some cons[i]:=List.getElem?_eq_getElem hil
   have hcm:=List.getElem_mem hil
   have hrow:(cons.map cC)[((i:Nat):Int).toNat]? =some (cC cons[i]):=by simp[hil]
   have hsp:=hone _ hcm out gx hq.come.less
   have hstc:=hst _ hcm
   have hqs:=fun now o2=>qinv_step (o2:=o2) (now:=now) hst hq hn hci
   generalize cons[i]=c at*
   repeat(refine .A ?_;conv=>whnf)
   refine T.cf rfl ?_
   repeat(refine .A ?_;conv=>whnf)
   refine J.i rfl rfl rfl rfl rfl rfl rfl rfl rfl (r:=cC c) (by simp) hrow rfl ?_
   repeat(refine .A ?_;conv=>whnf)
   refine .C hsp ?_
   cases hnow:oneO c out with
   |none=>
    have hfin:=allO_eq (d:=d) (R:=none) (show AllEnds cons d none from hq.come.none hcm hstc.takes hnow)
    rw[hR]at hfin
    subst hfin
    repeat(refine .A ?_;conv=>whnf)
    refine T.ct rfl ?_
    repeat(refine .A ?_;conv=>whnf)
    exact⟨_,.ownN rfl (.v rfl rfl rfl (fun _=>rfl) .nil)⟩
   |some now=>
    have hqs:=fun o2=>hqs now o2 hnow
    have gn:=(hstc.takes.less _ _ gx hnow).1
    repeat(refine .A ?_;conv=>whnf)
    refine T.cf rfl ?_
    repeat(refine .A ?_;conv=>whnf)
    have hlen2:out.length=now.length:=by rw[gx.len,gn.len]
    have hml:((cons.map cC).length:Nat)=cons.length:=List.length_map ..
    refine T.K (T.ind (fun x:Nat×Seen=>⟨[(1,.val false (consPV cons)),(6,.ref 0),(9,.val true (.raw uq)),(12,.ref 4),(52,.val true (.int .i64 (out.map cD).length)),(53,.val true (.int .i64 x.1)),(1001,.eq uq 1),(1002,.eq ua 2),(1003,.eq uu 3)],[(0,some (.sl 45 1 true (out.map cD))),(1,some ((boxQ (cons.map cC) ua uu).reg false)),(2,some ((mpS x.2).reg false)),(3,some ((mpU us).reg false)),(4,some (.sl 45 1 true (now.map cD)))],5⟩)
     (fun x=>x.1≤out.length∧(x.2.map (·.1)).Nodup∧∀j,openB x.2 j=true↔openB (dlA o (i:Int)) j=true∨∃(w:Nat) (c':Con),w<x.1∧out[w]? ≠now[w]? ∧cons[j]? =some c'∧(w:Int)∈usesR c') (fun x=>out.length-x.1) (0,dlA o (i:Int))
     ⟨by simp,hq.nod.sublist ((dl_sub (i:Int) o).map _),fun j=>⟨.inl,fun h=>h.resolve_right fun⟨w,c',h1,_⟩=>absurd h1 (Nat.not_lt_zero w)⟩⟩ (fun _ _ h=>h) ?_)
    rintro⟨v,o2⟩ ⟨hv,hnd,ho⟩ ih2
    simp only at hv hnd ho
    dsimp only
    repeat(refine .A ?_;conv=>whnf)
    refine T.cd rfl (fun h1=> ?_) (fun h1=> ?_)
    ·have h1:v<out.length:=by simpa using h1
     have h2:v<now.length:=by omega
     have hxl:=(gx.few.fine _ (List.getElem_mem h1)).len
     have ra:(out.map cD)[((v:Nat):Int).toNat]? =some (cD out[v]):=by simp[h1]
     have rb:(now.map cD)[((v:Nat):Int).toNat]? =some (cD now[v]):=by simp[h2]
     have ea:out[v]? =some out[v]:=List.getElem?_eq_getElem h1
     have eb:now[v]? =some now[v]:=List.getElem?_eq_getElem h2
     have hw1:IntKind.i64.wrap ((v:Int)+1)=((v+1:Nat):Int):=wrap1 (l:=out.length) h1 (by have:=gx.few.small;omega)
     have hch:=changed_spec (cons.map cC) o2 us (v:Int) uq ua uu hlen
     generalize hxa:out[v]=xa at*
     generalize hxb:now[v]=xb at*
     repeat(refine .A ?_;conv=>whnf)
     repeat(refine .N ?_;conv=>whnf)
     refine J.io rfl rfl rfl rfl rfl rfl rfl rfl rfl (by omega) (by simpa using h1) rfl ?_
     refine J.lo rfl rfl rfl rfl rfl rfl (r:=cD xa) ra rfl ?_
     repeat(refine .N ?_;conv=>whnf)
     refine J.io rfl rfl rfl rfl rfl rfl rfl rfl rfl (by omega) (by simpa using h2) rfl ?_
     refine J.lo rfl rfl rfl rfl rfl rfl (r:=cD xb) rb rfl ?_
     repeat(refine .N ?_;conv=>whnf)
     refine .C (domsame_spec xa xb (by omega)) ?_
     by_cases hab:xa=xb
     ·rw[decide_eq_true hab]
      repeat(refine .A ?_;conv=>whnf)
      refine T.cf rfl ?_
      repeat(refine .A ?_;conv=>whnf)
      rw[hw1]
      have:=ih2 (v+1,o2) ⟨by omega,hnd,fun k=>(ho k).trans (or_congr_right ⟨fun⟨w,c',h3,h4⟩=>⟨w,c',by omega,h4⟩,fun⟨w,c',h3,h4,h5⟩=>⟨w,c',by
       have:w≠v:=fun e=>h4 (by rw[e,ea,eb,hab])
       omega,h4,h5⟩⟩)⟩ (by show _-_<_-_;omega)
      exact T.K this
     ·rw[decide_eq_false hab]
      repeat(refine .A ?_;conv=>whnf)
      refine T.ct rfl ?_
      repeat(refine .A ?_;conv=>whnf)
      refine J.co (qs:=[1,2,3]) (cs2:=[(boxQ (cons.map cC) ua uu).reg false,(mpS o2).reg false,(mpU us).reg false]) false [1001,1002,1003] [] rfl rfl rfl rfl rfl rfl hch ⟨rfl,rfl,rfl,rfl,rfl,rfl,trivial⟩ rfl rfl rfl rfl rfl rfl rfl fun ns hns=> ?_
      obtain rfl:ns=[]:=List.eq_nil_of_length_eq_zero hns
      repeat(refine .A ?_;conv=>whnf)
      rw[hw1]
      have hb3: ∀k,openB (openAll ((lkA us (v:Int)).getD []) o2) k=true↔openB o2 k=true∨∃c',cons[k]? =some c'∧(v:Int)∈usesR c':=fun k=>by
       unfold openB
       rw[openAll_lk]
       by_cases hm:(k:Int)∈(lkA us (v:Int)).getD []
       ·rw[if_pos hm]
        obtain⟨k',c',h3,h4,h5⟩:=(hlk _ _).1 hm
        obtain rfl:k=k':=by omega
        exact⟨fun _=> .inr ⟨c',h3,h4⟩,fun _=>rfl⟩
       ·rw[if_neg hm]
        exact⟨.inl,fun h=>h.resolve_right fun⟨c',h3,h4⟩=>hm ((hlk _ _).2 ⟨k,c',h3,h4,rfl⟩)⟩
      have:=ih2 (v+1,openAll ((lkA us (v:Int)).getD []) o2) ⟨by omega,openAll_nod _ _ hnd,fun k=>by
       rw[hb3 k,ho k]
       constructor
       ·rintro((h3|⟨w,c',h3,h4,h5⟩)|⟨c',h3,h4⟩)
        ·exact .inl h3
        ·exact .inr ⟨w,c',by omega,h4,h5⟩
        ·exact .inr ⟨v,c',by omega,by rw[ea,eb];exact fun e=>hab (Option.some.inj e),h3,h4⟩
       ·rintro(h3|⟨w,c',h3,h4,h5⟩)
        ·exact .inl (.inl h3)
        ·by_cases e:w=v
         ·subst e;exact .inr ⟨c',h5⟩
         ·exact .inl (.inr ⟨w,c',by omega,h4,h5⟩)⟩ (by show _-_<_-_;omega)
      exact T.K this
    ·have h1:v=out.length:=by simp at h1;omega
     subst h1
     repeat(refine .A ?_;conv=>whnf)
     have:=ih (now,o2) (hqs o2 ho hnd).1 (hqs o2 ho hnd).2
     exact T.K this
theorem lin_specs1 {d:Doms}{c:Con}{R:Option Doms}{N N':Nat}(h:SumOk d c)(h1:LinAns d c R N)(h2:LinAnsR d c R N')(hsm: ∀x∈d,x.length*64+1048576≤140737488355328):
  Spec Tryz.prog 35 false [doms d,.agg (cC c)] (pruneRes R)∧Spec Tryz.prog 36 false [doms d,.agg (cC c)] [.val (doms (R.getD [])),.val (.bool R.isSome)]:=by
 refine⟨(lprune_spec d c h.fine hsm R N h1),?_⟩
 have hvb: ∀out:Doms,out.length=d.length→∀v∈c.vars,0≤v∧v.toNat<out.length:=fun out hl v hv=>by rw[hl];exact h.fine.vin v hv
 refine rlprune_spec d c h.fine.len h.fine.vl h.fine.ck h.pos h.fine.vin h.fine.dl h.fine.dom ?_ (fun out=>(∀x∈out,Fine x)∧out.length=d.length) (fun out hi=>⟨fun x hx=>(hi.1 x hx).domB,hi.2⟩)
  (fun out hi=>⟨⟨mostRd_fine _ (hvb out hi.2) hi.1 _ (Nat.le_refl _),by rw[mostD,mostRd_len,hi.2]⟩,⟨mostRd_fine _ (hvb out hi.2) hi.1 _ (Nat.le_refl _),by rw[mostB,mostRd_len,hi.2]⟩⟩) ⟨h.fine.dom,rfl⟩ R N' h2
 intro x hx
 have hin:=rotherGo_in (termsOf d c.vars c.coefs) 0 0 0 0 c.vars.length h.pos (by have:=h.fine.len;simp[termsOf];omega) (Nat.le_refl _)
 have hall: ∀x∈rotherW d c,Fine x:=by
  unfold rotherW
  simp only
  split
  ·exact h.fine.dom
  ·split
   ·split
    ·exact mem_set h.fine.dom ⟨⟨by simp,.nil⟩,by simp[vals],by simp[vals]⟩
    ·exact h.fine.dom
   ·exact mem_set h.fine.dom (pack_fine (h.fine.dom _ (domAt_mem (h.fine.vin _ (varAt_mem hin.1)).2)) _)
 exact(hall x hx).domB
def prunerF (k:Int):FuncId:=if k=1 then 29 else if k=2 then 30 else if k=3 then 31 else if k=4 then 32 else if k=5 then 33 else if k=6 then 34 else 35
theorem fone_of {d:Doms}{c:Con}{R:Option Doms}(h:Spec Tryz.prog (prunerF c.kind) false [doms d,.agg (cC c)] (pruneRes R)):Spec Tryz.prog 13 false [doms d,.agg (cC c)] (pruneRes R):=by
 refine Spec.body Tryz.func13 rfl rfl rfl fun w0 Z0=> ?_
 unfold prunerF at h
 repeat(refine .A ?_;conv=>whnf)
 refine T.cd rfl (fun h1=> ?_) (fun h1=> ?_)
 ·have h1:c.kind=1:=h1
  rw[if_pos h1]at h
  repeat(refine .A ?_;conv=>whnf)
  refine .C h ?_
  repeat(refine .A ?_;conv=>whnf)
  exact⟨_,.o rfl rfl rfl (fun _=> .inl rfl) (by simp) (.v rfl rfl rfl (fun _=>rfl) .nil)⟩
 ·have h1: ¬c.kind=1:=h1
  rw[if_neg h1]at h
  repeat(refine .A ?_;conv=>whnf)
  refine T.cd rfl (fun h1=> ?_) (fun h1=> ?_)
  ·have h1:c.kind=2:=h1
   rw[if_pos h1]at h
   repeat(refine .A ?_;conv=>whnf)
   refine .C h ?_
   repeat(refine .A ?_;conv=>whnf)
   exact⟨_,.o rfl rfl rfl (fun _=> .inl rfl) (by simp) (.v rfl rfl rfl (fun _=>rfl) .nil)⟩
  ·have h1: ¬c.kind=2:=h1
   rw[if_neg h1]at h
   repeat(refine .A ?_;conv=>whnf)
   refine T.cd rfl (fun h1=> ?_) (fun h1=> ?_)
   ·have h1:c.kind=3:=h1
    rw[if_pos h1]at h
    repeat(refine .A ?_;conv=>whnf)
    refine .C h ?_
    repeat(refine .A ?_;conv=>whnf)
    exact⟨_,.o rfl rfl rfl (fun _=> .inl rfl) (by simp) (.v rfl rfl rfl (fun _=>rfl) .nil)⟩
   ·have h1: ¬c.kind=3:=h1
    rw[if_neg h1]at h
    repeat(refine .A ?_;conv=>whnf)
    refine T.cd rfl (fun h1=> ?_) (fun h1=> ?_)
    ·have h1:c.kind=4:=h1
     rw[if_pos h1]at h
     repeat(refine .A ?_;conv=>whnf)
     refine .C h ?_
     repeat(refine .A ?_;conv=>whnf)
     exact⟨_,.o rfl rfl rfl (fun _=> .inl rfl) (by simp) (.v rfl rfl rfl (fun _=>rfl) .nil)⟩
    ·have h1: ¬c.kind=4:=h1
     rw[if_neg h1]at h
     repeat(refine .A ?_;conv=>whnf)
     refine T.cd rfl (fun h1=> ?_) (fun h1=> ?_)
     ·have h1:c.kind=5:=h1
      rw[if_pos h1]at h
      repeat(refine .A ?_;conv=>whnf)
      refine .C h ?_
      repeat(refine .A ?_;conv=>whnf)
      exact⟨_,.o rfl rfl rfl (fun _=> .inl rfl) (by simp) (.v rfl rfl rfl (fun _=>rfl) .nil)⟩
     ·have h1: ¬c.kind=5:=h1
      rw[if_neg h1]at h
      repeat(refine .A ?_;conv=>whnf)
      refine T.cd rfl (fun h1=> ?_) (fun h1=> ?_)
      ·have h1:c.kind=6:=h1
       rw[if_pos h1]at h
       repeat(refine .A ?_;conv=>whnf)
       refine .C h ?_
       repeat(refine .A ?_;conv=>whnf)
       exact⟨_,.o rfl rfl rfl (fun _=> .inl rfl) (by simp) (.v rfl rfl rfl (fun _=>rfl) .nil)⟩
      ·have h1: ¬c.kind=6:=h1
       rw[if_neg h1]at h
       repeat(refine .A ?_;conv=>whnf)
       refine .C h ?_
       repeat(refine .A ?_;conv=>whnf)
       exact⟨_,.o rfl rfl rfl (fun _=> .inl rfl) (by simp) (.v rfl rfl rfl (fun _=>rfl) .nil)⟩
def rprunerF (k:Int):FuncId:=if k=0 then 36 else if k=1 then 37 else if k=2 then 38 else if k=3 then 39 else if k=4 then 40 else if k=5 then 41 else 42
def refRes (R:Option Doms):List RV:=[.val (doms (R.getD [])),.val (.bool R.isSome)]
theorem rone_of {d:Doms}{c:Con}{R:Option Doms}(h:Spec Tryz.prog (rprunerF c.kind) false [doms d,.agg (cC c)] (refRes R)):Spec Tryz.prog 14 false [doms d,.agg (cC c)] (refRes R):=by
 refine Spec.body Tryz.func14 rfl rfl rfl fun w0 Z0=> ?_
 unfold rprunerF at h
 repeat(refine .A ?_;conv=>whnf)
 refine T.cd rfl (fun h1=> ?_) (fun h1=> ?_)
 ·have h1:c.kind=0:=h1
  rw[if_pos h1]at h
  repeat(refine .A ?_;conv=>whnf)
  refine .C h ?_
  repeat(refine .A ?_;conv=>whnf)
  exact⟨_,.v rfl rfl rfl (fun _=>rfl) (.v rfl rfl rfl (fun _=>rfl) .nil)⟩
 ·have h1: ¬c.kind=0:=h1
  rw[if_neg h1]at h
  repeat(refine .A ?_;conv=>whnf)
  refine T.cd rfl (fun h1=> ?_) (fun h1=> ?_)
  ·have h1:c.kind=1:=h1
   rw[if_pos h1]at h
   repeat(refine .A ?_;conv=>whnf)
   refine .C h ?_
   repeat(refine .A ?_;conv=>whnf)
   exact⟨_,.v rfl rfl rfl (fun _=>rfl) (.v rfl rfl rfl (fun _=>rfl) .nil)⟩
  ·have h1: ¬c.kind=1:=h1
   rw[if_neg h1]at h
   repeat(refine .A ?_;conv=>whnf)
   refine T.cd rfl (fun h1=> ?_) (fun h1=> ?_)
   ·have h1:c.kind=2:=h1
    rw[if_pos h1]at h
    repeat(refine .A ?_;conv=>whnf)
    refine .C h ?_
    repeat(refine .A ?_;conv=>whnf)
    exact⟨_,.v rfl rfl rfl (fun _=>rfl) (.v rfl rfl rfl (fun _=>rfl) .nil)⟩
   ·have h1: ¬c.kind=2:=h1
    rw[if_neg h1]at h
    repeat(refine .A ?_;conv=>whnf)
    refine T.cd rfl (fun h1=> ?_) (fun h1=> ?_)
    ·have h1:c.kind=3:=h1
     rw[if_pos h1]at h
     repeat(refine .A ?_;conv=>whnf)
     refine .C h ?_
     repeat(refine .A ?_;conv=>whnf)
     exact⟨_,.v rfl rfl rfl (fun _=>rfl) (.v rfl rfl rfl (fun _=>rfl) .nil)⟩
    ·have h1: ¬c.kind=3:=h1
     rw[if_neg h1]at h
     repeat(refine .A ?_;conv=>whnf)
     refine T.cd rfl (fun h1=> ?_) (fun h1=> ?_)
     ·have h1:c.kind=4:=h1
      rw[if_pos h1]at h
      repeat(refine .A ?_;conv=>whnf)
      refine .C h ?_
      repeat(refine .A ?_;conv=>whnf)
      exact⟨_,.v rfl rfl rfl (fun _=>rfl) (.v rfl rfl rfl (fun _=>rfl) .nil)⟩
     ·have h1: ¬c.kind=4:=h1
      rw[if_neg h1]at h
      repeat(refine .A ?_;conv=>whnf)
      refine T.cd rfl (fun h1=> ?_) (fun h1=> ?_)
      ·have h1:c.kind=5:=h1
       rw[if_pos h1]at h
       repeat(refine .A ?_;conv=>whnf)
       refine .C h ?_
       repeat(refine .A ?_;conv=>whnf)
       exact⟨_,.v rfl rfl rfl (fun _=>rfl) (.v rfl rfl rfl (fun _=>rfl) .nil)⟩
      ·have h1: ¬c.kind=5:=h1
       rw[if_neg h1]at h
       repeat(refine .A ?_;conv=>whnf)
       refine .C h ?_
       repeat(refine .A ?_;conv=>whnf)
       exact⟨_,.v rfl rfl rfl (fun _=>rfl) (.v rfl rfl rfl (fun _=>rfl) .nil)⟩
theorem placeF_congr {p q:Nat→Bool}{h:Nat}(e: ∀k,k<h→p k=q k):placeF p h=placeF q h:=by
 by_cases hk:placeF p h<h
 ·refine(placeF_at hk (fun j hj=> ?_) ?_).symm
  ·rw[←e j (by omega)];exact placeF_before hj
  ·rw[←e _ hk];exact placeF_here hk
 ·have hle:=placeF_le p h
  have hh:placeF p h=h:=by omega
  rw[hh]
  refine(placeF_all fun j hj=> ?_).symm
  rw[←e j hj]
  exact placeF_before (h:=h) (by omega)
theorem place_eq {d:Doms}{c:Con}(hv:VarsIn d c)(hf: ∀x∈d,Fine x):placeO d c=placeR d c:=by
 have hh:=half_le c
 refine placeF_congr fun k hk=> ?_
 have hv1:=hv.2 _ (varAt_mem (c:=c) (k:=k) (by omega))
 have hv2:=hv.2 _ (varAt_mem (c:=c) (k:=halfOf c+k) (by omega))
 exact known_eq (hf _ (domAt_mem hv1.2)).ok (hf _ (domAt_mem hv2.2)).ok
theorem set_mem {out:Doms}{i j:Nat}{x y z:List (Int×Int)}(hi:i<out.length)(hj:j<out.length)(hij:i≠j)(hz:z∉out):z∈(out.set i x).set j y↔z=x∨z=y:=by
 constructor
 ·intro h
  obtain⟨k,hk⟩:=List.mem_iff_getElem?.1 h
  rw[List.getElem?_set]at hk
  split at hk
  ·simp only[List.length_set,hj,if_true,Option.some.injEq]at hk
   exact .inr hk.symm
  ·rw[List.getElem?_set]at hk
   split at hk
   ·simp only[hi,if_true,Option.some.injEq]at hk
    exact .inl hk.symm
   ·exact absurd (List.mem_of_getElem? hk) hz
 ·rintro(rfl|rfl)
  ·refine List.mem_iff_getElem?.2 ⟨i,?_⟩
   rw[List.getElem?_set_ne (Ne.symm hij),List.getElem?_set_self hi]
  ·refine List.mem_iff_getElem?.2 ⟨j,?_⟩
   rw[List.getElem?_set_self (by simpa using hj)]
theorem set_same {out:Doms}{i j:Nat}{x y dx dy:List (Int×Int)}(hi:out[i]? =some dx)(hj:out[j]? =some dy)(hij:i≠j):(out.set i x).set j y=out↔x=dx∧y=dy:=by
 have hil:=(List.getElem?_eq_some_iff.1 hi).1
 have hjl:=(List.getElem?_eq_some_iff.1 hj).1
 constructor
 ·intro h
  constructor
  ·have:((out.set i x).set j y)[i]? =out[i]? :=by rw[h]
   rw[List.getElem?_set_ne (Ne.symm hij),List.getElem?_set_self hil,hi]at this
   exact Option.some.inj this
  ·have:((out.set i x).set j y)[j]? =out[j]? :=by rw[h]
   rw[List.getElem?_set_self (by simpa using hjl),hj]at this
   exact Option.some.inj this
 ·rintro⟨rfl,rfl⟩
  have e1:out.set i x=out:=by
   obtain⟨h1,h2⟩:=List.getElem?_eq_some_iff.1 hi
   subst h2
   exact List.set_getElem_self h1
  rw[e1]
  obtain⟨h1,h2⟩:=List.getElem?_eq_some_iff.1 hj
  subst h2
  exact List.set_getElem_self h1
theorem step_same {c:Con}{d out:Doms}(hv:VarsIn out c)(h:Cutd d out):stepO c out=stepR c out:=by
 have hh:=half_le c
 unfold stepO stepR
 rw[place_eq hv h.fine]
 by_cases hk:placeR out c=halfOf c
 ·rw[if_pos hk,if_pos hk]
 ·rw[if_neg hk,if_neg hk]
  have hkl:placeR out c<halfOf c:=by have:=placeF_le (pairR out c) (halfOf c);unfold placeR at hk⊢;omega
  have hp:pairR out c (placeR out c)=false:=placeF_here hkl
  have hv1:=hv.2 _ (varAt_mem (c:=c) (k:=placeR out c) (by omega))
  have hv2:=hv.2 _ (varAt_mem (c:=c) (k:=halfOf c+placeR out c) (by omega))
  have hab:varAt c (placeR out c)≠varAt c (halfOf c+placeR out c):=fun e=>by rw[pairR,e]at hp;simp[knownR]at hp
  simp only
  generalize varAt c (placeR out c)=a at*
  generalize varAt c (halfOf c+placeR out c)=b at*
  have ha:=domAt_some hv1.2
  have hb:=domAt_some hv2.2
  have fa:=h.fine _ (domAt_mem hv1.2)
  have fb:=h.fine _ (domAt_mem hv2.2)
  have na:=h.ne _ (domAt_mem hv1.2)
  have nb:=h.ne _ (domAt_mem hv2.2)
  generalize domAt out a=da at*
  generalize domAt out b=db at*
  rw[endsR_eq fa.ok na,endsR_eq fb.ok nb]
  simp only
  have ex:domCut da (-1048576) (lastR db)=cutR da (leastR da) (lastR db):=cut_eq fa.ok fun v hv=>by
   have:=least_le fa.ok hv;have:=fa.val v hv;omega
  have ey:domCut db (leastR da) 1048576=cutR db (leastR da) (max (leastR da) 1048576):=cut_eq fb.ok fun v hv=>by
   have:=fb.val v hv;omega
  rw[ex,ey]
  generalize cutR da (leastR da) (lastR db)=x
  generalize cutR db (leastR da) (max (leastR da) 1048576)=y
  have hn:([]:List (Int×Int))∉out:=fun e=>h.ne _ e rfl
  have hne:a.toNat≠b.toNat:=by omega
  have m1:(x=[]∨y=[])↔([]∈(out.set a.toNat x).set b.toNat y):=by
   rw[set_mem hv1.2 hv2.2 hne hn]
   exact⟨fun h=>h.elim (fun h=> .inl h.symm) (fun h=> .inr h.symm),fun h=>h.elim (fun h=> .inl h.symm) (fun h=> .inr h.symm)⟩
  have m2:=set_same (x:=x) (y:=y) ha hb hne
  by_cases h1:x=[]∨y=[]
  ·rw[if_pos h1,if_pos (m1.1 h1)]
  ·rw[if_neg h1,if_neg (fun h=>h1 (m1.2 h))]
   by_cases h2:x=da∧y=db
   ·rw[if_pos h2,if_pos (m2.2 h2)]
   ·rw[if_neg h2,if_neg (fun h=>h2 (m2.1 h))]
theorem pruneR_ex {c:Con}{d:Doms}{R:Option Doms}{N:Nat}(hv:VarsIn d c)(hf: ∀x∈d,Fine x)(hR:if []∈d then R=none else iter (stepO c) N d=some R):if []∈d then R=none else iter (stepR c) N d=some R:=by
 by_cases he: []∈d
 ·rw[if_pos he]at hR⊢;exact hR
 ·rw[if_neg he]at hR⊢
  have h0:Cutd d d:=⟨rfl,hf,fun x hx e=>he (e▸hx),fun i x y hx hy v hv=>by rw[hx]at hy;exact Option.some.inj hy▸hv⟩
  rw[←hR]
  refine(iter_same (fun x=>Cutd d x∧VarsIn x c) (fun x y hi hs=> ?_) (fun x hi=>step_same hi.2 hi.1) N d ⟨h0,hv⟩).symm
  have:=stepO_inr hi.2 hi.1 hs
  exact⟨this.1,this.2.1⟩
theorem stepR_fine {c:Con}{out next:Doms}(hf: ∀x∈out,Fine x)(hv:VarsIn out c)(hs:stepR c out= .inr next): ∀x∈next,Fine x:=by
 have hh:=half_le c
 unfold stepR at hs
 split at hs
 ·cases hs
 ·rename_i hk
  have hkl:placeR out c<halfOf c:=by have:=placeF_le (pairR out c) (halfOf c);unfold placeR at hk⊢;omega
  have hv1:=hv.2 _ (varAt_mem (c:=c) (k:=placeR out c) (by omega))
  have hv2:=hv.2 _ (varAt_mem (c:=c) (k:=halfOf c+placeR out c) (by omega))
  simp only at hs
  have fa:=hf _ (domAt_mem hv1.2)
  have fb:=hf _ (domAt_mem hv2.2)
  split at hs
  ·cases hs
  ·split at hs
   ·cases hs
   ·obtain rfl:=Sum.inr.inj hs
    intro x hx
    rcases List.mem_or_eq_of_mem_set hx with hx|rfl
    ·rcases List.mem_or_eq_of_mem_set hx with hx|rfl
     ·exact hf x hx
     ·exact fa.cut (cutR_ok fa.ok _ _).1 fun v hv=>(((cutR_ok fa.ok _ _).2 v).1 hv).1
    ·exact fb.cut (cutR_ok fb.ok _ _).1 fun v hv=>(((cutR_ok fb.ok _ _).2 v).1 hv).1
theorem good_small {n:Nat}{d:Doms}(gd:GoodD n d): ∀x∈d,x.length*64+1048576≤140737488355328:=fun x hx=>by
 have:=gd.few.few x hx
 have:=dom_length_le (gd.few.fine x hx).ok
 omega
theorem linO_specs {d:Doms}{c:Con}(gd:GoodD d.length d)(h:SumOk d c):Spec Tryz.prog 35 false [doms d,.agg (cC c)] (pruneRes (linO c d))∧Spec Tryz.prog 36 false [doms d,.agg (cC c)] (refRes (linO c d)):=by
 obtain⟨R,N,N',h1,h2,_⟩:=lin_ans h
 obtain⟨M,hM⟩:=linO_ans h
 obtain rfl:=lin_det hM h1
 exact lin_specs1 h h1 h2 (good_small gd)
theorem con_all {d:Doms}{c:Con}(hk:c.kind=1)(hr:rightR d c=true):c=conU c.vars∧c.vars.Nodup∧c.vars≠[]:=by
 obtain⟨kind,vars,coefs,op,rhs,rows,b⟩:=c
 simp only at hk
 subst hk
 simp only[rightR,noneR,plainR,bareR,manyR,Bool.and_eq_true,decide_eq_true_eq,if_neg (by decide: ¬(1:Int)=0),if_pos]at hr
 obtain⟨⟨h1,⟨⟨h2,h3⟩,h4⟩,h5⟩,h6,h7⟩:=hr
 obtain rfl:=List.eq_nil_of_length_eq_zero h1
 obtain rfl:=List.eq_nil_of_length_eq_zero h5
 subst h2 h3 h4
 exact⟨rfl,h7,List.ne_nil_of_length_pos h6⟩
theorem all_specs {d:Doms}{c:Con}(gd:GoodD d.length d)(hc:ConB c)(h:conR d c=0)(hk:c.kind=1):Spec Tryz.prog 29 false [doms d,.agg (cC c)] (pruneRes (prune8 d c.vars))∧Spec Tryz.prog 37 false [doms d,.agg (cC c)] (refRes (prune8 d c.vars)):=by
 obtain⟨_,hv,hr,_⟩:=right_split hc h
 obtain⟨e,h1,h2⟩:=con_all hk hr
 have hV:VarsU d c.vars:=⟨h1,hv.2⟩
 have a:=uprune_few d c.vars gd.few hV h2
 have b:=prune8_few d c.vars gd.few hV
 rw[←e]at a b
 exact⟨a,b⟩
theorem reif_specs2 {d:Doms}{c:Con}(gd:GoodD d.length d)(h:ReifOk d c):Spec Tryz.prog 32 false [doms d,.agg (cC c)] (pruneRes (reifO c d))∧Spec Tryz.prog 40 false [doms d,.agg (cC c)] (refRes (reifO c d)):=by
 obtain⟨hs1,hs2⟩:=linO_specs gd h.sum
 obtain⟨hn1,hn2⟩:=linO_specs gd h.sumN
 have hsf:SumFine d c.vars c.coefs:=h.sum.fine
 have hsi:=hsf.in_
 have hb:=h.sum.big
 have hb2:=h.sumN.big
 have ha:=absK_pos (sumOf c).rhs
 have ha2:=absK_pos (notW (sumOf c)).rhs
 have hsm:=good_small gd
 have hy:soW (endsRW d c.vars c.coefs) (sumOf c)=yesW d c:=by rw[←so_same hsf (by show weightK (sumOf c).coefs≤_;omega)];rfl
 have hz:soW (endsRW d (notW (sumOf c)).vars (notW (sumOf c)).coefs) (notW (sumOf c))=noW d c:=by rw[←so_same h.sumN.fine (by omega)];rfl
 have e:reifO c d=reifW d c (linO (sumOf c) d) (linO (notW (sumOf c)) d):=if_pos h.truth
 rw[e]
 refine⟨lreif_spec d c hsi h.con h.b (fun x hx=>by have:=hsm x hx;omega) _ _ (fun _ _ _ _=>hs1) (fun _ _ _ _ _=>hn1),?_⟩
 rw[←reif_same h.b hsf.dom h.truth]
 exact rreif_spec d c hsi h.con h.b _ _ hy hz _ _ (fun _=>hs2) (fun _=>hn2)
theorem uses5 {c:Con}(h:c.kind≠4):usesR c=sortU c.vars:=by unfold usesR;rw[if_neg h]
theorem clause_specs2 {d:Doms}{c:Con}(gd:GoodD d.length d)(hc:ConB c)(h:conR d c=0)(hk:c.kind=5):Spec Tryz.prog 33 false [doms d,.agg (cC c)] (pruneRes (oneO c d)):=by
 have hcl:=clause_in hc h hk
 have hsm:=good_small gd
 have e:oneO c d=clauseW d c:=by
  unfold oneO
  rw[if_neg (by omega),if_neg (by omega),if_neg (by omega),if_neg (by omega),uses5 (by omega)]
  exact clause_kept hcl hk gd.few.fine
 rw[e]
 exact lclause_spec d c (clin_in hcl gd.few.small fun x hx=>by have:=hsm x hx;omega)
theorem lex_specs {d:Doms}{c:Con}(gd:GoodD d.length d)(hv:VarsIn d c):Spec Tryz.prog 34 false [doms d,.agg (cC c)] (pruneRes (lexO c d))∧Spec Tryz.prog 42 false [doms d,.agg (cC c)] (refRes (lexO c d)):=by
 obtain⟨R,N,h1,_⟩:=pruneO_ex (c:=c) (d:=d) hv gd.few.fine
 have h2:=h1
 rw[if_neg gd.some']at h2
 obtain rfl:=lexO_ans h2
 have hds:=gd.few.small
 exact⟨prune_spec d c hv ⟨hds,fun x hx=>by have:=good_small gd x hx;omega⟩ _ N h1,(pruneR_spec d c hv (by omega) (fun out=> ∀x∈out,Fine x) (fun out hi x hx=>(hi x hx).domB) (fun out next hi hv hs=>stepR_fine hi hv hs) gd.few.fine _ N (pruneR_ex hv gd.few.fine h1)).frz⟩
theorem elemIn_lt {d:Doms}{vs:List Int}{i:Int}(h0:0≤i)(h1:i.toNat<(vs.drop 2).length):elemIn d vs i= !decide (elemM d vs i=[]):=by
 have h2:i.toNat+2<vs.length:=by simp at h1;omega
 unfold elemIn
 rw[decide_eq_true h0,decide_eq_true h2];rfl
theorem eclos_spec (d:Doms)(vs:List Int)(i:Int)(h2:2≤vs.length)(hv: ∀v∈vs,0≤v∧v.toNat<d.length)(hvl:vs.length*8≤140737488355328)(hx: ∀x∈d,x.length*32≤140737488355328):
  Spec Tryz.prog 69 false [.int .i64 i,.ptr [ints (vs.drop 2)],.ptr [doms d],.ptr [.int .i64 (vs.getD 1 0)]] [.val (.bool (!elemIn d vs i))]:=by
 refine Spec.body Tryz.func69 rfl rfl rfl fun w0 Z0=> ?_
 have hr:=hv (vs.getD 1 0) (getD_in (by omega))
 have hrow:(d.map cD)[(vs.getD 1 0).toNat]? =some (cD (domAt d (vs.getD 1 0))):=by rw[List.getElem?_map,domAt_some hr.2];rfl
 have hM:elemM d vs i=meetR (domAt d (vs.getD (i.toNat+2) 0)) (domAt d (vs.getD 1 0)):=rfl
 have hIn:= @elemIn_lt d vs i
 have hno: ¬(0≤i∧i.toNat<(vs.drop 2).length)→elemIn d vs i=false:=fun h=>by
  unfold elemIn
  by_cases h0:0≤i
  ·have: ¬i.toNat+2<vs.length:=fun e=>h ⟨h0,by simp;omega⟩
   rw[decide_eq_false this];simp
  ·rw[decide_eq_false h0];rfl
 have hat: ∀h:i.toNat<(vs.drop 2).length,(vs.drop 2)[i.toNat]=vs.getD (i.toNat+2) 0:=fun h=>by rw[List.getElem_drop,getD_at (by simp at h;omega)];congr 1;omega
 have hin: ∀h:i.toNat<(vs.drop 2).length,vs.getD (i.toNat+2) 0∈vs:=fun h=>getD_in (by simp at h;omega)
 have hls:(vs.drop 2).length≤vs.length:=by simp
 generalize vs.drop 2=ls at*
 generalize vs.getD 1 0=r at*
 generalize elemIn d vs i=b at*
 generalize elemM d vs i=M at*
 repeat(refine .A ?_;conv=>whnf)
 refine J.g rfl rfl rfl (fun h3=> ?_) (fun h3=> ?_)
 ·repeat(refine .A ?_;conv=>whnf)
  rw[hno (by omega)]
  exact⟨_,.v rfl rfl rfl (fun _=>rfl) .nil⟩
 ·repeat(refine .A ?_;conv=>whnf)
  refine J.g rfl rfl rfl (fun h4=> ?_) (fun h4=> ?_)
  ·repeat(refine .A ?_;conv=>whnf)
   rw[hno (by simp at h4;omega)]
   exact⟨_,.v rfl rfl rfl (fun _=>rfl) .nil⟩
  ·have h4:i.toNat<ls.length:=by simp at h4;omega
   have hvi:=hv _ (hin h4)
   have hri:(d.map cD)[(vs.getD (i.toNat+2) 0).toNat]? =some (cD (domAt d (vs.getD (i.toNat+2) 0))):=by rw[List.getElem?_map,domAt_some hvi.2];rfl
   have hli:(ls.map cI)[i.toNat]? =some (cI (vs.getD (i.toNat+2) 0)):=by rw[List.getElem?_map,List.getElem?_eq_getElem h4,hat h4];rfl
   have hx1:=hx _ (domAt_mem hvi.2)
   have hx2:=hx _ (domAt_mem hr.2)
   rw[hIn (by omega) h4]
   repeat(refine .A ?_;conv=>whnf)
   refine J.i rfl rfl rfl rfl rfl rfl rfl rfl rfl (r:=cI (vs.getD (i.toNat+2) 0)) (by omega) hli rfl ?_
   repeat(refine .A ?_;conv=>whnf)
   refine J.i rfl rfl rfl rfl rfl rfl rfl rfl rfl (r:=cD (domAt d (vs.getD (i.toNat+2) 0))) hvi.1 hri rfl ?_
   repeat(refine .A ?_;conv=>whnf)
   refine J.i rfl rfl rfl rfl rfl rfl rfl rfl rfl (r:=cD (domAt d r)) hr.1 hrow rfl ?_
   repeat(refine .A ?_;conv=>whnf)
   refine J.cc rfl rfl rfl rfl rfl (meet_spec _ _ (by omega)) rfl rfl ?_
   repeat(refine .A ?_;conv=>whnf)
   have e:decide (((((meetR (domAt d (vs.getD (i.toNat+2) 0)) (domAt d r)).map cR).length:Nat):Int)=0)= !(!decide (M=[])):=by rw[hM];simp
   exact⟨_,.v rfl rfl (by rw[←e]) (fun _=>rfl) .nil⟩
theorem elemO_empty {d:Doms}{c:Con}(h: []∈d):elemO d c=none:=if_pos h
set_option maxHeartbeats 1000000 in
theorem eprune_spec {n:Nat}(d:Doms)(c:Con)(gd: []∉d→GoodD n d)(fd:FewD d)(hc:ConB c)(hn:c.vars.Nodup)(h3:3≤c.vars.length)(hv: ∀v∈c.vars,0≤v∧v.toNat<d.length):
  Spec Tryz.prog 31 false [doms d,.agg (cC c)] (pruneRes (elemO d c)):=by
 refine Spec.body Tryz.func31 rfl rfl rfl fun w0 Z0=> ?_
 generalize hR:elemO d c=R
 have hdl:=fd.small
 have hx: ∀x∈d,x.length≤4096:=fun x hm=>by have:=dom_length_le (fd.fine x hm).ok;have:=fd.few x hm;omega
 obtain⟨h1,h2,h5,h4⟩:=hc
 repeat(refine .A ?_;conv=>whnf)
 refine T.sub (Rel.unbx (s:=2) (fun _ h=>h) rfl rfl) ?_
 refine T.sub (Rel.fp (s:=2) rfl) ?_
 refine T.sub (Rel.unbx (s:=3) (fun _ h=>h) rfl rfl) ?_
 refine T.sub (Rel.own0 (s:=6) 45 1 rfl) ?_
 refine T.K (T.listI d (fun pre=>[]∉pre) (fun n pre post=>⟨[(2,.val false (.ptr [doms d])),(3,.fptr false (cC c)),(6,.ref 0),(16,.val false (doms d)),(17,.val true (.int .i64 (d.map cD).length)),(18,.val true (.int .i64 n))],[(0,some (.sl 45 1 true (pre.map cD)))],1⟩) (fun _ _ h=>h) (by simp) ?_ ?_)
 ·rintro n pre x post h hn hi ih
  have hlt:=at_lt h hn
  have hxl:=hx x (by rw[h];simp)
  repeat(refine .A ?_;conv=>whnf)
  refine T.ct2 rfl (lt_at h hn) ?_
  repeat(refine .A ?_;conv=>whnf)
  refine .I (r:=cD x) (row_at h hn) ?_
  repeat(refine .A ?_;conv=>whnf)
  refine T.cd rfl (fun h5=> ?_) (fun h5=> ?_)
  ·have hxe:x=[]:=by simp at h5;exact h5
   have:R=none:=by rw[←hR,elemO_empty (by rw[h,hxe];simp)]
   subst this
   repeat(refine .A ?_;conv=>whnf)
   exact⟨_,.ownN rfl (.v rfl rfl rfl (fun _=>rfl) .nil)⟩
  ·have hxe:x≠[]:=fun e=>h5 (by rw[e];rfl)
   repeat(refine .A ?_;conv=>whnf)
   refine .C (clone_spec x (by omega)).frz ?_
   repeat(refine .A ?_;conv=>whnf)
   refine .V ?_
   refine J.aD rfl rfl rfl rfl rfl rfl rfl rfl rfl rfl rfl rfl rfl rfl rfl rfl rfl rfl rfl (by omega) ?_
   repeat(refine .A ?_;conv=>whnf)
   rw[wrap1 hlt (by omega)]
   exact T.K (ih (by simp[hi,Ne.symm hxe]))
 ·intro hne
  have gd:=gd hne
  unfold elemO at hR
  rw[if_neg hne]at hR
  repeat(refine .A ?_;conv=>whnf)
  refine T.cf2 rfl lt_end ?_
  repeat(refine .A ?_;conv=>whnf)
  have hr0:(c.vars.map cI)[(0:Int).toNat]? =some (cI (c.vars.getD 0 0)):=by rw[List.getElem?_map,List.getElem?_eq_getElem (show(0:Int).toNat<c.vars.length by simp;omega),getD_at (by omega)];rfl
  have hr1:(c.vars.map cI)[(1:Int).toNat]? =some (cI (c.vars.getD 1 0)):=by rw[List.getElem?_map,List.getElem?_eq_getElem (show(1:Int).toNat<c.vars.length by simp;omega),getD_at (by omega)];rfl
  refine T.rdw 16 rfl (by kernel_rfl) rfl ?_
  repeat(refine .A ?_;conv=>whnf)
  refine .I (r:=cI (c.vars.getD 0 0)) hr0 ?_
  repeat(refine .A ?_;conv=>whnf)
  refine .I (r:=cI (c.vars.getD 1 0)) hr1 ?_
  repeat(refine .A ?_;conv=>whnf)
  refine J.s3 (enc:=cI) (l:=c.vars) 2 rfl rfl rfl rfl rfl rfl rfl rfl rfl (fun _=>rfl) rfl (by omega) ?_
  repeat(refine .A ?_;conv=>whnf)
  refine J.al rfl rfl rfl rfl rfl rfl rfl ?_
  repeat(refine .A ?_;conv=>whnf)
  refine J.al rfl rfl rfl rfl rfl rfl rfl ?_
  repeat(refine .A ?_;conv=>whnf)
  refine J.wd rfl rfl rfl rfl rfl rfl rfl rfl rfl rfl ?_
  repeat(refine .A ?_;conv=>whnf)
  refine J.wd rfl rfl rfl rfl rfl rfl rfl rfl rfl rfl ?_
  repeat(refine .A ?_;conv=>whnf)
  refine⟨by kernel_rfl,?_⟩
  repeat(refine .A ?_;conv=>whnf)
  refine J.sub (Rel.unbx (s:=10) (fun _ h=>h) rfl rfl) ?_
  refine J.sub (Rel.fp (s:=10) rfl) ?_
  refine J.sub (Rel.unbx (s:=11) (fun _ h=>h) rfl rfl) ?_
  refine J.sub (Rel.fp (s:=11) rfl) ?_
  have hvi:=hv _ (getD_in (show 0<c.vars.length by omega))
  have hvr:=hv _ (getD_in (show 1<c.vars.length by omega))
  have hdi:=domAt_mem hvi.2
  have hri:(d.map cD)[(c.vars.getD 0 0).toNat]? =some (cD (domAt d (c.vars.getD 0 0))):=by rw[List.getElem?_map,domAt_some hvi.2];rfl
  refine J.i rfl rfl rfl rfl rfl rfl rfl rfl rfl (r:=cD (domAt d (c.vars.getD 0 0))) hvi.1 hri rfl ?_
  repeat(refine .A ?_;conv=>whnf)
  have hvs:=dvalues_spec (domAt d (c.vars.getD 0 0)) (fd.fine _ hdi).domB.1 (by have:=hx _ hdi;omega)
  rw[List.take_of_length_le (show _≤4097 by have:=fd.few _ hdi;omega)]at hvs
  refine .C hvs ?_
  repeat(refine .A ?_;conv=>whnf)
  have hdel:=deleteF_spec (p:=fun i=> !elemIn d c.vars i) (f:=69) [.ptr [ints (c.vars.drop 2)],.ptr [doms d],.ptr [.int .i64 (c.vars.getD 1 0)]] (vals (domAt d (c.vars.getD 0 0))) (fun i _=>eclos_spec d c.vars i (by omega) hv (by omega) fun x hm=>by have:=hx x hm;omega) (by have:=fd.few _ hdi;omega)
  rw[show(vals (domAt d (c.vars.getD 0 0))).filter (fun x=> !!elemIn d c.vars x)=elemPl d c.vars by simp[elemPl]]at hdel
  refine J.cp (cs2:=[]) (qs:=[]) [] rfl rfl rfl rfl rfl rfl rfl rfl hdel trivial rfl rfl rfl rfl rfl rfl ?_
  repeat(refine .A ?_;conv=>whnf)
  have hpin: ∀i∈elemPl d c.vars,0≤i∧i.toNat+2<c.vars.length:=fun i hi=>by
   obtain⟨_,a1,a2,_⟩:=(elemPl_iff gd c.vars i).1 hi
   exact⟨a1,a2⟩
  have hpll:(elemPl d c.vars).length≤4096:=Nat.le_trans (List.length_filter_le _ _) (fd.few _ hdi)
  have hmay:=fun l=>elemMay_few gd c.vars l
  have hrr:(d.map cD)[(c.vars.getD 1 0).toNat]? =some (cD (domAt d (c.vars.getD 1 0))):=by rw[List.getElem?_map,domAt_some hvr.2];rfl
  unfold elemOut at hR
  generalize elemPl d c.vars=l at*
  refine T.cd rfl (fun h5=> ?_) (fun h5=> ?_)
  ·have h5:l=[]:=by simp at h5;exact h5
   rw[if_pos h5]at hR
   subst hR
   repeat(refine .A ?_;conv=>whnf)
   exact⟨_,.ownN rfl (.v rfl rfl rfl (fun _=>rfl) .nil)⟩
  ·have h5: ¬l=[]:=fun e=>h5 (by rw[e];rfl)
   rw[if_neg h5]at hR
   repeat(refine .A ?_;conv=>whnf)
   refine T.sub (Rel.own0 (s:=13) 47 2 rfl) ?_
   refine T.K (T.list l (fun n pre post=>⟨[(2,.val false (.ptr [doms d])),(6,.ref 0),(9,.val true (.int .i64 (c.vars.getD 0 0))),(10,.val true (.ptr [.int .i64 (c.vars.getD 1 0)])),(11,.val false (.ptr [ints (c.vars.drop 2)])),(12,.ref 1),(13,.ref 2),(52,.ref 1),(53,.val true (.int .i64 (l.map cI).length)),(54,.val true (.int .i64 n))],[(0,some (.sl 45 1 true (d.map cD))),(1,some (.sl 3 1 true (l.map cI))),(2,some (.sl 47 2 true ((elemMay d c.vars pre).map cR)))],3⟩) (fun _ _ h=>h) ?_ ?_)
   ·rintro n pre v post h hn ih
    have hlt:=at_lt h hn
    have hvv:=hpin v (by rw[h];simp)
    repeat(refine .A ?_;conv=>whnf)
    refine T.ct2 rfl (lt_at h hn) ?_
    repeat(refine .A ?_;conv=>whnf)
    refine J.io rfl rfl rfl rfl rfl rfl rfl rfl rfl (by omega) (by simp;omega) rfl ?_
    repeat(refine .A ?_;conv=>whnf)
    refine J.lo rfl rfl rfl rfl rfl rfl (r:=cI v) (row_at h hn) rfl ?_
    repeat(refine .A ?_;conv=>whnf)
    have hvin:=hv _ (getD_in hvv.2)
    have hls:((c.vars.drop 2).map cI)[v.toNat]? =some (cI (c.vars.getD (v.toNat+2) 0)):=by
     rw[List.getElem?_map,List.getElem?_drop,Nat.add_comm 2,List.getElem?_eq_getElem hvv.2,getD_at hvv.2];rfl
    have hrv:(d.map cD)[(c.vars.getD (v.toNat+2) 0).toNat]? =some (cD (domAt d (c.vars.getD (v.toNat+2) 0))):=by rw[List.getElem?_map,domAt_some hvin.2];rfl
    have hx1:=hx _ (domAt_mem hvin.2)
    have hx2:=hx _ (domAt_mem hvr.2)
    have hmy:=hmay pre
    have hme:=elemM_ok gd c.vars v
    have hmr:=dom_rng hme.1 fun x hx=>(gd.few.at _).2.2 x ((hme.2 x).1 hx).1
    have hml:(elemM d c.vars v).length≤4096:=by
     have a1:=dom_length_le hme.1
     have a2:=up_length_le (vals_up hme.1) fun x hx=>((hme.2 x).1 hx).1
     have:=(gd.few.at (c.vars.getD (v.toNat+2) 0)).1
     omega
    have hnx:elemMay d c.vars (pre++[v])=joinD (elemMay d c.vars pre) (elemM d c.vars v):=by simp[elemMay]
    have hmeet:=meet_spec (domAt d (c.vars.getD (v.toNat+2) 0)) (domAt d (c.vars.getD 1 0)) (by omega)
    have hjoin:=djoin_spec (elemMay d c.vars pre) (elemM d c.vars v) (by omega) fun r hr=>by
     rcases List.mem_append.1 hr with hr|hr
     ·exact hmy.2 r hr
     ·exact hmr r hr
    rw[show meetR (domAt d (c.vars.getD (v.toNat+2) 0)) (domAt d (c.vars.getD 1 0))=elemM d c.vars v from rfl]at hmeet
    rw[hnx]at ih
    have hw1:=wrap1 hlt (by omega)
    refine J.i rfl rfl rfl rfl rfl rfl rfl rfl rfl (r:=cI (c.vars.getD (v.toNat+2) 0)) (by omega) hls rfl ?_
    repeat(refine .A ?_;conv=>whnf)
    refine J.i rfl rfl rfl rfl rfl rfl rfl rfl rfl (r:=cD (domAt d (c.vars.getD (v.toNat+2) 0))) hvin.1 hrv rfl ?_
    repeat(refine .A ?_;conv=>whnf)
    refine J.i rfl rfl rfl rfl rfl rfl rfl rfl rfl (r:=cD (domAt d (c.vars.getD 1 0))) hvr.1 hrr rfl ?_
    repeat(refine .A ?_;conv=>whnf)
    refine .C hmeet ?_
    repeat(refine .A ?_;conv=>whnf)
    refine .C hjoin ?_
    repeat(refine .A ?_;conv=>whnf)
    rw[hw1]
    exact T.K ih
   ·have hof:=(domOf_spec l (by omega)).frz
    have hml:=(hmay l).1
    generalize elemMay d c.vars l=may at*
    generalize domOfP l=of at*
    repeat(refine .A ?_;conv=>whnf)
    refine T.cf2 rfl lt_end ?_
    repeat(refine .A ?_;conv=>whnf)
    refine .C hof ?_
    repeat(refine .A ?_;conv=>whnf)
    refine J.io rfl rfl rfl rfl rfl rfl rfl rfl rfl hvi.1 (by simp;exact hvi.2) rfl ?_
    refine J.w1 rfl rfl rfl rfl rfl rfl rfl rfl rfl rfl rfl (enc:=cD) (z:=of.1) (fun _=>rfl) (by simp;exact hvi.2) ?_
    refine J.sub (Rel.frz (s:=13) (fun _ h=>h) rfl rfl) ?_
    repeat(refine .A ?_;conv=>whnf)
    refine J.io rfl rfl rfl rfl rfl rfl rfl rfl rfl hvr.1 (by simp;exact hvr.2) rfl ?_
    refine J.w1 rfl rfl rfl rfl rfl rfl rfl rfl rfl rfl rfl (enc:=cD) (z:=may) (fun _=>rfl) (by simp;exact hvr.2) ?_
    repeat(refine .A ?_;conv=>whnf)
    refine T.cd rfl (fun h6=> ?_) (fun h6=> ?_)
    ·have h6:l.length=1:=by simp at h6;omega
     have hl0:(l.map cI)[(0:Int).toNat]? =some (cI (l.getD 0 0)):=by rw[List.getElem?_map,List.getElem?_eq_getElem (show(0:Int).toNat<l.length by simp;omega),getD_at (by omega)];rfl
     have hm0:l.getD 0 0∈l:=by rw[getD_at (by omega)];exact List.getElem_mem _
     obtain⟨b1,b2⟩:=hpin _ hm0
     have hvin:=hv _ (getD_in b2)
     rw[if_pos h6]at hR
     generalize l.getD 0 0=i0 at*
     have hls:((c.vars.drop 2).map cI)[i0.toNat]? =some (cI (c.vars.getD (i0.toNat+2) 0)):=by
      rw[List.getElem?_map,List.getElem?_drop,Nat.add_comm 2,List.getElem?_eq_getElem b2,getD_at b2];rfl
     subst hR
     repeat(refine .A ?_;conv=>whnf)
     refine T.rdm 10 rfl (by kernel_rfl) rfl ?_
     repeat(refine .A ?_;conv=>whnf)
     refine J.io rfl rfl rfl rfl rfl rfl rfl rfl rfl (by omega) (by simp;omega) rfl ?_
     repeat(refine .A ?_;conv=>whnf)
     refine J.lo rfl rfl rfl rfl rfl rfl (r:=cI i0) hl0 rfl ?_
     repeat(refine .A ?_;conv=>whnf)
     refine J.i rfl rfl rfl rfl rfl rfl rfl rfl rfl (r:=cI (c.vars.getD (i0.toNat+2) 0)) b1 hls rfl ?_
     repeat(refine .A ?_;conv=>whnf)
     refine .C (clone_spec may (by omega)).frz ?_
     repeat(refine .A ?_;conv=>whnf)
     refine J.io rfl rfl rfl rfl rfl rfl rfl rfl rfl hvin.1 (by simp;exact hvin.2) rfl ?_
     repeat(refine .A ?_;conv=>whnf)
     refine J.w1 rfl rfl rfl rfl rfl rfl rfl rfl rfl rfl rfl (enc:=cD) (z:=may) (fun _=>rfl) (by simp;exact hvin.2) ?_
     repeat(refine .A ?_;conv=>whnf)
     exact⟨_,.o rfl rfl rfl (fun _=> .inl rfl) (by simp) (.v rfl rfl rfl (fun _=>rfl) .nil)⟩
    ·have h6: ¬l.length=1:=by simp at h6;omega
     rw[if_neg h6]at hR
     subst hR
     repeat(refine .A ?_;conv=>whnf)
     exact⟨_,.o rfl rfl rfl (fun _=> .inl rfl) (by simp) (.v rfl rfl rfl (fun _=>rfl) .nil)⟩
theorem take_filter {α:Type}{l:List α}{i:Nat}(p:α→Bool)(h:i<l.length):(l.take (i+1)).filter p=(l.take i).filter p++(if p l[i]=true then [l[i]]else []):=by
 rw[List.take_succ_eq_append_getElem h,List.filter_append]
 congr 1
 by_cases hp:p l[i]=true
 ·rw[if_pos hp,List.filter_cons_of_pos hp];rfl
 ·rw[if_neg hp,List.filter_cons_of_neg hp];rfl
theorem trows_spec (d:Doms)(c:Con)(hdl:d.length*24≤140737488355328)(hx: ∀x∈d,x.length*16≤140737488355328)(hc:ConB c)(hv: ∀v∈c.vars,0≤v∧v.toNat<d.length)(hr: ∀r∈c.rows,r.length=c.vars.length):
  Spec Tryz.prog 66 false [doms d,.agg (cC c)] [.own 24 1 ((rowsP d c).map cL)]:=by
 refine Spec.body Tryz.func66 rfl rfl rfl fun w0 Z0=> ?_
 obtain⟨h1,h2,h3,h4⟩:=hc
 repeat(refine .A ?_;conv=>whnf)
 refine T.scope (fun _ _ h=>h) ?_
 repeat(refine .A ?_;conv=>whnf)
 refine T.sub (Rel.own0 (s:=5) 24 1 rfl) ?_
 refine T.K (T.ind (fun i:Nat=>⟨[(0,.val false (doms d)),(3,.optr 0 0 0 0),(5,.ref 1),(11,.val false (lists c.rows)),(12,.val true (.int .i64 (c.rows.map cL).length)),(13,.val true (.int .i64 i))],[(0,some (.box false (cC c))),(1,some (.sl 24 1 true (((c.rows.take i).filter (rowIn d c.vars)).map cL)))],2⟩) (fun i=>i≤c.rows.length) (fun i=>c.rows.length-i) 0 (by simp) (fun _ _ h=>h) ?_)
 rintro i hi ih
 repeat(refine .A ?_;conv=>whnf)
 refine T.cd rfl (fun h5=> ?_) (fun h5=> ?_)
 ·have h5:i<c.rows.length:=by simpa using h5
  have hrl:=hr _ (List.getElem_mem h5)
  have hr8:=h4 _ (List.getElem_mem h5)
  have hfl:((c.rows.take i).filter (rowIn d c.vars)).length≤i:=Nat.le_trans (List.length_filter_le _ _) (by simp;omega)
  have ih1:=ih (i+1) (by omega) (by omega)
  rw[take_filter _ h5]at ih1
  have hrow:(c.rows.map cL)[((i:Nat):Int).toNat]? =some (cL c.rows[i]):=by simp[h5]
  generalize (c.rows.take i).filter (rowIn d c.vars)=out at*
  generalize c.rows[i]=r at*
  have hw1:IntKind.i64.wrap ((i:Int)+1)=((i+1:Nat):Int):=wrap1 (l:=c.rows.length) h5 (by omega)
  repeat(refine .A ?_;conv=>whnf)
  refine .I (r:=cL r) hrow ?_
  repeat(refine .A ?_;conv=>whnf)
  refine T.K (T.ind (fun k:Nat=>⟨[(0,.val false (doms d)),(3,.optr 0 0 0 0),(5,.ref 1),(7,.val false (ints r)),(11,.val false (lists c.rows)),(12,.val true (.int .i64 (c.rows.map cL).length)),(13,.val true (.int .i64 i)),(18,.val false (ints c.vars)),(19,.val true (.int .i64 (c.vars.map cI).length)),(20,.val true (.int .i64 k))],[(0,some (.box false (cC c))),(1,some (.sl 24 1 true (out.map cL)))],2⟩)
   (fun k=>k≤c.vars.length∧∀j,j<k→hasV (domAt d (c.vars.getD j 0)) (r.getD j 0)=true) (fun k=>c.vars.length-k) 0 ⟨by simp,fun j hj=>absurd hj (Nat.not_lt_zero j)⟩ (fun _ _ h=>h) ?_)
  rintro k ⟨hk,hb⟩ ih2
  repeat(refine .A ?_;conv=>whnf)
  refine T.cd rfl (fun h6=> ?_) (fun h6=> ?_)
  ·have h6:k<c.vars.length:=by simpa using h6
   have h7:k<r.length:=by omega
   have hvk:=hv _ (List.getElem_mem h6)
   have hdx:=hx _ (domAt_mem hvk.2)
   have hrd:(d.map cD)[c.vars[k].toNat]? =some (cD (domAt d c.vars[k])):=by simp[domAt_some hvk.2]
   have hg1:c.vars.getD k 0=c.vars[k]:=getD_at h6
   have hg2:r.getD k 0=r[k]:=getD_at h7
   have hkv:(c.vars.map cI)[((k:Nat):Int).toNat]? =some (cI c.vars[k]):=row_i h6
   have hkr:(r.map cI)[((k:Nat):Int).toNat]? =some (cI r[k]):=row_i h7
   have hno:hasV (domAt d c.vars[k]) r[k]=false→rowIn d c.vars r=false:=fun hf=>by
    cases hh:rowIn d c.vars r with
    |false=>rfl
    |true=>
     have:=(zip_all (p:=fun v x=>hasV (domAt d v) x) hrl).1 hh k c.vars[k] (List.getElem?_eq_getElem h6)
     rw[hg2]at this
     rw[hf]at this;cases this
   have hyes:hasV (domAt d c.vars[k]) r[k]=true→∀j,j<k+1→hasV (domAt d (c.vars.getD j 0)) (r.getD j 0)=true:=fun hf j hj=>by
    by_cases e:j=k
    ·rw[e,hg1,hg2];exact hf
    ·exact hb j (by omega)
   generalize c.vars[k]=v at*
   generalize r[k]=x at*
   repeat(refine .A ?_;conv=>whnf)
   refine .I (r:=cI v) hkv ?_
   repeat(refine .A ?_;conv=>whnf)
   refine J.i rfl rfl rfl rfl rfl rfl rfl rfl rfl (r:=cD (domAt d v)) hvk.1 hrd rfl ?_
   repeat(refine .A ?_;conv=>whnf)
   refine .I (r:=cI x) hkr ?_
   repeat(refine .A ?_;conv=>whnf)
   refine .C (dhas_spec (domAt d v) x hdx) ?_
   cases hh:hasV (domAt d v) x with
   |false=>
    repeat(refine .A ?_;conv=>whnf)
    refine T.ct rfl ?_
    repeat(refine .A ?_;conv=>whnf)
    rw[hno hh]at ih1
    simp only[Bool.false_eq_true,if_false,List.append_nil]at ih1
    rw[hw1]
    exact T.K ih1
   |true=>
    repeat(refine .A ?_;conv=>whnf)
    refine T.cf rfl ?_
    repeat(refine .A ?_;conv=>whnf)
    rw[wrap1 (l:=c.vars.length) h6 (by omega)]
    exact T.K (ih2 (k+1) ⟨by omega,hyes hh⟩ (by omega))
  ·have h6:k=c.vars.length:=by simp at h6;omega
   subst h6
   have hin:rowIn d c.vars r=true:=(zip_all (p:=fun v x=>hasV (domAt d v) x) hrl).2 fun j v hj=>by
    have hjl:=(List.getElem?_eq_some_iff.1 hj).1
    have:=hb j hjl
    rw[List.getD_eq_getElem?_getD,hj]at this
    exact this
   rw[hin]at ih1
   simp only[if_true]at ih1
   repeat(refine .A ?_;conv=>whnf)
   refine .C (clonei_spec r hr8).frz ?_
   repeat(refine .A ?_;conv=>whnf)
   refine .V ?_
   repeat(refine .A ?_;conv=>whnf)
   refine J.a1 (enc:=cL) (x:=r) (B:=24) rfl rfl rfl rfl rfl rfl rfl rfl rfl rfl rfl rfl rfl rfl rfl rfl rfl rfl rfl rfl (by omega) ?_
   repeat(refine .A ?_;conv=>whnf)
   rw[hw1]
   exact T.K ih1
 ·have h5:i=c.rows.length:=by simp at h5;omega
  subst h5
  rw[List.take_length]
  repeat(refine .A ?_;conv=>whnf)
  exact⟨_,.o rfl rfl rfl (fun _=> .inl rfl) (by simp) .nil⟩
theorem tabO_empty {d:Doms}{c:Con}(h: []∈d):tabO d c=none:=if_pos h
theorem tprune_spec (d:Doms)(c:Con)(hdl:d.length*24≤140737488355328)(hx: ∀x∈d,(x.length+1)*16≤140737488355328)(hc:ConB c)(hv: ∀v∈c.vars,0≤v∧v.toNat<d.length)(hr: ∀r∈c.rows,r.length=c.vars.length)(hfew:c.rows.length≤1024):
  Spec Tryz.prog 30 false [doms d,.agg (cC c)] (pruneRes (tabO d c)):=by
 refine Spec.body Tryz.func30 rfl rfl rfl fun w0 Z0=> ?_
 generalize hR:tabO d c=R
 have hcb:=hc
 obtain⟨h1,h2,h3,h4⟩:=hc
 repeat(refine .A ?_;conv=>whnf)
 refine T.sub (Rel.own0 (s:=6) 45 1 rfl) ?_
 refine T.K (T.listI d (fun pre=>[]∉pre) (fun n pre post=>⟨[(0,.val false (doms d)),(3,.optr 0 0 0 0),(6,.ref 1),(15,.val false (doms d)),(16,.val true (.int .i64 (d.map cD).length)),(17,.val true (.int .i64 n))],[(0,some (.box false (cC c))),(1,some (.sl 45 1 true (pre.map cD)))],2⟩) (fun _ _ h=>h) (by simp) ?_ ?_)
 ·rintro n pre x post h hn hi ih
  have hlt:=at_lt h hn
  have hxl:=hx x (by rw[h];simp)
  repeat(refine .A ?_;conv=>whnf)
  refine T.ct2 rfl (lt_at h hn) ?_
  repeat(refine .A ?_;conv=>whnf)
  refine .I (r:=cD x) (row_at h hn) ?_
  repeat(refine .A ?_;conv=>whnf)
  refine T.cd rfl (fun h5=> ?_) (fun h5=> ?_)
  ·have hxe:x=[]:=by simp at h5;exact h5
   have:R=none:=by rw[←hR,tabO_empty (by rw[h,hxe];simp)]
   subst this
   repeat(refine .A ?_;conv=>whnf)
   exact⟨_,.ownN rfl (.v rfl rfl rfl (fun _=>rfl) .nil)⟩
  ·have hxe:x≠[]:=fun e=>h5 (by rw[e];rfl)
   repeat(refine .A ?_;conv=>whnf)
   refine .C (clone_spec x (by omega)).frz ?_
   repeat(refine .A ?_;conv=>whnf)
   refine .V ?_
   refine J.aD rfl rfl rfl rfl rfl rfl rfl rfl rfl rfl rfl rfl rfl rfl rfl rfl rfl rfl rfl (by omega) ?_
   repeat(refine .A ?_;conv=>whnf)
   rw[wrap1 hlt (by omega)]
   exact T.K (ih (by simp[hi,Ne.symm hxe]))
 ·intro hne
  unfold tabO at hR
  rw[if_neg hne]at hR
  repeat(refine .A ?_;conv=>whnf)
  refine T.cf2 rfl lt_end ?_
  repeat(refine .A ?_;conv=>whnf)
  refine .C (trows_spec d c hdl (fun x hm=>by have:=hx x hm;omega) hcb hv hr).frz ?_
  have hrl:(rowsP d c).length≤1024:=Nat.le_trans (List.length_filter_le _ _) hfew
  have hrr: ∀r∈rowsP d c,r.length=c.vars.length:=fun r hm=>hr r (List.mem_filter.1 hm).1
  generalize rowsP d c=rows at*
  repeat(refine .A ?_;conv=>whnf)
  refine T.cd rfl (fun h5=> ?_) (fun h5=> ?_)
  ·have h5:rows=[]:=by simp at h5;exact h5
   rw[if_pos h5]at hR
   subst hR
   repeat(refine .A ?_;conv=>whnf)
   exact⟨_,.ownN rfl (.v rfl rfl rfl (fun _=>rfl) .nil)⟩
  ·have h5: ¬rows=[]:=fun e=>h5 (by rw[e];rfl)
   rw[if_neg h5]at hR
   repeat(refine .A ?_;conv=>whnf)
   refine T.K (T.ind (fun s:Nat×Doms=>⟨[(6,.ref 0),(9,.val true (lists rows)),(37,.val false (ints c.vars)),(38,.val true (.int .i64 (c.vars.map cI).length)),(39,.val true (.int .i64 s.1))],[(0,some (.sl 45 1 true (s.2.map cD)))],1⟩)
    (fun s=>s.1≤c.vars.length∧s.2.length=d.length∧some (tabGo rows (c.vars.drop s.1) s.1 s.2)=R) (fun s=>c.vars.length-s.1) (0,d) ⟨by simp,rfl,hR⟩ (fun _ _ h=>h) ?_)
   rintro⟨i,out⟩ ⟨hi,hol,hR⟩ ih
   simp only at hi hol hR
   dsimp only
   repeat(refine .A ?_;conv=>whnf)
   refine T.cd rfl (fun h6=> ?_) (fun h6=> ?_)
   ·have h6:i<c.vars.length:=by simpa using h6
    have hvi:=hv _ (List.getElem_mem h6)
    have hkv:(c.vars.map cI)[((i:Nat):Int).toNat]? =some (cI c.vars[i]):=row_i h6
    rw[List.drop_eq_getElem_cons h6,tabGo]at hR
    generalize c.vars[i]=v at*
    repeat(refine .A ?_;conv=>whnf)
    refine .I (r:=cI v) hkv ?_
    repeat(refine .A ?_;conv=>whnf)
    refine T.sub (Rel.own0 (s:=12) 3 1 rfl) ?_
    refine T.K (T.ind (fun k:Nat=>⟨[(6,.ref 0),(9,.val true (lists rows)),(10,.val true (.int .i64 i)),(11,.val true (.int .i64 v)),(12,.ref 1),(37,.val false (ints c.vars)),(38,.val true (.int .i64 (c.vars.map cI).length)),(39,.val true (.int .i64 i)),(44,.val true (lists rows)),(45,.val true (.int .i64 (rows.map cL).length)),(46,.val true (.int .i64 k))],[(0,some (.sl 45 1 true (out.map cD))),(1,some (.sl 3 1 true ((colL (rows.take k) i).map cI)))],2⟩)
     (fun k=>k≤rows.length) (fun k=>rows.length-k) 0 (by simp) (fun _ _ h=>h) ?_)
    rintro k hk ih2
    repeat(refine .A ?_;conv=>whnf)
    refine T.cd rfl (fun h7=> ?_) (fun h7=> ?_)
    ·have h7:k<rows.length:=by simpa using h7
     have hrk:=hrr _ (List.getElem_mem h7)
     have hrow:(rows.map cL)[((k:Nat):Int).toNat]? =some (cL rows[k]):=by simp[h7]
     have ih3:=ih2 (k+1) (by omega) (by omega)
     rw[List.take_succ_eq_append_getElem h7,show colL (rows.take k++[rows[k]]) i=colL (rows.take k) i++[rows[k].getD i 0]from List.map_append ..]at ih3
     have hcl:(colL (rows.take k) i).length≤1024:=by simp[colL];omega
     generalize rows[k]=r at*
     have h8:i<r.length:=by omega
     repeat(refine .A ?_;conv=>whnf)
     refine .I (r:=cL r) hrow ?_
     repeat(refine .A ?_;conv=>whnf)
     refine .I (r:=cI r[i]) (row_i h8) ?_
     repeat(refine .A ?_;conv=>whnf)
     refine .V ?_
     refine J.aI rfl rfl rfl rfl rfl rfl rfl rfl rfl rfl rfl rfl rfl rfl rfl rfl rfl rfl rfl (l:=colL (rows.take k) i) (x:=r[i]) (by omega) ?_
     repeat(refine .A ?_;conv=>whnf)
     rw[wrap1 (l:=rows.length) h7 (by omega)]
     rw[show r.getD i 0=r[i]from getD_at h8]at ih3
     exact T.K ih3
    ·have h7:k=rows.length:=by simp at h7;omega
     subst h7
     rw[List.take_length]
     have hcl:(colL rows i).length≤1024:=by simp[colL];omega
     have hof:=(domOf_spec (colL rows i) (by omega)).frz
     have ih3:=ih (i+1,out.set v.toNat (domOfP (colL rows i)).1) ⟨by omega,by rw[List.length_set];exact hol,hR⟩ (by show _-_<_-_;omega)
     generalize domOfP (colL rows i)=of at*
     repeat(refine .A ?_;conv=>whnf)
     refine .C hof ?_
     repeat(refine .A ?_;conv=>whnf)
     refine J.io rfl rfl rfl rfl rfl rfl rfl rfl rfl hvi.1 (by simp[hol];exact hvi.2) rfl ?_
     refine J.w1 rfl rfl rfl rfl rfl rfl rfl rfl rfl rfl rfl (enc:=cD) (z:=of.1) (fun _=>rfl) (by omega) ?_
     repeat(refine .A ?_;conv=>whnf)
     rw[wrap1 (l:=c.vars.length) h6 (by omega)]
     exact T.K ih3
   ·have h6:i=c.vars.length:=by simp at h6;omega
    subst h6
    rw[List.drop_length,tabGo]at hR
    subst hR
    repeat(refine .A ?_;conv=>whnf)
    exact⟨_,.o rfl rfl rfl (fun _=> .inl rfl) (by simp) (.v rfl rfl rfl (fun _=>rfl) .nil)⟩
theorem rtab_spec (d:Doms)(c:Con)(us:List Int)(hu:us=sortU c.vars)(R:Option Doms)(hcl:c.vars.length*8≤140737488355328)(hk:Spec Tryz.prog 91 false [doms d,.agg (cC c),ints us] (refRes R)):
  Spec Tryz.prog 38 false [doms d,.agg (cC c)] (refRes R):=by
 refine Spec.body Tryz.func38 rfl rfl rfl fun w0 Z0=> ?_
 have hso:=sorted_spec c.vars hcl
 rw[←hu]at hso
 unfold refRes at*
 generalize R.getD []=D at*
 generalize R.isSome=b at*
 repeat(refine .A ?_;conv=>whnf)
 refine .C hso ?_
 repeat(refine .A ?_;conv=>whnf)
 refine .C hk ?_
 repeat(refine .A ?_;conv=>whnf)
 exact⟨_,.v rfl rfl rfl (fun _=>rfl) (.v rfl rfl rfl (fun _=>rfl) .nil)⟩
theorem relem_spec (d:Doms)(c:Con)(us:List Int)(hu:us=sortU c.vars)(R:Option Doms)(hcl:c.vars.length*8≤140737488355328)(hk:Spec Tryz.prog 91 false [doms d,.agg (cC c),ints us] (refRes R)):
  Spec Tryz.prog 39 false [doms d,.agg (cC c)] (refRes R):=by
 refine Spec.body Tryz.func39 rfl rfl rfl fun w0 Z0=> ?_
 have hso:=sorted_spec c.vars hcl
 rw[←hu]at hso
 unfold refRes at*
 generalize R.getD []=D at*
 generalize R.isSome=b at*
 repeat(refine .A ?_;conv=>whnf)
 refine .C hso ?_
 repeat(refine .A ?_;conv=>whnf)
 refine .C hk ?_
 repeat(refine .A ?_;conv=>whnf)
 exact⟨_,.v rfl rfl rfl (fun _=>rfl) (.v rfl rfl rfl (fun _=>rfl) .nil)⟩
theorem fillW_mem {n:Nat}{us t:List Int}{k:Nat}{x:Int}(h:x∈fillW n us t k):x=0∨x∈t:=by
 have key: ∀(l:List (Int×Int)) (a:List Int),x∈l.foldl (fun a p=>a.set p.1.toNat p.2) a→x∈a∨∃p∈l,p.2=x:=by
  intro l
  induction l with
  |nil=>intro a h;exact .inl h
  |cons p l ih=>
   intro a h
   rcases ih _ h with h|⟨q,hq,e⟩
   ·rcases List.mem_or_eq_of_mem_set h with h|h
    ·exact .inl h
    ·exact .inr ⟨p,.head _,h.symm⟩
   ·exact .inr ⟨q,.tail _ hq,e⟩
 rcases key _ _ h with h|⟨p,hp,rfl⟩
 ·exact .inl (List.eq_of_mem_replicate h)
 ·exact .inr (List.of_mem_zip (List.mem_of_mem_take hp)).2
theorem rkept_spec {d:Doms}{c:Con}(gd:GoodD d.length d)(hc:ConB c)(h:conR d c=0)(hk:c.kind=2∨c.kind=3∨c.kind=5)(hp:prodD d≤1048576):Spec Tryz.prog 91 false [doms d,.agg (cC c),ints (usesR c)] (refRes (oneO c d)):=by
 obtain⟨_,hv,hr,hin⟩:=right_split hc h
 have hnd:(usesR c).Nodup:=by unfold usesR;exact up_nodup (sortU_up _)
 have hds:=gd.few.small
 have hul:(usesR c).length≤d.length:=by
  have h1:((usesR c).map Int.toNat).Nodup:=List.pairwise_map.2 (hnd.imp_of_mem fun {x y} hx hy hne e=>hne (by have:=hin x hx;have:=hin y hy;omega))
  have h2:=h1.length_le_of_subset (l₂:=List.range d.length) fun x hx=>by
   obtain⟨u,hu,rfl⟩:=List.mem_map.1 hx
   exact List.mem_range.2 (hin u hu).2
  simpa using h2
 have e:oneO c d=keptR d (usesR c) fun t=>holdsR c (fillW d.length (usesR c) t (usesR c).length):=by
  unfold oneO
  rw[if_neg (by omega),if_neg (by omega),if_neg (by omega),if_neg (by omega)]
 have hval: ∀t∈growR ((usesR c).map (domAt d)) (usesR c).length,∀v∈t,-1048576≤v∧v≤1048576:=fun t ht v hv=>by
  obtain⟨f,rfl,hfv⟩:=(grow_fun hnd).1 ht
  obtain⟨u,hu,rfl⟩:=List.mem_map.1 hv
  exact(gd.few.at u).2.2 _ (hfv u hu)
 rw[e]
 refine kept_spec d c (usesR c) _ (fun x hx=>(gd.few.fine x hx).domB) (by omega) (by omega) hin (fun m hm=>by have:=grow_few gd.one hnd hin m hm;omega) hval fun t ht=> ?_
 refine holds_spec c _ hc (by rw[fillW_len];omega) (fun e=> ?_) fun e x hx=> ?_
 ·have:=(clause_in hc h e).len;omega
 ·rcases fillW_mem hx with rfl|hx
  ·decide
  ·have:=hval t ht x hx;omega
theorem ones_spec {d:Doms}{c:Con}(gd:GoodD d.length d)(hc:ConB c)(h:conR d c=0)(hp:prodD d≤1048576):Spec Tryz.prog 13 false [doms d,.agg (cC c)] (pruneRes (oneO c d))∧Spec Tryz.prog 14 false [doms d,.agg (cC c)] (refRes (oneO c d)):=by
 obtain⟨hk0,hv,hr,hin⟩:=right_split hc h
 have hcl:c.vars.length*8≤140737488355328:=by have:=hc.1;omega
 have hsm:=good_small gd
 have hus:c.kind≠4→usesR c=sortU c.vars:=uses5
 suffices hh:Spec Tryz.prog (prunerF c.kind) false [doms d,.agg (cC c)] (pruneRes (oneO c d))∧Spec Tryz.prog (rprunerF c.kind) false [doms d,.agg (cC c)] (refRes (oneO c d))from⟨fone_of hh.1,rone_of hh.2⟩
 have hcs:c.kind=0∨c.kind=1∨c.kind=2∨c.kind=3∨c.kind=4∨c.kind=5∨c.kind=6:=by omega
 rcases hcs with hk|hk|hk|hk|hk|hk|hk
 ·have e:oneO c d=linO c d:=by unfold oneO;rw[if_pos hk]
  rw[e,hk]
  exact linO_specs gd (sum_in hc h hk gd.few.fine gd.few.small)
 ·have e:oneO c d=prune8 d c.vars:=by unfold oneO;rw[if_neg (by omega),if_pos hk]
  rw[e,hk]
  exact all_specs gd hc h hk
 ·have hkept:=rkept_spec gd hc h (.inl hk) hp
  have hrr:(∀r∈c.rows,r.length=c.vars.length)∧c.rows.length≤1024:=by
   unfold rightR at hr
   rw[if_neg (by omega),if_neg (by omega),if_pos hk]at hr
   simp only[manyR,rowsR,Bool.and_eq_true,decide_eq_true_eq,List.all_eq_true]at hr
   refine⟨fun r hrm=> ?_,hr.2.2⟩
   have:=hr.2.1 r hrm
   simp only[rowOK,Bool.and_eq_true,decide_eq_true_eq]at this
   exact this.1
  have hp2:=tprune_spec d c gd.few.small (fun x hx=>by have:=hsm x hx;omega) hc hv.2 hrr.1 hrr.2
  rw[←tab_kept gd hc h hk]at hp2
  rw[hk]
  exact⟨hp2,rtab_spec d c _ (hus (by omega)) _ hcl hkept⟩
 ·have hkept:=rkept_spec gd hc h (.inr (.inl hk)) hp
  have hrr:c.vars.Nodup∧3≤c.vars.length:=by
   unfold rightR at hr
   rw[if_neg (by omega),if_neg (by omega),if_neg (by omega),if_pos hk]at hr
   simp only[manyR,Bool.and_eq_true,decide_eq_true_eq]at hr
   exact⟨hr.1.2.2,hr.2⟩
  have hp2:=eprune_spec (n:=d.length) d c (fun _=>gd) gd.few hc hrr.1 hrr.2 hv.2
  rw[←elem_kept gd hc h hk]at hp2
  rw[hk]
  exact⟨hp2,relem_spec d c _ (hus (by omega)) _ hcl hkept⟩
 ·have e:oneO c d=reifO c d:=by unfold oneO;rw[if_neg (by omega),if_neg (by omega),if_pos hk]
  rw[e,hk]
  exact reif_specs2 gd (reif_in hc h hk gd.few.fine gd.few.small)
 ·have hkept:=rkept_spec gd hc h (.inr (.inr hk)) hp
  have hp2:=clause_specs2 gd hc h hk
  have h2:=rclause_spec d c (usesR c) (hus (by omega)) (fun t=>holdsR c (fillW d.length (usesR c) t (usesR c).length)) hcl
  have e:oneO c d=keptR d (usesR c) fun t=>holdsR c (fillW d.length (usesR c) t (usesR c).length):=by
   unfold oneO
   rw[if_neg (by omega),if_neg (by omega),if_neg (by omega),if_neg (by omega)]
  rw[hk]
  refine⟨hp2,?_⟩
  rw[e]at hkept⊢
  exact h2 hkept
 ·have e:oneO c d=lexO c d:=by unfold oneO;rw[if_neg (by omega),if_neg (by omega),if_neg (by omega),if_pos hk]
  rw[e,hk]
  exact lex_specs gd hv
structure RInv (cons:List Con)(d was:Doms)(k:Nat)(now:Doms):Prop where
 le:k≤cons.length
 come:Come leD (GoodD d.length) oneO cons d now
 less:leD now was
 stay:now=was→∀(j:Nat) c,k≤j→cons[j]? =some c→oneO c was=some was
theorem rall_spec (d:Doms)(cons:List Con)(hd:d.length*24≤140737488355328)(hx: ∀x∈d,Fine x∧(vals x).length≤4096)(hc:ConsOk d cons)
  (hone: ∀c∈cons,∀out,GoodD d.length out→leD out d→Spec Tryz.prog 14 false [doms out,.agg (cC c)] (refRes (oneO c out))):
  Spec Tryz.prog 17 false [doms d,consPV cons] (refRes (allO cons d)):=by
 refine Spec.body Tryz.func17 rfl rfl rfl fun w0 Z0=> ?_
 generalize hR:allO cons d=R
 have hcl:=hc.few
 repeat(refine .A ?_;conv=>whnf)
 refine .C (empty_spec d (by omega)) ?_
 repeat(refine .A ?_;conv=>whnf)
 refine T.cd rfl (fun h1=> ?_) (fun h1=> ?_)
 ·have h1: []∈d:=by simpa using h1
  have:R=none:=by rw[←hR,allO_empty h1]
  subst this
  repeat(refine .A ?_;conv=>whnf)
  exact⟨_,.v rfl rfl rfl (fun _=>rfl) (.v rfl rfl rfl (fun _=>rfl) .nil)⟩
 ·have hne: []∉d:=by simpa using h1
  have gd:GoodD d.length d:=⟨⟨hd,fun x h=>(hx x h).1,fun x h=>(hx x h).2⟩,rfl,hne⟩
  have hst:=hc.step gd
  repeat(refine .A ?_;conv=>whnf)
  refine .C (lists_spec d hd fun x h=>(hx x h).1.domB.2.2).frz ?_
  repeat(refine .A ?_;conv=>whnf)
  refine T.K (T.ind (fun x:Doms=>⟨[(1,.val false (consPV cons)),(6,.val true (doms x))],[],0⟩) (fun x=>Come leD (GoodD d.length) oneO cons d x) (fun x=>weight x) d (Come.refl (orderD d.length) gd) (fun _ _ h=>h) ?_)
  rintro was hcome ih
  have gw:=hcome.fine
  repeat(refine .A ?_;conv=>whnf)
  refine .C (lists_spec was gw.few.small fun x h=>(gw.few.fine x h).domB.2.2).frz ?_
  repeat(refine .A ?_;conv=>whnf)
  have hk0:IntKind.i64.wrap (((cons.map cC).length:Int)-1)=((cons.length:Nat):Int)-1:=by rw[List.length_map,wrap_id (by omega) (by omega)]
  rw[hk0]
  refine T.K (T.ind (fun x:Nat×Doms=>⟨[(1,.val false (consPV cons)),(6,.val true (doms x.2)),(7,.val true (doms was)),(8,.val true (.int .i64 ((x.1:Int)-1)))],[],0⟩) (fun x=>RInv cons d was x.1 x.2) (fun x=>x.1) (cons.length,was) ⟨Nat.le_refl _,hcome,(orderD d.length).refl _,fun _ j c h1 h2=>by have:=(List.getElem?_eq_some_iff.1 h2).1;omega⟩ (fun _ _ h=>h) ?_)
  rintro⟨k,now⟩ hinv ih2
  simp only at hinv
  dsimp only
  have hle:=hinv.le
  repeat(refine .A ?_;conv=>whnf)
  refine T.cd rfl (fun h2=> ?_) (fun h2=> ?_)
  ·obtain⟨i,rfl⟩: ∃i,k=i+1:=⟨k-1,by omega⟩
   have hi:i<cons.length:=by omega
   have hci:cons[i]? =some cons[i]:=List.getElem?_eq_getElem hi
   have hcm:=List.getElem_mem hi
   have hrow:(cons.map cC)[((i:Nat):Int).toNat]? =some (cC cons[i]):=by simp[hi]
   have gn:=hinv.come.fine
   have hsp:=hone _ hcm now gn hinv.come.less
   have hstc:=hst _ hcm
   have e1:(((i+1:Nat):Int)-1)=((i:Nat):Int):=by omega
   rw[e1]
   generalize cons[i]=c at*
   repeat(refine .A ?_;conv=>whnf)
   refine .I (r:=cC c) hrow ?_
   repeat(refine .A ?_;conv=>whnf)
   refine .C hsp ?_
   cases hnow:oneO c now with
   |none=>
    have hfin:=allO_eq (d:=d) (R:=none) (show AllEnds cons d none from hinv.come.none hcm hstc.takes hnow)
    rw[hR]at hfin
    subst hfin
    repeat(refine .A ?_;conv=>whnf)
    refine T.ct rfl ?_
    repeat(refine .A ?_;conv=>whnf)
    exact⟨_,.v rfl rfl rfl (fun _=>rfl) (.v rfl rfl rfl (fun _=>rfl) .nil)⟩
   |some nxt=>
    obtain⟨gx,hlx⟩:=hstc.takes.less _ _ gn hnow
    have hin2:RInv cons d was i nxt:=by
     refine⟨by omega,hinv.come.step (orderD d.length) hcm hstc.takes hnow,(orderD d.length).trans _ _ _ hlx hinv.less,fun e j c' hj hcj=> ?_⟩
     have he:now=was:=(orderD d.length).anti _ _ gn gw hinv.less (by rw[←e];exact hlx)
     by_cases hji:j=i
     ·subst hji
      rw[hci]at hcj
      cases hcj
      rw[←he,hnow,e,he]
     ·exact hinv.stay he j c' (by omega) hcj
    repeat(refine .A ?_;conv=>whnf)
    refine T.cf rfl ?_
    repeat(refine .A ?_;conv=>whnf)
    have hw:IntKind.i64.wrap ((i:Int)-1)=(i:Int)-1:=wrap_id (by omega) (by omega)
    rw[hw]
    exact T.K (ih2 (i,nxt) hin2 (by show i<i+1;omega))
  ·have hk:k=0:=by omega
   subst hk
   have gn:=hinv.come.fine
   have hwl:=weight_le gn gw hinv.less
   repeat(refine .A ?_;conv=>whnf)
   refine .C (sames_spec was now (by have:=gw.few.small;omega) fun x h=>by have:=(gw.few.fine x h).len;omega) ?_
   repeat(refine .A ?_;conv=>whnf)
   refine T.cd rfl (fun h3=> ?_) (fun h3=> ?_)
   ·have h3:was=now:=by simpa using h3
    have hfin:=allO_eq (d:=d) (R:=some now) ⟨hinv.come,fun c hcm=>by
     obtain⟨j,hj⟩:=List.getElem?_of_mem hcm
     have:=hinv.stay h3.symm j c (Nat.zero_le _) hj
     rwa[h3]at this⟩
    rw[hR]at hfin
    subst hfin
    repeat(refine .A ?_;conv=>whnf)
    exact⟨_,.v rfl rfl rfl (fun _=>rfl) (.v rfl rfl rfl (fun _=>rfl) .nil)⟩
   ·have h3:was≠now:=by simpa using h3
    repeat(refine .A ?_;conv=>whnf)
    exact T.K (ih now hinv.come (hwl.2 (Ne.symm h3)))
theorem right_sub {n:Nat}{d out:Doms}{c:Con}(hc:ConB c)(gd:GoodD n d)(go: ∀v:Int,v.toNat<n→DomOk (domAt out v))(hle:leD out d)(h:conR d c=0):conR out c=0:=by
 obtain⟨hk,hv,hr,hin⟩:=right_split hc h
 have hb:=con_big h
 have tm: ∀v:Int,0≤v→v.toNat<d.length→truthR (domAt d v)=true→truthR (domAt out v)=true:=fun v h0 hl ht=>by
  rw[gd.len]at hl
  exact(truth_vals (go v hl)).2 fun x hx=>(truth_vals (gd.at_ hl).1).1 ht x (hle.2 v x h0 hx)
 have hl:out.length=d.length:=hle.1
 unfold conR
 rw[if_neg (by omega),if_neg,if_neg,if_neg (by rw[hb];simp)]
 ·have hr2:rightR out c=true:=by
   unfold rightR at hr⊢
   split
   ·rename_i h0;rw[if_pos h0]at hr;exact hr
   ·rename_i h0
    rw[if_neg h0]at hr
    split
    ·rename_i h1;rw[if_pos h1]at hr;exact hr
    ·rename_i h1
     rw[if_neg h1]at hr
     split
     ·rename_i h2;rw[if_pos h2]at hr;exact hr
     ·rename_i h2
      rw[if_neg h2]at hr
      split
      ·rename_i h3;rw[if_pos h3]at hr;exact hr
      ·rename_i h3
       rw[if_neg h3]at hr
       split
       ·rename_i h4
        rw[if_pos h4]at hr
        simp only[Bool.and_eq_true]at hr⊢
        have hb4:=hin c.b (uses_mem.2 (.inr ⟨h4,rfl⟩))
        exact⟨⟨hr.1.1,tm c.b hb4.1 hb4.2 hr.1.2⟩,hr.2⟩
       ·rename_i h4
        rw[if_neg h4]at hr
        split
        ·rename_i h5
         rw[if_pos h5]at hr
         simp only[Bool.and_eq_true]at hr⊢
         refine⟨hr.1,List.all_eq_true.2 fun i hi=> ?_⟩
         have hu:=List.all_eq_true.1 hr.2 i hi
         simp only[unitAt,Bool.and_eq_true]at hu⊢
         have hvi:=hv.2 _ (varAt_mem (c:=c) (List.mem_range.1 hi))
         exact⟨tm _ hvi.1 hvi.2 hu.1,hu.2⟩
        ·rename_i h5;rw[if_neg h5]at hr;exact hr
  rw[hr2];simp
 ·have:(usesR c).all (inD out)=true:=List.all_eq_true.2 fun u hu=>inD_iff.2 (by have:=hin u hu;omega)
  rw[this];simp
theorem right_mono {n:Nat}{d out:Doms}{c:Con}(hc:ConB c)(gd:GoodD n d)(go:GoodD n out)(hle:leD out d)(h:conR d c=0):conR out c=0:=right_sub hc gd (fun v hl=>(go.at_ hl).1) hle h
theorem fone01 {d:Doms}{c:Con}(gd:GoodD d.length d)(hc:ConB c)(hr:conR d c=0)(hk:c.kind=0∨c.kind=1):Spec Tryz.prog 13 false [doms d,.agg (cC c)] (pruneRes (oneO c d)):=by
 refine fone_of ?_
 unfold prunerF oneO
 rcases hk with h0|h1
 ·rw[h0]
  exact(linO_specs gd (sum_in hc hr h0 gd.few.fine gd.few.small)).1
 ·rw[h1]
  exact(all_specs gd hc hr h1).1
def kA (rhs:Int):Con:=⟨0,[0,1],[1,1],0,rhs,[],0⟩
def kB:Con:=conU [0,1]
def kC:Con:=⟨0,[0],[-1],0,-2,[],0⟩
def dmQ (a b c d:Int):Doms:=[[(a,b)],[(c,d)]]
theorem dmQ_good {a b c d:Int}(h1:a≤b)(h2:c≤d)(h3:0≤a)(h4:0≤c)(h5:b≤3)(h6:d≤3):GoodD 2 (dmQ a b c d):=by
 have f1:Fine [(a,b)]:=fine1 h1 (by omega) (by omega)
 have f2:Fine [(c,d)]:=fine1 h2 (by omega) (by omega)
 have key: ∀a b:Int,0≤a→b≤3→(vals [(a,b)]).length≤4096:=fun a b h1 h2=>by
  show(rng a b++[]).length≤4096
  simp[rng];omega
 refine⟨⟨by simp[dmQ],fun x hx=> ?_,fun x hx=> ?_⟩,rfl,by simp[dmQ]⟩
 ·simp[dmQ]at hx;rcases hx with rfl|rfl<;>assumption
 ·simp[dmQ]at hx;rcases hx with rfl|rfl
  ·exact key _ _ h3 h5
  ·exact key _ _ h4 h6
theorem kA_B (r:Int):ConB (kA r):=by simp[ConB,kA]
theorem kB_B:ConB kB:=by simp[ConB,kB,conU]
theorem kC_B:ConB kC:=by simp[ConB,kC]
theorem lin_val {d:Doms}{c:Con}{R:Option Doms}{N:Nat}(gd:GoodD 2 d)(hc:ConB c)(hk:c.kind=0)(hr:conR d c=0)(h:LinAns d c R N):oneO c d=R:=by
 obtain⟨M,hM⟩:=linO_ans (sum_in hc hr hk gd.few.fine gd.few.small)
 unfold oneO
 rw[if_pos hk]
 exact lin_det hM h
theorem gq0:GoodD 2 (dmQ 0 3 0 3):=dmQ_good (by decide) (by decide) (by decide) (by decide) (by decide) (by decide)
theorem gq1:GoodD 2 (dmQ 2 3 0 3):=dmQ_good (by decide) (by decide) (by decide) (by decide) (by decide) (by decide)
theorem gq2:GoodD 2 (dmQ 2 2 0 0):=dmQ_good (by decide) (by decide) (by decide) (by decide) (by decide) (by decide)
theorem oneQ1:oneO kC (dmQ 0 3 0 3)=some (dmQ 2 3 0 3):=lin_val (N:=5) gq0 kC_B rfl (by decide +kernel) (by unfold LinAns;rw[if_neg (by decide),if_neg (by decide)];decide +kernel)
theorem oneQ2:oneO (kA 2) (dmQ 2 3 0 3)=some (dmQ 2 2 0 0):=lin_val (N:=5) gq1 (kA_B 2) rfl (by decide +kernel) (by unfold LinAns;rw[if_neg (by decide),if_neg (by decide)];decide +kernel)
theorem oneQ3:oneO (kA 2) (dmQ 2 2 0 0)=some (dmQ 2 2 0 0):=lin_val (N:=5) gq2 (kA_B 2) rfl (by decide +kernel) (by unfold LinAns;rw[if_neg (by decide),if_neg (by decide)];decide +kernel)
theorem oneQ4:oneO kC (dmQ 2 2 0 0)=some (dmQ 2 2 0 0):=lin_val (N:=5) gq2 kC_B rfl (by decide +kernel) (by unfold LinAns;rw[if_neg (by decide),if_neg (by decide)];decide +kernel)
theorem oneQ5:oneO (kA 1) (dmQ 2 3 0 3)=none:=lin_val (N:=5) gq1 (kA_B 1) rfl (by decide +kernel) (by unfold LinAns;rw[if_neg (by decide),if_neg (by decide)];decide +kernel)
theorem oneQ6:oneO kB (dmQ 2 2 0 0)=some (dmQ 2 2 0 0):=by
 unfold oneO
 rw[if_neg (by decide),if_pos (by decide)]
 decide +kernel
theorem fxOkQ (r:Int)(hr:r=1∨r=2):ConsOk (dmQ 0 3 0 3) [kA r,kB,kC]:=by
 refine⟨fun c hc=> ?_,fun c hc=> ?_,by simp,?_⟩
 ·simp at hc
  rcases hc with rfl|rfl|rfl
  ·exact kA_B r
  ·exact kB_B
  ·exact kC_B
 ·simp at hc
  rcases hc with rfl|rfl|rfl
  ·rcases hr with rfl|rfl<;>decide +kernel
  ·decide +kernel
  ·decide +kernel
 ·rcases hr with rfl|rfl<;>decide +kernel
theorem allQ1:allO [kA 2,kB,kC] (dmQ 0 3 0 3)=some (dmQ 2 2 0 0):=by
 have hs:=(fxOkQ 2 (.inr rfl)).step gq0
 refine(allO_eq (R:=some (dmQ 2 2 0 0)) ⟨?_,fun c hc=> ?_⟩).symm
 ·exact((Come.refl (orderD 2) gq0).step (orderD 2) (c:=kC) (by simp) (hs kC (by simp)).takes oneQ1).step (orderD 2) (c:=kA 2) (by simp) (hs (kA 2) (by simp)).takes oneQ2
 ·simp at hc
  rcases hc with rfl|rfl|rfl
  ·exact oneQ3
  ·exact oneQ6
  ·exact oneQ4
theorem allQ2:allO [kA 1,kB,kC] (dmQ 0 3 0 3)=none:=by
 have hs:=(fxOkQ 1 (.inl rfl)).step gq0
 refine(allO_eq (R:=none) ?_).symm
 exact((Come.refl (orderD 2) gq0).step (orderD 2) (c:=kC) (by simp) (hs kC (by simp)).takes oneQ1).none (c:=kA 1) (by simp) (hs (kA 1) (by simp)).takes oneQ5
theorem vfixed_all (r:Int)(hr:r=1∨r=2):Spec Tryz.prog 16 false [doms (dmQ 0 3 0 3),consPV [kA r,kB,kC]] (pruneRes (allO [kA r,kB,kC] (dmQ 0 3 0 3))):=by
 refine fall_spec _ _ (by simp[dmQ]) (fun x hx=>⟨gq0.few.fine x hx,gq0.few.few x hx⟩) (fxOkQ r hr) fun c hc out go hle=> ?_
 have h1:=(fxOkQ r hr).con c hc
 refine fone01 (by rw[show out.length=2 from go.len];exact go) h1 (right_mono h1 gq0 go hle ((fxOkQ r hr).right c hc)) ?_
 simp at hc
 rcases hc with rfl|rfl|rfl
 ·exact .inl rfl
 ·exact .inr rfl
 ·exact .inl rfl
theorem vfixed_spec:Spec Tryz.prog 11 false [] [.val (.bool true)]:=by
 refine Spec.body Tryz.func11 rfl rfl rfl fun w0 Z0=> ?_
 have p1:=(vfixed_all 2 (.inr rfl)).frz
 have p2:=(vfixed_all 1 (.inl rfl)).frz
 rw[allQ1]at p1
 rw[allQ2]at p2
 have p1:Spec Tryz.prog 16 false [doms (dmQ 0 3 0 3),consPV [kA 2,kB,kC]] [.val (doms (dmQ 2 2 0 0)),.val (.bool true)]:=p1
 have p2:Spec Tryz.prog 16 false [doms (dmQ 0 3 0 3),consPV [kA 1,kB,kC]] [.val (doms []),.val (.bool false)]:=p2
 have s1:=sames_spec (dmQ 2 2 0 0) (dmQ 2 2 0 0) (by decide) (by decide)
 rw[decide_eq_true rfl]at s1
 have v1:=(fsolved_spec (dmQ 2 2 0 0) (by decide) gq2.few.fine).frz
 have v2:=(fsolved_spec [[(0,3)]] (by decide) (fun x hx=>gq0.few.fine x (by simp[dmQ]at hx⊢;exact hx))).frz
 rw[show solvedO (dmQ 2 2 0 0)=some [2,0]from by decide +kernel]at v1
 rw[show solvedO [[(0,3)]]=none from by decide +kernel]at v2
 have v1:Spec Tryz.prog 18 false [doms (dmQ 2 2 0 0)] [.val (ints [2,0]),.val (.bool true)]:=v1
 have v2:Spec Tryz.prog 18 false [doms [[(0,3)]]] [.val (ints []),.val (.bool false)]:=v2
 have s2:=nums_spec [2,0] [2,0] (by decide)
 rw[decide_eq_true rfl]at s2
 repeat(refine .A ?_;conv=>whnf)
 refine .V ?_
 repeat(refine .A ?_;conv=>whnf)
 refine .V ?_
 refine .V ?_
 repeat(refine .A ?_;conv=>whnf)
 refine .V ?_
 repeat(refine .A ?_;conv=>whnf)
 refine .V ?_
 refine .V ?_
 repeat(refine .A ?_;conv=>whnf)
 refine .O ?_
 repeat(refine .A ?_;conv=>whnf)
 refine .V ?_
 repeat(refine .A ?_;conv=>whnf)
 refine .C p1 ?_
 repeat(refine .A ?_;conv=>whnf)
 refine .C v1 ?_
 repeat(refine .A ?_;conv=>whnf)
 refine .V ?_
 repeat(refine .A ?_;conv=>whnf)
 refine .C v2 ?_
 repeat(refine .A ?_;conv=>whnf)
 refine J.io rfl rfl rfl rfl rfl rfl rfl rfl rfl (by decide) (by decide) rfl ?_
 repeat(refine .A ?_;conv=>whnf)
 refine J.w rfl rfl rfl rfl rfl rfl rfl rfl rfl rfl ?_
 repeat(refine .A ?_;conv=>whnf)
 refine .V ?_
 repeat(refine .A ?_;conv=>whnf)
 refine .C p2 ?_
 repeat(refine .A ?_;conv=>whnf)
 refine .V ?_
 repeat(refine .A ?_;conv=>whnf)
 refine .V ?_
 refine .V ?_
 refine .C s1 ?_
 repeat(refine .A ?_;conv=>whnf)
 refine .V ?_
 refine .C s2 ?_
 repeat(refine .A ?_;conv=>whnf)
 exact⟨_,.v rfl rfl rfl (fun _=>rfl) .nil⟩
def byteI (s:ByteArray)(i:Nat):UInt8:=(s[i]?).getD 0
def letB (b:UInt8):Bool:=decide ((b.toNat:Int)≥97)&&decide ((b.toNat:Int)≤122)
def badI (i:Nat)(b:UInt8):Bool:= !letB b&&(decide ((i:Int)=0)||(decide ((b.toNat:Int)≠95)&&(decide ((b.toNat:Int)<48)||decide ((b.toNat:Int) > 57))))
def nameR (s:ByteArray):Bool:=((List.range s.size).all fun i=> !badI i (byteI s i))&&(!(s.toList==(⟨#[]⟩:ByteArray).toList)&&decide ((s.size:Int)≤16))
theorem name_spec (s:ByteArray)(hs:s.size≤140737488355328):Spec Tryz.prog 58 false [.str s] [.val (.bool (nameR s))]:=by
 refine Spec.body Tryz.func58 rfl rfl rfl fun w0 Z0=> ?_
 generalize hR:nameR s=R
 repeat(refine .A ?_;conv=>whnf)
 refine T.K (T.ind (fun i:Nat=>⟨[(0,.val false (.str s)),(3,.val true (.int .i64 i))],[],0⟩) (fun i=>i≤s.size∧∀j,j<i→badI j (byteI s j)=false) (fun i=>s.size-i) 0 ⟨Nat.zero_le _,fun j hj=>absurd hj (Nat.not_lt_zero j)⟩ (fun _ _ h=>h) ?_)
 rintro i ⟨hi,hb⟩ ih
 repeat(refine .A ?_;conv=>whnf)
 refine T.cd rfl (fun h1=> ?_) (fun h1=> ?_)
 ·have h1:i<s.size:=by omega
  have hw:IntKind.i64.wrap ((i:Int)+1)=((i+1:Nat):Int):=by rw[wrap_id (by omega) (by omega)];omega
  have hbi:s[((i:Nat):Int).toNat]? =some (byteI s i):=by
   rw[Int.toNat_natCast];unfold byteI
   rw[getElem?_pos s i h1];rfl
  have hno:badI i (byteI s i)=true→R=false:=fun h=>by
   rw[←hR]
   unfold nameR
   have:((List.range s.size).all fun i=> !badI i (byteI s i))=false:=by
    rw[List.all_eq_false]
    exact⟨i,List.mem_range.2 h1,by rw[h];simp⟩
   rw[this];rfl
  have ih1:=fun h:badI i (byteI s i)=false=>ih (i+1) ⟨by omega,fun j hj=>by
   by_cases e:j=i
   ·rw[e];exact h
   ·exact hb j (by omega)⟩ (by omega)
  have hbd:badI i (byteI s i)=(!letB (byteI s i)&&(decide ((i:Int)=0)||(decide (((byteI s i).toNat:Int)≠95)&&(decide (((byteI s i).toNat:Int)<48)||decide (((byteI s i).toNat:Int) > 57))))):=rfl
  have hlt:letB (byteI s i)=(decide (((byteI s i).toNat:Int)≥97)&&decide (((byteI s i).toNat:Int)≤122)):=rfl
  generalize badI i (byteI s i)=bad at*
  generalize letB (byteI s i)=lt at*
  generalize byteI s i=b at*
  repeat(refine .A ?_;conv=>whnf)
  refine J.xs rfl rfl rfl rfl rfl rfl rfl (by omega) hbi ?_
  repeat(refine .A ?_;conv=>whnf)
  cases h1:decide ((b.toNat:Int)≥97)
  ·repeat(refine .A ?_;conv=>whnf)
   cases h3:decide ((i:Int)=0)
   ·repeat(refine .A ?_;conv=>whnf)
    refine J.xs rfl rfl rfl rfl rfl rfl rfl (by omega) hbi ?_
    repeat(refine .A ?_;conv=>whnf)
    cases h4:decide ((b.toNat:Int)≠95);rotate_left
    ·repeat(refine .A ?_;conv=>whnf)
     refine J.xs rfl rfl rfl rfl rfl rfl rfl (by omega) hbi ?_
     repeat(refine .A ?_;conv=>whnf)
     cases h5:decide ((b.toNat:Int)<48)
     ·repeat(refine .A ?_;conv=>whnf)
      refine J.xs rfl rfl rfl rfl rfl rfl rfl (by omega) hbi ?_
      repeat(refine .A ?_;conv=>whnf)
      cases h6:decide ((b.toNat:Int) > 57)
      ·repeat(refine .A ?_;conv=>whnf)
       refine T.cf rfl ?_
       repeat(refine .A ?_;conv=>whnf)
       rw[hw]
       exact T.K (ih1 (by rw[hbd,hlt,h1,h3,h4,h5,h6];rfl))
      ·repeat(refine .A ?_;conv=>whnf)
       refine T.ct rfl ?_
       repeat(refine .A ?_;conv=>whnf)
       rw[hno (by rw[hbd,hlt,h1,h3,h4,h5,h6];rfl)]
       exact⟨_,.v rfl rfl rfl (fun _=>rfl) .nil⟩
     ·repeat(refine .A ?_;conv=>whnf)
      refine T.ct rfl ?_
      repeat(refine .A ?_;conv=>whnf)
      rw[hno (by rw[hbd,hlt,h1,h3,h4,h5];rfl)]
      exact⟨_,.v rfl rfl rfl (fun _=>rfl) .nil⟩
    ·repeat(refine .A ?_;conv=>whnf)
     refine T.cf rfl ?_
     repeat(refine .A ?_;conv=>whnf)
     rw[hw]
     exact T.K (ih1 (by rw[hbd,hlt,h1,h3,h4];rfl))
   ·repeat(refine .A ?_;conv=>whnf)
    refine T.ct rfl ?_
    repeat(refine .A ?_;conv=>whnf)
    rw[hno (by rw[hbd,hlt,h1,h3];rfl)]
    exact⟨_,.v rfl rfl rfl (fun _=>rfl) .nil⟩
  ·repeat(refine .A ?_;conv=>whnf)
   refine J.xs rfl rfl rfl rfl rfl rfl rfl (by omega) hbi ?_
   repeat(refine .A ?_;conv=>whnf)
   cases h2:decide ((b.toNat:Int)≤122)
   ·repeat(refine .A ?_;conv=>whnf)
    cases h3:decide ((i:Int)=0)
    ·repeat(refine .A ?_;conv=>whnf)
     refine J.xs rfl rfl rfl rfl rfl rfl rfl (by omega) hbi ?_
     repeat(refine .A ?_;conv=>whnf)
     cases h4:decide ((b.toNat:Int)≠95);rotate_left
     ·repeat(refine .A ?_;conv=>whnf)
      refine J.xs rfl rfl rfl rfl rfl rfl rfl (by omega) hbi ?_
      repeat(refine .A ?_;conv=>whnf)
      cases h5:decide ((b.toNat:Int)<48)
      ·repeat(refine .A ?_;conv=>whnf)
       refine J.xs rfl rfl rfl rfl rfl rfl rfl (by omega) hbi ?_
       repeat(refine .A ?_;conv=>whnf)
       cases h6:decide ((b.toNat:Int) > 57)
       ·repeat(refine .A ?_;conv=>whnf)
        refine T.cf rfl ?_
        repeat(refine .A ?_;conv=>whnf)
        rw[hw]
        exact T.K (ih1 (by rw[hbd,hlt,h1,h2,h3,h4,h5,h6];rfl))
       ·repeat(refine .A ?_;conv=>whnf)
        refine T.ct rfl ?_
        repeat(refine .A ?_;conv=>whnf)
        rw[hno (by rw[hbd,hlt,h1,h2,h3,h4,h5,h6];rfl)]
        exact⟨_,.v rfl rfl rfl (fun _=>rfl) .nil⟩
      ·repeat(refine .A ?_;conv=>whnf)
       refine T.ct rfl ?_
       repeat(refine .A ?_;conv=>whnf)
       rw[hno (by rw[hbd,hlt,h1,h2,h3,h4,h5];rfl)]
       exact⟨_,.v rfl rfl rfl (fun _=>rfl) .nil⟩
     ·repeat(refine .A ?_;conv=>whnf)
      refine T.cf rfl ?_
      repeat(refine .A ?_;conv=>whnf)
      rw[hw]
      exact T.K (ih1 (by rw[hbd,hlt,h1,h2,h3,h4];rfl))
    ·repeat(refine .A ?_;conv=>whnf)
     refine T.ct rfl ?_
     repeat(refine .A ?_;conv=>whnf)
     rw[hno (by rw[hbd,hlt,h1,h2,h3];rfl)]
     exact⟨_,.v rfl rfl rfl (fun _=>rfl) .nil⟩
   ·repeat(refine .A ?_;conv=>whnf)
    refine T.cf rfl ?_
    repeat(refine .A ?_;conv=>whnf)
    rw[hw]
    exact T.K (ih1 (by rw[hbd,hlt,h1,h2];rfl))
 ·have h1:i=s.size:=by omega
  subst h1
  have hall:((List.range s.size).all fun i=> !badI i (byteI s i))=true:=by
   rw[List.all_eq_true]
   intro j hj
   rw[hb j (List.mem_range.1 hj)];rfl
  have hR2:R=(!(s.toList==(⟨#[]⟩:ByteArray).toList)&&decide ((s.size:Int)≤16)):=by
   rw[←hR];unfold nameR;rw[hall];rfl
  repeat(refine .A ?_;conv=>whnf)
  cases h2:(s.toList==(⟨#[]⟩:ByteArray).toList)
  ·rw[h2]at hR2
   repeat(refine .A ?_;conv=>whnf)
   rw[hR2]
   exact⟨_,.v rfl rfl rfl (fun _=>rfl) .nil⟩
  ·rw[h2]at hR2
   repeat(refine .A ?_;conv=>whnf)
   rw[hR2]
   exact⟨_,.v rfl rfl rfl (fun _=>rfl) .nil⟩
def badR (d:List (Int×Int))(i:Nat):Bool:= !valueB (d.getD i (0,0)).1||(!valueB (d.getD i (0,0)).2||(decide ((d.getD i (0,0)).1 > (d.getD i (0,0)).2)||(decide ((i:Int) > 0)&&decide ((d.getD i (0,0)).1-(d.getD (i-1) (0,0)).2<2))))
def sizeI (d:List (Int×Int)):Int:=(d.map fun r=>r.2-r.1+1).sum
def chkR (d:List (Int×Int)):Int:=if(List.range d.length).any (badR d)then 20 else if sizeI d > 4096 then 2 else 0
theorem rcheck_spec (d:List (Int×Int))(hl:d.length≤1048576):Spec Tryz.prog 59 false [dm d] [.val (.int .i64 (chkR d))]:=by
 refine Spec.body Tryz.func59 rfl rfl rfl fun w0 Z0=> ?_
 generalize hR:chkR d=R
 repeat(refine .A ?_;conv=>whnf)
 refine T.K (T.ind (fun i:Nat=>⟨[(0,.val false (dm d)),(3,.val true (.int .i64 (sizeI (d.take i)))),(4,.val true (.int .i64 i))],[],0⟩) (fun i=>i≤d.length∧(0≤sizeI (d.take i)∧sizeI (d.take i)≤i*4194304)∧∀j,j<i→badR d j=false) (fun i=>d.length-i) 0 ⟨Nat.zero_le _,by simp[sizeI],fun j hj=>absurd hj (Nat.not_lt_zero j)⟩ (fun _ _ h=>h) ?_)
 rintro i ⟨hi,hn,hb⟩ ih
 repeat(refine .A ?_;conv=>whnf)
 refine T.cd rfl (fun h1=> ?_) (fun h1=> ?_)
 ·have h1:i<d.length:=by simpa using h1
  have hrow:(d.map cR)[((i:Nat):Int).toNat]? =some (cR (d.getD i (0,0))):=by simp[h1,List.getD_eq_getElem?_getD]
  have hprev:0<i→(d.map cR)[(((i-1:Nat)):Int).toNat]? =some (cR (d.getD (i-1) (0,0)))∧valueB (d.getD (i-1) (0,0)).2=true:=fun h=>by
   refine⟨by rw[Int.toNat_natCast,List.getElem?_map,List.getElem?_eq_getElem (show i-1<d.length by omega),List.getD_eq_getElem?_getD,List.getElem?_eq_getElem (show i-1<d.length by omega)];rfl,?_⟩
   have:=hb (i-1) (by omega)
   unfold badR at this
   simp only[Bool.or_eq_false_iff,Bool.not_eq_false']at this
   exact this.2.1
  have htk:sizeI (d.take (i+1))=sizeI (d.take i)+((d.getD i (0,0)).2-(d.getD i (0,0)).1+1):=by
   unfold sizeI
   rw[List.take_succ_eq_append_getElem h1,List.map_append,List.sum_append,List.getD_eq_getElem?_getD,List.getElem?_eq_getElem h1]
   simp
  have hno:badR d i=true→R=20:=fun h=>by
   rw[←hR];unfold chkR
   rw[if_pos (List.any_eq_true.2 ⟨i,List.mem_range.2 h1,h⟩)]
  have hbd:badR d i=(!valueB (d.getD i (0,0)).1||(!valueB (d.getD i (0,0)).2||(decide ((d.getD i (0,0)).1 > (d.getD i (0,0)).2)||(decide ((i:Int) > 0)&&decide ((d.getD i (0,0)).1-(d.getD (i-1) (0,0)).2<2))))):=rfl
  have ih1:=fun hbi:badR d i=false=>fun hs=>ih (i+1) ⟨by omega,hs,fun j hj=>by
   by_cases e:j=i
   ·rw[e];exact hbi
   ·exact hb j (by omega)⟩ (by omega)
  have hw1:IntKind.i64.wrap ((i:Int)+1)=((i+1:Nat):Int):=by rw[wrap_id (by omega) (by omega)];omega
  have hw2:0<i→IntKind.i64.wrap ((i:Int)-1)=((i-1:Nat):Int):=fun h=>by rw[wrap_id (by omega) (by omega)];omega
  generalize badR d i=bad at*
  rw[htk]at ih1
  generalize sizeI (d.take i)=n at*
  generalize d.getD i (0,0)=r at*
  generalize d.getD (i-1) (0,0)=p at*
  obtain⟨lo,hi2⟩:=r
  simp only at*
  repeat(refine .A ?_;conv=>whnf)
  refine .I (r:=cR (lo,hi2)) hrow ?_
  repeat(refine .A ?_;conv=>whnf)
  refine .C (value_spec lo) ?_
  cases a1:valueB lo
  ·repeat(refine .A ?_;conv=>whnf)
   refine T.ct rfl ?_
   repeat(refine .A ?_;conv=>whnf)
   rw[hno (by rw[hbd,a1];rfl)]
   exact⟨_,.v rfl rfl rfl (fun _=>rfl) .nil⟩
  ·repeat(refine .A ?_;conv=>whnf)
   refine .I (r:=cR (lo,hi2)) hrow ?_
   repeat(refine .A ?_;conv=>whnf)
   refine .C (value_spec hi2) ?_
   cases a2:valueB hi2
   ·repeat(refine .A ?_;conv=>whnf)
    refine T.ct rfl ?_
    repeat(refine .A ?_;conv=>whnf)
    rw[hno (by rw[hbd,a1,a2];rfl)]
    exact⟨_,.v rfl rfl rfl (fun _=>rfl) .nil⟩
   ·have v1:=a1
    have v2:=a2
    simp only[valueB,decide_eq_true_eq]at v1 v2
    repeat(refine .A ?_;conv=>whnf)
    refine .I (r:=cR (lo,hi2)) hrow ?_
    repeat(refine .A ?_;conv=>whnf)
    refine .I (r:=cR (lo,hi2)) hrow ?_
    repeat(refine .A ?_;conv=>whnf)
    refine J.g rfl rfl rfl (fun h3=> ?_) (fun h3=> ?_)
    ·repeat(refine .A ?_;conv=>whnf)
     refine T.ct rfl ?_
     repeat(refine .A ?_;conv=>whnf)
     rw[hno (by rw[hbd,a1,a2,decide_eq_true h3];rfl)]
     exact⟨_,.v rfl rfl rfl (fun _=>rfl) .nil⟩
    ·have h3: ¬lo > hi2:=h3
     repeat(refine .A ?_;conv=>whnf)
     refine J.g rfl rfl rfl (fun h4=> ?_) (fun h4=> ?_)
     ·repeat(refine .A ?_;conv=>whnf)
      refine .I (r:=cR (lo,hi2)) hrow ?_
      repeat(refine .A ?_;conv=>whnf)
      rw[hw2 (by omega)]
      refine .I (r:=cR p) (hprev (by omega)).1 ?_
      repeat(refine .A ?_;conv=>whnf)
      have hpv:=(hprev (by omega)).2
      simp only[valueB,decide_eq_true_eq]at hpv
      rw[wrap_id (n:=lo-p.2) (by omega) (by omega)]
      refine T.cd rfl (fun h5=> ?_) (fun h5=> ?_)
      ·repeat(refine .A ?_;conv=>whnf)
       rw[hno (by rw[hbd,a1,a2,decide_eq_false h3,decide_eq_true h4,decide_eq_true h5];rfl)]
       exact⟨_,.v rfl rfl rfl (fun _=>rfl) .nil⟩
      ·repeat(refine .A ?_;conv=>whnf)
       refine .I (r:=cR (lo,hi2)) hrow ?_
       repeat(refine .A ?_;conv=>whnf)
       refine .I (r:=cR (lo,hi2)) hrow ?_
       repeat(refine .A ?_;conv=>whnf)
       have e1:IntKind.i64.wrap (hi2-lo)=hi2-lo:=wrap_id (by omega) (by omega)
       have e2:IntKind.i64.wrap (hi2-lo+1)=hi2-lo+1:=wrap_id (by omega) (by omega)
       have e3:IntKind.i64.wrap (n+(hi2-lo+1))=n+(hi2-lo+1):=wrap_id (by omega) (by omega)
       rw[e1,e2,e3,hw1]
       exact T.K (ih1 (by rw[hbd,a1,a2,decide_eq_false h3,decide_eq_true h4,decide_eq_false h5];rfl) (by omega))
     ·repeat(refine .A ?_;conv=>whnf)
      refine T.cf rfl ?_
      repeat(refine .A ?_;conv=>whnf)
      refine .I (r:=cR (lo,hi2)) hrow ?_
      repeat(refine .A ?_;conv=>whnf)
      refine .I (r:=cR (lo,hi2)) hrow ?_
      repeat(refine .A ?_;conv=>whnf)
      have e1:IntKind.i64.wrap (hi2-lo)=hi2-lo:=wrap_id (by omega) (by omega)
      have e2:IntKind.i64.wrap (hi2-lo+1)=hi2-lo+1:=wrap_id (by omega) (by omega)
      have e3:IntKind.i64.wrap (n+(hi2-lo+1))=n+(hi2-lo+1):=wrap_id (by omega) (by omega)
      rw[e1,e2,e3,hw1]
      exact T.K (ih1 (by rw[hbd,a1,a2,decide_eq_false h3,decide_eq_false h4];rfl) (by omega))
 ·have h1:i=d.length:=by simp at h1;omega
  subst h1
  rw[List.take_length]at hn⊢
  have hany:(List.range d.length).any (badR d)=false:=by
   rw[List.any_eq_false]
   intro j hj
   rw[hb j (List.mem_range.1 hj)];simp
  unfold chkR at hR
  rw[hany]at hR
  simp only[Bool.false_eq_true,if_false]at hR
  generalize sizeI d=n at*
  repeat(refine .A ?_;conv=>whnf)
  refine T.cd rfl (fun h2=> ?_) (fun h2=> ?_)
  ·rw[if_pos h2]at hR
   subst hR
   repeat(refine .A ?_;conv=>whnf)
   exact⟨_,.v rfl rfl rfl (fun _=>rfl) .nil⟩
  ·rw[if_neg h2]at hR
   subst hR
   repeat(refine .A ?_;conv=>whnf)
   exact⟨_,.v rfl rfl rfl (fun _=>rfl) .nil⟩
theorem ok_of {d:List (Int×Int)}(h: ∀i,i<d.length→(d.getD i (0,0)).1≤(d.getD i (0,0)).2∧(0<i→(d.getD (i-1) (0,0)).2+2≤(d.getD i (0,0)).1)):DomOk d:=by
 induction d with
 |nil=>exact⟨by simp,.nil⟩
 |cons x d ih=>
  have h0:=(h 0 (by simp)).1
  have h1:=ih fun i hi=>by
   obtain⟨a,b⟩:=h (i+1) (by simp;omega)
   refine⟨a,fun hp=> ?_⟩
   obtain⟨j,rfl⟩: ∃j,i=j+1:=⟨i-1,by omega⟩
   exact b (by omega)
  refine⟨fun r hr=> ?_,List.pairwise_cons.2 ⟨fun s hs=> ?_,h1.2⟩⟩
  ·rcases List.mem_cons.1 hr with rfl|hr
   ·exact h0
   ·exact h1.1 r hr
  ·cases d with
   |nil=>cases hs
   |cons y d=>
    have h2:=(h 1 (by simp)).2 (by omega)
    have h2:x.2+2≤y.1:=h2
    rcases List.mem_cons.1 hs with rfl|hs
    ·exact h2
    ·have:=(List.pairwise_cons.1 h1.2).1 s hs
     have:=h1.1 y (.head _)
     omega
theorem sizeI_ok {d:List (Int×Int)}(h:DomOk d):sizeI d=((vals d).length:Nat):=by
 induction d with
 |nil=>rfl
 |cons r d ih=>
  have h0:=h.1 r (.head _)
  have e:sizeI (r::d)=(r.2-r.1+1)+sizeI d:=rfl
  rw[e,ih h.tail,vals_cons,List.length_append,show(rng r.1 r.2).length=(r.2+1-r.1).toNat by simp[rng]]
  omega
theorem chkR_ok {d:List (Int×Int)}(h:chkR d=0):Fine d∧(vals d).length≤4096:=by
 unfold chkR at h
 split at h
 ·cases h
 ·rename_i h1
  split at h
  ·cases h
  ·rename_i h2
   have hb: ∀i,i<d.length→badR d i=false:=fun i hi=>by
    cases e:badR d i with
    |false=>rfl
    |true=>exact absurd (List.any_eq_true.2 ⟨i,List.mem_range.2 hi,e⟩) h1
   have hok:DomOk d:=ok_of fun i hi=>by
    have:=hb i hi
    unfold badR at this
    simp only[Bool.or_eq_false_iff,Bool.not_eq_false',Bool.and_eq_false_iff,decide_eq_false_iff_not]at this
    obtain⟨_,_,h5,h6⟩:=this
    refine⟨by omega,fun hp=> ?_⟩
    rcases h6 with h6|h6<;>omega
   have hs:=sizeI_ok hok
   have hln:(vals d).length≤4096:=by omega
   refine⟨⟨hok,fun v hv=> ?_,by omega⟩,hln⟩
   obtain⟨r,hr,h3,h4⟩:=mem_vals.1 hv
   obtain⟨i,hi⟩:=List.getElem?_of_mem hr
   have hil:=(List.getElem?_eq_some_iff.1 hi).1
   have:=hb i hil
   unfold badR at this
   rw[List.getD_eq_getElem?_getD,hi]at this
   simp only[Option.getD_some,Bool.or_eq_false_iff,Bool.not_eq_false',valueB,decide_eq_true_eq]at this
   omega
structure Goal where
 kind:Int
 vars:List Int
 coefs:List Int
structure Mod where
 vars:List (ByteArray×List (Int×Int))
 cons:List Con
 goal:Goal
def cV (v:ByteArray×List (Int×Int)):List PV:=[.str v.1,dm v.2]
def cG (g:Goal):List PV:=[.int .i64 g.kind,ints g.vars,ints g.coefs]
def cM (m:Mod):List PV:=[.sl (m.vars.map cV),consPV m.cons,.int .i64 m.goal.kind,ints m.goal.vars,ints m.goal.coefs]
def domsM (m:Mod):Doms:=m.vars.map (·.2)
structure ModB (m:Mod):Prop where
 vl:m.vars.length≤1024
 vn: ∀v∈m.vars,v.1.size≤1024∧v.2.length≤1024
 cl:m.cons.length≤1024
 cb: ∀c∈m.cons,c.vars.length≤1024∧c.coefs.length≤1024∧c.rows.length≤1024∧∀r∈c.rows,r.length≤1024
 gl:m.goal.vars.length≤1024∧m.goal.coefs.length≤1024
theorem rdoms_spec (m:Mod)(hm:ModB m):Spec Tryz.prog 12 false [.agg (cM m)] [.own 45 1 ((domsM m).map cD)]:=by
 refine Spec.body Tryz.func12 rfl rfl rfl fun w0 Z0=> ?_
 obtain⟨h1,h2,_,_,_⟩:=hm
 repeat(refine .A ?_;conv=>whnf)
 refine .O ?_
 repeat(refine .A ?_;conv=>whnf)
 refine T.sub (Rel.wk (o:=1) rfl) ?_
 refine T.K (T.ind (fun i:Nat=>⟨[(1,.optr 0 0 0 0),(3,.ref 1),(4,.val true (.int .i64 i))],[(0,some (.box false (cM m))),(1,some (.sl 45 1 false (((domsM m).take i).map cD)))],2⟩) (fun i=>i≤m.vars.length) (fun i=>m.vars.length-i) 0 (Nat.zero_le _) (fun _ _ h=>h) ?_)
 rintro i hi ih
 repeat(refine .A ?_;conv=>whnf)
 refine T.cd rfl (fun h5=> ?_) (fun h5=> ?_)
 ·have h5:i<m.vars.length:=by simpa using h5
  have hrow:(m.vars.map cV)[((i:Nat):Int).toNat]? =some (cV m.vars[i]):=by simp[h5]
  have hv:=h2 _ (List.getElem_mem h5)
  have htk:(domsM m).take (i+1)=(domsM m).take i++[m.vars[i].2]:=by
   rw[List.take_succ_eq_append_getElem (by simpa[domsM]using h5)];simp[domsM]
  have hl:=List.length_take_le i (domsM m)
  have ih1:=ih (i+1) (by omega) (by omega)
  rw[htk]at ih1
  generalize (domsM m).take i=out at*
  generalize m.vars[i]=v at*
  repeat(refine .A ?_;conv=>whnf)
  refine .I (r:=cV v) hrow ?_
  repeat(refine .A ?_;conv=>whnf)
  refine .V ?_
  refine J.aD rfl rfl rfl rfl rfl rfl rfl rfl rfl rfl rfl rfl rfl rfl rfl rfl rfl rfl rfl (by omega) ?_
  repeat(refine .A ?_;conv=>whnf)
  rw[wrap1 (l:=m.vars.length) h5 (by omega)]
  exact T.K ih1
 ·have h5:i=m.vars.length:=by simp at h5;omega
  subst h5
  rw[List.take_of_length_le (by simp[domsM])]
  have hli:=lists_spec (domsM m) (by simp[domsM];omega) fun x hx=>by
   obtain⟨v,hv,rfl⟩:=List.mem_map.1 hx
   have:=h2 v hv;omega
  generalize domsM m=d at*
  repeat(refine .A ?_;conv=>whnf)
  refine .C hli ?_
  repeat(refine .A ?_;conv=>whnf)
  exact⟨_,.o rfl rfl rfl (fun _=> .inl rfl) (by simp) .nil⟩
def gCon (g:Goal):Con:=⟨0,g.vars,g.coefs,0,0,[],0⟩
def goalR (d:Doms)(g:Goal):Int:=if g.kind=1∨g.kind=2 then conR d (gCon g)else if g.kind≠0∨0<g.vars.length∨0<g.coefs.length then 44 else 0
theorem goal_spec (d:Doms)(g:Goal)(hg:g.vars.length≤1024∧g.coefs.length≤1024)(hl:d.length*8≤140737488355328)(hd: ∀x∈d,x.length*8≤140737488355328):Spec Tryz.prog 61 false [doms d,.agg (cG g)] [.val (.int .i64 (goalR d g))]:=by
 refine Spec.body Tryz.func61 rfl rfl rfl fun w0 Z0=> ?_
 have hcb:ConB (gCon g):=⟨by simp[gCon];omega,by simp[gCon];omega,by simp[gCon],by simp[gCon]⟩
 have hcon:=con_spec d (gCon g) hcb hl hd
 generalize hR:goalR d g=R
 unfold goalR at hR
 generalize conR d (gCon g)=cr at*
 have yes:g.kind=1∨g.kind=2→cr=R:=fun h=>by rw[if_pos h]at hR;exact hR
 have no: ¬g.kind=1→¬g.kind=2→(if g.kind≠0∨0<g.vars.length∨0<g.coefs.length then(44:Int)else 0)=R:=fun a b=>by rw[if_neg (fun h=>h.elim a b)]at hR;exact hR
 repeat(refine .A ?_;conv=>whnf)
 refine J.g rfl rfl rfl (fun h1=> ?_) (fun h1=> ?_)
 ·rw[yes (.inl h1)]at hcon
  repeat(refine .A ?_;conv=>whnf)
  refine T.ct rfl ?_
  repeat(refine .A ?_;conv=>whnf)
  refine .C hcon ?_
  repeat(refine .A ?_;conv=>whnf)
  exact⟨_,.v rfl rfl rfl (fun _=>rfl) .nil⟩
 ·have h1: ¬g.kind=1:=h1
  repeat(refine .A ?_;conv=>whnf)
  refine T.cd rfl (fun h2=> ?_) (fun h2=> ?_)
  ·rw[yes (.inr h2)]at hcon
   repeat(refine .A ?_;conv=>whnf)
   refine .C hcon ?_
   repeat(refine .A ?_;conv=>whnf)
   exact⟨_,.v rfl rfl rfl (fun _=>rfl) .nil⟩
  ·have h2: ¬g.kind=2:=h2
   have no:=no h1 h2
   repeat(refine .A ?_;conv=>whnf)
   refine J.g rfl rfl rfl (fun h3=> ?_) (fun h3=> ?_)
   ·rw[if_pos (.inl h3)]at no
    subst no
    repeat(refine .A ?_;conv=>whnf)
    refine T.ct rfl ?_
    repeat(refine .A ?_;conv=>whnf)
    exact⟨_,.v rfl rfl rfl (fun _=>rfl) .nil⟩
   ·have h3: ¬g.kind≠0:=h3
    repeat(refine .A ?_;conv=>whnf)
    refine J.g rfl rfl rfl (fun h4=> ?_) (fun h4=> ?_)
    ·rw[if_pos (.inr (.inl (by simpa using h4)))]at no
     subst no
     repeat(refine .A ?_;conv=>whnf)
     refine T.ct rfl ?_
     repeat(refine .A ?_;conv=>whnf)
     exact⟨_,.v rfl rfl rfl (fun _=>rfl) .nil⟩
    ·repeat(refine .A ?_;conv=>whnf)
     refine T.cd rfl (fun h6=> ?_) (fun h6=> ?_)
     ·rw[if_pos (.inr (.inr (by simpa using h6)))]at no
      subst no
      repeat(refine .A ?_;conv=>whnf)
      exact⟨_,.v rfl rfl rfl (fun _=>rfl) .nil⟩
     ·rw[if_neg (by
       rintro(h|h|h)
       ·exact h3 h
       ·exact h4 (by simpa using h)
       ·exact h6 (by simpa using h))]at no
      subst no
      repeat(refine .A ?_;conv=>whnf)
      exact⟨_,.v rfl rfl rfl (fun _=>rfl) .nil⟩
def nmM (m:Mod)(i:Nat):ByteArray:=(m.vars.getD i (⟨#[]⟩,[])).1
def dmM (m:Mod)(i:Nat):List (Int×Int):=(m.vars.getD i (⟨#[]⟩,[])).2
def twiceR (m:Mod)(i:Nat):Bool:=(List.range i).any fun k=>(nmM m k).toList==(nmM m i).toList
def varR (m:Mod)(i:Nat):Int:=if nameR (nmM m i)=false then 40 else if twiceR m i=true then 41 else if dmM m i=[]∨chkR (dmM m i)≠0 then 42 else 0
def firstE (l:List Int):Int:=(l.find? (· ≠0)).getD 0
def checkR (m:Mod):Int:=if 64<m.vars.length∨256<m.cons.length then 2 else
 if firstE ((List.range m.vars.length).map (varR m))≠0 then firstE ((List.range m.vars.length).map (varR m))else
 if firstE (m.cons.map (conR (domsM m)))≠0 then firstE (m.cons.map (conR (domsM m)))else goalR (domsM m) m.goal
theorem firstE_at {l:List Int}{i:Nat}{e:Int}(h: ∀j,j<i→∀x,l[j]? =some x→x=0)(hi:l[i]? =some e)(he:e≠0):firstE l=e:=by
 have hlt:=(List.getElem?_eq_some_iff.1 hi).1
 have:l.find? (· ≠0)=some e:=by
  rw[List.find?_eq_some_iff_getElem]
  refine⟨by simpa using he,i,hlt,(List.getElem?_eq_some_iff.1 hi).2,fun j hj=> ?_⟩
  have:=h j hj _ (List.getElem?_eq_getElem (by omega))
  simp[this]
 unfold firstE
 rw[this];rfl
theorem firstE_no {l:List Int}(h: ∀x∈l,x=0):firstE l=0:=by
 have:l.find? (· ≠0)=none:=by
  rw[List.find?_eq_none]
  intro x hx
  simp[h x hx]
 unfold firstE
 rw[this];rfl
theorem firstE_zero {l:List Int}(h:firstE l=0): ∀x∈l,x=0:=by
 intro x hx
 unfold firstE at h
 cases hf:l.find? (· ≠0)with
 |none=>
  have:=List.find?_eq_none.1 hf x hx
  simpa using this
 |some e=>
  rw[hf]at h
  have:=List.find?_some hf
  simp at this
  exact absurd h this
theorem mcheck_spec (m:Mod)(hm:ModB m):Spec Tryz.prog 26 false [.agg (cM m)] [.val (.int .i64 (checkR m))]:=by
 refine Spec.body Tryz.func26 rfl rfl rfl fun w0 Z0=> ?_
 have hds:=rdoms_spec m hm
 generalize hR:checkR m=R
 obtain⟨b1,b2,b3,b4,b5⟩:=hm
 have yes:64<m.vars.length∨256<m.cons.length→(2:Int)=R:=fun h=>by rw[←hR];exact(if_pos h).symm
 repeat(refine .A ?_;conv=>whnf)
 refine J.g rfl rfl rfl (fun h1=> ?_) (fun h1=> ?_)
 ·have e:=yes (.inl (by simp at h1;omega))
  subst e
  repeat(refine .A ?_;conv=>whnf)
  refine T.ct rfl ?_
  repeat(refine .A ?_;conv=>whnf)
  exact⟨_,.v rfl rfl rfl (fun _=>rfl) .nil⟩
 ·repeat(refine .A ?_;conv=>whnf)
  refine T.cd rfl (fun h2=> ?_) (fun h2=> ?_)
  ·have e:=yes (.inr (by simp at h2;omega))
   subst e
   repeat(refine .A ?_;conv=>whnf)
   exact⟨_,.v rfl rfl rfl (fun _=>rfl) .nil⟩
  ·have hR:(if firstE ((List.range m.vars.length).map (varR m))≠0 then firstE ((List.range m.vars.length).map (varR m))else
     if firstE (m.cons.map (conR (domsM m)))≠0 then firstE (m.cons.map (conR (domsM m)))else goalR (domsM m) m.goal)=R:=by
    unfold checkR at hR
    rw[if_neg (by simp at h1 h2;omega)]at hR
    exact hR
   have hvar: ∀i,i<m.vars.length→(∀j,j<i→varR m j=0)→varR m i≠0→R=varR m i:=fun i hi hb he=>by
    have:firstE ((List.range m.vars.length).map (varR m))=varR m i:=firstE_at (i:=i) (fun j hj x hx=>by
     rw[List.getElem?_map,List.getElem?_range (by omega)]at hx
     rw[←Option.some.inj hx]
     exact hb j hj) (by rw[List.getElem?_map,List.getElem?_range hi];rfl) he
    rw[this,if_pos he]at hR
    exact hR.symm
   repeat(refine .A ?_;conv=>whnf)
   refine T.K (T.ind (fun i:Nat=>⟨[(1,.optr 0 0 0 0),(3,.val true (.int .i64 i))],[(0,some (.box false (cM m)))],1⟩) (fun i=>i≤m.vars.length∧∀j,j<i→varR m j=0) (fun i=>m.vars.length-i) 0 ⟨Nat.zero_le _,fun j hj=>absurd hj (Nat.not_lt_zero j)⟩ (fun _ _ h=>h) ?_)
   rintro i ⟨hi,hb⟩ ih
   repeat(refine .A ?_;conv=>whnf)
   refine T.cd rfl (fun h3=> ?_) (fun h3=> ?_)
   ·have h3:i<m.vars.length:=by simpa using h3
    have hv:=hvar i h3 hb
    have hvi:varR m i=if nameR (nmM m i)=false then 40 else if twiceR m i=true then 41 else if dmM m i=[]∨chkR (dmM m i)≠0 then 42 else 0:=rfl
    have hrowk: ∀k,k<m.vars.length→(m.vars.map cV)[((k:Nat):Int).toNat]? =some (cV (nmM m k,dmM m k)):=fun k hk=>by
     rw[Int.toNat_natCast,List.getElem?_map,List.getElem?_eq_getElem hk]
     unfold nmM dmM
     rw[List.getD_eq_getElem?_getD,List.getElem?_eq_getElem hk];rfl
    have hrow:=hrowk i h3
    have hbk: ∀k,k<m.vars.length→(nmM m k).size≤1024∧(dmM m k).length≤1024:=fun k hk=>by
     unfold nmM dmM
     rw[List.getD_eq_getElem?_getD,List.getElem?_eq_getElem hk]
     exact b2 _ (List.getElem_mem hk)
    have hns:=name_spec (nmM m i) (by have:=hbk i h3;omega)
    repeat(refine .A ?_;conv=>whnf)
    refine .I (r:=cV (nmM m i,dmM m i)) hrow ?_
    repeat(refine .A ?_;conv=>whnf)
    refine .C hns ?_
    repeat(refine .A ?_;conv=>whnf)
    cases hn:nameR (nmM m i)
    ·have:R=40:=by rw[hv (by rw[hvi,if_pos hn];decide),hvi,if_pos hn]
     subst this
     refine T.ct rfl ?_
     repeat(refine .A ?_;conv=>whnf)
     exact⟨_,.v rfl rfl rfl (fun _=>rfl) .nil⟩
    ·rw[if_neg (by rw[hn];simp)]at hvi
     refine T.cf rfl ?_
     repeat(refine .A ?_;conv=>whnf)
     refine T.K (T.ind (fun k:Nat=>⟨[(1,.optr 0 0 0 0),(3,.val true (.int .i64 i)),(4,.val true (.int .i64 k))],[(0,some (.box false (cM m)))],1⟩) (fun k=>k≤i∧∀j,j<k→((nmM m j).toList==(nmM m i).toList)=false) (fun k=>i-k) 0 ⟨Nat.zero_le _,fun j hj=>absurd hj (Nat.not_lt_zero j)⟩ (fun _ _ h=>h) ?_)
     rintro k ⟨hk,hbn⟩ ih2
     repeat(refine .A ?_;conv=>whnf)
     refine T.cd rfl (fun h4=> ?_) (fun h4=> ?_)
     ·have h4:k<i:=by omega
      have hrk:=hrowk k (by omega)
      have htw:((nmM m k).toList==(nmM m i).toList)=true→twiceR m i=true:=fun h=>List.any_eq_true.2 ⟨k,List.mem_range.2 h4,h⟩
      have ih3:=fun h:((nmM m k).toList==(nmM m i).toList)=false=>ih2 (k+1) ⟨by omega,fun j hj=>by
       by_cases e:j=k
       ·rw[e];exact h
       ·exact hbn j (by omega)⟩ (by omega)
      repeat(refine .A ?_;conv=>whnf)
      refine .I (r:=cV (nmM m k,dmM m k)) hrk ?_
      repeat(refine .A ?_;conv=>whnf)
      refine .I (r:=cV (nmM m i,dmM m i)) hrow ?_
      repeat(refine .A ?_;conv=>whnf)
      cases he:((nmM m k).toList==(nmM m i).toList)
      ·refine T.cf rfl ?_
       repeat(refine .A ?_;conv=>whnf)
       rw[wrap1 (l:=m.vars.length) (n:=k) (by omega) (by omega)]
       exact T.K (ih3 he)
      ·have ht:=htw he
       have:R=41:=by rw[hv (by rw[hvi,if_pos ht];decide),hvi,if_pos ht]
       subst this
       refine T.ct rfl ?_
       repeat(refine .A ?_;conv=>whnf)
       exact⟨_,.v rfl rfl rfl (fun _=>rfl) .nil⟩
     ·have h4:k=i:=by omega
      subst h4
      have htf:twiceR m k=false:=by
       unfold twiceR
       rw[List.any_eq_false]
       intro j hj
       rw[hbn j (List.mem_range.1 hj)];simp
      rw[if_neg (by rw[htf];simp)]at hvi
      have hck:=rcheck_spec (dmM m k) (by have:=hbk k h3;omega)
      have stop:dmM m k=[]∨chkR (dmM m k)≠0→R=42:=fun h=>by rw[hv (by rw[hvi,if_pos h];decide),hvi,if_pos h]
      have goon: ¬dmM m k=[]→¬chkR (dmM m k)≠0→varR m k=0:=fun a b=>by rw[hvi,if_neg (fun h=>h.elim a b)]
      have hw1:IntKind.i64.wrap ((k:Int)+1)=((k+1:Nat):Int):=wrap1 (l:=m.vars.length) h3 (by omega)
      have ih4:=fun h:varR m k=0=>ih (k+1) ⟨by omega,fun j hj=>by
       by_cases e:j=k
       ·rw[e];exact h
       ·exact hb j (by omega)⟩ (by omega)
      generalize varR m k=vr at*
      generalize nmM m k=nm at*
      generalize dmM m k=dd at*
      generalize chkR dd=ck at*
      repeat(refine .A ?_;conv=>whnf)
      refine .I (r:=cV (nm,dd)) hrow ?_
      repeat(refine .A ?_;conv=>whnf)
      refine J.g rfl rfl rfl (fun h5=> ?_) (fun h5=> ?_)
      ·have e:=stop (.inl (by simpa using h5))
       subst e
       repeat(refine .A ?_;conv=>whnf)
       refine T.ct rfl ?_
       repeat(refine .A ?_;conv=>whnf)
       exact⟨_,.v rfl rfl rfl (fun _=>rfl) .nil⟩
      ·repeat(refine .A ?_;conv=>whnf)
       refine .I (r:=cV (nm,dd)) hrow ?_
       repeat(refine .A ?_;conv=>whnf)
       refine .C hck ?_
       repeat(refine .A ?_;conv=>whnf)
       refine T.cd rfl (fun h6=> ?_) (fun h6=> ?_)
       ·have e:=stop (.inr h6)
        subst e
        repeat(refine .A ?_;conv=>whnf)
        exact⟨_,.v rfl rfl rfl (fun _=>rfl) .nil⟩
       ·repeat(refine .A ?_;conv=>whnf)
        rw[hw1]
        exact T.K (ih4 (goon (by simpa using h5) h6))
   ·have h3:i=m.vars.length:=by simp at h3;omega
    have hfz:firstE ((List.range m.vars.length).map (varR m))=0:=firstE_no fun x hx=>by
     obtain⟨j,hj,rfl⟩:=List.mem_map.1 hx
     exact hb j (by rw[h3];exact List.mem_range.1 hj)
    rw[hfz,if_neg (by simp)]at hR
    repeat(refine .A ?_;conv=>whnf)
    refine .C hds.frz ?_
    repeat(refine .A ?_;conv=>whnf)
    refine T.K (T.ind (fun i:Nat=>⟨[(1,.optr 0 0 0 0),(5,.val true (doms (domsM m))),(6,.val true (.int .i64 i))],[(0,some (.box false (cM m)))],1⟩) (fun i=>i≤m.cons.length∧∀j,j<i→∀c,m.cons[j]? =some c→conR (domsM m) c=0) (fun i=>m.cons.length-i) 0 ⟨Nat.zero_le _,fun j hj=>absurd hj (Nat.not_lt_zero j)⟩ (fun _ _ h=>h) ?_)
    rintro k ⟨hk,hbc⟩ ih
    have hdl:(domsM m).length*8≤140737488355328:=by simp[domsM];omega
    have hdx: ∀x∈domsM m,x.length*8≤140737488355328:=fun x hx=>by
     obtain⟨v,hv,rfl⟩:=List.mem_map.1 hx
     have:=b2 v hv;omega
    repeat(refine .A ?_;conv=>whnf)
    refine T.cd rfl (fun h4=> ?_) (fun h4=> ?_)
    ·have h4:k<m.cons.length:=by simpa[consPV]using h4
     have hrow:(m.cons.map cC)[((k:Nat):Int).toNat]? =some (cC m.cons[k]):=by simp[h4]
     have hcb:=b4 _ (List.getElem_mem h4)
     have hcs:=con_spec (domsM m) m.cons[k] ⟨by omega,by omega,by omega,fun r hr=>by have:=hcb.2.2.2 r hr;omega⟩ hdl hdx
     have hgk:m.cons[k]? =some m.cons[k]:=List.getElem?_eq_getElem h4
     have stop:conR (domsM m) m.cons[k]≠0→R=conR (domsM m) m.cons[k]:=fun he=>by
      have:firstE (m.cons.map (conR (domsM m)))=conR (domsM m) m.cons[k]:=firstE_at (i:=k) (fun j hj x hx=>by
       rw[List.getElem?_map]at hx
       obtain⟨c,hc,rfl⟩:=Option.map_eq_some_iff.1 hx
       exact hbc j hj c hc) (by rw[List.getElem?_map,hgk];rfl) he
      rw[this,if_pos he]at hR
      exact hR.symm
     have ih4:=fun h:conR (domsM m) m.cons[k]=0=>ih (k+1) ⟨by omega,fun j hj c hc=>by
      by_cases e:j=k
      ·rw[e,hgk]at hc;cases hc;exact h
      ·exact hbc j (by omega) c hc⟩ (by omega)
     generalize m.cons[k]=c at*
     generalize conR (domsM m) c=cr at*
     repeat(refine .A ?_;conv=>whnf)
     refine .I (r:=cC c) hrow ?_
     repeat(refine .A ?_;conv=>whnf)
     refine .C hcs ?_
     repeat(refine .A ?_;conv=>whnf)
     refine T.cd rfl (fun h5=> ?_) (fun h5=> ?_)
     ·have e:=stop h5
      subst e
      repeat(refine .A ?_;conv=>whnf)
      exact⟨_,.v rfl rfl rfl (fun _=>rfl) .nil⟩
     ·have h5:cr=0:=Classical.byContradiction h5
      repeat(refine .A ?_;conv=>whnf)
      rw[wrap1 (l:=m.cons.length) h4 (by omega)]
      exact T.K (ih4 h5)
    ·have h4:k=m.cons.length:=by simp[consPV]at h4;omega
     have hfc:firstE (m.cons.map (conR (domsM m)))=0:=firstE_no fun x hx=>by
      obtain⟨c,hc,rfl⟩:=List.mem_map.1 hx
      obtain⟨j,hj⟩:=List.getElem?_of_mem hc
      exact hbc j (by rw[h4];exact(List.getElem?_eq_some_iff.1 hj).1) c hj
     rw[hfc,if_neg (by simp)]at hR
     have hgs:=goal_spec (domsM m) m.goal b5 hdl hdx
     rw[hR]at hgs
     repeat(refine .A ?_;conv=>whnf)
     refine .C hgs ?_
     repeat(refine .A ?_;conv=>whnf)
     exact⟨_,.v rfl rfl rfl (fun _=>rfl) .nil⟩
def smallD (d:Doms)(most:Nat):Bool:=(List.range d.length).all fun k=>decide (prodD (d.take (k+1))≤most)
theorem smallD_ok {d:Doms}{most:Nat}(h:smallD d most=true)(h1:1≤most):prodD d≤most:=by
 by_cases h0:d=[]
 ·subst h0;exact h1
 ·have hl:=List.length_pos_iff.2 h0
  have:=List.all_eq_true.1 h (d.length-1) (List.mem_range.2 (by omega))
  rw[show d.length-1+1=d.length by omega,List.take_length]at this
  simpa using this
theorem rsmall_spec (d:Doms)(most:Nat)(hm:1≤most∧most≤1048576)(fd:FewD d):Spec Tryz.prog 27 false [doms d,.int .i64 most] [.val (.bool (smallD d most))]:=by
 refine Spec.body Tryz.func27 rfl rfl rfl fun w0 Z0=> ?_
 generalize hR:smallD d most=R
 have hds:=fd.small
 repeat(refine .A ?_;conv=>whnf)
 refine T.K (T.ind (fun i:Nat=>⟨[(0,.val false (doms d)),(1,.val false (.int .i64 most)),(5,.val true (.int .i64 (prodD (d.take i)))),(6,.val true (.int .i64 i))],[],0⟩) (fun i=>i≤d.length∧prodD (d.take i)≤most∧∀j,j<i→prodD (d.take (j+1))≤most) (fun i=>d.length-i) 0 ⟨Nat.zero_le _,hm.1,fun j hj=>absurd hj (Nat.not_lt_zero j)⟩ (fun _ _ h=>h) ?_)
 rintro i ⟨hi,hp,hb⟩ ih
 repeat(refine .A ?_;conv=>whnf)
 refine T.cd rfl (fun h1=> ?_) (fun h1=> ?_)
 ·have h1:i<d.length:=by simpa using h1
  have hrow:(d.map cD)[((i:Nat):Int).toNat]? =some (cD d[i]):=by simp[h1]
  have hf:=fd.fine _ (List.getElem_mem h1)
  have hw:=fd.few _ (List.getElem_mem h1)
  have hvs:=values_spec d[i] hf.domB.1 (by omega) hf.domB.2.2
  have htk:prodD (d.take (i+1))=prodD (d.take i)*(vals d[i]).length:=by rw[List.take_succ_eq_append_getElem h1,prodD_snoc]
  have hno: ¬prodD (d.take (i+1))≤most→R=false:=fun h=>by
   rw[←hR];unfold smallD
   rw[List.all_eq_false]
   exact⟨i,List.mem_range.2 h1,by simpa using h⟩
  have ih1:=fun h:prodD (d.take (i+1))≤most=>ih (i+1) ⟨by omega,h,fun j hj=>by
   by_cases e:j=i
   ·rw[e];exact h
   ·exact hb j (by omega)⟩ (by omega)
  have hle:prodD (d.take i)*(vals d[i]).length≤1048576*4096:=Nat.mul_le_mul (by omega) hw
  rw[htk]at hno ih1
  generalize vals d[i]=l at*
  generalize d[i]=x at*
  generalize prodD (d.take i)=p at*
  have hmul:IntKind.i64.wrap ((p:Int)*((l.map cI).length:Nat))=((p*l.length:Nat):Int):=by
   rw[List.length_map,←Int.natCast_mul,wrap_id (by omega) (by omega)]
  repeat(refine .A ?_;conv=>whnf)
  refine .I (r:=cD x) hrow ?_
  repeat(refine .A ?_;conv=>whnf)
  refine .C hvs ?_
  repeat(refine .A ?_;conv=>whnf)
  rw[hmul]
  refine T.cd rfl (fun h2=> ?_) (fun h2=> ?_)
  ·have e:=hno (by omega)
   subst e
   repeat(refine .A ?_;conv=>whnf)
   exact⟨_,.v rfl rfl rfl (fun _=>rfl) .nil⟩
  ·repeat(refine .A ?_;conv=>whnf)
   rw[wrap1 (l:=d.length) h1 (by omega)]
   exact T.K (ih1 (by omega))
 ·have h1:i=d.length:=by simp at h1;omega
  have:R=true:=by
   rw[←hR];unfold smallD
   rw[List.all_eq_true]
   intro j hj
   have:=hb j (by rw[h1];exact List.mem_range.1 hj)
   simpa using this
  subst this
  repeat(refine .A ?_;conv=>whnf)
  exact⟨_,.v rfl rfl rfl (fun _=>rfl) .nil⟩
def keepsR (d:Doms)(a:List Int):Bool:=((List.range (min d.length a.length)).all fun i=>decide (a.getD i 0∈vals (d.getD i [])))&&decide (d.length=a.length)
def solvesR (m:Mod)(a:List Int):Bool:=decide (a.length=m.vars.length)&&(((List.range a.length).all fun i=>decide (a.getD i 0∈vals (dmM m i)))&&m.cons.all fun c=>holdsR c a)
theorem ends_have {cons:List Con}{d:Doms}(gd:GoodD d.length d)(ht: ∀c∈cons,Takes leD (GoodD d.length) (oneO c)):AllEnds cons d (allO cons d):=by
 have key: ∀(k:Nat) (a:Doms),Come leD (GoodD d.length) oneO cons d a→weight a<k→∃R,AllEnds cons d R:=by
  intro k
  induction k with
  |zero=>intro a _ h;omega
  |succ k ih=>
   intro a hc hk
   by_cases hs:Stays oneO cons a
   ·exact⟨some a,hc,hs⟩
   ·have: ∃c,c∈cons∧oneO c a≠some a:=Classical.byContradiction fun h=>hs fun c hm=>Classical.byContradiction fun e=>h ⟨c,hm,e⟩
    obtain⟨c,hm,hne⟩:=this
    cases he:oneO c a with
    |none=>exact⟨none,hc.none hm (ht c hm) he⟩
    |some b=>
     obtain⟨g1,g2⟩:=(ht c hm).less a b hc.fine he
     have:=(weight_le g1 hc.fine g2).2 (fun e=>hne (by rw[he,e]))
     exact ih b (hc.step (orderD _) hm (ht c hm) he) (by omega)
 obtain⟨R,hR⟩:=key _ d (Come.refl (orderD _) gd) (Nat.lt_succ_self _)
 rw[←allO_eq hR];exact hR
theorem uses_sum: ∀{cons:List Con},(∀c∈cons,c.vars.length≤1024)→(cons.map fun c=>(usesR c).length).sum≤cons.length*1025
 | [],_=>by simp
 |c::cons,h=>by
  have h1:=uses_sum fun c hc=>h c (.tail _ hc)
  have h2:(usesR c).length≤1025:=by
   have h1:=sortU_length (if c.kind=4 then c.vars++[c.b]else c.vars)
   have h2:(if c.kind=4 then c.vars++[c.b]else c.vars).length≤c.vars.length+1:=by split<;>simp
   have:=h c (.head _)
   unfold usesR;omega
  simp only[List.map_cons,List.sum_cons,List.length_cons];omega
structure RunOk (d:Doms)(cons:List Con):Prop where
 gd:GoodD d.length d
 con: ∀c∈cons,c.vars.length≤1024∧ConB c
 right: ∀c∈cons,conR d c=0
 prod:prodD d≤1048576
 few:cons.length≤4096
theorem RunOk.step {d:Doms}{cons:List Con}(h:RunOk d cons){c:Con}(hc:c∈cons):StepOK d.length (usesR c) (fun g=>(c.kind=4→0≤g c.b∧g c.b≤1)→holdsR c (tabG d.length g)=true) (oneO c):=one_step h.gd (h.con c hc).2 (h.right c hc)
theorem RunOk.ends {d:Doms}{cons:List Con}(h:RunOk d cons):AllEnds cons d (allO cons d):=ends_have h.gd fun c hc=>(h.step hc).takes
theorem RunOk.less {d e:Doms}{cons:List Con}(h:RunOk d cons)(ge:GoodD d.length e)(hle:leD e d):RunOk e cons:=
 ⟨by rw[ge.len];exact ge,h.con,fun c hc=>right_mono (h.con c hc).2 h.gd ge hle (h.right c hc),Nat.le_trans (prodD_leD ge h.gd hle) h.prod,h.few⟩
theorem RunOk.sub {d:Doms}{cons l:List Con}(h:RunOk d cons)(hs: ∀c∈l,c∈cons)(hf:l.length≤4096):RunOk d l:=⟨h.gd,fun c hc=>h.con c (hs c hc),fun c hc=>h.right c (hs c hc),h.prod,hf⟩
theorem fine_dok {e:Doms}(hx: ∀x∈e,Fine x)(v:Int):DomOk (domAt e v):=by
 unfold domAt
 by_cases hv:v.toNat<e.length
 ·rw[List.getD_eq_getElem?_getD,List.getElem?_eq_getElem hv]
  exact(hx _ (List.getElem_mem hv)).ok
 ·rw[List.getD_eq_getElem?_getD,List.getElem?_eq_none (by omega)]
  exact⟨by simp,.nil⟩
theorem alls_spec {d e:Doms}{cons:List Con}(h:RunOk d cons)(hx: ∀x∈e,Fine x∧(vals x).length≤4096)(hle:leD e d):
  Spec Tryz.prog 16 false [doms e,consPV cons] (pruneRes (allO cons e))∧Spec Tryz.prog 17 false [doms e,consPV cons] (refRes (allO cons e)):=by
 have hel:=hle.1
 have hd:=h.gd.few.small
 have hfw:=h.few
 have hu:=uses_sum fun c hc=>(h.con c hc).1
 have hok:ConsOk e cons:=⟨fun c hc=>(h.con c hc).2,fun c hc=>right_sub (h.con c hc).2 h.gd (fun v _=>fine_dok (fun x hm=>(hx x hm).1) v) hle (h.right c hc),by omega,by omega⟩
 have hg: ∀c∈cons,∀out,GoodD e.length out→leD out e→_:=fun c hc out go hl=>by
  have ho:=h.less (by rw[←hel];exact go) ((orderD 0).trans _ _ _ hl hle)
  exact ones_spec ho.gd (ho.con c hc).2 (ho.right c hc) ho.prod
 exact⟨fall_spec e cons (by omega) hx hok fun c hc out go hl=>(hg c hc out go hl).1,rall_spec e cons (by omega) hx hok fun c hc out go hl=>(hg c hc out go hl).2⟩
theorem GoodD.fx {n:Nat}{d:Doms}(h:GoodD n d): ∀x∈d,Fine x∧(vals x).length≤4096:=fun x hx=>⟨h.few.fine x hx,h.few.few x hx⟩
theorem leD.rfl' {d:Doms}:leD d d:=(orderD 0).refl d
theorem stays_holds {d e:Doms}{cons:List Con}{a:List Int}(h:RunOk d cons)(ge:GoodD d.length e)(hle:leD e d)(hl:a.length=d.length)(hv: ∀u:Int,0≤u→u.toNat<d.length→vals (domAt e u)=[atR a u]):Stays oneO cons e↔∀c∈cons,holdsR c a=true:=by
 have he:=h.less ge hle
 have key: ∀c∈cons,(oneO c e=some e↔holdsR c a=true):=fun c hc=>by
  have hs:=h.step hc
  have hp:=hs.point e ge (atR a) fun u hu=>hv u (hs.in' u hu).1 (hs.in' u hu).2
  rw[hp,tab_self hl]
  refine⟨fun hh=>hh fun h4=> ?_,fun hh _=>hh⟩
  obtain⟨_,_,hr,hin⟩:=right_split (he.con c hc).2 (he.right c hc)
  have hb:=hin c.b (uses_mem.2 (.inr ⟨h4,rfl⟩))
  rw[ge.len]at hb
  unfold rightR at hr
  rw[if_neg (by omega),if_neg (by omega),if_neg (by omega),if_neg (by omega),if_pos h4]at hr
  simp only[Bool.and_eq_true]at hr
  exact(truth_vals (ge.dok c.b)).1 hr.1.2 _ (by rw[hv c.b hb.1 hb.2];simp)
 exact⟨fun hs c hc=>(key c hc).1 (hs c hc),fun hh c hc=>(key c hc).2 (hh c hc)⟩
def pdom (a:List Int):Doms:=a.map fun x=>[(x,x)]
theorem pdom_ok {n:Nat}{d:Doms}(gd:GoodD n d){a:List Int}(hl:a.length=n)(ha: ∀i,i<n→a.getD i 0∈vals (d.getD i [])):GoodD n (pdom a)∧leD (pdom a) d∧∀u:Int,0≤u→u.toNat<n→vals (domAt (pdom a) u)=[atR a u]:=by
 have hv: ∀u:Int,0≤u→u.toNat<n→vals (domAt (pdom a) u)=[atR a u]:=fun u h0 hu=>by
  unfold domAt pdom atR
  rw[if_neg (by omega),List.getD_eq_getElem?_getD,List.getElem?_map,List.getD_eq_getElem?_getD,List.getElem?_eq_getElem (by omega)]
  simp[vals,rng_self]
 have hr: ∀x∈a,-1048576≤x∧x≤1048576:=fun x hx=>by
  obtain⟨i,hi⟩:=List.getElem?_of_mem hx
  have hil:=(List.getElem?_eq_some_iff.1 hi).1
  have h1:=ha i (by omega)
  rw[getD_at hil,(List.getElem?_eq_some_iff.1 hi).2]at h1
  exact(gd.few.at (i:Int)).2.2 x (by unfold domAt;rw[Int.toNat_natCast];exact h1)
 refine⟨⟨⟨by have:=gd.few.small;have:=gd.len;simp[pdom];omega,fun x hx=> ?_,fun x hx=> ?_⟩,by simp[pdom,hl],by simp[pdom]⟩,⟨by simp[pdom,hl,gd.len],fun v x h0 hx=> ?_⟩,hv⟩
 ·obtain⟨y,hy,rfl⟩:=List.mem_map.1 hx
  exact fine1 (Int.le_refl _) (hr y hy).1 (hr y hy).2
 ·obtain⟨y,hy,rfl⟩:=List.mem_map.1 hx
  simp[vals,rng_self]
 ·by_cases hlt:v.toNat<n
  ·rw[hv v h0 hlt]at hx
   have h1:=ha v.toNat hlt
   have e:atR a v=a.getD v.toNat 0:=by unfold atR;rw[if_neg (by omega)]
   rw[e]at hx
   rw[List.mem_singleton.1 hx];exact h1
  ·rw[dom_none (by simp[pdom];omega)]at hx;cases hx
theorem keeps_pdom {n:Nat}{out:Doms}{a:List Int}(hn:out.length=n)(hl:a.length=n)(h:leD (pdom a) out)(hv: ∀u:Int,0≤u→u.toNat<n→vals (domAt (pdom a) u)=[atR a u]):keepsR out a=true:=by
 unfold keepsR
 rw[Bool.and_eq_true,decide_eq_true_eq,List.all_eq_true]
 refine⟨fun i hi=> ?_,by omega⟩
 have hi:=List.mem_range.1 hi
 rw[decide_eq_true_eq]
 have:=h.2 (i:Int) (atR a i) (by omega) (by rw[hv i (by omega) (by omega)];simp)
 unfold domAt atR at this
 rw[if_neg (by omega),Int.toNat_natCast]at this
 exact this
end Go.Proofs.YtlcobmehnaeebaaGreat
