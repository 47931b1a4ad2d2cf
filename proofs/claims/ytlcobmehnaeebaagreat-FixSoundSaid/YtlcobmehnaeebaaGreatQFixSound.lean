/- The statement FixSound: the law, and its row; ahead of it what it needs (PvI, FvV, FvW, PvJ, LwFOnes, LwFSound, RowA, RowM, RowFSound). -/
import Derived.Test.YtlcobmehnaeebaaGreatB8
import Derived.Test.YtlcobmehnaeebaaGreatRows
import Derived.WalkKit
import Derived.ProofKit
import Derived.OpenShut
import Derived.ShutString
import Derived.ChangeOld
import Derived.Below
import Derived.SizedLaws
namespace Go.Proofs.YtlcobmehnaeebaaGreat
open Go Go.RowKit
set_option linter.unusedVariables false
set_option linter.unusedSimpArgs false
theorem ends_have {cons:List Con}{d:Doms}(gd:GoodD d.length d)(ht: ∀c∈cons,Takes leD (GoodD d.length) (oneO c)):AllEnds cons d (allO cons d):=by
 have key: ∀(k:Nat) (a:Doms),Come leD (GoodD d.length) oneO cons d a→weight a<k→∃R,AllEnds cons d R:=by
  intro k
  induction k with
  |zero=>intro a _ h;omega
  |succ k ih=>
   intro a hc hk
   by_cases hs:Stays oneO cons a
   ·exact⟨some a,hc,hs⟩
   ·have: ∃c,c∈cons∧oneO c a≠some a:=Classical.byContradiction fun h=>hs fun c hm=>Classical.byContradiction fun e=>h ⟨c,hm,e⟩
    obtain⟨c,hm,hne⟩:=this
    cases he:oneO c a with
    |none=>exact⟨none,hc.none hm (ht c hm) he⟩
    |some b=>
     obtain⟨g1,g2⟩:=(ht c hm).less a b hc.fine he
     have:=(weight_le g1 hc.fine g2).2 (fun e=>hne (by rw[he,e]))
     exact ih b (hc.step (orderD _) hm (ht c hm) he) (by omega)
 obtain⟨R,hR⟩:=key _ d (Come.refl (orderD _) gd) (Nat.lt_succ_self _)
 rw[←allO_eq hR];exact hR
theorem uses_sum: ∀{cons:List Con},(∀c∈cons,c.vars.length≤1024)→(cons.map fun c=>(usesR c).length).sum≤cons.length*1025
 | [],_=>by simp
 |c::cons,h=>by
  have h1:=uses_sum fun c hc=>h c (.tail _ hc)
  have h2:(usesR c).length≤1025:=by
   have h1:=sortU_length (if c.kind=4 then c.vars++[c.b]else c.vars)
   have h2:(if c.kind=4 then c.vars++[c.b]else c.vars).length≤c.vars.length+1:=by split<;>simp
   have:=h c (.head _)
   unfold usesR;omega
  simp only[List.map_cons,List.sum_cons,List.length_cons];omega
structure RunOk (d:Doms)(cons:List Con):Prop where
 gd:GoodD d.length d
 con: ∀c∈cons,c.vars.length≤1024∧ConB c
 right: ∀c∈cons,conR d c=0
 prod:prodD d≤1048576
 few:cons.length≤4096
theorem RunOk.step {d:Doms}{cons:List Con}(h:RunOk d cons){c:Con}(hc:c∈cons):StepOK d.length (usesR c) (fun g=>(c.kind=4→0≤g c.b∧g c.b≤1)→holdsR c (tabG d.length g)=true) (oneO c):=one_step h.gd (h.con c hc).2 (h.right c hc)
theorem RunOk.ends {d:Doms}{cons:List Con}(h:RunOk d cons):AllEnds cons d (allO cons d):=ends_have h.gd fun c hc=>(h.step hc).takes
theorem RunOk.less {d e:Doms}{cons:List Con}(h:RunOk d cons)(ge:GoodD d.length e)(hle:leD e d):RunOk e cons:=
 ⟨by rw[ge.len];exact ge,h.con,fun c hc=>right_mono (h.con c hc).2 h.gd ge hle (h.right c hc),Nat.le_trans (prodD_leD ge h.gd hle) h.prod,h.few⟩
theorem RunOk.sub {d:Doms}{cons l:List Con}(h:RunOk d cons)(hs: ∀c∈l,c∈cons)(hf:l.length≤4096):RunOk d l:=⟨h.gd,fun c hc=>h.con c (hs c hc),fun c hc=>h.right c (hs c hc),h.prod,hf⟩
theorem fine_dok {e:Doms}(hx: ∀x∈e,Fine x)(v:Int):DomOk (domAt e v):=by
 unfold domAt
 by_cases hv:v.toNat<e.length
 ·rw[List.getD_eq_getElem?_getD,List.getElem?_eq_getElem hv]
  exact(hx _ (List.getElem_mem hv)).ok
 ·rw[List.getD_eq_getElem?_getD,List.getElem?_eq_none (by omega)]
  exact⟨by simp,.nil⟩
theorem alls_spec {d e:Doms}{cons:List Con}(h:RunOk d cons)(hx: ∀x∈e,Fine x∧(vals x).length≤4096)(hle:leD e d):
  Spec Tryz.prog 16 false [doms e,consPV cons] (pruneRes (allO cons e))∧Spec Tryz.prog 17 false [doms e,consPV cons] (refRes (allO cons e)):=by
 have hel:=hle.1
 have hd:=h.gd.few.small
 have hfw:=h.few
 have hu:=uses_sum fun c hc=>(h.con c hc).1
 have hok:ConsOk e cons:=⟨fun c hc=>(h.con c hc).2,fun c hc=>right_sub (h.con c hc).2 h.gd (fun v _=>fine_dok (fun x hm=>(hx x hm).1) v) hle (h.right c hc),by omega,by omega⟩
 have hg: ∀c∈cons,∀out,GoodD e.length out→leD out e→_:=fun c hc out go hl=>by
  have ho:=h.less (by rw[←hel];exact go) ((orderD 0).trans _ _ _ hl hle)
  exact ones_spec ho.gd (ho.con c hc).2 (ho.right c hc) ho.prod
 exact⟨fall_spec e cons (by omega) hx hok fun c hc out go hl=>(hg c hc out go hl).1,rall_spec e cons (by omega) hx hok fun c hc out go hl=>(hg c hc out go hl).2⟩
theorem GoodD.fx {n:Nat}{d:Doms}(h:GoodD n d): ∀x∈d,Fine x∧(vals x).length≤4096:=fun x hx=>⟨h.few.fine x hx,h.few.few x hx⟩
theorem leD.rfl' {d:Doms}:leD d d:=(orderD 0).refl d
theorem stays_holds {d e:Doms}{cons:List Con}{a:List Int}(h:RunOk d cons)(ge:GoodD d.length e)(hle:leD e d)(hl:a.length=d.length)(hv: ∀u:Int,0≤u→u.toNat<d.length→vals (domAt e u)=[atR a u]):Stays oneO cons e↔∀c∈cons,holdsR c a=true:=by
 have he:=h.less ge hle
 have key: ∀c∈cons,(oneO c e=some e↔holdsR c a=true):=fun c hc=>by
  have hs:=h.step hc
  have hp:=hs.point e ge (atR a) fun u hu=>hv u (hs.in' u hu).1 (hs.in' u hu).2
  rw[hp,tab_self hl]
  refine⟨fun hh=>hh fun h4=> ?_,fun hh _=>hh⟩
  obtain⟨_,_,hr,hin⟩:=right_split (he.con c hc).2 (he.right c hc)
  have hb:=hin c.b (uses_mem.2 (.inr ⟨h4,rfl⟩))
  rw[ge.len]at hb
  unfold rightR at hr
  rw[if_neg (by omega),if_neg (by omega),if_neg (by omega),if_neg (by omega),if_pos h4]at hr
  simp only[Bool.and_eq_true]at hr
  exact(truth_vals (ge.dok c.b)).1 hr.1.2 _ (by rw[hv c.b hb.1 hb.2];simp)
 exact⟨fun hs c hc=>(key c hc).1 (hs c hc),fun hh c hc=>(key c hc).2 (hh c hc)⟩
def pdom (a:List Int):Doms:=a.map fun x=>[(x,x)]
theorem pdom_ok {n:Nat}{d:Doms}(gd:GoodD n d){a:List Int}(hl:a.length=n)(ha: ∀i,i<n→a.getD i 0∈vals (d.getD i [])):GoodD n (pdom a)∧leD (pdom a) d∧∀u:Int,0≤u→u.toNat<n→vals (domAt (pdom a) u)=[atR a u]:=by
 have hv: ∀u:Int,0≤u→u.toNat<n→vals (domAt (pdom a) u)=[atR a u]:=fun u h0 hu=>by
  unfold domAt pdom atR
  rw[if_neg (by omega),List.getD_eq_getElem?_getD,List.getElem?_map,List.getD_eq_getElem?_getD,List.getElem?_eq_getElem (by omega)]
  simp[vals,rng_self]
 have hr: ∀x∈a,-1048576≤x∧x≤1048576:=fun x hx=>by
  obtain⟨i,hi⟩:=List.getElem?_of_mem hx
  have hil:=(List.getElem?_eq_some_iff.1 hi).1
  have h1:=ha i (by omega)
  rw[getD_at hil,(List.getElem?_eq_some_iff.1 hi).2]at h1
  exact(gd.few.at (i:Int)).2.2 x (by unfold domAt;rw[Int.toNat_natCast];exact h1)
 refine⟨⟨⟨by have:=gd.few.small;have:=gd.len;simp[pdom];omega,fun x hx=> ?_,fun x hx=> ?_⟩,by simp[pdom,hl],by simp[pdom]⟩,⟨by simp[pdom,hl,gd.len],fun v x h0 hx=> ?_⟩,hv⟩
 ·obtain⟨y,hy,rfl⟩:=List.mem_map.1 hx
  exact fine1 (Int.le_refl _) (hr y hy).1 (hr y hy).2
 ·obtain⟨y,hy,rfl⟩:=List.mem_map.1 hx
  simp[vals,rng_self]
 ·by_cases hlt:v.toNat<n
  ·rw[hv v h0 hlt]at hx
   have h1:=ha v.toNat hlt
   have e:atR a v=a.getD v.toNat 0:=by unfold atR;rw[if_neg (by omega)]
   rw[e]at hx
   rw[List.mem_singleton.1 hx];exact h1
  ·rw[dom_none (by simp[pdom];omega)]at hx;cases hx
theorem keeps_pdom {n:Nat}{out:Doms}{a:List Int}(hn:out.length=n)(hl:a.length=n)(h:leD (pdom a) out)(hv: ∀u:Int,0≤u→u.toNat<n→vals (domAt (pdom a) u)=[atR a u]):keepsR out a=true:=by
 unfold keepsR
 rw[Bool.and_eq_true,decide_eq_true_eq,List.all_eq_true]
 refine⟨fun i hi=> ?_,by omega⟩
 have hi:=List.mem_range.1 hi
 rw[decide_eq_true_eq]
 have:=h.2 (i:Int) (atR a i) (by omega) (by rw[hv i (by omega) (by omega)];simp)
 unfold domAt atR at this
 rw[if_neg (by omega),Int.toNat_natCast]at this
 exact this
theorem solved_at {n:Nat}{d:Doms}(gd:GoodD n d){s:List Int}(h:solvedO d=some s):s.length=n∧∀u:Int,0≤u→u.toNat<n→vals (domAt d u)=[atR s u]:=by
 unfold solvedO at h
 split at h
 ·rename_i h1
  cases h
  refine⟨by simp[gd.len],fun u h0 hu=> ?_⟩
  have hl:u.toNat<d.length:=by rw[gd.len];exact hu
  have h2:oneV d[u.toNat]=true:=List.all_eq_true.1 h1 _ (List.getElem_mem hl)
  have h2:(vals d[u.toNat]).length=1:=of_decide_eq_true h2
  unfold domAt atR
  rw[if_neg (by omega),List.getD_eq_getElem?_getD,List.getD_eq_getElem?_getD,List.getElem?_map,List.getElem?_eq_getElem hl]
  show vals d[u.toNat]=[leastR d[u.toNat]]
  obtain⟨x,hx⟩:=(one_iff (gd.few.fine _ (List.getElem_mem hl)).ok).1 h2
  rw[hx];simp[vals,rng_self,leastR]
 ·cases h
set_option maxRecDepth 8000
def boundV (v:ByteArray×List (Int×Int)):ByteArray×List (Int×Int):=(v.1.extract 0 (min v.1.size 20),v.2.take (min v.2.length 12))
def boundC (c:Con):Con:=⟨c.kind,c.vars.take (min c.vars.length 14),c.coefs.take (min c.coefs.length 14),c.op,c.rhs,(c.rows.take 20).map fun r=>r.take (min r.length 14),c.b⟩
def boundM (m:Mod):Mod:=⟨(m.vars.take 10).map boundV,(m.cons.take 16).map boundC,⟨m.goal.kind,m.goal.vars.take (min m.goal.vars.length 14),m.goal.coefs.take (min m.goal.coefs.length 14)⟩⟩
structure ModI (m:Mod):Prop where
 vn: ∀v∈m.vars,v.2.length*8≤140737488355328
 vl:m.vars.length*8≤140737488355328
 cl:m.cons.length*8≤140737488355328
 cb: ∀c∈m.cons,c.vars.length*8≤140737488355328∧c.coefs.length*8≤140737488355328∧c.rows.length*8≤140737488355328∧∀r∈c.rows,r.length*8≤140737488355328
 gl:m.goal.vars.length*8≤140737488355328∧m.goal.coefs.length*8≤140737488355328
theorem bound_ok (m:Mod):ModB (boundM m):=by
 refine⟨by simp[boundM];omega,fun v hv=> ?_,by simp[boundM];omega,fun c hc=> ?_,by simp[boundM];omega⟩
 ·obtain⟨u,_,rfl⟩:=List.mem_map.1 hv
  simp[boundV,ByteArray.size_extract];omega
 ·obtain⟨u,_,rfl⟩:=List.mem_map.1 hc
  refine⟨by simp[boundC];omega,by simp[boundC];omega,by simp[boundC];omega,fun r hr=> ?_⟩
  obtain⟨q,_,rfl⟩:=List.mem_map.1 hr
  simp;omega
def bxM (u1 u2:Value)(g:Goal):List PV:=[.raw u1,.raw u2,.int .i64 g.kind,ints g.vars,ints g.coefs]
set_option maxHeartbeats 1000000 in
theorem bound_spec (m:Mod)(hm:ModI m):Spec Tryz.prog 25 true [.agg (cM m)] [.val (.agg (cM (boundM m)))]:=by
 refine Spec.body Tryz.func25 rfl rfl rfl fun w0 Z0=> ?_
 obtain⟨b1,b2,b3,b4,b5⟩:=hm
 repeat(refine .A ?_;conv=>whnf)
 refine J.al rfl rfl rfl rfl rfl rfl rfl ?_
 refine J.nil ?_
 refine T.seq ?_
 refine T.r ?_
 refine J.sub (Rel.unbx (s:=1) (fun _ h=>h) rfl rfl) ?_
 refine J.H rfl ?_
 conv=>whnf
 refine J.H rfl ?_
 conv=>whnf
 refine J.bz [.raw (.slice none 0 0),.raw (.slice none 0 0),.int .i64 0,.sl [],.sl []] rfl rfl rfl rfl rfl rfl rfl rfl (fun w Z=> .cons (.raw _ rfl) (.cons (.raw _ rfl) (.cons (.int _ _) (.cons .nilsl (.cons .nilsl .nil))))) (by simp[PV.one]) rfl rfl rfl ?_
 conv=>whnf
 refine J.al rfl rfl rfl rfl rfl rfl rfl ?_
 refine J.w rfl rfl rfl rfl rfl rfl rfl rfl rfl rfl ?_
 refine J.nil ?_
 refine T.nilO 1001 58 2 rfl ?_
 refine T.nilO 1002 38 7 rfl ?_
 refine T.sub (Rel.wk (o:=3) rfl) ?_
 refine T.sub (Rel.wk (o:=4) rfl) ?_
 refine T.mids (fun u:Value=>⟨[(1,.fptr false (cM m)),(2,.optr 0 0 0 0),(3,.optr 1 0 0 0),(1001,.eq u 2),(1002,.eq (.slice none 0 0) 3)],[(0,some (.box true [.sl [],.sl [],.int .i64 0,.sl [],.sl []])),(1,some (.box false (bxM u (.slice none 0 0) m.goal))),(2,some (.sl 58 2 false ((boundM m).vars.map cV))),(3,some (.sl 38 7 false []))],4⟩) ?_ fun u1=> ?_
 ·repeat(refine .N ?_;conv=>whnf)
  refine T.K (T.ind (fun s:Nat×Value=>⟨[(1,.fptr false (cM m)),(2,.optr 0 0 0 0),(3,.optr 1 0 0 0),(4,.val true (.int .i64 s.1)),(1001,.eq s.2 2),(1002,.eq (.slice none 0 0) 3)],[(0,some (.box true [.sl [],.sl [],.int .i64 0,.sl [],.sl []])),(1,some (.box false (bxM s.2 (.slice none 0 0) m.goal))),(2,some (.sl 58 2 false (((m.vars.take s.1).map boundV).map cV))),(3,some (.sl 38 7 false []))],4⟩) (fun s=>s.1≤min m.vars.length 10) (fun s=>10-s.1) (0,.slice none 0 0) (Nat.zero_le _) (fun _ _ h=>by cases h.1) ?_)
  rintro⟨i,u⟩ hi ih
  simp only at hi
  repeat(refine .A ?_;conv=>whnf)
  refine J.g rfl rfl rfl (fun h1=> ?_) (fun h1=> ?_)
  ·have h1:i<m.vars.length:=by simpa using h1
   repeat(refine .A ?_;conv=>whnf)
   refine T.cd rfl (fun h2=> ?_) (fun h2=> ?_)
   ·have h2:i<10:=by omega
    have hrow:(m.vars.map cV)[((i:Nat):Int).toNat]? =some (cV m.vars[i]):=by simp[h1]
    have hv:=b1 _ (List.getElem_mem h1)
    have htk:(m.vars.take (i+1)).map boundV=(m.vars.take i).map boundV++[boundV m.vars[i]]:=by rw[List.take_succ_eq_append_getElem h1,List.map_append];rfl
    have hln:((m.vars.take i).map boundV).length≤10:=by simp;omega
    have ih1:=fun u'=>ih (i+1,u') (by show _≤min _ _;omega) (by show _-_<_-_;omega)
    simp only[htk,List.map_append]at ih1
    generalize (m.vars.take i).map boundV=out at*
    generalize m.vars[i]=v at*
    obtain⟨nm,dd⟩:=v
    simp only at hv
    repeat(refine .A ?_;conv=>whnf)
    refine .I (r:=cV (nm,dd)) hrow ?_
    repeat(refine .A ?_;conv=>whnf)
    refine J.al rfl rfl rfl rfl rfl rfl rfl ?_
    refine J.w rfl rfl rfl rfl rfl rfl rfl rfl rfl rfl ?_
    repeat(refine .N ?_;conv=>whnf)
    refine T.rdw 22 rfl (by kernel_rfl) rfl ?_
    refine J.H rfl ?_
    refine J.lr 1001 (q:=2) (u:=u) rfl rfl rfl rfl rfl rfl rfl rfl rfl ?_
    repeat(refine .N ?_;conv=>whnf)
    refine J.ss (min nm.size 20) rfl rfl rfl rfl rfl rfl rfl (by simp;omega) (Nat.min_le_left _ _) ?_
    repeat(refine .N ?_;conv=>whnf)
    refine .O ?_
    repeat(refine .N ?_;conv=>whnf)
    refine J.s1 (enc:=cR) (l:=dd) (min dd.length 12) rfl rfl rfl rfl rfl rfl rfl rfl rfl (fun _=>rfl) (by simp;omega) (by omega) ?_
    refine J.adf (fun _ h=>h) rfl rfl rfl rfl rfl rfl rfl rfl rfl rfl rfl rfl rfl rfl rfl rfl rfl len_R (by show(0+List.length _)*16≤_;simp;omega) ?_
    repeat(refine .N ?_;conv=>whnf)
    refine .V ?_
    refine J.ad rfl rfl rfl rfl rfl rfl rfl rfl rfl rfl rfl rfl rfl rfl rfl rfl rfl rfl (one_len rfl) (by show(List.length _+1)*40≤_;simp;omega) ?_
    repeat(refine .N ?_;conv=>whnf)
    refine⟨by kernel_rfl,?_⟩
    refine J.name 1001 (s:=49) rfl rfl rfl fun u'=> ?_
    refine J.sub (Rel.raw (s:=49) (g:=1001) rfl (.inl rfl) rfl rfl rfl) ?_
    refine J.w rfl rfl rfl rfl rfl rfl rfl rfl rfl rfl ?_
    repeat(refine .A ?_;conv=>whnf)
    rw[wrap1 (l:=m.vars.length) (n:=i) h1 b2]
    exact T.K (ih1 u')
   ·have e:i=10:=by omega
    subst e
    repeat(refine .A ?_;conv=>whnf)
    exact⟨rfl,u,[1,2,3,1001,1002],[2,3,1001,1002],rfl,rfl⟩
  ·have e:i=m.vars.length:=by simp at h1;omega
   subst e
   have e2:m.vars.take 10=m.vars:=List.take_of_length_le (by omega)
   rw[show(boundM m).vars=(m.vars.take 10).map boundV from rfl,e2,List.take_length]
   repeat(refine .A ?_;conv=>whnf)
   refine T.cf rfl ?_
   repeat(refine .A ?_;conv=>whnf)
   exact⟨rfl,u,[1,2,3,1001,1002],[2,3,1001,1002],rfl,rfl⟩
 ·refine T.mids (fun u2:Value=>⟨[(1,.fptr false (cM m)),(2,.optr 0 0 0 0),(3,.optr 1 0 0 0),(1001,.eq u1 2),(1002,.eq u2 3)],[(0,some (.box true [.sl [],.sl [],.int .i64 0,.sl [],.sl []])),(1,some (.box false (bxM u1 u2 m.goal))),(2,some (.sl 58 2 false ((boundM m).vars.map cV))),(3,some (.sl 38 7 false ((boundM m).cons.map cC)))],4⟩) ?_ fun u2=> ?_
  ·repeat(refine .N ?_;conv=>whnf)
   refine T.K (T.ind (fun s:Nat×Value=>⟨[(1,.fptr false (cM m)),(2,.optr 0 0 0 0),(3,.optr 1 0 0 0),(6,.val true (.int .i64 s.1)),(1001,.eq u1 2),(1002,.eq s.2 3)],[(0,some (.box true [.sl [],.sl [],.int .i64 0,.sl [],.sl []])),(1,some (.box false (bxM u1 s.2 m.goal))),(2,some (.sl 58 2 false ((boundM m).vars.map cV))),(3,some (.sl 38 7 false (((m.cons.take s.1).map boundC).map cC)))],4⟩) (fun s=>s.1≤min m.cons.length 16) (fun s=>16-s.1) (0,.slice none 0 0) (Nat.zero_le _) (fun _ _ h=>by cases h.1) ?_)
   rintro⟨i,u⟩ hi ih
   simp only at hi
   repeat(refine .A ?_;conv=>whnf)
   refine J.g rfl rfl rfl (fun h1=> ?_) (fun h1=> ?_)
   ·have h1:i<m.cons.length:=by simpa[consPV]using h1
    repeat(refine .A ?_;conv=>whnf)
    refine T.cd rfl (fun h2=> ?_) (fun h2=> ?_)
    ·have h2:i<16:=by omega
     have hrow:(m.cons.map cC)[((i:Nat):Int).toNat]? =some (cC m.cons[i]):=by simp[h1]
     have hv:=b4 _ (List.getElem_mem h1)
     have htk:(m.cons.take (i+1)).map boundC=(m.cons.take i).map boundC++[boundC m.cons[i]]:=by rw[List.take_succ_eq_append_getElem h1,List.map_append];rfl
     have hln:((m.cons.take i).map boundC).length≤16:=by simp;omega
     have ih1:=fun u'=>ih (i+1,u') (by show _≤min _ _;omega) (by show _-_<_-_;omega)
     simp only[htk]at ih1
     generalize (m.cons.take i).map boundC=out at*
     generalize m.cons[i]=c at*
     obtain⟨kind,vars,coefs,op,rhs,rows,b⟩:=c
     simp only at hv
     repeat(refine .A ?_;conv=>whnf)
     refine .I (r:=cC ⟨kind,vars,coefs,op,rhs,rows,b⟩) hrow ?_
     repeat(refine .A ?_;conv=>whnf)
     refine J.al rfl rfl rfl rfl rfl rfl rfl ?_
     refine J.w rfl rfl rfl rfl rfl rfl rfl rfl rfl rfl ?_
     repeat(refine .N ?_;conv=>whnf)
     refine J.s1 (enc:=cI) (l:=vars) (min vars.length 14) rfl rfl rfl rfl rfl rfl rfl rfl rfl (fun _=>rfl) (by simp;omega) (by omega) ?_
     repeat(refine .N ?_;conv=>whnf)
     refine J.w rfl rfl rfl rfl rfl rfl rfl rfl rfl rfl ?_
     repeat(refine .N ?_;conv=>whnf)
     refine J.s1 (enc:=cI) (l:=coefs) (min coefs.length 14) rfl rfl rfl rfl rfl rfl rfl rfl rfl (fun _=>rfl) (by simp;omega) (by omega) ?_
     repeat(refine .N ?_;conv=>whnf)
     refine J.w rfl rfl rfl rfl rfl rfl rfl rfl rfl rfl ?_
     repeat(refine .N ?_;conv=>whnf)
     refine .O ?_
     refine J.H rfl ?_
     conv=>whnf
     refine J.nil ?_
     refine T.sub (Rel.wk (o:=5) rfl) ?_
     refine T.mid ⟨[(1,.fptr false (cM m)),(2,.optr 0 0 0 0),(3,.optr 1 0 0 0),(6,.val true (.int .i64 i)),(7,.optr 4 0 0 0),(8,.ref 5),(1001,.eq u1 2),(1002,.eq u 3)],[(0,some (.box true [.sl [],.sl [],.int .i64 0,.sl [],.sl []])),(1,some (.box false (bxM u1 u m.goal))),(2,some (.sl 58 2 false ((boundM m).vars.map cV))),(3,some (.sl 38 7 false (out.map cC))),(4,some (.box false (cC ⟨kind,vars.take (min vars.length 14),coefs.take (min coefs.length 14),op,rhs,rows,b⟩))),(5,some (.sl 24 1 false (((rows.take 20).map fun r=>r.take (min r.length 14)).map cL)))],6⟩ ?_ ?_
     ·repeat(refine .N ?_;conv=>whnf)
      refine T.K (T.ind (fun k:Nat=>⟨[(1,.fptr false (cM m)),(2,.optr 0 0 0 0),(3,.optr 1 0 0 0),(6,.val true (.int .i64 i)),(7,.optr 4 0 0 0),(8,.ref 5),(9,.val true (.int .i64 k)),(1001,.eq u1 2),(1002,.eq u 3)],[(0,some (.box true [.sl [],.sl [],.int .i64 0,.sl [],.sl []])),(1,some (.box false (bxM u1 u m.goal))),(2,some (.sl 58 2 false ((boundM m).vars.map cV))),(3,some (.sl 38 7 false (out.map cC))),(4,some (.box false (cC ⟨kind,vars.take (min vars.length 14),coefs.take (min coefs.length 14),op,rhs,rows,b⟩))),(5,some (.sl 24 1 false (((rows.take k).map fun r=>r.take (min r.length 14)).map cL)))],6⟩) (fun k=>k≤min rows.length 20) (fun k=>20-k) 0 (Nat.zero_le _) (fun _ _ h=>by cases h.1) ?_)
      rintro k hk ihk
      repeat(refine .A ?_;conv=>whnf)
      refine J.g rfl rfl rfl (fun h3=> ?_) (fun h3=> ?_)
      ·have h3:k<rows.length:=by simpa using h3
       repeat(refine .A ?_;conv=>whnf)
       refine T.cd rfl (fun h4=> ?_) (fun h4=> ?_)
       ·have h4:k<20:=by omega
        have hrk:(rows.map cL)[((k:Nat):Int).toNat]? =some (cL rows[k]):=by simp[h3]
        have hr8:=hv.2.2.2 _ (List.getElem_mem h3)
        have htkr:(rows.take (k+1)).map (fun r=>r.take (min r.length 14))=(rows.take k).map (fun r=>r.take (min r.length 14))++[rows[k].take (min rows[k].length 14)]:=by rw[List.take_succ_eq_append_getElem h3,List.map_append];rfl
        have hlr:((rows.take k).map fun r=>r.take (min r.length 14)).length≤20:=by simp;omega
        have ihk1:=ihk (k+1) (by omega) (by omega)
        rw[htkr]at ihk1
        generalize (rows.take k).map (fun r=>r.take (min r.length 14))=outr at*
        generalize rows[k]=r at*
        repeat(refine .N ?_;conv=>whnf)
        refine T.rdm 15 rfl (by kernel_rfl) rfl ?_
        repeat(refine .N ?_;conv=>whnf)
        refine .I (r:=cL r) hrk ?_
        repeat(refine .N ?_;conv=>whnf)
        refine .I (r:=cL r) hrk ?_
        repeat(refine .N ?_;conv=>whnf)
        refine J.s1 (enc:=cI) (l:=r) (min r.length 14) rfl rfl rfl rfl rfl rfl rfl rfl rfl (fun _=>rfl) (by simp;omega) (by omega) ?_
        repeat(refine .N ?_;conv=>whnf)
        refine .V ?_
        repeat(refine .N ?_;conv=>whnf)
        refine J.a1 (enc:=cL) (x:=r.take (min r.length 14)) (B:=24) rfl rfl rfl rfl rfl rfl rfl rfl rfl rfl rfl rfl rfl rfl rfl rfl rfl rfl rfl rfl (by omega) ?_
        repeat(refine .N ?_;conv=>whnf)
        rw[wrap1 (l:=rows.length) (n:=k) h3 (by omega)]
        exact T.K ihk1
       ·have e:k=20:=by omega
        subst e
        repeat(refine .A ?_;conv=>whnf)
        exact⟨rfl,[1,2,3,6,7,8,1001,1002],[2,3,1001,1002,7,8],rfl,rfl⟩
      ·have e:k=rows.length:=by simp at h3;omega
       have e2:rows.take 20=rows.take k:=by rw[e,List.take_of_length_le (Nat.le_refl _),List.take_of_length_le (by omega)]
       rw[e2]
       repeat(refine .A ?_;conv=>whnf)
       refine T.cf rfl ?_
       repeat(refine .A ?_;conv=>whnf)
       exact⟨rfl,[1,2,3,6,7,8,1001,1002],[2,3,1001,1002,7,8],rfl,rfl⟩
     ·refine T.sub (Rel.frz (s:=8) (fun _ h=>h) rfl rfl) ?_
      have hown:=own_spec ⟨kind,vars.take (min vars.length 14),coefs.take (min coefs.length 14),op,rhs,(rows.take 20).map fun r=>r.take (min r.length 14),b⟩ ⟨by simp;omega,by simp;omega,by simp;omega,fun x hx=>by
       obtain⟨y,_,rfl⟩:=List.mem_map.1 hx
       simp;omega⟩
      rw[show boundC ⟨kind,vars,coefs,op,rhs,rows,b⟩=⟨kind,vars.take (min vars.length 14),coefs.take (min coefs.length 14),op,rhs,(rows.take 20).map fun r=>r.take (min r.length 14),b⟩from rfl]at ih1
      generalize vars.take (min vars.length 14)=vars2 at*
      generalize coefs.take (min coefs.length 14)=coefs2 at*
      generalize (rows.take 20).map (fun r=>r.take (min r.length 14))=rows2 at*
      repeat(refine .N ?_;conv=>whnf)
      refine J.w rfl rfl rfl rfl rfl rfl rfl rfl rfl rfl ?_
      repeat(refine .N ?_;conv=>whnf)
      refine T.rdm 5 rfl (by kernel_rfl) rfl ?_
      refine J.H rfl ?_
      refine J.lr 1002 (q:=3) (u:=u) rfl rfl rfl rfl rfl rfl rfl rfl rfl ?_
      repeat(refine .N ?_;conv=>whnf)
      refine .C hown ?_
      repeat(refine .N ?_;conv=>whnf)
      refine .V ?_
      repeat(refine .N ?_;conv=>whnf)
      refine J.a1 (enc:=cC) (x:=⟨kind,vars2,coefs2,op,rhs,rows2,b⟩) (B:=104) rfl rfl rfl rfl rfl rfl rfl rfl rfl rfl rfl rfl rfl rfl rfl rfl rfl rfl rfl rfl (by omega) ?_
      repeat(refine .N ?_;conv=>whnf)
      refine J.name 1002 (s:=118) rfl rfl rfl fun u'=> ?_
      refine J.sub (Rel.raw (s:=118) (g:=1002) rfl (.inl rfl) rfl rfl rfl) ?_
      refine J.w rfl rfl rfl rfl rfl rfl rfl rfl rfl rfl ?_
      repeat(refine .N ?_;conv=>whnf)
      rw[wrap1 (l:=m.cons.length) (n:=i) h1 b3]
      exact T.K (ih1 u')
    ·have e:i=16:=by omega
     subst e
     repeat(refine .A ?_;conv=>whnf)
     exact⟨rfl,u,[1,2,3,1001,1002],[2,3,1001,1002],rfl,rfl⟩
   ·have e:i=m.cons.length:=by simp[consPV]at h1;omega
    subst e
    have e2:m.cons.take 16=m.cons:=List.take_of_length_le (by omega)
    rw[show(boundM m).cons=(m.cons.take 16).map boundC from rfl,e2,List.take_length]
    repeat(refine .A ?_;conv=>whnf)
    refine T.cf rfl ?_
    repeat(refine .A ?_;conv=>whnf)
    exact⟨rfl,u,[1,2,3,1001,1002],[2,3,1001,1002],rfl,rfl⟩
  ·repeat(refine .N ?_;conv=>whnf)
   refine .O ?_
   repeat(refine .N ?_;conv=>whnf)
   refine J.s1 (enc:=cI) (l:=m.goal.vars) (min m.goal.vars.length 14) rfl rfl rfl rfl rfl rfl rfl rfl rfl (fun _=>rfl) (by simp;omega) (by omega) ?_
   repeat(refine .N ?_;conv=>whnf)
   refine J.am (enc:=cI) (l:=([]:List Int)) (l2:=m.goal.vars.take (min m.goal.vars.length 14)) (B:=8) rfl rfl rfl rfl rfl rfl rfl rfl rfl rfl rfl rfl rfl rfl rfl rfl rfl (fun _=>rfl) rfl (by simp;omega) ?_
   refine J.sub (Rel.frz (s:=130) (fun _ h=>h) rfl rfl) ?_
   repeat(refine .N ?_;conv=>whnf)
   refine J.w rfl rfl rfl rfl rfl rfl rfl rfl rfl rfl ?_
   repeat(refine .N ?_;conv=>whnf)
   refine .O ?_
   repeat(refine .N ?_;conv=>whnf)
   refine J.s1 (enc:=cI) (l:=m.goal.coefs) (min m.goal.coefs.length 14) rfl rfl rfl rfl rfl rfl rfl rfl rfl (fun _=>rfl) (by simp;omega) (by omega) ?_
   repeat(refine .N ?_;conv=>whnf)
   refine J.am (enc:=cI) (l:=([]:List Int)) (l2:=m.goal.coefs.take (min m.goal.coefs.length 14)) (B:=8) rfl rfl rfl rfl rfl rfl rfl rfl rfl rfl rfl rfl rfl rfl rfl rfl rfl (fun _=>rfl) rfl (by simp;omega) ?_
   refine J.sub (Rel.frz (s:=143) (fun _ h=>h) rfl rfl) ?_
   repeat(refine .N ?_;conv=>whnf)
   refine J.w rfl rfl rfl rfl rfl rfl rfl rfl rfl rfl ?_
   refine J.sub (fun a w h=>Rel.meltB (i:=0) (qc:=1) (q:=2) (g:=1001) (fun _ h=>h) rfl rfl rfl rfl rfl h) ?_
   refine J.sub (fun a w h=>Rel.meltB (i:=1) (qc:=1) (q:=3) (g:=1002) (fun _ h=>h) rfl rfl rfl rfl rfl h) ?_
   repeat(refine .N ?_;conv=>whnf)
   refine J.w rfl rfl rfl rfl rfl rfl rfl rfl rfl rfl ?_
   repeat(refine .N ?_;conv=>whnf)
   exact⟨_,.c rfl rfl rfl rfl (fun h=>by cases h) .nil⟩
def okM (m:Mod)(most:Nat):Bool:=decide (checkR m=0)&&smallD (domsM m) most
structure RightM (m:Mod):Prop where
 b:ModB m
 good:GoodD (domsM m).length (domsM m)
 con: ∀c∈m.cons,ConB c
 right: ∀c∈m.cons,conR (domsM m) c=0
theorem check_dom {m:Mod}(h:checkR m=0):(∀i,i<m.vars.length→dmM m i≠[]∧chkR (dmM m i)=0)∧∀c∈m.cons,conR (domsM m) c=0:=by
 unfold checkR at h
 split at h
 ·cases h
 ·split at h
  ·rename_i h1;exact absurd h h1
  ·rename_i h1
   have h1:firstE ((List.range m.vars.length).map (varR m))=0:=Classical.byContradiction h1
   split at h
   ·rename_i h2;exact absurd h h2
   ·rename_i h2
    have h2:firstE (m.cons.map (conR (domsM m)))=0:=Classical.byContradiction h2
    refine⟨fun i hi=> ?_,fun c hc=>firstE_zero h2 _ (List.mem_map.2 ⟨c,hc,rfl⟩)⟩
    have h3:=firstE_zero h1 _ (List.mem_map.2 ⟨i,List.mem_range.2 hi,rfl⟩)
    unfold varR at h3
    split at h3
    ·cases h3
    ·split at h3
     ·cases h3
     ·split at h3
      ·cases h3
      ·rename_i h4
       exact⟨fun e=>h4 (.inl e),Classical.byContradiction fun e=>h4 (.inr e)⟩
theorem check_fine {m:Mod}(hb:ModB m)(h:checkR m=0):RightM m:=by
 obtain⟨h1,h2⟩:=check_dom h
 have hx: ∀x∈domsM m,x≠[]∧chkR x=0:=fun x hx=>by
  obtain⟨v,hv,rfl⟩:=List.mem_map.1 hx
  obtain⟨i,hi⟩:=List.getElem?_of_mem hv
  have hl:=(List.getElem?_eq_some_iff.1 hi).1
  have:=h1 i hl
  unfold dmM at this
  rw[List.getD_eq_getElem?_getD,hi]at this
  exact this
 refine⟨hb,⟨⟨by have:=hb.vl;simp[domsM];omega,fun x h=>(chkR_ok (hx x h).2).1,fun x h=>(chkR_ok (hx x h).2).2⟩,rfl,fun h=>(hx _ h).1 rfl⟩,fun c hc=> ?_,h2⟩
 obtain⟨c1,c2,c3,c4⟩:=hb.cb c hc
 exact⟨by omega,by omega,by omega,fun r hr=>by have:=c4 r hr;omega⟩
theorem lright_spec (m:Mod)(most:Nat)(hm:ModI m)(h1:1≤most∧most≤1048576):Spec Tryz.prog 10 true [.agg (cM m),.int .i64 most] [.val (.agg (cM (boundM m))),.val (.bool (okM (boundM m) most))]:=by
 refine Spec.body Tryz.func10 rfl rfl rfl fun w0 Z0=> ?_
 have hbs:=bound_spec m hm
 have hb:=bound_ok m
 have hck:=mcheck_spec _ hb
 have hds:=rdoms_spec _ hb
 have hri:=fun h=>check_fine hb h
 have hok:okM (boundM m) most=(decide (checkR (boundM m)=0)&&smallD (domsM (boundM m)) most):=rfl
 generalize okM (boundM m) most=ok at*
 generalize boundM m=b at*
 have hsm:=fun h=>rsmall_spec (domsM b) most h1 (hri h).good.few
 generalize domsM b=d at*
 generalize smallD d most=sm at*
 generalize checkR b=ck at*
 repeat(refine .A ?_;conv=>whnf)
 refine J.al rfl rfl rfl rfl rfl rfl rfl ?_
 repeat(refine .N ?_;conv=>whnf)
 refine .C hbs ?_
 repeat(refine .N ?_;conv=>whnf)
 refine J.w rfl rfl rfl rfl rfl rfl rfl rfl rfl rfl ?_
 repeat(refine .N ?_;conv=>whnf)
 refine T.K (?_:T _ _ ⟨[(1,.val false (.int .i64 most)),(2,.optr 0 0 0 0),(4,.optr 1 0 0 0),(5,.val true (.bool false))],[(0,some (.box false (cM b))),(1,some (.box true [.sl [],.sl [],.int .i64 0,.sl [],.sl []]))],2⟩ _)
 refine T.rdw 11 rfl (by kernel_rfl) rfl ?_
 repeat(refine .N ?_;conv=>whnf)
 refine .C hck ?_
 repeat(refine .N ?_;conv=>whnf)
 refine J.g rfl rfl rfl (fun h2=> ?_) (fun h2=> ?_)
 ·repeat(refine .N ?_;conv=>whnf)
  refine .C hds ?_
  repeat(refine .N ?_;conv=>whnf)
  refine .C (hsm h2) ?_
  repeat(refine .N ?_;conv=>whnf)
  refine J.wd rfl rfl rfl rfl rfl rfl rfl rfl rfl rfl ?_
  repeat(refine .N ?_;conv=>whnf)
  refine⟨by kernel_rfl,?_⟩
  repeat(refine .N ?_;conv=>whnf)
  rw[decide_eq_true h2,Bool.true_and]at hok
  subst hok
  exact⟨_,.c rfl rfl rfl rfl (fun h=>by cases h) (.v rfl rfl rfl (fun h=>by cases h) .nil)⟩
 ·repeat(refine .N ?_;conv=>whnf)
  refine J.wd rfl rfl rfl rfl rfl rfl rfl rfl rfl rfl ?_
  repeat(refine .N ?_;conv=>whnf)
  refine⟨by kernel_rfl,?_⟩
  repeat(refine .N ?_;conv=>whnf)
  have h2: ¬ck=0:=h2
  rw[decide_eq_false h2,Bool.false_and]at hok
  subst hok
  exact⟨_,.c rfl rfl rfl rfl (fun h=>by cases h) (.v rfl rfl rfl (fun h=>by cases h) .nil)⟩
theorem RightM.run {b:Mod}(h:RightM b)(hp:prodD (domsM b)≤1048576):RunOk (domsM b) b.cons:=⟨h.good,fun c hc=>⟨(h.b.cb c hc).1,h.con c hc⟩,h.right,hp,by have:=h.b.cl;omega⟩
theorem dm_at (b:Mod)(i:Nat)(hi:i<b.vars.length):dmM b i=(domsM b).getD i []:=by
 unfold dmM domsM
 rw[List.getD_eq_getElem?_getD,List.getD_eq_getElem?_getD,List.getElem?_map,List.getElem?_eq_getElem hi];rfl
theorem solves_iff {b:Mod}{a:List Int}:solvesR b a=true↔a.length=(domsM b).length∧(∀i,i<(domsM b).length→a.getD i 0∈vals ((domsM b).getD i []))∧∀c∈b.cons,holdsR c a=true:=by
 have hn:(domsM b).length=b.vars.length:=by simp[domsM]
 unfold solvesR
 rw[Bool.and_eq_true,Bool.and_eq_true,decide_eq_true_eq,List.all_eq_true,List.all_eq_true,hn]
 refine⟨fun⟨h1,h2,h3⟩=>⟨h1,fun i hi=> ?_,h3⟩,fun⟨h1,h2,h3⟩=>⟨h1,fun i hi=> ?_,h3⟩⟩
 ·have:=h2 i (List.mem_range.2 (by omega))
  rw[decide_eq_true_eq,dm_at b i hi]at this
  exact this
 ·have hi:=List.mem_range.1 hi
  rw[decide_eq_true_eq,dm_at b i (by omega)]
  exact h2 i (by omega)
theorem run_keeps {b:Mod}(h:RunOk (domsM b) b.cons){a:List Int}(hs:solvesR b a=true): ∃out,allO b.cons (domsM b)=some out∧keepsR out a=true:=by
 obtain⟨h1,h2,h3⟩:=solves_iff.1 hs
 obtain⟨g1,g2,g3⟩:=pdom_ok h.gd h1 h2
 obtain⟨out,ho,hle⟩:=h.ends.keeps g1 g2 ((stays_holds h g1 g2 h1 g3).2 h3)
 have he:=h.ends
 rw[ho]at he
 exact⟨out,ho,keeps_pdom (he.1.less.1) h1 hle g3⟩
theorem run_out {d:Doms}{cons:List Con}(h:RunOk d cons){out:Doms}(ho:allO cons d=some out):GoodD d.length out∧leD out d∧Stays oneO cons out∧RunOk out cons∧allO cons out=some out:=by
 have he:=h.ends
 rw[ho]at he
 obtain⟨hc,hs⟩:=he
 have hr:=h.less hc.fine hc.less
 refine⟨hc.fine,hc.less,hs,hr,?_⟩
 refine(allO_eq (R:=some out) ?_).symm
 exact⟨Come.refl (orderD _) hr.gd,hs⟩
theorem run_solved {b:Mod}(h:RunOk (domsM b) b.cons){out:Doms}(ho:allO b.cons (domsM b)=some out){s:List Int}(hs:solvedO out=some s):solvesR b s=true:=by
 obtain⟨g1,g2,g3,_,_⟩:=run_out h ho
 obtain⟨h1,h2⟩:=solved_at g1 hs
 refine solves_iff.2 ⟨h1,fun i hi=> ?_,(stays_holds h g1 g2 h1 h2).1 g3⟩
 have:=g2.2 (i:Int) (atR s i) (by omega) (by rw[h2 i (by omega) (by omega)];simp)
 unfold domAt atR at this
 rw[if_neg (by omega),Int.toNat_natCast]at this
 exact this
theorem doms_same {d:Doms}(fd:FewD d):Spec Tryz.prog 15 false [doms d,doms d] [.val (.bool true)]:=by
 have:=sames_spec d d (by have:=fd.small;omega) fun x h=>by have:=(fd.fine x h).len;omega
 rwa[decide_eq_true rfl]at this
theorem ok_right {m:Mod}{most:Nat}(hb:ModB m)(h:okM m most=true)(h1:1≤most):RightM m∧prodD (domsM m)≤most:=by
 unfold okM at h
 rw[Bool.and_eq_true,decide_eq_true_eq]at h
 exact⟨check_fine hb h.1,smallD_ok h.2 h1⟩
theorem law_fsound (m:Mod)(a:List Int)(hm:ModI m)(ha:a.length*8≤140737488355328):Spec Tryz.prog 5 true [.agg (cM m),ints a] [.val (.bool true)]:=by
 refine Spec.body Tryz.func5 rfl rfl rfl fun w0 Z0=> ?_
 have hrs:=lright_spec m 500 hm (by omega)
 have hb:=bound_ok m
 have hright:=fun h=>ok_right (most:=500) hb h (by omega)
 have hds:=rdoms_spec _ hb
 generalize okM (boundM m) 500=ok at*
 generalize boundM m=b at*
 repeat(refine .A ?_;conv=>whnf)
 refine .C hrs ?_
 repeat(refine .A ?_;conv=>whnf)
 refine J.w rfl rfl rfl rfl rfl rfl rfl rfl rfl rfl ?_
 repeat(refine .A ?_;conv=>whnf)
 cases ok with
 |false=>
  refine T.ct rfl ?_
  repeat(refine .A ?_;conv=>whnf)
  refine .C vfixed_spec ?_
  repeat(refine .A ?_;conv=>whnf)
  exact⟨_,.v rfl rfl rfl (fun h=>by cases h) .nil⟩
 |true=>
  obtain⟨hR,hp⟩:=hright rfl
  have hrun:=hR.run (by omega)
  have hcl:=hR.b.cl
  have hsame:=doms_same hrun.gd.few
  have hfa:=(alls_spec hrun hrun.gd.fx leD.rfl').1
  have hkeep:=fun a=>run_keeps (a:=a) hrun
  have hout:=fun out=>run_out (out:=out) hrun
  refine T.cf rfl ?_
  have hso:=solves_spec b a hR.b hrun.gd.few hR.right ha
  have hsolve:=fun out s=>run_solved (out:=out) (s:=s) hrun
  have hso2:=fun s=>solves_spec b s hR.b hrun.gd.few hR.right
  have hkp:=hkeep a
  generalize solvesR b a=sv at*
  generalize domsM b=d at*
  repeat(refine .A ?_;conv=>whnf)
  refine .C hds.frz ?_
  repeat(refine .A ?_;conv=>whnf)
  refine .C hfa.frz ?_
  repeat(refine .A ?_;conv=>whnf)
  refine .C hso ?_
  repeat(refine .A ?_;conv=>whnf)
  cases hR2:allO b.cons d with
  |none=>
   have:sv=false:=by
    cases sv with
    |false=>rfl
    |true=>obtain⟨out,h,_⟩:=hkp rfl;rw[hR2]at h;cases h
   subst this
   repeat(refine .A ?_;conv=>whnf)
   refine T.cf rfl ?_
   repeat(refine .A ?_;conv=>whnf)
   refine T.ct rfl ?_
   repeat(refine .A ?_;conv=>whnf)
   refine .C vfixed_spec ?_
   repeat(refine .A ?_;conv=>whnf)
   exact⟨_,.v rfl rfl rfl (fun h=>by cases h) .nil⟩
  |some out=>
   obtain⟨go,hle,hst,hro,hag⟩:=hout out hR2
   have hfb:=(alls_spec hro hro.gd.fx leD.rfl').1
   rw[hag]at hfb
   have hkk:=keeps_spec out a go.few ha
   have hss:=doms_same go.few
   have hsd:=fsolved_spec out go.few.small go.few.fine
   have hsv:=hsolve out
   have hkt:sv=true→keepsR out a=true:=fun h=>by obtain⟨o,h1,h2⟩:=hkp h;rw[hR2]at h1;cases h1;exact h2
   cases sv
   case' true=>
    rw[hkt rfl]at hkk
    repeat(refine .A ?_;conv=>whnf)
    refine .C hkk ?_
   all_goals
    repeat(refine .A ?_;conv=>whnf)
    refine T.cf rfl ?_
    repeat(refine .A ?_;conv=>whnf)
    refine T.cf rfl ?_
    repeat(refine .A ?_;conv=>whnf)
    refine .C hfb.frz ?_
    repeat(refine .A ?_;conv=>whnf)
    refine .C hsd.frz ?_
    repeat(refine .A ?_;conv=>whnf)
    refine .C hss ?_
    repeat(refine .A ?_;conv=>whnf)
    cases hk:solvedO out with
    |none=>
     repeat(refine .A ?_;conv=>whnf)
     refine .C vfixed_spec ?_
     repeat(refine .A ?_;conv=>whnf)
     exact⟨_,.v rfl rfl rfl (fun h=>by cases h) .nil⟩
    |some s=>
     have hq:=hso2 s (by have:=(solved_at go hk).1;have:=hrun.gd.few.small;omega)
     rw[hsv s hR2 hk]at hq
     repeat(refine .A ?_;conv=>whnf)
     refine .C hq ?_
     repeat(refine .A ?_;conv=>whnf)
     refine .C vfixed_spec ?_
     repeat(refine .A ?_;conv=>whnf)
     exact⟨_,.v rfl rfl rfl (fun h=>by cases h) .nil⟩
end Go.Proofs.YtlcobmehnaeebaaGreat
namespace Go.Proofs.YtlcobmehnaeebaaGreat
open Go Go.RowKit
set_option linter.unusedVariables false
set_option maxRecDepth 100000
section
variable {H:Type}{henc:TypeId×Value→H}{w:World}
theorem opens_I:Opens henc Tryz.prog w 3 cI (fun n=> -9223372036854775808≤n∧n≤9223372036854775807):=opens_int (by kernel_rfl)
theorem opens_IL:Opens henc Tryz.prog w 24 (fun l=>[ints l]) (fun l=>l.length*8≤reachBytes):=
 (opens_slice (t:=24) (e:=3) (by kernel_rfl) opens_I (fun _=>by kernel_rfl) (by decide +kernel) (fun a p hp=>by simp[cI]at hp;subst hp;rfl)).map id (fun _=>rfl) fun l h=>h.1
theorem opens_LL:Opens henc Tryz.prog w 36 (fun l=>[lists l]) (fun l=>l.length*24≤reachBytes∧∀x∈l,x.length*8≤reachBytes):=
 (opens_slice (t:=36) (e:=24) (by kernel_rfl) opens_IL (fun _=>by kernel_rfl) (by decide +kernel) (fun a p hp=>by simp at hp;subst hp;rfl)).map id (fun _=>rfl) fun l h=>h
theorem opens_con:Opens henc Tryz.prog w 38 cC ConB:=by
 have h:=opens_struct (henc:=henc) (w:=w) Tryz.underlying38 (opensL_cons opens_I rfl (opensL_cons opens_IL (by kernel_rfl) (opensL_cons opens_IL (by kernel_rfl) (opensL_cons opens_I (by kernel_rfl) (opensL_cons opens_I (by kernel_rfl) (opensL_cons opens_LL (by kernel_rfl) (opensL_cons opens_I (by kernel_rfl) (opensL_nil _)))))))) (by kernel_rfl)
 refine h.map (fun x=>(⟨x.1,x.2.1,x.2.2.1,x.2.2.2.1,x.2.2.2.2.1,x.2.2.2.2.2.1,x.2.2.2.2.2.2.1⟩:Con)) (fun _=>rfl) fun x h=> ?_
 obtain⟨_,h1,h2,_,_,h3,_⟩:=h
 have e:reachBytes=140737488351232:=rfl
 rw[e]at h1 h2 h3
 exact⟨by simp only;omega,by simp only;omega,by simp only;omega,fun y hy=>by have:=h3.2 y hy;omega⟩
end
end Go.Proofs.YtlcobmehnaeebaaGreat
namespace Go.Proofs.YtlcobmehnaeebaaGreat
open Go Go.RowKit
set_option linter.unusedVariables false
set_option maxRecDepth 100000
section
variable {H:Type}{henc:TypeId×Value→H}{w:World}
theorem opens_S:Opens henc Tryz.prog w 9 (fun s:ByteArray=>[.str s]) (fun _=>True):=by
 intro fuel cs x h _ _
 obtain⟨s,rfl,_,_⟩:=DataW.trod_string (show Tryz.prog.underlying 9=some .string by kernel_rfl) h
 exact⟨s,.cons (.str _) .nil,trivial⟩
theorem opens_range:Opens henc Tryz.prog w 47 cR (fun _=>True):=by
 have h:=opens_struct (henc:=henc) (w:=w) Tryz.underlying47 (opensL_cons opens_I rfl (opensL_cons opens_I (by kernel_rfl) (opensL_nil _))) (by kernel_rfl)
 exact h.map (fun x=>(x.1,x.2.1)) (fun _=>rfl) fun _ _=>trivial
theorem opens_D:Opens henc Tryz.prog w 45 (fun l=>[dm l]) (fun l=>l.length*16≤reachBytes):=
 (opens_slice (t:=45) (e:=47) (by kernel_rfl) opens_range (fun _=>by kernel_rfl) (by decide +kernel) (fun a p hp=>by simp[cR]at hp;rcases hp with rfl|rfl<;>rfl)).map id (fun _=>rfl) fun l h=>h.1
theorem opens_var:Opens henc Tryz.prog w 58 cV (fun v=>v.2.length*16≤reachBytes):=by
 have h:=opens_struct (henc:=henc) (w:=w) Tryz.underlying58 (opensL_cons opens_S rfl (opensL_cons opens_D (by kernel_rfl) (opensL_nil _))) (by kernel_rfl)
 exact h.map (fun x=>(x.1,x.2.1)) (fun _=>rfl) fun x h=>h.2.1
theorem opens_vars:Opens henc Tryz.prog w 22 (fun l:List (ByteArray×List (Int×Int))=>[.sl (l.map cV)]) (fun l=>l.length*40≤reachBytes∧∀v∈l,v.2.length*16≤reachBytes):=
 (opens_slice (t:=22) (e:=58) (by kernel_rfl) opens_var (fun _=>by kernel_rfl) (by decide +kernel) (fun a p hp=>by simp[cV]at hp;rcases hp with rfl|rfl<;>rfl)).map id (fun _=>rfl) fun l h=>h
theorem opens_conI:Opens henc Tryz.prog w 38 cC (fun c=>c.vars.length*8≤140737488355328∧c.coefs.length*8≤140737488355328∧c.rows.length*8≤140737488355328∧∀r∈c.rows,r.length*8≤140737488355328):=
 opens_con.map id (fun _=>rfl) fun c h=>by obtain⟨h1,h2,h3,h4⟩:=h;exact⟨by simp only[id];omega,h2,by simp only[id];omega,h4⟩
theorem opens_cons:Opens henc Tryz.prog w 23 (fun l=>[consPV l]) (fun l=>l.length*104≤reachBytes∧∀c∈l,c.vars.length*8≤140737488355328∧c.coefs.length*8≤140737488355328∧c.rows.length*8≤140737488355328∧∀r∈c.rows,r.length*8≤140737488355328):=
 (opens_slice (t:=23) (e:=38) (by kernel_rfl) opens_conI (fun _=>by kernel_rfl) (by decide +kernel) (fun a p hp=>by simp[cC]at hp;rcases hp with rfl|rfl|rfl|rfl|rfl|rfl|rfl<;>rfl)).map id (fun _=>rfl) fun l h=>h
theorem opens_goal:Opens henc Tryz.prog w 26 cG (fun g=>g.vars.length*8≤reachBytes∧g.coefs.length*8≤reachBytes):=by
 have h:=opens_struct (henc:=henc) (w:=w) Tryz.underlying26 (opensL_cons opens_I rfl (opensL_cons opens_IL (by kernel_rfl) (opensL_cons opens_IL (by kernel_rfl) (opensL_nil _)))) (by kernel_rfl)
 exact h.map (fun x=>(⟨x.1,x.2.1,x.2.2.1⟩:Goal)) (fun _=>rfl) fun x h=>⟨h.2.1,h.2.2.1⟩
theorem opens_mod:Opens henc Tryz.prog w 28 cM ModI:=by
 have h:=opens_struct (henc:=henc) (w:=w) Tryz.underlying28 (opensL_cons opens_vars rfl (opensL_cons opens_cons (by kernel_rfl) (opensL_cons opens_goal (by kernel_rfl) (opensL_nil _)))) (by kernel_rfl)
 refine h.map (fun x=>(⟨x.1,x.2.1,x.2.2.1⟩:Mod)) (fun _=>by simp[cM,cG]) fun x h=> ?_
 obtain⟨⟨h1,h2⟩,⟨h3,h4⟩,⟨h5,h6⟩,_⟩:=h
 have e:reachBytes=140737488351232:=rfl
 rw[e]at h1 h3 h5 h6
 exact⟨fun v hv=>by have:=h2 v hv;rw[e]at this;omega,by simp only;omega,by simp only;omega,h4,by simp only;omega⟩
theorem mod_one (m:Mod): ∀p∈cM m,p.one=true:=by
 intro p hp
 simp[cM,consPV]at hp
 rcases hp with rfl|rfl|rfl|rfl|rfl<;>rfl
end
end Go.Proofs.YtlcobmehnaeebaaGreat
namespace Go.Proofs.YtlcobmehnaeebaaGreat.fixSound
open Go.ChangeShapes Go.WideShapes Go.ChangeAt Go.RowKit
theorem own:ownKnob Tryz.prog.godebug=none:=by kernel_rfl
theorem laidOut:laidOutB Tryz.prog=true:=by kernel_rfl
set_option maxRecDepth 100000 in
theorem lifted (os:Os)(started:os.Started)(H:Type)(enc:TypeId×Value→H):
  ReturnsInHanded {} Tryz.checked os 5 .any (Rows.fixSoundSpec.pre6 enc Tryz.prog Tryz.f5 Rows.fixSoundRow.domain false) (Rows.fixSoundSpec.post enc Tryz.prog Tryz.f5 false true false false):=by
 refine returnsInHanded_of_change_sized (C:=Tryz.checked) own started (by kernel_rfl) Tryz.func5
  (ChangeSpec.witness6 (enc:=enc) (C:=Tryz.checked) false ⟨#[],#[.agg #[.slice none 0 0,.slice none 0 0,.int .i64 0,.slice none 0 0,.slice none 0 0],.slice none 0 0],[]⟩ 8 (by kernel_rfl) (by kernel_rfl) (by kernel_rfl) (by kernel_rfl)) ?_
 intro W base args ds gs before hval0 hW hcnd hsz0 _
 have hsz:(DataW.weightsEach Tryz.prog (Tryz.f5.params.toList++Rows.fixSoundSpec.plain.varTypes Tryz.prog) (ds++gs)).all (· ≤reachBytes)=true:=hsz0
 have hval: ∀(j:Nat) t v,Tryz.f5.params[j]? =some t→args[j]? =some v→Value.okWide Tryz.prog W .any base t v:=hval0
 have hW':=hW
 obtain⟨p,q,hA0,hV,rfl,hfz,hnd⟩:=hW
 have hA:DataW.TrodAll enc Tryz.prog W 0 (fun _=>true) true Tryz.f5.params.toList args.toList ds p:=hA0
 rw[Tryz.params5]at hA hval hsz
 obtain⟨v0,vs0,d0,ds0,p0,q0,hargs,rfl,rfl,h0,r0⟩:=trodAll_cons hA
 obtain⟨v1,vs1,d1,ds1,p1,q1,rfl,rfl,rfl,h1,r1⟩:=trodAll_cons r0
 obtain⟨rfl,rfl,rfl⟩:=trodAll_nil r1
 obtain rfl:args= #[v0,v1]:=by cases args;simp_all
 obtain⟨rfl,rfl⟩:=trodVars_none hV
 have hv0:=hval 0 28 v0 rfl rfl
 obtain⟨cs0,rfl,_,_⟩: ∃cs,v0= .agg cs∧cs.size=Tryz.prog.cellsOf 28∧Row.okWide Tryz.prog W .any base 28 cs:=by
  unfold Value.okWide at hv0
  rw[Tryz.underlying28]at hv0
  exact hv0
 have k0:=h0
 have lt0: ∀x∈p0,x.block<W.heap.size:=by obtain⟨m,hm⟩:=k0;exact DataW.trod_lt m _ _ _ hm
 obtain⟨fuel0,hf0⟩:=h0
 obtain⟨sa1,sn1,sc1,rfl,_⟩:=okWide_slice Tryz.underlying24 (hval 1 24 v1 rfl rfl)
 have k1:=h1
 have lt1: ∀x∈p1,x.block<W.heap.size:=by obtain⟨m,hm⟩:=k1;exact DataW.trod_lt m _ _ _ hm
 obtain⟨fuel1,hf1⟩:=h1
 have hw:(DataW.weightsEach Tryz.prog (28::24::Rows.fixSoundSpec.plain.varTypes Tryz.prog) (d0::d1::[])).all (· ≤reachBytes)=true:=hsz
 rw[DataW.weightsEach,List.all_append,Bool.and_eq_true]at hw
 obtain⟨hw0,hw⟩:=hw
 rw[DataW.weightsEach,List.all_append,Bool.and_eq_true]at hw
 obtain⟨hw1,hw⟩:=hw
 obtain⟨m,hrep0,hm⟩:=opens_mod fuel0 _ (d0,p0) hf0 hw0 (nf hfz fun p hp=>by simp[hp])
 obtain⟨a,hrep1,ha⟩:=opens_IL fuel1 _ (d1,p1) hf1 hw1 (nf hfz fun p hp=>by simp[hp])
 have ha:a.length*8≤140737488355328:=by have e:reachBytes=140737488351232:=rfl;have:a.length*8≤reachBytes:=ha;omega
 clear hA0 hval0 hsz0 hsz hw
 have hcs0:(Value.agg cs0).cells.toList=cs0.toList:=rfl
 rw[hcs0]at hrep0
 have harg0:Rep W (fun _=>True) (.agg cs0) (.agg (cM m)):=by
  have:=Rep.agg (w:=W) (Z:=fun _=>True) cs0.toList (cM m) hrep0 (mod_one m)
  simpa using this
 have harg1:Rep W (fun _=>True) (.slice sa1 sn1 sc1) (ints a):=by
  have h:L2 (Rep W fun _=>True) [.slice sa1 sn1 sc1] [ints a]:=hrep1
  cases h with
  |cons h1 _=>exact h1
 refine((law_fsound m a hm (by omega)).out W (fun _=>True) [.agg cs0,.slice sa1 sn1 sc1] (.cons harg0 (.cons harg1 .nil))).mono fun e W' ⟨rs,he,bel,hret⟩=> ?_
 have hrs:rs=[.bool true]:=by
  have h:=hret.each
  cases h with
  |cons h1 h2=>cases h2;cases h1;rfl
 subst hrs
 subst he
 exact⟨_,rfl,_,_,_,[],_,[],hW',trodAll_mk1 (shut_bool Tryz.underlying4 _),trodAll_cons_mk (Below.trod laidOut (by kernel_rfl) (of_decide_eq_true (by kernel_rfl)) k0 bel lt0) (trodAll_cons_mk (Below.trod laidOut (by kernel_rfl) (of_decide_eq_true (by kernel_rfl)) k1 bel lt1) trodAll_mk0),rfl,bel.frame _,fun h=>by cases h⟩
theorem over:Rows.fixSoundRow.holds Tryz.pinned (OpenSpec.ofChange Rows.fixSoundSpec):=
 OpenClaim.holds_of_wide 5 Tryz.f5 rfl rfl rfl rfl rfl rfl rfl ⟨rfl,rfl,rfl,rfl,rfl⟩ rfl rfl rfl rfl rfl (by kernel_rfl) Tryz.func5 (by kernel_rfl)
  (of_decide_eq_true (by kernel_rfl)) (by unfold Func.isWrapper;first|(rw[if_pos (by decide +kernel)];kernel_rfl)|(rw[if_neg (by decide +kernel)];exact⟨rfl,rfl⟩))
  (fun os started H enc _=>lifted os started H enc)
theorem proved:Rows.FixSoundSaid:=over
#print axioms proved
end Go.Proofs.YtlcobmehnaeebaaGreat.fixSound
namespace Go.Proofs.YtlcobmehnaeebaaGreat
theorem fixSound_holds:Rows.FixSoundSaid:=fixSound.proved
end Go.Proofs.YtlcobmehnaeebaaGreat
