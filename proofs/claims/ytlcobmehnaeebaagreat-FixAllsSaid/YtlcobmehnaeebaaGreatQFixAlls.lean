/- The statement FixAlls: the law, and its row; ahead of it what it needs (FvV, FvW, PvJ, LwFOnes, LwFAlls, RowA, RowM, RowFAlls). -/
import Derived.Test.YtlcobmehnaeebaaGreatB9
import Derived.Test.YtlcobmehnaeebaaGreatRows
import Derived.WalkKit
import Derived.ProofKit
import Derived.OpenShut
import Derived.ShutString
import Derived.ChangeOld
import Derived.Below
import Derived.SizedLaws
namespace Go.Proofs.YtlcobmehnaeebaaGreat
open Go Go.RowKit
set_option linter.unusedVariables false
set_option linter.unusedSimpArgs false
set_option maxRecDepth 8000
def boundV (v:ByteArray×List (Int×Int)):ByteArray×List (Int×Int):=(v.1.extract 0 (min v.1.size 20),v.2.take (min v.2.length 12))
def boundC (c:Con):Con:=⟨c.kind,c.vars.take (min c.vars.length 14),c.coefs.take (min c.coefs.length 14),c.op,c.rhs,(c.rows.take 20).map fun r=>r.take (min r.length 14),c.b⟩
def boundM (m:Mod):Mod:=⟨(m.vars.take 10).map boundV,(m.cons.take 16).map boundC,⟨m.goal.kind,m.goal.vars.take (min m.goal.vars.length 14),m.goal.coefs.take (min m.goal.coefs.length 14)⟩⟩
structure ModI (m:Mod):Prop where
 vn: ∀v∈m.vars,v.2.length*8≤140737488355328
 vl:m.vars.length*8≤140737488355328
 cl:m.cons.length*8≤140737488355328
 cb: ∀c∈m.cons,c.vars.length*8≤140737488355328∧c.coefs.length*8≤140737488355328∧c.rows.length*8≤140737488355328∧∀r∈c.rows,r.length*8≤140737488355328
 gl:m.goal.vars.length*8≤140737488355328∧m.goal.coefs.length*8≤140737488355328
theorem bound_ok (m:Mod):ModB (boundM m):=by
 refine⟨by simp[boundM];omega,fun v hv=> ?_,by simp[boundM];omega,fun c hc=> ?_,by simp[boundM];omega⟩
 ·obtain⟨u,_,rfl⟩:=List.mem_map.1 hv
  simp[boundV,ByteArray.size_extract];omega
 ·obtain⟨u,_,rfl⟩:=List.mem_map.1 hc
  refine⟨by simp[boundC];omega,by simp[boundC];omega,by simp[boundC];omega,fun r hr=> ?_⟩
  obtain⟨q,_,rfl⟩:=List.mem_map.1 hr
  simp;omega
def bxM (u1 u2:Value)(g:Goal):List PV:=[.raw u1,.raw u2,.int .i64 g.kind,ints g.vars,ints g.coefs]
set_option maxHeartbeats 1000000 in
theorem bound_spec (m:Mod)(hm:ModI m):Spec Tryz.prog 25 true [.agg (cM m)] [.val (.agg (cM (boundM m)))]:=by
 refine Spec.body Tryz.func25 rfl rfl rfl fun w0 Z0=> ?_
 obtain⟨b1,b2,b3,b4,b5⟩:=hm
 repeat(refine .A ?_;conv=>whnf)
 refine J.al rfl rfl rfl rfl rfl rfl rfl ?_
 refine J.nil ?_
 refine T.seq ?_
 refine T.r ?_
 refine J.sub (Rel.unbx (s:=1) (fun _ h=>h) rfl rfl) ?_
 refine J.H rfl ?_
 conv=>whnf
 refine J.H rfl ?_
 conv=>whnf
 refine J.bz [.raw (.slice none 0 0),.raw (.slice none 0 0),.int .i64 0,.sl [],.sl []] rfl rfl rfl rfl rfl rfl rfl rfl (fun w Z=> .cons (.raw _ rfl) (.cons (.raw _ rfl) (.cons (.int _ _) (.cons .nilsl (.cons .nilsl .nil))))) (by simp[PV.one]) rfl rfl rfl ?_
 conv=>whnf
 refine J.al rfl rfl rfl rfl rfl rfl rfl ?_
 refine J.w rfl rfl rfl rfl rfl rfl rfl rfl rfl rfl ?_
 refine J.nil ?_
 refine T.nilO 1001 58 2 rfl ?_
 refine T.nilO 1002 38 7 rfl ?_
 refine T.sub (Rel.wk (o:=3) rfl) ?_
 refine T.sub (Rel.wk (o:=4) rfl) ?_
 refine T.mids (fun u:Value=>⟨[(1,.fptr false (cM m)),(2,.optr 0 0 0 0),(3,.optr 1 0 0 0),(1001,.eq u 2),(1002,.eq (.slice none 0 0) 3)],[(0,some (.box true [.sl [],.sl [],.int .i64 0,.sl [],.sl []])),(1,some (.box false (bxM u (.slice none 0 0) m.goal))),(2,some (.sl 58 2 false ((boundM m).vars.map cV))),(3,some (.sl 38 7 false []))],4⟩) ?_ fun u1=> ?_
 ·repeat(refine .N ?_;conv=>whnf)
  refine T.K (T.ind (fun s:Nat×Value=>⟨[(1,.fptr false (cM m)),(2,.optr 0 0 0 0),(3,.optr 1 0 0 0),(4,.val true (.int .i64 s.1)),(1001,.eq s.2 2),(1002,.eq (.slice none 0 0) 3)],[(0,some (.box true [.sl [],.sl [],.int .i64 0,.sl [],.sl []])),(1,some (.box false (bxM s.2 (.slice none 0 0) m.goal))),(2,some (.sl 58 2 false (((m.vars.take s.1).map boundV).map cV))),(3,some (.sl 38 7 false []))],4⟩) (fun s=>s.1≤min m.vars.length 10) (fun s=>10-s.1) (0,.slice none 0 0) (Nat.zero_le _) (fun _ _ h=>by cases h.1) ?_)
  rintro⟨i,u⟩ hi ih
  simp only at hi
  repeat(refine .A ?_;conv=>whnf)
  refine J.g rfl rfl rfl (fun h1=> ?_) (fun h1=> ?_)
  ·have h1:i<m.vars.length:=by simpa using h1
   repeat(refine .A ?_;conv=>whnf)
   refine T.cd rfl (fun h2=> ?_) (fun h2=> ?_)
   ·have h2:i<10:=by omega
    have hrow:(m.vars.map cV)[((i:Nat):Int).toNat]? =some (cV m.vars[i]):=by simp[h1]
    have hv:=b1 _ (List.getElem_mem h1)
    have htk:(m.vars.take (i+1)).map boundV=(m.vars.take i).map boundV++[boundV m.vars[i]]:=by rw[List.take_succ_eq_append_getElem h1,List.map_append];rfl
    have hln:((m.vars.take i).map boundV).length≤10:=by simp;omega
    have ih1:=fun u'=>ih (i+1,u') (by show _≤min _ _;omega) (by show _-_<_-_;omega)
    simp only[htk,List.map_append]at ih1
    generalize (m.vars.take i).map boundV=out at*
    generalize m.vars[i]=v at*
    obtain⟨nm,dd⟩:=v
    simp only at hv
    repeat(refine .A ?_;conv=>whnf)
    refine .I (r:=cV (nm,dd)) hrow ?_
    repeat(refine .A ?_;conv=>whnf)
    refine J.al rfl rfl rfl rfl rfl rfl rfl ?_
    refine J.w rfl rfl rfl rfl rfl rfl rfl rfl rfl rfl ?_
    repeat(refine .N ?_;conv=>whnf)
    refine T.rdw 22 rfl (by kernel_rfl) rfl ?_
    refine J.H rfl ?_
    refine J.lr 1001 (q:=2) (u:=u) rfl rfl rfl rfl rfl rfl rfl rfl rfl ?_
    repeat(refine .N ?_;conv=>whnf)
    refine J.ss (min nm.size 20) rfl rfl rfl rfl rfl rfl rfl (by simp;omega) (Nat.min_le_left _ _) ?_
    repeat(refine .N ?_;conv=>whnf)
    refine .O ?_
    repeat(refine .N ?_;conv=>whnf)
    refine J.s1 (enc:=cR) (l:=dd) (min dd.length 12) rfl rfl rfl rfl rfl rfl rfl rfl rfl (fun _=>rfl) (by simp;omega) (by omega) ?_
    refine J.adf (fun _ h=>h) rfl rfl rfl rfl rfl rfl rfl rfl rfl rfl rfl rfl rfl rfl rfl rfl rfl len_R (by show(0+List.length _)*16≤_;simp;omega) ?_
    repeat(refine .N ?_;conv=>whnf)
    refine .V ?_
    refine J.ad rfl rfl rfl rfl rfl rfl rfl rfl rfl rfl rfl rfl rfl rfl rfl rfl rfl rfl (one_len rfl) (by show(List.length _+1)*40≤_;simp;omega) ?_
    repeat(refine .N ?_;conv=>whnf)
    refine⟨by kernel_rfl,?_⟩
    refine J.name 1001 (s:=49) rfl rfl rfl fun u'=> ?_
    refine J.sub (Rel.raw (s:=49) (g:=1001) rfl (.inl rfl) rfl rfl rfl) ?_
    refine J.w rfl rfl rfl rfl rfl rfl rfl rfl rfl rfl ?_
    repeat(refine .A ?_;conv=>whnf)
    rw[wrap1 (l:=m.vars.length) (n:=i) h1 b2]
    exact T.K (ih1 u')
   ·have e:i=10:=by omega
    subst e
    repeat(refine .A ?_;conv=>whnf)
    exact⟨rfl,u,[1,2,3,1001,1002],[2,3,1001,1002],rfl,rfl⟩
  ·have e:i=m.vars.length:=by simp at h1;omega
   subst e
   have e2:m.vars.take 10=m.vars:=List.take_of_length_le (by omega)
   rw[show(boundM m).vars=(m.vars.take 10).map boundV from rfl,e2,List.take_length]
   repeat(refine .A ?_;conv=>whnf)
   refine T.cf rfl ?_
   repeat(refine .A ?_;conv=>whnf)
   exact⟨rfl,u,[1,2,3,1001,1002],[2,3,1001,1002],rfl,rfl⟩
 ·refine T.mids (fun u2:Value=>⟨[(1,.fptr false (cM m)),(2,.optr 0 0 0 0),(3,.optr 1 0 0 0),(1001,.eq u1 2),(1002,.eq u2 3)],[(0,some (.box true [.sl [],.sl [],.int .i64 0,.sl [],.sl []])),(1,some (.box false (bxM u1 u2 m.goal))),(2,some (.sl 58 2 false ((boundM m).vars.map cV))),(3,some (.sl 38 7 false ((boundM m).cons.map cC)))],4⟩) ?_ fun u2=> ?_
  ·repeat(refine .N ?_;conv=>whnf)
   refine T.K (T.ind (fun s:Nat×Value=>⟨[(1,.fptr false (cM m)),(2,.optr 0 0 0 0),(3,.optr 1 0 0 0),(6,.val true (.int .i64 s.1)),(1001,.eq u1 2),(1002,.eq s.2 3)],[(0,some (.box true [.sl [],.sl [],.int .i64 0,.sl [],.sl []])),(1,some (.box false (bxM u1 s.2 m.goal))),(2,some (.sl 58 2 false ((boundM m).vars.map cV))),(3,some (.sl 38 7 false (((m.cons.take s.1).map boundC).map cC)))],4⟩) (fun s=>s.1≤min m.cons.length 16) (fun s=>16-s.1) (0,.slice none 0 0) (Nat.zero_le _) (fun _ _ h=>by cases h.1) ?_)
   rintro⟨i,u⟩ hi ih
   simp only at hi
   repeat(refine .A ?_;conv=>whnf)
   refine J.g rfl rfl rfl (fun h1=> ?_) (fun h1=> ?_)
   ·have h1:i<m.cons.length:=by simpa[consPV]using h1
    repeat(refine .A ?_;conv=>whnf)
    refine T.cd rfl (fun h2=> ?_) (fun h2=> ?_)
    ·have h2:i<16:=by omega
     have hrow:(m.cons.map cC)[((i:Nat):Int).toNat]? =some (cC m.cons[i]):=by simp[h1]
     have hv:=b4 _ (List.getElem_mem h1)
     have htk:(m.cons.take (i+1)).map boundC=(m.cons.take i).map boundC++[boundC m.cons[i]]:=by rw[List.take_succ_eq_append_getElem h1,List.map_append];rfl
     have hln:((m.cons.take i).map boundC).length≤16:=by simp;omega
     have ih1:=fun u'=>ih (i+1,u') (by show _≤min _ _;omega) (by show _-_<_-_;omega)
     simp only[htk]at ih1
     generalize (m.cons.take i).map boundC=out at*
     generalize m.cons[i]=c at*
     obtain⟨kind,vars,coefs,op,rhs,rows,b⟩:=c
     simp only at hv
     repeat(refine .A ?_;conv=>whnf)
     refine .I (r:=cC ⟨kind,vars,coefs,op,rhs,rows,b⟩) hrow ?_
     repeat(refine .A ?_;conv=>whnf)
     refine J.al rfl rfl rfl rfl rfl rfl rfl ?_
     refine J.w rfl rfl rfl rfl rfl rfl rfl rfl rfl rfl ?_
     repeat(refine .N ?_;conv=>whnf)
     refine J.s1 (enc:=cI) (l:=vars) (min vars.length 14) rfl rfl rfl rfl rfl rfl rfl rfl rfl (fun _=>rfl) (by simp;omega) (by omega) ?_
     repeat(refine .N ?_;conv=>whnf)
     refine J.w rfl rfl rfl rfl rfl rfl rfl rfl rfl rfl ?_
     repeat(refine .N ?_;conv=>whnf)
     refine J.s1 (enc:=cI) (l:=coefs) (min coefs.length 14) rfl rfl rfl rfl rfl rfl rfl rfl rfl (fun _=>rfl) (by simp;omega) (by omega) ?_
     repeat(refine .N ?_;conv=>whnf)
     refine J.w rfl rfl rfl rfl rfl rfl rfl rfl rfl rfl ?_
     repeat(refine .N ?_;conv=>whnf)
     refine .O ?_
     refine J.H rfl ?_
     conv=>whnf
     refine J.nil ?_
     refine T.sub (Rel.wk (o:=5) rfl) ?_
     refine T.mid ⟨[(1,.fptr false (cM m)),(2,.optr 0 0 0 0),(3,.optr 1 0 0 0),(6,.val true (.int .i64 i)),(7,.optr 4 0 0 0),(8,.ref 5),(1001,.eq u1 2),(1002,.eq u 3)],[(0,some (.box true [.sl [],.sl [],.int .i64 0,.sl [],.sl []])),(1,some (.box false (bxM u1 u m.goal))),(2,some (.sl 58 2 false ((boundM m).vars.map cV))),(3,some (.sl 38 7 false (out.map cC))),(4,some (.box false (cC ⟨kind,vars.take (min vars.length 14),coefs.take (min coefs.length 14),op,rhs,rows,b⟩))),(5,some (.sl 24 1 false (((rows.take 20).map fun r=>r.take (min r.length 14)).map cL)))],6⟩ ?_ ?_
     ·repeat(refine .N ?_;conv=>whnf)
      refine T.K (T.ind (fun k:Nat=>⟨[(1,.fptr false (cM m)),(2,.optr 0 0 0 0),(3,.optr 1 0 0 0),(6,.val true (.int .i64 i)),(7,.optr 4 0 0 0),(8,.ref 5),(9,.val true (.int .i64 k)),(1001,.eq u1 2),(1002,.eq u 3)],[(0,some (.box true [.sl [],.sl [],.int .i64 0,.sl [],.sl []])),(1,some (.box false (bxM u1 u m.goal))),(2,some (.sl 58 2 false ((boundM m).vars.map cV))),(3,some (.sl 38 7 false (out.map cC))),(4,some (.box false (cC ⟨kind,vars.take (min vars.length 14),coefs.take (min coefs.length 14),op,rhs,rows,b⟩))),(5,some (.sl 24 1 false (((rows.take k).map fun r=>r.take (min r.length 14)).map cL)))],6⟩) (fun k=>k≤min rows.length 20) (fun k=>20-k) 0 (Nat.zero_le _) (fun _ _ h=>by cases h.1) ?_)
      rintro k hk ihk
      repeat(refine .A ?_;conv=>whnf)
      refine J.g rfl rfl rfl (fun h3=> ?_) (fun h3=> ?_)
      ·have h3:k<rows.length:=by simpa using h3
       repeat(refine .A ?_;conv=>whnf)
       refine T.cd rfl (fun h4=> ?_) (fun h4=> ?_)
       ·have h4:k<20:=by omega
        have hrk:(rows.map cL)[((k:Nat):Int).toNat]? =some (cL rows[k]):=by simp[h3]
        have hr8:=hv.2.2.2 _ (List.getElem_mem h3)
        have htkr:(rows.take (k+1)).map (fun r=>r.take (min r.length 14))=(rows.take k).map (fun r=>r.take (min r.length 14))++[rows[k].take (min rows[k].length 14)]:=by rw[List.take_succ_eq_append_getElem h3,List.map_append];rfl
        have hlr:((rows.take k).map fun r=>r.take (min r.length 14)).length≤20:=by simp;omega
        have ihk1:=ihk (k+1) (by omega) (by omega)
        rw[htkr]at ihk1
        generalize (rows.take k).map (fun r=>r.take (min r.length 14))=outr at*
        generalize rows[k]=r at*
        repeat(refine .N ?_;conv=>whnf)
        refine T.rdm 15 rfl (by kernel_rfl) rfl ?_
        repeat(refine .N ?_;conv=>whnf)
        refine .I (r:=cL r) hrk ?_
        repeat(refine .N ?_;conv=>whnf)
        refine .I (r:=cL r) hrk ?_
        repeat(refine .N ?_;conv=>whnf)
        refine J.s1 (enc:=cI) (l:=r) (min r.length 14) rfl rfl rfl rfl rfl rfl rfl rfl rfl (fun _=>rfl) (by simp;omega) (by omega) ?_
        repeat(refine .N ?_;conv=>whnf)
        refine .V ?_
        repeat(refine .N ?_;conv=>whnf)
        refine J.a1 (enc:=cL) (x:=r.take (min r.length 14)) (B:=24) rfl rfl rfl rfl rfl rfl rfl rfl rfl rfl rfl rfl rfl rfl rfl rfl rfl rfl rfl rfl (by omega) ?_
        repeat(refine .N ?_;conv=>whnf)
        rw[wrap1 (l:=rows.length) (n:=k) h3 (by omega)]
        exact T.K ihk1
       ·have e:k=20:=by omega
        subst e
        repeat(refine .A ?_;conv=>whnf)
        exact⟨rfl,[1,2,3,6,7,8,1001,1002],[2,3,1001,1002,7,8],rfl,rfl⟩
      ·have e:k=rows.length:=by simp at h3;omega
       have e2:rows.take 20=rows.take k:=by rw[e,List.take_of_length_le (Nat.le_refl _),List.take_of_length_le (by omega)]
       rw[e2]
       repeat(refine .A ?_;conv=>whnf)
       refine T.cf rfl ?_
       repeat(refine .A ?_;conv=>whnf)
       exact⟨rfl,[1,2,3,6,7,8,1001,1002],[2,3,1001,1002,7,8],rfl,rfl⟩
     ·refine T.sub (Rel.frz (s:=8) (fun _ h=>h) rfl rfl) ?_
      have hown:=own_spec ⟨kind,vars.take (min vars.length 14),coefs.take (min coefs.length 14),op,rhs,(rows.take 20).map fun r=>r.take (min r.length 14),b⟩ ⟨by simp;omega,by simp;omega,by simp;omega,fun x hx=>by
       obtain⟨y,_,rfl⟩:=List.mem_map.1 hx
       simp;omega⟩
      rw[show boundC ⟨kind,vars,coefs,op,rhs,rows,b⟩=⟨kind,vars.take (min vars.length 14),coefs.take (min coefs.length 14),op,rhs,(rows.take 20).map fun r=>r.take (min r.length 14),b⟩from rfl]at ih1
      generalize vars.take (min vars.length 14)=vars2 at*
      generalize coefs.take (min coefs.length 14)=coefs2 at*
      generalize (rows.take 20).map (fun r=>r.take (min r.length 14))=rows2 at*
      repeat(refine .N ?_;conv=>whnf)
      refine J.w rfl rfl rfl rfl rfl rfl rfl rfl rfl rfl ?_
      repeat(refine .N ?_;conv=>whnf)
      refine T.rdm 5 rfl (by kernel_rfl) rfl ?_
      refine J.H rfl ?_
      refine J.lr 1002 (q:=3) (u:=u) rfl rfl rfl rfl rfl rfl rfl rfl rfl ?_
      repeat(refine .N ?_;conv=>whnf)
      refine .C hown ?_
      repeat(refine .N ?_;conv=>whnf)
      refine .V ?_
      repeat(refine .N ?_;conv=>whnf)
      refine J.a1 (enc:=cC) (x:=⟨kind,vars2,coefs2,op,rhs,rows2,b⟩) (B:=104) rfl rfl rfl rfl rfl rfl rfl rfl rfl rfl rfl rfl rfl rfl rfl rfl rfl rfl rfl rfl (by omega) ?_
      repeat(refine .N ?_;conv=>whnf)
      refine J.name 1002 (s:=118) rfl rfl rfl fun u'=> ?_
      refine J.sub (Rel.raw (s:=118) (g:=1002) rfl (.inl rfl) rfl rfl rfl) ?_
      refine J.w rfl rfl rfl rfl rfl rfl rfl rfl rfl rfl ?_
      repeat(refine .N ?_;conv=>whnf)
      rw[wrap1 (l:=m.cons.length) (n:=i) h1 b3]
      exact T.K (ih1 u')
    ·have e:i=16:=by omega
     subst e
     repeat(refine .A ?_;conv=>whnf)
     exact⟨rfl,u,[1,2,3,1001,1002],[2,3,1001,1002],rfl,rfl⟩
   ·have e:i=m.cons.length:=by simp[consPV]at h1;omega
    subst e
    have e2:m.cons.take 16=m.cons:=List.take_of_length_le (by omega)
    rw[show(boundM m).cons=(m.cons.take 16).map boundC from rfl,e2,List.take_length]
    repeat(refine .A ?_;conv=>whnf)
    refine T.cf rfl ?_
    repeat(refine .A ?_;conv=>whnf)
    exact⟨rfl,u,[1,2,3,1001,1002],[2,3,1001,1002],rfl,rfl⟩
  ·repeat(refine .N ?_;conv=>whnf)
   refine .O ?_
   repeat(refine .N ?_;conv=>whnf)
   refine J.s1 (enc:=cI) (l:=m.goal.vars) (min m.goal.vars.length 14) rfl rfl rfl rfl rfl rfl rfl rfl rfl (fun _=>rfl) (by simp;omega) (by omega) ?_
   repeat(refine .N ?_;conv=>whnf)
   refine J.am (enc:=cI) (l:=([]:List Int)) (l2:=m.goal.vars.take (min m.goal.vars.length 14)) (B:=8) rfl rfl rfl rfl rfl rfl rfl rfl rfl rfl rfl rfl rfl rfl rfl rfl rfl (fun _=>rfl) rfl (by simp;omega) ?_
   refine J.sub (Rel.frz (s:=130) (fun _ h=>h) rfl rfl) ?_
   repeat(refine .N ?_;conv=>whnf)
   refine J.w rfl rfl rfl rfl rfl rfl rfl rfl rfl rfl ?_
   repeat(refine .N ?_;conv=>whnf)
   refine .O ?_
   repeat(refine .N ?_;conv=>whnf)
   refine J.s1 (enc:=cI) (l:=m.goal.coefs) (min m.goal.coefs.length 14) rfl rfl rfl rfl rfl rfl rfl rfl rfl (fun _=>rfl) (by simp;omega) (by omega) ?_
   repeat(refine .N ?_;conv=>whnf)
   refine J.am (enc:=cI) (l:=([]:List Int)) (l2:=m.goal.coefs.take (min m.goal.coefs.length 14)) (B:=8) rfl rfl rfl rfl rfl rfl rfl rfl rfl rfl rfl rfl rfl rfl rfl rfl rfl (fun _=>rfl) rfl (by simp;omega) ?_
   refine J.sub (Rel.frz (s:=143) (fun _ h=>h) rfl rfl) ?_
   repeat(refine .N ?_;conv=>whnf)
   refine J.w rfl rfl rfl rfl rfl rfl rfl rfl rfl rfl ?_
   refine J.sub (fun a w h=>Rel.meltB (i:=0) (qc:=1) (q:=2) (g:=1001) (fun _ h=>h) rfl rfl rfl rfl rfl h) ?_
   refine J.sub (fun a w h=>Rel.meltB (i:=1) (qc:=1) (q:=3) (g:=1002) (fun _ h=>h) rfl rfl rfl rfl rfl h) ?_
   repeat(refine .N ?_;conv=>whnf)
   refine J.w rfl rfl rfl rfl rfl rfl rfl rfl rfl rfl ?_
   repeat(refine .N ?_;conv=>whnf)
   exact⟨_,.c rfl rfl rfl rfl (fun h=>by cases h) .nil⟩
def okM (m:Mod)(most:Nat):Bool:=decide (checkR m=0)&&smallD (domsM m) most
structure RightM (m:Mod):Prop where
 b:ModB m
 good:GoodD (domsM m).length (domsM m)
 con: ∀c∈m.cons,ConB c
 right: ∀c∈m.cons,conR (domsM m) c=0
theorem check_dom {m:Mod}(h:checkR m=0):(∀i,i<m.vars.length→dmM m i≠[]∧chkR (dmM m i)=0)∧∀c∈m.cons,conR (domsM m) c=0:=by
 unfold checkR at h
 split at h
 ·cases h
 ·split at h
  ·rename_i h1;exact absurd h h1
  ·rename_i h1
   have h1:firstE ((List.range m.vars.length).map (varR m))=0:=Classical.byContradiction h1
   split at h
   ·rename_i h2;exact absurd h h2
   ·rename_i h2
    have h2:firstE (m.cons.map (conR (domsM m)))=0:=Classical.byContradiction h2
    refine⟨fun i hi=> ?_,fun c hc=>firstE_zero h2 _ (List.mem_map.2 ⟨c,hc,rfl⟩)⟩
    have h3:=firstE_zero h1 _ (List.mem_map.2 ⟨i,List.mem_range.2 hi,rfl⟩)
    unfold varR at h3
    split at h3
    ·cases h3
    ·split at h3
     ·cases h3
     ·split at h3
      ·cases h3
      ·rename_i h4
       exact⟨fun e=>h4 (.inl e),Classical.byContradiction fun e=>h4 (.inr e)⟩
theorem check_fine {m:Mod}(hb:ModB m)(h:checkR m=0):RightM m:=by
 obtain⟨h1,h2⟩:=check_dom h
 have hx: ∀x∈domsM m,x≠[]∧chkR x=0:=fun x hx=>by
  obtain⟨v,hv,rfl⟩:=List.mem_map.1 hx
  obtain⟨i,hi⟩:=List.getElem?_of_mem hv
  have hl:=(List.getElem?_eq_some_iff.1 hi).1
  have:=h1 i hl
  unfold dmM at this
  rw[List.getD_eq_getElem?_getD,hi]at this
  exact this
 refine⟨hb,⟨⟨by have:=hb.vl;simp[domsM];omega,fun x h=>(chkR_ok (hx x h).2).1,fun x h=>(chkR_ok (hx x h).2).2⟩,rfl,fun h=>(hx _ h).1 rfl⟩,fun c hc=> ?_,h2⟩
 obtain⟨c1,c2,c3,c4⟩:=hb.cb c hc
 exact⟨by omega,by omega,by omega,fun r hr=>by have:=c4 r hr;omega⟩
theorem lright_spec (m:Mod)(most:Nat)(hm:ModI m)(h1:1≤most∧most≤1048576):Spec Tryz.prog 10 true [.agg (cM m),.int .i64 most] [.val (.agg (cM (boundM m))),.val (.bool (okM (boundM m) most))]:=by
 refine Spec.body Tryz.func10 rfl rfl rfl fun w0 Z0=> ?_
 have hbs:=bound_spec m hm
 have hb:=bound_ok m
 have hck:=mcheck_spec _ hb
 have hds:=rdoms_spec _ hb
 have hri:=fun h=>check_fine hb h
 have hok:okM (boundM m) most=(decide (checkR (boundM m)=0)&&smallD (domsM (boundM m)) most):=rfl
 generalize okM (boundM m) most=ok at*
 generalize boundM m=b at*
 have hsm:=fun h=>rsmall_spec (domsM b) most h1 (hri h).good.few
 generalize domsM b=d at*
 generalize smallD d most=sm at*
 generalize checkR b=ck at*
 repeat(refine .A ?_;conv=>whnf)
 refine J.al rfl rfl rfl rfl rfl rfl rfl ?_
 repeat(refine .N ?_;conv=>whnf)
 refine .C hbs ?_
 repeat(refine .N ?_;conv=>whnf)
 refine J.w rfl rfl rfl rfl rfl rfl rfl rfl rfl rfl ?_
 repeat(refine .N ?_;conv=>whnf)
 refine T.K (?_:T _ _ ⟨[(1,.val false (.int .i64 most)),(2,.optr 0 0 0 0),(4,.optr 1 0 0 0),(5,.val true (.bool false))],[(0,some (.box false (cM b))),(1,some (.box true [.sl [],.sl [],.int .i64 0,.sl [],.sl []]))],2⟩ _)
 refine T.rdw 11 rfl (by kernel_rfl) rfl ?_
 repeat(refine .N ?_;conv=>whnf)
 refine .C hck ?_
 repeat(refine .N ?_;conv=>whnf)
 refine J.g rfl rfl rfl (fun h2=> ?_) (fun h2=> ?_)
 ·repeat(refine .N ?_;conv=>whnf)
  refine .C hds ?_
  repeat(refine .N ?_;conv=>whnf)
  refine .C (hsm h2) ?_
  repeat(refine .N ?_;conv=>whnf)
  refine J.wd rfl rfl rfl rfl rfl rfl rfl rfl rfl rfl ?_
  repeat(refine .N ?_;conv=>whnf)
  refine⟨by kernel_rfl,?_⟩
  repeat(refine .N ?_;conv=>whnf)
  rw[decide_eq_true h2,Bool.true_and]at hok
  subst hok
  exact⟨_,.c rfl rfl rfl rfl (fun h=>by cases h) (.v rfl rfl rfl (fun h=>by cases h) .nil)⟩
 ·repeat(refine .N ?_;conv=>whnf)
  refine J.wd rfl rfl rfl rfl rfl rfl rfl rfl rfl rfl ?_
  repeat(refine .N ?_;conv=>whnf)
  refine⟨by kernel_rfl,?_⟩
  repeat(refine .N ?_;conv=>whnf)
  have h2: ¬ck=0:=h2
  rw[decide_eq_false h2,Bool.false_and]at hok
  subst hok
  exact⟨_,.c rfl rfl rfl rfl (fun h=>by cases h) (.v rfl rfl rfl (fun h=>by cases h) .nil)⟩
theorem RightM.run {b:Mod}(h:RightM b)(hp:prodD (domsM b)≤1048576):RunOk (domsM b) b.cons:=⟨h.good,fun c hc=>⟨(h.b.cb c hc).1,h.con c hc⟩,h.right,hp,by have:=h.b.cl;omega⟩
theorem dm_at (b:Mod)(i:Nat)(hi:i<b.vars.length):dmM b i=(domsM b).getD i []:=by
 unfold dmM domsM
 rw[List.getD_eq_getElem?_getD,List.getD_eq_getElem?_getD,List.getElem?_map,List.getElem?_eq_getElem hi];rfl
theorem solves_iff {b:Mod}{a:List Int}:solvesR b a=true↔a.length=(domsM b).length∧(∀i,i<(domsM b).length→a.getD i 0∈vals ((domsM b).getD i []))∧∀c∈b.cons,holdsR c a=true:=by
 have hn:(domsM b).length=b.vars.length:=by simp[domsM]
 unfold solvesR
 rw[Bool.and_eq_true,Bool.and_eq_true,decide_eq_true_eq,List.all_eq_true,List.all_eq_true,hn]
 refine⟨fun⟨h1,h2,h3⟩=>⟨h1,fun i hi=> ?_,h3⟩,fun⟨h1,h2,h3⟩=>⟨h1,fun i hi=> ?_,h3⟩⟩
 ·have:=h2 i (List.mem_range.2 (by omega))
  rw[decide_eq_true_eq,dm_at b i hi]at this
  exact this
 ·have hi:=List.mem_range.1 hi
  rw[decide_eq_true_eq,dm_at b i (by omega)]
  exact h2 i (by omega)
theorem run_keeps {b:Mod}(h:RunOk (domsM b) b.cons){a:List Int}(hs:solvesR b a=true): ∃out,allO b.cons (domsM b)=some out∧keepsR out a=true:=by
 obtain⟨h1,h2,h3⟩:=solves_iff.1 hs
 obtain⟨g1,g2,g3⟩:=pdom_ok h.gd h1 h2
 obtain⟨out,ho,hle⟩:=h.ends.keeps g1 g2 ((stays_holds h g1 g2 h1 g3).2 h3)
 have he:=h.ends
 rw[ho]at he
 exact⟨out,ho,keeps_pdom (he.1.less.1) h1 hle g3⟩
theorem run_out {d:Doms}{cons:List Con}(h:RunOk d cons){out:Doms}(ho:allO cons d=some out):GoodD d.length out∧leD out d∧Stays oneO cons out∧RunOk out cons∧allO cons out=some out:=by
 have he:=h.ends
 rw[ho]at he
 obtain⟨hc,hs⟩:=he
 have hr:=h.less hc.fine hc.less
 refine⟨hc.fine,hc.less,hs,hr,?_⟩
 refine(allO_eq (R:=some out) ?_).symm
 exact⟨Come.refl (orderD _) hr.gd,hs⟩
theorem run_same {d:Doms}{cons l:List Con}(h:RunOk d cons)(hl: ∀c,c∈l↔c∈cons)(hf:l.length≤4096):allO l d=allO cons d:=
 Ends.one (orderD _) hl (h.sub (fun c hc=>(hl c).1 hc) hf).ends h.ends
theorem doms_same {d:Doms}(fd:FewD d):Spec Tryz.prog 15 false [doms d,doms d] [.val (.bool true)]:=by
 have:=sames_spec d d (by have:=fd.small;omega) fun x h=>by have:=(fd.fine x h).len;omega
 rwa[decide_eq_true rfl]at this
theorem ok_right {m:Mod}{most:Nat}(hb:ModB m)(h:okM m most=true)(h1:1≤most):RightM m∧prodD (domsM m)≤most:=by
 unfold okM at h
 rw[Bool.and_eq_true,decide_eq_true_eq]at h
 exact⟨check_fine hb h.1,smallD_ok h.2 h1⟩
theorem law_falls (m:Mod)(hm:ModI m):Spec Tryz.prog 4 true [.agg (cM m)] [.val (.bool true)]:=by
 refine Spec.body Tryz.func4 rfl rfl rfl fun w0 Z0=> ?_
 have hrs:=lright_spec m 500 hm (by omega)
 have hb:=bound_ok m
 have hright:=fun h=>ok_right (most:=500) hb h (by omega)
 have hds:=rdoms_spec _ hb
 generalize okM (boundM m) 500=ok at*
 generalize boundM m=b at*
 repeat(refine .A ?_;conv=>whnf)
 refine .C hrs ?_
 repeat(refine .A ?_;conv=>whnf)
 refine J.w rfl rfl rfl rfl rfl rfl rfl rfl rfl rfl ?_
 repeat(refine .A ?_;conv=>whnf)
 cases ok with
 |false=>
  refine T.ct rfl ?_
  repeat(refine .A ?_;conv=>whnf)
  refine .C vfixed_spec ?_
  repeat(refine .A ?_;conv=>whnf)
  exact⟨_,.v rfl rfl rfl (fun h=>by cases h) .nil⟩
 |true=>
  obtain⟨hR,hp⟩:=hright rfl
  have hrun:=hR.run (by omega)
  have hcl:=hR.b.cl
  have hsame:=doms_same hrun.gd.few
  have hfa:=(alls_spec hrun hrun.gd.fx leD.rfl').1
  have hkeep:=fun a=>run_keeps (a:=a) hrun
  have hout:=fun out=>run_out (out:=out) hrun
  refine T.cf rfl ?_
  have hra:=(alls_spec hrun hrun.gd.fx leD.rfl').2
  have hback:allO b.cons.reverse (domsM b)=allO b.cons (domsM b):=run_same hrun (fun c=>List.mem_reverse) (by simp;omega)
  have hfb:=(alls_spec (hrun.sub (l:=b.cons.reverse) (fun c hc=>List.mem_reverse.1 hc) (by simp;omega)) hrun.gd.fx leD.rfl').1
  rw[hback]at hfb
  have hgR:FewD ((allO b.cons (domsM b)).getD []):=by
   cases h:allO b.cons (domsM b)with
   |none=>exact⟨by simp,by simp,by simp⟩
   |some out=>exact(hout out h).1.few
  generalize domsM b=d at*
  have hfa:Spec Tryz.prog 16 false [doms d,consPV b.cons] [.val (doms ((allO b.cons d).getD [])),.val (.bool (allO b.cons d).isSome)]:=hfa.frz
  have hra:Spec Tryz.prog 17 false [doms d,consPV b.cons] [.val (doms ((allO b.cons d).getD [])),.val (.bool (allO b.cons d).isSome)]:=hra
  have hfb:Spec Tryz.prog 16 false [doms d,consPV b.cons.reverse] [.val (doms ((allO b.cons d).getD [])),.val (.bool (allO b.cons d).isSome)]:=hfb.frz
  generalize (allO b.cons d).isSome=x at*
  generalize (allO b.cons d).getD []=D at*
  have hss:=doms_same hgR
  have hRl:=hgR.small
  have hRx:=fun y hy=>(hgR.fine y hy).len
  have hsl:((solvedO D).getD []).length≤D.length:=by
   unfold solvedO;split<;>simp
  have hf1:Spec Tryz.prog 18 false [doms D] [.val (ints ((solvedO D).getD [])),.val (.bool (solvedO D).isSome)]:=(fsolved_spec D hgR.small hgR.fine).frz
  have hf2:Spec Tryz.prog 19 false [doms D] [.val (ints ((solvedO D).getD [])),.val (.bool (solvedO D).isSome)]:=(rsolved_spec D hgR.small hgR.fine).frz
  generalize (solvedO D).isSome=y at*
  generalize (solvedO D).getD []=S at*
  have hnn:=nums_spec S S (by omega)
  rw[decide_eq_true rfl]at hnn
  repeat(refine .A ?_;conv=>whnf)
  refine .C hds.frz ?_
  refine J.A ?_
  conv=>whnf
  refine T.sub (Rel.unbx (s:=1) (fun _ h=>h) rfl rfl) ?_
  refine T.sub (Rel.fp (s:=1) rfl) ?_
  refine T.canon (keep:=[1,4]) (os:=[]) rfl ?_
  refine T.snap [1,4] [] fun w1 vs hfx=> ?_
  have hfx1:=hfx 1 _ _ rfl
  have hfx4:=hfx 4 _ _ rfl
  clear hfx
  refine T.K (?_:T _ _ ⟨[(1,.fix (vs 1) (.ptr (cM b))),(4,.fix (vs 4) (doms d))],[],0⟩ _)
  repeat(refine .A ?_;conv=>whnf)
  refine .C hfa ?_
  repeat(refine .A ?_;conv=>whnf)
  refine .C hra ?_
  repeat(refine .A ?_;conv=>whnf)
  refine .C hf1 ?_
  repeat(refine .A ?_;conv=>whnf)
  refine .C hf2 ?_
  repeat(refine .A ?_;conv=>whnf)
  refine .O ?_
  repeat(refine .A ?_;conv=>whnf)
  have e0:IntKind.i64.wrap (((b.cons.map cC).length:Int)-1)=(b.cons.length:Int)-1-((0:Nat):Int):=by rw[List.length_map,wrap_id (by omega) (by omega)];simp
  rw[e0]
  refine T.sub (Rel.wk (o:=0) rfl) ?_
  refine T.K (T.ind (fun k:Nat=>⟨[(1,.fix (vs 1) (.ptr (cM b))),(4,.fix (vs 4) (doms d)),(5,.val true (doms D)),(6,.val true (.bool x)),(7,.val true (doms D)),(8,.val true (.bool x)),(9,.val true (ints S)),(10,.val true (.bool y)),(11,.val true (ints S)),(12,.val true (.bool y)),(13,.ref 0),(14,.val true (.int .i64 ((b.cons.length:Int)-1-(k:Int))))],[(0,some (.sl 38 7 false ((b.cons.reverse.take k).map cC)))],1⟩) (fun k=>k≤b.cons.length) (fun k=>b.cons.length-k) 0 (Nat.zero_le _) (fun _ _ h=>h) ?_)
  rintro k hk ih
  repeat(refine .A ?_;conv=>whnf)
  refine T.cd rfl (fun h1=> ?_) (fun h1=> ?_)
  ·have h1:k<b.cons.length:=by simp at h1;omega
   have hj:b.cons.length-1-k<b.cons.length:=by omega
   have hrow:(b.cons.map cC)[((b.cons.length:Int)-1-(k:Int)).toNat]? =some (cC b.cons[b.cons.length-1-k]):=by
    rw[show((b.cons.length:Int)-1-(k:Int)).toNat=b.cons.length-1-k by omega]
    simp[hj]
   have htk:b.cons.reverse.take (k+1)=b.cons.reverse.take k++[b.cons[b.cons.length-1-k]]:=by
    rw[List.take_add_one,List.getElem?_reverse h1,List.getElem?_eq_getElem hj];rfl
   have ih1:=ih (k+1) (by omega) (by omega)
   rw[htk]at ih1
   have hwr:IntKind.i64.wrap ((b.cons.length:Int)-1-(k:Int)-1)=(b.cons.length:Int)-1-((k+1:Nat):Int):=by rw[wrap_id (by omega) (by omega)];omega
   generalize b.cons[b.cons.length-1-k]=c at*
   repeat(refine .A ?_;conv=>whnf)
   refine .I (r:=cC c) hrow ?_
   repeat(refine .A ?_;conv=>whnf)
   refine .V ?_
   repeat(refine .A ?_;conv=>whnf)
   refine J.a1 (enc:=cC) (x:=c) (B:=104) rfl rfl rfl rfl rfl rfl rfl rfl rfl rfl rfl rfl rfl rfl rfl rfl rfl rfl rfl rfl (by simp;omega) ?_
   repeat(refine .A ?_;conv=>whnf)
   rw[hwr]
   exact T.K ih1
  ·have h1:k=b.cons.length:=by simp at h1;omega
   rw[List.take_of_length_le (by simp;omega)]
   repeat(refine .A ?_;conv=>whnf)
   refine .C hfb ?_
   repeat(refine .A ?_;conv=>whnf)
   cases x
   case' true=>
    repeat(refine .A ?_;conv=>whnf)
    refine .C hss ?_
    repeat(refine .A ?_;conv=>whnf)
    refine .C hss ?_
    repeat(refine .A ?_;conv=>whnf)
    rw[show(!(y==y))=false by simp]
    repeat(refine .A ?_;conv=>whnf)
    refine .C hnn ?_
   case' false=>
    repeat(refine .A ?_;conv=>whnf)
    refine .C hss ?_
    repeat(refine .A ?_;conv=>whnf)
    refine .C hss ?_
   all_goals
    repeat(refine .A ?_;conv=>whnf)
    refine T.cf rfl ?_
    repeat(refine .A ?_;conv=>whnf)
    refine T.K (T.ind (fun s:Nat×Doms=>⟨[(1,.fix (vs 1) (.ptr (cM b))),(4,.fix (vs 4) (doms d)),(5,.val true (doms s.2)),(17,.val true (.int .i64 s.1))],[],0⟩) (fun s=>s.1≤D.length∧s.2.map List.length=D.map List.length) (fun s=>D.length-s.1) (0,D) ⟨by simp,rfl⟩ (fun _ _ h=>h) ?_)
    rintro⟨i,D1⟩ ⟨hi,hD1⟩ ih
    have hl1:D1.length=D.length:=by have:=congrArg List.length hD1;simpa using this
    repeat(refine .A ?_;conv=>whnf)
    refine T.cd rfl (fun h4=> ?_) (fun h4=> ?_)
    ·have h4:i<D1.length:=by simpa using h4
     repeat(refine .A ?_;conv=>whnf)
     refine T.K (T.ind (fun s:Nat×Doms=>⟨[(1,.fix (vs 1) (.ptr (cM b))),(4,.fix (vs 4) (doms d)),(5,.val true (doms s.2)),(17,.val true (.int .i64 i)),(18,.val true (.int .i64 s.1))],[],0⟩) (fun s=>s.1≤D1[i].length∧s.2.map List.length=D.map List.length) (fun s=>D1[i].length-s.1) (0,D1) ⟨by simp,hD1⟩ (fun _ _ h=>h) ?_)
     rintro⟨k,D2⟩ ⟨hk,hD2⟩ ih2
     have hl2:D2.length=D.length:=by have:=congrArg List.length hD2;simpa using this
     have hi2:i<D2.length:=by omega
     have hle:D2[i].length=D1[i].length:=by
      have e2:(D2.map List.length)[i]? =(D1.map List.length)[i]? :=by rw[hD2.trans hD1.symm]
      simpa[List.getElem?_eq_getElem hi2,List.getElem?_eq_getElem h4]using e2
     have hsz:D1[i].length*16≤140737488355328:=by
      have e2:(D1.map List.length)[i]? =(D.map List.length)[i]? :=by rw[hD1]
      have hi3:i<D.length:=by omega
      simp only[List.getElem?_map,List.getElem?_eq_getElem h4,List.getElem?_eq_getElem hi3,Option.map_some,Option.some.injEq]at e2
      have:=hRx D[i] (List.getElem_mem hi3)
      omega
     repeat(refine .A ?_;conv=>whnf)
     refine .I (r:=cD D2[i]) (row_i hi2) ?_
     repeat(refine .A ?_;conv=>whnf)
     refine T.cd rfl (fun h5=> ?_) (fun h5=> ?_)
     ·have h5:k<D2[i].length:=by simpa using h5
      repeat(refine .A ?_;conv=>whnf)
      refine .I (r:=cD D2[i]) (row_i hi2) ?_
      repeat(refine .A ?_;conv=>whnf)
      refine .I (r:=cR D2[i][k]) (row_i h5) ?_
      repeat(refine .A ?_;conv=>whnf)
      refine J.tr (s:=5) (D:=doms D2) [1,4] [17,18] (fun _ h=>h) (fun _ h=>h) rfl rfl rfl rfl rfl rfl rfl rfl (fun q u p hq h=>by
       simp only[List.mem_cons,List.not_mem_nil,or_false]at hq
       rcases hq with rfl|rfl
       ·cases h;exact hfx1
       ·cases h;exact hfx4) fun D3 hsh=> ?_
      obtain⟨D3,rfl,e3⟩:=sh_doms hsh
      repeat(refine .A ?_;conv=>whnf)
      rw[wrap1 (l:=D1[i].length) (by omega) (by omega)]
      exact T.K (ih2 (k+1,D3) ⟨by omega,e3.trans hD2⟩ (by simp only;omega))
     ·have h5:k=D2[i].length:=by simp at h5;omega
      repeat(refine .A ?_;conv=>whnf)
      rw[wrap1 (l:=D.length) (by omega) (by omega)]
      exact T.K (ih (i+1,D2) ⟨by omega,hD2⟩ (by simp only;omega))
    ·repeat(refine .A ?_;conv=>whnf)
     refine .C hds ?_
     repeat(refine .A ?_;conv=>whnf)
     refine .C hsame ?_
     repeat(refine .A ?_;conv=>whnf)
     refine .C vfixed_spec ?_
     repeat(refine .A ?_;conv=>whnf)
     exact⟨_,.v rfl rfl rfl (fun h=>by cases h) .nil⟩
end Go.Proofs.YtlcobmehnaeebaaGreat
namespace Go.Proofs.YtlcobmehnaeebaaGreat
open Go Go.RowKit
set_option linter.unusedVariables false
set_option maxRecDepth 100000
section
variable {H:Type}{henc:TypeId×Value→H}{w:World}
theorem opens_I:Opens henc Tryz.prog w 3 cI (fun n=> -9223372036854775808≤n∧n≤9223372036854775807):=opens_int (by kernel_rfl)
theorem opens_IL:Opens henc Tryz.prog w 24 (fun l=>[ints l]) (fun l=>l.length*8≤reachBytes):=
 (opens_slice (t:=24) (e:=3) (by kernel_rfl) opens_I (fun _=>by kernel_rfl) (by decide +kernel) (fun a p hp=>by simp[cI]at hp;subst hp;rfl)).map id (fun _=>rfl) fun l h=>h.1
theorem opens_LL:Opens henc Tryz.prog w 36 (fun l=>[lists l]) (fun l=>l.length*24≤reachBytes∧∀x∈l,x.length*8≤reachBytes):=
 (opens_slice (t:=36) (e:=24) (by kernel_rfl) opens_IL (fun _=>by kernel_rfl) (by decide +kernel) (fun a p hp=>by simp at hp;subst hp;rfl)).map id (fun _=>rfl) fun l h=>h
theorem opens_con:Opens henc Tryz.prog w 38 cC ConB:=by
 have h:=opens_struct (henc:=henc) (w:=w) Tryz.underlying38 (opensL_cons opens_I rfl (opensL_cons opens_IL (by kernel_rfl) (opensL_cons opens_IL (by kernel_rfl) (opensL_cons opens_I (by kernel_rfl) (opensL_cons opens_I (by kernel_rfl) (opensL_cons opens_LL (by kernel_rfl) (opensL_cons opens_I (by kernel_rfl) (opensL_nil _)))))))) (by kernel_rfl)
 refine h.map (fun x=>(⟨x.1,x.2.1,x.2.2.1,x.2.2.2.1,x.2.2.2.2.1,x.2.2.2.2.2.1,x.2.2.2.2.2.2.1⟩:Con)) (fun _=>rfl) fun x h=> ?_
 obtain⟨_,h1,h2,_,_,h3,_⟩:=h
 have e:reachBytes=140737488351232:=rfl
 rw[e]at h1 h2 h3
 exact⟨by simp only;omega,by simp only;omega,by simp only;omega,fun y hy=>by have:=h3.2 y hy;omega⟩
end
end Go.Proofs.YtlcobmehnaeebaaGreat
namespace Go.Proofs.YtlcobmehnaeebaaGreat
open Go Go.RowKit
set_option linter.unusedVariables false
set_option maxRecDepth 100000
section
variable {H:Type}{henc:TypeId×Value→H}{w:World}
theorem opens_S:Opens henc Tryz.prog w 9 (fun s:ByteArray=>[.str s]) (fun _=>True):=by
 intro fuel cs x h _ _
 obtain⟨s,rfl,_,_⟩:=DataW.trod_string (show Tryz.prog.underlying 9=some .string by kernel_rfl) h
 exact⟨s,.cons (.str _) .nil,trivial⟩
theorem opens_range:Opens henc Tryz.prog w 47 cR (fun _=>True):=by
 have h:=opens_struct (henc:=henc) (w:=w) Tryz.underlying47 (opensL_cons opens_I rfl (opensL_cons opens_I (by kernel_rfl) (opensL_nil _))) (by kernel_rfl)
 exact h.map (fun x=>(x.1,x.2.1)) (fun _=>rfl) fun _ _=>trivial
theorem opens_D:Opens henc Tryz.prog w 45 (fun l=>[dm l]) (fun l=>l.length*16≤reachBytes):=
 (opens_slice (t:=45) (e:=47) (by kernel_rfl) opens_range (fun _=>by kernel_rfl) (by decide +kernel) (fun a p hp=>by simp[cR]at hp;rcases hp with rfl|rfl<;>rfl)).map id (fun _=>rfl) fun l h=>h.1
theorem opens_var:Opens henc Tryz.prog w 58 cV (fun v=>v.2.length*16≤reachBytes):=by
 have h:=opens_struct (henc:=henc) (w:=w) Tryz.underlying58 (opensL_cons opens_S rfl (opensL_cons opens_D (by kernel_rfl) (opensL_nil _))) (by kernel_rfl)
 exact h.map (fun x=>(x.1,x.2.1)) (fun _=>rfl) fun x h=>h.2.1
theorem opens_vars:Opens henc Tryz.prog w 22 (fun l:List (ByteArray×List (Int×Int))=>[.sl (l.map cV)]) (fun l=>l.length*40≤reachBytes∧∀v∈l,v.2.length*16≤reachBytes):=
 (opens_slice (t:=22) (e:=58) (by kernel_rfl) opens_var (fun _=>by kernel_rfl) (by decide +kernel) (fun a p hp=>by simp[cV]at hp;rcases hp with rfl|rfl<;>rfl)).map id (fun _=>rfl) fun l h=>h
theorem opens_conI:Opens henc Tryz.prog w 38 cC (fun c=>c.vars.length*8≤140737488355328∧c.coefs.length*8≤140737488355328∧c.rows.length*8≤140737488355328∧∀r∈c.rows,r.length*8≤140737488355328):=
 opens_con.map id (fun _=>rfl) fun c h=>by obtain⟨h1,h2,h3,h4⟩:=h;exact⟨by simp only[id];omega,h2,by simp only[id];omega,h4⟩
theorem opens_cons:Opens henc Tryz.prog w 23 (fun l=>[consPV l]) (fun l=>l.length*104≤reachBytes∧∀c∈l,c.vars.length*8≤140737488355328∧c.coefs.length*8≤140737488355328∧c.rows.length*8≤140737488355328∧∀r∈c.rows,r.length*8≤140737488355328):=
 (opens_slice (t:=23) (e:=38) (by kernel_rfl) opens_conI (fun _=>by kernel_rfl) (by decide +kernel) (fun a p hp=>by simp[cC]at hp;rcases hp with rfl|rfl|rfl|rfl|rfl|rfl|rfl<;>rfl)).map id (fun _=>rfl) fun l h=>h
theorem opens_goal:Opens henc Tryz.prog w 26 cG (fun g=>g.vars.length*8≤reachBytes∧g.coefs.length*8≤reachBytes):=by
 have h:=opens_struct (henc:=henc) (w:=w) Tryz.underlying26 (opensL_cons opens_I rfl (opensL_cons opens_IL (by kernel_rfl) (opensL_cons opens_IL (by kernel_rfl) (opensL_nil _)))) (by kernel_rfl)
 exact h.map (fun x=>(⟨x.1,x.2.1,x.2.2.1⟩:Goal)) (fun _=>rfl) fun x h=>⟨h.2.1,h.2.2.1⟩
theorem opens_mod:Opens henc Tryz.prog w 28 cM ModI:=by
 have h:=opens_struct (henc:=henc) (w:=w) Tryz.underlying28 (opensL_cons opens_vars rfl (opensL_cons opens_cons (by kernel_rfl) (opensL_cons opens_goal (by kernel_rfl) (opensL_nil _)))) (by kernel_rfl)
 refine h.map (fun x=>(⟨x.1,x.2.1,x.2.2.1⟩:Mod)) (fun _=>by simp[cM,cG]) fun x h=> ?_
 obtain⟨⟨h1,h2⟩,⟨h3,h4⟩,⟨h5,h6⟩,_⟩:=h
 have e:reachBytes=140737488351232:=rfl
 rw[e]at h1 h3 h5 h6
 exact⟨fun v hv=>by have:=h2 v hv;rw[e]at this;omega,by simp only;omega,by simp only;omega,h4,by simp only;omega⟩
theorem mod_one (m:Mod): ∀p∈cM m,p.one=true:=by
 intro p hp
 simp[cM,consPV]at hp
 rcases hp with rfl|rfl|rfl|rfl|rfl<;>rfl
end
end Go.Proofs.YtlcobmehnaeebaaGreat
namespace Go.Proofs.YtlcobmehnaeebaaGreat.fixAlls
open Go.ChangeShapes Go.WideShapes Go.ChangeAt Go.RowKit
theorem own:ownKnob Tryz.prog.godebug=none:=by kernel_rfl
theorem laidOut:laidOutB Tryz.prog=true:=by kernel_rfl
set_option maxRecDepth 100000 in
theorem lifted (os:Os)(started:os.Started)(H:Type)(enc:TypeId×Value→H):
  ReturnsInHanded {} Tryz.checked os 4 .any (Rows.fixAllsSpec.pre6 enc Tryz.prog Tryz.f4 Rows.fixAllsRow.domain false) (Rows.fixAllsSpec.post enc Tryz.prog Tryz.f4 false true false false):=by
 refine returnsInHanded_of_change_sized (C:=Tryz.checked) own started (by kernel_rfl) Tryz.func4
  (ChangeSpec.witness6 (enc:=enc) (C:=Tryz.checked) false ⟨#[],#[.agg #[.slice none 0 0,.slice none 0 0,.int .i64 0,.slice none 0 0,.slice none 0 0]],[]⟩ 8 (by kernel_rfl) (by kernel_rfl) (by kernel_rfl) (by kernel_rfl)) ?_
 intro W base args ds gs before hval0 hW hcnd hsz0 _
 have hsz:(DataW.weightsEach Tryz.prog (Tryz.f4.params.toList++Rows.fixAllsSpec.plain.varTypes Tryz.prog) (ds++gs)).all (· ≤reachBytes)=true:=hsz0
 have hval: ∀(j:Nat) t v,Tryz.f4.params[j]? =some t→args[j]? =some v→Value.okWide Tryz.prog W .any base t v:=hval0
 have hW':=hW
 obtain⟨p,q,hA0,hV,rfl,hfz,hnd⟩:=hW
 have hA:DataW.TrodAll enc Tryz.prog W 0 (fun _=>true) true Tryz.f4.params.toList args.toList ds p:=hA0
 rw[Tryz.params4]at hA hval hsz
 obtain⟨v0,vs0,d0,ds0,p0,q0,hargs,rfl,rfl,h0,r0⟩:=trodAll_cons hA
 obtain⟨rfl,rfl,rfl⟩:=trodAll_nil r0
 obtain rfl:args= #[v0]:=by cases args;simp_all
 obtain⟨rfl,rfl⟩:=trodVars_none hV
 have hv0:=hval 0 28 v0 rfl rfl
 obtain⟨cs0,rfl,_,_⟩: ∃cs,v0= .agg cs∧cs.size=Tryz.prog.cellsOf 28∧Row.okWide Tryz.prog W .any base 28 cs:=by
  unfold Value.okWide at hv0
  rw[Tryz.underlying28]at hv0
  exact hv0
 have k0:=h0
 have lt0: ∀x∈p0,x.block<W.heap.size:=by obtain⟨m,hm⟩:=k0;exact DataW.trod_lt m _ _ _ hm
 obtain⟨fuel0,hf0⟩:=h0
 have hw:(DataW.weightsEach Tryz.prog (28::Rows.fixAllsSpec.plain.varTypes Tryz.prog) (d0::[])).all (· ≤reachBytes)=true:=hsz
 rw[DataW.weightsEach,List.all_append,Bool.and_eq_true]at hw
 obtain⟨hw0,hw⟩:=hw
 obtain⟨m,hrep0,hm⟩:=opens_mod fuel0 _ (d0,p0) hf0 hw0 (nf hfz fun p hp=>by simp[hp])
 clear hA0 hval0 hsz0 hsz hw
 have hcs0:(Value.agg cs0).cells.toList=cs0.toList:=rfl
 rw[hcs0]at hrep0
 have harg0:Rep W (fun _=>True) (.agg cs0) (.agg (cM m)):=by
  have:=Rep.agg (w:=W) (Z:=fun _=>True) cs0.toList (cM m) hrep0 (mod_one m)
  simpa using this
 refine((law_falls m hm).out W (fun _=>True) [.agg cs0] (.cons harg0 .nil)).mono fun e W' ⟨rs,he,bel,hret⟩=> ?_
 have hrs:rs=[.bool true]:=by
  have h:=hret.each
  cases h with
  |cons h1 h2=>cases h2;cases h1;rfl
 subst hrs
 subst he
 exact⟨_,rfl,_,_,_,[],_,[],hW',trodAll_mk1 (shut_bool Tryz.underlying4 _),trodAll_cons_mk (Below.trod laidOut (by kernel_rfl) (of_decide_eq_true (by kernel_rfl)) k0 bel lt0) trodAll_mk0,rfl,bel.frame _,fun h=>by cases h⟩
theorem over:Rows.fixAllsRow.holds Tryz.pinned (OpenSpec.ofChange Rows.fixAllsSpec):=
 OpenClaim.holds_of_wide 4 Tryz.f4 rfl rfl rfl rfl rfl rfl rfl ⟨rfl,rfl,rfl,rfl,rfl⟩ rfl rfl rfl rfl rfl (by kernel_rfl) Tryz.func4 (by kernel_rfl)
  (of_decide_eq_true (by kernel_rfl)) (by unfold Func.isWrapper;first|(rw[if_pos (by decide +kernel)];kernel_rfl)|(rw[if_neg (by decide +kernel)];exact⟨rfl,rfl⟩))
  (fun os started H enc _=>lifted os started H enc)
theorem proved:Rows.FixAllsSaid:=over
#print axioms proved
end Go.Proofs.YtlcobmehnaeebaaGreat.fixAlls
namespace Go.Proofs.YtlcobmehnaeebaaGreat
theorem fixAlls_holds:Rows.FixAllsSaid:=fixAlls.proved
end Go.Proofs.YtlcobmehnaeebaaGreat
