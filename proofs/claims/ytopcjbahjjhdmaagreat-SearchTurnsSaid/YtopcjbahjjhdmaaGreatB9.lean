/- The texts FvV, FvW, FvH, FvX, FwA, FwC, FwD, FwE, FwF, FwG, PvI, PvJ, PwA, PwB, PwC, PwD, FwH, FwI, FwJ, FwK, FwL, FwB, FwM, FwN, FwO, PwE, FwP, PwF, PwG, FwR of the workplace, joined. -/
import Derived.Test.YtopcjbahjjhdmaaGreatB8
namespace Go.Proofs.YtopcjbahjjhdmaaGreat
open Go Go.RowKit
set_option linter.unusedVariables false
set_option linter.unusedSimpArgs false
set_option maxRecDepth 8000
def iu (v:ByteArray×List (Int×Int)):ByteArray×List (Int×Int):=(v.1.extract 0 (min v.1.size 20),v.2.take (min v.2.length 12))
def eW (c:Con):Con:=⟨c.kind,c.vars.take (min c.vars.length 14),c.coefs.take (min c.coefs.length 14),c.op,c.rhs,(c.rows.take 20).map fun r=>r.take (min r.length 14),c.b⟩
def boundM (m:Mod):Mod:=⟨(m.vars.take 10).map iu,(m.cons.take 16).map eW,⟨m.goal.kind,m.goal.vars.take (min m.goal.vars.length 14),m.goal.coefs.take (min m.goal.coefs.length 14)⟩⟩
structure ModI (m:Mod):Prop where
 vn: ∀v∈m.vars,v.2.length*8≤140737488355328
 vl:m.vars.length*8≤140737488355328
 cl:m.cons.length*8≤140737488355328
 cb: ∀c∈m.cons,c.vars.length*8≤140737488355328∧c.coefs.length*8≤140737488355328∧c.rows.length*8≤140737488355328∧∀r∈c.rows,r.length*8≤140737488355328
 gl:m.goal.vars.length*8≤140737488355328∧m.goal.coefs.length*8≤140737488355328
theorem uv (m:Mod):ModB (boundM m):=by
 refine⟨by simp[boundM];omega,fun v hv=> ?_,by simp[boundM];omega,fun c hc=> ?_,by simp[boundM];omega⟩
 ·obtain⟨u,_,rfl⟩:=List.mem_map.1 hv
  simp[iu,ByteArray.size_extract];omega
 ·obtain⟨u,_,rfl⟩:=List.mem_map.1 hc
  refine⟨by simp[eW];omega,by simp[eW];omega,by simp[eW];omega,fun r hr=> ?_⟩
  obtain⟨q,_,rfl⟩:=List.mem_map.1 hr
  simp;omega
def bxM (u1 u2:Value)(g:Goal):List PV:=[.raw u1,.raw u2,.int .i64 g.kind,aA g.vars,aA g.coefs]
set_option maxHeartbeats 1000000 in
theorem wg (m:Mod)(hm:ModI m):Spec Tryz.prog 27 true [.agg (cM m)] [.val (.agg (cM (boundM m)))]:=by
 refine Spec.body Tryz.func27 rfl rfl rfl fun w0 Z0=> ?_
 obtain⟨b1,b2,b3,b4,b5⟩:=hm
 refine .B ?_
 refine .L ?_
 refine J.nil ?_
 refine T.seq ?_
 refine T.r ?_
 refine J.sub (Rel.unbx (s:=1) (fun _ h=>h) rfl rfl) ?_
 refine J.H rfl ?_
 conv=>whnf
 refine J.H rfl ?_
 conv=>whnf
 refine J.bz [.raw (.slice none 0 0),.raw (.slice none 0 0),.int .i64 0,.sl [],.sl []] rfl rfl rfl rfl rfl rfl rfl rfl (fun w Z=> .cons (.raw _ rfl) (.cons (.raw _ rfl) (.cons (.int _ _) (.cons .nilsl (.cons .nilsl .nil))))) (by simp[PV.one]) rfl rfl rfl ?_
 conv=>whnf
 refine .L ?_
 refine .W ?_
 refine J.nil ?_
 refine T.nilO 1001 56 2 rfl ?_
 refine T.nilO 1002 51 7 rfl ?_
 refine T.sub (Rel.wk (o:=3) rfl) ?_
 refine T.sub (Rel.wk (o:=4) rfl) ?_
 refine T.mids (fun u:Value=>⟨[(1,.fptr false (cM m)),(2,.optr 0 0 0 0),(3,.optr 1 0 0 0),(1001,.eq u 2),(1002,.eq (.slice none 0 0) 3)],[(0,some (.box true [.sl [],.sl [],.int .i64 0,.sl [],.sl []])),(1,some (.box false (bxM u (.slice none 0 0) m.goal))),(2,some (.sl 56 2 false ((boundM m).vars.map cV))),(3,some (.sl 51 7 false []))],4⟩) ?_ fun u1=> ?_
 ·refine .M ?_
  refine T.K (T.ind (fun s:Nat×Value=>⟨[(1,.fptr false (cM m)),(2,.optr 0 0 0 0),(3,.optr 1 0 0 0),(4,.val true (.int .i64 s.1)),(1001,.eq s.2 2),(1002,.eq (.slice none 0 0) 3)],[(0,some (.box true [.sl [],.sl [],.int .i64 0,.sl [],.sl []])),(1,some (.box false (bxM s.2 (.slice none 0 0) m.goal))),(2,some (.sl 56 2 false (((m.vars.take s.1).map iu).map cV))),(3,some (.sl 51 7 false []))],4⟩) (fun s=>s.1≤min m.vars.length 10) (fun s=>10-s.1) (0,.slice none 0 0) (Nat.zero_le _) (fun _ _ h=>by cases h.1) ?_)
  rintro⟨i,u⟩ hi ih
  simp only at hi
  refine .B ?_
  refine J.g rfl rfl rfl (fun h1=> ?_) (fun h1=> ?_)
  ·have h1:i<m.vars.length:=by simpa using h1
   refine .B ?_
   refine T.cd rfl (fun h2=> ?_) (fun h2=> ?_)
   ·have h2:i<10:=by omega
    have hrow:(m.vars.map cV)[((i:Nat):Int).toNat]? =some (cV m.vars[i]):=by simp[h1]
    have hv:=b1 _ (List.getElem_mem h1)
    have htk:(m.vars.take (i+1)).map iu=(m.vars.take i).map iu++[iu m.vars[i]]:=by rw[List.take_succ_eq_append_getElem h1,List.map_append];rfl
    have hln:((m.vars.take i).map iu).length≤10:=by simp;omega
    have ih1:=fun u'=>ih (i+1,u') (by show _≤min _ _;omega) (by show _-_<_-_;omega)
    simp only[htk,List.map_append]at ih1
    generalize (m.vars.take i).map iu=out at*
    generalize m.vars[i]=v at*
    obtain⟨nm,dd⟩:=v
    simp only at hv
    refine .B ?_
    refine .I (r:=cV (nm,dd)) hrow ?_
    refine .B ?_
    refine .L ?_
    refine .W ?_
    refine .M ?_
    refine T.rdw 22 rfl (by kernel_rfl) rfl ?_
    refine J.H rfl ?_
    refine J.lr 1001 (q:=2) (u:=u) rfl rfl rfl rfl rfl rfl rfl rfl rfl ?_
    refine .M ?_
    refine J.ss (min nm.size 20) rfl rfl rfl rfl rfl rfl rfl (by simp;omega) (Nat.min_le_left _ _) ?_
    refine .M ?_
    refine .O ?_
    refine .M ?_
    refine J.s1 (enc:=cR) (l:=dd) (min dd.length 12) rfl rfl rfl rfl rfl rfl rfl rfl rfl (fun _=>rfl) (by simp;omega) (by omega) ?_
    refine J.adf (fun _ h=>h) rfl rfl rfl rfl rfl rfl rfl rfl rfl rfl rfl rfl rfl rfl rfl rfl rfl wT (by show(0+List.length _)*16≤_;simp;omega) ?_
    refine .M ?_
    refine .V ?_
    refine J.ad rfl rfl rfl rfl rfl rfl rfl rfl rfl rfl rfl rfl rfl rfl rfl rfl rfl rfl (cJ rfl) (by show(List.length _+1)*40≤_;simp;omega) ?_
    refine .M ?_
    refine⟨by kernel_rfl,?_⟩
    refine J.name 1001 (s:=49) rfl rfl rfl fun u'=> ?_
    refine J.sub (Rel.raw (s:=49) (g:=1001) rfl (.inl rfl) rfl rfl rfl) ?_
    refine .W ?_
    refine .B ?_
    rw[aj (l:=m.vars.length) (n:=i) h1 b2]
    exact T.K (ih1 u')
   ·have e:i=10:=by omega
    subst e
    refine .B ?_
    exact⟨rfl,u,[1,2,3,1001,1002],[2,3,1001,1002],rfl,rfl⟩
  ·have e:i=m.vars.length:=by simp at h1;omega
   subst e
   have e2:m.vars.take 10=m.vars:=List.take_of_length_le (by omega)
   rw[show(boundM m).vars=(m.vars.take 10).map iu from rfl,e2,List.take_length]
   refine .B ?_
   refine T.cf rfl ?_
   refine .B ?_
   exact⟨rfl,u,[1,2,3,1001,1002],[2,3,1001,1002],rfl,rfl⟩
 ·refine T.mids (fun u2:Value=>⟨[(1,.fptr false (cM m)),(2,.optr 0 0 0 0),(3,.optr 1 0 0 0),(1001,.eq u1 2),(1002,.eq u2 3)],[(0,some (.box true [.sl [],.sl [],.int .i64 0,.sl [],.sl []])),(1,some (.box false (bxM u1 u2 m.goal))),(2,some (.sl 56 2 false ((boundM m).vars.map cV))),(3,some (.sl 51 7 false ((boundM m).cons.map cC)))],4⟩) ?_ fun u2=> ?_
  ·refine .M ?_
   refine T.K (T.ind (fun s:Nat×Value=>⟨[(1,.fptr false (cM m)),(2,.optr 0 0 0 0),(3,.optr 1 0 0 0),(6,.val true (.int .i64 s.1)),(1001,.eq u1 2),(1002,.eq s.2 3)],[(0,some (.box true [.sl [],.sl [],.int .i64 0,.sl [],.sl []])),(1,some (.box false (bxM u1 s.2 m.goal))),(2,some (.sl 56 2 false ((boundM m).vars.map cV))),(3,some (.sl 51 7 false (((m.cons.take s.1).map eW).map cC)))],4⟩) (fun s=>s.1≤min m.cons.length 16) (fun s=>16-s.1) (0,.slice none 0 0) (Nat.zero_le _) (fun _ _ h=>by cases h.1) ?_)
   rintro⟨i,u⟩ hi ih
   simp only at hi
   refine .B ?_
   refine J.g rfl rfl rfl (fun h1=> ?_) (fun h1=> ?_)
   ·have h1:i<m.cons.length:=by simpa[cE]using h1
    refine .B ?_
    refine T.cd rfl (fun h2=> ?_) (fun h2=> ?_)
    ·have h2:i<16:=by omega
     have hrow:(m.cons.map cC)[((i:Nat):Int).toNat]? =some (cC m.cons[i]):=by simp[h1]
     have hv:=b4 _ (List.getElem_mem h1)
     have htk:(m.cons.take (i+1)).map eW=(m.cons.take i).map eW++[eW m.cons[i]]:=by rw[List.take_succ_eq_append_getElem h1,List.map_append];rfl
     have hln:((m.cons.take i).map eW).length≤16:=by simp;omega
     have ih1:=fun u'=>ih (i+1,u') (by show _≤min _ _;omega) (by show _-_<_-_;omega)
     simp only[htk]at ih1
     generalize (m.cons.take i).map eW=out at*
     generalize m.cons[i]=c at*
     obtain⟨kind,vars,coefs,op,rhs,rows,b⟩:=c
     simp only at hv
     refine .B ?_
     refine .I (r:=cC ⟨kind,vars,coefs,op,rhs,rows,b⟩) hrow ?_
     refine .B ?_
     refine .L ?_
     refine .W ?_
     refine .M ?_
     refine J.s1 (enc:=cI) (l:=vars) (min vars.length 14) rfl rfl rfl rfl rfl rfl rfl rfl rfl (fun _=>rfl) (by simp;omega) (by omega) ?_
     refine .M ?_
     refine .W ?_
     refine .M ?_
     refine J.s1 (enc:=cI) (l:=coefs) (min coefs.length 14) rfl rfl rfl rfl rfl rfl rfl rfl rfl (fun _=>rfl) (by simp;omega) (by omega) ?_
     refine .M ?_
     refine .W ?_
     refine .M ?_
     refine .O ?_
     refine J.H rfl ?_
     conv=>whnf
     refine J.nil ?_
     refine T.sub (Rel.wk (o:=5) rfl) ?_
     refine T.mid ⟨[(1,.fptr false (cM m)),(2,.optr 0 0 0 0),(3,.optr 1 0 0 0),(6,.val true (.int .i64 i)),(7,.optr 4 0 0 0),(8,.ref 5),(1001,.eq u1 2),(1002,.eq u 3)],[(0,some (.box true [.sl [],.sl [],.int .i64 0,.sl [],.sl []])),(1,some (.box false (bxM u1 u m.goal))),(2,some (.sl 56 2 false ((boundM m).vars.map cV))),(3,some (.sl 51 7 false (out.map cC))),(4,some (.box false (cC ⟨kind,vars.take (min vars.length 14),coefs.take (min coefs.length 14),op,rhs,rows,b⟩))),(5,some (.sl 24 1 false (((rows.take 20).map fun r=>r.take (min r.length 14)).map cL)))],6⟩ ?_ ?_
     ·refine .M ?_
      refine T.K (T.ind (fun k:Nat=>⟨[(1,.fptr false (cM m)),(2,.optr 0 0 0 0),(3,.optr 1 0 0 0),(6,.val true (.int .i64 i)),(7,.optr 4 0 0 0),(8,.ref 5),(9,.val true (.int .i64 k)),(1001,.eq u1 2),(1002,.eq u 3)],[(0,some (.box true [.sl [],.sl [],.int .i64 0,.sl [],.sl []])),(1,some (.box false (bxM u1 u m.goal))),(2,some (.sl 56 2 false ((boundM m).vars.map cV))),(3,some (.sl 51 7 false (out.map cC))),(4,some (.box false (cC ⟨kind,vars.take (min vars.length 14),coefs.take (min coefs.length 14),op,rhs,rows,b⟩))),(5,some (.sl 24 1 false (((rows.take k).map fun r=>r.take (min r.length 14)).map cL)))],6⟩) (fun k=>k≤min rows.length 20) (fun k=>20-k) 0 (Nat.zero_le _) (fun _ _ h=>by cases h.1) ?_)
      rintro k hk ihk
      refine .B ?_
      refine J.g rfl rfl rfl (fun h3=> ?_) (fun h3=> ?_)
      ·have h3:k<rows.length:=by simpa using h3
       refine .B ?_
       refine T.cd rfl (fun h4=> ?_) (fun h4=> ?_)
       ·have h4:k<20:=by omega
        have hrk:(rows.map cL)[((k:Nat):Int).toNat]? =some (cL rows[k]):=by simp[h3]
        have hr8:=hv.2.2.2 _ (List.getElem_mem h3)
        have htkr:(rows.take (k+1)).map (fun r=>r.take (min r.length 14))=(rows.take k).map (fun r=>r.take (min r.length 14))++[rows[k].take (min rows[k].length 14)]:=by rw[List.take_succ_eq_append_getElem h3,List.map_append];rfl
        have hlr:((rows.take k).map fun r=>r.take (min r.length 14)).length≤20:=by simp;omega
        have ihk1:=ihk (k+1) (by omega) (by omega)
        rw[htkr]at ihk1
        generalize (rows.take k).map (fun r=>r.take (min r.length 14))=outr at*
        generalize rows[k]=r at*
        refine .M ?_
        refine T.rdm 15 rfl (by kernel_rfl) rfl ?_
        refine .M ?_
        refine .I (r:=cL r) hrk ?_
        refine .M ?_
        refine .I (r:=cL r) hrk ?_
        refine .M ?_
        refine J.s1 (enc:=cI) (l:=r) (min r.length 14) rfl rfl rfl rfl rfl rfl rfl rfl rfl (fun _=>rfl) (by simp;omega) (by omega) ?_
        refine .M ?_
        refine .V ?_
        refine .M ?_
        refine J.a1 (enc:=cL) (x:=r.take (min r.length 14)) (B:=24) rfl rfl rfl rfl rfl rfl rfl rfl rfl rfl rfl rfl rfl rfl rfl rfl rfl rfl rfl rfl (by omega) ?_
        refine .M ?_
        rw[aj (l:=rows.length) (n:=k) h3 (by omega)]
        exact T.K ihk1
       ·have e:k=20:=by omega
        subst e
        refine .B ?_
        exact⟨rfl,[1,2,3,6,7,8,1001,1002],[2,3,1001,1002,7,8],rfl,rfl⟩
      ·have e:k=rows.length:=by simp at h3;omega
       have e2:rows.take 20=rows.take k:=by rw[e,List.take_of_length_le (Nat.le_refl _),List.take_of_length_le (by omega)]
       rw[e2]
       refine .B ?_
       refine T.cf rfl ?_
       refine .B ?_
       exact⟨rfl,[1,2,3,6,7,8,1001,1002],[2,3,1001,1002,7,8],rfl,rfl⟩
     ·refine T.sub (Rel.frz (s:=8) (fun _ h=>h) rfl rfl) ?_
      have hown:=sW ⟨kind,vars.take (min vars.length 14),coefs.take (min coefs.length 14),op,rhs,(rows.take 20).map fun r=>r.take (min r.length 14),b⟩ ⟨by simp;omega,by simp;omega,by simp;omega,fun x hx=>by
       obtain⟨y,_,rfl⟩:=List.mem_map.1 hx
       simp;omega⟩
      rw[show eW ⟨kind,vars,coefs,op,rhs,rows,b⟩=⟨kind,vars.take (min vars.length 14),coefs.take (min coefs.length 14),op,rhs,(rows.take 20).map fun r=>r.take (min r.length 14),b⟩from rfl]at ih1
      generalize vars.take (min vars.length 14)=vars2 at*
      generalize coefs.take (min coefs.length 14)=coefs2 at*
      generalize (rows.take 20).map (fun r=>r.take (min r.length 14))=rows2 at*
      refine .M ?_
      refine .W ?_
      refine .M ?_
      refine T.rdm 5 rfl (by kernel_rfl) rfl ?_
      refine J.H rfl ?_
      refine J.lr 1002 (q:=3) (u:=u) rfl rfl rfl rfl rfl rfl rfl rfl rfl ?_
      refine .M ?_
      refine .C hown ?_
      refine .M ?_
      refine .V ?_
      refine .M ?_
      refine J.a1 (enc:=cC) (x:=⟨kind,vars2,coefs2,op,rhs,rows2,b⟩) (B:=104) rfl rfl rfl rfl rfl rfl rfl rfl rfl rfl rfl rfl rfl rfl rfl rfl rfl rfl rfl rfl (by omega) ?_
      refine .M ?_
      refine J.name 1002 (s:=118) rfl rfl rfl fun u'=> ?_
      refine J.sub (Rel.raw (s:=118) (g:=1002) rfl (.inl rfl) rfl rfl rfl) ?_
      refine .W ?_
      refine .M ?_
      rw[aj (l:=m.cons.length) (n:=i) h1 b3]
      exact T.K (ih1 u')
    ·have e:i=16:=by omega
     subst e
     refine .B ?_
     exact⟨rfl,u,[1,2,3,1001,1002],[2,3,1001,1002],rfl,rfl⟩
   ·have e:i=m.cons.length:=by simp[cE]at h1;omega
    subst e
    have e2:m.cons.take 16=m.cons:=List.take_of_length_le (by omega)
    rw[show(boundM m).cons=(m.cons.take 16).map eW from rfl,e2,List.take_length]
    refine .B ?_
    refine T.cf rfl ?_
    refine .B ?_
    exact⟨rfl,u,[1,2,3,1001,1002],[2,3,1001,1002],rfl,rfl⟩
  ·refine .M ?_
   refine .O ?_
   refine .M ?_
   refine J.s1 (enc:=cI) (l:=m.goal.vars) (min m.goal.vars.length 14) rfl rfl rfl rfl rfl rfl rfl rfl rfl (fun _=>rfl) (by simp;omega) (by omega) ?_
   refine .M ?_
   refine J.am (enc:=cI) (l:=([]:List Int)) (l2:=m.goal.vars.take (min m.goal.vars.length 14)) (B:=8) rfl rfl rfl rfl rfl rfl rfl rfl rfl rfl rfl rfl rfl rfl rfl rfl rfl (fun _=>rfl) rfl (by simp;omega) ?_
   refine J.sub (Rel.frz (s:=130) (fun _ h=>h) rfl rfl) ?_
   refine .M ?_
   refine .W ?_
   refine .M ?_
   refine .O ?_
   refine .M ?_
   refine J.s1 (enc:=cI) (l:=m.goal.coefs) (min m.goal.coefs.length 14) rfl rfl rfl rfl rfl rfl rfl rfl rfl (fun _=>rfl) (by simp;omega) (by omega) ?_
   refine .M ?_
   refine J.am (enc:=cI) (l:=([]:List Int)) (l2:=m.goal.coefs.take (min m.goal.coefs.length 14)) (B:=8) rfl rfl rfl rfl rfl rfl rfl rfl rfl rfl rfl rfl rfl rfl rfl rfl rfl (fun _=>rfl) rfl (by simp;omega) ?_
   refine J.sub (Rel.frz (s:=143) (fun _ h=>h) rfl rfl) ?_
   refine .M ?_
   refine .W ?_
   refine J.sub (fun a w h=>Rel.meltB (i:=0) (qc:=1) (q:=2) (g:=1001) (fun _ h=>h) rfl rfl rfl rfl rfl h) ?_
   refine J.sub (fun a w h=>Rel.meltB (i:=1) (qc:=1) (q:=3) (g:=1002) (fun _ h=>h) rfl rfl rfl rfl rfl h) ?_
   refine .M ?_
   refine .W ?_
   refine .M ?_
   exact⟨_,.c rfl rfl rfl rfl (fun h=>by cases h) .nil⟩
def okM (m:Mod)(most:Nat):Bool:=decide (checkR m=0)&&smallD (domsM m) most
structure RightM (m:Mod):Prop where
 b:ModB m
 good:GoodD (domsM m).length (domsM m)
 con: ∀c∈m.cons,ConB c
 right: ∀c∈m.cons,conR (domsM m) c=0
theorem yw {m:Mod}(h:checkR m=0):(∀i,i<m.vars.length→dmM m i≠[]∧chkR (dmM m i)=0)∧∀c∈m.cons,conR (domsM m) c=0:=by
 unfold checkR at h
 split at h
 ·cases h
 ·split at h
  ·rename_i h1;exact absurd h h1
  ·rename_i h1
   have h1:firstE ((List.range m.vars.length).map (varR m))=0:=Classical.byContradiction h1
   split at h
   ·rename_i h2;exact absurd h h2
   ·rename_i h2
    have h2:firstE (m.cons.map (conR (domsM m)))=0:=Classical.byContradiction h2
    refine⟨fun i hi=> ?_,fun c hc=>mI h2 _ (List.mem_map.2 ⟨c,hc,rfl⟩)⟩
    have h3:=mI h1 _ (List.mem_map.2 ⟨i,List.mem_range.2 hi,rfl⟩)
    unfold varR at h3
    split at h3
    ·cases h3
    ·split at h3
     ·cases h3
     ·split at h3
      ·cases h3
      ·rename_i h4
       exact⟨fun e=>h4 (.inl e),Classical.byContradiction fun e=>h4 (.inr e)⟩
theorem ke {m:Mod}(hb:ModB m)(h:checkR m=0):RightM m:=by
 obtain⟨h1,h2⟩:=yw h
 have hx: ∀x∈domsM m,x≠[]∧chkR x=0:=fun x hx=>by
  obtain⟨v,hv,rfl⟩:=List.mem_map.1 hx
  obtain⟨i,hi⟩:=List.getElem?_of_mem hv
  have hl:=(List.getElem?_eq_some_iff.1 hi).1
  have:=h1 i hl
  unfold dmM at this
  rw[List.getD_eq_getElem?_getD,hi]at this
  exact this
 refine⟨hb,⟨⟨by have:=hb.vl;simp[domsM];omega,fun x h=>(rM (hx x h).2).1,fun x h=>(rM (hx x h).2).2⟩,rfl,fun h=>(hx _ h).1 rfl⟩,fun c hc=> ?_,h2⟩
 obtain⟨c1,c2,c3,c4⟩:=hb.cb c hc
 exact⟨by omega,by omega,by omega,fun r hr=>by have:=c4 r hr;omega⟩
theorem tj (m:Mod)(most:Nat)(hm:ModI m)(h1:1≤most∧most≤1048576):Spec Tryz.prog 10 true [.agg (cM m),.int .i64 most] [.val (.agg (cM (boundM m))),.val (.bool (okM (boundM m) most))]:=by
 refine Spec.body Tryz.func10 rfl rfl rfl fun w0 Z0=> ?_
 have hbs:=wg m hm
 have hb:=uv m
 have hck:=te _ hb
 have hds:=nS _ hb
 have hri:=fun h=>ke hb h
 have hok:okM (boundM m) most=(decide (checkR (boundM m)=0)&&smallD (domsM (boundM m)) most):=rfl
 generalize okM (boundM m) most=ok at*
 generalize boundM m=b at*
 have hsm:=fun h=>sF (domsM b) most h1 (hri h).good.few
 generalize domsM b=d at*
 generalize smallD d most=sm at*
 generalize checkR b=ck at*
 refine .B ?_
 refine .L ?_
 refine .M ?_
 refine .C hbs ?_
 refine .M ?_
 refine .W ?_
 refine .M ?_
 refine T.K (?_:T _ _ ⟨[(1,.val false (.int .i64 most)),(2,.optr 0 0 0 0),(4,.optr 1 0 0 0),(5,.val true (.bool false))],[(0,some (.box false (cM b))),(1,some (.box true [.sl [],.sl [],.int .i64 0,.sl [],.sl []]))],2⟩ _)
 refine T.rdw 11 rfl (by kernel_rfl) rfl ?_
 refine .M ?_
 refine .C hck ?_
 refine .M ?_
 refine J.g rfl rfl rfl (fun h2=> ?_) (fun h2=> ?_)
 ·refine .M ?_
  refine .C hds ?_
  refine .M ?_
  refine .C (hsm h2) ?_
  refine .M ?_
  refine J.wd rfl rfl rfl rfl rfl rfl rfl rfl rfl rfl ?_
  refine .M ?_
  refine⟨by kernel_rfl,?_⟩
  refine .M ?_
  rw[decide_eq_true h2,Bool.true_and]at hok
  subst hok
  exact⟨_,.c rfl rfl rfl rfl (fun h=>by cases h) (.v rfl rfl rfl (fun h=>by cases h) .nil)⟩
 ·refine .M ?_
  refine J.wd rfl rfl rfl rfl rfl rfl rfl rfl rfl rfl ?_
  refine .M ?_
  refine⟨by kernel_rfl,?_⟩
  refine .M ?_
  have h2: ¬ck=0:=h2
  rw[decide_eq_false h2,Bool.false_and]at hok
  subst hok
  exact⟨_,.c rfl rfl rfl rfl (fun h=>by cases h) (.v rfl rfl rfl (fun h=>by cases h) .nil)⟩
theorem xy {n:Nat}{d out:aa}{c:Con}(hc:ConB c)(gd:GoodD n d)(go: ∀v:Int,v.toNat<n→ax (domAt out v))(hle:leD out d)(h:conR d c=0):conR out c=0:=by
 obtain⟨hk,hv,hr,hin⟩:=di hc h
 have hb:=jt h
 have tm: ∀v:Int,0≤v→v.toNat<d.length→truthR (domAt d v)=true→truthR (domAt out v)=true:=fun v h0 hl ht=>by
  rw[gd.len]at hl
  exact(jS (go v hl)).2 fun x hx=>(jS (gd.at_ hl).1).1 ht x (hle.2 v x h0 hx)
 have hl:out.length=d.length:=hle.1
 unfold conR
 rw[if_neg (by omega),if_neg,if_neg,if_neg (by rw[hb];simp)]
 ·have hr2:rightR out c=true:=by
   unfold rightR at hr⊢
   split
   ·rename_i h0;rw[if_pos h0]at hr;exact hr
   ·rename_i h0
    rw[if_neg h0]at hr
    split
    ·rename_i h1;rw[if_pos h1]at hr;exact hr
    ·rename_i h1
     rw[if_neg h1]at hr
     split
     ·rename_i h2;rw[if_pos h2]at hr;exact hr
     ·rename_i h2
      rw[if_neg h2]at hr
      split
      ·rename_i h3;rw[if_pos h3]at hr;exact hr
      ·rename_i h3
       rw[if_neg h3]at hr
       split
       ·rename_i h4
        rw[if_pos h4]at hr
        simp only[Bool.and_eq_true]at hr⊢
        have hb4:=hin c.b (uses_mem.2 (.inr ⟨h4,rfl⟩))
        exact⟨⟨hr.1.1,tm c.b hb4.1 hb4.2 hr.1.2⟩,hr.2⟩
       ·rename_i h4
        rw[if_neg h4]at hr
        split
        ·rename_i h5
         rw[if_pos h5]at hr
         simp only[Bool.and_eq_true]at hr⊢
         refine⟨hr.1,List.all_eq_true.2 fun i hi=> ?_⟩
         have hu:=List.all_eq_true.1 hr.2 i hi
         simp only[f8,Bool.and_eq_true]at hu⊢
         have hvi:=hv.2 _ (aJ (c:=c) (List.mem_range.1 hi))
         exact⟨tm _ hvi.1 hvi.2 hu.1,hu.2⟩
        ·rename_i h5;rw[if_neg h5]at hr;exact hr
  rw[hr2];simp
 ·have:(usesR c).all (inD out)=true:=List.all_eq_true.2 fun u hu=>ld.2 (by have:=hin u hu;omega)
  rw[this];simp
def dmQ (a b c d:Int):aa:=[[(a,b)],[(c,d)]]
theorem i4 {a b c d:Int}(h1:a≤b)(h2:c≤d)(h3:0≤a)(h4:0≤c)(h5:b≤3)(h6:d≤3):GoodD 2 (dmQ a b c d):=by
 have f1:Fine [(a,b)]:=A2 h1 (by omega) (by omega)
 have f2:Fine [(c,d)]:=A2 h2 (by omega) (by omega)
 have key: ∀a b:Int,0≤a→b≤3→(vals [(a,b)]).length≤4096:=fun a b h1 h2=>by
  show(rng a b++[]).length≤4096
  simp[rng];omega
 refine⟨⟨by simp[dmQ],fun x hx=> ?_,fun x hx=> ?_⟩,rfl,by simp[dmQ]⟩
 ·simp[dmQ]at hx;rcases hx with rfl|rfl<;>assumption
 ·simp[dmQ]at hx;rcases hx with rfl|rfl
  ·exact key _ _ h3 h5
  ·exact key _ _ h4 h6
theorem je {d:aa}{c:Con}{R:Option aa}{N:Nat}(gd:GoodD 2 d)(hc:ConB c)(hk:c.kind=0)(hr:conR d c=0)(h:LinAns d c R N):bK c d=R:=by
 obtain⟨M,hM⟩:=gC (qX hc hr hk gd.few.fine gd.few.small)
 unfold bK
 rw[if_pos hk]
 exact wR hM h
theorem zg {m:Mod}{most:Nat}(hb:ModB m)(h:okM m most=true)(h1:1≤most):RightM m∧prodD (domsM m)≤most:=by
 unfold okM at h
 rw[Bool.and_eq_true,decide_eq_true_eq]at h
 exact⟨ke hb h.1,xu h.2 h1⟩
def cCh (p:Int×List (Int×Int)):List PV:=[.int .i64 p.1,dm p.2]
theorem zA {ns:List Value}{n:Nat}(h:ns.length=n)(hn:n=1): ∃u,ns=[u]:=List.length_eq_one_iff.1 (h.trans hn)
theorem xn (d:aa)(fd:FewD d):Spec Tryz.prog 68 false [.ptr [aH d]] [.own 54 1 (d.map cD)]:=by
 refine Spec.body Tryz.func68 rfl rfl rfl fun w0 Z0=> ?_
 have hd:=fd.small
 refine T.sub (Rel.pf (s:=0) rfl) ?_
 refine .B ?_
 refine T.sub (Rel.own0 (s:=3) 54 1 rfl) ?_
 refine T.K (T.listI d (fun _=>True) (fun n pre post=>⟨[(3,.ref 0),(9,.val false (aH d)),(10,.val true (.int .i64 (d.map cD).length)),(11,.val true (.int .i64 n))],[(0,some (.sl 54 1 true (pre.map cD)))],1⟩) (fun _ _ h=>h) trivial ?_ ?_)
 ·rintro n pre x post h hn hi ih
  have hlt:=bZ h hn
  have hxl:=(fd.fine x (by rw[h];simp)).len
  refine .B ?_
  refine T.ct2 rfl (bY h hn) ?_
  refine .B ?_
  refine .I (r:=cD x) (aP h hn) ?_
  refine .B ?_
  refine .C (bN x (by omega)).frz ?_
  refine .B ?_
  refine .V ?_
  refine .B ?_
  refine J.aD rfl rfl rfl rfl rfl rfl rfl rfl rfl rfl rfl rfl rfl rfl rfl rfl rfl rfl rfl (by omega) ?_
  refine .B ?_
  rw[aj hlt (by omega)]
  exact T.K (ih trivial)
 ·intro _
  refine .B ?_
  refine T.cf2 rfl bl ?_
  refine .B ?_
  exact⟨_,.o rfl rfl rfl (fun _=> .inl rfl) (by simp) .nil⟩
theorem yK (sb:Nat)(lv cv mv:Value)(d:aa)(i:Int):SpecX Tryz.prog 141 [.pointer (some ⟨sb,0,none⟩),lv] [] [.box true [.raw lv,.raw cv,.raw mv],.sl 54 1 true (d.map cD)] [] [(true,.raw (.pointer (some ⟨sb,0,none⟩))),(true,.int .i64 i)]
  (fun _=>[.box true [.raw lv,.raw cv,.raw mv],.sl 54 1 true (d.map cD)]) (fun _=>[]) true (fun _=>[.bool (decide (0≤i∧i<d.length))]):=by
 refine SpecX.body (fn:=Tryz.f141) [1000,1001] [] rfl rfl rfl rfl fun w0 Z=> ?_
 refine T.sub (Rel.derawp (s:=0) (g:=1000) rfl rfl rfl) ?_
 refine .B ?_
 refine J.g rfl rfl rfl (fun h1=> ?_) (fun h1=> ?_)
 ·have h1:0≤i:=h1
  have e:decide (0≤i∧i<d.length)=decide (i<((d.map cD).length:Int)):=by simp[h1]
  rw[e]
  refine .B ?_
  refine J.sub (Rel.deraw (s:=12) (g:=1001) rfl rfl) ?_
  refine .B ?_
  exact⟨[0,1],[],[],⟨rfl,⟨_,rfl,rfl,rfl⟩,rfl,⟨_,rfl,rfl,rfl⟩,trivial⟩,trivial,rfl,.val rfl rfl (fun _=>rfl) .nil⟩
 ·have h1: ¬0≤i:=h1
  have e:decide (0≤i∧i<d.length)=false:=by simp[h1]
  rw[e]
  refine .B ?_
  exact⟨[0,1],[],[],⟨rfl,⟨_,rfl,rfl,rfl⟩,rfl,⟨_,rfl,rfl,rfl⟩,trivial⟩,trivial,rfl,.val rfl rfl (fun _=>rfl) .nil⟩
theorem uK (sb:Nat)(lv cv mv:Value)(ch:List (Int×List (Int×Int)))(mk:List Int)(hl:(mk.length+1)*8≤140737488355328):SpecX Tryz.prog 115 [.pointer (some ⟨sb,0,none⟩),cv] [mv] [.box true [.raw lv,.raw cv,.raw mv],.sl 156 2 true (ch.map cCh)] [.sl 3 1 true (mk.map cI)] [(true,.raw (.pointer (some ⟨sb,0,none⟩)))]
  (fun ns=>[.box true [.raw lv,.raw cv,.raw (ns.getD 0 undef)],.sl 156 2 true (ch.map cCh)]) (fun _=>[.sl 3 1 true ((mk++[(ch.length:Int)]).map cI)]) true (fun _=>[]):=by
 refine SpecX.body (fn:=Tryz.f115) [1000,1001,1002] [1003] rfl rfl rfl rfl fun w0 Z=> ?_
 refine T.sub (Rel.derawp (s:=0) (g:=1000) rfl rfl rfl) ?_
 refine T.rdw 14 rfl (by kernel_rfl) rfl ?_
 iterate 4 refine J.H rfl ?_
 refine J.lr 1002 (q:=2) (u:=mv) rfl rfl rfl rfl rfl rfl rfl rfl rfl ?_
 iterate 3 refine J.H rfl ?_
 refine J.lr 1001 (q:=1) (u:=cv) rfl rfl rfl rfl rfl rfl rfl rfl rfl ?_
 refine .M ?_
 refine .V ?_
 refine J.ad rfl rfl rfl rfl rfl rfl rfl rfl rfl rfl rfl rfl rfl rfl rfl rfl rfl rfl (cJ rfl) (by show(List.length _+1)*8≤_;simp;omega) ?_
 refine .M ?_
 refine⟨by kernel_rfl,?_⟩
 refine J.name 1003 (s:=13) rfl rfl rfl fun u=> ?_
 refine J.sub (Rel.raw (s:=13) (g:=1003) rfl (.inl rfl) rfl rfl rfl) ?_
 refine .W ?_
 refine .B ?_
 have e:mk.map cI++[[PV.int .i64 ((ch.map cCh).length:Nat)]]=(mk++[(ch.length:Int)]).map cI:=by simp[cI]
 refine⟨[0,1],[3],[u],⟨rfl,⟨_,rfl,rfl,rfl⟩,rfl,⟨_,rfl,rfl,rfl⟩,trivial⟩,⟨rfl,⟨_,rfl,?_,rfl⟩,trivial⟩,rfl,.nil⟩
 rw[←e];rfl
theorem ug (d:List (Int×Int))(hl:d.length≤1048576):Spec Tryz.prog 127 false [dm d] [.val (.bool (!(List.range d.length).any (badR d)))]:=by
 refine Spec.body Tryz.func127 rfl rfl rfl fun w0 Z0=> ?_
 generalize hR:(!(List.range d.length).any (badR d))=R
 refine .B ?_
 refine T.K (T.ind (fun i:Nat=>⟨[(0,.val false (dm d)),(5,.val false (dm d)),(6,.val true (.int .i64 (d.map cR).length)),(7,.val true (.int .i64 i))],[],0⟩) (fun i=>i≤d.length∧∀j,j<i→badR d j=false) (fun i=>d.length-i) 0 ⟨Nat.zero_le _,fun j hj=>absurd hj (Nat.not_lt_zero j)⟩ (fun _ _ h=>h) ?_)
 rintro i ⟨hi,hb⟩ ih
 refine .B ?_
 refine T.cd rfl (fun h1=> ?_) (fun h1=> ?_)
 ·have h6:i<d.length:=by simpa using h1
  have hrow:(d.map cR)[((i:Nat):Int).toNat]? =some (cR (d.getD i (0,0))):=by simp[h6,List.getD_eq_getElem?_getD]
  have hprev:0<i→(d.map cR)[(((i-1:Nat)):Int).toNat]? =some (cR (d.getD (i-1) (0,0)))∧aG (d.getD (i-1) (0,0)).2=true:=fun h=>by
   refine⟨by rw[Int.toNat_natCast,List.getElem?_map,List.getElem?_eq_getElem (show i-1<d.length by omega),List.getD_eq_getElem?_getD,List.getElem?_eq_getElem (show i-1<d.length by omega)];rfl,?_⟩
   have:=hb (i-1) (by omega)
   unfold badR at this
   simp only[Bool.or_eq_false_iff,Bool.not_eq_false']at this
   exact this.2.1
  have hno:badR d i=true→R=false:=fun h=>by
   rw[←hR,Bool.not_eq_false']
   exact List.any_eq_true.2 ⟨i,List.mem_range.2 h6,h⟩
  have hbd:badR d i=(!aG (d.getD i (0,0)).1||(!aG (d.getD i (0,0)).2||(decide ((d.getD i (0,0)).1 > (d.getD i (0,0)).2)||(decide ((i:Int) > 0)&&decide ((d.getD i (0,0)).1-(d.getD (i-1) (0,0)).2<2))))):=rfl
  have ih1:=fun hbi:badR d i=false=>ih (i+1) ⟨by omega,fun j hj=>by
   by_cases e:j=i
   ·rw[e];exact hbi
   ·exact hb j (by omega)⟩ (by omega)
  have hw1:IntKind.i64.wrap ((i:Int)+1)=((i+1:Nat):Int):=by rw[ac (by omega) (by omega)];omega
  have hw2:0<i→IntKind.i64.wrap ((i:Int)-1)=((i-1:Nat):Int):=fun h=>by rw[ac (by omega) (by omega)];omega
  generalize badR d i=bad at*
  generalize d.getD i (0,0)=r at*
  generalize d.getD (i-1) (0,0)=p at*
  obtain⟨lo,hi2⟩:=r
  simp only at*
  have v1:=iY lo
  have v2:=iY hi2
  have wn:IntKind.i64.wrap (p.2+2)=p.2+2∨i=0:=by
   by_cases h0:i=0
   ·exact .inr h0
   ·have hpv:=(hprev (by omega)).2
    simp only[aG,decide_eq_true_eq]at hpv
    exact .inl (ac (by omega) (by omega))
  refine .B ?_
  refine .I (r:=cR (lo,hi2)) hrow ?_
  refine .B ?_
  refine .L ?_
  refine .B ?_
  refine .W ?_
  refine .B ?_
  refine .C v1 ?_
  refine .B ?_
  cases a1:aG lo with
  |false=>
   obtain rfl:=hno (by rw[hbd,a1];rfl)
   refine .B ?_
   refine T.ct rfl ?_
   refine .B ?_
   exact r1
  |true=>
   refine .B ?_
   refine .C v2 ?_
   refine .B ?_
   cases a2:aG hi2 with
   |false=>
    obtain rfl:=hno (by rw[hbd,a1,a2];rfl)
    refine .B ?_
    refine T.ct rfl ?_
    refine .B ?_
    exact r1
   |true=>
    refine .B ?_
    refine J.g rfl rfl rfl (fun h3=> ?_) (fun h3=> ?_)
    ·have h3:lo > hi2:=h3
     obtain rfl:=hno (by rw[hbd,a1,a2,decide_eq_true h3];rfl)
     refine .B ?_
     refine T.ct rfl ?_
     refine .B ?_
     exact r1
    ·have h3: ¬lo > hi2:=h3
     refine .B ?_
     refine J.g rfl rfl rfl (fun h4=> ?_) (fun h4=> ?_)
     ·have h4:(i:Int) > 0:=h4
      refine .B ?_
      rw[hw2 (by omega)]
      refine .I (r:=cR p) (hprev (by omega)).1 ?_
      refine .B ?_
      rw[wn.resolve_right (by omega)]
      refine T.cd rfl (fun h5=> ?_) (fun h5=> ?_)
      ·have h5:lo<p.2+2:=h5
       obtain rfl:=hno (by rw[hbd,a1,a2,decide_eq_false h3,decide_eq_true h4,decide_eq_true (show lo-p.2<2 by omega)];rfl)
       refine .B ?_
       exact r1
      ·have h5: ¬lo<p.2+2:=h5
       refine .B ?_
       rw[hw1]
       exact T.K (ih1 (by rw[hbd,a1,a2,decide_eq_false h3,decide_eq_true h4,decide_eq_false (show¬lo-p.2<2 by omega)];rfl))
     ·have h4: ¬(i:Int) > 0:=h4
      refine .B ?_
      refine T.cf rfl ?_
      refine .B ?_
      rw[hw1]
      exact T.K (ih1 (by rw[hbd,a1,a2,decide_eq_false h3,decide_eq_false h4];rfl))
 ·have h7:i=d.length:=by simp at h1;omega
  have:R=true:=by
   rw[←hR,Bool.not_eq_true',List.any_eq_false]
   intro j hj
   have:=hb j (by have:=List.mem_range.1 hj;omega)
   rw[this];simp
  subst this
  refine .B ?_
  exact r1
theorem pE: ∀(l:List (Int×Int)) (n:Int),(∀r∈l,-1048576≤r.1∧r.2≤1048576∧r.1≤r.2)→0≤n→n+l.length*4194304≤4611686018427387904→l.foldl (fun n r=>wr (n+wr (wr (r.2-r.1)+1))) n=n+sizeI l
 | [],n,_,_,_=>by simp[sizeI]
 |r::l,n,h,h0,hb=>by
  have hr:=h r (.head _)
  rw[List.length_cons]at hb
  have e:wr (n+wr (wr (r.2-r.1)+1))=n+(r.2-r.1+1):=by
   simp only[wr]
   rw[ac (n:=r.2-r.1) (by omega) (by omega),ac (n:=r.2-r.1+1) (by omega) (by omega),ac (by omega) (by omega)]
  rw[List.foldl_cons,e,pE l _ (fun r hr=>h r (.tail _ hr)) (by omega) (by omega)]
  simp only[sizeI,List.map_cons,List.sum_cons]
  omega
theorem i5 (d:List (Int×Int))(hl:d.length≤1048576):Spec Tryz.prog 99 false [dm d] [.val (.int .i64 (chkR d))]:=by
 refine Spec.body Tryz.func99 rfl rfl rfl fun w0 Z0=> ?_
 have hr:=ug d hl
 have hz:=gu d (by omega)
 unfold chkR
 cases hb:(List.range d.length).any (badR d)with
 |true=>
  rw[hb]at hr
  refine .B ?_
  refine .C hr ?_
  refine .B ?_
  refine T.ct rfl ?_
  refine .B ?_
  exact r1
 |false=>
  rw[hb]at hr
  have e:fC d=sizeI d:=by
   have:=pE d 0 (fun r hr=>by
    obtain⟨i,hi⟩:=List.getElem?_of_mem hr
    have hil:=(List.getElem?_eq_some_iff.1 hi).1
    have h2:=List.any_eq_false.1 hb i (List.mem_range.2 hil)
    unfold badR at h2
    rw[List.getD_eq_getElem?_getD,hi]at h2
    simp only[Option.getD_some,Bool.or_eq_true,not_or,Bool.not_eq_true',aG,decide_eq_true_eq,decide_eq_false_iff_not,Classical.not_not]at h2
    omega) (by omega) (by omega)
   rw[Int.zero_add]at this
   exact this
  rw[e]at hz
  refine .B ?_
  refine .C hr ?_
  refine .B ?_
  refine T.cf rfl ?_
  refine .B ?_
  refine .C hz ?_
  refine .B ?_
  refine T.cd rfl (fun h1=> ?_) (fun h1=> ?_)
  ·have h1:sizeI d > 4096:=h1
   refine .B ?_
   exact⟨_,.v rfl rfl (by rw[if_pos h1];rfl) (fun _=>rfl) .nil⟩
  ·have h1: ¬sizeI d > 4096:=h1
   refine .B ?_
   exact⟨_,.v rfl rfl (by rw[if_neg h1];rfl) (fun _=>rfl) .nil⟩
theorem jF {s:Int×Int}: ∀(b:List (Int×Int)) (lo hi:Int) (out:List (Int×Int)),ax b→s∈b→s.1≤lo→lo≤hi→hi≤s.2→-1048576≤s.2∧s.2≤1048576→bI b lo hi out=(s.2+1,out)
 | [],lo,hi,out,_,h,_,_,_,_=>by cases h
 |y::b,lo,hi,out,hb,h,h1,h2,h3,h4=>by
  have hp:=List.pairwise_cons.1 hb.2
  rw[bI]
  rcases List.mem_cons.1 h with rfl|h
  ·rw[if_neg (by omega),if_neg (by omega)]
   have hw:wr (s.2+1)=s.2+1:=ac (by omega) (by omega)
   rw[hw]
   have: ∀(b:List (Int×Int)) (o:List (Int×Int)),(∀t∈b,s.2+1<t.1)→bI b (s.2+1) hi o=(s.2+1,o):=by
    intro b
    induction b with
    |nil=>intro o _;rfl
    |cons t b ih=>
     intro o ht
     rw[bI,if_pos (.inr (by have:=ht t (.head _);omega))]
     exact ih o fun t h=>ht t (.tail _ h)
   exact this b out fun t ht=>by have:=hp.1 t ht;omega
  ·have:=hp.1 s h
   rw[if_pos (.inl (by omega))]
   exact jF b lo hi out hb.tail h h1 h2 h3 h4
theorem xU {a b:List (Int×Int)}(ha:ax a)(hb:Fine b)(hs: ∀v∈vals a,v∈vals b):dX a b=[]:=by
 have key: ∀(l:List (Int×Int)),(∀r∈l,r∈a)→l.foldl (cz b) []=[]:=by
  intro l
  induction l with
  |nil=>intro _;rfl
  |cons r l ih=>
   intro hl
   have hr:=hl r (.head _)
   have hr1:=ha.1 r hr
   obtain⟨s,hsb,h1,h2⟩:=aQ.1 (hs r.1 (aQ.2 ⟨r,hr,Int.le_refl _,hr1⟩))
   have h3:r.2≤s.2:=by
    apply Classical.byContradiction
    intro hn
    obtain⟨t,htb,h4,h5⟩:=aQ.1 (hs (s.2+1) (aQ.2 ⟨r,hr,by omega,by omega⟩))
    have hsp:=hb.ok.1 s hsb
    have htp:=hb.ok.1 t htb
    have hne:s≠t:=fun e=>by subst e;omega
    have: ∀{l:List (Int×Int)},l.Pairwise (fun r s=>r.2+2≤s.1)→s∈l→t∈l→s.2+2≤t.1∨t.2+2≤s.1:=by
     intro l hp
     induction l with
     |nil=>intro h;cases h
     |cons x l ih=>
      intro hs ht
      have hx:=List.pairwise_cons.1 hp
      rcases List.mem_cons.1 hs with e1|hs
      ·rcases List.mem_cons.1 ht with e2|ht
       ·exact absurd (e1.trans e2.symm) hne
       ·rw[e1];exact .inl (hx.1 t ht)
      ·rcases List.mem_cons.1 ht with e2|ht
       ·rw[e2];exact .inr (hx.1 s hs)
       ·exact ih hx.2 hs ht
    rcases this hb.ok.2 hsb htb with h|h<;>omega
   have hsv:=hb.val s.2 (aQ.2 ⟨s,hsb,hb.ok.1 s hsb,Int.le_refl _⟩)
   rw[List.foldl_cons]
   have e:cz b [] r=[]:=by
    unfold cz
    rw[jF b r.1 r.2 [] hb.ok hsb h1 hr1 h3 hsv,if_neg (by simp only;omega)]
   rw[e]
   exact ih fun r h=>hl r (.tail _ h)
 exact key a fun r h=>h
theorem t6 {x:List (Int×Int)}(hf:Fine x)(hl:(vals x).length≤4096):chkR x=0:=by
 unfold chkR
 rw[if_neg,if_neg]
 ·rw[sB hf.ok];omega
 ·intro h
  obtain⟨i,hi,hb⟩:=List.any_eq_true.1 h
  have hil:=List.mem_range.1 hi
  have hm:=List.getElem_mem hil
  have h0:=hf.ok.1 _ hm
  have hv1:=hf.val x[i].1 (aQ.2 ⟨_,hm,Int.le_refl _,h0⟩)
  have hv2:=hf.val x[i].2 (aQ.2 ⟨_,hm,h0,Int.le_refl _⟩)
  have hp:0<i→x[i-1].2+2≤x[i].1:=fun h=>List.pairwise_iff_getElem.1 hf.ok.2 (i-1) i (by omega) hil (by omega)
  unfold badR at hb
  rw[List.getD_eq_getElem?_getD,List.getElem?_eq_getElem hil]at hb
  simp only[Option.getD_some,Bool.or_eq_true,Bool.not_eq_true',Bool.and_eq_true,decide_eq_true_eq,aG,decide_eq_false_iff_not]at hb
  rcases hb with hb|hb|hb|⟨h1,h2⟩
  ·omega
  ·omega
  ·omega
  ·have hpi:=hp (by omega)
   rw[List.getD_eq_getElem?_getD,List.getElem?_eq_getElem (show i-1<x.length by omega)]at h2
   simp only[Option.getD_some]at h2
   omega
def chS (ch:List (Int×List (Int×Int)))(i:Nat)(y x:List (Int×Int)):List (Int×List (Int×Int)):=if x=y then ch else ch++[((i:Int),y)]
theorem px (sb:Nat)(lv cv mv:Value)(d:aa)(ch:List (Int×List (Int×Int)))(i:Nat)(x y:List (Int×Int))(fd:FewD d)(hy:d[i]? =some y)(hx:Fine x)(hxl:(vals x).length≤4096)(hs: ∀v∈vals x,v∈vals y)(hl:(ch.length+1)*32≤140737488355328):
  SpecX Tryz.prog 110 [.pointer (some ⟨sb,0,none⟩),lv] [cv] [.box true [.raw lv,.raw cv,.raw mv],.sl 54 1 true (d.map cD)] [.sl 156 2 true (ch.map cCh)] [(true,.raw (.pointer (some ⟨sb,0,none⟩))),(true,.int .i64 i),(false,dm x)]
  (fun ns=>[.box true [.raw lv,.raw (ns.getD 0 undef),.raw mv],.sl 54 1 true ((d.set i x).map cD)]) (fun _=>[.sl 156 2 true ((chS ch i y x).map cCh)]) true (fun _=>[.int .i64 0]):=by
 refine SpecX.body (fn:=Tryz.f110) [1000,1001,1002] [1003] rfl rfl rfl rfl fun w0 Z=> ?_
 have hil:=(List.getElem?_eq_some_iff.1 hy).1
 have hds:=fd.small
 have hym:y∈d:=List.mem_of_getElem? hy
 have hyl:=bE (fd.fine y hym).ok
 have hyf:=fd.few y hym
 have hxd:=bE hx.ok
 have his:=yK sb lv cv mv d (i:Int)
 rw[show decide (0≤(i:Int)∧(i:Int)<d.length)=true from decide_eq_true ⟨by omega,by omega⟩]at his
 have hck:=i5 x (by omega)
 rw[t6 hx hxl]at hck
 have hmi:=j4 x y (by omega) (by
  have:(x.length+1)*(y.length+1)≤4097*4097:=Nat.mul_le_mul (by omega) (by omega)
  omega)
 rw[xU hx.ok (fd.fine y hym) hs]at hmi
 have hsa:=d7 x y (by omega)
 have hrow:(d.map cD)[((i:Nat):Int).toNat]? =some (cD y):=by rw[Int.toNat_natCast,List.getElem?_map,hy];rfl
 have hcl:=bN x (by omega)
 refine T.sub (Rel.derawp (s:=0) (g:=1000) rfl rfl rfl) ?_
 refine .B ?_
 refine J.cx [0,1] [1000,1001] [] his ⟨rfl,⟨_,rfl,rfl,rfl⟩,rfl,⟨_,rfl,rfl,rfl⟩,trivial⟩ (fun ns hns=> ?_)
 refine .B ?_
 refine T.cf rfl ?_
 refine .B ?_
 refine .C hck ?_
 refine .B ?_
 refine T.cf rfl ?_
 refine .B ?_
 refine J.sub (Rel.deraw (s:=24) (g:=1001) rfl rfl) ?_
 refine .B ?_
 refine J.io rfl rfl rfl rfl rfl rfl rfl rfl rfl (by omega) (by simpa using hil) rfl ?_
 refine .B ?_
 refine J.lo rfl rfl rfl rfl rfl rfl (r:=cD y) hrow rfl ?_
 refine .B ?_
 refine .C hmi ?_
 refine .B ?_
 refine T.cf rfl ?_
 refine .B ?_
 refine J.sub (Rel.deraw (s:=36) (g:=1001) rfl rfl) ?_
 refine .B ?_
 refine J.io rfl rfl rfl rfl rfl rfl rfl rfl rfl (by omega) (by simpa using hil) rfl ?_
 refine .B ?_
 refine J.lo rfl rfl rfl rfl rfl rfl (r:=cD y) hrow rfl ?_
 refine .B ?_
 refine .C hsa ?_
 refine .B ?_
 by_cases hxy:x=y
 ·rw[decide_eq_true hxy]
  refine .B ?_
  refine T.sub (Rel.ecp 1003 1002 rfl) ?_
  refine T.cf rfl ?_
  refine .B ?_
  have e1:chS ch i y x=ch:=if_pos hxy
  have e2:(d.set i x).map cD=d.map cD:=by
   rw[hxy]
   have:d.set i y=d:=by
    refine List.ext_getElem? fun j=> ?_
    by_cases hj:j=i
    ·rw[hj,List.getElem?_set_self hil,hy]
    ·rw[List.getElem?_set_ne (Ne.symm hj)]
   rw[this]
  rw[e1,e2]
  exact⟨[0,1],[2],[cv],⟨rfl,⟨_,rfl,rfl,rfl⟩,rfl,⟨_,rfl,rfl,rfl⟩,trivial⟩,⟨rfl,⟨_,rfl,rfl,rfl⟩,trivial⟩,rfl,.val rfl rfl (fun _=>rfl) .nil⟩
 ·rw[decide_eq_false hxy]
  refine .B ?_
  refine T.ct rfl ?_
  refine .M ?_
  refine T.K (?_:T _ _ ⟨[(0,.optr 0 0 0 0),(1,.val true (.int .i64 i)),(2,.val false (dm x)),(6,.val true (.int .i64 0)),(1000,.eq (.pointer (some ⟨sb,0,none⟩)) 0),(1001,.eq lv 1),(1002,.eq cv 2)],[(0,some (.box true [.raw lv,.raw cv,.raw mv])),(1,some (.sl 54 1 true (d.map cD))),(2,some (.sl 156 2 true (ch.map cCh)))],3⟩ _)
  refine T.rdw 19 rfl (by kernel_rfl) rfl ?_
  iterate 4 refine J.H rfl ?_
  refine J.lr 1002 (q:=2) (u:=cv) rfl rfl rfl rfl rfl rfl rfl rfl rfl ?_
  iterate 5 refine J.H rfl ?_
  refine J.lr 1001 (q:=1) (u:=lv) rfl rfl rfl rfl rfl rfl rfl rfl rfl ?_
  refine .M ?_
  refine J.io rfl rfl rfl rfl rfl rfl rfl rfl rfl (by omega) (by simpa using hil) rfl ?_
  refine .M ?_
  refine J.lo rfl rfl rfl rfl rfl rfl (r:=cD y) hrow rfl ?_
  refine .M ?_
  refine .V ?_
  refine J.ad rfl rfl rfl rfl rfl rfl rfl rfl rfl rfl rfl rfl rfl rfl rfl rfl rfl rfl (cJ rfl) (by show(List.length _+1)*32≤_;simp;omega) ?_
  refine .M ?_
  refine⟨by kernel_rfl,?_⟩
  refine J.name 1003 (s:=58) rfl rfl rfl fun u=> ?_
  refine J.sub (Rel.raw (s:=58) (g:=1003) rfl (.inl rfl) rfl rfl rfl) ?_
  refine .W ?_
  refine .M ?_
  have e:ch.map cCh++[cCh ((i:Int),y)]=(chS ch i y x).map cCh:=by unfold chS;rw[if_neg hxy];simp
  have e1:ch.map cCh++[[PV.int .i64 (i:Int),dm y]]=(chS ch i y x).map cCh:=e
  refine T.K (?_:T _ _ ⟨[(0,.optr 0 0 0 0),(1,.val true (.int .i64 i)),(2,.val false (dm x)),(6,.val true (.int .i64 0)),(1000,.eq (.pointer (some ⟨sb,0,none⟩)) 0),(1001,.eq lv 1),(1003,.eq u 2)],[(0,some (.box true [.raw lv,.raw u,.raw mv])),(1,some (.sl 54 1 true (d.map cD))),(2,some (.sl 156 2 true (ch.map cCh++[[PV.int .i64 (i:Int),dm y]])))],3⟩ _)
  rw[e1]
  refine T.rdm 8 rfl (by kernel_rfl) rfl ?_
  iterate 4 refine J.H rfl ?_
  refine J.lr 1001 (q:=1) (u:=lv) rfl rfl rfl rfl rfl rfl rfl rfl rfl ?_
  refine .M ?_
  refine .C hcl.frz ?_
  refine .M ?_
  refine J.io rfl rfl rfl rfl rfl rfl rfl rfl rfl (by omega) (by simpa using hil) rfl ?_
  refine .M ?_
  refine J.w1 rfl rfl rfl rfl rfl rfl rfl rfl rfl rfl rfl (enc:=cD) (z:=x) (fun _=>rfl) (by simpa using hil) ?_
  refine .B ?_
  exact⟨[0,1],[2],[u],⟨rfl,⟨_,rfl,rfl,rfl⟩,rfl,⟨_,rfl,rfl,rfl⟩,trivial⟩,⟨rfl,⟨_,rfl,rfl,rfl⟩,trivial⟩,rfl,.val rfl rfl (fun _=>rfl) .nil⟩
def fS (l:List (Int×List (Int×Int)))(d:aa):aa:=l.foldr (fun c d=>d.set c.1.toNat c.2) d
theorem xj (l:List (Int×List (Int×Int)))(c:Int×List (Int×Int))(d:aa):fS (l++[c]) d=fS l (d.set c.1.toNat c.2):=by simp[fS]
theorem uL (sb:Nat)(lv cv mv:Value)(d:aa)(ch tail:List (Int×List (Int×Int)))(mk:List Int)(ht: ∀c∈tail,0≤c.1∧c.1<(d.length:Int))(hd:d.length<4611686018427387904)(hl:(ch++tail).length<4611686018427387904)(hm:mk.length<4611686018427387904):
  SpecXD Tryz.prog 116 [.pointer (some ⟨sb,0,none⟩),lv] [cv,mv] [.box true [.raw lv,.raw cv,.raw mv],.sl 54 1 true (d.map cD)] [.sl 156 2 true ((ch++tail).map cCh),.sl 3 1 true ((mk++[(ch.length:Int)]).map cI)] [(true,.raw (.pointer (some ⟨sb,0,none⟩)))]
  (fun ns=>[.box true [.raw lv,.raw (ns.getD 0 undef),.raw (ns.getD 1 undef)],.sl 54 1 true ((fS tail d).map cD)]) (fun _=>[.sl 156 2 true (ch.map cCh),.sl 3 1 true (mk.map cI)]) true (fun _=>[.int .i64 0]):=by
 refine SpecXD.body (fn:=Tryz.f116) [1000,1001,1002,1003] [1004,1005] rfl rfl rfl rfl fun w0 Z=> ?_
 refine T.sub (Rel.derawp (s:=0) (g:=1000) rfl rfl rfl) ?_
 refine T.known 1003 3 rfl rfl (by simp) fun mb mc emv hmc hm0=> ?_
 obtain rfl:mv= .slice (some ⟨mb,0,none⟩) (mk.length+1) mc:=by rw[emv];simp
 rw[List.length_map,List.length_append,List.length_singleton]at hmc
 clear emv
 have emn:(((mk++[(ch.length:Int)]).map cI).length:Int)=(mk.length:Int)+1:=by simp
 have ew:IntKind.wrap .i64 ((mk.length:Int)+1-1)=(mk.length:Int):=(ac (by omega) (by omega)).trans (by omega)
 refine .B ?_
 refine J.sub (Rel.deraw (s:=8) (g:=1003) rfl rfl) ?_
 refine .B ?_
 refine T.cf2 rfl (decide_eq_false (by rw[emn];omega)) ?_
 refine .M ?_
 rw[emn]
 refine T.K (T.ind (fun s:Value×List (Int×List (Int×Int))×aa=>⟨[(0,.optr 0 0 0 0),(3,.val true (.int .i64 (mk.length+1))),(1000,.eq (.pointer (some ⟨sb,0,none⟩)) 0),(1001,.eq lv 1),(1002,.eq s.1 2),(1003,.eq (.slice (some ⟨mb,0,none⟩) (mk.length+1) mc) 3)],[(0,some (.box true [.raw lv,.raw s.1,.raw (.slice (some ⟨mb,0,none⟩) (mk.length+1) mc)])),(1,some (.sl 54 1 true (s.2.2.map cD))),(2,some (.sl 156 2 true ((ch++s.2.1).map cCh))),(3,some (.sl 3 1 true ((mk++[(ch.length:Int)]).map cI)))],4⟩)
  (fun s=>(∀c∈s.2.1,0≤c.1∧c.1<(d.length:Int))∧s.2.2.length=d.length∧fS s.2.1 s.2.2=fS tail d∧s.2.1.length≤tail.length) (fun s=>s.2.1.length) (cv,tail,d) ⟨ht,rfl,rfl,Nat.le_refl _⟩ (fun _ _ h=>h) ?_)
 rintro⟨cu,tl,dd⟩ ⟨h1,h2,h3,h4⟩ ih
 dsimp only at h1 h2 h3 h4 ih⊢
 refine .M ?_
 refine T.rdm 13 rfl (by kernel_rfl) rfl ?_
 iterate 3 refine J.H rfl ?_
 refine J.lr 1002 (q:=2) (u:=cu) rfl rfl rfl rfl rfl rfl rfl rfl rfl ?_
 iterate 4 refine J.H rfl ?_
 refine J.lr 1003 (q:=3) (u:= .slice (some ⟨mb,0,none⟩) (mk.length+1) mc) rfl rfl rfl rfl rfl rfl rfl rfl rfl ?_
 iterate 2 refine J.H rfl ?_
 rw[ew]
 refine J.io rfl rfl rfl rfl rfl rfl rfl rfl rfl (by omega) (by simp) rfl ?_
 refine J.lo rfl rfl rfl rfl rfl rfl (r:=cI ch.length) (by rw[Int.toNat_natCast,List.getElem?_map,List.getElem?_append_right (Nat.le_refl _),Nat.sub_self];rfl) rfl ?_
 refine .M ?_
 have ecn: ∀l:List (Int×List (Int×Int)),(((ch++l).map cCh).length:Int)=(ch.length:Int)+l.length:=fun l=>by simp
 rcases List.eq_nil_or_concat tl with rfl|⟨tl,c,rfl⟩
 ·refine T.cf2 rfl (decide_eq_false (by rw[ecn];simp)) ?_
  refine .M ?_
  rw[ew]
  refine J.rs mk.length rfl (by omega) hm0 rfl rfl rfl rfl rfl rfl rfl rfl ?_
  refine .M ?_
  refine .W ?_
  refine J.sub (Rel.recut 1003 3 mk.length rfl rfl (by simp)) ?_
  have etk:((mk++[(ch.length:Int)]).map cI).take mk.length=mk.map cI:=by rw[←List.map_take,List.take_left]
  rw[etk,←show dd=fS tail d from h3,List.append_nil]
  refine J.sub (Rel.ecp 1004 1002 rfl) ?_
  refine J.sub (Rel.ecp 1005 1003 rfl) ?_
  refine .M ?_
  exact⟨[0,1],[2,4],[cu,.slice (some ⟨mb,0,none⟩) mk.length mc],⟨rfl,⟨_,rfl,rfl,rfl⟩,rfl,⟨_,rfl,rfl,rfl⟩,trivial⟩,⟨rfl,⟨_,rfl,rfl,rfl⟩,rfl,⟨_,rfl,rfl,rfl⟩,trivial⟩,rfl,.val rfl rfl (fun _=>rfl) .nil⟩
 ·rw[List.concat_eq_append]at*
  refine T.ct2 rfl (decide_eq_true (by rw[ecn];simp;omega)) ?_
  refine .M ?_
  refine T.canon (keep:=[0,3,1000,1001,1002,1003]) (os:=[1000,1001,1002,1003]) rfl ?_
  refine T.rdm 13 rfl (by kernel_rfl) rfl ?_
  iterate 3 refine J.H rfl ?_
  refine J.lr 1002 (q:=2) (u:=cu) rfl rfl rfl rfl rfl rfl rfl rfl rfl ?_
  iterate 3 refine J.H rfl ?_
  refine J.lr 1002 (q:=2) (u:=cu) rfl rfl rfl rfl rfl rfl rfl rfl rfl ?_
  iterate 2 refine J.H rfl ?_
  have ewl:IntKind.wrap .i64 ((((ch++(tl++[c])).map cCh).length:Int)-1)=((ch++tl).length:Int):=by
   rw[ecn,ac (by simp;omega) (by simp at *;omega)];simp;omega
  rw[ewl]
  have hrow:((ch++(tl++[c])).map cCh)[(((ch++tl).length:Nat):Int).toNat]? =some (cCh c):=by
   rw[Int.toNat_natCast,List.getElem?_map,←List.append_assoc,List.getElem?_append_right (Nat.le_refl _),Nat.sub_self];rfl
  refine J.io rfl rfl rfl rfl rfl rfl rfl rfl rfl (by omega) (by simp;omega) rfl ?_
  refine J.lo rfl rfl rfl rfl rfl rfl (r:=cCh c) hrow rfl ?_
  refine .M ?_
  refine .L ?_
  refine .M ?_
  refine .W ?_
  refine .M ?_
  refine T.K (?_:T _ _ ⟨[(0,.optr 0 0 0 0),(3,.val true (.int .i64 (mk.length+1))),(4,.optr 4 0 0 0),(1000,.eq (.pointer (some ⟨sb,0,none⟩)) 0),(1001,.eq lv 1),(1002,.eq cu 2),(1003,.eq (.slice (some ⟨mb,0,none⟩) (mk.length+1) mc) 3)],[(0,some (.box true [.raw lv,.raw cu,.raw (.slice (some ⟨mb,0,none⟩) (mk.length+1) mc)])),(1,some (.sl 54 1 true (dd.map cD))),(2,some (.sl 156 2 true ((ch++(tl++[c])).map cCh))),(3,some (.sl 3 1 true ((mk++[(ch.length:Int)]).map cI))),(4,some (.box true (cCh c)))],5⟩ _)
  refine T.known 1002 2 rfl rfl (by simp) fun cb cc ecu hcc hc0=> ?_
  have ecl:((ch++(tl++[c])).map cCh).length=(ch++tl).length+1:=by simp;omega
  rw[ecl]at ecu hcc
  subst ecu
  refine T.rdm 12 rfl (by kernel_rfl) rfl ?_
  iterate 8 refine J.H rfl ?_
  refine J.lr 1002 (q:=2) (u:= .slice (some ⟨cb,0,none⟩) ((ch++tl).length+1) cc) rfl rfl rfl rfl rfl rfl rfl rfl rfl ?_
  iterate 2 refine J.H rfl ?_
  rw[ewl]
  refine J.rs (ch++tl).length rfl (by omega) hc0 rfl rfl rfl rfl rfl rfl rfl rfl ?_
  refine .M ?_
  refine .W ?_
  refine .M ?_
  refine T.sub (Rel.recut 1002 2 (ch++tl).length rfl rfl (by rw[ecl];omega)) ?_
  have etk:((ch++(tl++[c])).map cCh).take (ch++tl).length=(ch++tl).map cCh:=by rw[←List.map_take,←List.append_assoc,List.take_left]
  rw[etk]
  have hcd:0≤c.1∧c.1<(d.length:Int):=h1 c (by simp)
  refine T.K (?_:T _ _ ⟨[(0,.optr 0 0 0 0),(3,.val true (.int .i64 (mk.length+1))),(4,.optr 4 0 0 0),(1000,.eq (.pointer (some ⟨sb,0,none⟩)) 0),(1001,.eq lv 1),(1002,.eq (.slice (some ⟨cb,0,none⟩) (ch++tl).length cc) 2),(1003,.eq (.slice (some ⟨mb,0,none⟩) (mk.length+1) mc) 3)],[(0,some (.box true [.raw lv,.raw (.slice (some ⟨cb,0,none⟩) (ch++tl).length cc),.raw (.slice (some ⟨mb,0,none⟩) (mk.length+1) mc)])),(1,some (.sl 54 1 true (dd.map cD))),(2,some (.sl 156 2 true ((ch++tl).map cCh))),(3,some (.sl 3 1 true ((mk++[(ch.length:Int)]).map cI))),(4,some (.box true (cCh c)))],5⟩ _)
  refine T.rdm 9 rfl (by kernel_rfl) rfl ?_
  iterate 4 refine J.H rfl ?_
  refine J.lr 1001 (q:=1) (u:=lv) rfl rfl rfl rfl rfl rfl rfl rfl rfl ?_
  refine .M ?_
  refine J.io rfl rfl rfl rfl rfl rfl rfl rfl rfl hcd.1 (by rw[List.length_map];omega) rfl ?_
  refine .M ?_
  refine J.w1 rfl rfl rfl rfl rfl rfl rfl rfl rfl rfl rfl (enc:=cD) (z:=c.2) (fun _=>rfl) (by rw[h2];omega) ?_
  refine .M ?_
  refine T.K (ih (.slice (some ⟨cb,0,none⟩) (ch++tl).length cc,tl,dd.set c.1.toNat c.2) ⟨fun x hx=>h1 x (List.mem_append_left _ hx),by rw[List.length_set];exact h2,by rw[←xj];exact h3,by rw[List.length_append]at h4;exact Nat.le_trans (Nat.le_add_right _ _) h4⟩ (by simp))
theorem xm (d:aa)(fd:FewD d)(hs: ∀x∈d,(vals x).length≤4096):
  SpecX Tryz.prog 65 [] [] [] [] [(false,aH d)] (fun _=>[]) (fun ns=>[.box true [.raw (ns.getD 1 undef),.raw (ns.getD 2 undef),.raw (ns.getD 3 undef)],.sl 54 1 true (d.map cD),.sl 156 2 true [],.sl 3 1 true []]) true (fun ns=>[.raw (ns.getD 0 undef),.int .i64 0]):=by
 refine SpecX.body (fn:=Tryz.f65) [] [1000,1001,1002,1003] rfl rfl rfl rfl fun w0 Z=> ?_
 have hd:=fd.small
 iterate 1 (refine .A ?_;conv=>whnf)
 refine T.seq ?_
 refine T.r ?_
 refine J.bzr rfl rfl rfl rfl rfl rfl rfl rfl rfl ?_
 refine .M ?_
 refine T.nameO 1000 0 rfl rfl fun u=> ?_
 refine T.sub (Rel.ownN 1001 54 1) ?_
 refine T.sub (Rel.ownN 1002 156 2) ?_
 refine T.sub (Rel.ownN 1003 3 1) ?_
 refine T.K (T.ind (fun s:Value×Nat=>⟨[(4,.optr 0 0 0 0),(10,.val false (aH d)),(11,.val true (.int .i64 (d.map cD).length)),(12,.val true (.int .i64 s.2)),(1000,.eq u 0),(1001,.eq s.1 1),(1002,.eq (.slice none 0 0) 2),(1003,.eq (.slice none 0 0) 3)],[(0,some (.box true [.raw s.1,.raw (.slice none 0 0),.raw (.slice none 0 0)])),(1,some (.sl 54 1 true ((d.take s.2).map cD))),(2,some (.sl 156 2 true [])),(3,some (.sl 3 1 true []))],4⟩)
  (fun s=>s.2≤d.length) (fun s=>d.length-s.2) (.slice none 0 0,0) (Nat.zero_le _) (fun _ _ h=>h) ?_)
 rintro⟨lv,i⟩ hi ih
 dsimp only at hi ih⊢
 by_cases h:i<d.length
 ·have hm:d[i]∈d:=List.getElem_mem h
  have hf:=fd.fine _ hm
  have hxl:=bE hf.ok
  have hxs:=hs _ hm
  have hck:=i5 d[i] (by have:=fd.few _ hm;omega)
  rw[t6 hf (hs _ hm)]at hck
  have hrow:(d.map cD)[((i:Nat):Int).toNat]? =some (cD d[i]):=by rw[Int.toNat_natCast,List.getElem?_map,List.getElem?_eq_getElem h];rfl
  refine .M ?_
  refine T.ct2 rfl (decide_eq_true (by rw[List.length_map];omega)) ?_
  refine .M ?_
  refine .I (r:=cD d[i]) hrow ?_
  refine .M ?_
  refine .C hck ?_
  refine .M ?_
  refine T.cf rfl ?_
  refine .M ?_
  refine T.K (?_:T _ _ ⟨[(4,.optr 0 0 0 0),(6,.val false (dm d[i])),(10,.val false (aH d)),(11,.val true (.int .i64 (d.map cD).length)),(12,.val true (.int .i64 i)),(1000,.eq u 0),(1001,.eq lv 1),(1002,.eq (.slice none 0 0) 2),(1003,.eq (.slice none 0 0) 3)],[(0,some (.box true [.raw lv,.raw (.slice none 0 0),.raw (.slice none 0 0)])),(1,some (.sl 54 1 true ((d.take i).map cD))),(2,some (.sl 156 2 true [])),(3,some (.sl 3 1 true []))],4⟩ _)
  refine T.rdw 13 rfl (by kernel_rfl) rfl ?_
  iterate 5 refine J.H rfl ?_
  refine J.lr 1001 (q:=1) (u:=lv) rfl rfl rfl rfl rfl rfl rfl rfl rfl ?_
  refine .M ?_
  refine .C (bN d[i] (by omega)).frz ?_
  refine .M ?_
  refine .V ?_
  refine J.ad rfl rfl rfl rfl rfl rfl rfl rfl rfl rfl rfl rfl rfl rfl rfl rfl rfl rfl (cJ rfl) (by show(List.length _+1)*24≤_;simp;omega) ?_
  refine .M ?_
  refine⟨by kernel_rfl,?_⟩
  refine J.name 1004 (s:=30) rfl rfl rfl fun u2=> ?_
  refine J.sub (Rel.raw (s:=30) (g:=1004) rfl (.inl rfl) rfl rfl rfl) ?_
  refine .W ?_
  refine .M ?_
  rw[aj h (by omega)]
  have e:(d.take i).map cD++[cD d[i]]=(d.take (i+1)).map cD:=by rw[List.take_succ_eq_append_getElem h,List.map_append];rfl
  refine T.K (?_:T _ _ ⟨[(4,.optr 0 0 0 0),(10,.val false (aH d)),(11,.val true (.int .i64 (d.map cD).length)),(12,.val true (.int .i64 ((i+1:Nat):Int))),(1000,.eq u 0),(1002,.eq (.slice none 0 0) 2),(1003,.eq (.slice none 0 0) 3),(1004,.eq u2 1)],[(0,some (.box true [.raw u2,.raw (.slice none 0 0),.raw (.slice none 0 0)])),(1,some (.sl 54 1 true ((d.take i).map cD++[cD d[i]]))),(2,some (.sl 156 2 true [])),(3,some (.sl 3 1 true []))],4⟩ _)
  rw[e]
  refine T.sub (Rel.ecp 1001 1004 rfl) ?_
  exact T.K (ih (u2,i+1) h (by dsimp only;omega))
 ·obtain rfl:i=d.length:=by omega
  rw[List.take_length]
  refine .M ?_
  refine T.cf2 rfl (decide_eq_false (by rw[List.length_map];omega)) ?_
  refine T.sub (Rel.raw (s:=4) (g:=1000) rfl (.inr rfl) rfl rfl rfl) ?_
  refine .M ?_
  exact⟨[],[0,1,2,3],[u,lv,.slice none 0 0,.slice none 0 0],trivial,⟨rfl,⟨_,rfl,rfl,rfl⟩,rfl,⟨_,rfl,rfl,rfl⟩,rfl,⟨_,rfl,rfl,rfl⟩,rfl,⟨_,rfl,rfl,rfl⟩,trivial⟩,rfl,.val rfl rfl (fun _=>rfl) (.val rfl rfl (fun _=>rfl) .nil)⟩
def gh {α:Type}(p:α→Bool)(l:List α):Int:=match l.findIdx? p with|some i=>(i:Int)|none=> -1
theorem oF {α:Type}(p:α→Bool)(l:List α):decide (gh p l≥0)=l.any p:=by
 unfold gh
 cases h:l.findIdx? p with
 |none=>
  have:l.any p=false:=by
   rw[List.any_eq_false]
   exact fun x hx=>by simpa using List.findIdx?_eq_none_iff.1 h x hx
  rw[this];rfl
 |some i=>
  have:l.any p=true:=by
   rw[List.any_eq_true]
   obtain⟨h1,h2,_⟩:=List.findIdx?_eq_some_iff_getElem.1 h
   exact⟨_,List.getElem_mem h1,h2⟩
  rw[this]
  exact decide_eq_true (Int.natCast_nonneg _)
theorem qr {α:Type}{p:α→Bool}{l pre post:List α}{v:α}{n:Nat}(h:l=pre++v::post)(hn:n=pre.length)(hi: ∀x∈pre,p x=false)(h2:p v=true):gh p l=(n:Int):=by
 unfold gh
 rw[h,List.findIdx?_append,List.findIdx?_eq_none_iff.2 (by simpa using hi),List.findIdx?_cons,if_pos h2]
 simp[hn]
theorem qq {α:Type}{p:α→Bool}{l:List α}(hi: ∀x∈l,p x=false):gh p l= -1:=by
 unfold gh
 rw[List.findIdx?_eq_none_iff.2 (by simpa using hi)]
theorem uA {α:Type}{p:α→Bool}{l:List α}{v:α}(hi: ∀x∈l,p x=false)(h2:p v=false): ∀x∈l++[v],p x=false:=by
 intro x hx
 rcases List.mem_append.1 hx with hx|hx
 ·exact hi x hx
 ·rw[List.mem_singleton.1 hx];exact h2
theorem tO {p:List (Int×Int)→Bool}{f:FuncId}(caps:List PV)(l:List (List (Int×Int)))(hp: ∀v∈l,Spec Tryz.prog f false (dm v::caps) [.val (.bool (p v))])(hl:l.length*8≤140737488355328):Spec Tryz.prog 111 false [aH l,.fn (.func f) [] caps] [.val (.int .i64 (gh p l))]:=by
 refine Spec.body Tryz.func111 rfl rfl rfl fun w0 Z0=> ?_
 refine .B ?_
 refine T.K (T.listI l (fun pre=> ∀v∈pre,p v=false) (fun n pre post=>⟨[(0,.val false (aH l)),(1,.val false (.fn (.func f) [] caps)),(7,.val true (.int .i64 (l.map cD).length)),(8,.val true (.int .i64 n))],[],0⟩) (fun _ _ h=>h) (fun v hv=>by cases hv) ?_ ?_)
 ·rintro n pre v post h hn hi ih
  have hlt:=bZ h hn
  have hsp:=hp v (by rw[h];simp)
  refine .B ?_
  refine T.ct2 rfl (bY h hn) ?_
  refine .B ?_
  refine .I (r:=cD v) (aP h hn) ?_
  refine .B ?_
  refine .C hsp ?_
  refine .B ?_
  refine T.cond rfl (fun h2=> ?_) (fun h2=> ?_)
  ·have h2:p v=true:=h2
   refine .B ?_
   rw[qr h hn hi h2]
   exact r1
  ·have h2:p v=false:=h2
   refine .B ?_
   rw[aj hlt (by omega)]
   exact T.K (ih (uA hi h2))
 ·intro hi
  rw[qq hi]
  refine .B ?_
  refine T.cf2 rfl bl ?_
  refine .B ?_
  exact r1
theorem tM {p:List Int→Bool}{f:FuncId}(caps:List PV)(l:List (List Int))(hp: ∀v∈l,Spec Tryz.prog f false (aA v::caps) [.val (.bool (p v))])(hl:l.length*8≤140737488355328):Spec Tryz.prog 125 false [bT l,.fn (.func f) [] caps] [.val (.int .i64 (gh p l))]:=by
 refine Spec.body Tryz.func125 rfl rfl rfl fun w0 Z0=> ?_
 refine .B ?_
 refine T.K (T.listI l (fun pre=> ∀v∈pre,p v=false) (fun n pre post=>⟨[(0,.val false (bT l)),(1,.val false (.fn (.func f) [] caps)),(7,.val true (.int .i64 (l.map cL).length)),(8,.val true (.int .i64 n))],[],0⟩) (fun _ _ h=>h) (fun v hv=>by cases hv) ?_ ?_)
 ·rintro n pre v post h hn hi ih
  have hlt:=bZ h hn
  have hsp:=hp v (by rw[h];simp)
  refine .B ?_
  refine T.ct2 rfl (bY h hn) ?_
  refine .B ?_
  refine .I (r:=cL v) (aP h hn) ?_
  refine .B ?_
  refine .C hsp ?_
  refine .B ?_
  refine T.cond rfl (fun h2=> ?_) (fun h2=> ?_)
  ·have h2:p v=true:=h2
   refine .B ?_
   rw[qr h hn hi h2]
   exact r1
  ·have h2:p v=false:=h2
   refine .B ?_
   rw[aj hlt (by omega)]
   exact T.K (ih (uA hi h2))
 ·intro hi
  rw[qq hi]
  refine .B ?_
  refine T.cf2 rfl bl ?_
  refine .B ?_
  exact r1
theorem oV {p:List Int→Bool}{f:FuncId}(caps:List PV)(l:List (List Int))(hp: ∀v∈l,Spec Tryz.prog f false (aA v::caps) [.val (.bool (p v))])(hl:l.length*8≤140737488355328):Spec Tryz.prog 88 false [bT l,.fn (.func f) [] caps] [.val (.bool (l.any p))]:=by
 refine Spec.body Tryz.func88 rfl rfl rfl fun w0 Z0=> ?_
 refine .B ?_
 refine .C (tM caps l hp hl) ?_
 refine .B ?_
 exact⟨_,.v rfl rfl (congrArg PV.bool (oF p l)) (fun _=>rfl) .nil⟩
theorem d8 {p:Int→Bool}{f:FuncId}(caps:List PV)(l:List (Int))(hp: ∀v∈l,Spec Tryz.prog f false (.int .i64 v::caps) [.val (.bool (p v))])(hl:l.length*8≤140737488355328):Spec Tryz.prog 129 false [aA l,.fn (.func f) [] caps] [.val (.bool (l.any p))]:=by
 refine Spec.body Tryz.func129 rfl rfl rfl fun w0 Z0=> ?_
 refine .B ?_
 refine .C (mH caps l hp hl) ?_
 refine .B ?_
 exact⟨_,.v rfl rfl (congrArg PV.bool (oF p l)) (fun _=>rfl) .nil⟩
theorem yj {cons:List Con}{d:aa}(gd:GoodD d.length d)(ht: ∀c∈cons,Takes leD (GoodD d.length) (bK c)):AllEnds cons d (gK cons d):=by
 have key: ∀(k:Nat) (a:aa),Come leD (GoodD d.length) bK cons d a→weight a<k→∃R,AllEnds cons d R:=by
  intro k
  induction k with
  |zero=>intro a _ h;omega
  |succ k ih=>
   intro a hc hk
   by_cases hs:eY bK cons a
   ·exact⟨some a,hc,hs⟩
   ·have: ∃c,c∈cons∧bK c a≠some a:=Classical.byContradiction fun h=>hs fun c hm=>Classical.byContradiction fun e=>h ⟨c,hm,e⟩
    obtain⟨c,hm,hne⟩:=this
    cases he:bK c a with
    |none=>exact⟨none,hc.none hm (ht c hm) he⟩
    |some b=>
     obtain⟨g1,g2⟩:=(ht c hm).less a b hc.fine he
     have:=(ja g1 hc.fine g2).2 (fun e=>hne (by rw[he,e]))
     exact ih b (hc.step (be _) hm (ht c hm) he) (by omega)
 obtain⟨R,hR⟩:=key _ d (Come.refl (be _) gd) (Nat.lt_succ_self _)
 rw[←ft hR];exact hR
theorem r7: ∀{cons:List Con},(∀c∈cons,c.vars.length≤1024)→(cons.map fun c=>(usesR c).length).sum≤cons.length*1025
 | [],_=>by simp
 |c::cons,h=>by
  have h1:=r7 fun c hc=>h c (.tail _ hc)
  have h2:(usesR c).length≤1025:=by
   have h1:=e6 (if c.kind=4 then c.vars++[c.b]else c.vars)
   have h2:(if c.kind=4 then c.vars++[c.b]else c.vars).length≤c.vars.length+1:=by split<;>simp
   have:=h c (.head _)
   unfold usesR;omega
  simp only[List.map_cons,List.sum_cons,List.length_cons];omega
theorem zK {e:aa}(hx: ∀x∈e,Fine x)(v:Int):ax (domAt e v):=by
 unfold domAt
 by_cases hv:v.toNat<e.length
 ·rw[List.getD_eq_getElem?_getD,List.getElem?_eq_getElem hv]
  exact(hx _ (List.getElem_mem hv)).ok
 ·rw[List.getD_eq_getElem?_getD,List.getElem?_eq_none (by omega)]
  exact⟨by simp,.nil⟩
theorem nL {n:Nat}{d out:aa}{c:Con}(hc:ConB c)(gd:GoodD n d)(hx: ∀x∈out,Fine x)(hle:leD out d)(h:RightC d c):RightC out c:=by
 rcases h with h|⟨hk,hs⟩
 ·exact .inl (xy hc gd (fun v _=>zK hx v) hle h)
 ·have hl:=hle.1
  refine .inr ⟨hk,⟨hs.fine.len,hs.fine.vl,fun v hv=>by rw[hl];exact hs.fine.vin v hv,hs.fine.ck,hx,by rw[hl];exact hs.fine.dl⟩,hs.nod,hs.pos,hs.op,hs.big⟩
structure RunOk (d:aa)(cons:List Con):Prop where
 gd:GoodD d.length d
 con: ∀c∈cons,c.vars.length≤1024∧ConB c
 right: ∀c∈cons,RightC d c
 prod:prodD d≤1048576
 few:cons.length≤4096
theorem RunOk.step {d:aa}{cons:List Con}(h:RunOk d cons){c:Con}(hc:c∈cons):StepOK d.length (usesR c) (fun g=>(c.kind=4→0≤g c.b∧g c.b≤1)→bS c (nv d.length g)=true) (bK c):=s5 h.gd (h.con c hc).2 (h.right c hc)
theorem RunOk.ends {d:aa}{cons:List Con}(h:RunOk d cons):AllEnds cons d (gK cons d):=yj h.gd fun c hc=>(h.step hc).takes
theorem RunOk.less {d e:aa}{cons:List Con}(h:RunOk d cons)(ge:GoodD d.length e)(hle:leD e d):RunOk e cons:=
 ⟨by rw[ge.len];exact ge,h.con,fun c hc=>nL (h.con c hc).2 h.gd ge.few.fine hle (h.right c hc),Nat.le_trans (xE ge h.gd hle) h.prod,h.few⟩
theorem RunOk.sub {d:aa}{cons l:List Con}(h:RunOk d cons)(hs: ∀c∈l,c∈cons)(hf:l.length≤4096):RunOk d l:=⟨h.gd,fun c hc=>h.con c (hs c hc),fun c hc=>h.right c (hs c hc),h.prod,hf⟩
theorem Br {d e:aa}{cons:List Con}(h:RunOk d cons)(hx: ∀x∈e,Fine x∧(vals x).length≤4096)(hle:leD e d):Spec Tryz.prog 67 false [aH e,cE cons] (aU (gK cons e)):=by
 have hel:=hle.1
 have hd:=h.gd.few.small
 have hfw:=h.few
 have hu:=r7 fun c hc=>(h.con c hc).1
 have hok:ConsOk e cons:=⟨fun c hc=>(h.con c hc).2,fun c hc=>nL (h.con c hc).2 h.gd (fun x hm=>(hx x hm).1) hle (h.right c hc),by omega,by omega⟩
 exact yh e cons (by omega) hx hok fun c hc out go hl=>by
  have ho:=h.less (by rw[←hel];exact go) ((be 0).trans _ _ _ hl hle)
  exact Bb ho.gd (ho.con c hc).2 (ho.right c hc) ho.prod
theorem GoodD.fx {n:Nat}{d:aa}(h:GoodD n d): ∀x∈d,Fine x∧(vals x).length≤4096:=fun x hx=>⟨h.few.fine x hx,h.few.few x hx⟩
theorem leD.rfl' {d:aa}:leD d d:=(be 0).refl d
theorem xt {n:Nat}{d:aa}(gd:GoodD n d){s:List Int}(h:cH d=some s):s.length=n∧∀u:Int,0≤u→u.toNat<n→vals (domAt d u)=[atR s u]:=by
 unfold cH at h
 split at h
 ·rename_i h1
  cases h
  refine⟨by simp[gd.len],fun u h0 hu=> ?_⟩
  have hl:u.toNat<d.length:=by rw[gd.len];exact hu
  have h2:vp d[u.toNat]=true:=List.all_eq_true.1 h1 _ (List.getElem_mem hl)
  have h2:(vals d[u.toNat]).length=1:=of_decide_eq_true h2
  unfold domAt atR
  rw[if_neg (by omega),List.getD_eq_getElem?_getD,List.getD_eq_getElem?_getD,List.getElem?_map,List.getElem?_eq_getElem hl]
  show vals d[u.toNat]=[aw d[u.toNat]]
  obtain⟨x,hx⟩:=(kL (gd.few.fine _ (List.getElem_mem hl)).ok).1 h2
  rw[hx];simp[vals,cy,aw]
 ·cases h
theorem RightM.run {b:Mod}(h:RightM b)(hp:prodD (domsM b)≤1048576):RunOk (domsM b) b.cons:=⟨h.good,fun c hc=>⟨(h.b.cb c hc).1,h.con c hc⟩,fun c hc=> .inl (h.right c hc),hp,by have:=h.b.cl;omega⟩
theorem Ag {d:aa}{cons:List Con}(h:RunOk d cons){out:aa}(ho:gK cons d=some out):GoodD d.length out∧leD out d∧eY bK cons out∧RunOk out cons∧gK cons out=some out:=by
 have he:=h.ends
 rw[ho]at he
 obtain⟨hc,hs⟩:=he
 have hr:=h.less hc.fine hc.less
 refine⟨hc.fine,hc.less,hs,hr,?_⟩
 refine(ft (R:=some out) ?_).symm
 exact⟨Come.refl (be _) hr.gd,hs⟩
structure Srch (σ:Type) where
 nodes:Nat
 short:Bool
 over:Bool
 st:σ
def openV (l:aa):Nat:=l.findIdx fun x=>decide (1<(vals x).length)
noncomputable def lookG {σ:Type}(left:Int)(con:σ→List Con)(fnd:σ→List Int→σ×Bool):Nat→aa→Srch σ→Srch σ
 |0,_,s=>s
 |n+1,d,s=>
  if left≤(s.nodes:Int)then { s with short:=true,over:=true } else
  match gK (con s.st) d with
  |none=> { s with nodes:=s.nodes+1 }
  |some l=>match cH l with
   |some a=> { s with nodes:=s.nodes+1,st:=(fnd s.st a).1,over:=(fnd s.st a).2 }
   |none=>(vals (l.getD (openV l) [])).foldl (fun s x=>if s.over then s else lookG left con fnd n (l.set (openV l) [(x,x)]) s) { s with nodes:=s.nodes+1 }
theorem re {n:Nat}{l:aa}(gl:GoodD n l)(h:cH l=none):openV l<l.length∧1<(vals (l.getD (openV l) [])).length∧∀i,i<openV l→(vals (l.getD i [])).length=1:=by
 have h1:l.all vp=false:=by
  unfold cH at h
  split at h
  ·cases h
  ·rename_i h1;exact Bool.eq_false_iff.2 h1
 have h2: ∃x∈l,1<(vals x).length:=by
  obtain⟨x,hx,h2⟩:=List.all_eq_false.1 h1
  refine⟨x,hx,?_⟩
  have h3:=gl.one x hx
  have h4:(vals x).length≠1:=fun e=>h2 (decide_eq_true e)
  omega
 obtain⟨x,hx,h2⟩:=h2
 have h3:openV l<l.length:=List.findIdx_lt_length_of_exists ⟨x,hx,decide_eq_true h2⟩
 have hg: ∀i (hi:i<l.length),l.getD i []=l[i]:=fun i hi=>by rw[List.getD_eq_getElem?_getD,List.getElem?_eq_getElem hi];rfl
 refine⟨h3,?_,fun i hi=> ?_⟩
 ·rw[hg _ h3]
  exact of_decide_eq_true (List.findIdx_getElem (p:=fun x=>decide (1<(vals x).length)) (w:=h3))
 ·have hil:i<l.length:=by omega
  rw[hg i hil]
  have h4:=List.not_of_lt_findIdx (p:=fun x=>decide (1<(vals x).length)) (xs:=l) hi
  have h5:=gl.one _ (List.getElem_mem hil)
  simp only[decide_eq_false_iff_not,Bool.not_eq_true]at h4
  omega
theorem oX {n:Nat}{l:aa}{v:Nat}(gl:GoodD n l)(hv:v<l.length){x:Int}(hx:x∈vals (l.getD v [])):GoodD n (l.set v [(x,x)])∧leD (l.set v [(x,x)]) l∧(1<(vals (l.getD v [])).length→weight (l.set v [(x,x)])<weight l):=by
 have hg:l.getD v []=l[v]:=by rw[List.getD_eq_getElem?_getD,List.getElem?_eq_getElem hv];rfl
 have hm:=List.getElem_mem hv
 have hr:=(gl.few.fine _ hm).val x (by rw[←hg];exact hx)
 refine⟨⟨gl.few.one v hr,by rw[List.length_set];exact gl.len,fun hn=> ?_⟩,⟨by simp,fun u y h0 hy=> ?_⟩,fun h1=> ?_⟩
 ·rcases List.mem_or_eq_of_mem_set hn with h|h
  ·exact gl.some' h
  ·cases h
 ·by_cases hu:u.toNat=v
  ·unfold domAt at hy⊢
   rw[List.getD_eq_getElem?_getD,hu,List.getElem?_set_self hv]at hy
   rw[hu]
   simp[vals,cy]at hy
   rw[hy];exact hx
  ·unfold domAt at hy⊢
   rw[List.getD_eq_getElem?_getD,List.getElem?_set_ne (Ne.symm hu)]at hy
   rw[List.getD_eq_getElem?_getD];exact hy
 ·have:=gM (d:=l) (i:=v) (y:=l[v]) [(x,x)] (List.getElem?_eq_getElem hv)
  have e:(vals [(x,x)]).length=1:=by simp[vals,cy]
  rw[hg]at h1
  omega
inductive Reach {σ:Type}(fnd:σ→List Int→σ×Bool)(S:σ→List Int→Prop):σ→σ→Prop
 |refl (s:σ):Reach fnd S s s
 |step {s t:σ} {a:List Int}:Reach fnd S s t→S t a→Reach fnd S s (fnd t a).1
theorem Reach.trans {σ:Type}{fnd:σ→List Int→σ×Bool}{S:σ→List Int→Prop}{r s t:σ}(h:Reach fnd S r s)(k:Reach fnd S s t):Reach fnd S r t:=by
 induction k with
 |refl=>exact h
 |step _ hs ih=>exact ih.step hs
theorem Reach.keep {σ:Type}{fnd:σ→List Int→σ×Bool}{S:σ→List Int→Prop}{s t:σ}{P:σ→Prop}(h:Reach fnd S s t)(hs:P s)(hstep: ∀u a,P u→S u a→P (fnd u a).1):P t:=by
 induction h with
 |refl=>exact hs
 |step _ hs2 ih=>exact hstep _ _ ih hs2
def uE {σ:Type}(d0:aa)(con:σ→List Con)(t:σ)(a:List Int):Prop:= ∃e,GoodD d0.length e∧leD e d0∧eY bK (con t) e∧cH e=some a
structure SrchOK {σ:Type}(d0:aa)(con:σ→List Con)(fnd:σ→List Int→σ×Bool)(I:σ→Prop):Prop where
 run: ∀st,I st→RunOk d0 (con st)
 step: ∀st a,I st→uE d0 con st a→I (fnd st a).1
theorem l0 {α β:Type}{f:β→α→β}{Q:β→Prop}: ∀{l:List α},(∀s x,x∈l→Q s→Q (f s x))→∀{s:β},Q s→Q (l.foldl f s)
 | [],_,s,h=>h
 |x::l,hf,s,h=>l0 (fun s y hy=>hf s y (.tail _ hy)) (hf s x (.head _) h)
def jE (k:Nat):Nat:=if k=1 then 1 else k+1
def nodeF (d:aa):Nat:=dy (d.map fun x=>jE (vals x).length)
theorem sR {l:List Nat}{v:Nat}(hv:v<l.length)(y:Nat):dy (l.set v y)=dy (l.take v)*(y*dy (l.drop (v+1)))∧dy l=dy (l.take v)*(l[v]*dy (l.drop (v+1))):=by
 constructor
 ·rw[List.set_eq_take_append_cons_drop,if_pos hv,e8,dy]
 ·conv=>lhs;rw[←List.take_append_drop v l,List.drop_eq_getElem_cons hv]
  rw[e8,dy]
theorem nX: ∀{l m:List Nat},l.length=m.length→(∀(i:Nat) x y,l[i]? =some x→m[i]? =some y→x≤y)→dy l≤dy m
 | [],[],_,_=>Nat.le_refl _
 |x::l,y::m,hl,h=>Nat.mul_le_mul (h 0 x y rfl rfl) (nX (by simpa using hl) fun i u v hu hv=>h (i+1) u v hu hv)
 | [],_::_,hl,_=>by simp at hl
 |_::_,[],hl,_=>by simp at hl
theorem vu {n:Nat}{a b:aa}(ga:GoodD n a)(gb:GoodD n b)(h:leD a b):nodeF a≤nodeF b:=by
 refine nX (by simp[h.1]) fun i x y hx hy=> ?_
 obtain⟨x',hx',rfl⟩: ∃x',a[i]? =some x'∧jE (vals x').length=x:=by simpa using hx
 obtain⟨y',hy',rfl⟩: ∃y',b[i]? =some y'∧jE (vals y').length=y:=by simpa using hy
 have hs:=(h.sub ga gb).2 i x' y' hx' hy'
 have hm:=List.mem_of_getElem? hx'
 have h1:=ga.one x' hm
 have h2:=bU (aE (ga.few.fine x' hm).ok) hs
 unfold jE
 split<;>split<;>omega
theorem pW {n:Nat}{d:aa}(gd:GoodD n d):1≤nodeF d:=pM fun x hx=>by
 obtain⟨y,hy,rfl⟩:=List.mem_map.1 hx
 unfold jE;split<;>omega
theorem s7 {n:Nat}{l:aa}{v:Nat}(gl:GoodD n l)(hv:v<l.length)(h1:1<(vals (l.getD v [])).length)(x:Int):nodeF l=((vals (l.getD v [])).length+1)*nodeF (l.set v [(x,x)]):=by
 have hg:l.getD v []=l[v]:=by rw[List.getD_eq_getElem?_getD,List.getElem?_eq_getElem hv];rfl
 rw[hg]at h1⊢
 unfold nodeF
 rw[List.map_set]
 have e1:jE (vals [(x,x)]).length=1:=by simp[vals,cy,jE]
 rw[e1]
 have hv2:v<(l.map fun x=>jE (vals x).length).length:=by simpa using hv
 obtain⟨a,b⟩:=sR hv2 1
 rw[a,b,List.getElem_map]
 have e2:jE (vals l[v]).length=(vals l[v]).length+1:=by unfold jE;rw[if_neg (by omega)]
 rw[e2,Nat.one_mul,Nat.mul_left_comm]
section
variable {σ:Type}{left:Int}{d0:aa}{con:σ→List Con}{fnd:σ→List Int→σ×Bool}{I:σ→Prop}
theorem rg (h:SrchOK d0 con fnd I){d:aa}(gd:GoodD d0.length d)(hle:leD d d0){st:σ}(hi:I st){l:aa}(hl:gK (con st) d=some l):GoodD d0.length l∧leD l d∧leD l d0∧eY bK (con st) l:=by
 have hr:=(h.run st hi).less gd hle
 obtain⟨g1,g2,g3,_,_⟩:=Ag hr hl
 rw[gd.len]at g1
 exact⟨g1,g2,(be 0).trans _ _ _ g2 hle,g3⟩
structure Goes (left:Int)(d0:aa)(con:σ→List Con)(fnd:σ→List Int→σ×Bool)(I:σ→Prop)(F:Nat)(s r:Srch σ):Prop where
 inv:I r.st
 reach:Reach fnd (uE d0 con) s.st r.st
 nodes:s.nodes≤r.nodes
 most:r.nodes=s.nodes∨(r.nodes:Int)≤left
 keep:s.short=true→r.short=true
 now:s.short=false→r.short=true→r.over=true∧left<s.nodes+F∧left≤r.nodes
 few:r.nodes≤s.nodes+F
theorem j5 (h:SrchOK d0 con fnd I): ∀(n:Nat) (d:aa) (s:Srch σ),weight d<n→GoodD d0.length d→leD d d0→I s.st→Goes left d0 con fnd I (nodeF d) s (lookG left con fnd n d s)
 |0,d,s,hw,_,_,_=>by omega
 |n+1,d,s,hw,gd,hle,hi=>by
  have hF:=pW gd
  rw[lookG]
  split
  ·rename_i hleft
   exact⟨hi,.refl _,Nat.le_refl _,.inl rfl,fun _=>rfl,fun _ _=>⟨rfl,by omega,hleft⟩,Nat.le_add_right _ _⟩
  ·rename_i hleft
   split
   ·exact⟨hi,.refl _,Nat.le_succ _,.inr (by show((s.nodes+1:Nat):Int)≤left;omega),fun h=>h,fun h1 h2=>(by rw[h1]at h2;cases h2),by show s.nodes+1≤_;omega⟩
   ·rename_i l hl
    obtain⟨gl,hld,hl0,hst⟩:=rg h gd hle hi hl
    split
    ·rename_i a ha
     have hf:uE d0 con s.st a:=⟨l,gl,hl0,hst,ha⟩
     exact⟨h.step _ _ hi hf,.step (.refl _) hf,Nat.le_succ _,.inr (by show((s.nodes+1:Nat):Int)≤left;omega),fun h=>h,fun h1 h2=>(by rw[h1]at h2;cases h2),by show s.nodes+1≤_;omega⟩
    ·rename_i hno
     obtain⟨hv,h1,_⟩:=re gl hno
     have hFm:=vu gl gd hld
     generalize openV l=v at*
     have hFc:=s7 gl hv h1
     obtain⟨x0,hx0⟩: ∃x,x∈vals (l.getD v []):=List.exists_mem_of_length_pos (by omega)
     have hC: ∀x,nodeF (l.set v [(x,x)])=nodeF (l.set v [(x0,x0)]):=fun x=>by
      have a:=hFc x
      rw[hFc x0]at a
      exact(Nat.eq_of_mul_eq_mul_left (by omega) a).symm
     have hF0:=hFc x0
     have hpos:=pW (oX gl hv hx0).1
     have hchild:=fun x (hx:x∈vals (l.getD v []))=>oX gl hv hx
     generalize hxs:vals (l.getD v [])=xs at*
     generalize nodeF (l.set v [(x0,x0)])=C at*
     have key: ∀(ys:List Int) (t:Srch σ),(∀y∈ys,y∈xs)→I t.st→Goes left d0 con fnd I (ys.length*C) t (ys.foldl (fun s x=>if s.over=true then s else lookG left con fnd n (l.set v [(x,x)]) s) t):=by
      intro ys
      induction ys with
      |nil=>intro t _ ht;exact⟨ht,.refl _,Nat.le_refl _,.inl rfl,fun h=>h,fun h1 h2=>(by rw[List.foldl_nil,h1]at h2;cases h2),by simp⟩
      |cons y ys ih=>
       intro t hys ht
       rw[List.foldl_cons]
       by_cases ho:t.over=true
       ·rw[if_pos ho]
        obtain⟨a1,a2,a3,a4,a5,a6,a7⟩:=ih t (fun z hz=>hys z (.tail _ hz)) ht
        have e:(y::ys).length*C=ys.length*C+C:=by rw[List.length_cons,Nat.succ_mul]
        exact⟨a1,a2,a3,a4,a5,fun b1 b2=>by have:=a6 b1 b2;exact⟨this.1,by omega,this.2.2⟩,by omega⟩
       ·rw[if_neg ho]
        have hy:=hys y (.head _)
        obtain⟨c1,c2,c3⟩:=hchild y hy
        have hlc:leD (l.set v [(y,y)]) d0:=(be 0).trans _ _ _ c2 hl0
        have hlw:=(ja gl gd hld).1
        have g:=j5 h n (l.set v [(y,y)]) t (by have:=c3 h1;omega) c1 hlc ht
        rw[hC y]at g
        obtain⟨b1,b2,b3,b4,b5,b6,b7⟩:=g
        generalize lookG left con fnd n (l.set v [(y,y)]) t=u at*
        obtain⟨a1,a2,a3,a4,a5,a6,a7⟩:=ih u (fun z hz=>hys z (.tail _ hz)) b1
        have e:(y::ys).length*C=ys.length*C+C:=by rw[List.length_cons,Nat.succ_mul]
        refine⟨a1,b2.trans a2,by omega,?_,fun h=>a5 (b5 h),fun d1 d2=> ?_,by omega⟩
        ·rcases a4 with a4|a4
         ·rcases b4 with b4|b4
          ·exact .inl (by omega)
          ·exact .inr (by rw[a4];exact b4)
         ·exact .inr a4
        ·cases hu:u.short with
         |true=>
          obtain⟨e1,e2,e3⟩:=b6 d1 hu
          have eu:ys.foldl (fun s x=>if s.over=true then s else lookG left con fnd n (l.set v [(x,x)]) s) u=u:=by
           refine l0 (Q:=fun s=>s=u) (fun s x _ hs=> ?_) rfl
           rw[hs,if_pos e1]
          rw[eu]
          exact⟨e1,by omega,e3⟩
         |false=>
          obtain⟨e1,e2,e3⟩:=a6 hu d2
          exact⟨e1,by omega,e3⟩
     obtain⟨a1,a2,a3,a4,a5,a6,a7⟩:=key xs { s with nodes:=s.nodes+1 } (fun _ h=>h) hi
     have e:(xs.length+1)*C=xs.length*C+C:=Nat.succ_mul _ _
     exact⟨a1,a2,by have a3:s.nodes+1≤_:=a3;omega,by
      rcases a4 with a4|a4
      ·exact .inr (by rw[a4];show((s.nodes+1:Nat):Int)≤left;omega)
      ·exact .inr a4,a5,fun b1 b2=>by
       obtain⟨e1,e2,e3⟩:=a6 b1 b2
       have e2:left<((s.nodes+1:Nat):Int)+((xs.length*C:Nat):Int):=by exact_mod_cast e2
       exact⟨e1,by omega,e3⟩,by have a7:_≤s.nodes+1+xs.length*C:=a7;omega⟩
end
def zI (st:List (List Int))(a:List Int):List (List Int)×Bool:=(st++[a],false)
theorem zu {d0:aa}{cons:List Con}(h:RunOk d0 cons):SrchOK d0 (fun _=>cons) zI fun _=>True:=⟨fun _ _=>h,fun _ _ _ _=>trivial⟩
theorem vo (x:List (Int×Int))(hf:Fine x):Spec Tryz.prog 112 false [dm x] [.val (.bool (decide (1<(vals x).length)))]:=by
 have hsz:=gu x (by have:=hf.len;omega)
 rw[nC hf]at hsz
 refine Spec.body Tryz.func112 rfl rfl rfl fun w0 Z0=> ?_
 refine .B ?_
 refine .C hsz ?_
 refine .B ?_
 exact⟨_,.v rfl rfl (congrArg PV.bool (by by_cases h:1<(vals x).length<;>simp[h]<;>omega)) (fun _=>rfl) .nil⟩
def zf (d:aa):Int:=gh (fun x=>decide (1<(vals x).length)) d
theorem xO (d:aa)(fd:FewD d):Spec Tryz.prog 71 false [aH d] [.val (.int .i64 (zf d))]:=by
 refine Spec.body Tryz.func71 rfl rfl rfl fun w0 Z0=> ?_
 refine .B ?_
 refine .C (tO (p:=fun x=>decide (1<(vals x).length)) (f:=112) [] d (fun v hv=>vo v (fd.fine v hv)) (by have:=fd.small;omega)) ?_
 refine .B ?_
 exact r1
theorem ze {n:Nat}{l:aa}(gl:GoodD n l)(h:cH l=none):zf l=(openV l:Nat):=by
 obtain⟨h1,h2,_⟩:=re gl h
 unfold zf gh openV
 have:l.findIdx? (fun x=>decide (1<(vals x).length))=some (openV l):=List.findIdx?_eq_some_of_exists (by
  refine⟨l[openV l],List.getElem_mem h1,?_⟩
  have hg:l.getD (openV l) []=l[openV l]:=by rw[List.getD_eq_getElem?_getD,List.getElem?_eq_getElem h1];rfl
  rw[hg]at h2
  exact decide_eq_true h2)
 rw[this];rfl
def dq:Nat→aa→aa→List (Int×List (Int×Int))
 |i,y::d,x::l=>(if x=y then []else [((i:Int),y)])++dq (i+1) d l
 |_,_,_=>[]
theorem tG: ∀(d l pre:aa),d.length=l.length→fS (dq pre.length d l) (pre++l)=pre++d
 | [],[],pre,_=>rfl
 |y::d,x::l,pre,h=>by
  have ih:=tG d l (pre++[x]) (by simpa using h)
  rw[List.append_assoc,List.length_append,List.length_singleton,List.append_assoc]at ih
  unfold dq
  by_cases e:x=y
  ·subst e
   rw[if_pos rfl]
   exact ih
  ·rw[if_neg e]
   show((fS (dq (pre.length+1) d l) (pre++x::l)).set _ _)=_
   have ih:fS (dq (pre.length+1) d l) (pre++x::l)=pre++x::d:=ih
   rw[ih]
   simp
 | [],_::_,_,h=>by simp at h
 |_::_,[],_,h=>by simp at h
theorem zD: ∀(d l:aa) (i:Nat),∀c∈dq i d l,(i:Int)≤c.1∧c.1<(i+d.length:Nat)
 |y::d,x::l,i,c,h=>by
  unfold dq at h
  rcases List.mem_append.1 h with h|h
  ·split at h
   ·cases h
   ·rw[List.mem_singleton.1 h]
    exact⟨Int.le_refl _,by simp;omega⟩
  ·have:=zD d l (i+1) c h
   rw[List.length_cons]
   omega
 | [],_,_,c,h=>by simp[dq]at h
 |_::_,[],_,c,h=>by simp[dq]at h
theorem m7: ∀(d l:aa) (i:Nat),(dq i d l).length≤d.length
 |y::d,x::l,i=>by
  unfold dq
  have:=m7 d l (i+1)
  rw[List.length_append,List.length_cons]
  split<;>simp<;>omega
 | [],_,_=>by simp[dq]
 |_::_,[],_=>by simp[dq]
theorem tH (x y:List (Int×Int)): ∀(d l:aa) (i:Nat),d.length=l.length→dq i (d++[y]) (l++[x])=dq i d l++(if x=y then []else [((i+d.length:Nat):Int)].map fun i=>(i,y))
 |y'::d,x'::l,i,h=>by
  have ih:=tH x y d l (i+1) (by simpa using h)
  simp only[List.cons_append,dq,ih,List.append_assoc,List.length_cons]
  rw[show i+1+d.length=i+(d.length+1)by omega]
 | [],[],i,_=>by simp[dq]
 | [],_::_,_,h=>by simp at h
 |_::_,[],_,h=>by simp at h
theorem AA (ch:List (Int×List (Int×Int)))(d l:aa)(x y:List (Int×Int))(h:d.length=l.length):chS (ch++dq 0 d l) d.length y x=ch++dq 0 (d++[y]) (l++[x]):=by
 rw[tH x y d l 0 h,Nat.zero_add]
 unfold chS
 split<;>simp
abbrev kV (m:Mod)(sp:Value)(cons:List Con)(left:Int)(nodes:Int)(short enough:Bool)(found:PV):Own:= .box false [.sl (m.vars.map cV),cE m.cons,.int .i64 m.goal.kind,aA m.goal.vars,aA m.goal.coefs,.raw sp,cE cons,.int .i64 left,.int .i64 nodes,.bool short,.bool enough,found]
abbrev sV (lv cv mv:Value):Own:= .box true [.raw lv,.raw cv,.raw mv]
abbrev dV (d:aa):Own:= .sl 54 1 true (d.map cD)
abbrev chV (ch:List (Int×List (Int×Int))):Own:= .sl 156 2 true (ch.map cCh)
abbrev mkV (mk:List Int):Own:= .sl 3 1 true (mk.map cI)
abbrev pV (b:Nat):Value:= .pointer (some ⟨b,0,none⟩)
theorem zC {ch:List (Int×List (Int×Int))}{d l:aa}{i:Nat}(hl:(ch.length+d.length+1)*32≤140737488355328)(h:i<d.length):((ch++dq 0 (d.take i) (l.take i)).length+1)*32≤140737488355328:=by
 have htl:=m7 (d.take i) (l.take i) 0
 have e1:(d.take i).length≤i:=by rw[List.length_take];exact Nat.min_le_left _ _
 have e2:(ch++dq 0 (d.take i) (l.take i)).length=ch.length+(dq 0 (d.take i) (l.take i)).length:=List.length_append
 exact Nat.le_trans (Nat.mul_le_mul_right 32 (by omega)) hl
set_option maxHeartbeats 1000000 in
theorem zB (kb sb:Nat)(lv cv mv:Value)(m:Mod)(cons:List Con)(left nodes:Int)(short enough:Bool)(found:PV)(d l:aa)(ch:List (Int×List (Int×Int)))(fd:FewD d)(fl:FewD l)(hdl:d.length=l.length)(hs: ∀(i:Nat) (x y:List (Int×Int)),l[i]? =some x→d[i]? =some y→∀v∈vals x,v∈vals y)(hl:(ch.length+d.length+1)*32≤140737488355328):
  SpecX Tryz.prog 70 [pV kb,pV sb,lv] [cv] [kV m (pV sb) cons left nodes short enough found,sV lv cv mv,dV d] [chV ch] [(true,.raw (pV kb)),(false,aH l)]
  (fun ns=>[kV m (pV sb) cons left nodes short enough found,sV lv (ns.getD 0 undef) mv,dV l]) (fun _=>[chV (ch++dq 0 d l)]) true (fun _=>[]):=by
 refine SpecX.body (fn:=Tryz.f70) [1000,1001,1002,1003] [1003] rfl rfl rfl rfl fun w0 Z=> ?_
 refine T.sub (Rel.derawp (s:=0) (g:=1000) rfl rfl rfl) ?_
 refine .B ?_
 rw[show chV ch=chV (ch++dq 0 (d.take 0) (l.take 0))by simp[dq]]
 refine T.K (T.ind (fun s:Value×Nat=>⟨[(0,.optr 0 0 0 0),(6,.val false (aH l)),(7,.val true (.int .i64 (l.map cD).length)),(8,.val true (.int .i64 s.2)),(1000,.eq (pV kb) 0),(1001,.eq (pV sb) 1),(1002,.eq lv 2),(1003,.eq s.1 3)],[(0,some (kV m (pV sb) cons left nodes short enough found)),(1,some (sV lv s.1 mv)),(2,some (dV (l.take s.2++d.drop s.2))),(3,some (chV (ch++dq 0 (d.take s.2) (l.take s.2))))],4⟩)
  (fun s=>s.2≤l.length) (fun s=>l.length-s.2) (cv,0) (Nat.zero_le _) (fun _ _ h=>h) ?_)
 rintro⟨cu,i⟩ hi ih
 dsimp only at hi ih⊢
 have hlen:=fl.small
 by_cases h:i<l.length
 ·have hid:i<d.length:=by omega
  have hrow:(l.map cD)[((i:Nat):Int).toNat]? =some (cD l[i]):=by rw[Int.toNat_natCast,List.getElem?_map,List.getElem?_eq_getElem h];rfl
  have hne: ∀x∈l.take i++d.drop i,x∈l∨x∈d:=fun x hx=>(List.mem_append.1 hx).imp List.mem_of_mem_take List.mem_of_mem_drop
  have fd':FewD (l.take i++d.drop i):=⟨by rw[List.length_append,List.length_take,List.length_drop];omega,fun x hx=>(hne x hx).elim (fl.fine x) (fd.fine x),fun x hx=>(hne x hx).elim (fl.few x) (fd.few x)⟩
  have hat:(l.take i++d.drop i)[i]? =some d[i]:=by
   rw[List.getElem?_append_right (by rw[List.length_take];omega),List.length_take,Nat.min_eq_left (by omega),Nat.sub_self,List.getElem?_drop,Nat.add_zero,List.getElem?_eq_getElem hid]
  have hsv:=hs i l[i] d[i] (List.getElem?_eq_getElem h) (List.getElem?_eq_getElem hid)
  have hset:=px sb lv cu mv (l.take i++d.drop i) (ch++dq 0 (d.take i) (l.take i)) i l[i] d[i] fd' hat (fl.fine _ (List.getElem_mem h)) (fl.few _ (List.getElem_mem h)) hsv (zC hl hid)
  have e1:(l.take i++d.drop i).set i l[i]=l.take (i+1)++d.drop (i+1):=by
   rw[List.set_append_right _ _ (by rw[List.length_take];omega),List.length_take,Nat.min_eq_left (by omega),Nat.sub_self,List.drop_eq_getElem_cons hid,List.set_cons_zero,List.take_succ_eq_append_getElem h,List.append_assoc]
   rfl
  have e2:chS (ch++dq 0 (d.take i) (l.take i)) i d[i] l[i]=ch++dq 0 (d.take (i+1)) (l.take (i+1)):=by
   have:=AA ch (d.take i) (l.take i) l[i] d[i] (by rw[List.length_take,List.length_take];omega)
   rw[List.length_take,Nat.min_eq_left (by omega)]at this
   rw[this,List.take_succ_eq_append_getElem h,List.take_succ_eq_append_getElem hid]
  rw[e1,e2]at hset
  refine .M ?_
  refine T.ct2 rfl (decide_eq_true (by rw[List.length_map];omega)) ?_
  refine .M ?_
  refine .I (r:=cD l[i]) hrow ?_
  refine .M ?_
  refine J.cx [1,2,3] [1001,1002,1003] [1004] hset ⟨rfl,⟨_,rfl,rfl,rfl⟩,rfl,⟨_,rfl,rfl,rfl⟩,rfl,⟨_,rfl,rfl,rfl⟩,trivial⟩ (fun ns hns=> ?_)
  obtain⟨u,rfl⟩:=zA hns rfl
  refine .M ?_
  rw[aj h (by omega)]
  refine T.sub (Rel.ecp 1003 1004 rfl) ?_
  exact T.K (ih (u,i+1) h (by dsimp only;omega))
 ·obtain rfl:i=l.length:=by omega
  rw[List.take_length,←hdl,List.take_length,List.drop_length,List.append_nil,hdl]
  refine .M ?_
  refine T.cf2 rfl (decide_eq_false (by rw[List.length_map];omega)) ?_
  refine .M ?_
  exact⟨[0,1,2],[3],[cu],⟨rfl,⟨_,rfl,rfl,rfl⟩,rfl,⟨_,rfl,rfl,rfl⟩,rfl,⟨_,rfl,rfl,rfl⟩,trivial⟩,⟨rfl,⟨_,rfl,rfl,rfl⟩,trivial⟩,rfl,.nil⟩
theorem ao (c:Own):c.reg c.fr=c:=by cases c<;>rfl
theorem az (c:Own):(!c.fr||c.fr)=true:=by cases c.fr<;>rfl
structure Fnd (σ:Type) where
 f:FuncId
 caps:List PV
 p1:Value
 p2:Value
 p3:Value
 c1:σ→Value→Value→Own
 c2:σ→Value→Value→Own
 c3:σ→Value→Value→Own
 d1:σ→Own
 d2:σ→Own
 con:σ→List Con
 fnd:σ→List Int→σ×Bool
 sz:σ→Nat
abbrev Fnd.pv {σ:Type}(F:Fnd σ):PV:= .fn (.func F.f) [] F.caps
abbrev uC {σ:Type}(F:Fnd σ)(kb sb:Nat)(m:Mod)(left:Int)(f:FuncId)(args:List (Bool×PV))(lv cv mv g1 g2:Value)(d e:aa)(ch ch':List (Int×List (Int×Int)))(mk:List Int)(s r:Srch σ):Prop:=
 SpecX Tryz.prog f [pV kb,pV sb,lv,F.p1,F.p2,F.p3] [cv,mv,g1,g2] [kV m (pV sb) (F.con s.st) left s.nodes s.short s.over F.pv,sV lv cv mv,dV d,F.c1 s.st g1 g2,F.c2 s.st g1 g2,F.c3 s.st g1 g2] [chV ch,mkV mk,F.d1 s.st,F.d2 s.st] args
  (fun ns=>[kV m (pV sb) (F.con r.st) left r.nodes r.short r.over F.pv,sV lv (ns.getD 0 undef) (ns.getD 1 undef),dV e,F.c1 r.st (ns.getD 2 undef) (ns.getD 3 undef),F.c2 r.st (ns.getD 2 undef) (ns.getD 3 undef),F.c3 r.st (ns.getD 2 undef) (ns.getD 3 undef)])
  (fun _=>[chV ch',mkV mk,F.d1 r.st,F.d2 r.st]) true (fun _=>[])
abbrev nE {σ:Type}(F:Fnd σ)(kb sb:Nat)(m:Mod)(left:Int)(sl:List (Nat×SV))(lv cv mv g1 g2:Value)(d:aa)(ch:List (Int×List (Int×Int)))(mk:List Int)(s:Srch σ):St:=
 ⟨sl++[(1000,.eq (pV kb) 0),(1001,.eq (pV sb) 1),(1002,.eq lv 2),(1003,.eq F.p1 3),(1004,.eq F.p2 4),(1005,.eq F.p3 5),(1006,.eq cv 6),(1007,.eq mv 7),(1008,.eq g1 8),(1009,.eq g2 9)],[(0,some (kV m (pV sb) (F.con s.st) left s.nodes s.short s.over F.pv)),(1,some (sV lv cv mv)),(2,some (dV d)),(3,some (F.c1 s.st g1 g2)),(4,some (F.c2 s.st g1 g2)),(5,some (F.c3 s.st g1 g2)),(6,some (chV ch)),(7,some (mkV mk)),(8,some (F.d1 s.st)),(9,some (F.d2 s.st))],10⟩
theorem zz {ns:List Value}{n:Nat}(h:ns.length=n)(hn:n=4): ∃a b c d,ns=[a,b,c,d]:=by
 subst hn
 match ns,h with
 | [a,b,c,d],_=>exact⟨a,b,c,d,rfl⟩
theorem BW {ns:List Value}{n:Nat}(h:ns.length=n)(hn:n=2): ∃a b,ns=[a,b]:=by
 subst hn
 match ns,h with
 | [a,b],_=>exact⟨a,b,rfl⟩
set_option maxHeartbeats 1000000 in
theorem v8 {σ:Type}(F:Fnd σ)(kb sb:Nat)(m:Mod)(left:Int)(lv cv mv g1 g2:Value)(l e:aa)(ch tail:List (Int×List (Int×Int)))(mk:List Int)(s r:Srch σ)(v:Nat)(x:Int)(y:List (Int×Int))
  (fl:FewD l) (hy:l[v]? =some y) (hx:x∈vals y) (hne: [(x,x)]≠y) (hlm:(mk.length+1)*8≤140737488355328) (hlc:((ch++[((v:Int),y)]++tail).length+1)*32≤140737488355328) (hel:e.length=l.length) (hlt: ∀c∈tail,0≤c.1∧c.1<(l.length:Int)) (hun:fS tail e=l.set v [(x,x)])
  (hlook: ∀cv mv,uC F kb sb m left 37 [(true,.raw (pV kb))] lv cv mv g1 g2 (l.set v [(x,x)]) e (ch++[((v:Int),y)]) (ch++[((v:Int),y)]++tail) (mk++[(ch.length:Int)]) s r):
  uC F kb sb m left 73 [(true,.raw (pV kb)),(true,.int .i64 v),(true,.int .i64 x)] lv cv mv g1 g2 l l ch ch mk s r:=by
 have hvl:=(List.getElem?_eq_some_iff.1 hy).1
 have hym:y∈l:=List.mem_of_getElem? hy
 have hxr:=(fl.fine y hym).val x hx
 have hmark:=fun mv=>uK sb lv cv mv ch mk hlm
 have hfx:Fine [(x,x)]:=by
  have:=fl.one v hxr
  exact this.fine _ (List.mem_iff_getElem?.2 ⟨v,List.getElem?_set_self hvl⟩)
 have hset:=fun mv=>px sb lv cv mv l ch v [(x,x)] y fl hy hfx (by simp[vals,cy]) (by simpa[vals,cy]using hx) (Nat.le_trans (Nat.mul_le_mul_right 32 (by simp)) hlc)
 have e1:chS ch v y [(x,x)]=ch++[((v:Int),y)]:=if_neg hne
 rw[e1]at hset
 have hback:=fun cv mv=>uL sb lv cv mv e ch ([((v:Int),y)]++tail) mk (fun c hc=>by
  rcases List.mem_append.1 hc with hc|hc
  ·rw[List.mem_singleton.1 hc];exact⟨Int.natCast_nonneg _,by show(v:Int)<_;omega⟩
  ·have:=hlt c hc;omega) (by have:=fl.small;omega) (by rw[←List.append_assoc];omega) (by omega)
 have e2:fS ([((v:Int),y)]++tail) e=l:=by
  show(fS tail e).set ((v:Int)).toNat y=l
  rw[Int.toNat_natCast,hun,List.set_set]
  refine List.ext_getElem? fun j=> ?_
  by_cases hj:j=v
  ·rw[hj,List.getElem?_set_self hvl,hy]
  ·rw[List.getElem?_set_ne (Ne.symm hj)]
 rw[e2,←List.append_assoc]at hback
 refine SpecX.bodyD (fn:=Tryz.f73) (σ:=Value) (τ:=Value×Value×Value×Value) (v:=pV sb) (x:= .tmp 14) (fx:=true)
  (E1:=fun mv=>nE F kb sb m left [(0,.optr 0 0 0 0),(1,.val true (.int .i64 v)),(2,.val true (.int .i64 x))] lv cv mv g1 g2 l ch (mk++[(ch.length:Int)]) s)
  (E2:=fun mv=>nE F kb sb m left [(0,.optr 0 0 0 0),(1,.val true (.int .i64 v)),(2,.val true (.int .i64 x)),(14,.val true (.raw (pV sb)))] lv cv mv g1 g2 l ch (mk++[(ch.length:Int)]) s)
  (E3:=fun t=>nE F kb sb m left [] lv t.1 t.2.1 t.2.2.1 t.2.2.2 e (ch++[((v:Int),y)]++tail) (mk++[(ch.length:Int)]) r)
  (us2:=[pV sb,lv]) (gs2:=fun t=>[t.1,t.2.1]) (cs2:=fun t=>[sV lv t.1 t.2.1,dV e]) (ds2:=fun t=>[chV (ch++[((v:Int),y)]++tail),mkV (mk++[(ch.length:Int)])])
  (cs2':=fun t ns=>[sV lv (ns.getD 0 undef) (ns.getD 1 undef),dV l]) (news2:=fun t _=>[chV ch,mkV mk]) (res2:=fun _=>[.int .i64 0])
  4 [1000,1001,1002,1003,1004,1005,1006,1007,1008,1009] [1010,1011,1008,1009] [1001,1002,1006,1007] [1010,1011] [1,2,6,7] rfl rfl rfl rfl rfl rfl rfl rfl rfl (fun w0 Z=> ?_) (fun w0 Z mv=> ?_) (fun mv=>rfl) (fun w0 Z mv=> ?_) (fun t=>hback t.1 t.2.1) rfl (fun t=> ?_) (fun t=>rfl) rfl (fun t ns hns=> ?_)
 ·refine T.sub (Rel.derawp (s:=0) (g:=1000) rfl rfl rfl) ?_
  refine T.r ?_
  iterate 4 refine J.H rfl ?_
  refine J.cx [1,6,7] [1001,1006,1007] [1007] (hmark mv) ⟨rfl,⟨_,rfl,rfl,rfl⟩,rfl,⟨_,rfl,rfl,rfl⟩,rfl,⟨_,rfl,rfl,rfl⟩,trivial⟩ (fun ns hns=> ?_)
  obtain⟨u,rfl⟩:=zA hns rfl
  refine J.sub (Rel.canon (keep:=[0,1,2,1000,1001,1002,1003,1004,1005,1006,1007,1008,1009]) (os:=[1000,1001,1002,1003,1004,1005,1006,1007,1008,1009]) rfl) ?_
  exact J.nil ⟨rfl,u,rfl⟩
 ·iterate 4 refine J.H rfl ?_
  refine J.sub (Rel.canon (keep:=[0,1,2,14,1000,1001,1002,1003,1004,1005,1006,1007,1008,1009]) (os:=[1000,1001,1002,1003,1004,1005,1006,1007,1008,1009]) rfl) ?_
  exact J.nil rfl
 ·refine .M ?_
  refine .V ?_
  refine J.cx [1,2,6] [1001,1002,1006] [1006] (hset mv) ⟨rfl,⟨_,rfl,rfl,rfl⟩,rfl,⟨_,rfl,rfl,rfl⟩,rfl,⟨_,rfl,rfl,rfl⟩,trivial⟩ (fun ns hns=> ?_)
  obtain⟨u,rfl⟩:=zA hns rfl
  refine .M ?_
  refine J.cx [0,1,2,3,4,5,10,7,8,9] [1000,1001,1002,1003,1004,1005,1006,1007,1008,1009] [1006,1007,1008,1009] (hlook u mv) ⟨rfl,⟨_,rfl,rfl,rfl⟩,rfl,⟨_,rfl,rfl,rfl⟩,rfl,⟨_,rfl,rfl,rfl⟩,rfl,⟨_,rfl,ao _,az _⟩,rfl,⟨_,rfl,ao _,az _⟩,rfl,⟨_,rfl,ao _,az _⟩,rfl,⟨_,rfl,rfl,rfl⟩,rfl,⟨_,rfl,rfl,rfl⟩,rfl,⟨_,rfl,ao _,az _⟩,rfl,⟨_,rfl,ao _,az _⟩,trivial⟩ (fun ns hns=> ?_)
  obtain⟨a,b,c,d,rfl⟩:=zz hns rfl
  refine J.sub (Rel.canon (keep:=[1000,1001,1002,1003,1004,1005,1006,1007,1008,1009]) (os:=[1000,1001,1002,1003,1004,1005,1006,1007,1008,1009]) rfl) ?_
  exact J.nil ⟨.inl rfl,(a,b,c,d),rfl⟩
 ·exact⟨rfl,⟨_,rfl,rfl,rfl⟩,rfl,⟨_,rfl,rfl,rfl⟩,rfl,⟨_,rfl,rfl,rfl⟩,rfl,⟨_,rfl,rfl,rfl⟩,trivial⟩
 ·obtain⟨a,b,rfl⟩:=BW hns rfl
  exact⟨[0,1,2,3,4,5],[10,11,8,9],[a,b,t.2.2.1,t.2.2.2],⟨rfl,⟨_,rfl,rfl,rfl⟩,rfl,⟨_,rfl,rfl,rfl⟩,rfl,⟨_,rfl,rfl,rfl⟩,rfl,⟨_,rfl,ao _,az _⟩,rfl,⟨_,rfl,ao _,az _⟩,rfl,⟨_,rfl,ao _,az _⟩,trivial⟩,⟨rfl,⟨_,rfl,rfl,rfl⟩,rfl,⟨_,rfl,rfl,rfl⟩,rfl,⟨_,rfl,ao _,az _⟩,rfl,⟨_,rfl,ao _,az _⟩,trivial⟩,rfl,.nil⟩
theorem tF: ∀l:List (Bool×PV),leX l l=true
 | []=>rfl
 |p::l=>by
  simp only[leX,tF l,Bool.and_true]
  cases p.1<;>rfl
structure FndOK {σ:Type}(F:Fnd σ)(kb sb:Nat)(m:Mod)(left:Int)(d0:aa)(I:σ→Prop):Prop where
 ok: ∀(t:σ) (a:List Int) (g1 g2:Value) (nodes:Int) (short over:Bool),I t→F.sz t≤1099511627776→uE d0 F.con t a→
  SpecX Tryz.prog F.f [pV kb,F.p1,F.p2,F.p3] [g1,g2] [kV m (pV sb) (F.con t) left nodes short over F.pv,F.c1 t g1 g2,F.c2 t g1 g2,F.c3 t g1 g2] [F.d1 t,F.d2 t] ((true,aA a)::yy false F.caps)
  (fun ns=>[kV m (pV sb) (F.con (F.fnd t a).1) left nodes short over F.pv,F.c1 (F.fnd t a).1 (ns.getD 0 undef) (ns.getD 1 undef),F.c2 (F.fnd t a).1 (ns.getD 0 undef) (ns.getD 1 undef),F.c3 (F.fnd t a).1 (ns.getD 0 undef) (ns.getD 1 undef)]) (fun _=>[F.d1 (F.fnd t a).1,F.d2 (F.fnd t a).1]) true (fun _=>[.bool (F.fnd t a).2])
theorem tt {σ:Type}{left:Int}{con:σ→List Con}{fnd:σ→List Int→σ×Bool}{sz:σ→Nat}(hz: ∀t a,sz (fnd t a).1≤sz t+1): ∀(n:Nat) (d:aa) (s:Srch σ),sz s.st≤s.nodes→sz (lookG left con fnd n d s).st≤(lookG left con fnd n d s).nodes
 |0,d,s,h=>h
 |n+1,d,s,h=>by
  rw[lookG]
  split
  ·exact h
  ·split
   ·exact Nat.le_succ_of_le h
   ·split
    ·exact Nat.le_trans (hz _ _) (Nat.succ_le_succ h)
    ·refine l0 (Q:=fun s:Srch σ=>sz s.st≤s.nodes) (fun s x _ h=> ?_) (Nat.le_succ_of_le h)
     split
     ·exact h
     ·exact tt hz n _ _ h
noncomputable def iA {σ:Type}(left:Int)(con:σ→List Con)(d:aa)(s:Srch σ):aa×List (Int×List (Int×Int)):=
 if left≤(s.nodes:Int)then(d,[])else match gK (con s.st) d with
 |none=>(d,[])
 |some l=>match cH l with
  |some _=>(d,[])
  |none=>(l,dq 0 d l)
theorem zt {σ:Type}{left:Int}{d0:aa}{con:σ→List Con}{fnd:σ→List Int→σ×Bool}{I:σ→Prop}(h:SrchOK d0 con fnd I){d:aa}(gd:GoodD d0.length d)(hle:leD d d0){s:Srch σ}(hi:I s.st):
  (iA left con d s).1.length=d.length∧(iA left con d s).2.length≤d.length∧(∀c∈(iA left con d s).2,0≤c.1∧c.1<(d.length:Int))∧fS (iA left con d s).2 (iA left con d s).1=d:=by
 unfold iA
 split
 ·exact⟨rfl,Nat.zero_le _,fun c hc=>(by cases hc),rfl⟩
 ·split
  ·exact⟨rfl,Nat.zero_le _,fun c hc=>(by cases hc),rfl⟩
  ·rename_i l hl
   obtain⟨gl,_⟩:=rg h gd hle hi hl
   split
   ·exact⟨rfl,Nat.zero_le _,fun c hc=>(by cases hc),rfl⟩
   ·have e:d.length=l.length:=gd.len.trans gl.len.symm
    refine⟨e.symm,m7 d l 0,fun c hc=> ?_,?_⟩
    ·have:=zD d l 0 c hc
     rw[Nat.zero_add]at this
     exact⟨by omega,this.2⟩
    ·have:=tG d l [] e
     simpa using this
theorem qx {σ:Type}{f:Srch σ→Int→Srch σ}: ∀(l:List Int) (s:Srch σ),s.over=true→l.foldl (fun s x=>if s.over then s else f s x) s=s
 | [],s,_=>rfl
 |x::l,s,h=>by rw[List.foldl_cons,if_pos h];exact qx l s h
def Bq {α:Type}(a b:List α):List α:=match b with| []=>a|c::t=>a++c::t
theorem rQ {α:Type}(a b:List α):Bq a b=a++b:=by cases b<;>simp[Bq]
set_option maxHeartbeats 4000000 in
theorem qd {σ:Type}(F:Fnd σ)(kb sb:Nat)(m:Mod)(left:Int)(d0:aa)(I:σ→Prop)(hS:SrchOK d0 F.con F.fnd I)(hF:FndOK F kb sb m left d0 I)(hz: ∀t a,F.sz (F.fnd t a).1≤F.sz t+1)(hleft:left≤1099511627776)(hdl:d0.length≤1024):
  ∀(n:Nat) (d:aa) (s:Srch σ) (lv cv mv g1 g2:Value) (ch:List (Int×List (Int×Int))) (mk:List Int),weight d<n→GoodD d0.length d→leD d d0→I s.st→F.sz s.st≤s.nodes→s.over=false→mk.length+n≤1048576→ch.length+n*1026≤1073741824→
  uC F kb sb m left 37 [(true,.raw (pV kb))] lv cv mv g1 g2 d (iA left F.con d s).1 ch (Bq ch (iA left F.con d s).2) mk s (lookG left F.con F.fnd n d s):=by
 intro n
 induction n with
 |zero=>intro d s lv cv mv g1 g2 ch mk hw;omega
 |succ n ihn=>
  intro d s lv cv mv g1 g2 ch mk hw gd hle hi hsn hov hmk hch
  refine SpecX.body (fn:=Tryz.f37) [1000,1001,1002,1003,1004,1005,1006,1007,1008,1009] [1006,1007,1008,1009] rfl rfl rfl rfl fun w0 Z=> ?_
  refine T.sub (Rel.derawp (s:=0) (g:=1000) rfl rfl rfl) ?_
  obtain⟨r,hr⟩: ∃r,r=lookG left F.con F.fnd (n+1) d s:=⟨_,rfl⟩
  obtain⟨e,he⟩: ∃e,e=iA left F.con d s:=⟨_,rfl⟩
  rw[←hr,←he]
  rw[lookG]at hr
  unfold iA at he
  refine T.sub (Rel.canon (keep:=[0,1000,1001,1002,1003,1004,1005,1006,1007,1008,1009]) (os:=[1000,1001,1002,1003,1004,1005,1006,1007,1008,1009]) rfl) ?_
  refine .B ?_
  refine T.cd rfl (fun h=> ?_) (fun h=> ?_)
  ·rw[if_pos h]at hr he
   subst hr he
   refine .B ?_
   refine .W ?_
   refine .B ?_
   refine .W ?_
   refine .B ?_
   exact⟨[0,1,2,3,4,5],[6,7,8,9],[cv,mv,g1,g2],⟨rfl,⟨_,rfl,rfl,rfl⟩,rfl,⟨_,rfl,rfl,rfl⟩,rfl,⟨_,rfl,rfl,rfl⟩,rfl,⟨_,rfl,ao _,az _⟩,rfl,⟨_,rfl,ao _,az _⟩,rfl,⟨_,rfl,ao _,az _⟩,trivial⟩,⟨rfl,⟨_,rfl,rfl,rfl⟩,rfl,⟨_,rfl,rfl,rfl⟩,rfl,⟨_,rfl,ao _,az _⟩,rfl,⟨_,rfl,ao _,az _⟩,trivial⟩,rfl,.nil⟩
  rw[if_neg h]at hr he
  refine .B ?_
  rw[ac (by omega) (by omega),←Int.natCast_succ]
  refine .W ?_
  refine .M ?_
  refine T.K (?_:T _ _ (nE F kb sb m left [(0,.optr 0 0 0 0)] lv cv mv g1 g2 d ch mk { s with nodes:=s.nodes+1 }) _)
  have fd:=gd.few
  have hall:=(Br (hS.run s.st hi) (e:=d) (fun x hx=>⟨fd.fine x hx,fd.few x hx⟩) hle).frz
  refine T.rdm 16 rfl (by kernel_rfl) rfl ?_
  iterate 3 refine J.H rfl ?_
  refine J.lp 1001 (q:=1) (b:=sb) rfl ?_
  iterate 2 refine J.H rfl ?_
  refine J.cb 1002 (xn d fd).frz ?_
  iterate 4 refine J.H rfl ?_
  refine .C hall ?_
  refine .M ?_
  clear hall
  cases hR:gK (F.con s.st) d with
  |none=>
   rw[hR]at hr he
   dsimp only at hr he
   subst hr he
   refine T.ct rfl ?_
   refine .M ?_
   exact⟨[0,1,2,3,4,5],[6,7,8,9],[cv,mv,g1,g2],⟨rfl,⟨_,rfl,rfl,rfl⟩,rfl,⟨_,rfl,rfl,rfl⟩,rfl,⟨_,rfl,rfl,rfl⟩,rfl,⟨_,rfl,ao _,az _⟩,rfl,⟨_,rfl,ao _,az _⟩,rfl,⟨_,rfl,ao _,az _⟩,trivial⟩,⟨rfl,⟨_,rfl,rfl,rfl⟩,rfl,⟨_,rfl,rfl,rfl⟩,rfl,⟨_,rfl,ao _,az _⟩,rfl,⟨_,rfl,ao _,az _⟩,trivial⟩,rfl,.nil⟩
  |some l=>
   rw[hR]at hr he
   dsimp only at hr he
   obtain⟨gl,hld,hl0,hst⟩:=rg hS gd hle hi hR
   have fl:=gl.few
   refine T.cf rfl ?_
   refine T.K (?_:T _ _ (nE F kb sb m left [(0,.optr 0 0 0 0),(2,.val true (aH l))] lv cv mv g1 g2 d ch mk { s with nodes:=s.nodes+1 }) _)
   refine .M ?_
   refine .C (rx l fl.small fl.fine).frz ?_
   refine .M ?_
   cases hsv:cH l with
   |some a=>
    rw[hsv]at hr he
    dsimp only at hr he
    subst hr he
    refine T.ct rfl ?_
    refine .M ?_
    refine J.cx [0,3,4,5,8,9] [1000,1003,1004,1005,1008,1009] [1008,1009] (hF.ok s.st a g1 g2 ((s.nodes+1:Nat):Int) s.short s.over hi (by omega) ⟨l,gl,hl0,hst,hsv⟩) ⟨rfl,⟨_,rfl,rfl,rfl⟩,rfl,⟨_,rfl,ao _,az _⟩,rfl,⟨_,rfl,ao _,az _⟩,rfl,⟨_,rfl,ao _,az _⟩,rfl,⟨_,rfl,ao _,az _⟩,rfl,⟨_,rfl,ao _,az _⟩,trivial⟩ (hle:=tF _) (fun ns hns=> ?_)
    obtain⟨a1,a2,rfl⟩:=BW hns rfl
    refine .M ?_
    refine .W ?_
    refine .M ?_
    exact⟨[0,1,2,3,4,5],[6,7,10,11],[cv,mv,a1,a2],⟨rfl,⟨_,rfl,rfl,rfl⟩,rfl,⟨_,rfl,rfl,rfl⟩,rfl,⟨_,rfl,rfl,rfl⟩,rfl,⟨_,rfl,ao _,az _⟩,rfl,⟨_,rfl,ao _,az _⟩,rfl,⟨_,rfl,ao _,az _⟩,trivial⟩,⟨rfl,⟨_,rfl,rfl,rfl⟩,rfl,⟨_,rfl,rfl,rfl⟩,rfl,⟨_,rfl,ao _,az _⟩,rfl,⟨_,rfl,ao _,az _⟩,trivial⟩,rfl,.nil⟩
   |none=>
    rw[hsv]at hr he
    dsimp only at hr he
    subst he
    refine T.cf rfl ?_
    refine .M ?_
    obtain⟨hv,hv1,_⟩:=re gl hsv
    have hop:=xO l fl
    rw[ze gl hsv]at hop
    generalize openV l=v at*
    have hg:l.getD v []=l[v]:=by rw[List.getD_eq_getElem?_getD,List.getElem?_eq_getElem hv];rfl
    rw[hg]at hr hv1
    have hdl2:=gd.len
    have hlay:=zB kb sb lv cv mv m (F.con s.st) left ((s.nodes+1:Nat):Int) s.short s.over F.pv d l ch fd fl (gd.len.trans gl.len.symm) (hld.sub gl gd).2 (Nat.le_trans (Nat.mul_le_mul_right 32 (by omega:ch.length+d.length+1≤1073741824)) (by decide))
    refine J.cx [0,1,2,6] [1000,1001,1002,1006] [1006] hlay ⟨rfl,⟨_,rfl,rfl,rfl⟩,rfl,⟨_,rfl,rfl,rfl⟩,rfl,⟨_,rfl,rfl,rfl⟩,rfl,⟨_,rfl,rfl,rfl⟩,trivial⟩ (fun ns hns=> ?_)
    obtain⟨u,rfl⟩:=zA hns rfl
    refine .M ?_
    refine .C hop ?_
    refine .M ?_
    have hrow:(l.map cD)[((v:Nat):Int).toNat]? =some (cD l[v]):=by rw[Int.toNat_natCast,List.getElem?_map,List.getElem?_eq_getElem hv];rfl
    refine .I (r:=cD l[v]) hrow ?_
    refine .M ?_
    have hym:l[v]∈l:=List.getElem_mem hv
    have hyf:=fl.few _ hym
    have hys:=(fl.fine _ hym).len
    have hdv:=(ij l[v] (fl.fine _ hym).domB.1 (by omega)).frz
    rw[List.take_of_length_le (by omega)]at hdv
    refine .C hdv ?_
    refine .M ?_
    generalize hxs:vals l[v]=xs at*
    have hxm: ∀x∈xs,x∈vals l[v]:=fun x hx=>by rw[hxs];exact hx
    refine T.K (T.ind (fun x:Value×Value×Value×Value×Srch σ×Nat=>nE F kb sb m left [(0,.optr 0 0 0 0),(6,.val true (.int .i64 v)),(72,.val true (aA xs)),(73,.val true (.int .i64 (xs.map cI).length)),(74,.val true (.int .i64 x.2.2.2.2.2))] lv x.1 x.2.1 x.2.2.1 x.2.2.2.1 l (ch++dq 0 d l) mk x.2.2.2.2.1)
     (fun x=>x.2.2.2.2.2≤xs.length∧I x.2.2.2.2.1.st∧F.sz x.2.2.2.2.1.st≤x.2.2.2.2.1.nodes∧(xs.drop x.2.2.2.2.2).foldl (fun s x=>if s.over then s else lookG left F.con F.fnd n (l.set v [(x,x)]) s) x.2.2.2.2.1=r) (fun x=>xs.length-x.2.2.2.2.2) (u,mv,g1,g2,{ s with nodes:=s.nodes+1 },0) ⟨Nat.zero_le _,hi,Nat.le_succ_of_le hsn,hr.symm⟩ (fun _ _ h=>h) ?_)
    rintro⟨cu,mu,h1,h2,t,i⟩ ⟨hil,hti,htz,htr⟩ ih
    dsimp only at hil hti htz htr ih⊢
    by_cases hlt:i<xs.length
    ·refine .M ?_
     refine T.ct2 rfl (decide_eq_true (by rw[List.length_map];omega)) ?_
     refine .M ?_
     have hrw:(xs.map cI)[((i:Nat):Int).toNat]? =some (cI xs[i]):=by rw[Int.toNat_natCast,List.getElem?_map,List.getElem?_eq_getElem hlt];rfl
     refine .I (r:=cI xs[i]) hrw ?_
     refine .M ?_
     refine T.cond rfl (fun hto=> ?_) (fun hto=> ?_)
     ·have hto:t.over=true:=hto
      rw[qx _ t hto]at htr
      subst htr
      refine .M ?_
      exact⟨[0,1,2,3,4,5],[6,7,8,9],[cu,mu,h1,h2],⟨rfl,⟨_,rfl,rfl,rfl⟩,rfl,⟨_,rfl,rfl,rfl⟩,rfl,⟨_,rfl,rfl,rfl⟩,rfl,⟨_,rfl,ao _,az _⟩,rfl,⟨_,rfl,ao _,az _⟩,rfl,⟨_,rfl,ao _,az _⟩,trivial⟩,⟨rfl,⟨_,rfl,congrArg chV (rQ _ _).symm,rfl⟩,rfl,⟨_,rfl,rfl,rfl⟩,rfl,⟨_,rfl,ao _,az _⟩,rfl,⟨_,rfl,ao _,az _⟩,trivial⟩,rfl,.nil⟩
     ·have hto:t.over=false:=hto
      have hxi:=hxm _ (List.getElem_mem hlt)
      obtain⟨gc,hc1,hc2⟩:=oX gl hv (x:=xs[i]) (by rw[hg];exact hxi)
      have hc0:leD (l.set v [(xs[i],xs[i])]) d0:=(be 0).trans _ _ _ hc1 hl0
      have hwl:=(ja gl gd hld).1
      have hwc:=hc2 (by rw[hg,hxs];exact hv1)
      obtain⟨k1,k2,k3,k4⟩:=zt (left:=left) hS gc hc0 (s:=t) hti
      rw[List.length_set]at k1 k2 k3
      have hcl:=m7 d l 0
      have hll:=gl.len
      have hlk:=fun cv mv=>ihn (l.set v [(xs[i],xs[i])]) t lv cv mv h1 h2 (ch++dq 0 d l++[((v:Int),l[v])]) (mk++[((ch++dq 0 d l).length:Int)]) (by omega) gc hc0 hti htz hto (by simp;omega) (by simp;omega)
      rw[rQ]at hlk
      have hch2:=v8 F kb sb m left lv cu mu h1 h2 l (iA left F.con (l.set v [(xs[i],xs[i])]) t).1 (ch++dq 0 d l) (iA left F.con (l.set v [(xs[i],xs[i])]) t).2 mk t (lookG left F.con F.fnd n (l.set v [(xs[i],xs[i])]) t) v xs[i] l[v] fl (List.getElem?_eq_getElem hv) hxi (fun e=>by rw[←hxs,←e]at hv1;simp[vals,cy]at hv1) (by omega) (Nat.le_trans (Nat.mul_le_mul_right 32 (by simp;omega:_≤1073741824)) (by decide)) k1 k3 k4 hlk
      refine .M ?_
      refine J.cx [0,1,2,3,4,5,6,7,8,9] [1000,1001,1002,1003,1004,1005,1006,1007,1008,1009] [1006,1007,1008,1009] hch2 ⟨rfl,⟨_,rfl,rfl,rfl⟩,rfl,⟨_,rfl,rfl,rfl⟩,rfl,⟨_,rfl,rfl,rfl⟩,rfl,⟨_,rfl,ao _,az _⟩,rfl,⟨_,rfl,ao _,az _⟩,rfl,⟨_,rfl,ao _,az _⟩,rfl,⟨_,rfl,rfl,rfl⟩,rfl,⟨_,rfl,rfl,rfl⟩,rfl,⟨_,rfl,ao _,az _⟩,rfl,⟨_,rfl,ao _,az _⟩,trivial⟩ (fun ns hns=> ?_)
      obtain⟨a1,a2,a3,a4,rfl⟩:=zz hns rfl
      refine .M ?_
      rw[aj hlt (by omega)]
      have hgo:=(j5 (left:=left) hS n (l.set v [(xs[i],xs[i])]) t (by omega) gc hc0 hti).inv
      refine T.K (ih (a1,a2,a3,a4,lookG left F.con F.fnd n (l.set v [(xs[i],xs[i])]) t,i+1) ⟨hlt,hgo,tt hz n _ _ htz,?_⟩ (by dsimp only;omega))
      rw[List.drop_eq_getElem_cons hlt,List.foldl_cons,if_neg (by rw[hto];decide)]at htr
      exact htr
    ·obtain rfl:i=xs.length:=by omega
     rw[List.drop_length]at htr
     have htr:t=r:=htr
     subst htr
     refine .M ?_
     refine T.cf2 rfl (decide_eq_false (by rw[List.length_map];omega)) ?_
     refine .M ?_
     exact⟨[0,1,2,3,4,5],[6,7,8,9],[cu,mu,h1,h2],⟨rfl,⟨_,rfl,rfl,rfl⟩,rfl,⟨_,rfl,rfl,rfl⟩,rfl,⟨_,rfl,rfl,rfl⟩,rfl,⟨_,rfl,ao _,az _⟩,rfl,⟨_,rfl,ao _,az _⟩,rfl,⟨_,rfl,ao _,az _⟩,trivial⟩,⟨rfl,⟨_,rfl,congrArg chV (rQ _ _).symm,rfl⟩,rfl,⟨_,rfl,rfl,rfl⟩,rfl,⟨_,rfl,ao _,az _⟩,rfl,⟨_,rfl,ao _,az _⟩,trivial⟩,rfl,.nil⟩
theorem Bj {l:List Con}: ∀r∈l.map cC,r.length=7:=fun r hr=>by obtain⟨c,_,rfl⟩:=List.mem_map.1 hr;rfl
theorem mL (l:List Con)(hl:l.length≤4096):Spec Tryz.prog 43 true [cE l] [.own 51 7 (l.map cC)]:=by
 refine Spec.body Tryz.func43 rfl rfl rfl fun w0 Z0=> ?_
 refine .B ?_
 refine J.nc rfl rfl rfl rfl rfl rfl rfl fun b hb=> ?_
 refine .B ?_
 cases b
 ·refine T.cf rfl ?_
  refine .B ?_
  refine .O ?_
  refine .B ?_
  refine J.a rfl rfl rfl rfl rfl rfl rfl rfl rfl rfl rfl rfl rfl rfl rfl rfl rfl Bj (Nat.le_trans (Nat.mul_le_mul_right _ (show 0+(l.map cC).length≤4096 by rw[List.length_map];omega)) (show 4096*104≤140737488355328 by decide)) ?_
  refine .B ?_
  exact⟨_,.o rfl rfl rfl (fun h=>by cases h) (by simp) .nil⟩
 ·have:l=[]:=by simpa using hb rfl
  subst this
  refine T.ct rfl ?_
  refine .B ?_
  exact⟨_,.ownN rfl .nil⟩
theorem og (m:Mod)(hm:ModB m):Spec Tryz.prog 66 false [.agg (cM m)] [.own 54 1 ((domsM m).map cD)]:=by
 refine Spec.body Tryz.func66 rfl rfl rfl fun w0 Z0=> ?_
 obtain⟨h1,h2,_,_,_⟩:=hm
 refine .B ?_
 refine T.sub (Rel.own0 (s:=3) 54 1 rfl) ?_
 refine T.K (T.ind (fun i:Nat=>⟨[(1,.optr 0 0 0 0),(3,.ref 1),(7,.val false (.sl (m.vars.map cV))),(8,.val true (.int .i64 (m.vars.map cV).length)),(9,.val true (.int .i64 i))],[(0,some (.box false (cM m))),(1,some (.sl 54 1 true (((domsM m).take i).map cD)))],2⟩) (fun i=>i≤m.vars.length) (fun i=>m.vars.length-i) 0 (Nat.zero_le _) (fun _ _ h=>h) ?_)
 rintro i hi ih
 refine .B ?_
 refine T.cd rfl (fun h5=> ?_) (fun h5=> ?_)
 ·have h5:i<m.vars.length:=by simpa using h5
  have hrow:(m.vars.map cV)[((i:Nat):Int).toNat]? =some (cV m.vars[i]):=by simp[h5]
  have hv:=h2 _ (List.getElem_mem h5)
  have htk:(domsM m).take (i+1)=(domsM m).take i++[m.vars[i].2]:=by
   rw[List.take_succ_eq_append_getElem (by simpa[domsM]using h5)];simp[domsM]
  have hl:=List.length_take_le i (domsM m)
  have ih1:=ih (i+1) (by omega) (by omega)
  rw[htk]at ih1
  generalize (domsM m).take i=out at*
  generalize m.vars[i]=v at*
  refine .B ?_
  refine .I (r:=cV v) hrow ?_
  refine .B ?_
  refine .L ?_
  refine .W ?_
  refine .B ?_
  refine .C (bN v.2 (by omega)).frz ?_
  refine .B ?_
  refine .V ?_
  refine J.aD rfl rfl rfl rfl rfl rfl rfl rfl rfl rfl rfl rfl rfl rfl rfl rfl rfl rfl rfl (by omega) ?_
  refine .B ?_
  rw[aj (l:=m.vars.length) h5 (by omega)]
  exact T.K ih1
 ·have h5:i=m.vars.length:=by simp at h5;omega
  subst h5
  rw[List.take_of_length_le (by simp[domsM])]
  refine .B ?_
  exact⟨_,.o rfl rfl rfl (fun _=> .inl rfl) (by simp) .nil⟩
theorem xv (m:Mod)(left e:Int)(he:e≠0)(hck:Spec Tryz.prog 64 false [.agg (cM m)] [.val (.int .i64 e)]):Spec Tryz.prog 35 false [.agg (cM m),.int .i64 left] [.val .nilp,.val (.int .i64 e)]:=by
 refine Spec.body Tryz.func35 rfl rfl rfl fun w0 Z0=> ?_
 refine .B ?_
 refine .C hck ?_
 refine .B ?_
 refine T.ct2 rfl (by simpa using he) ?_
 refine .B ?_
 exact r2
theorem mt (m:Mod)(hm:ModB m)(fd:FewD (domsM m))(left:Int)(hck:Spec Tryz.prog 64 false [.agg (cM m)] [.val (.int .i64 0)]):
  SpecX Tryz.prog 35 [] [] [] [] [(false,.agg (cM m)),(true,.int .i64 left)] (fun _=>[]) (fun ns=>[kV m (ns.getD 1 undef) m.cons left 0 false false .nilf,sV (ns.getD 2 undef) (ns.getD 3 undef) (ns.getD 4 undef),dV (domsM m),chV [],mkV []]) true (fun ns=>[.raw (ns.getD 0 undef),.int .i64 0]):=by
 refine SpecX.body (fn:=Tryz.f35) [] [1000,1001,1002,1003,1004] rfl rfl rfl rfl fun w0 Z=> ?_
 have hcl:=hm.cl
 refine .B ?_
 refine .C hck ?_
 refine .B ?_
 refine T.cf rfl ?_
 refine .B ?_
 refine .C (og m hm).frz ?_
 refine .B ?_
 refine J.cx [] [] [1001,1002,1003,1004] (xm (domsM m) fd fd.few) trivial (fun ns hns=> ?_)
 obtain⟨p,a,b,c,rfl⟩:=zz hns rfl
 refine .M ?_
 refine T.canon (keep:=[1,2,7,8,1001,1002,1003,1004]) (os:=[2,1001,1002,1003,1004]) rfl ?_
 refine T.rdm 10 rfl (by kernel_rfl) rfl ?_
 refine .M ?_
 refine .C (mL m.cons (by omega)).frz ?_
 iterate 5 refine J.H rfl ?_
 refine J.nil ?_
 refine J.name 1000 (s:=4) rfl rfl rfl fun u=> ?_
 refine J.sub (Rel.raw (s:=4) (g:=1000) rfl (.inr rfl) rfl rfl rfl) ?_
 refine .M ?_
 exact⟨[],[5,1,2,3,4],[u,p,a,b,c],trivial,⟨rfl,⟨_,rfl,rfl,rfl⟩,rfl,⟨_,rfl,rfl,rfl⟩,rfl,⟨_,rfl,rfl,rfl⟩,rfl,⟨_,rfl,rfl,rfl⟩,rfl,⟨_,rfl,rfl,rfl⟩,trivial⟩,rfl,.val rfl rfl (fun _=>rfl) (.val rfl rfl (fun _=>rfl) .nil)⟩
def z2 (cons:List Con)(op:Value):Fnd (List (List Int)):=⟨36,[.raw op],op,.slice none 0 0,.slice none 0 0,fun _ g1 _=> .box true [.raw g1],fun _ _ _=> .sl 3 1 true [],fun _ _ _=> .sl 3 1 true [],fun t=> .sl 24 1 true (t.map cL),fun _=> .sl 3 1 true [],fun _=>cons,zI,fun t=>t.length⟩
theorem AS (kb sb:Nat)(m:Mod)(left:Int)(d0:aa)(op:Value):FndOK (z2 m.cons op) kb sb m left d0 fun _=>True:=by
 refine⟨fun t a g1 g2 nodes short over _ hsz _=> ?_⟩
 have hsz:t.length≤1099511627776:=hsz
 refine SpecX.body (fn:=Tryz.f36) [1000,1001,1002,1003,1004,1005] [1006,1005] rfl rfl rfl rfl fun w0 Z=> ?_
 refine T.sub (Rel.derawp (s:=1) (g:=1001) rfl rfl rfl) ?_
 refine .B ?_
 refine J.sub (Rel.deraw (s:=4) (g:=1004) rfl rfl) ?_
 refine .V ?_
 refine J.a rfl rfl rfl rfl rfl rfl rfl rfl rfl rfl rfl rfl rfl rfl rfl rfl rfl (cJ rfl) (Nat.le_trans (Nat.mul_le_mul_right _ (show(t.map cL).length+1≤1099511627777 by rw[List.length_map];omega)) (show 1099511627777*24≤140737488355328 by decide)) ?_
 refine J.name 1006 (s:=7) rfl rfl rfl fun u=> ?_
 refine J.sub (Rel.raw (s:=7) (g:=1006) rfl (.inl rfl) rfl rfl rfl) ?_
 refine .W ?_
 refine .B ?_
 have e:t.map cL++[[aA a]]=(t++[a]).map cL:=by simp[cL]
 refine⟨[0,1,2,3],[6,5],[u,g2],⟨rfl,⟨_,rfl,rfl,rfl⟩,rfl,⟨_,rfl,rfl,rfl⟩,rfl,⟨_,rfl,rfl,rfl⟩,rfl,⟨_,rfl,rfl,rfl⟩,trivial⟩,⟨rfl,⟨_,rfl,congrArg (fun l=>Own.sl 24 1 true l) e,rfl⟩,rfl,⟨_,rfl,rfl,rfl⟩,trivial⟩,rfl,.val rfl rfl (fun _=>rfl) .nil⟩
theorem Ae (m:Mod)(left e:Int)(he:e≠0)(hck:Spec Tryz.prog 64 false [.agg (cM m)] [.val (.int .i64 e)]):Spec Tryz.prog 13 false [.agg (cM m),.int .i64 left] [.own 24 1 [],.val (.bool false),.val (.int .i64 0),.val (.int .i64 e)]:=by
 refine Spec.body Tryz.func13 rfl rfl rfl fun w0 Z0=> ?_
 refine .B ?_
 refine .C (xv m left e he hck) ?_
 refine .B ?_
 refine T.ct2 rfl (by simpa using he) ?_
 refine .B ?_
 exact⟨_,.ownN rfl (.v rfl rfl rfl (fun _=>rfl) (.v rfl rfl rfl (fun _=>rfl) (.v rfl rfl rfl (fun _=>rfl) .nil)))⟩
theorem BV {ns:List Value}{n:Nat}(h:ns.length=n)(hn:n=5): ∃a b c d e,ns=[a,b,c,d,e]:=by
 subst hn
 match ns,h with
 | [a,b,c,d,e],_=>exact⟨a,b,c,d,e,rfl⟩
noncomputable def srchA (m:Mod)(left:Int):Srch (List (List Int)):=lookG left (fun _=>m.cons) zI (weight (domsM m)+1) (domsM m) ⟨0,false,false,[]⟩
set_option maxHeartbeats 1000000 in
theorem pG (m:Mod)(hm:ModB m)(hr:RunOk (domsM m) m.cons)(hw:weight (domsM m)≤1000000)(left:Int)(hleft:left≤1099511627776)(hck:Spec Tryz.prog 64 false [.agg (cM m)] [.val (.int .i64 0)]):
  Spec Tryz.prog 13 false [.agg (cM m),.int .i64 left] [.own 24 1 ((srchA m left).st.map cL),.val (.bool (!(srchA m left).short)),.val (.int .i64 (srchA m left).nodes),.val (.int .i64 0)]:=by
 refine Spec.body Tryz.func13 rfl rfl rfl fun w0 Z0=> ?_
 have hdl:(domsM m).length≤1024:=by have:=hm.vl;simpa[domsM]using this
 refine .B ?_
 refine J.cx [] [] [1000,1001,1002,1006,1007] (mt m hm hr.gd.few left hck) trivial (fun ns hns=> ?_)
 obtain⟨p,sp,lv,cv,mv,rfl⟩:=BV hns rfl
 refine .M ?_
 refine T.cf rfl ?_
 refine T.canon (keep:=[8,1000,1001,1002,1006,1007]) (os:=[1000,1001,1002,1006,1007]) rfl ?_
 refine T.knownp 1000 0 rfl rfl fun kb e1=> ?_
 refine T.knownp 1001 1 rfl rfl fun sb e2=> ?_
 obtain rfl:p=pV kb:=e1
 obtain rfl:sp=pV sb:=e2
 refine .M ?_
 refine J.alr rfl rfl rfl rfl rfl rfl rfl ?_
 refine J.name 1003 (s:=10) rfl rfl rfl fun op=> ?_
 refine J.sub (Rel.raw (s:=10) (g:=1003) rfl (.inl rfl) rfl rfl rfl) ?_
 refine J.sub (Rel.derawp (s:=8) (g:=1000) rfl rfl rfl) ?_
 refine .M ?_
 refine .W ?_
 refine .M ?_
 refine J.sub (Rel.ownN 1004 3 1) ?_
 refine J.sub (Rel.ownN 1005 3 1) ?_
 refine J.sub (Rel.ownN 1008 24 1) ?_
 refine J.sub (Rel.ownN 1009 3 1) ?_
 refine J.sub (Rel.canon (keep:=[8,10,24,1000,1001,1002,1003,1004,1005,1006,1007,1008,1009]) (os:=[1000,1001,1002,1003,1004,1005,1006,1007,1008,1009]) rfl) (?_:J _ _ _ _ (nE (z2 m.cons op) kb sb m left [(8,.optr 0 0 0 0),(10,.val true (.raw op)),(24,.optr 0 0 0 0)] lv cv mv (.slice none 0 0) (.slice none 0 0) (domsM m) [] [] ⟨0,false,false,[]⟩) _)
 have hlk: ∃e ch',uC (z2 m.cons op) kb sb m left 37 [(true,.raw (pV kb))] lv cv mv (.slice none 0 0) (.slice none 0 0) (domsM m) e [] ch' [] ⟨0,false,false,[]⟩ (srchA m left):=⟨_,_,qd (z2 m.cons op) kb sb m left (domsM m) (fun _=>True) (zu hr) (AS kb sb m left (domsM m) op) (fun t a=>Nat.le_of_eq (List.length_append)) hleft hdl (weight (domsM m)+1) (domsM m) ⟨0,false,false,[]⟩ lv cv mv (.slice none 0 0) (.slice none 0 0) [] [] (Nat.lt_succ_self _) hr.gd leD.rfl' trivial (Nat.zero_le _) rfl (by simp;omega) (by simp;omega)⟩
 obtain⟨e,ch',hlk⟩:=hlk
 generalize srchA m left=r at*
 refine J.cx [0,1,2,3,4,5,6,7,8,9] [1000,1001,1002,1003,1004,1005,1006,1007,1008,1009] [1006,1007,1008,1009] hlk ⟨rfl,⟨_,rfl,rfl,rfl⟩,rfl,⟨_,rfl,rfl,rfl⟩,rfl,⟨_,rfl,rfl,rfl⟩,rfl,⟨_,rfl,rfl,rfl⟩,rfl,⟨_,rfl,rfl,rfl⟩,rfl,⟨_,rfl,rfl,rfl⟩,rfl,⟨_,rfl,rfl,rfl⟩,rfl,⟨_,rfl,rfl,rfl⟩,rfl,⟨_,rfl,rfl,rfl⟩,rfl,⟨_,rfl,rfl,rfl⟩,trivial⟩ (fun ns hns=> ?_)
 obtain⟨a1,a2,a3,a4,rfl⟩:=zz hns rfl
 refine .M ?_
 refine T.K (?_:T _ _ (nE (z2 m.cons op) kb sb m left [(8,.optr 0 0 0 0),(10,.val true (.raw op))] lv a1 a2 a3 a4 e ch' [] r) _)
 refine T.sub (Rel.derawp (s:=10) (g:=1003) rfl rfl rfl) ?_
 refine .A ?_
 conv=>whnf
 iterate 14 refine J.H rfl ?_
 refine J.nil ?_
 refine T.sub (Rel.deraw (s:=4) (g:=1008) rfl rfl) ?_
 refine .B ?_
 exact⟨_,.o rfl rfl rfl (fun _=> .inl rfl) (by simp) (.v rfl rfl rfl (fun _=>rfl) (.v rfl rfl rfl (fun _=>rfl) (.v rfl rfl rfl (fun _=>rfl) .nil)))⟩
def lq (a b:Int):Int×Bool:=if smallI a&&smallI b&&smallI (a+b)then(a+b,true)else(0,false)
theorem aO {n:Int}:smallI n=true↔-4611686018427387904≤n∧n≤4611686018427387904:=by simp[smallI]
theorem vL (n:Int):Spec Tryz.prog 155 false [.int .i64 n] [.val (.int .i64 (if smallI n then n else 0)),.val (.bool (smallI n))]:=by
 refine Spec.body Tryz.func155 rfl rfl rfl fun w0 Z0=> ?_
 refine T.sub (Rel.fine (s:=0) rfl rfl) ?_
 have hs:=fX [n] (by simp)
 rw[show [n].all smallI=smallI n by simp]at hs
 refine .B ?_
 refine .V ?_
 refine .B ?_
 refine .C hs ?_
 refine .B ?_
 cases smallI n with
 |false=>
  refine T.ct rfl ?_
  refine .B ?_
  exact r2
 |true=>
  refine T.cf rfl ?_
  refine .B ?_
  exact r2
theorem jj (a b:Int):Spec Tryz.prog 121 false [.int .i64 a,.int .i64 b] [.val (.int .i64 (lq a b).1),.val (.bool (lq a b).2)]:=by
 refine Spec.body Tryz.func121 rfl rfl rfl fun w0 Z0=> ?_
 have hs:=fX [a,b] (by simp)
 rw[show [a,b].all smallI=(smallI a&&smallI b)by simp]at hs
 have hno: ∀h:(smallI a&&smallI b&&smallI (a+b))=false,lq a b=(0,false):=fun h=>by unfold lq;rw[h];rfl
 generalize hR:lq a b=R
 refine .B ?_
 refine .V ?_
 refine .B ?_
 refine .C hs ?_
 refine .B ?_
 cases h0:smallI a&&smallI b with
 |false=>
  have:R=(0,false):=by rw[←hR];exact hno (by rw[h0];rfl)
  subst this
  refine .B ?_
  refine T.ct rfl ?_
  refine .B ?_
  exact r2
 |true=>
  obtain⟨ha,hb⟩:=Bool.and_eq_true_iff.1 h0
  have ha:=aO.1 ha
  have hb:=aO.1 hb
  have hw: ¬(0<a∧4611686018427387904-a<b)→¬(a<0∧b< -4611686018427387904-a)→IntKind.i64.wrap (a+b)=a+b:=fun h1 h2=>ac (by omega) (by omega)
  have ht:=vL (a+b)
  have e1:0<a→IntKind.i64.wrap (4611686018427387904-a)=4611686018427387904-a:=fun h=>ac (by omega) (by omega)
  have e2:a<0→IntKind.i64.wrap (-4611686018427387904-a)= -4611686018427387904-a:=fun h=>ac (by omega) (by omega)
  have stop: ¬smallI (a+b)=true→R=(0,false):=fun h=>by rw[←hR];exact hno (by rw[h0,Bool.true_and];simpa using h)
  have fin:R=(if smallI (a+b)then a+b else 0,smallI (a+b)):=by
   rw[←hR];unfold lq;rw[h0,Bool.true_and]
   cases smallI (a+b)<;>rfl
  refine .B ?_
  refine J.g rfl rfl rfl (fun h1=> ?_) (fun h1=> ?_)
  ·have h1:0<a:=h1
   refine .B ?_
   rw[e1 h1]
   refine J.g rfl rfl rfl (fun h2=> ?_) (fun h2=> ?_)
   ·have h2:4611686018427387904-a<b:=h2
    have:=stop fun h=>by have:=aO.1 h;omega
    subst this
    refine .B ?_
    refine T.ct rfl ?_
    refine .B ?_
    exact r2
   ·refine .B ?_
    refine J.g rfl rfl rfl (fun h3=> ?_) (fun h3=> ?_)
    ·have h3:a<0:=h3
     omega
    ·have h2: ¬4611686018427387904-a<b:=h2
     refine .B ?_
     refine T.cf rfl ?_
     refine .B ?_
     rw[hw (by omega) (by omega)]
     refine .C ht ?_
     refine .B ?_
     subst fin
     exact r2
  ·have h1: ¬0<a:=h1
   refine .B ?_
   refine J.g rfl rfl rfl (fun h3=> ?_) (fun h3=> ?_)
   ·refine .B ?_
    rw[e2 h3]
    refine T.cd rfl (fun h4=> ?_) (fun h4=> ?_)
    ·have h4:b< -4611686018427387904-a:=h4
     have:=stop fun h=>by have:=aO.1 h;omega
     subst this
     refine .B ?_
     exact r2
    ·have h4: ¬b< -4611686018427387904-a:=h4
     refine .B ?_
     rw[hw (by omega) (by omega)]
     refine .C ht ?_
     refine .B ?_
     subst fin
     exact r2
   ·have h3: ¬a<0:=h3
    refine .B ?_
    refine T.cf rfl ?_
    refine .B ?_
    rw[hw (by omega) (by omega)]
    refine .C ht ?_
    refine .B ?_
    subst fin
    exact r2
def yO (a b:Int):Int×Bool:=if smallI a&&smallI b then lq a (-b)else(0,false)
theorem x7 (a b:Int):Spec Tryz.prog 224 false [.int .i64 a,.int .i64 b] [.val (.int .i64 (yO a b).1),.val (.bool (yO a b).2)]:=by
 refine Spec.body Tryz.func224 rfl rfl rfl fun w0 Z0=> ?_
 have hs:=fX [a,b] (by simp)
 rw[show [a,b].all smallI=(smallI a&&smallI b)by simp]at hs
 have hadd:=jj a (-b)
 unfold yO
 refine .B ?_
 refine .V ?_
 refine .B ?_
 refine .C hs ?_
 refine .B ?_
 cases h0:smallI a&&smallI b with
 |false=>
  refine T.ct rfl ?_
  refine .B ?_
  exact r2
 |true=>
  obtain⟨ha,hb⟩:=Bool.and_eq_true_iff.1 h0
  have hb:=aO.1 hb
  rw[if_pos rfl]
  refine T.cf rfl ?_
  refine .B ?_
  rw[show(0:Int)-b= -b by omega,show IntKind.i64.wrap (-b)= -b from ac (by omega) (by omega)]
  refine .C hadd ?_
  refine .B ?_
  exact r2
theorem oc (n:Int):Spec Tryz.prog 181 false [.int .i64 n] [.val (.int .i64 (if smallI n then aF n else 0)),.val (.bool (smallI n))]:=by
 refine Spec.body Tryz.func181 rfl rfl rfl fun w0 Z0=> ?_
 have h0:smallI 0=true:=rfl
 have key: ∀x:Int,aF n=x→(smallI x=smallI n)→(if smallI n then aF n else 0,smallI n)=lq 0 x:=fun x e e2=>by
  unfold lq
  rw[h0,Bool.true_and,Int.zero_add,Bool.and_self,e2,e]
  cases smallI n<;>rfl
 have hsa:=jj 0 n
 have hss:=x7 0 n
 refine .B ?_
 refine T.cd rfl (fun h1=> ?_) (fun h1=> ?_)
 ·have h1:n<0:=h1
  have e:yO 0 n=(if smallI n then aF n else 0,smallI n):=by
   have hsn:smallI (-n)=smallI n:=by rw[Bool.eq_iff_iff,aO,aO];omega
   unfold yO
   rw[h0,Bool.true_and,←key (-n) (by unfold aF;omega) hsn]
   cases smallI n<;>rfl
  rw[e]at hss
  refine .B ?_
  refine .C hss ?_
  refine .B ?_
  exact r2
 ·have h1: ¬n<0:=h1
  rw[←key n (by unfold aF;omega) rfl]at hsa
  refine .B ?_
  refine .C hsa ?_
  refine .B ?_
  exact r2
theorem xV (l:List Int)(rhs:Int)(hl:l.length*8≤140737488355328)(hw: ∀c∈l,-9223372036854775808≤c∧c≤9223372036854775807):Spec Tryz.prog 131 false [aA l,.int .i64 rhs] [.val (.bool (d9 l rhs))]:=by
 refine Spec.body Tryz.func131 rfl rfl rfl fun w0 Z0=> ?_
 have hs:=oc rhs
 have h0:(if smallI rhs then aF rhs else 0)=if smallI rhs then aF rhs else 0:=rfl
 have hin:smallI rhs=true→0≤aF rhs∧aF rhs≤4611686018427387904∧ez (4611686018427387904-aF rhs) l=d9 l rhs:=fun h=>by
  have h:=aO.1 h
  refine⟨bC rhs,by unfold aF;omega,?_⟩
  unfold d9
  rw[if_neg (by omega)];rfl
 have hno:smallI rhs=false→d9 l rhs=true:=fun h=>by
  have h: ¬smallI rhs=true:=by rw[h];simp
  rw[aO]at h
  unfold d9
  rw[if_pos (by omega)]
 generalize hR:d9 l rhs=R at*
 have hin2:smallI rhs=true→(if smallI rhs then aF rhs else 0)=aF rhs:=fun h=>by rw[h];rfl
 generalize (if smallI rhs then aF rhs else 0)=s0 at*
 have hinv:(smallI rhs=true→0≤s0∧s0≤4611686018427387904∧ez (4611686018427387904-s0) l=R):=fun h=>by rw[hin2 h];exact hin h
 generalize smallI rhs=ok0 at*
 clear hin hin2
 refine .B ?_
 refine .C hs ?_
 refine .B ?_
 refine T.K (T.ind (fun s:Nat×Int×Bool=>⟨[(5,.val true (.int .i64 s.2.1)),(6,.val true (.bool s.2.2)),(16,.val false (aA l)),(17,.val true (.int .i64 (l.map cI).length)),(18,.val true (.int .i64 s.1))],[],0⟩)
  (fun s=>s.1≤l.length∧(s.2.2=true→0≤s.2.1∧s.2.1≤4611686018427387904∧ez (4611686018427387904-s.2.1) (l.drop s.1)=R)∧(s.2.2=false→R=true)) (fun s=>l.length-s.1) (0,s0,ok0) ⟨Nat.zero_le _,hinv,hno⟩ (fun _ _ h=>h) ?_)
 rintro⟨i,sum,ok⟩ ⟨hi,hv,hn⟩ ih
 refine .B ?_
 refine T.cd rfl (fun h1=> ?_) (fun h1=> ?_)
 ·have h6:i<l.length:=by simpa using h1
  have hcw:=hw _ (List.getElem_mem h6)
  have hms:=oc l[i]
  have hdr:ez (4611686018427387904-sum) (l.drop i)=if 4398046511104<l[i]∨l[i]< -4398046511104 then true else if 4611686018427387904-sum-max l[i] (-l[i])*1048576<0 then true else ez (4611686018427387904-sum-max l[i] (-l[i])*1048576) (l.drop (i+1)):=by
   rw[List.drop_eq_getElem_cons h6,ez]
  have hrow:=bq (enc:=cI) h6
  generalize l[i]=c at*
  refine .B ?_
  refine .I (r:=cI c) hrow ?_
  refine .B ?_
  refine .C hms ?_
  refine .B ?_
  cases hsc:smallI c with
  |false=>
   have hsc: ¬smallI c=true:=by rw[hsc];simp
   rw[aO]at hsc
   have:R=true:=by
    cases ok with
    |false=>exact hn rfl
    |true=>
     obtain⟨_,_,e⟩:=hv rfl
     rw[←e,hdr,if_pos (by omega)]
   subst this
   refine T.cf rfl ?_
   refine .B ?_
   refine T.ct rfl ?_
   refine .B ?_
   exact r1
  |true=>
   have hsc':=aO.1 hsc
   have hac:0≤aF c∧aF c≤4611686018427387904:=⟨bC c,by unfold aF;omega⟩
   have hmx:max c (-c)=aF c:=rfl
   have hmul:=lZ (aF c) 1048576 (by omega) (by omega) (by omega) (by omega)
   refine T.ct rfl ?_
   refine .B ?_
   rw[if_pos rfl]
   refine .C hmul ?_
   refine .B ?_
   cases hm:smallI (aF c*1048576)with
   |false=>
    have e0:mulI (aF c) 1048576=(0,false):=by unfold mulI;rw[hm,Bool.and_false];rfl
    have hm: ¬smallI (aF c*1048576)=true:=by rw[hm];simp
    rw[aO]at hm
    have:R=true:=by
     cases ok with
     |false=>exact hn rfl
     |true=>
      obtain⟨_,_,e⟩:=hv rfl
      rw[←e,hdr,if_pos (by unfold aF at hm;omega)]
    subst this
    rw[e0]
    refine .B ?_
    refine T.ct rfl ?_
    refine .B ?_
    exact r1
   |true=>
    have hm:=aO.1 hm
    have e0:mulI (aF c) 1048576=(aF c*1048576,true):=by
     unfold mulI
     rw[aO.2 ⟨by omega,by omega⟩,show smallI (aF c*1048576)=true from aO.2 hm];rfl
    rw[e0]
    cases ok with
    |false=>
     obtain rfl:=hn rfl
     refine .B ?_
     refine T.ct rfl ?_
     refine .B ?_
     exact r1
    |true=>
     obtain⟨v1,v2,e⟩:=hv rfl
     simp only at v1 v2 e
     have hadd:=jj sum (aF c*1048576)
     rw[hdr,if_neg (by unfold aF at hm;omega),hmx]at e
     refine .B ?_
     refine T.cf rfl ?_
     refine .B ?_
     refine .C hadd ?_
     refine .B ?_
     rw[aj (l:=l.length) h6 (by omega)]
     refine T.K (ih (i+1,lq sum (aF c*1048576)) ⟨by omega,fun h=> ?_,fun h=> ?_⟩ (by simp only;omega))
     ·unfold lq at h⊢
      split at h
      ·rename_i h5
       rw[if_pos h5]
       have h5:=aO.1 (Bool.and_eq_true_iff.1 h5).2
       rw[if_neg (by omega)]at e
       exact⟨by simp only;omega,by simp only;omega,by rw[←e];congr 1;simp only;omega⟩
      ·cases h
     ·unfold lq at h
      split at h
      ·cases h
      ·rename_i h5
       have h5: ¬smallI (sum+aF c*1048576)=true:=fun h=>h5 (by rw[aO.2 ⟨by omega,by omega⟩,aO.2 hm,h];rfl)
       rw[aO]at h5
       rw[←e,if_pos (by omega)]
 ·have h7:i=l.length:=by simp at h1;omega
  refine .B ?_
  cases ok with
  |false=>
   obtain rfl:=hn rfl
   exact r1
  |true=>
   obtain⟨_,_,e⟩:=hv rfl
   rw[h7,List.drop_length]at e
   exact⟨_,.v rfl rfl (by rw[←e];rfl) (fun _=>rfl) .nil⟩
theorem zq (a:List Int)(v:Int)(hl:a.length*8≤140737488355328):Spec Tryz.prog 91 false [aA a,.int .i64 v] [.val (.int .i64 (atR a v))]:=by
 refine Spec.body Tryz.func91 rfl rfl rfl fun w0 Z0=> ?_
 unfold atR
 refine .B ?_
 refine J.g rfl rfl rfl (fun h=> ?_) (fun h=> ?_)
 ·refine .B ?_
  refine T.ct rfl ?_
  refine .B ?_
  exact⟨_,.v rfl rfl (by rw[if_pos h]) (fun _=>rfl) .nil⟩
 ·refine .B ?_
  refine T.cd rfl (fun h2=> ?_) (fun h2=> ?_)
  ·refine .B ?_
   refine⟨_,.v rfl rfl ?_ (fun _=>rfl) .nil⟩
   rw[if_neg h,List.getD_eq_getElem?_getD,List.getElem?_eq_none (by simp at h2;omega)];rfl
  ·have h2:v.toNat<a.length:=by simp at h2;omega
   refine .B ?_
   refine J.i rfl rfl rfl rfl rfl rfl rfl rfl rfl (r:=cI a[v.toNat]) (by omega) (bq h2) rfl ?_
   refine .B ?_
   refine⟨_,.v rfl rfl ?_ (fun _=>rfl) .nil⟩
   rw[if_neg h,List.getD_eq_getElem?_getD,List.getElem?_eq_getElem h2];rfl
theorem ri (a vars:List Int)(hv:vars.length≤1048576)(hl:a.length*8≤140737488355328):Spec Tryz.prog 81 false [aA a,aA vars] [.own 3 1 ((aY vars a).map cI)]:=by
 refine Spec.body Tryz.func81 rfl rfl rfl fun w0 Z0=> ?_
 refine .B ?_
 refine J.mk0 vars.length (by simp) (show 8*vars.length≤_ by omega) (by omega) rfl rfl rfl rfl rfl rfl rfl rfl rfl rfl rfl ?_
 refine .B ?_
 refine T.K (T.ind (fun i:Nat=>⟨[(0,.val false (aA a)),(5,.ref 0),(11,.val false (aA vars)),(12,.val true (.int .i64 (vars.map cI).length)),(13,.val true (.int .i64 i))],[(0,some (.sl 3 1 true ((aY (vars.take i) a).map cI)))],1⟩) (fun i=>i≤vars.length) (fun i=>vars.length-i) 0 (by simp) (fun _ _ h=>h) ?_)
 rintro i hi ih
 refine .B ?_
 refine T.cd rfl (fun h1=> ?_) (fun h1=> ?_)
 ·have h1:i<vars.length:=by simpa using h1
  refine .B ?_
  refine .I (r:=cI vars[i]) (bq h1) ?_
  refine .B ?_
  refine .C (zq a vars[i] hl) ?_
  refine .B ?_
  refine .V ?_
  refine J.aI rfl rfl rfl rfl rfl rfl rfl rfl rfl rfl rfl rfl rfl rfl rfl rfl rfl rfl rfl (by simp[aY];omega) ?_
  refine .B ?_
  rw[aj (l:=vars.length) (by omega) (by omega)]
  have e:aY (vars.take i) a++[atR a vars[i]]=aY (vars.take (i+1)) a:=by
   rw[List.take_succ_eq_append_getElem h1]
   unfold aY
   rw[List.map_append]
   rfl
  rw[e]
  exact T.K (ih (i+1) (by omega) (by omega))
 ·have h1:i=vars.length:=by simp at h1;omega
  subst h1
  refine .B ?_
  refine⟨_,.o rfl rfl (by rw[List.take_length]) (fun _=> .inl rfl) (by simp) .nil⟩
def dotS (a b:List Int):Int:=((a.zip b).map fun p=>p.1*p.2).sum
theorem oR: ∀(a b:List Int),(∀k∈a,CoefOk k)→(∀x∈b,-1048576≤x∧x≤1048576)→-ai a≤dotS a b∧dotS a b≤ai a
 |k::a,x::b,ha,hb=>by
  have ih:=oR a b (fun k h=>ha k (.tail _ h)) (fun x h=>hb x (.tail _ h))
  have hx:=hb x (.head _)
  have hm:=dW k x hx.1 hx.2
  have e1:ai (k::a)=aF k*1048576+ai a:=by simp[ai]
  have e2:dotS (k::a) (x::b)=k*x+dotS a b:=by simp[dotS]
  rw[e1,e2]
  generalize k*x=y at*
  omega
 | [],b,_,_=>by simp[dotS,ai]
 |k::a,[],ha,_=>by
  have:=aS (k::a)
  simp[dotS];omega
theorem zR (a b:List Int)(k x:Int)(h:a.length=b.length):dotS (a++[k]) (b++[x])=dotS a b+k*x:=by
 unfold dotS
 rw[List.zip_append h]
 simp
theorem gN: ∀(a:List Int) (i:Nat),ai (a.take i)≤ai a
 | [],i=>by simp
 |k::a,0=>by rw[List.take_zero];exact aS _
 |k::a,i+1=>by
  have:=gN a i
  have e: ∀l,ai (k::l)=aF k*1048576+ai l:=fun l=>by simp[ai]
  rw[List.take_succ_cons,e,e]
  omega
theorem x9 (a b:List Int)(hl:a.length=b.length)(hal:a.length*8≤140737488355328)(ha: ∀k∈a,CoefOk k)(hb: ∀x∈b,-1048576≤x∧x≤1048576)(hw:ai a≤4611686018427387904):Spec Tryz.prog 80 false [aA a,aA b] [.val (.int .i64 (dotS a b)),.val (.bool true)]:=by
 refine Spec.body Tryz.func80 rfl rfl rfl fun w0 Z0=> ?_
 refine .B ?_
 refine T.cf2 rfl (by simp[hl]) ?_
 refine .B ?_
 refine T.K (T.ind (fun i:Nat=>⟨[(1,.val false (aA b)),(6,.val true (.int .i64 (dotS (a.take i) (b.take i)))),(7,.val true (.bool true)),(17,.val false (aA a)),(18,.val true (.int .i64 (a.map cI).length)),(19,.val true (.int .i64 i))],[],0⟩) (fun i=>i≤a.length) (fun i=>a.length-i) 0 (by simp) (fun _ _ h=>h) ?_)
 rintro i hi ih
 refine .B ?_
 refine T.cd rfl (fun h1=> ?_) (fun h1=> ?_)
 ·have h1:i<a.length:=by simpa using h1
  have h2:i<b.length:=by omega
  refine .B ?_
  refine .I (r:=cI a[i]) (bq h1) ?_
  refine .B ?_
  refine .I (r:=cI b[i]) (bq h2) ?_
  refine .B ?_
  have hx:=hb b[i] (List.getElem_mem h2)
  have hk:=ha a[i] (List.getElem_mem h1)
  have hki:=eR hk
  have hk2:=hk.2
  have hmul:=lZ a[i] b[i] (by omega) (by omega) (by omega) (by omega)
  rw[kM hk hx.1 hx.2]at hmul
  have e1:dotS (a.take (i+1)) (b.take (i+1))=dotS (a.take i) (b.take i)+a[i]*b[i]:=by
   rw[List.take_succ_eq_append_getElem h1,List.take_succ_eq_append_getElem h2,zR _ _ _ _ (by rw[List.length_take,List.length_take];omega)]
  have hlo:=oR (a.take i) (b.take i) (fun k h=>ha k (List.mem_of_mem_take h)) (fun x h=>hb x (List.mem_of_mem_take h))
  have hlo2:=oR (a.take (i+1)) (b.take (i+1)) (fun k h=>ha k (List.mem_of_mem_take h)) (fun x h=>hb x (List.mem_of_mem_take h))
  have hw1:=gN a i
  have hw2:=gN a (i+1)
  have hm:=dW a[i] b[i] hx.1 hx.2
  have hkk:=eR hk
  have hadd:=jj (dotS (a.take i) (b.take i)) (a[i]*b[i])
  have e2:lq (dotS (a.take i) (b.take i)) (a[i]*b[i])=(dotS (a.take (i+1)) (b.take (i+1)),true):=by
   unfold lq
   rw[←e1,if_pos]
   rw[Bool.and_eq_true,Bool.and_eq_true,aO,aO,aO]
   generalize a[i]*b[i]=y at*
   omega
  rw[e2]at hadd
  have ih1:=ih (i+1) (by omega) (by omega)
  generalize dotS (a.take (i+1)) (b.take (i+1))=y1 at*
  refine .C hmul ?_
  refine .B ?_
  refine T.cf rfl ?_
  refine .B ?_
  refine .C hadd ?_
  refine .B ?_
  refine T.cf rfl ?_
  refine .B ?_
  rw[aj (l:=a.length) (by omega) (by omega)]
  exact T.K ih1
 ·have h1:i=a.length:=by simp at h1;omega
  subst h1
  refine .B ?_
  refine⟨_,.v rfl rfl (by rw[List.take_length,hl,List.take_length]) (fun _=>rfl) (.v rfl rfl rfl (fun _=>rfl) .nil)⟩
def cZ (g:Goal)(a:List Int):Int:=if g.kind=0 then 0 else bR g.vars g.coefs a
theorem jq: ∀(vars coefs a:List Int),dotS coefs (aY vars a)=bR vars coefs a
 |v::vars,k::coefs,a=>by
  have:=jq vars coefs a
  unfold dotS bR aY at*
  simp only[List.map_cons,List.zip_cons_cons,List.sum_cons,this]
 | [],coefs,a=>by simp[dotS,bR,aY]
 |_::_,[],a=>by simp[dotS,bR,aY]
structure GoalOk (g:Goal):Prop where
 len:g.vars.length=g.coefs.length
 few:g.vars.length≤1024
 ck: ∀k∈g.coefs,CoefOk k
 weight:ai g.coefs≤4611686018427387904
theorem s8 (g:Goal)(a:List Int)(hg:g.kind≠0→GoalOk g)(hal:a.length*8≤140737488355328)(ha: ∀x∈a,-1048576≤x∧x≤1048576):Spec Tryz.prog 45 false [.agg (cG g),aA a] [.val (.int .i64 (cZ g a))]:=by
 refine Spec.body Tryz.func45 rfl rfl rfl fun w0 Z0=> ?_
 unfold cZ
 refine .B ?_
 refine T.cd rfl (fun h1=> ?_) (fun h1=> ?_)
 ·rw[if_pos h1]
  refine .B ?_
  exact r1
 ·rw[if_neg h1]
  obtain⟨h2,h3,h4,h5⟩:=hg h1
  have hat: ∀v,-1048576≤atR a v∧atR a v≤1048576:=fun v=>by
   unfold atR
   split
   ·omega
   ·rw[List.getD_eq_getElem?_getD]
    cases h:a[v.toNat]? with
    |none=>simp
    |some x=>exact ha x (List.mem_of_getElem? h)
  have hd:=x9 g.coefs (aY g.vars a) (by simp[aY,h2]) (by omega) h4 (fun x hx=>by obtain⟨v,_,rfl⟩:=List.mem_map.1 hx;exact hat v) h5
  rw[jq]at hd
  refine .B ?_
  refine .C (ri a g.vars (by omega) hal).frz ?_
  refine .B ?_
  refine .C hd ?_
  refine .B ?_
  exact r1
def iG (g:Goal)(v:Int):Con:=⟨0,g.vars,if g.kind=2 then g.coefs.map (- ·)else g.coefs,0,if g.kind=2 then -v-1 else v-1,[],0⟩
theorem uy (g:Goal)(v:Int)(hg:GoalOk g)(hv: -4611686018427387904≤v∧v≤4611686018427387904):Spec Tryz.prog 44 false [.agg (cG g),.int .i64 v] [.val (.agg (cC (iG g v)))]:=by
 refine Spec.body Tryz.func44 rfl rfl rfl fun w0 Z0=> ?_
 obtain⟨h1,h2,h3,h4⟩:=hg
 have hc1:=(dO g.vars (by omega)).frz
 have hc2:=dO g.coefs (by omega)
 refine .B ?_
 refine .L ?_
 refine .M ?_
 refine T.rdm 10 rfl (by kernel_rfl) rfl ?_
 refine .M ?_
 refine .C hc1 ?_
 refine .M ?_
 refine .C hc2 ?_
 refine .M ?_
 refine J.br rfl rfl rfl rfl rfl ?_
 refine .M ?_
 refine .L ?_
 refine J.nil ?_
 refine J.name 1000 (s:=12) rfl rfl rfl fun u=> ?_
 refine J.sub (Rel.agraw (s:=15) [(2,1000)] rfl rfl) ?_
 refine .W ?_
 refine .B ?_
 refine T.cd rfl (fun hk=> ?_) (fun hk=> ?_)
 ·have e0:iG g v=⟨0,g.vars,g.coefs.map (- ·),0,-v-1,[],0⟩:=by unfold iG;rw[if_pos hk,if_pos hk]
  rw[e0]
  refine .B ?_
  refine J.sub (Rel.deraw (s:=20) (g:=1000) rfl rfl) ?_
  refine .B ?_
  refine T.K (T.ind (fun i:Nat=>⟨[(1,.val false (.int .i64 v)),(4,.optr 0 0 0 0),(5,.optr 1 0 0 0),(21,.val true (.int .i64 (g.coefs.map cI).length)),(22,.val true (.int .i64 i)),(1000,.eq u 2)],[(0,some (.box true [.int .i64 0,.sl [],.sl [],.int .i64 0,.int .i64 0,.sl [],.int .i64 0])),(1,some (.box true [.int .i64 0,aA g.vars,.raw u,.int .i64 0,.int .i64 (IntKind.i64.wrap (v-1)),.sl [],.int .i64 0])),(2,some (.sl 3 1 true ((((g.coefs.take i).map (- ·))++g.coefs.drop i).map cI)))],3⟩) (fun i=>i≤g.coefs.length) (fun i=>g.coefs.length-i) 0 (by simp) (fun _ _ h=>h) ?_)
  rintro i hi ih
  refine .B ?_
  refine T.cd rfl (fun h5=> ?_) (fun h5=> ?_)
  ·have h5:i<g.coefs.length:=by simpa using h5
   have hml:((g.coefs.take i).map (- ·)).length=i:=by simp;omega
   have hL:(((g.coefs.take i).map (- ·))++g.coefs.drop i).length=g.coefs.length:=by rw[List.length_append,hml,List.length_drop];omega
   have hrow:((((g.coefs.take i).map (- ·))++g.coefs.drop i).map cI)[(i:Int).toNat]? =some (cI g.coefs[i]):=by
    rw[Int.toNat_natCast,List.getElem?_map,List.getElem?_append_right (by omega),hml,Nat.sub_self,List.getElem?_drop,Nat.add_zero,List.getElem?_eq_getElem h5];rfl
   have hset:(((g.coefs.take i).map (- ·))++g.coefs.drop i).set i (- g.coefs[i])=((g.coefs.take (i+1)).map (- ·))++g.coefs.drop (i+1):=by
    rw[List.set_append_right _ _ (by omega),hml,Nat.sub_self,List.drop_eq_getElem_cons h5,List.set_cons_zero,List.take_succ_eq_append_getElem h5,List.map_append,List.append_assoc];rfl
   have hck:=eR (h3 _ (List.getElem_mem h5))
   refine .M ?_
   refine T.rdm 10 rfl (by kernel_rfl) rfl ?_
   iterate 1 refine J.H rfl ?_
   refine J.lr 1000 (q:=2) (u:=u) rfl rfl rfl rfl rfl rfl rfl rfl rfl ?_
   iterate 2 refine J.H rfl ?_
   refine J.lr 1000 (q:=2) (u:=u) rfl rfl rfl rfl rfl rfl rfl rfl rfl ?_
   refine .M ?_
   refine J.io rfl rfl rfl rfl rfl rfl rfl rfl rfl (by omega) (by rw[List.length_map,hL];omega) rfl ?_
   refine J.lo rfl rfl rfl rfl rfl rfl (r:=cI g.coefs[i]) hrow rfl ?_
   refine .M ?_
   refine J.io rfl rfl rfl rfl rfl rfl rfl rfl rfl (by omega) (by rw[List.length_map,hL];omega) rfl ?_
   refine J.nil ?_
   have ew:IntKind.i64.wrap (0-g.coefs[i])= -g.coefs[i]:=by rw[ac (by omega) (by omega)];omega
   rw[ew]
   refine J.w1 rfl rfl rfl rfl rfl rfl rfl rfl rfl rfl rfl (z:= -g.coefs[i]) (fun _=>rfl) (by rw[hL];omega) ?_
   rw[Int.toNat_natCast,hset]
   refine .M ?_
   rw[aj h5 (by omega)]
   exact T.K (ih (i+1) (by omega) (by omega))
  ·have h5:i=g.coefs.length:=by simp at h5;omega
   subst h5
   rw[List.take_length,List.drop_length,List.append_nil]
   refine .B ?_
   refine .W ?_
   refine J.sub (Rel.cellF 1000 2 (q:=1) (n:=2) (fun b h=>h) rfl rfl rfl rfl rfl) ?_
   refine .B ?_
   refine .W ?_
   refine .B ?_
   exact⟨_,.cell rfl rfl (by rw[ac (n:=0-v) (by omega) (by omega),ac (n:=0-v-1) (by omega) (by omega),Int.zero_sub];rfl) (fun _=>rfl) .nil⟩
 ·have e0:iG g v=⟨0,g.vars,g.coefs,0,v-1,[],0⟩:=by unfold iG;rw[if_neg hk,if_neg hk]
  rw[e0]
  refine T.sub (Rel.cellF 1000 2 (q:=3) (n:=2) (fun b h=>h) rfl rfl rfl rfl rfl) ?_
  refine .B ?_
  refine .W ?_
  refine .B ?_
  exact⟨_,.cell rfl rfl (by rw[ac (by omega) (by omega)];rfl) (fun _=>rfl) .nil⟩
def vP (g:Goal)(_:Option (List Int))(a:List Int):Option (List Int)×Bool:=(some a,decide (g.kind=0))
def jx (cons:List Con)(g:Goal)(t:Option (List Int)):List Con:=match t with
 |none=>cons
 |some a=>if g.kind=0 then cons else cons++[iG g (cZ g a)]
def mM (m:Mod)(kb:Nat)(bp sp kp:Value):Fnd (Option (List Int)):=⟨42,[.raw bp,.raw sp,.ptr (cM m),.raw kp],bp,sp,kp,fun t _ _=> .box true [aA (t.getD [])],fun t _ _=> .box true [.bool t.isSome],fun _ _ _=> .box true [.raw (pV kb)],fun _=> .sl 3 1 true [],fun _=> .sl 3 1 true [],jx m.cons m.goal,vP m.goal,fun _=>0⟩
theorem l4 {σ:Type}{d0:aa}{con:σ→List Con}{t:σ}{a:List Int}(gd:GoodD d0.length d0)(h:uE d0 con t a):a.length=d0.length∧(∀i,i<d0.length→a.getD i 0∈vals (d0.getD i []))∧∀x∈a,-1048576≤x∧x≤1048576:=by
 obtain⟨e,ge,hle,_,hs⟩:=h
 obtain⟨s1,s2⟩:=xt ge hs
 have hv: ∀i,i<d0.length→a.getD i 0∈vals (d0.getD i []):=fun i hi=>by
  have h1:=s2 (i:Int) (by omega) (by omega)
  have h2:=hle.2 (i:Int) (atR a i) (by omega) (by rw[h1];simp)
  unfold domAt atR at h2
  rwa[if_neg (by omega),Int.toNat_natCast]at h2
 refine⟨s1,hv,fun x hx=> ?_⟩
 obtain⟨i,hi,rfl⟩:=List.mem_iff_getElem.1 hx
 have h1:=hv i (by omega)
 have h1:a[i]∈vals (d0.getD i []):=by rw[List.getD_eq_getElem?_getD (l:=a),List.getElem?_eq_getElem hi]at h1;exact h1
 rw[List.getD_eq_getElem?_getD,List.getElem?_eq_getElem (by omega)]at h1
 exact(gd.few.fine _ (List.getElem_mem _)).val _ h1
set_option maxHeartbeats 1000000 in
theorem zW (kb sb:Nat)(m:Mod)(left:Int)(d0:aa)(gd:GoodD d0.length d0)(hdl:d0.length≤1024)(hcl:m.cons.length≤4095)(hg:m.goal.kind≠0→GoalOk m.goal)(bp sp kp:Value)(I:Option (List Int)→Prop):FndOK (mM m kb bp sp kp) kb sb m left d0 I:=by
 refine⟨fun t a g1 g2 nodes short over _ _ hf=> ?_⟩
 obtain⟨hal,_,hav⟩:=l4 gd hf
 refine SpecX.body (fn:=Tryz.f42) [1000,1001,1002,1003,1004,1005] [1004,1005] rfl rfl rfl rfl fun w0 Z=> ?_
 refine T.sub (Rel.derawp (s:=1) (g:=1001) rfl rfl rfl) ?_
 refine T.sub (Rel.derawp (s:=2) (g:=1002) rfl rfl rfl) ?_
 refine T.sub (Rel.derawp (s:=4) (g:=1003) rfl rfl rfl) ?_
 refine .B ?_
 refine .W ?_
 refine .W ?_
 refine J.sub (Rel.canon (keep:=[0,3,4,1000,1001,1002,1003,1004,1005]) (os:=[1000,1001,1002,1003,1004,1005]) rfl) (?_:J _ _ _ _ ⟨[(0,.val true (aA a)),(3,.val false (.ptr (cM m))),(4,.optr 3 0 0 0),(1000,.eq (pV kb) 0),(1001,.eq bp 1),(1002,.eq sp 2),(1003,.eq kp 3),(1004,.eq g1 4),(1005,.eq g2 5)],[(0,some (kV m (pV sb) (jx m.cons m.goal t) left nodes short over (mM m kb bp sp kp).pv)),(1,some (.box true [aA a])),(2,some (.box true [.bool true])),(3,some (.box true [.raw (pV kb)])),(4,some (.sl 3 1 true [])),(5,some (.sl 3 1 true []))],6⟩ _)
 refine .B ?_
 refine T.cd rfl (fun hk=> ?_) (fun hk=> ?_)
 ·have e1:(mM m kb bp sp kp).fnd t a=(some a,true):=by show(some a,decide (m.goal.kind=0))=_;rw[decide_eq_true hk]
  rw[e1]
  refine .B ?_
  have e2: ∀u,jx m.cons m.goal u=m.cons:=fun u=>by cases u with|none=>rfl|some b=>exact if_pos hk
  refine⟨[0,1,2,3],[4,5],[g1,g2],⟨rfl,⟨_,rfl,?_,rfl⟩,rfl,⟨_,rfl,rfl,rfl⟩,rfl,⟨_,rfl,rfl,rfl⟩,rfl,⟨_,rfl,rfl,rfl⟩,trivial⟩,⟨rfl,⟨_,rfl,rfl,rfl⟩,rfl,⟨_,rfl,rfl,rfl⟩,trivial⟩,rfl,.val rfl rfl (fun _=>rfl) .nil⟩
  show Own.reg _ _=kV m (pV sb) (jx m.cons m.goal (some a)) left nodes short over _
  rw[e2,e2]
  rfl
 ·have e1:(mM m kb bp sp kp).fnd t a=(some a,false):=by show(some a,decide (m.goal.kind=0))=_;rw[decide_eq_false hk]
  rw[e1]
  have hgo:=hg hk
  have hgo2:=hgo
  obtain⟨g4,g5,g6,g7⟩:=hgo2
  have hat: ∀v,-1048576≤atR a v∧atR a v≤1048576:=fun v=>by
   unfold atR
   split
   ·omega
   ·rw[List.getD_eq_getElem?_getD]
    cases h:a[v.toNat]? with
    |none=>simp
    |some x=>exact hav x (List.mem_of_getElem? h)
  have hvb: -4611686018427387904≤cZ m.goal a∧cZ m.goal a≤4611686018427387904:=by
   unfold cZ
   rw[if_neg hk,←jq]
   have:=oR m.goal.coefs (aY m.goal.vars a) g6 (fun x hx=>by obtain⟨v,_,rfl⟩:=List.mem_map.1 hx;exact hat v)
   omega
  have hbe:=uy m.goal (cZ m.goal a) hgo hvb
  have e2:jx m.cons m.goal (some a)=m.cons++[iG m.goal (cZ m.goal a)]:=if_neg hk
  have hva:=s8 m.goal a hg (by omega) hav
  have hcc:=mL m.cons (by omega)
  refine .M ?_
  refine T.rdw 15 rfl (by kernel_rfl) rfl ?_
  refine J.lp 1000 (b:=kb) (q:=0) rfl ?_
  refine .M ?_
  refine .C hcc ?_
  refine .M ?_
  refine .C hva ?_
  refine .M ?_
  refine .C hbe ?_
  refine .M ?_
  refine .V ?_
  refine J.ad rfl rfl rfl rfl rfl rfl rfl rfl rfl rfl rfl rfl rfl rfl rfl rfl rfl rfl (cJ rfl) (Nat.le_trans (Nat.mul_le_mul_right _ (show(m.cons.map cC).length+1≤4096 by rw[List.length_map];omega)) (show 4096*104≤140737488355328 by decide)) ?_
  refine .M ?_
  refine⟨by kernel_rfl,?_⟩
  refine J.sub (Rel.frzX (s:=24) (o:=7) rfl rfl ⟨.inr ⟨1000,_,_,rfl,rfl,by decide⟩,.inr ⟨1001,_,_,rfl,rfl,by decide⟩,.inr ⟨1002,_,_,rfl,rfl,by decide⟩,.inr ⟨1003,_,_,rfl,rfl,by decide⟩,.inr ⟨1004,_,_,rfl,rfl,by decide⟩,.inr ⟨1005,_,_,rfl,rfl,by decide⟩,trivial⟩) ?_
  refine .W ?_
  refine .M ?_
  have e3:m.cons.map cC++[cC (iG m.goal (cZ m.goal a))]=(jx m.cons m.goal (some a)).map cC:=by rw[e2,List.map_append];rfl
  refine⟨[0,1,2,3],[4,5],[g1,g2],⟨rfl,⟨_,rfl,?_,rfl⟩,rfl,⟨_,rfl,rfl,rfl⟩,rfl,⟨_,rfl,rfl,rfl⟩,rfl,⟨_,rfl,rfl,rfl⟩,trivial⟩,⟨rfl,⟨_,rfl,rfl,rfl⟩,rfl,⟨_,rfl,rfl,rfl⟩,trivial⟩,rfl,.val rfl rfl (fun _=>rfl) .nil⟩
  show Own.reg _ _=kV m (pV sb) (jx m.cons m.goal (some a)) left nodes short over _
  unfold kV cE
  rw[←e3]
  rfl
theorem goal_kinds {d:aa}{g:Goal}(h:ep d g=0):(g.kind=0∧g.vars=[]∧g.coefs=[])∨((g.kind=1∨g.kind=2)∧conR d (ef g)=0):=by
 unfold ep at h
 split at h
 ·rename_i h1;exact .inr ⟨h1,h⟩
 ·split at h
  ·cases h
  ·rename_i h1 h2
   exact .inl ⟨by omega,List.eq_nil_of_length_eq_zero (by omega),List.eq_nil_of_length_eq_zero (by omega)⟩
theorem uB (k:Int):aF (-k)=aF k:=by unfold aF;omega
theorem r4 (l:List Int):ai (l.map (- ·))=ai l:=by
 unfold ai
 rw[List.map_map]
 refine congrArg List.sum (List.map_congr_left fun k _=> ?_)
 show aF (-k)*1048576=_
 rw[uB]
structure GoalIn (d:aa)(g:Goal):Prop where
 few:g.vars.length≤1024
 kind:g.kind=0∨((g.kind=1∨g.kind=2)∧SumFine d g.vars g.coefs∧g.vars.Nodup∧0<g.vars.length∧ai g.coefs≤4611686018427387904)
theorem wX {d:aa}{g:Goal}(gd:GoodD d.length d)(hf:g.vars.length≤1024)(hc:g.coefs.length≤1024)(h:ep d g=0):GoalIn d g:=by
 refine⟨hf,?_⟩
 rcases goal_kinds h with ⟨h1,_⟩|⟨h1,h2⟩
 ·exact .inl h1
 ·have hcb:ConB (ef g):=⟨by show(g.vars.length+1)*8≤_;omega,by show g.coefs.length*8≤_;omega,by simp[ef],by simp[ef]⟩
  have hs:=qX hcb h2 rfl gd.few.fine gd.few.small
  obtain⟨_,h3⟩:=oY (jt h2)
  have:=bC (ef g).rhs
  exact .inr ⟨h1,hs.fine,hs.nod,hs.pos,by have h3:ai g.coefs+aF (ef g).rhs≤_:=h3;omega⟩
theorem GoalIn.ok {d:aa}{g:Goal}(h:GoalIn d g)(hk:g.kind≠0):GoalOk g:=by
 rcases h.kind with h1|⟨_,h1,_,_,h2⟩
 ·exact absurd h1 hk
 ·exact⟨h1.len,h.few,h1.ck,h2⟩
theorem B4 {a:List Int}(h: ∀x∈a,-1048576≤x∧x≤1048576)(v:Int): -1048576≤atR a v∧atR a v≤1048576:=by
 unfold atR
 split
 ·omega
 ·rw[List.getD_eq_getElem?_getD]
  cases e:a[v.toNat]? with
  |none=>simp
  |some x=>exact h x (List.mem_of_getElem? e)
theorem yE {g:Goal}{a:List Int}(hg:g.kind≠0→GoalOk g)(h: ∀x∈a,-1048576≤x∧x≤1048576): -4611686018427387904≤cZ g a∧cZ g a≤4611686018427387904:=by
 unfold cZ
 split
 ·omega
 ·rename_i hk
  obtain⟨_,_,g6,g7⟩:=hg hk
  rw[←jq]
  have:=oR g.coefs (aY g.vars a) g6 (fun x hx=>by obtain⟨v,_,rfl⟩:=List.mem_map.1 hx;exact B4 h v)
  omega
theorem yA {d:aa}{g:Goal}(h:GoalIn d g)(hk:g.kind≠0){v:Int}(hv: -4611686018427387904≤v∧v≤4611686018427387904):RightC d (iG g v):=by
 rcases h.kind with h1|⟨h1,h2,h3,h4,h5⟩
 ·exact absurd h1 hk
 ·refine .inr ⟨rfl,?_⟩
  unfold iG
  by_cases hk2:g.kind=2
  ·rw[if_pos hk2,if_pos hk2]
   exact⟨⟨by show g.vars.length=(g.coefs.map (- ·)).length;rw[List.length_map];exact h2.len,h2.vl,h2.vin,fun k hk=>by
    obtain⟨j,hj,rfl⟩:=List.mem_map.1 hk
    have:=h2.ck j hj
    exact⟨by have:=this.1;omega,by rw[uB];exact this.2⟩,h2.dom,h2.dl⟩,h3,h4,by show(0:Int)≤0∧(0:Int)≤2;omega,by show ai (g.coefs.map (- ·))≤_;rw[r4];omega,by show aF (-v-1)≤_;unfold aF;omega⟩
  ·rw[if_neg hk2,if_neg hk2]
   exact⟨h2,h3,h4,by show(0:Int)≤0∧(0:Int)≤2;omega,by show ai g.coefs≤_;omega,by show aF (v-1)≤_;unfold aF;omega⟩
def IB (t:Option (List Int)):Prop:= ∀a,t=some a→∀x∈a,-1048576≤x∧x≤1048576
theorem tu {d0:aa}{cons:List Con}{g:Goal}(h:RunOk d0 cons)(hl:cons.length≤4095)(hg:GoalIn d0 g):SrchOK d0 (jx cons g) (vP g) IB:=by
 refine⟨fun t ht=> ?_,fun t a ht hf b e=> ?_⟩
 ·cases t with
  |none=>exact h
  |some a=>
   by_cases hk:g.kind=0
   ·have e:jx cons g (some a)=cons:=if_pos hk
    rw[e];exact h
   ·have e:jx cons g (some a)=cons++[iG g (cZ g a)]:=if_neg hk
    rw[e]
    refine⟨h.gd,fun c hc=> ?_,fun c hc=> ?_,h.prod,by rw[List.length_append];show _+1≤_;omega⟩
    ·rcases List.mem_append.1 hc with hc|hc
     ·exact h.con c hc
     ·rw[List.mem_singleton.1 hc]
      have hlen:=(hg.ok hk).len
      have hfew:=hg.few
      refine⟨hfew,by show(g.vars.length+1)*8≤_;omega,?_,by simp[iG],by simp[iG]⟩
      show(iG g _).coefs.length*8≤_
      unfold iG
      split
      ·show(g.coefs.map (- ·)).length*8≤_;rw[List.length_map];omega
      ·show g.coefs.length*8≤_;omega
    ·rcases List.mem_append.1 hc with hc|hc
     ·exact h.right c hc
     ·rw[List.mem_singleton.1 hc]
      exact yA hg hk (yE (fun hk=>hg.ok hk) (ht a rfl))
 ·cases e
  exact(l4 h.gd hf).2.2
noncomputable def srchB (m:Mod)(left:Int):Srch (Option (List Int)):=lookG left (jx m.cons m.goal) (vP m.goal) (weight (domsM m)+1) (domsM m) ⟨0,false,false,none⟩
set_option maxHeartbeats 1000000 in
theorem nG (m:Mod)(hm:ModB m)(hr:RunOk (domsM m) m.cons)(hw:weight (domsM m)≤1000000)(hg:GoalIn (domsM m) m.goal)(left:Int)(hleft:left≤1099511627776)(hck:Spec Tryz.prog 64 false [.agg (cM m)] [.val (.int .i64 0)]):
  Spec Tryz.prog 18 false [.agg (cM m),.int .i64 left] [.val (aA ((srchB m left).st.getD [])),.val (.bool (srchB m left).st.isSome),.val (.bool (!(srchB m left).short)),.val (.int .i64 (srchB m left).nodes),.val (.int .i64 0)]:=by
 refine Spec.body Tryz.func18 rfl rfl rfl fun w0 Z0=> ?_
 have hdl:(domsM m).length≤1024:=by have:=hm.vl;simpa[domsM]using this
 have hcl:=hm.cl
 refine .B ?_
 refine J.cx [] [] [1000,1001,1002,1006,1007] (mt m hm hr.gd.few left hck) trivial (fun ns hns=> ?_)
 obtain⟨p,sp,lv,cv,mv,rfl⟩:=BV hns rfl
 refine .M ?_
 refine .L ?_
 refine .W ?_
 refine .M ?_
 refine T.cf rfl ?_
 refine T.canon (keep:=[2,9,1000,1001,1002,1006,1007]) (os:=[1000,1001,1002,1006,1007,9,2]) rfl ?_
 refine T.knownp 1000 0 rfl rfl fun kb e1=> ?_
 refine T.knownp 1001 1 rfl rfl fun sb e2=> ?_
 obtain rfl:p=pV kb:=e1
 obtain rfl:sp=pV sb:=e2
 refine .M ?_
 refine .L ?_
 refine .M ?_
 refine .L ?_
 refine .W ?_
 refine .M ?_
 refine J.name 1003 (s:=11) rfl rfl rfl fun bp=> ?_
 refine J.name 1004 (s:=12) rfl rfl rfl fun op=> ?_
 refine J.name 1005 (s:=9) rfl rfl rfl fun kp=> ?_
 refine J.sub (Rel.raw (s:=11) (g:=1003) rfl (.inr rfl) rfl rfl rfl) ?_
 refine J.sub (Rel.raw (s:=12) (g:=1004) rfl (.inr rfl) rfl rfl rfl) ?_
 refine J.sub (Rel.raw (s:=9) (g:=1005) rfl (.inr rfl) rfl rfl rfl) ?_
 refine J.sub (Rel.unbx (s:=2) (fun b h=>h) rfl rfl) ?_
 refine J.sub (Rel.fp (s:=2) rfl) ?_
 refine J.sub (Rel.derawp (s:=22) (g:=1000) rfl rfl rfl) ?_
 refine .M ?_
 refine .W ?_
 refine .M ?_
 refine J.sub (Rel.derawp (s:=9) (g:=1005) rfl rfl rfl) ?_
 refine .M ?_
 refine J.sub (Rel.ownN 1008 3 1) ?_
 refine J.sub (Rel.ownN 1009 3 1) ?_
 refine J.sub (Rel.canon (keep:=[9,11,12,26,1000,1001,1002,1003,1004,1005,1006,1007,1008,1009]) (os:=[1000,1001,1002,1003,1004,1005,1006,1007,1008,1009]) rfl) (?_:J _ _ _ _ (nE (mM m kb bp op kp) kb sb m left [(9,.optr 5 0 0 0),(11,.val true (.raw bp)),(12,.val true (.raw op)),(26,.val true (.raw (pV kb)))] lv cv mv (.slice none 0 0) (.slice none 0 0) (domsM m) [] [] ⟨0,false,false,none⟩) _)
 have hlk: ∃e ch',uC (mM m kb bp op kp) kb sb m left 37 [(true,.raw (pV kb))] lv cv mv (.slice none 0 0) (.slice none 0 0) (domsM m) e [] ch' [] ⟨0,false,false,none⟩ (srchB m left):=⟨_,_,qd (mM m kb bp op kp) kb sb m left (domsM m) IB (tu hr (by omega) hg) (zW kb sb m left (domsM m) hr.gd hdl (by omega) (fun hk=>hg.ok hk) bp op kp IB) (fun t a=>Nat.zero_le _) hleft hdl (weight (domsM m)+1) (domsM m) ⟨0,false,false,none⟩ lv cv mv (.slice none 0 0) (.slice none 0 0) [] [] (Nat.lt_succ_self _) hr.gd leD.rfl' (fun a e=>by cases e) (Nat.zero_le _) rfl (by simp;omega) (by simp;omega)⟩
 obtain⟨e,ch',hlk⟩:=hlk
 generalize srchB m left=r at*
 refine J.cx [0,1,2,3,4,5,6,7,8,9] [1000,1001,1002,1003,1004,1005,1006,1007,1008,1009] [1006,1007,1008,1009] hlk ⟨rfl,⟨_,rfl,rfl,rfl⟩,rfl,⟨_,rfl,rfl,rfl⟩,rfl,⟨_,rfl,rfl,rfl⟩,rfl,⟨_,rfl,rfl,rfl⟩,rfl,⟨_,rfl,rfl,rfl⟩,rfl,⟨_,rfl,rfl,rfl⟩,rfl,⟨_,rfl,rfl,rfl⟩,rfl,⟨_,rfl,rfl,rfl⟩,rfl,⟨_,rfl,rfl,rfl⟩,rfl,⟨_,rfl,rfl,rfl⟩,trivial⟩ (fun ns hns=> ?_)
 obtain⟨a1,a2,a3,a4,rfl⟩:=zz hns rfl
 refine .M ?_
 refine T.K (?_:T _ _ (nE (mM m kb bp op kp) kb sb m left [(9,.optr 5 0 0 0),(11,.val true (.raw bp)),(12,.val true (.raw op))] lv a1 a2 a3 a4 e ch' [] r) _)
 refine T.sub (Rel.derawp (s:=11) (g:=1003) rfl rfl rfl) ?_
 refine T.sub (Rel.derawp (s:=12) (g:=1004) rfl rfl rfl) ?_
 refine .A ?_
 conv=>whnf
 iterate 2 refine J.H rfl ?_
 refine J.lp 1000 (b:=kb) (q:=0) rfl ?_
 iterate 4 refine J.H rfl ?_
 refine J.lp 1000 (b:=kb) (q:=0) rfl ?_
 iterate 8 refine J.H rfl ?_
 refine J.nil ?_
 refine .B ?_
 exact⟨_,.v rfl rfl rfl (fun _=>rfl) (.v rfl rfl rfl (fun _=>rfl) (.v rfl rfl rfl (fun _=>rfl) (.v rfl rfl rfl (fun _=>rfl) (.v rfl rfl rfl (fun _=>rfl) .nil))))⟩
def kS:Con:=⟨0,[0,1],[1,1],1,1,[],0⟩
def kT:Con:=⟨0,[0,1],[-2,-1],0,-2,[],0⟩
def em:Mod:=⟨[(⟨#[120]⟩,[(0,1)]),(⟨#[121]⟩,[(0,1)])],[kS],⟨2,[0,1],[2,1]⟩⟩
theorem vK:ConB kS:=by simp[ConB,kS]
theorem BY:ConB kT:=by simp[ConB,kT]
theorem gp0:GoodD 2 (dmQ 0 1 0 1):=i4 (by decide) (by decide) (by decide) (by decide) (by decide) (by decide)
theorem gp1:GoodD 2 (dmQ 0 0 0 1):=i4 (by decide) (by decide) (by decide) (by decide) (by decide) (by decide)
theorem gp2:GoodD 2 (dmQ 0 0 1 1):=i4 (by decide) (by decide) (by decide) (by decide) (by decide) (by decide)
theorem gp3:GoodD 2 (dmQ 1 1 0 1):=i4 (by decide) (by decide) (by decide) (by decide) (by decide) (by decide)
theorem gp4:GoodD 2 (dmQ 1 1 0 0):=i4 (by decide) (by decide) (by decide) (by decide) (by decide) (by decide)
theorem BM:bK kS (dmQ 0 1 0 1)=some (dmQ 0 1 0 1):=je (N:=5) gp0 vK rfl (by decide +kernel) (by unfold LinAns;rw[if_neg (by decide),if_neg (by decide)];decide +kernel)
theorem BL:bK kS (dmQ 0 0 0 1)=some (dmQ 0 0 1 1):=je (N:=5) gp1 vK rfl (by decide +kernel) (by unfold LinAns;rw[if_neg (by decide),if_neg (by decide)];decide +kernel)
theorem BK:bK kS (dmQ 0 0 1 1)=some (dmQ 0 0 1 1):=je (N:=5) gp2 vK rfl (by decide +kernel) (by unfold LinAns;rw[if_neg (by decide),if_neg (by decide)];decide +kernel)
theorem AY:bK kS (dmQ 1 1 0 1)=some (dmQ 1 1 0 0):=je (N:=5) gp3 vK rfl (by decide +kernel) (by unfold LinAns;rw[if_neg (by decide),if_neg (by decide)];decide +kernel)
theorem AX:bK kS (dmQ 1 1 0 0)=some (dmQ 1 1 0 0):=je (N:=5) gp4 vK rfl (by decide +kernel) (by unfold LinAns;rw[if_neg (by decide),if_neg (by decide)];decide +kernel)
theorem BJ:bK kT (dmQ 1 1 0 0)=some (dmQ 1 1 0 0):=je (N:=5) gp4 BY rfl (by decide +kernel) (by unfold LinAns;rw[if_neg (by decide),if_neg (by decide)];decide +kernel)
theorem yT:RunOk (dmQ 0 1 0 1) [kS]:=by
 refine⟨gp0,fun c hc=> ?_,fun c hc=> .inl ?_,by decide +kernel,by decide⟩
 ·simp at hc;subst hc;exact⟨by decide,vK⟩
 ·simp at hc;subst hc;decide +kernel
theorem Cb:RunOk (dmQ 0 1 0 1) [kS,kT]:=by
 refine⟨gp0,fun c hc=> ?_,fun c hc=> .inl ?_,by decide +kernel,by decide⟩
 ·simp at hc
  rcases hc with rfl|rfl
  ·exact⟨by decide,vK⟩
  ·exact⟨by decide,BY⟩
 ·simp at hc
  rcases hc with rfl|rfl<;>decide +kernel
theorem leP {a b c d:Int}(h:0≤a∧b≤1∧0≤c∧d≤1):leD (dmQ a b c d) (dmQ 0 1 0 1):=by
 refine⟨rfl,fun u x h0 hx=> ?_⟩
 unfold domAt at hx⊢
 match hn:u.toNat with
 |0=>rw[hn]at hx;simp[dmQ,vals,cA]at hx⊢;omega
 |1=>rw[hn]at hx;simp[dmQ,vals,cA]at hx⊢;omega
 |n+2=>rw[hn]at hx;simp[dmQ,vals]at hx
theorem B8:gK [kS] (dmQ 0 1 0 1)=some (dmQ 0 1 0 1):=by
 refine(ft (R:=some (dmQ 0 1 0 1)) ⟨?_,fun c hc=> ?_⟩).symm
 ·exact Come.refl (be 2) gp0
 simp at hc;subst hc;exact BM
theorem z1:gK [kS] (dmQ 0 0 0 1)=some (dmQ 0 0 1 1):=by
 have hs:=(yT.less (e:=dmQ 0 0 0 1) gp1 (leP (by decide))).step (c:=kS) (by simp)
 refine(ft (R:=some (dmQ 0 0 1 1)) ⟨?_,fun c hc=> ?_⟩).symm
 ·exact(Come.refl (be 2) gp1).step (be 2) (c:=kS) (by simp) hs.takes BL
 simp at hc;subst hc;exact BK
theorem B7:gK [kS] (dmQ 1 1 0 1)=some (dmQ 1 1 0 0):=by
 have hs:=(yT.less (e:=dmQ 1 1 0 1) gp3 (leP (by decide))).step (c:=kS) (by simp)
 refine(ft (R:=some (dmQ 1 1 0 0)) ⟨?_,fun c hc=> ?_⟩).symm
 ·exact(Come.refl (be 2) gp3).step (be 2) (c:=kS) (by simp) hs.takes AY
 simp at hc;subst hc;exact AX
theorem B6:gK [kS,kT] (dmQ 1 1 0 1)=some (dmQ 1 1 0 0):=by
 have hs:=(Cb.less (e:=dmQ 1 1 0 1) gp3 (leP (by decide))).step (c:=kS) (by simp)
 refine(ft (R:=some (dmQ 1 1 0 0)) ⟨?_,fun c hc=> ?_⟩).symm
 ·exact(Come.refl (be 2) gp3).step (be 2) (c:=kS) (by simp) hs.takes AY
 simp at hc
 rcases hc with rfl|rfl
 ·exact AX
 ·exact BJ
theorem tq {σ:Type}{left:Int}{con:σ→List Con}{fnd:σ→List Int→σ×Bool}{n:Nat}{d l:aa}{s:Srch σ}{a:List Int}(h1:(s.nodes:Int)<left)(h2:gK (con s.st) d=some l)(h3:cH l=some a):lookG left con fnd (n+1) d s= { s with nodes:=s.nodes+1,st:=(fnd s.st a).1,over:=(fnd s.st a).2 }:=by
 rw[lookG,if_neg (by omega),h2]
 simp only[h3]
theorem vD {σ:Type}{left:Int}{con:σ→List Con}{fnd:σ→List Int→σ×Bool}{n:Nat}{s:Srch σ}(h1:(s.nodes:Int)<left)(h2:con s.st=[kS]):lookG left con fnd (n+1) (dmQ 0 1 0 1) s=[0,1].foldl (fun s x=>if s.over then s else lookG left con fnd n (dmQ x x 0 1) s) { s with nodes:=s.nodes+1 }:=by
 rw[lookG,if_neg (by omega),h2,B8]
 have h3:cH (dmQ 0 1 0 1)=none:=by decide +kernel
 simp only[h3]
 have h4:openV (dmQ 0 1 0 1)=0:=by decide +kernel
 rw[h4]
 rfl
theorem Ab:srchA em 9=⟨3,false,false,[[0,1],[1,0]]⟩:=by
 show lookG 9 (fun _=>[kS]) zI 5 (dmQ 0 1 0 1) ⟨0,false,false,[]⟩=_
 rw[vD (by decide) rfl,List.foldl_cons,if_neg (by decide),tq (n:=3) (by decide) z1 (a:=[0,1]) (by decide +kernel),List.foldl_cons,if_neg (by decide),tq (n:=3) (by decide) B7 (a:=[1,0]) (by decide +kernel)]
 rfl
theorem Ac:srchA em 2=⟨2,true,true,[[0,1]]⟩:=by
 show lookG 2 (fun _=>[kS]) zI 5 (dmQ 0 1 0 1) ⟨0,false,false,[]⟩=_
 rw[vD (by decide) rfl,List.foldl_cons,if_neg (by decide),tq (n:=3) (by decide) z1 (a:=[0,1]) (by decide +kernel),List.foldl_cons,if_neg (by decide),lookG,if_pos (by decide)]
 rfl
theorem Aa:srchB em 9=⟨3,false,false,some [1,0]⟩:=by
 show lookG 9 (jx [kS] ⟨2,[0,1],[2,1]⟩) (vP ⟨2,[0,1],[2,1]⟩) 5 (dmQ 0 1 0 1) ⟨0,false,false,none⟩=_
 rw[vD (by decide) rfl,List.foldl_cons,if_neg (by decide),tq (n:=3) (by decide) z1 (a:=[0,1]) (by decide +kernel),List.foldl_cons,if_neg (by decide),tq (n:=3) (by decide) (show gK (jx [kS] ⟨2,[0,1],[2,1]⟩ (some [0,1])) (dmQ 1 1 0 1)=_ from B6) (a:=[1,0]) (by decide +kernel)]
 rfl
theorem Am:checkR em=0:=by decide +kernel
theorem q9:ModB em:=⟨by decide,fun v hv=>by simp[em]at hv;rcases hv with rfl|rfl<;>exact⟨by decide,by decide⟩,by decide,fun c hc=>by simp[em]at hc;subst hc;exact⟨by decide,by decide,by decide,by simp[kS]⟩,⟨by decide,by decide⟩⟩
def pX:Mod:=⟨[],[],⟨9,[],[]⟩⟩
theorem At:checkR pX=44:=by decide +kernel
theorem Bf:ModB pX:=⟨by decide,fun v hv=>(by cases hv),by decide,fun c hc=>(by cases hc),⟨by decide,by decide⟩⟩
def dR (g:Goal):Goal:=⟨3-g.kind,g.vars,g.coefs.map (- ·)⟩
def sa (m:Mod):Mod:=⟨m.vars,m.cons,dR m.goal⟩
theorem pN: ∀(vars coefs a:List Int),bR vars (coefs.map (- ·)) a= -bR vars coefs a
 |v::vars,k::coefs,a=>by
  have:=pN vars coefs a
  unfold bR at*
  simp only[List.map_cons,List.zip_cons_cons,List.sum_cons,this]
  rw[Int.neg_mul];omega
 | [],coefs,a=>by simp[bR]
 |_::_,[],a=>by simp[bR]
theorem zk (l:List Int):(l.map (- ·)).map (- ·)=l:=by
 rw[List.map_map]
 conv=>rhs;rw[←List.map_id l]
 refine List.map_congr_left fun k _=> ?_
 show-(-k)=k
 omega
theorem yI {g:Goal}(hk:g.kind=1∨g.kind=2)(a:List Int):iG (dR g) (cZ (dR g) a)=iG g (cZ g a):=by
 have hv:cZ (dR g) a= -cZ g a:=by
  unfold cZ dR
  rw[if_neg (by show¬3-g.kind=0;omega),if_neg (by omega)]
  exact pN _ _ _
 rw[hv]
 unfold iG
 rcases hk with h|h
 ·rw[if_pos (by show 3-g.kind=2;omega),if_pos (by show 3-g.kind=2;omega),if_neg (by omega),if_neg (by omega)]
  show Con.mk 0 g.vars ((g.coefs.map (- ·)).map (- ·)) 0 _ _ _=_
  rw[zk]
  congr 1
  omega
 ·rw[if_neg (by show¬3-g.kind=2;omega),if_neg (by show¬3-g.kind=2;omega),if_pos h,if_pos h]
  show Con.mk 0 g.vars (g.coefs.map (- ·)) 0 _ _ _=_
  congr 1
theorem xk {m:Mod}(hk:m.goal.kind=1∨m.goal.kind=2)(left:Int):srchB (sa m) left=srchB m left:=by
 have h1:jx m.cons (dR m.goal)=jx m.cons m.goal:=funext fun t=>by
  cases t with
  |none=>rfl
  |some a=>
   show(if 3-m.goal.kind=0 then _ else _)=if m.goal.kind=0 then _ else _
   rw[if_neg (by omega),if_neg (by omega),yI hk]
 have h2:vP (dR m.goal)=vP m.goal:=funext fun t=>funext fun a=>by
  show(some a,decide (3-m.goal.kind=0))=(some a,decide (m.goal.kind=0))
  rw[decide_eq_false (by omega),decide_eq_false (by omega)]
 show lookG left (jx m.cons (dR m.goal)) (vP (dR m.goal)) (weight (domsM m)+1) (domsM m) _=_
 rw[h1,h2]
 rfl
theorem w8: ∀(l:List Int) (room:Int),ez room (l.map (- ·))=ez room l
 | [],room=>rfl
 |k::l,room=>by
  rw[List.map_cons,ez,ez,w8 l]
  have e:max (-k) (- -k)=max k (-k):=by omega
  rw[e]
  by_cases h:4398046511104<k∨k< -4398046511104
  ·rw[if_pos h,if_pos (by omega)]
  ·rw[if_neg h,if_neg (by omega)]
theorem yH (d:aa)(g:Goal):conR d (ef (dR g))=conR d (ef g):=by
 have h1:sumR (ef (dR g))=sumR (ef g):=by
  unfold sumR ef dR
  simp only[List.length_map]
  congr 2
  rw[decide_eq_decide,List.mem_map]
  constructor
  ·rintro⟨k,hk,h⟩
   have e:k=0:=by omega
   rw[e]at hk;exact hk
  ·intro h
   exact⟨0,h,by omega⟩
 have h2:d9 (ef (dR g)).coefs (ef (dR g)).rhs=d9 (ef g).coefs (ef g).rhs:=by
  unfold d9
  show(if _ then true else ez _ (g.coefs.map (- ·)))=_
  rw[w8];rfl
 have h3:rightR d (ef (dR g))=rightR d (ef g):=by
  unfold rightR
  rw[if_pos (show(ef (dR g)).kind=0 from rfl),if_pos (show(ef g).kind=0 from rfl),h1];rfl
 unfold conR
 rw[h2,h3];rfl
theorem xl {d:aa}{g:Goal}(hk:g.kind=1∨g.kind=2):ep d (dR g)=ep d g:=by
 unfold ep
 rw[if_pos (show(dR g).kind=1∨(dR g).kind=2 by show 3-g.kind=1∨3-g.kind=2;omega),if_pos hk,yH]
theorem uI {m:Mod}(hk:m.goal.kind=1∨m.goal.kind=2):checkR (sa m)=checkR m:=by
 unfold checkR
 rw[show ep (domsM (sa m)) (sa m).goal=ep (domsM m) m.goal from xl hk]
 rfl
theorem p9 (l:List Int)(hl:l.length≤1048576):Spec Tryz.prog 175 false [aA l] [.val (.bool (decide l.Nodup))]:=by
 refine Spec.body Tryz.func175 rfl rfl rfl fun w0 Z0=> ?_
 have hs:(cN l).length=l.length:=List.length_mergeSort ..
 have e:decide l.Nodup=decide ((((aT l).map cI).length:Int)=((l.map cI).length:Int)):=decide_eq_decide.2 (by rw[List.length_map,List.length_map,←pC];omega)
 rw[e]
 refine .B ?_
 refine .C (nw l) ?_
 refine .B ?_
 refine .C (kz l (by omega)) ?_
 refine .B ?_
 refine J.cp (cs2:=[]) (qs:=[]) [] rfl rfl rfl rfl rfl rfl rfl rfl (ip _ (by omega)) trivial rfl rfl rfl rfl rfl rfl ?_
 rw[iq]
 refine .B ?_
 exact r1
theorem Av {d:List (Int×Int)}(h: ∀r∈d,r.1≤r.2):dX d [(0,1)]=[]↔truthR d=true:=by
 have h1: ∀(out:List (Int×Int)) (r:Int×Int),r.1≤r.2→(cz [(0,1)] out r=out∧(!(decide (r.1<0)||decide (1<r.2)))=true)∨(∃p,cz [(0,1)] out r=out++p∧p≠[]∧(!(decide (r.1<0)||decide (1<r.2)))=false):=by
  intro out r hr
  have hw:wr ((0,1):Int×Int).2=1:=rfl
  have hw2:wr (((0,1):Int×Int).2+1)=2:=by rfl
  unfold cz
  rw[bI,bI,bI]
  by_cases h2:((0,1):Int×Int).2<r.1∨r.2<((0,1):Int×Int).1
  ·rw[if_pos h2]
   rw[if_pos hr]
   refine .inr ⟨_,rfl,by simp,?_⟩
   have h2:1<r.1∨r.2<0:=h2
   have:r.1<0∨1<r.2:=by omega
   rcases this with h|h<;>simp[h]
  ·rw[if_neg h2,hw2]
   have h2: ¬(1<r.1∨r.2<0):=h2
   by_cases h3:r.1<((0,1):Int×Int).1
   ·rw[if_pos h3]
    have h3:r.1<0:=h3
    refine .inr ?_
    split
    ·exact⟨_,List.append_assoc _ _ _,by simp,by simp[h3]⟩
    ·exact⟨_,rfl,by simp,by simp[h3]⟩
   ·rw[if_neg h3]
    have h3: ¬r.1<0:=h3
    split
    ·rename_i h4
     have h4:2≤r.2:=h4
     exact .inr ⟨_,rfl,by simp,by simp[show 1<r.2 by omega]⟩
    ·rename_i h4
     have h4: ¬2≤r.2:=h4
     exact .inl ⟨rfl,by simp[h3,show¬1<r.2 by omega]⟩
 have key: ∀(l:List (Int×Int)) (out:List (Int×Int)),(∀r∈l,r.1≤r.2)→(∃p,l.foldl (cz [(0,1)]) out=out++p∧(p=[]↔truthR l=true)):=by
  intro l
  induction l with
  |nil=>intro out _;exact⟨[],by simp,by simp[truthR]⟩
  |cons r l ih=>
   intro out hl
   have ht:truthR (r::l)=((!(decide (r.1<0)||decide (1<r.2)))&&truthR l):=rfl
   rw[List.foldl_cons,ht]
   rcases h1 out r (hl r (.head _))with ⟨e,e2⟩|⟨p,e,hp,e2⟩
   ·rw[e,e2,Bool.true_and];exact ih out fun r hr=>hl r (.tail _ hr)
   ·obtain⟨q,h3,h4⟩:=ih (out++p) fun r hr=>hl r (.tail _ hr)
    rw[e,e2,h3,List.append_assoc]
    exact⟨p++q,rfl,by simp[hp]⟩
 obtain⟨p,h2,h3⟩:=key d [] h
 unfold dX
 rw[h2,List.nil_append];exact h3
theorem mB (d:List (Int×Int))(hd:d.length≤1048576)(hr: ∀r∈d,r.1≤r.2):Spec Tryz.prog 172 false [dm d] [.val (.bool (truthR d))]:=by
 refine Spec.body Tryz.func172 rfl rfl rfl fun w0 Z0=> ?_
 have hm:=j4 d [(0,1)] (by simp) (by show(d.length+1)*2*16≤_;omega)
 have e:truthR d=decide ((((dX d [(0,1)]).map cR).length:Int)=0):=by
  rw[Bool.eq_iff_iff,decide_eq_true_eq,←Av hr,List.length_map]
  exact⟨fun h=>by rw[h];rfl,fun h=>List.eq_nil_of_length_eq_zero (by omega)⟩
 rw[e]
 refine .B ?_
 refine .V ?_
 refine .B ?_
 refine .C hm ?_
 refine .B ?_
 exact r1
theorem xx (v:Int):Spec Tryz.prog 222 false [.int .i64 v] [.val (.bool (!aG v))]:=by
 refine Spec.body Tryz.func222 rfl rfl rfl fun w0 Z0=> ?_
 refine .B ?_
 refine J.g rfl rfl rfl (fun h=> ?_) (fun h=> ?_)
 ·have e:(!aG v)=true:=by have h:v< -1048576:=h;simp[aG];omega
  rw[e]
  refine .B ?_
  exact r1
 ·have e:(!aG v)=decide (v > 1048576):=by have h: ¬v< -1048576:=h;simp only[aG];rw[Bool.eq_iff_iff];simp;omega
  rw[e]
  refine .B ?_
  exact r1
theorem sH (v:Int):Spec Tryz.prog 179 false [.int .i64 v] [.val (.bool (!(decide (v=1)||decide (v= -1))))]:=by
 refine Spec.body Tryz.func179 rfl rfl rfl fun w0 Z0=> ?_
 refine .B ?_
 refine J.g rfl rfl rfl (fun h=> ?_) (fun h=> ?_)
 ·have h:v≠1:=h
  rw[decide_eq_false h,Bool.false_or]
  refine .B ?_
  exact⟨_,.v rfl rfl (by rw[←decide_not]) (fun _=>rfl) .nil⟩
 ·have h:v=1:=by have h: ¬(v≠1):=h;omega
  rw[decide_eq_true h,Bool.true_or]
  refine .B ?_
  exact r1
end Go.Proofs.YtopcjbahjjhdmaaGreat
