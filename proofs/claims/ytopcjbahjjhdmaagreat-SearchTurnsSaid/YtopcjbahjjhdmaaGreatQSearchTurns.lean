/- The statement SearchTurns: the law, and its row; ahead of it what it needs (FwS, FwT, FwU, FwQ, FwV, FwW, FwX, PwH, FwY, LwGTurns, RowA, RowM, RowGTurns). -/
import Derived.Test.YtopcjbahjjhdmaaGreatB9
import Derived.Laws.Strings
import Derived.Test.YtopcjbahjjhdmaaGreatRows
import Derived.WalkKit
import Derived.ProofKit
import Derived.OpenShut
import Derived.ShutString
import Derived.ChangeOld
import Derived.Below
import Derived.SizedLaws
namespace Go.Proofs.YtopcjbahjjhdmaaGreat
open Go Go.RowKit
set_option linter.unusedVariables false
set_option linter.unusedSimpArgs false
set_option maxRecDepth 8000
theorem sC (l:List Int)(v:Int)(hl:l.length*8≤140737488355328):Spec Tryz.prog 223 false [aA l,.int .i64 v] [.val (.int .i64 (indexP (fun x=>decide (v=x)) l))]:=by
 refine Spec.body Tryz.func223 rfl rfl rfl fun w0 Z0=> ?_
 refine .B ?_
 refine T.K (T.listI l (fun pre=> ∀x∈pre,¬v=x) (fun n pre post=>⟨[(0,.val false (aA l)),(1,.val false (.int .i64 v)),(7,.val true (.int .i64 (l.map cI).length)),(8,.val true (.int .i64 n))],[],0⟩) (fun _ _ h=>h) (fun v hv=>by cases hv) ?_ ?_)
 ·rintro n pre x post h hn hi ih
  have hlt:=bZ h hn
  refine .B ?_
  refine T.ct2 rfl (bY h hn) ?_
  refine .B ?_
  refine .I (r:=cI x) (aP h hn) ?_
  refine .B ?_
  refine T.cd rfl (fun h2=> ?_) (fun h2=> ?_)
  ·have h2:v=x:=h2
   refine .B ?_
   have e:indexP (fun x=>decide (v=x)) l=(n:Int):=by
    unfold indexP
    rw[h,List.findIdx?_append,List.findIdx?_eq_none_iff.2 (by simpa using hi),List.findIdx?_cons,if_pos (by simpa using h2)]
    simp[hn]
   rw[e]
   exact r1
  ·have h2: ¬v=x:=h2
   refine .B ?_
   rw[aj hlt (by omega)]
   exact T.K (ih (by
    intro y hy
    rcases List.mem_append.1 hy with hy|hy
    ·exact hi y hy
    ·rw[List.mem_singleton.1 hy];exact h2))
 ·intro hi
  have e:indexP (fun x=>decide (v=x)) l= -1:=by
   unfold indexP
   rw[List.findIdx?_eq_none_iff.2 (by simpa using hi)]
  rw[e]
  refine .B ?_
  refine T.cf2 rfl bl ?_
  refine .B ?_
  exact r1
theorem iV (l:List Int)(v:Int)(hl:l.length*8≤140737488355328):Spec Tryz.prog 178 false [aA l,.int .i64 v] [.val (.bool (decide (v∈l)))]:=by
 refine Spec.body Tryz.func178 rfl rfl rfl fun w0 Z0=> ?_
 refine .B ?_
 refine .C (sC l v hl) ?_
 refine .B ?_
 refine⟨_,.v rfl rfl ?_ (fun _=>rfl) .nil⟩
 simp only[PV.bool.injEq]
 unfold indexP
 cases h:l.findIdx? fun x=>decide (v=x)with
 |none=>
  have h1:=List.findIdx?_eq_none_iff.1 h
  have: ¬v∈l:=fun hv=>by simpa using h1 v hv
  rw[decide_eq_false this];rfl
 |some i=>
  obtain⟨h1,h2,_⟩:=List.findIdx?_eq_some_iff_getElem.1 h
  have:v∈l:=by rw[of_decide_eq_true h2];exact List.getElem_mem h1
  rw[decide_eq_true this]
  simp
theorem pY (c:Con)(hv:c.vars.length≤1048576)(hk:c.coefs.length≤1048576):Spec Tryz.prog 180 false [.agg (cC c)] [.val (.bool (sumR c))]:=by
 refine Spec.body Tryz.func180 rfl rfl rfl fun w0 Z0=> ?_
 have hall:=p9 c.vars hv
 have hcon:=iV c.coefs 0 (by omega)
 refine .B ?_
 refine J.g rfl rfl rfl (fun h1=> ?_) (fun h1=> ?_)
 ·have h1:0<c.vars.length:=by simpa using h1
  refine .B ?_
  refine J.g rfl rfl rfl (fun h2=> ?_) (fun h2=> ?_)
  ·have h2:c.vars.length=c.coefs.length:=by simp at h2;omega
   have e:sumR c=(decide c.vars.Nodup&& !decide (0∈c.coefs)):=by unfold sumR;rw[decide_eq_true h1,decide_eq_true h2,Bool.and_true,Bool.and_true]
   rw[e]
   generalize decide c.vars.Nodup=nd at*
   refine .B ?_
   refine .C hall ?_
   cases nd
   ·refine .B ?_
    exact r1
   ·refine .B ?_
    refine .C hcon ?_
    refine .B ?_
    exact r1
  ·have h2: ¬c.vars.length=c.coefs.length:=by simp at h2;omega
   have e:sumR c=false:=by unfold sumR;rw[decide_eq_false h2,Bool.and_false,Bool.false_and]
   rw[e]
   refine .B ?_
   exact r1
 ·have h1: ¬0<c.vars.length:=by simpa using h1
  have e:sumR c=false:=by unfold sumR;rw[decide_eq_false h1,Bool.and_false,Bool.false_and,Bool.false_and]
  rw[e]
  refine .B ?_
  exact r1
theorem vA (c:Con)(hv:c.vars.length≤1048576)(hk:c.coefs.length≤1048576):Spec Tryz.prog 173 false [.agg (cC c)] [.val (.bool (sumR c&&opR c))]:=by
 refine Spec.body Tryz.func173 rfl rfl rfl fun w0 Z0=> ?_
 have hs:=pY c hv hk
 generalize sumR c=sr at*
 refine .B ?_
 refine .C hs ?_
 cases sr
 ·refine .B ?_
  exact r1
 ·refine .B ?_
  refine J.g rfl rfl rfl (fun h1=> ?_) (fun h1=> ?_)
  ·have e:(true&&opR c)=decide (c.op<3):=by unfold opR;rw[decide_eq_true (show 0≤c.op from h1)];simp;omega
   rw[e]
   refine .B ?_
   exact r1
  ·have e:(true&&opR c)=false:=by unfold opR;rw[decide_eq_false (show¬0≤c.op from h1)];rfl
   rw[e]
   refine .B ?_
   exact r1
theorem ta (c:Con):Spec Tryz.prog 174 false [.agg (cC c)] [.val (.bool (plainR c))]:=by
 refine Spec.body Tryz.func174 rfl rfl rfl fun w0 Z0=> ?_
 refine .B ?_
 refine J.g rfl rfl rfl (fun h1=> ?_) (fun h1=> ?_)
 ·have h1:c.coefs.length=0:=by simpa using h1
  refine .B ?_
  refine J.g rfl rfl rfl (fun h2=> ?_) (fun h2=> ?_)
  ·have h2:c.op=0:=h2
   refine .B ?_
   refine J.g rfl rfl rfl (fun h3=> ?_) (fun h3=> ?_)
   ·have h3:c.rhs=0:=h3
    have e:plainR c=decide (c.b=0):=by unfold plainR bareR;rw[decide_eq_true h1,decide_eq_true h2,decide_eq_true h3];simp
    rw[e]
    refine .B ?_
    exact r1
   ·have h3: ¬c.rhs=0:=h3
    have e:plainR c=false:=by unfold plainR bareR;rw[decide_eq_false h3];simp
    rw[e]
    refine .B ?_
    exact r1
  ·have h2: ¬c.op=0:=h2
   have e:plainR c=false:=by unfold plainR bareR;rw[decide_eq_false h2];simp
   rw[e]
   refine .B ?_
   exact r1
 ·have h1: ¬c.coefs.length=0:=by simpa using h1
  have e:plainR c=false:=by unfold plainR bareR;rw[decide_eq_false h1];simp
  rw[e]
  refine .B ?_
  exact r1
theorem xT (c:Con)(l:List Int)(hl:l.length*8≤140737488355328):Spec Tryz.prog 177 false [.agg (cC c),aA l] [.val (.bool (ei c l))]:=by
 refine Spec.body Tryz.func177 rfl rfl rfl fun w0 Z0=> ?_
 have hcon:=d8 (p:=fun v=> !aG v) (f:=222) [] l (fun v _=>xx v) hl
 have e2:(l.any fun v=> !aG v)= !l.all aG:=by rw[List.not_all_eq_any_not]
 rw[e2]at hcon
 refine .B ?_
 refine J.g rfl rfl rfl (fun h1=> ?_) (fun h1=> ?_)
 ·have h1:l.length=c.vars.length:=by simp at h1;omega
  have e:ei c l=l.all aG:=by unfold ei;rw[decide_eq_true h1,Bool.true_and]
  rw[e]
  refine .B ?_
  refine .C hcon ?_
  refine .B ?_
  exact⟨_,.v rfl rfl (by rw[Bool.not_not]) (fun _=>rfl) .nil⟩
 ·have h1: ¬l.length=c.vars.length:=by simp at h1;omega
  have e:ei c l=false:=by unfold ei;rw[decide_eq_false h1,Bool.false_and]
  rw[e]
  refine .B ?_
  exact r1
theorem sI (c:Con)(l:List Int)(hl:l.length*8≤140737488355328):Spec Tryz.prog 176 false [aA l,.ptr (cC c)] [.val (.bool (!ei c l))]:=by
 refine Spec.body Tryz.func176 rfl rfl rfl fun w0 Z0=> ?_
 refine .B ?_
 refine .C (xT c l hl) ?_
 refine .B ?_
 exact r1
theorem qZ (d:aa)(v:Int)(hv:0≤v∧v.toNat<d.length)(hx: ∀x∈d,x.length≤1048576∧∀r∈x,r.1≤r.2):Spec Tryz.prog 171 false [.int .i64 v,.ptr [aH d]] [.val (.bool (!truthR (domAt d v)))]:=by
 refine Spec.body Tryz.func171 rfl rfl rfl fun w0 Z0=> ?_
 have hy:d[v.toNat]? =some (domAt d v):=by unfold domAt;rw[List.getD_eq_getElem?_getD,List.getElem?_eq_getElem hv.2];rfl
 have hm:=List.mem_of_getElem? hy
 have ht:=mB (domAt d v) (hx _ hm).1 (hx _ hm).2
 refine .B ?_
 refine J.i rfl rfl rfl rfl rfl rfl rfl rfl rfl (r:=cD (domAt d v)) hv.1 (by rw[List.getElem?_map,hy];rfl) rfl ?_
 refine .B ?_
 refine .C ht ?_
 refine .B ?_
 exact r1
theorem sJ (d:aa)(l:List Int)(hl:l.length*8≤140737488355328)(hv: ∀v∈l,0≤v∧v.toNat<d.length)(hx: ∀x∈d,x.length≤1048576∧∀r∈x,r.1≤r.2):Spec Tryz.prog 170 false [aA l,.ptr [aH d]] [.val (.bool (l.all fun v=>truthR (domAt d v)))]:=by
 refine Spec.body Tryz.func170 rfl rfl rfl fun w0 Z0=> ?_
 have hcon:=d8 (p:=fun v=> !truthR (domAt d v)) (f:=171) [.ptr [aH d]] l (fun v h=>qZ d v (hv v h) hx) hl
 have e2:(l.any fun v=> !truthR (domAt d v))= !l.all fun v=>truthR (domAt d v):=by rw[List.not_all_eq_any_not]
 rw[e2]at hcon
 refine .B ?_
 refine .C hcon ?_
 refine .B ?_
 exact⟨_,.v rfl rfl (by rw[Bool.not_not]) (fun _=>rfl) .nil⟩
def xf (d:aa):Prop:= ∀x∈d,x.length≤1048576∧∀r∈x,r.1≤r.2
theorem xi (d:aa)(c:Con)(hl:c.vars.length=c.coefs.length):f5 d c=((c.coefs.all fun k=>decide (k=1)||decide (k= -1))&&c.vars.all fun v=>truthR (domAt d v)):=by
 rw[Bool.eq_iff_iff,Bool.and_eq_true,f5,List.all_eq_true,List.all_eq_true,List.all_eq_true]
 have hva: ∀i,i<c.vars.length→∀(h:i<c.vars.length),varAt c i=c.vars[i]:=fun i hi h=>by unfold varAt;rw[List.getD_eq_getElem?_getD,List.getElem?_eq_getElem h];rfl
 have hca: ∀i,∀(h:i<c.coefs.length),coefAt c i=c.coefs[i]:=fun i h=>by unfold coefAt;rw[List.getD_eq_getElem?_getD,List.getElem?_eq_getElem h];rfl
 constructor
 ·intro h
  refine⟨fun k hk=> ?_,fun v hv=> ?_⟩
  ·obtain⟨i,hi,rfl⟩:=List.mem_iff_getElem.1 hk
   have:=h i (List.mem_range.2 (by omega))
   unfold f8 at this
   rw[hca i hi,Bool.and_eq_true]at this
   exact this.2
  ·obtain⟨i,hi,rfl⟩:=List.mem_iff_getElem.1 hv
   have:=h i (List.mem_range.2 hi)
   unfold f8 at this
   rw[hva i hi hi,Bool.and_eq_true]at this
   exact this.1
 ·rintro⟨h1,h2⟩ i hi
  have hi:=List.mem_range.1 hi
  unfold f8
  rw[hva i hi hi,hca i (by omega),Bool.and_eq_true]
  exact⟨h2 _ (List.getElem_mem _),h1 _ (List.getElem_mem _)⟩
theorem s9 (d:aa)(c:Con)(hvl:c.vars.length≤1048576)(hkl:c.coefs.length≤1048576)(hrl:c.rows.length≤1048576)(hr: ∀r∈c.rows,r.length*8≤140737488355328)(hv: ∀v∈c.vars,0≤v∧v.toNat<d.length)(hb:c.kind=4→0≤c.b∧c.b.toNat<d.length)(hx:xf d):Spec Tryz.prog 130 false [aH d,.agg (cC c)] [.val (.bool (rightR d c))]:=by
 refine Spec.body Tryz.func130 rfl rfl rfl fun w0 Z0=> ?_
 refine T.seq ?_
 refine T.r ?_
 repeat' first|refine J.e rfl rfl rfl rfl ?_|refine J.skip rfl rfl rfl ?_|refine J.bx rfl rfl rfl rfl rfl rfl ?_
 refine J.nil ?_
 refine T.sub (Rel.unbx (s:=2) (fun b h=>h) rfl rfl) ?_
 refine T.sub (Rel.fp (s:=2) rfl) ?_
 refine .B ?_
 have hsum:=pY c hvl hkl
 have hheld:=vA c hvl hkl
 have hplain:=ta c
 have hall:=p9 c.vars hvl
 have hrow:=oV (p:=fun r=> !ei c r) (f:=176) [.ptr (cC c)] c.rows (fun r h=>sI c r (hr r h)) (by omega)
 rw[←List.not_all_eq_any_not]at hrow
 have hunit:=d8 (p:=fun v=> !(decide (v=1)||decide (v= -1))) (f:=179) [] c.coefs (fun v _=>sH v) (by omega)
 rw[←List.not_all_eq_any_not]at hunit
 have htr:=sJ d c.vars (by omega) hv hx
 have hbm:=iV c.vars c.b (by omega)
 refine J.g rfl rfl rfl (fun h1=> ?_) (fun h1=> ?_)
 ·have h1: ¬c.kind=2:=h1
  refine .B ?_
  refine T.cd rfl (fun h2=> ?_) (fun h2=> ?_)
  ·have h2:0<c.rows.length:=by simp at h2;omega
   have e:rightR d c=false:=by
    have:noneR c=false:=by unfold noneR;rw[decide_eq_false (by omega)]
    unfold rightR
    rw[if_neg h1,this]
    repeat' split
    all_goals simp
   rw[e]
   refine .B ?_
   exact r1
  ·have hn:noneR c=true:=by unfold noneR;simp at h2⊢;omega
   refine .B ?_
   refine T.cd rfl (fun hk0=> ?_) (fun hk0=> ?_)
   ·have hk0:c.kind=0:=hk0
    have e:rightR d c=((sumR c&&opR c)&&decide (c.b=0)):=by unfold rightR;rw[if_pos hk0,hn,Bool.true_and]
    rw[e]
    generalize (sumR c&&opR c)=so at*
    refine .B ?_
    refine .C hheld ?_
    cases so
    ·refine .B ?_
     exact r1
    ·refine .B ?_
     exact r1
   ·have hk0: ¬c.kind=0:=hk0
    refine .B ?_
    refine T.cd rfl (fun hk1=> ?_) (fun hk1=> ?_)
    ·have hk1:c.kind=1:=hk1
     have e:rightR d c=(plainR c&&(decide (0<c.vars.length)&&decide c.vars.Nodup)):=by unfold rightR;rw[if_neg hk0,if_pos hk1,hn,Bool.true_and];rfl
     rw[e]
     generalize plainR c=pr at*
     generalize decide c.vars.Nodup=nd at*
     refine .B ?_
     refine .C hplain ?_
     cases pr
     ·refine .B ?_
      exact r1
     ·refine .B ?_
      refine J.g rfl rfl rfl (fun h3=> ?_) (fun h3=> ?_)
      ·rw[decide_eq_true (show 0<c.vars.length by have h:=h3;rw[List.length_map]at h;omega)]
       refine .B ?_
       refine .C hall ?_
       refine .B ?_
       exact r1
      ·rw[decide_eq_false (show¬0<c.vars.length by have h:=h3;rw[List.length_map]at h;omega)]
       refine .B ?_
       exact r1
    ·have hk1: ¬c.kind=1:=hk1
     refine .B ?_
     refine T.cf2 rfl (decide_eq_false h1) ?_
     refine .B ?_
     refine T.cd rfl (fun hk3=> ?_) (fun hk3=> ?_)
     ·have hk3:c.kind=3:=hk3
      have e:rightR d c=(plainR c&&(decide (3≤c.vars.length)&&decide c.vars.Nodup)):=by
       unfold rightR
       rw[if_neg hk0,if_neg hk1,if_neg h1,if_pos hk3,hn,Bool.true_and]
       unfold manyR
       generalize plainR c=pr
       generalize decide c.vars.Nodup=nd
       by_cases h:3≤c.vars.length
       ·rw[decide_eq_true h,decide_eq_true (show 0<c.vars.length by omega)];simp
       ·rw[decide_eq_false h];simp
      rw[e]
      generalize plainR c=pr at*
      generalize decide c.vars.Nodup=nd at*
      refine .B ?_
      refine .C hplain ?_
      cases pr
      ·refine .B ?_
       exact r1
      ·refine .B ?_
       refine J.g rfl rfl rfl (fun h3=> ?_) (fun h3=> ?_)
       ·rw[decide_eq_true (show 3≤c.vars.length by have h:=h3;rw[List.length_map]at h;omega)]
        refine .B ?_
        refine .C hall ?_
        refine .B ?_
        exact r1
       ·rw[decide_eq_false (show¬3≤c.vars.length by have h:=h3;rw[List.length_map]at h;omega)]
        refine .B ?_
        exact r1
     ·have hk3: ¬c.kind=3:=hk3
      refine .B ?_
      refine T.cd rfl (fun hk4=> ?_) (fun hk4=> ?_)
      ·have hk4:c.kind=4:=hk4
       obtain⟨hb0,hb1⟩:=hb hk4
       have hy:d[c.b.toNat]? =some (domAt d c.b):=by unfold domAt;rw[List.getD_eq_getElem?_getD,List.getElem?_eq_getElem hb1];rfl
       have hm:=List.mem_of_getElem? hy
       have ht:=mB (domAt d c.b) (hx _ hm).1 (hx _ hm).2
       have e:rightR d c=((sumR c&&opR c)&&truthR (domAt d c.b)&& !decide (c.b∈c.vars)):=by unfold rightR;rw[if_neg hk0,if_neg hk1,if_neg h1,if_neg hk3,if_pos hk4,hn,Bool.true_and]
       rw[e]
       generalize (sumR c&&opR c)=so at*
       generalize truthR (domAt d c.b)=tr at*
       refine .B ?_
       refine .C hheld ?_
       cases so
       ·refine .B ?_
        exact r1
       ·refine .B ?_
        refine J.i rfl rfl rfl rfl rfl rfl rfl rfl rfl (r:=cD (domAt d c.b)) hb0 (by rw[List.getElem?_map,hy];rfl) rfl ?_
        refine .B ?_
        refine .C ht ?_
        cases tr
        ·refine .B ?_
         exact r1
        ·refine .B ?_
         refine .C hbm ?_
         refine .B ?_
         exact r1
      ·have hk4: ¬c.kind=4:=hk4
       refine .B ?_
       refine T.cd rfl (fun hk5=> ?_) (fun hk5=> ?_)
       ·have hk5:c.kind=5:=hk5
        have e:rightR d c=(bareR c&&(sumR c&&f5 d c)):=by unfold rightR;rw[if_neg hk0,if_neg hk1,if_neg h1,if_neg hk3,if_neg hk4,if_pos hk5,hn,Bool.true_and,Bool.and_assoc]
        rw[e]
        refine .B ?_
        refine .C hsum ?_
        cases hs:sumR c
        ·refine .B ?_
         exact⟨_,.v rfl rfl (by rw[Bool.false_and,Bool.and_false]) (fun _=>rfl) .nil⟩
        ·have hlen:c.vars.length=c.coefs.length:=by unfold sumR at hs;simp at hs;omega
         rw[xi d c hlen]
         generalize (c.coefs.all fun k=>decide (k=1)||decide (k= -1))=uc at*
         generalize (c.vars.all fun v=>truthR (domAt d v))=tv at*
         refine .B ?_
         refine J.g rfl rfl rfl (fun h4=> ?_) (fun h4=> ?_)
         ·have h4:c.op=0:=h4
          refine .B ?_
          refine J.g rfl rfl rfl (fun h5=> ?_) (fun h5=> ?_)
          ·have h5:c.rhs=0:=h5
           refine .B ?_
           refine J.g rfl rfl rfl (fun h6=> ?_) (fun h6=> ?_)
           ·have h6:c.b=0:=h6
            have e:bareR c=true:=by unfold bareR;rw[decide_eq_true h4,decide_eq_true h5,decide_eq_true h6];rfl
            rw[e]
            refine .B ?_
            refine .C hunit ?_
            cases uc
            ·refine .B ?_
             exact r1
            ·refine .B ?_
             refine .C htr ?_
             refine .B ?_
             exact r1
           ·have h6: ¬c.b=0:=h6
            have e:bareR c=false:=by unfold bareR;rw[decide_eq_false h6,Bool.and_false]
            rw[e]
            refine .B ?_
            exact r1
          ·have h5: ¬c.rhs=0:=h5
           have e:bareR c=false:=by unfold bareR;rw[decide_eq_false h5,Bool.and_false,Bool.false_and]
           rw[e]
           refine .B ?_
           exact r1
         ·have h4: ¬c.op=0:=h4
          have e:bareR c=false:=by unfold bareR;rw[decide_eq_false h4,Bool.false_and,Bool.false_and]
          rw[e]
          refine .B ?_
          exact r1
       ·have hk5: ¬c.kind=5:=hk5
        have e:rightR d c=(plainR c&&(decide (2≤c.vars.length)&&decide ((c.vars.length:Int).tmod 2=0))):=by
         unfold rightR
         rw[if_neg hk0,if_neg hk1,if_neg h1,if_neg hk3,if_neg hk4,if_neg hk5,hn,Bool.true_and,Bool.and_assoc]
         congr 2
         rw[decide_eq_decide,Int.tmod_eq_emod_of_nonneg (by omega)]
         omega
        rw[e]
        generalize plainR c=pr at*
        refine .B ?_
        refine .C hplain ?_
        cases pr
        ·refine .B ?_
         exact r1
        ·refine .B ?_
         refine J.g rfl rfl rfl (fun h3=> ?_) (fun h3=> ?_)
         ·rw[decide_eq_true (show 2≤c.vars.length by have h:=h3;rw[List.length_map]at h;omega)]
          refine .B ?_
          exact⟨_,.v rfl rfl (by simp) (fun _=>rfl) .nil⟩
         ·rw[decide_eq_false (show¬2≤c.vars.length by have h:=h3;rw[List.length_map]at h;omega)]
          refine .B ?_
          exact r1
 ·have hk2:c.kind=2:=by have h1: ¬(c.kind≠2):=h1;omega
  refine .B ?_
  refine T.cf rfl ?_
  refine .B ?_
  refine T.cf2 rfl (decide_eq_false (by omega)) ?_
  refine .B ?_
  refine T.cf2 rfl (decide_eq_false (by omega)) ?_
  refine .B ?_
  refine T.ct2 rfl (decide_eq_true hk2) ?_
  refine T.sub (Rel.unbx (s:=3) (fun b h=>h) rfl rfl) ?_
  refine T.sub (Rel.fp (s:=3) rfl) ?_
  have e:rightR d c=(plainR c&&(decide (0<c.vars.length)&&(decide c.vars.Nodup&&(decide (c.rows.length≤1024)&&c.rows.all (ei c))))):=by
   unfold rightR manyR kB
   rw[if_neg (by omega),if_neg (by omega),if_pos hk2]
   generalize plainR c=a1
   generalize decide (0<c.vars.length)=a2
   generalize decide c.vars.Nodup=a3
   generalize decide (c.rows.length≤1024)=a4
   generalize c.rows.all (ei c)=a5
   cases a1<;>cases a2<;>cases a3<;>cases a4<;>cases a5<;>rfl
  rw[e]
  generalize plainR c=pr at*
  generalize decide c.vars.Nodup=nd at*
  generalize c.rows.all (ei c)=ra at*
  refine .B ?_
  refine .C hplain ?_
  cases pr
  ·refine .B ?_
   exact r1
  ·refine .B ?_
   refine J.g rfl rfl rfl (fun h3=> ?_) (fun h3=> ?_)
   ·rw[decide_eq_true (show 0<c.vars.length by have h:=h3;rw[List.length_map]at h;omega)]
    refine .B ?_
    refine .C hall ?_
    cases nd
    ·refine .B ?_
     exact r1
    ·refine .B ?_
     refine J.g rfl rfl rfl (fun h4=> ?_) (fun h4=> ?_)
     ·rw[decide_eq_true (show c.rows.length≤1024 by have h:=h4;rw[List.length_map]at h;omega)]
      refine .B ?_
      refine .C hrow ?_
      refine .B ?_
      exact⟨_,.v rfl rfl (by rw[Bool.not_not];rfl) (fun _=>rfl) .nil⟩
     ·rw[decide_eq_false (show¬c.rows.length≤1024 by have h:=h4;rw[List.length_map]at h;omega)]
      refine .B ?_
      exact r1
   ·rw[decide_eq_false (show¬0<c.vars.length by have h:=h3;rw[List.length_map]at h;omega)]
    refine .B ?_
    exact r1
theorem qH (d:aa)(v:Int):Spec Tryz.prog 128 false [.int .i64 v,.ptr [aH d]] [.val (.bool (!inD d v))]:=by
 refine Spec.body Tryz.func128 rfl rfl rfl fun w0 Z0=> ?_
 have e0:(!inD d v)=(decide (v<0)||decide (v≥((d.map cD).length:Int))):=by unfold inD;rw[Bool.not_not,List.length_map]
 rw[e0]
 refine .B ?_
 refine J.g rfl rfl rfl (fun h1=> ?_) (fun h1=> ?_)
 ·rw[decide_eq_true (show v<0 from h1),Bool.true_or]
  refine .B ?_
  exact r1
 ·rw[decide_eq_false (show¬v<0 from h1),Bool.false_or]
  refine .B ?_
  exact r1
structure ConI (c:Con):Prop where
 vl:c.vars.length≤1024
 kl:c.coefs.length≤1024
 rl:c.rows.length≤1024
 rr: ∀r∈c.rows,r.length≤1024
 ki:d9 c.coefs c.rhs=false∨∀k∈c.coefs,-9223372036854775808≤k∧k≤9223372036854775807
theorem yG (d:aa)(c:Con):(usesR c).all (inD d)=(c.vars.all (inD d)&&(!decide (c.kind=4)||inD d c.b)):=by
 rw[Bool.eq_iff_iff,List.all_eq_true]
 constructor
 ·intro h
  rw[Bool.and_eq_true,List.all_eq_true]
  refine⟨fun v hv=>h v (uses_mem.2 (.inl hv)),?_⟩
  by_cases hk:c.kind=4
  ·rw[h c.b (uses_mem.2 (.inr ⟨hk,rfl⟩)),Bool.or_true]
  ·rw[decide_eq_false hk];rfl
 ·intro h v hv
  rw[Bool.and_eq_true,List.all_eq_true]at h
  rcases uses_mem.1 hv with h1|⟨hk,rfl⟩
  ·exact h.1 v h1
  ·have:=h.2
   rwa[decide_eq_true hk]at this
theorem p8 (d:aa)(c:Con)(hc:ConI c)(hx:xf d):Spec Tryz.prog 100 false [aH d,.agg (cC c)] [.val (.int .i64 (conR d c))]:=by
 refine Spec.body Tryz.func100 rfl rfl rfl fun w0 Z0=> ?_
 have hvl:=hc.vl
 have hkl:=hc.kl
 have hrl:=hc.rl
 have haway:=d8 (p:=fun v=> !inD d v) (f:=128) [.ptr [aH d]] c.vars (fun v _=>qH d v) (by omega)
 rw[←List.not_all_eq_any_not]at haway
 have hawayb:=qH d c.b
 have hright:=fun(h1: ∀v∈c.vars,0≤v∧v.toNat<d.length) h2=>s9 d c (by omega) (by omega) (by omega) (fun r hr=>by have:=hc.rr r hr;omega) h1 h2 hx
 have hbig:(∀k∈c.coefs,-9223372036854775808≤k∧k≤9223372036854775807)→_:=fun h=>xV c.coefs c.rhs (by omega) h
 have hki:=fun h:d9 c.coefs c.rhs=false=>fun k hk=>show -9223372036854775808≤k∧k≤9223372036854775807 by
  have h1:=(oY h).1 k hk
  unfold aF at h1
  omega
 have hbig:=hbig (hc.ki.elim hki id)
 refine T.seq ?_
 refine T.r ?_
 repeat' first|refine J.e rfl rfl rfl rfl ?_|refine J.skip rfl rfl rfl ?_|refine J.bx rfl rfl rfl rfl rfl rfl ?_
 refine J.nil ?_
 refine T.sub (Rel.unbx (s:=2) (fun b h=>h) rfl rfl) ?_
 refine T.sub (Rel.fp (s:=2) rfl) ?_
 generalize hR:conR d c=R
 unfold conR at hR
 refine .B ?_
 have bad1:c.kind<0∨6<c.kind→R=44:=fun h=>by rw[if_pos h]at hR;exact hR.symm
 refine J.g rfl rfl rfl (fun h1=> ?_) (fun h1=> ?_)
 ·rw[bad1 (.inl h1)]
  refine .B ?_
  refine T.ct rfl ?_
  refine .B ?_
  exact r1
 ·refine .B ?_
  refine T.cd rfl (fun h2=> ?_) (fun h2=> ?_)
  ·rw[bad1 (.inr (by have h2:c.kind≥7:=h2;omega))]
   refine .B ?_
   exact r1
  ·rw[if_neg (by have h1: ¬c.kind<0:=h1;have h2: ¬c.kind≥7:=h2;omega),yG]at hR
   refine .B ?_
   refine .C haway ?_
   cases ha:c.vars.all (inD d)
   ·rw[ha,Bool.false_and,if_pos rfl]at hR
    subst hR
    refine .B ?_
    refine T.ct rfl ?_
    refine .B ?_
    exact r1
   ·rw[ha,Bool.true_and]at hR
    have hva: ∀v∈c.vars,0≤v∧v.toNat<d.length:=fun v hv=>ld.1 (List.all_eq_true.1 ha v hv)
    refine .B ?_
    refine J.g rfl rfl rfl (fun h3=> ?_) (fun h3=> ?_)
    ·have h3:c.kind=4:=h3
     rw[decide_eq_true h3]at hR
     refine .B ?_
     refine .C hawayb ?_
     cases hbd:inD d c.b
     ·rw[hbd]at hR
      have hR:(43:Int)=R:=hR
      subst hR
      refine .B ?_
      refine T.ct rfl ?_
      refine .B ?_
      exact r1
     ·rw[hbd]at hR
      have hR:(if rightR d c=false then(44:Int)else if d9 c.coefs c.rhs=true then 45 else 0)=R:=hR
      have hright:=hright hva fun _=>ld.1 hbd
      generalize rightR d c=rr at*
      refine .B ?_
      refine T.cf rfl ?_
      refine .B ?_
      refine .C hright ?_
      cases rr
      ·subst hR
       refine .B ?_
       refine T.ct rfl ?_
       refine .B ?_
       exact r1
      ·rw[if_neg (by simp)]at hR
       refine .B ?_
       refine T.cf rfl ?_
       refine .B ?_
       refine .C hbig ?_
       refine .B ?_
       refine T.cond rfl (fun h4=> ?_) (fun h4=> ?_)
       ·have h4:d9 c.coefs c.rhs=true:=h4
        rw[if_pos h4]at hR
        subst hR
        refine .B ?_
        exact r1
       ·have h4:d9 c.coefs c.rhs=false:=h4
        rw[if_neg (by simp[h4])]at hR
        subst hR
        refine .B ?_
        exact r1
    ·have h3: ¬c.kind=4:=h3
     rw[decide_eq_false h3]at hR
     have hR:(if rightR d c=false then(44:Int)else if d9 c.coefs c.rhs=true then 45 else 0)=R:=hR
     have hright:=hright hva fun h=>absurd h h3
     generalize rightR d c=rr at*
     refine .B ?_
     refine T.cf rfl ?_
     refine .B ?_
     refine .C hright ?_
     cases rr
     ·subst hR
      refine .B ?_
      refine T.ct rfl ?_
      refine .B ?_
      exact r1
     ·rw[if_neg (by simp)]at hR
      refine .B ?_
      refine T.cf rfl ?_
      refine .B ?_
      refine .C hbig ?_
      refine .B ?_
      refine T.cond rfl (fun h4=> ?_) (fun h4=> ?_)
      ·have h4:d9 c.coefs c.rhs=true:=h4
       rw[if_pos h4]at hR
       subst hR
       refine .B ?_
       exact r1
      ·have h4:d9 c.coefs c.rhs=false:=h4
       rw[if_neg (by simp[h4])]at hR
       subst hR
       refine .B ?_
       exact r1
def BT (c:Int):Bool:=decide (c≥97)&&decide (c≤122)
def badC (i:Nat)(c:Int):Bool:= !BT c&&(decide ((i:Int)=0)||(decide (c≠95)&&(decide (c<48)||decide (c > 57))))
theorem Af {s:ByteArray}{i:Nat}(h:i<s.size):badC i ((Utf8.decode s i).1:Int)=badI i (byteI s i)∧(badI i (byteI s i)=false→(Utf8.decode s i).2=1):=by
 have hb:s.get! i=byteI s i:=by
  unfold byteI
  rw[getElem?_pos s i h]
  show s.data[i]! =_
  rw[getElem!_pos s.data i h];rfl
 by_cases hlt:(s.get! i).toNat<128
 ·rw[rF hlt,hb]
  exact⟨rfl,fun _=>rfl⟩
 ·have hf:=vX (Nat.le_of_not_lt hlt)
  rw[hb]at hlt
  generalize (Utf8.decode s i).1=c at*
  have e1:badI i (byteI s i)=true:=by
   simp only[badI,letB]
   have: ¬((byteI s i).toNat:Int)≤122:=by omega
   have:((byteI s i).toNat:Int) > 57:=by omega
   have:((byteI s i).toNat:Int)≠95:=by omega
   simp[*]
  have e2:badC i c=true:=by
   simp only[badC,BT]
   have: ¬(c:Int)≤122:=by omega
   have:(c:Int) > 57:=by omega
   have:(c:Int)≠95:=by omega
   simp[*]
  rw[e1,e2]
  exact⟨rfl,fun h=>by cases h⟩
theorem vz (s:ByteArray)(hs:s.size≤140737488355328):Spec Tryz.prog 98 false [.str s] [.val (.bool (fF s))]:=by
 refine Spec.body Tryz.func98 rfl rfl rfl fun w0 Z0=> ?_
 generalize hR:fF s=R
 refine .B ?_
 cases h0:(s.toList==(⟨#[]⟩:ByteArray).toList)
 ·refine .B ?_
  refine T.cd rfl (fun h1=> ?_) (fun h1=> ?_)
  ·have:R=false:=by rw[←hR];unfold fF;rw[h0];simp;omega
   subst this
   refine .B ?_
   exact r1
  ·refine .B ?_
   refine J.rgs rfl rfl rfl rfl rfl rfl ?_
   refine .B ?_
   refine T.K (T.ind (fun i:Nat=>⟨[(14,.ref 0)],[(0,some (.sit s i))],1⟩) (fun i=>i≤s.size∧∀j,j<i→badI j (byteI s j)=false) (fun i=>s.size-i) 0 ⟨Nat.zero_le _,fun j hj=>absurd hj (Nat.not_lt_zero j)⟩ (fun _ _ h=>h) ?_)
   rintro i ⟨hi,hb⟩ ih
   refine .B ?_
   refine J.nxs rfl rfl rfl rfl rfl rfl (fun h2=> ?_) (fun h2=> ?_)
   ·have hyes:R=true:=by
     rw[←hR]
     unfold fF
     rw[h0]
     have:((List.range s.size).all fun i=> !badI i (byteI s i))=true:=by
      rw[List.all_eq_true]
      intro j hj
      rw[hb j (by have:=List.mem_range.1 hj;omega)];rfl
     rw[this]
     simp;omega
    subst hyes
    refine .B ?_
    refine T.cf rfl ?_
    refine .B ?_
    exact r1
   ·obtain⟨hbd,hw⟩:=Af h2
    have hno:badI i (byteI s i)=true→R=false:=fun h=>by
     rw[←hR]
     unfold fF
     have:((List.range s.size).all fun i=> !badI i (byteI s i))=false:=by
      rw[List.all_eq_false]
      exact⟨i,List.mem_range.2 h2,by rw[h];simp⟩
     rw[this];rfl
    have ih1:=fun h:badI i (byteI s i)=false=>ih (i+1) ⟨by omega,fun j hj=>by
     by_cases e:j=i
     ·rw[e];exact h
     ·exact hb j (by omega)⟩ (by omega)
    rw[←hbd]at hw hno ih1
    obtain⟨c,hc⟩: ∃c,c=(Utf8.decode s i).1:=⟨_,rfl⟩
    obtain⟨k,hk⟩: ∃k,k=(Utf8.decode s i).2:=⟨_,rfl⟩
    rw[←hc]at hw hno ih1
    rw[←hk]at hw
    rw[←hc,←hk]
    have hbc:badC i c=(!(decide ((c:Int)≥97)&&decide ((c:Int)≤122))&&(decide ((i:Int)=0)||(decide ((c:Int)≠95)&&(decide ((c:Int)<48)||decide ((c:Int) > 57))))):=rfl
    generalize badC i c=bad at*
    refine .B ?_
    refine T.ct rfl ?_
    refine .B ?_
    cases h1:decide ((c:Int)≥97)
    ·skip
     refine .B ?_
     cases h3:decide ((i:Int)=0)
     ·refine .B ?_
      cases h4:decide ((c:Int)≠95)
      ·skip
       refine .B ?_
       refine T.cf rfl ?_
       refine .B ?_
       have hb0:bad=false:=by rw[hbc,h1,h3,h4];rfl
       rw[hw hb0]
       exact T.K (ih1 hb0)
      ·refine .B ?_
       cases h5:decide ((c:Int)<48)
       ·refine .B ?_
        cases h6:decide ((c:Int) > 57)
        ·skip
         refine .B ?_
         refine T.cf rfl ?_
         refine .B ?_
         have hb0:bad=false:=by rw[hbc,h1,h3,h4,h5,h6];rfl
         rw[hw hb0]
         exact T.K (ih1 hb0)
        ·skip
         refine .B ?_
         refine T.ct rfl ?_
         refine .B ?_
         rw[hno (by rw[hbc,h1,h3,h4,h5,h6];rfl)]
         exact r1
       ·skip
        refine .B ?_
        refine T.ct rfl ?_
        refine .B ?_
        rw[hno (by rw[hbc,h1,h3,h4,h5];rfl)]
        exact r1
     ·skip
      refine .B ?_
      refine T.ct rfl ?_
      refine .B ?_
      rw[hno (by rw[hbc,h1,h3];rfl)]
      exact r1
    ·refine .B ?_
     cases h2:decide ((c:Int)≤122)
     ·skip
      refine .B ?_
      cases h3:decide ((i:Int)=0)
      ·refine .B ?_
       cases h4:decide ((c:Int)≠95)
       ·skip
        refine .B ?_
        refine T.cf rfl ?_
        refine .B ?_
        have hb0:bad=false:=by rw[hbc,h1,h2,h3,h4];rfl
        rw[hw hb0]
        exact T.K (ih1 hb0)
       ·refine .B ?_
        cases h5:decide ((c:Int)<48)
        ·refine .B ?_
         cases h6:decide ((c:Int) > 57)
         ·skip
          refine .B ?_
          refine T.cf rfl ?_
          refine .B ?_
          have hb0:bad=false:=by rw[hbc,h1,h2,h3,h4,h5,h6];rfl
          rw[hw hb0]
          exact T.K (ih1 hb0)
         ·skip
          refine .B ?_
          refine T.ct rfl ?_
          refine .B ?_
          rw[hno (by rw[hbc,h1,h2,h3,h4,h5,h6];rfl)]
          exact r1
        ·skip
         refine .B ?_
         refine T.ct rfl ?_
         refine .B ?_
         rw[hno (by rw[hbc,h1,h2,h3,h4,h5];rfl)]
         exact r1
      ·skip
       refine .B ?_
       refine T.ct rfl ?_
       refine .B ?_
       rw[hno (by rw[hbc,h1,h2,h3];rfl)]
       exact r1
     ·skip
      refine .B ?_
      refine T.cf rfl ?_
      refine .B ?_
      have hb0:bad=false:=by rw[hbc,h1,h2];rfl
      rw[hw hb0]
      exact T.K (ih1 hb0)
 ·have:R=false:=by rw[←hR];unfold fF;rw[h0];simp
  subst this
  refine .B ?_
  refine T.ct rfl ?_
  refine .B ?_
  exact r1
theorem vB (d:aa)(g:Goal)(hv:g.vars.length≤1024)(hk:g.coefs.length≤1024)(hi:d9 g.coefs 0=false∨∀k∈g.coefs,-9223372036854775808≤k∧k≤9223372036854775807)(hx:xf d):Spec Tryz.prog 101 false [aH d,.agg (cG g)] [.val (.int .i64 (ep d g))]:=by
 refine Spec.body Tryz.func101 rfl rfl rfl fun w0 Z0=> ?_
 have hcon:=p8 d (ef g) ⟨hv,hk,Nat.zero_le _,fun r hr=>(by cases hr),hi⟩ hx
 generalize hR:ep d g=R
 unfold ep at hR
 refine .B ?_
 refine T.cd rfl (fun h0=> ?_) (fun h0=> ?_)
 ·have h0:g.kind=0:=h0
  rw[if_neg (by omega)]at hR
  refine .B ?_
  refine J.g rfl rfl rfl (fun h1=> ?_) (fun h1=> ?_)
  ·rw[if_pos (.inr (.inl (by have h:=h1;rw[List.length_map]at h;omega)))]at hR
   subst hR
   refine .B ?_
   refine T.ct rfl ?_
   refine .B ?_
   exact r1
  ·refine .B ?_
   refine T.cd rfl (fun h2=> ?_) (fun h2=> ?_)
   ·rw[if_pos (.inr (.inr (by have h:=h2;rw[List.length_map]at h;omega)))]at hR
    subst hR
    refine .B ?_
    exact r1
   ·rw[if_neg (by have h:=h1;rw[List.length_map]at h;have h':=h2;rw[List.length_map]at h';omega)]at hR
    subst hR
    refine .B ?_
    exact r1
 ·have h0: ¬g.kind=0:=h0
  refine .B ?_
  refine T.cd rfl (fun h1=> ?_) (fun h1=> ?_)
  ·have h1:g.kind=1:=h1
   rw[if_pos (.inl h1)]at hR
   subst hR
   refine .B ?_
   refine T.ct2 rfl (decide_eq_true h1) ?_
   refine .B ?_
   refine .C hcon ?_
   refine .B ?_
   exact r1
  ·have h1: ¬g.kind=1:=h1
   refine .B ?_
   refine T.cd rfl (fun h2=> ?_) (fun h2=> ?_)
   ·have h2:g.kind=2:=h2
    rw[if_pos (.inr h2)]at hR
    subst hR
    refine .B ?_
    refine .C hcon ?_
    refine .B ?_
    exact r1
   ·have h2: ¬g.kind=2:=h2
    rw[if_neg (by omega),if_pos (.inl h0)]at hR
    subst hR
    refine .B ?_
    exact r1
def hadM (m:Mod)(i:Nat):List (ByteArray×Bool):=(List.range i).map fun k=>(nmM m k,true)
theorem qJ (a b:ByteArray):(a.toList==b.toList)=decide (a=b):=by
 rw[ByteArray.toList_eq,ByteArray.toList_eq]
 by_cases h:a=b
 ·subst h;simp
 ·rw[decide_eq_false h]
  simp only[beq_eq_false_iff_ne]
  intro e
  apply h
  cases a;cases b
  congr
  exact Array.toList_inj.1 e
theorem tR (m:Mod)(i:Nat):(lkA (hadM m i) (nmM m i))=if f9 m i=true then some true else none:=by
 unfold lkA fiA hadM f9
 cases h:((List.range i).map fun k=>(nmM m k,true)).findIdx? fun p=>decide (p.1=nmM m i)with
 |none=>
  have h1:=List.findIdx?_eq_none_iff.1 h
  rw[if_neg]
  ·rfl
  ·rw[List.any_eq_true]
   rintro⟨k,hk,hb⟩
   rw[qJ]at hb
   have:=h1 _ (List.mem_map.2 ⟨k,hk,rfl⟩)
   rw[hb]at this;cases this
 |some j=>
  obtain⟨h1,h2,_⟩:=List.findIdx?_eq_some_iff_getElem.1 h
  have h1':j<i:=by simpa using h1
  rw[if_pos]
  ·simp[h1']
  ·rw[List.any_eq_true]
   refine⟨j,List.mem_range.2 h1',?_⟩
   rw[qJ]
   simpa using h2
theorem Bl (m:Mod)(i:Nat)(h:f9 m i=false):upA (hadM m i) (nmM m i) true=hadM m (i+1):=by
 have h1:=tR m i
 rw[h,if_neg (by simp)]at h1
 unfold upA
 have h2:fiA (hadM m i) (nmM m i)=none:=by
  cases h3:fiA (hadM m i) (nmM m i)with
  |none=>rfl
  |some j=>
   unfold lkA at h1
   rw[h3]at h1
   obtain⟨h4,_⟩:=List.findIdx?_eq_some_iff_getElem.1 h3
   simp[h4]at h1
 rw[h2]
 simp[hadM,List.range_succ]
structure ModK (m:Mod):Prop where
 b:ModB m
 ck: ∀c∈m.cons,d9 c.coefs c.rhs=false∨∀k∈c.coefs,-9223372036854775808≤k∧k≤9223372036854775807
 gk:d9 m.goal.coefs 0=false∨∀k∈m.goal.coefs,-9223372036854775808≤k∧k≤9223372036854775807
theorem lQ (m:Mod)(hm:ModK m):Spec Tryz.prog 64 false [.agg (cM m)] [.val (.int .i64 (checkR m))]:=by
 refine Spec.body Tryz.func64 rfl rfl rfl fun w0 Z0=> ?_
 obtain⟨hm,hck,hgk⟩:=hm
 have hds:=(og m hm).frz
 generalize hR:checkR m=R
 obtain⟨b1,b2,b3,b4,b5⟩:=hm
 have yes:64<m.vars.length∨256<m.cons.length→(2:Int)=R:=fun h=>by rw[←hR];exact(if_pos h).symm
 refine .B ?_
 refine J.g rfl rfl rfl (fun h1=> ?_) (fun h1=> ?_)
 ·have e:=yes (.inl (by have h:=h1;rw[List.length_map]at h;omega))
  subst e
  refine .B ?_
  refine T.ct rfl ?_
  refine .B ?_
  exact r1
 ·refine .B ?_
  refine T.cd rfl (fun h2=> ?_) (fun h2=> ?_)
  ·have e:=yes (.inr (by have h:=h2;rw[List.length_map]at h;omega))
   subst e
   refine .B ?_
   exact r1
  ·have hR:(if firstE ((List.range m.vars.length).map (varR m))≠0 then firstE ((List.range m.vars.length).map (varR m))else
     if firstE (m.cons.map (conR (domsM m)))≠0 then firstE (m.cons.map (conR (domsM m)))else ep (domsM m) m.goal)=R:=by
    unfold checkR at hR
    rw[if_neg (by have h:=h1;rw[List.length_map]at h;have h':=h2;rw[List.length_map]at h';omega)]at hR
    exact hR
   have hvar: ∀i,i<m.vars.length→(∀j,j<i→varR m j=0)→varR m i≠0→R=varR m i:=fun i hi hb he=>by
    have:firstE ((List.range m.vars.length).map (varR m))=varR m i:=jn (i:=i) (fun j hj x hx=>by
     rw[List.getElem?_map,List.getElem?_range (by omega)]at hx
     rw[←Option.some.inj hx]
     exact hb j hj) (by rw[List.getElem?_map,List.getElem?_range hi];rfl) he
    rw[this,if_pos he]at hR
    exact hR.symm
   refine .B ?_
   refine J.mm rfl rfl rfl rfl ?_
   refine .B ?_
   refine T.K (T.ind (fun i:Nat=>⟨[(1,.optr 0 0 0 0),(3,.ref 1),(22,.val false (.sl (m.vars.map cV))),(23,.val true (.int .i64 (m.vars.map cV).length)),(24,.val true (.int .i64 i))],[(0,some (.box false (cM m))),(1,some (.mp true none ((hadM m i).map fun p=>(.string p.1,.bool p.2))))],2⟩) (fun i=>i≤m.vars.length∧∀j,j<i→varR m j=0) (fun i=>m.vars.length-i) 0 ⟨Nat.zero_le _,fun j hj=>absurd hj (Nat.not_lt_zero j)⟩ (fun _ _ h=>h) ?_)
   rintro i ⟨hi,hb⟩ ih
   refine .B ?_
   refine T.cd rfl (fun h3=> ?_) (fun h3=> ?_)
   ·have h3:i<m.vars.length:=by have h:=h3;rw[List.length_map]at h;omega
    have hv:=hvar i h3 hb
    have hvi:varR m i=if fF (nmM m i)=false then 40 else if f9 m i=true then 41 else if dmM m i=[]∨chkR (dmM m i)≠0 then 42 else 0:=rfl
    have hrow:(m.vars.map cV)[((i:Nat):Int).toNat]? =some (cV (nmM m i,dmM m i)):=by
     rw[Int.toNat_natCast,List.getElem?_map,List.getElem?_eq_getElem h3]
     unfold nmM dmM
     rw[List.getD_eq_getElem?_getD,List.getElem?_eq_getElem h3];rfl
    have hbk:(nmM m i).size≤1024∧(dmM m i).length≤1024:=by
     unfold nmM dmM
     rw[List.getD_eq_getElem?_getD,List.getElem?_eq_getElem h3]
     exact b2 _ (List.getElem_mem h3)
    have hns:=vz (nmM m i) (by omega)
    have hls:=tR m i
    have hup:=Bl m i
    refine .B ?_
    refine .I (r:=cV (nmM m i,dmM m i)) hrow ?_
    refine .B ?_
    refine .L ?_
    refine .W ?_
    refine .B ?_
    refine .C hns ?_
    refine .B ?_
    cases hn:fF (nmM m i)
    ·have:R=40:=by rw[hv (by rw[hvi,if_pos hn];decide),hvi,if_pos hn]
     subst this
     refine T.ct rfl ?_
     refine .B ?_
     exact r1
    ·rw[if_neg (by rw[hn];simp)]at hvi
     refine T.cf rfl ?_
     refine .B ?_
     refine J.ml (nmM m i) (.bool false) rfl rfl rfl rfl rfl rfl rfl rfl rfl yD (fun _ _=> .bool _) (BX Tryz.underlying9) (fun _ _ _ h=>q6 h) ?_
     rw[hls]
     cases ht:f9 m i
     ·rw[if_neg (by rw[ht];simp)]at hvi
      have hup:=hup ht
      have hck2:=i5 (dmM m i) (by omega)
      have stop:dmM m i=[]∨chkR (dmM m i)≠0→R=42:=fun h=>by rw[hv (by rw[hvi,if_pos h];decide),hvi,if_pos h]
      have goon: ¬dmM m i=[]→¬chkR (dmM m i)≠0→varR m i=0:=fun a b=>by rw[hvi,if_neg (fun h=>h.elim a b)]
      have hw1:IntKind.i64.wrap ((i:Int)+1)=((i+1:Nat):Int):=aj (l:=m.vars.length) h3 (by omega)
      have ih4:=fun h:varR m i=0=>ih (i+1) ⟨by omega,fun j hj=>by
       by_cases e:j=i
       ·rw[e];exact h
       ·exact hb j (by omega)⟩ (by omega)
      generalize varR m i=vr at*
      rw[←hup]at ih4
      generalize hadM m i=hm at*
      generalize nmM m i=nm at*
      generalize dmM m i=dd at*
      generalize chkR dd=ck at*
      refine .B ?_
      refine T.cf rfl ?_
      refine .B ?_
      refine J.g rfl rfl rfl (fun h5=> ?_) (fun h5=> ?_)
      ·have e:=stop (.inl (by simpa using h5))
       subst e
       refine .B ?_
       refine T.ct rfl ?_
       refine .B ?_
       exact r1
      ·refine .B ?_
       refine .C hck2 ?_
       refine .B ?_
       refine T.cd rfl (fun h6=> ?_) (fun h6=> ?_)
       ·have e:=stop (.inr h6)
        subst e
        refine .B ?_
        exact r1
       ·refine .B ?_
        refine J.mu nm true rfl rfl rfl rfl rfl rfl rfl rfl rfl rfl rfl (BX Tryz.underlying9) (fun _ _ _ h=>q6 h) rfl ?_
        refine .B ?_
        rw[hw1]
        exact T.K (ih4 (goon (fun e=>h5 (by rw[e];rfl)) h6))
     ·have:R=41:=by rw[hv (by rw[hvi,if_pos ht];decide),hvi,if_pos ht]
      subst this
      refine .B ?_
      refine T.ct rfl ?_
      refine .B ?_
      exact r1
   ·have h3:i=m.vars.length:=by have h:=h3;rw[List.length_map]at h;omega
    have hfz:firstE ((List.range m.vars.length).map (varR m))=0:=jm fun x hx=>by
     obtain⟨j,hj,rfl⟩:=List.mem_map.1 hx
     exact hb j (by rw[h3];exact List.mem_range.1 hj)
    rw[hfz,if_neg (by simp)]at hR
    have hdv:xf (domsM m):=fun x hx=>by
     obtain⟨v,hv,rfl⟩:=List.mem_map.1 hx
     refine⟨by have:=b2 v hv;omega,?_⟩
     obtain⟨j,hj,rfl⟩:=List.mem_iff_getElem.1 hv
     have hvj:=hb j (by omega)
     unfold varR at hvj
     split at hvj
     ·cases hvj
     ·split at hvj
      ·cases hvj
      ·split at hvj
       ·cases hvj
       ·rename_i h6
        have h7:chkR (dmM m j)=0:=Classical.byContradiction fun e=>h6 (.inr e)
        unfold dmM at h7
        rw[List.getD_eq_getElem?_getD,List.getElem?_eq_getElem hj]at h7
        exact(rM h7).1.ok.1
    refine .B ?_
    refine .C hds ?_
    refine .B ?_
    refine T.K (T.ind (fun i:Nat=>⟨[(1,.optr 0 0 0 0),(6,.val true (aH (domsM m))),(56,.val false (.sl (m.cons.map cC))),(57,.val true (.int .i64 (m.cons.map cC).length)),(58,.val true (.int .i64 i))],[(0,some (.box false (cM m)))],1⟩) (fun i=>i≤m.cons.length∧∀j,j<i→∀c,m.cons[j]? =some c→conR (domsM m) c=0) (fun i=>m.cons.length-i) 0 ⟨Nat.zero_le _,fun j hj=>absurd hj (Nat.not_lt_zero j)⟩ (fun _ _ h=>h) ?_)
    rintro k ⟨hk,hbc⟩ ih
    refine .B ?_
    refine T.cd rfl (fun h4=> ?_) (fun h4=> ?_)
    ·have h4:k<m.cons.length:=by have h:=h4;rw[List.length_map]at h;omega
     have hrow:(m.cons.map cC)[((k:Nat):Int).toNat]? =some (cC m.cons[k]):=by simp[h4]
     have hcb:=b4 _ (List.getElem_mem h4)
     have hcs:=p8 (domsM m) m.cons[k] ⟨by omega,by omega,by omega,hcb.2.2.2,hck _ (List.getElem_mem h4)⟩ hdv
     have hgk:m.cons[k]? =some m.cons[k]:=List.getElem?_eq_getElem h4
     have stop:conR (domsM m) m.cons[k]≠0→R=conR (domsM m) m.cons[k]:=fun he=>by
      have:firstE (m.cons.map (conR (domsM m)))=conR (domsM m) m.cons[k]:=jn (i:=k) (fun j hj x hx=>by
       rw[List.getElem?_map]at hx
       obtain⟨c,hc,rfl⟩:=Option.map_eq_some_iff.1 hx
       exact hbc j hj c hc) (by rw[List.getElem?_map,hgk];rfl) he
      rw[this,if_pos he]at hR
      exact hR.symm
     have ih4:=fun h:conR (domsM m) m.cons[k]=0=>ih (k+1) ⟨by omega,fun j hj c hc=>by
      by_cases e:j=k
      ·rw[e,hgk]at hc;cases hc;exact h
      ·exact hbc j (by omega) c hc⟩ (by omega)
     generalize m.cons[k]=c at*
     generalize conR (domsM m) c=cr at*
     refine .B ?_
     refine .I (r:=cC c) hrow ?_
     refine .B ?_
     refine .L ?_
     refine .W ?_
     refine .B ?_
     refine .C hcs ?_
     refine .B ?_
     refine T.cd rfl (fun h5=> ?_) (fun h5=> ?_)
     ·have e:=stop h5
      subst e
      refine .B ?_
      exact r1
     ·have h5:cr=0:=Classical.byContradiction h5
      refine .B ?_
      rw[aj (l:=m.cons.length) h4 (by omega)]
      exact T.K (ih4 h5)
    ·have h4:k=m.cons.length:=by have h:=h4;rw[List.length_map]at h;omega
     have hfc:firstE (m.cons.map (conR (domsM m)))=0:=jm fun x hx=>by
      obtain⟨c,hc,rfl⟩:=List.mem_map.1 hx
      obtain⟨j,hj⟩:=List.getElem?_of_mem hc
      exact hbc j (by have:=(List.getElem?_eq_some_iff.1 hj).1;omega) c hj
     rw[hfc,if_neg (by simp)]at hR
     have hgo:=vB (domsM m) m.goal b5.1 b5.2 hgk hdv
     rw[hR]at hgo
     refine .B ?_
     refine .C hgo ?_
     refine .B ?_
     exact r1
theorem jT:Spec Tryz.prog 34 false [] [.val (.agg (cM em))]:=by
 refine Spec.body Tryz.func34 rfl rfl rfl fun w0 Z0=> ?_
 refine .B ?_
 refine .L ?_
 refine .B ?_
 refine .V ?_
 refine .B ?_
 refine .V ?_
 refine .V ?_
 refine .V ?_
 refine .B ?_
 refine .V ?_
 refine .V ?_
 refine .V ?_
 refine .B ?_
 refine .W ?_
 refine .B ?_
 exact⟨_,.cell rfl rfl rfl (fun _=>rfl) .nil⟩
theorem Ba:ModK em:=⟨q9,fun c hc=> .inl (by simp[em]at hc;subst hc;decide +kernel),.inl (by decide +kernel)⟩
theorem Be:ModK pX:=⟨Bf,fun c hc=>(by cases hc),.inl (by decide +kernel)⟩
theorem ie:Spec Tryz.prog 12 false [] [.val (.bool true)]:=by
 refine Spec.body Tryz.func12 rfl rfl rfl fun w0 Z0=> ?_
 have hck:=lQ em Ba
 rw[Am]at hck
 have hgi:GoalIn (dmQ 0 1 0 1) em.goal:=wX gp0 (by decide) (by decide) (by decide +kernel)
 have a1:=(pG em q9 yT (by decide +kernel) 9 (by decide) hck).frz
 have a2:=(pG em q9 yT (by decide +kernel) 2 (by decide) hck).frz
 have a3:=nG em q9 yT (by decide +kernel) hgi 9 (by decide) hck
 rw[Ab]at a1
 rw[Ac]at a2
 rw[Aa]at a3
 have hck2:=lQ pX Be
 rw[At]at hck2
 have a4:=(Ae pX 9 44 (by decide) hck2).frz
 have a1:Spec Tryz.prog 13 false [.agg (cM em),.int .i64 9] [.val (bT [[0,1],[1,0]]),.val (.bool true),.val (.int .i64 3),.val (.int .i64 0)]:=a1
 have a2:Spec Tryz.prog 13 false [.agg (cM em),.int .i64 2] [.val (bT [[0,1]]),.val (.bool false),.val (.int .i64 2),.val (.int .i64 0)]:=a2
 have a3:Spec Tryz.prog 18 false [.agg (cM em),.int .i64 9] [.val (aA [1,0]),.val (.bool true),.val (.bool true),.val (.int .i64 3),.val (.int .i64 0)]:=a3
 have a4:Spec Tryz.prog 13 false [.agg (cM pX),.int .i64 9] [.val (bT []),.val (.bool false),.val (.int .i64 0),.val (.int .i64 44)]:=a4
 have l1:=iS [[0,1],[1,0]] [[0,1],[1,0]] (by decide) (by decide)
 rw[decide_eq_true rfl]at l1
 have l2:=iS [[0,1]] [[0,1]] (by decide) (by decide)
 rw[decide_eq_true rfl]at l2
 have l3:=pU [1,0] [1,0] (by decide)
 rw[decide_eq_true rfl]at l3
 refine .B ?_
 refine .C jT ?_
 refine .B ?_
 refine .C a1 ?_
 refine .B ?_
 refine .C jT ?_
 refine .B ?_
 refine .C a2 ?_
 refine .B ?_
 refine .C jT ?_
 refine .B ?_
 refine .C a3 ?_
 refine .B ?_
 refine .C a4 ?_
 refine .B ?_
 refine .V ?_
 refine .V ?_
 refine .V ?_
 refine .C l1 ?_
 refine .B ?_
 refine .V ?_
 refine .V ?_
 refine .C l2 ?_
 refine .B ?_
 refine .V ?_
 refine .C l3 ?_
 refine .B ?_
 exact r1
theorem yx {m:Mod}(h:checkR m=0):m.vars.length≤64∧m.cons.length≤256∧ep (domsM m) m.goal=0:=by
 unfold checkR at h
 split at h
 ·cases h
 ·rename_i h0
  split at h
  ·rename_i h1;exact absurd h h1
  ·split at h
   ·rename_i h1;exact absurd h h1
   ·exact⟨by omega,by omega,h⟩
theorem nj: ∀{d:aa},(∀x∈d,(vals x).length≤4096)→weight d≤d.length*4096
 | [],_=>by simp[weight]
 |x::d,h=>by
  have h1:=h x (.head _)
  have h2:=nj fun y hy=>h y (.tail _ hy)
  unfold weight at*
  simp only[List.map_cons,List.sum_cons,List.length_cons]
  omega
theorem uj {d:aa}{c:Con}(h:conR d c=0):d9 c.coefs c.rhs=false:=jt h
structure Fit (b:Mod):Prop where
 ck:checkR b=0
 mb:ModB b
 r:RightM b
 p:prodD (domsM b)≤1048576
 cl:b.cons.length≤256
 w:weight (domsM b)≤1000000
 g:GoalIn (domsM b) b.goal
 k:ModK b
theorem Fit.run {b:Mod}(h:Fit b):RunOk (domsM b) b.cons:=h.r.run h.p
theorem zJ {b:Mod}(hb:ModB b)(hc:checkR b=0)(hp:prodD (domsM b)≤1048576):Fit b:=by
 have hr:=ke hb hc
 obtain⟨h1,h2,h3⟩:=yx hc
 have hw:=nj hr.good.few.few
 have hl:(domsM b).length=b.vars.length:=by simp[domsM]
 refine⟨hc,hb,hr,hp,h2,by omega,wX hr.good hb.gl.1 hb.gl.2 h3,hb,fun c hm=> .inl (uj (hr.right c hm)),?_⟩
 rcases goal_kinds h3 with ⟨_,_,h4⟩|⟨_,h4⟩
 ·rw[h4];exact .inl rfl
 ·exact .inl (uj h4)
theorem Bn {m:Mod}{most:Nat}(hb:ModB m)(h:okM m most=true)(h1:1≤most∧most≤1048576):Fit m∧prodD (domsM m)≤most:=by
 have hk:=zg hb h h1.1
 unfold okM at h
 rw[Bool.and_eq_true,decide_eq_true_eq]at h
 exact⟨zJ hb h.1 (Nat.le_trans hk.2 h1.2),hk.2⟩
theorem Fit.turn {b:Mod}(h:Fit b)(hk:b.goal.kind≠0):Fit (sa b):=by
 have hk2:b.goal.kind=1∨b.goal.kind=2:=(h.g.kind.resolve_left hk).1
 refine zJ ⟨h.mb.vl,h.mb.vn,h.mb.cl,h.mb.cb,⟨h.mb.gl.1,by show(b.goal.coefs.map (- ·)).length≤_;rw[List.length_map];exact h.mb.gl.2⟩⟩ ((uI hk2).trans h.ck) h.p
theorem yf {b:Mod}(h:Fit b):Spec Tryz.prog 64 false [.agg (cM b)] [.val (.int .i64 0)]:=by
 have:=lQ b h.k
 rw[h.ck]at this
 exact this
theorem tZ {b:Mod}(h:Fit b)(left:Int)(hl:left≤1099511627776):Spec Tryz.prog 18 false [.agg (cM b),.int .i64 left] [.val (aA ((srchB b left).st.getD [])),.val (.bool (srchB b left).st.isSome),.val (.bool (!(srchB b left).short)),.val (.int .i64 (srchB b left).nodes),.val (.int .i64 0)]:=nG b h.mb h.run h.w h.g left hl (yf h)
theorem zV {b:Mod}(h:Fit b)(left:Int): ∀a,(srchB b left).st=some a→a.length=(domsM b).length:=by
 have hS:=tu h.run (by have:=h.cl;omega) h.g
 have hg:=j5 (left:=left) hS (weight (domsM b)+1) (domsM b) ⟨0,false,false,none⟩ (Nat.lt_succ_self _) h.r.good leD.rfl' (fun a e=>by cases e)
 exact(hg.reach.keep (P:=fun t=> ∀a,t=some a→a.length=(domsM b).length) (fun a e=>by cases e) fun u a hu hs b e=>by
  cases e
  exact(l4 h.r.good hs).1)
def AR (g:Goal)(u1 u2 u3:Value):List PV:=[.raw u1,.raw u2,.int .i64 g.kind,aA g.vars,.raw u3]
set_option maxHeartbeats 1000000 in
theorem yr (m:Mod)(hm:ModB m):SpecX Tryz.prog 14 [] [] [] [] [(false,.agg (cM m))] (fun _=>[]) (fun ns=>[.sl 3 1 true (m.goal.coefs.map cI)]) false (fun ns=>[.agg [.sl (m.vars.map cV),cE m.cons,.int .i64 m.goal.kind,aA m.goal.vars,.raw (ns.getD 0 undef)]]):=by
 refine SpecX.body (fn:=Tryz.f14) [] [1000] rfl rfl rfl rfl fun w0 Z=> ?_
 obtain⟨b1,b2,b3,b4,b5⟩:=hm
 have hM: ∀b,¬(∃u∈([]:List Value)++[],VB u b):=fun b ⟨u,hu,_⟩=>by cases hu
 refine .B ?_
 refine .L ?_
 refine .M ?_
 refine T.rdw 16 rfl (by kernel_rfl) rfl ?_
 refine .M ?_
 refine .O ?_
 refine .M ?_
 refine J.adf hM rfl rfl rfl rfl rfl rfl rfl rfl rfl rfl rfl rfl rfl rfl rfl rfl rfl ou (by show(0+List.length _)*8≤_;simp;omega) ?_
 refine .M ?_
 refine .O ?_
 refine .M ?_
 refine J.ad rfl rfl rfl rfl rfl rfl rfl rfl rfl rfl rfl rfl rfl rfl rfl rfl rfl rfl ou (by show(0+List.length _)*8≤_;simp;omega) ?_
 refine J.br rfl rfl rfl rfl rfl ?_
 refine J.br rfl rfl rfl rfl rfl ?_
 refine .L ?_
 refine J.nil ?_
 refine⟨by kernel_rfl,?_⟩
 refine J.name 1000 (s:=18) rfl rfl rfl fun u=> ?_
 refine J.sub (Rel.agrawZ (s:=20) [(4,1000)] rfl rfl) ?_
 refine .W ?_
 refine J.nil ?_
 refine T.nilO 1001 56 2 rfl ?_
 refine T.nilO 1002 51 7 rfl ?_
 refine T.sub (Rel.wk (o:=6) rfl) ?_
 refine T.sub (Rel.wk (o:=7) rfl) ?_
 refine T.sub (Rel.flat (o:=4) rfl (fun r hr p hp=>by simp[cI]at hr;obtain⟨x,_,rfl⟩:=hr;simp at hp;subst hp;rfl)) ?_
 refine T.canon (keep:=[1,2,3,1000,1001,1002]) (os:=[1,2,3,1000,1001,1002]) rfl ?_
 refine T.mids (fun u1:Value=>⟨[(1,.optr 0 0 0 0),(2,.optr 1 0 0 0),(3,.optr 2 0 0 0),(1000,.eq u 3),(1001,.eq u1 4),(1002,.eq (.slice none 0 0) 5)],[(0,some (.box false (cM m))),(1,some (.box true [.sl [],.sl [],.int .i64 0,.sl [],.sl []])),(2,some (.box false (AR m.goal u1 (.slice none 0 0) u))),(3,some (.sl 3 1 true (m.goal.coefs.map cI))),(4,some (.sl 56 2 false (m.vars.map cV))),(5,some (.sl 51 7 false ([])))],6⟩) ?_ fun u1=> ?_
 ·refine .M ?_
  refine T.K (T.ind (fun s:Nat×Value=>⟨[(1,.optr 0 0 0 0),(2,.optr 1 0 0 0),(3,.optr 2 0 0 0),(4,.val true (.int .i64 s.1)),(1000,.eq u 3),(1001,.eq s.2 4),(1002,.eq (.slice none 0 0) 5)],[(0,some (.box false (cM m))),(1,some (.box true [.sl [],.sl [],.int .i64 0,.sl [],.sl []])),(2,some (.box false (AR m.goal s.2 (.slice none 0 0) u))),(3,some (.sl 3 1 true (m.goal.coefs.map cI))),(4,some (.sl 56 2 false ((m.vars.take s.1).map cV))),(5,some (.sl 51 7 false ([])))],6⟩) (fun s=>s.1≤m.vars.length) (fun s=>m.vars.length-s.1) (0,.slice none 0 0) (Nat.zero_le _) (fun _ _ h=>by cases h.1) ?_)
  rintro⟨i,u1⟩ hi ih
  simp only at hi
  refine .B ?_
  refine T.cd rfl (fun h1=> ?_) (fun h1=> ?_)
  ·have h1:i<m.vars.length:=by have h:=h1;rw[List.length_map]at h;omega
   have hrow:(m.vars.map cV)[((i:Nat):Int).toNat]? =some (cV m.vars[i]):=by simp[h1]
   have hv:=b2 _ (List.getElem_mem h1)
   have htk:m.vars.take (i+1)=m.vars.take i++[m.vars[i]]:=List.take_succ_eq_append_getElem h1
   have hln:(m.vars.take i).length≤1024:=by simp;omega
   have ih1:=fun u'=>ih (i+1,u') (by show _≤_;omega) (by show _-_<_-_;omega)
   simp only[htk,List.map_append]at ih1
   generalize m.vars.take i=out at*
   generalize m.vars[i]=v at*
   obtain⟨nm,dd⟩:=v
   simp only at hv
   refine .M ?_
   refine T.rdw 20 rfl (by kernel_rfl) rfl ?_
   refine J.H rfl ?_
   refine J.lr 1001 (q:=4) (u:=u1) rfl rfl rfl rfl rfl rfl rfl rfl rfl ?_
   refine .M ?_
   refine .I (r:=cV (nm,dd)) hrow ?_
   refine .M ?_
   refine .O ?_
   refine .M ?_
   refine .I (r:=cV (nm,dd)) hrow ?_
   refine .M ?_
   refine J.adf hM rfl rfl rfl rfl rfl rfl rfl rfl rfl rfl rfl rfl rfl rfl rfl rfl rfl wT (by show(0+List.length _)*16≤_;simp;omega) ?_
   refine .M ?_
   refine .V ?_
   refine J.ad rfl rfl rfl rfl rfl rfl rfl rfl rfl rfl rfl rfl rfl rfl rfl rfl rfl rfl (cJ rfl) (by show(List.length _+1)*40≤_;simp;omega) ?_
   refine .M ?_
   refine⟨by kernel_rfl,?_⟩
   refine J.name 1001 (s:=46) rfl rfl rfl fun u'=> ?_
   refine J.sub (Rel.raw (s:=46) (g:=1001) rfl (.inl rfl) rfl rfl rfl) ?_
   refine .W ?_
   refine .B ?_
   rw[aj (l:=m.vars.length) (n:=i) h1 (by omega)]
   exact T.K (ih1 u')
  ·have e:i=m.vars.length:=by have h:=h1;rw[List.length_map]at h;omega
   subst e
   rw[List.take_length]
   refine .B ?_
   exact⟨rfl,u1,[1,2,3,1000,1001,1002],[1,2,3,1000,1001,1002],rfl,rfl⟩
 ·refine T.mids (fun u2:Value=>⟨[(1,.optr 0 0 0 0),(2,.optr 1 0 0 0),(3,.optr 2 0 0 0),(1000,.eq u 3),(1001,.eq u1 4),(1002,.eq u2 5)],[(0,some (.box false (cM m))),(1,some (.box true [.sl [],.sl [],.int .i64 0,.sl [],.sl []])),(2,some (.box false (AR m.goal u1 u2 u))),(3,some (.sl 3 1 true (m.goal.coefs.map cI))),(4,some (.sl 56 2 false (m.vars.map cV))),(5,some (.sl 51 7 false (m.cons.map cC)))],6⟩) ?_ fun u2=> ?_
  ·refine .M ?_
   refine T.K (T.ind (fun s:Nat×Value=>⟨[(1,.optr 0 0 0 0),(2,.optr 1 0 0 0),(3,.optr 2 0 0 0),(5,.val true (.int .i64 s.1)),(1000,.eq u 3),(1001,.eq u1 4),(1002,.eq s.2 5)],[(0,some (.box false (cM m))),(1,some (.box true [.sl [],.sl [],.int .i64 0,.sl [],.sl []])),(2,some (.box false (AR m.goal u1 s.2 u))),(3,some (.sl 3 1 true (m.goal.coefs.map cI))),(4,some (.sl 56 2 false (m.vars.map cV))),(5,some (.sl 51 7 false ((m.cons.take s.1).map cC)))],6⟩) (fun s=>s.1≤m.cons.length) (fun s=>m.cons.length-s.1) (0,.slice none 0 0) (Nat.zero_le _) (fun _ _ h=>by cases h.1) ?_)
   rintro⟨i,u2⟩ hi ih
   simp only at hi
   refine .B ?_
   refine T.cd rfl (fun h1=> ?_) (fun h1=> ?_)
   ·have h1:i<m.cons.length:=by have h:=h1;rw[List.length_map]at h;omega
    have hrow:(m.cons.map cC)[((i:Nat):Int).toNat]? =some (cC m.cons[i]):=by simp[h1]
    have hv:=b4 _ (List.getElem_mem h1)
    have htk:m.cons.take (i+1)=m.cons.take i++[m.cons[i]]:=List.take_succ_eq_append_getElem h1
    have hln:(m.cons.take i).length≤1024:=by simp;omega
    have hown:=sW m.cons[i] ⟨by omega,by omega,by omega,fun r hr=>by have:=hv.2.2.2 r hr;omega⟩
    have ih1:=fun u'=>ih (i+1,u') (by show _≤_;omega) (by show _-_<_-_;omega)
    simp only[htk,List.map_append]at ih1
    generalize m.cons.take i=out at*
    generalize m.cons[i]=c at*
    refine .M ?_
    refine T.rdw 11 rfl (by kernel_rfl) rfl ?_
    refine J.H rfl ?_
    refine J.lr 1002 (q:=5) (u:=u2) rfl rfl rfl rfl rfl rfl rfl rfl rfl ?_
    refine .M ?_
    refine .I (r:=cC c) hrow ?_
    refine .M ?_
    refine .C hown ?_
    refine .M ?_
    refine .V ?_
    refine J.ad rfl rfl rfl rfl rfl rfl rfl rfl rfl rfl rfl rfl rfl rfl rfl rfl rfl rfl (cJ rfl) (Nat.le_trans (Nat.mul_le_mul_right _ (show(out.map cC).length+1≤1025 by rw[List.length_map];omega)) (show 1025*104≤140737488355328 by decide)) ?_
    refine .M ?_
    refine⟨by kernel_rfl,?_⟩
    refine J.name 1002 (s:=64) rfl rfl rfl fun u'=> ?_
    refine J.sub (Rel.raw (s:=64) (g:=1002) rfl (.inl rfl) rfl rfl rfl) ?_
    refine .W ?_
    refine .B ?_
    rw[aj (l:=m.cons.length) (n:=i) h1 (by omega)]
    exact T.K (ih1 u')
   ·have e:i=m.cons.length:=by have h:=h1;rw[List.length_map]at h;omega
    subst e
    rw[List.take_length]
    refine .B ?_
    exact⟨rfl,u2,[1,2,3,1000,1001,1002],[1,2,3,1000,1001,1002],rfl,rfl⟩
  ·refine T.sub (fun a w h=>Rel.meltB (i:=0) (qc:=2) (q:=4) (g:=1001) hM rfl rfl rfl rfl rfl h) ?_
   refine T.sub (fun a w h=>Rel.meltB (i:=1) (qc:=2) (q:=5) (g:=1002) hM rfl rfl rfl rfl rfl h) ?_
   refine .B ?_
   refine .W ?_
   refine .B ?_
   exact⟨[],[3],[u],trivial,⟨rfl,⟨_,rfl,rfl,rfl⟩,trivial⟩,rfl,.cell rfl rfl rfl (fun h=>by cases h) .nil⟩
set_option maxHeartbeats 1000000 in
theorem vH (m:Mod)(budget:Int)(hm:ModI m):Spec Tryz.prog 7 true [.agg (cM m),.int .i64 budget] [.val (.bool true)]:=by
 refine Spec.body Tryz.func7 rfl rfl rfl fun w0 Z0=> ?_
 have hrs:=tj m 300 hm (by omega)
 have hb:=uv m
 have hfit:=fun h=>(Bn (most:=300) hb h (by omega)).1
 generalize okM (boundM m) 300=ok at*
 generalize boundM m=b at*
 refine .B ?_
 refine .C hrs ?_
 refine .B ?_
 refine .W ?_
 refine .B ?_
 cases ok with
 |false=>
  refine .B ?_
  refine T.ct rfl ?_
  refine .B ?_
  refine .C ie ?_
  refine .B ?_
  exact⟨_,.v rfl rfl rfl (fun h=>by cases h) .nil⟩
 |true=>
  have hF:=hfit rfl
  refine .B ?_
  refine T.cd rfl (fun hk=> ?_) (fun hk=> ?_)
  ·refine .B ?_
   refine .C ie ?_
   refine .B ?_
   exact⟨_,.v rfl rfl rfl (fun h=>by cases h) .nil⟩
  ·have hk:b.goal.kind≠0:=hk
   have hk2:b.goal.kind=1∨b.goal.kind=2:=(hF.g.kind.resolve_left hk).1
   refine .B ?_
   refine J.cx [] [] [1000] (yr b hF.mb) trivial (fun ns hns=> ?_)
   obtain⟨u,rfl⟩:=zA hns rfl
   refine .M ?_
   refine .L ?_
   refine .W ?_
   refine .M ?_
   refine .W ?_
   refine .M ?_
   have hgo:=hF.g.ok hk
   have hck:=hgo.ck
   have hfew:b.goal.coefs.length≤1024:=hF.mb.gl.2
   have hw3:IntKind.i64.wrap (3-b.goal.kind)=3-b.goal.kind:=ac (by omega) (by omega)
   rw[hw3]
   refine T.K (T.ind (fun i:Nat=>⟨[(1,.val false (.int .i64 budget)),(2,.optr 0 0 0 0),(6,.optr 1 0 0 0),(7,.val true (.int .i64 i)),(1000,.eq u 2)],[(0,some (.box false (cM b))),(1,some (.box false [.sl (b.vars.map cV),cE b.cons,.int .i64 (3-b.goal.kind),aA b.goal.vars,.raw u])),(2,some (.sl 3 1 true ((((b.goal.coefs.take i).map (- ·))++b.goal.coefs.drop i).map cI)))],3⟩) (fun i=>i≤b.goal.coefs.length) (fun i=>b.goal.coefs.length-i) 0 (by simp) (fun _ _ h=>h) ?_)
   rintro i hi ih
   have hml:((b.goal.coefs.take i).map (- ·)).length=i:=by simp;omega
   have hL:(((b.goal.coefs.take i).map (- ·))++b.goal.coefs.drop i).length=b.goal.coefs.length:=by rw[List.length_append,hml,List.length_drop];omega
   refine .B ?_
   refine J.sub (Rel.deraw (s:=44) (g:=1000) rfl rfl) ?_
   refine .B ?_
   refine T.cd rfl (fun h5=> ?_) (fun h5=> ?_)
   ·have h5:i<b.goal.coefs.length:=by have h:=h5;rw[List.length_map,hL]at h;omega
    have hrow:((((b.goal.coefs.take i).map (- ·))++b.goal.coefs.drop i).map cI)[(i:Int).toNat]? =some (cI b.goal.coefs[i]):=by
     rw[Int.toNat_natCast,List.getElem?_map,List.getElem?_append_right (by omega),hml,Nat.sub_self,List.getElem?_drop,Nat.add_zero,List.getElem?_eq_getElem h5];rfl
    have hset:(((b.goal.coefs.take i).map (- ·))++b.goal.coefs.drop i).set i (- b.goal.coefs[i])=((b.goal.coefs.take (i+1)).map (- ·))++b.goal.coefs.drop (i+1):=by
     rw[List.set_append_right _ _ (by omega),hml,Nat.sub_self,List.drop_eq_getElem_cons h5,List.set_cons_zero,List.take_succ_eq_append_getElem h5,List.map_append,List.append_assoc];rfl
    have hci:=eR (hck _ (List.getElem_mem h5))
    refine .M ?_
    refine T.rdw 12 rfl (by kernel_rfl) rfl ?_
    iterate 2 refine J.H rfl ?_
    refine J.lr 1000 (q:=2) (u:=u) rfl rfl rfl rfl rfl rfl rfl rfl rfl ?_
    iterate 3 refine J.H rfl ?_
    refine J.lr 1000 (q:=2) (u:=u) rfl rfl rfl rfl rfl rfl rfl rfl rfl ?_
    refine .M ?_
    refine J.io rfl rfl rfl rfl rfl rfl rfl rfl rfl (by omega) (by rw[List.length_map,hL];omega) rfl ?_
    refine J.lo rfl rfl rfl rfl rfl rfl (r:=cI b.goal.coefs[i]) hrow rfl ?_
    refine .M ?_
    refine J.io rfl rfl rfl rfl rfl rfl rfl rfl rfl (by omega) (by rw[List.length_map,hL];omega) rfl ?_
    refine J.nil ?_
    refine⟨by kernel_rfl,?_⟩
    have ew:IntKind.i64.wrap (0-b.goal.coefs[i])= -b.goal.coefs[i]:=by rw[ac (by omega) (by omega)];omega
    rw[ew]
    refine J.w1 rfl rfl rfl rfl rfl rfl rfl rfl rfl rfl rfl (z:= -b.goal.coefs[i]) (fun _=>rfl) (by rw[hL];omega) ?_
    rw[Int.toNat_natCast,hset]
    refine .M ?_
    rw[aj h5 (by omega)]
    exact T.K (ih (i+1) (by omega) (by omega))
   ·have h5:i=b.goal.coefs.length:=by have h:=h5;rw[List.length_map,hL]at h;omega
    subst h5
    rw[List.take_length,List.drop_length,List.append_nil]
    have hT:=hF.turn hk
    have hmin:min budget 300≤1099511627776:=by omega
    have s1:=tZ hF (min budget 300) hmin
    have s2:=tZ hT (min budget 300) hmin
    rw[xk hk2]at s2
    have hlen:=zV hF (min budget 300)
    have hdl:(domsM b).length≤1024:=by have:=hF.mb.vl;simpa[domsM]using this
    generalize srchB b (min budget 300)=r at*
    have l1:=iS [r.st.getD []] [r.st.getD []] (by simp) (by
     intro x hx
     rw[List.mem_singleton.1 hx]
     cases h:r.st with
     |none=>simp
     |some a=>have:=hlen a h;simp;omega)
    rw[decide_eq_true rfl]at l1
    obtain⟨nodes,short,over,st⟩:=r
    refine T.sub (Rel.cellF 1000 4 (q:=1) (n:=2) (fun b h=>h) rfl rfl rfl rfl rfl) ?_
    refine .B ?_
    refine .C s1 ?_
    refine .B ?_
    refine .C s2 ?_
    refine .B ?_
    cases short<;>cases st
    all_goals
     refine .B ?_
     refine J.g rfl rfl rfl (fun _=> ?_) (fun h=>absurd rfl h)
     refine .B ?_
     refine .V ?_
     refine .B ?_
     refine .V ?_
     refine .C l1 ?_
     refine .B ?_
     refine .C ie ?_
     refine .B ?_
     exact⟨_,.v rfl rfl rfl (fun h=>by cases h) .nil⟩
set_option maxRecDepth 100000
section
variable {H:Type}{henc:TypeId×Value→H}{w:World}
theorem fW:dB henc Tryz.prog w 3 cI (fun n=> -9223372036854775808≤n∧n≤9223372036854775807):=xM (by kernel_rfl)
theorem iR:dB henc Tryz.prog w 24 (fun l=>[aA l]) (fun l=>l.length*8≤reachBytes):=
 (eO (t:=24) (e:=3) (by kernel_rfl) fW (fun _=>by kernel_rfl) (by decide +kernel) (fun a p hp=>by simp[cI]at hp;subst hp;rfl)).map id (fun _=>rfl) fun l h=>h.1
theorem zd:dB henc Tryz.prog w 34 (fun l=>[bT l]) (fun l=>l.length*24≤reachBytes∧∀x∈l,x.length*8≤reachBytes):=
 (eO (t:=34) (e:=24) (by kernel_rfl) iR (fun _=>by kernel_rfl) (by decide +kernel) (fun a p hp=>by simp at hp;subst hp;rfl)).map id (fun _=>rfl) fun l h=>h
theorem xN:dB henc Tryz.prog w 51 cC ConB:=by
 have h:=dU (henc:=henc) (w:=w) Tryz.underlying51 (aN fW rfl (aN iR (by kernel_rfl) (aN iR (by kernel_rfl) (aN fW (by kernel_rfl) (aN fW (by kernel_rfl) (aN zd (by kernel_rfl) (aN fW (by kernel_rfl) (fE _)))))))) (by kernel_rfl)
 refine h.map (fun x=>(⟨x.1,x.2.1,x.2.2.1,x.2.2.2.1,x.2.2.2.2.1,x.2.2.2.2.2.1,x.2.2.2.2.2.2.1⟩:Con)) (fun _=>rfl) fun x h=> ?_
 obtain⟨_,h1,h2,_,_,h3,_⟩:=h
 have e:reachBytes=140737488351232:=rfl
 rw[e]at h1 h2 h3
 exact⟨by simp only;omega,by simp only;omega,by simp only;omega,fun y hy=>by have:=h3.2 y hy;omega⟩
end
end Go.Proofs.YtopcjbahjjhdmaaGreat
namespace Go.Proofs.YtopcjbahjjhdmaaGreat
open Go Go.RowKit
set_option linter.unusedVariables false
set_option maxRecDepth 100000
section
variable {H:Type}{henc:TypeId×Value→H}{w:World}
theorem Ao:dB henc Tryz.prog w 9 (fun s:ByteArray=>[.str s]) (fun _=>True):=by
 intro fuel cs x h _ _
 obtain⟨s,rfl,_,_⟩:=DataW.trod_string (show Tryz.prog.underlying 9=some .string by kernel_rfl) h
 exact⟨s,.cons (.str _) .nil,trivial⟩
theorem s4:dB henc Tryz.prog w 53 cR (fun _=>True):=by
 have h:=dU (henc:=henc) (w:=w) Tryz.underlying53 (aN fW rfl (aN fW (by kernel_rfl) (fE _))) (by kernel_rfl)
 exact h.map (fun x=>(x.1,x.2.1)) (fun _=>rfl) fun _ _=>trivial
theorem Ap:dB henc Tryz.prog w 54 (fun l=>[dm l]) (fun l=>l.length*16≤reachBytes):=
 (eO (t:=54) (e:=53) (by kernel_rfl) s4 (fun _=>by kernel_rfl) (by decide +kernel) (fun a p hp=>by simp[cR]at hp;rcases hp with rfl|rfl<;>rfl)).map id (fun _=>rfl) fun l h=>h.1
theorem xK:dB henc Tryz.prog w 56 cV (fun v=>v.2.length*16≤reachBytes):=by
 have h:=dU (henc:=henc) (w:=w) Tryz.underlying56 (aN Ao rfl (aN Ap (by kernel_rfl) (fE _))) (by kernel_rfl)
 exact h.map (fun x=>(x.1,x.2.1)) (fun _=>rfl) fun x h=>h.2.1
theorem vh:dB henc Tryz.prog w 22 (fun l:List (ByteArray×List (Int×Int))=>[.sl (l.map cV)]) (fun l=>l.length*40≤reachBytes∧∀v∈l,v.2.length*16≤reachBytes):=
 (eO (t:=22) (e:=56) (by kernel_rfl) xK (fun _=>by kernel_rfl) (by decide +kernel) (fun a p hp=>by simp[cV]at hp;rcases hp with rfl|rfl<;>rfl)).map id (fun _=>rfl) fun l h=>h
theorem vm:dB henc Tryz.prog w 51 cC (fun c=>c.vars.length*8≤140737488355328∧c.coefs.length*8≤140737488355328∧c.rows.length*8≤140737488355328∧∀r∈c.rows,r.length*8≤140737488355328):=
 xN.map id (fun _=>rfl) fun c h=>by obtain⟨h1,h2,h3,h4⟩:=h;exact⟨by simp only[id];omega,h2,by simp only[id];omega,h4⟩
theorem vk:dB henc Tryz.prog w 23 (fun l=>[cE l]) (fun l=>l.length*104≤reachBytes∧∀c∈l,c.vars.length*8≤140737488355328∧c.coefs.length*8≤140737488355328∧c.rows.length*8≤140737488355328∧∀r∈c.rows,r.length*8≤140737488355328):=
 (eO (t:=23) (e:=51) (by kernel_rfl) vm (fun _=>by kernel_rfl) (by decide +kernel) (fun a p hp=>by simp[cC]at hp;rcases hp with rfl|rfl|rfl|rfl|rfl|rfl|rfl<;>rfl)).map id (fun _=>rfl) fun l h=>h
theorem vj:dB henc Tryz.prog w 26 cG (fun g=>g.vars.length*8≤reachBytes∧g.coefs.length*8≤reachBytes):=by
 have h:=dU (henc:=henc) (w:=w) Tryz.underlying26 (aN fW rfl (aN iR (by kernel_rfl) (aN iR (by kernel_rfl) (fE _)))) (by kernel_rfl)
 exact h.map (fun x=>(⟨x.1,x.2.1,x.2.2.1⟩:Goal)) (fun _=>rfl) fun x h=>⟨h.2.1,h.2.2.1⟩
theorem xL:dB henc Tryz.prog w 28 cM ModI:=by
 have h:=dU (henc:=henc) (w:=w) Tryz.underlying28 (aN vh rfl (aN vk (by kernel_rfl) (aN vj (by kernel_rfl) (fE _)))) (by kernel_rfl)
 refine h.map (fun x=>(⟨x.1,x.2.1,x.2.2.1⟩:Mod)) (fun _=>by simp[cM,cG]) fun x h=> ?_
 obtain⟨⟨h1,h2⟩,⟨h3,h4⟩,⟨h5,h6⟩,_⟩:=h
 have e:reachBytes=140737488351232:=rfl
 rw[e]at h1 h3 h5 h6
 exact⟨fun v hv=>by have:=h2 v hv;rw[e]at this;omega,by simp only;omega,by simp only;omega,h4,by simp only;omega⟩
theorem Au (m:Mod): ∀p∈cM m,p.one=true:=by
 intro p hp
 simp[cM,cE]at hp
 rcases hp with rfl|rfl|rfl|rfl|rfl<;>rfl
end
end Go.Proofs.YtopcjbahjjhdmaaGreat
namespace Go.Proofs.YtopcjbahjjhdmaaGreat.searchTurns
open Go.ChangeShapes Go.WideShapes Go.ChangeAt Go.RowKit
theorem own:ownKnob Tryz.prog.godebug=none:=by kernel_rfl
theorem laidOut:laidOutB Tryz.prog=true:=by kernel_rfl
set_option maxRecDepth 100000 in
theorem lifted (os:Os)(started:os.Started)(H:Type)(enc:TypeId×Value→H):
  ReturnsInHanded {} Tryz.checked os 7 .any (Rows.searchTurnsSpec.pre6 enc Tryz.prog Tryz.f7 Rows.searchTurnsRow.domain false) (Rows.searchTurnsSpec.post enc Tryz.prog Tryz.f7 false true false false):=by
 refine returnsInHanded_of_change_sized (C:=Tryz.checked) own started (by kernel_rfl) Tryz.func7
  (ChangeSpec.witness6 (enc:=enc) (C:=Tryz.checked) false ⟨#[],#[.agg #[.slice none 0 0,.slice none 0 0,.int .i64 0,.slice none 0 0,.slice none 0 0],.int .i64 0],[]⟩ 8 (by kernel_rfl) (by kernel_rfl) (by kernel_rfl) (by kernel_rfl)) ?_
 intro W base args ds gs before hval0 hW hcnd hsz0 _
 have hsz:(DataW.weightsEach Tryz.prog (Tryz.f7.params.toList++Rows.searchTurnsSpec.plain.varTypes Tryz.prog) (ds++gs)).all (· ≤reachBytes)=true:=hsz0
 have hval: ∀(j:Nat) t v,Tryz.f7.params[j]? =some t→args[j]? =some v→Value.okWide Tryz.prog W .any base t v:=hval0
 have hW':=hW
 obtain⟨p,q,hA0,hV,rfl,hfz,hnd⟩:=hW
 have hA:DataW.TrodAll enc Tryz.prog W 0 (fun _=>true) true Tryz.f7.params.toList args.toList ds p:=hA0
 rw[Tryz.params7]at hA hval hsz
 obtain⟨v0,vs0,d0,ds0,p0,q0,hargs,rfl,rfl,h0,r0⟩:=trodAll_cons hA
 obtain⟨v1,vs1,d1,ds1,p1,q1,rfl,rfl,rfl,h1,r1⟩:=trodAll_cons r0
 obtain⟨rfl,rfl,rfl⟩:=trodAll_nil r1
 obtain rfl:args= #[v0,v1]:=by cases args;simp_all
 obtain⟨rfl,rfl⟩:=trodVars_none hV
 have hv0:=hval 0 28 v0 rfl rfl
 obtain⟨cs0,rfl,_,_⟩: ∃cs,v0= .agg cs∧cs.size=Tryz.prog.cellsOf 28∧Row.okWide Tryz.prog W .any base 28 cs:=by
  unfold Value.okWide at hv0
  rw[Tryz.underlying28]at hv0
  exact hv0
 have k0:=h0
 have lt0: ∀x∈p0,x.block<W.heap.size:=by obtain⟨m,hm⟩:=k0;exact DataW.trod_lt m _ _ _ hm
 obtain⟨fuel0,hf0⟩:=h0
 obtain⟨budget,rfl,rfl,rfl,w1⟩:=open_int Tryz.underlying3 (hval 1 3 v1 rfl rfl) h1
 have hw:(DataW.weightsEach Tryz.prog (28::3::Rows.searchTurnsSpec.plain.varTypes Tryz.prog) (d0:: .lit (.int .i64 budget)::[])).all (· ≤reachBytes)=true:=hsz
 rw[DataW.weightsEach,List.all_append,Bool.and_eq_true]at hw
 obtain⟨hw0,hw⟩:=hw
 rw[DataW.weightsEach,List.all_append,Bool.and_eq_true]at hw
 obtain⟨hw1,hw⟩:=hw
 obtain⟨m,hrep0,hm⟩:=xL fuel0 _ (d0,p0) hf0 hw0 (nf hfz fun p hp=>by simp[hp])
 clear hA0 hval0 hsz0 hsz hw
 have hcs0:(Value.agg cs0).cells.toList=cs0.toList:=rfl
 rw[hcs0]at hrep0
 have harg0:Rep W (fun _=>True) (.agg cs0) (.agg (cM m)):=by
  have:=Rep.agg (w:=W) (Z:=fun _=>True) cs0.toList (cM m) hrep0 (Au m)
  simpa using this
 refine((vH m budget hm).out W (fun _=>True) [.agg cs0,.int .i64 budget] (.cons harg0 (.cons (.int _ _) .nil))).mono fun e W' ⟨rs,he,bel,hret⟩=> ?_
 have hrs:rs=[.bool true]:=by
  have h:=hret.each
  cases h with
  |cons h1 h2=>cases h2;cases h1;rfl
 subst hrs
 subst he
 exact⟨_,rfl,_,_,_,[],_,[],hW',trodAll_mk1 (shut_bool Tryz.underlying4 _),trodAll_cons_mk (Below.trod laidOut (by kernel_rfl) (of_decide_eq_true (by kernel_rfl)) k0 bel lt0) (trodAll_cons_mk (shut_int Tryz.underlying3 w1) trodAll_mk0),rfl,bel.frame _,fun h=>by cases h⟩
theorem over:Rows.searchTurnsRow.holds Tryz.pinned (OpenSpec.ofChange Rows.searchTurnsSpec):=
 OpenClaim.holds_of_wide 7 Tryz.f7 rfl rfl rfl rfl rfl rfl rfl ⟨rfl,rfl,rfl,rfl,rfl⟩ rfl rfl rfl rfl rfl (by kernel_rfl) Tryz.func7 (by kernel_rfl)
  (of_decide_eq_true (by kernel_rfl)) (by unfold Func.isWrapper;first|(rw[if_pos (by decide +kernel)];kernel_rfl)|(rw[if_neg (by decide +kernel)];exact⟨rfl,rfl⟩))
  (fun os started H enc _=>lifted os started H enc)
theorem proved:Rows.SearchTurnsSaid:=over
#print axioms proved
end Go.Proofs.YtopcjbahjjhdmaaGreat.searchTurns
namespace Go.Proofs.YtopcjbahjjhdmaaGreat
theorem searchTurns_holds:Rows.SearchTurnsSaid:=searchTurns.proved
end Go.Proofs.YtopcjbahjjhdmaaGreat
