/- The statement SearchWhole: the law, and its row; ahead of it what it needs (FwB, FwM, FwN, FwO, PwE, FwP, PwF, PwG, FwR, FwS, FwT, FwU, FwQ, FwV, FwW, FwX, PwH, PwI, PwJ, PwK, FwZ, LwGWhole, RowA, RowM, RowGWhole). -/
import Derived.Test.YtopcjbahjjhdmaaGreatB9
import Derived.Laws.Strings
import Derived.Test.YtopcjbahjjhdmaaGreatRows
import Derived.WalkKit
import Derived.ProofKit
import Derived.OpenShut
import Derived.ShutString
import Derived.ChangeOld
import Derived.Below
import Derived.SizedLaws
namespace Go.Proofs.YtopcjbahjjhdmaaGreat
open Go Go.RowKit
set_option linter.unusedVariables false
set_option linter.unusedSimpArgs false
set_option maxRecDepth 8000
def lY (a b:Int):Int×Bool:=if smallI a&&smallI b&&smallI (a+b)then(a+b,true)else(0,false)
theorem aQ {n:Int}:smallI n=true↔-4611686018427387904≤n∧n≤4611686018427387904:=by simp[smallI]
theorem wG (n:Int):Spec Tryz.prog 155 false [.int .i64 n] [.val (.int .i64 (if smallI n then n else 0)),.val (.bool (smallI n))]:=by
 refine Spec.body Tryz.func155 rfl rfl rfl fun w0 Z0=> ?_
 refine T.sub (Rel.fine (s:=0) rfl rfl) ?_
 have hs:=gh [n] (by simp)
 rw[show [n].all smallI=smallI n by simp]at hs
 refine .B ?_
 refine .V ?_
 refine .B ?_
 refine .C hs ?_
 refine .B ?_
 cases smallI n with
 |false=>
  refine T.ct rfl ?_
  refine .B ?_
  exact r2
 |true=>
  refine T.cf rfl ?_
  refine .B ?_
  exact r2
theorem jF (a b:Int):Spec Tryz.prog 121 false [.int .i64 a,.int .i64 b] [.val (.int .i64 (lY a b).1),.val (.bool (lY a b).2)]:=by
 refine Spec.body Tryz.func121 rfl rfl rfl fun w0 Z0=> ?_
 have hs:=gh [a,b] (by simp)
 rw[show [a,b].all smallI=(smallI a&&smallI b)by simp]at hs
 have hno: ∀h:(smallI a&&smallI b&&smallI (a+b))=false,lY a b=(0,false):=fun h=>by unfold lY;rw[h];rfl
 generalize hR:lY a b=R
 refine .B ?_
 refine .V ?_
 refine .B ?_
 refine .C hs ?_
 refine .B ?_
 cases h0:smallI a&&smallI b with
 |false=>
  have:R=(0,false):=by rw[←hR];exact hno (by rw[h0];rfl)
  subst this
  refine .B ?_
  refine T.ct rfl ?_
  refine .B ?_
  exact r2
 |true=>
  obtain⟨ha,hb⟩:=Bool.and_eq_true_iff.1 h0
  have ha:=aQ.1 ha
  have hb:=aQ.1 hb
  have hw: ¬(0<a∧4611686018427387904-a<b)→¬(a<0∧b< -4611686018427387904-a)→IntKind.i64.wrap (a+b)=a+b:=fun h1 h2=>ae (by omega) (by omega)
  have ht:=wG (a+b)
  have e1:0<a→IntKind.i64.wrap (4611686018427387904-a)=4611686018427387904-a:=fun h=>ae (by omega) (by omega)
  have e2:a<0→IntKind.i64.wrap (-4611686018427387904-a)= -4611686018427387904-a:=fun h=>ae (by omega) (by omega)
  have stop: ¬smallI (a+b)=true→R=(0,false):=fun h=>by rw[←hR];exact hno (by rw[h0,E4];simpa using h)
  have fin:R=(if smallI (a+b)then a+b else 0,smallI (a+b)):=by
   rw[←hR];unfold lY;rw[h0,E4]
   cases smallI (a+b)<;>rfl
  refine .B ?_
  refine J.g rfl rfl rfl (fun h1=> ?_) (fun h1=> ?_)
  ·have h1:0<a:=h1
   refine .B ?_
   rw[e1 h1]
   refine J.g rfl rfl rfl (fun h2=> ?_) (fun h2=> ?_)
   ·have h2:4611686018427387904-a<b:=h2
    have:=stop fun h=>by have:=aQ.1 h;omega
    subst this
    refine .B ?_
    refine T.ct rfl ?_
    refine .B ?_
    exact r2
   ·refine .B ?_
    refine J.g rfl rfl rfl (fun h3=> ?_) (fun h3=> ?_)
    ·have h3:a<0:=h3
     omega
    ·have h2: ¬4611686018427387904-a<b:=h2
     refine .B ?_
     refine T.cf rfl ?_
     refine .B ?_
     rw[hw (by omega) (by omega)]
     refine .C ht ?_
     refine .B ?_
     subst fin
     exact r2
  ·have h1: ¬0<a:=h1
   refine .B ?_
   refine J.g rfl rfl rfl (fun h3=> ?_) (fun h3=> ?_)
   ·refine .B ?_
    rw[e2 h3]
    refine T.cd rfl (fun h4=> ?_) (fun h4=> ?_)
    ·have h4:b< -4611686018427387904-a:=h4
     have:=stop fun h=>by have:=aQ.1 h;omega
     subst this
     refine .B ?_
     exact r2
    ·have h4: ¬b< -4611686018427387904-a:=h4
     refine .B ?_
     rw[hw (by omega) (by omega)]
     refine .C ht ?_
     refine .B ?_
     subst fin
     exact r2
   ·have h3: ¬a<0:=h3
    refine .B ?_
    refine T.cf rfl ?_
    refine .B ?_
    rw[hw (by omega) (by omega)]
    refine .C ht ?_
    refine .B ?_
    subst fin
    exact r2
def zI (a b:Int):Int×Bool:=if smallI a&&smallI b then lY a (-b)else(0,false)
theorem yX (a b:Int):Spec Tryz.prog 224 false [.int .i64 a,.int .i64 b] [.val (.int .i64 (zI a b).1),.val (.bool (zI a b).2)]:=by
 refine Spec.body Tryz.func224 rfl rfl rfl fun w0 Z0=> ?_
 have hs:=gh [a,b] (by simp)
 rw[show [a,b].all smallI=(smallI a&&smallI b)by simp]at hs
 have hadd:=jF a (-b)
 unfold zI
 refine .B ?_
 refine .V ?_
 refine .B ?_
 refine .C hs ?_
 refine .B ?_
 cases h0:smallI a&&smallI b with
 |false=>
  refine T.ct rfl ?_
  refine .B ?_
  exact r2
 |true=>
  obtain⟨ha,hb⟩:=Bool.and_eq_true_iff.1 h0
  have hb:=aQ.1 hb
  rw[if_pos rfl]
  refine T.cf rfl ?_
  refine .B ?_
  rw[show(0:Int)-b= -b by omega,show IntKind.i64.wrap (-b)= -b from ae (by omega) (by omega)]
  refine .C hadd ?_
  refine .B ?_
  exact r2
theorem oW (n:Int):Spec Tryz.prog 181 false [.int .i64 n] [.val (.int .i64 (if smallI n then aG n else 0)),.val (.bool (smallI n))]:=by
 refine Spec.body Tryz.func181 rfl rfl rfl fun w0 Z0=> ?_
 have h0:smallI 0=true:=rfl
 have key: ∀x:Int,aG n=x→(smallI x=smallI n)→(if smallI n then aG n else 0,smallI n)=lY 0 x:=fun x e e2=>by
  unfold lY
  rw[h0,E4,Fl,Bool.and_self,e2,e]
  cases smallI n<;>rfl
 have hsa:=jF 0 n
 have hss:=yX 0 n
 refine .B ?_
 refine T.cd rfl (fun h1=> ?_) (fun h1=> ?_)
 ·have h1:n<0:=h1
  have e:zI 0 n=(if smallI n then aG n else 0,smallI n):=by
   have hsn:smallI (-n)=smallI n:=by rw[Ed,aQ,aQ];omega
   unfold zI
   rw[h0,E4,←key (-n) (by unfold aG;omega) hsn]
   cases smallI n<;>rfl
  rw[e]at hss
  refine .B ?_
  refine .C hss ?_
  refine .B ?_
  exact r2
 ·have h1: ¬n<0:=h1
  rw[←key n (by unfold aG;omega) rfl]at hsa
  refine .B ?_
  refine .C hsa ?_
  refine .B ?_
  exact r2
theorem yO (l:List Int)(rhs:Int)(hl:l.length*8≤140737488355328)(hw: ∀c∈l,-9223372036854775808≤c∧c≤9223372036854775807):Spec Tryz.prog 131 false [aq l,.int .i64 rhs] [.val (.bool (eh l rhs))]:=by
 refine Spec.body Tryz.func131 rfl rfl rfl fun w0 Z0=> ?_
 have hs:=oW rhs
 have h0:(if smallI rhs then aG rhs else 0)=if smallI rhs then aG rhs else 0:=rfl
 have hin:smallI rhs=true→0≤aG rhs∧aG rhs≤4611686018427387904∧eD (4611686018427387904-aG rhs) l=eh l rhs:=fun h=>by
  have h:=aQ.1 h
  refine⟨bE rhs,by unfold aG;omega,?_⟩
  unfold eh
  rw[if_neg (by omega)];rfl
 have hno:smallI rhs=false→eh l rhs=true:=fun h=>by
  have h: ¬smallI rhs=true:=by rw[h];simp
  rw[aQ]at h
  unfold eh
  rw[if_pos (by omega)]
 generalize hR:eh l rhs=R at*
 have hin2:smallI rhs=true→(if smallI rhs then aG rhs else 0)=aG rhs:=fun h=>by rw[h];rfl
 generalize (if smallI rhs then aG rhs else 0)=s0 at*
 have hinv:(smallI rhs=true→0≤s0∧s0≤4611686018427387904∧eD (4611686018427387904-s0) l=R):=fun h=>by rw[hin2 h];exact hin h
 generalize smallI rhs=ok0 at*
 clear hin hin2
 refine .B ?_
 refine .C hs ?_
 refine .B ?_
 refine T.K (T.ind (fun s:Nat×Int×Bool=>⟨[(5,.val true (.int .i64 s.2.1)),(6,.val true (.bool s.2.2)),(16,.val false (aq l)),(17,.val true (.int .i64 (l.map cI).length)),(18,.val true (.int .i64 s.1))],[],0⟩)
  (fun s=>s.1≤l.length∧(s.2.2=true→0≤s.2.1∧s.2.1≤4611686018427387904∧eD (4611686018427387904-s.2.1) (l.drop s.1)=R)∧(s.2.2=false→R=true)) (fun s=>l.length-s.1) (0,s0,ok0) ⟨DU _,hinv,hno⟩ (fun _ _ h=>h) ?_)
 rintro⟨i,sum,ok⟩ ⟨hi,hv,hn⟩ ih
 refine .B ?_
 refine T.cd rfl (fun h1=> ?_) (fun h1=> ?_)
 ·have h6:i<l.length:=by simpa using h1
  have hcw:=hw _ (D5 h6)
  have hms:=oW l[i]
  have hdr:eD (4611686018427387904-sum) (l.drop i)=if 4398046511104<l[i]∨l[i]< -4398046511104 then true else if 4611686018427387904-sum-max l[i] (-l[i])*1048576<0 then true else eD (4611686018427387904-sum-max l[i] (-l[i])*1048576) (l.drop (i+1)):=by
   rw[DD h6,eD]
  have hrow:=aL (enc:=cI) h6
  generalize l[i]=c at*
  refine .B ?_
  refine .I (r:=cI c) hrow ?_
  refine .B ?_
  refine .C hms ?_
  refine .B ?_
  cases hsc:smallI c with
  |false=>
   have hsc: ¬smallI c=true:=by rw[hsc];simp
   rw[aQ]at hsc
   have:R=true:=by
    cases ok with
    |false=>exact hn rfl
    |true=>
     obtain⟨_,_,e⟩:=hv rfl
     rw[←e,hdr,if_pos (by omega)]
   subst this
   refine T.cf rfl ?_
   refine .B ?_
   refine T.ct rfl ?_
   refine .B ?_
   exact r1
  |true=>
   have hsc':=aQ.1 hsc
   have hac:0≤aG c∧aG c≤4611686018427387904:=⟨bE c,by unfold aG;omega⟩
   have hmx:max c (-c)=aG c:=rfl
   have hmul:=mH (aG c) 1048576 (by omega) (by omega) (by omega) (by omega)
   refine T.ct rfl ?_
   refine .B ?_
   rw[if_pos rfl]
   refine .C hmul ?_
   refine .B ?_
   cases hm:smallI (aG c*1048576)with
   |false=>
    have e0:mulI (aG c) 1048576=(0,false):=by unfold mulI;rw[hm,Fj];rfl
    have hm: ¬smallI (aG c*1048576)=true:=by rw[hm];simp
    rw[aQ]at hm
    have:R=true:=by
     cases ok with
     |false=>exact hn rfl
     |true=>
      obtain⟨_,_,e⟩:=hv rfl
      rw[←e,hdr,if_pos (by unfold aG at hm;omega)]
    subst this
    rw[e0]
    refine .B ?_
    refine T.ct rfl ?_
    refine .B ?_
    exact r1
   |true=>
    have hm:=aQ.1 hm
    have e0:mulI (aG c) 1048576=(aG c*1048576,true):=by
     unfold mulI
     rw[aQ.2 ⟨by omega,by omega⟩,show smallI (aG c*1048576)=true from aQ.2 hm];rfl
    rw[e0]
    cases ok with
    |false=>
     obtain rfl:=hn rfl
     refine .B ?_
     refine T.ct rfl ?_
     refine .B ?_
     exact r1
    |true=>
     obtain⟨v1,v2,e⟩:=hv rfl
     simp only at v1 v2 e
     have hadd:=jF sum (aG c*1048576)
     rw[hdr,if_neg (by unfold aG at hm;omega),hmx]at e
     refine .B ?_
     refine T.cf rfl ?_
     refine .B ?_
     refine .C hadd ?_
     refine .B ?_
     rw[aj (l:=l.length) h6 (by omega)]
     refine T.K (ih (i+1,lY sum (aG c*1048576)) ⟨by omega,fun h=> ?_,fun h=> ?_⟩ (by simp only;omega))
     ·unfold lY at h⊢
      split at h
      ·rename_i h5
       rw[if_pos h5]
       have h5:=aQ.1 (Bool.and_eq_true_iff.1 h5).2
       rw[if_neg (by omega)]at e
       exact⟨by simp only;omega,by simp only;omega,by rw[←e];congr 1;simp only;omega⟩
      ·cases h
     ·unfold lY at h
      split at h
      ·cases h
      ·rename_i h5
       have h5: ¬smallI (sum+aG c*1048576)=true:=fun h=>h5 (by rw[aQ.2 ⟨by omega,by omega⟩,aQ.2 hm,h];rfl)
       rw[aQ]at h5
       rw[←e,if_pos (by omega)]
 ·have h7:i=l.length:=by simp at h1;omega
  refine .B ?_
  cases ok with
  |false=>
   obtain rfl:=hn rfl
   exact r1
  |true=>
   obtain⟨_,_,e⟩:=hv rfl
   rw[h7,EA]at e
   exact⟨_,.v rfl rfl (by rw[←e];rfl) (fun _=>rfl) .nil⟩
theorem As (a:List Int)(v:Int)(hl:a.length*8≤140737488355328):Spec Tryz.prog 91 false [aq a,.int .i64 v] [.val (.int .i64 (atR a v))]:=by
 refine Spec.body Tryz.func91 rfl rfl rfl fun w0 Z0=> ?_
 unfold atR
 refine .B ?_
 refine J.g rfl rfl rfl (fun h=> ?_) (fun h=> ?_)
 ·refine .B ?_
  refine T.ct rfl ?_
  refine .B ?_
  exact⟨_,.v rfl rfl (by rw[if_pos h]) (fun _=>rfl) .nil⟩
 ·refine .B ?_
  refine T.cd rfl (fun h2=> ?_) (fun h2=> ?_)
  ·refine .B ?_
   refine⟨_,.v rfl rfl ?_ (fun _=>rfl) .nil⟩
   rw[if_neg h,D0,Do (by simp at h2;omega)];rfl
  ·have h2:v.toNat<a.length:=by simp at h2;omega
   refine .B ?_
   refine J.i rfl rfl rfl rfl rfl rfl rfl rfl rfl (r:=cI a[v.toNat]) (by omega) (aL h2) rfl ?_
   refine .B ?_
   refine⟨_,.v rfl rfl ?_ (fun _=>rfl) .nil⟩
   rw[if_neg h,D0,D1 h2];rfl
theorem r6 (a vars:List Int)(hv:vars.length≤1048576)(hl:a.length*8≤140737488355328):Spec Tryz.prog 81 false [aq a,aq vars] [.own 3 1 ((pickedR vars a).map cI)]:=by
 refine Spec.body Tryz.func81 rfl rfl rfl fun w0 Z0=> ?_
 refine .B ?_
 refine J.mk0 vars.length (by simp) (show 8*vars.length≤_ by omega) (by omega) rfl rfl rfl rfl rfl rfl rfl rfl rfl rfl rfl ?_
 refine .B ?_
 refine T.K (T.ind (fun i:Nat=>⟨[(0,.val false (aq a)),(5,.ref 0),(11,.val false (aq vars)),(12,.val true (.int .i64 (vars.map cI).length)),(13,.val true (.int .i64 i))],[(0,some (.sl 3 1 true ((pickedR (vars.take i) a).map cI)))],1⟩) (fun i=>i≤vars.length) (fun i=>vars.length-i) 0 (by simp) (fun _ _ h=>h) ?_)
 rintro i hi ih
 refine .B ?_
 refine T.cd rfl (fun h1=> ?_) (fun h1=> ?_)
 ·have h1:i<vars.length:=by simpa using h1
  refine .B ?_
  refine .I (r:=cI vars[i]) (aL h1) ?_
  refine .B ?_
  refine .C (As a vars[i] hl) ?_
  refine .B ?_
  refine .V ?_
  refine J.aI rfl rfl rfl rfl rfl rfl rfl rfl rfl rfl rfl rfl rfl rfl rfl rfl rfl rfl rfl (by simp[pickedR];omega) ?_
  refine .B ?_
  rw[aj (l:=vars.length) (by omega) (by omega)]
  have e:pickedR (vars.take i) a++[atR a vars[i]]=pickedR (vars.take (i+1)) a:=by
   rw[D7 h1]
   unfold pickedR
   rw[Di]
   rfl
  rw[e]
  exact T.K (ih (i+1) (by omega) (by omega))
 ·have h1:i=vars.length:=by simp at h1;omega
  subst h1
  refine .B ?_
  refine⟨_,.o rfl rfl (by rw[DY]) (fun _=> .inl rfl) (by simp) .nil⟩
def dotS (a b:List Int):Int:=((a.zip b).map fun p=>p.1*p.2).sum
theorem pF: ∀(a b:List Int),(∀k∈a,CoefOk k)→(∀x∈b,-1048576≤x∧x≤1048576)→-ak a≤dotS a b∧dotS a b≤ak a
 |k::a,x::b,ha,hb=>by
  have ih:=pF a b (fun k h=>ha k (.tail _ h)) (fun x h=>hb x (.tail _ h))
  have hx:=hb x (.head _)
  have hm:=dZ k x hx.1 hx.2
  have e1:ak (k::a)=aG k*1048576+ak a:=by simp[ak]
  have e2:dotS (k::a) (x::b)=k*x+dotS a b:=by simp[dotS]
  rw[e1,e2]
  generalize k*x=y at*
  omega
 | [],b,_,_=>by simp[dotS,ak]
 |k::a,[],ha,_=>by
  have:=aV (k::a)
  simp[dotS];omega
theorem AQ (a b:List Int)(k x:Int)(h:a.length=b.length):dotS (a++[k]) (b++[x])=dotS a b+k*x:=by
 unfold dotS
 rw[List.zip_append h]
 simp
theorem gX: ∀(a:List Int) (i:Nat),ak (a.take i)≤ak a
 | [],i=>by simp
 |k::a,0=>by rw[List.take_zero];exact aV _
 |k::a,i+1=>by
  have:=gX a i
  have e: ∀l,ak (k::l)=aG k*1048576+ak l:=fun l=>by simp[ak]
  rw[GB,e,e]
  omega
theorem yZ (a b:List Int)(hl:a.length=b.length)(hal:a.length*8≤140737488355328)(ha: ∀k∈a,CoefOk k)(hb: ∀x∈b,-1048576≤x∧x≤1048576)(hw:ak a≤4611686018427387904):Spec Tryz.prog 80 false [aq a,aq b] [.val (.int .i64 (dotS a b)),.val (.bool true)]:=by
 refine Spec.body Tryz.func80 rfl rfl rfl fun w0 Z0=> ?_
 refine .B ?_
 refine T.cf2 rfl (by simp[hl]) ?_
 refine .B ?_
 refine T.K (T.ind (fun i:Nat=>⟨[(1,.val false (aq b)),(6,.val true (.int .i64 (dotS (a.take i) (b.take i)))),(7,.val true (.bool true)),(17,.val false (aq a)),(18,.val true (.int .i64 (a.map cI).length)),(19,.val true (.int .i64 i))],[],0⟩) (fun i=>i≤a.length) (fun i=>a.length-i) 0 (by simp) (fun _ _ h=>h) ?_)
 rintro i hi ih
 refine .B ?_
 refine T.cd rfl (fun h1=> ?_) (fun h1=> ?_)
 ·have h1:i<a.length:=by simpa using h1
  have h2:i<b.length:=by omega
  refine .B ?_
  refine .I (r:=cI a[i]) (aL h1) ?_
  refine .B ?_
  refine .I (r:=cI b[i]) (aL h2) ?_
  refine .B ?_
  have hx:=hb b[i] (D5 h2)
  have hk:=ha a[i] (D5 h1)
  have hki:=fT hk
  have hk2:=hk.2
  have hmul:=mH a[i] b[i] (by omega) (by omega) (by omega) (by omega)
  rw[lw hk hx.1 hx.2]at hmul
  have e1:dotS (a.take (i+1)) (b.take (i+1))=dotS (a.take i) (b.take i)+a[i]*b[i]:=by
   rw[D7 h1,D7 h2,AQ _ _ _ _ (by rw[DS,DS];omega)]
  have hlo:=pF (a.take i) (b.take i) (fun k h=>ha k (EE h)) (fun x h=>hb x (EE h))
  have hlo2:=pF (a.take (i+1)) (b.take (i+1)) (fun k h=>ha k (EE h)) (fun x h=>hb x (EE h))
  have hw1:=gX a i
  have hw2:=gX a (i+1)
  have hm:=dZ a[i] b[i] hx.1 hx.2
  have hkk:=fT hk
  have hadd:=jF (dotS (a.take i) (b.take i)) (a[i]*b[i])
  have e2:lY (dotS (a.take i) (b.take i)) (a[i]*b[i])=(dotS (a.take (i+1)) (b.take (i+1)),true):=by
   unfold lY
   rw[←e1,if_pos]
   rw[DA,DA,aQ,aQ,aQ]
   generalize a[i]*b[i]=y at*
   omega
  rw[e2]at hadd
  have ih1:=ih (i+1) (by omega) (by omega)
  generalize dotS (a.take (i+1)) (b.take (i+1))=y1 at*
  refine .C hmul ?_
  refine .B ?_
  refine T.cf rfl ?_
  refine .B ?_
  refine .C hadd ?_
  refine .B ?_
  refine T.cf rfl ?_
  refine .B ?_
  rw[aj (l:=a.length) (by omega) (by omega)]
  exact T.K ih1
 ·have h1:i=a.length:=by simp at h1;omega
  subst h1
  refine .B ?_
  refine⟨_,.v rfl rfl (by rw[DY,hl,DY]) (fun _=>rfl) (.v rfl rfl rfl (fun _=>rfl) .nil)⟩
def valueG (g:Goal)(a:List Int):Int:=if g.kind=0 then 0 else bI g.vars g.coefs a
theorem jO: ∀(vars coefs a:List Int),dotS coefs (pickedR vars a)=bI vars coefs a
 |v::vars,k::coefs,a=>by
  have:=jO vars coefs a
  unfold dotS bI pickedR at*
  simp only[DJ,EV,E5,this]
 | [],coefs,a=>by simp[dotS,bI,pickedR]
 |_::_,[],a=>by simp[dotS,bI,pickedR]
structure GoalOk (g:Goal):Prop where
 len:g.vars.length=g.coefs.length
 few:g.vars.length≤1024
 ck: ∀k∈g.coefs,CoefOk k
 weight:ak g.coefs≤4611686018427387904
theorem t8 (g:Goal)(a:List Int)(hg:g.kind≠0→GoalOk g)(hal:a.length*8≤140737488355328)(ha: ∀x∈a,-1048576≤x∧x≤1048576):Spec Tryz.prog 45 false [.agg (cG g),aq a] [.val (.int .i64 (valueG g a))]:=by
 refine Spec.body Tryz.func45 rfl rfl rfl fun w0 Z0=> ?_
 unfold valueG
 refine .B ?_
 refine T.cd rfl (fun h1=> ?_) (fun h1=> ?_)
 ·rw[if_pos h1]
  refine .B ?_
  exact r1
 ·rw[if_neg h1]
  obtain⟨h2,h3,h4,h5⟩:=hg h1
  have hat: ∀v,-1048576≤atR a v∧atR a v≤1048576:=fun v=>by
   unfold atR
   split
   ·omega
   ·rw[D0]
    cases h:a[v.toNat]? with
    |none=>simp
    |some x=>exact ha x (D4 h)
  have hd:=yZ g.coefs (pickedR g.vars a) (by simp[pickedR,h2]) (by omega) h4 (fun x hx=>by obtain⟨v,_,rfl⟩:=List.mem_map.1 hx;exact hat v) h5
  rw[jO]at hd
  refine .B ?_
  refine .C (r6 a g.vars (by omega) hal).frz ?_
  refine .B ?_
  refine .C hd ?_
  refine .B ?_
  exact r1
def fw (g:Goal)(v:Int):Con:=⟨0,g.vars,if g.kind=2 then g.coefs.map (- ·)else g.coefs,0,if g.kind=2 then -v-1 else v-1,[],0⟩
theorem vm (g:Goal)(v:Int)(hg:GoalOk g)(hv: -4611686018427387904≤v∧v≤4611686018427387904):Spec Tryz.prog 44 false [.agg (cG g),.int .i64 v] [.val (.agg (cC (fw g v)))]:=by
 refine Spec.body Tryz.func44 rfl rfl rfl fun w0 Z0=> ?_
 obtain⟨h1,h2,h3,h4⟩:=hg
 have hc1:=(dS g.vars (by omega)).frz
 have hc2:=dS g.coefs (by omega)
 refine .B ?_
 refine .L ?_
 refine .M ?_
 refine T.rdm 10 rfl (by kernel_rfl) rfl ?_
 refine .M ?_
 refine .C hc1 ?_
 refine .M ?_
 refine .C hc2 ?_
 refine .M ?_
 refine J.br rfl rfl rfl rfl rfl ?_
 refine .M ?_
 refine .L ?_
 refine J.nil ?_
 refine J.name 1000 (s:=12) rfl rfl rfl fun u=> ?_
 refine J.sub (Rel.agraw (s:=15) [(2,1000)] rfl rfl) ?_
 refine .W ?_
 refine .B ?_
 refine T.cd rfl (fun hk=> ?_) (fun hk=> ?_)
 ·have e0:fw g v=⟨0,g.vars,g.coefs.map (- ·),0,-v-1,[],0⟩:=by unfold fw;rw[if_pos hk,if_pos hk]
  rw[e0]
  refine .B ?_
  refine J.sub (Rel.deraw (s:=20) (g:=1000) rfl rfl) ?_
  refine .B ?_
  refine T.K (T.ind (fun i:Nat=>⟨[(1,.val false (.int .i64 v)),(4,.optr 0 0 0 0),(5,.optr 1 0 0 0),(21,.val true (.int .i64 (g.coefs.map cI).length)),(22,.val true (.int .i64 i)),(1000,.eq u 2)],[(0,some (.box true [.int .i64 0,.sl [],.sl [],.int .i64 0,.int .i64 0,.sl [],.int .i64 0])),(1,some (.box true [.int .i64 0,aq g.vars,.raw u,.int .i64 0,.int .i64 (IntKind.i64.wrap (v-1)),.sl [],.int .i64 0])),(2,some (.sl 3 1 true ((((g.coefs.take i).map (- ·))++g.coefs.drop i).map cI)))],3⟩) (fun i=>i≤g.coefs.length) (fun i=>g.coefs.length-i) 0 (by simp) (fun _ _ h=>h) ?_)
  rintro i hi ih
  refine .B ?_
  refine T.cd rfl (fun h5=> ?_) (fun h5=> ?_)
  ·have h5:i<g.coefs.length:=by simpa using h5
   have hml:((g.coefs.take i).map (- ·)).length=i:=by simp;omega
   have hL:(((g.coefs.take i).map (- ·))++g.coefs.drop i).length=g.coefs.length:=by rw[DF,hml,G1];omega
   have hrow:((((g.coefs.take i).map (- ·))++g.coefs.drop i).map cI)[(i:Int).toNat]? =some (cI g.coefs[i]):=by
    rw[DI,D8,DT (by omega),hml,Fk,FB,Ec,D1 h5];rfl
   have hset:(((g.coefs.take i).map (- ·))++g.coefs.drop i).set i (- g.coefs[i])=((g.coefs.take (i+1)).map (- ·))++g.coefs.drop (i+1):=by
    rw[FV _ _ (by omega),hml,Fk,DD h5,Fr,D7 h5,Di,DV];rfl
   have hck:=fT (h3 _ (D5 h5))
   refine .M ?_
   refine T.rdm 10 rfl (by kernel_rfl) rfl ?_
   iterate 1 refine J.H rfl ?_
   refine J.lr 1000 (q:=2) (u:=u) rfl rfl rfl rfl rfl rfl rfl rfl rfl ?_
   iterate 2 refine J.H rfl ?_
   refine J.lr 1000 (q:=2) (u:=u) rfl rfl rfl rfl rfl rfl rfl rfl rfl ?_
   refine .M ?_
   refine J.io rfl rfl rfl rfl rfl rfl rfl rfl rfl (by omega) (by rw[D6,hL];omega) rfl ?_
   refine J.lo rfl rfl rfl rfl rfl rfl (r:=cI g.coefs[i]) hrow rfl ?_
   refine .M ?_
   refine J.io rfl rfl rfl rfl rfl rfl rfl rfl rfl (by omega) (by rw[D6,hL];omega) rfl ?_
   refine J.nil ?_
   have ew:IntKind.i64.wrap (0-g.coefs[i])= -g.coefs[i]:=by rw[ae (by omega) (by omega)];omega
   rw[ew]
   refine J.w1 rfl rfl rfl rfl rfl rfl rfl rfl rfl rfl rfl (z:= -g.coefs[i]) (fun _=>rfl) (by rw[hL];omega) ?_
   rw[DI,hset]
   refine .M ?_
   rw[aj h5 (by omega)]
   exact T.K (ih (i+1) (by omega) (by omega))
  ·have h5:i=g.coefs.length:=by simp at h5;omega
   subst h5
   rw[DY,EA,EJ]
   refine .B ?_
   refine .W ?_
   refine J.sub (Rel.cellF 1000 2 (q:=1) (n:=2) (fun b h=>h) rfl rfl rfl rfl rfl) ?_
   refine .B ?_
   refine .W ?_
   refine .B ?_
   exact⟨_,.cell rfl rfl (by rw[ae (n:=0-v) (by omega) (by omega),ae (n:=0-v-1) (by omega) (by omega),Int.zero_sub];rfl) (fun _=>rfl) .nil⟩
 ·have e0:fw g v=⟨0,g.vars,g.coefs,0,v-1,[],0⟩:=by unfold fw;rw[if_neg hk,if_neg hk]
  rw[e0]
  refine T.sub (Rel.cellF 1000 2 (q:=3) (n:=2) (fun b h=>h) rfl rfl rfl rfl rfl) ?_
  refine .B ?_
  refine .W ?_
  refine .B ?_
  exact⟨_,.cell rfl rfl (by rw[ae (by omega) (by omega)];rfl) (fun _=>rfl) .nil⟩
def wL (g:Goal)(_:Option (List Int))(a:List Int):Option (List Int)×Bool:=(some a,decide (g.kind=0))
def iE (cons:List Con)(g:Goal)(t:Option (List Int)):List Con:=match t with
 |none=>cons
 |some a=>if g.kind=0 then cons else cons++[fw g (valueG g a)]
def nA (m:Mod)(kb:Nat)(bp sp kp:Value):Fnd (Option (List Int)):=⟨42,[.raw bp,.raw sp,.ptr (cM m),.raw kp],bp,sp,kp,fun t _ _=> .box true [aq (t.getD [])],fun t _ _=> .box true [.bool t.isSome],fun _ _ _=> .box true [.raw (pV kb)],fun _=> .sl 3 1 true [],fun _=> .sl 3 1 true [],iE m.cons m.goal,wL m.goal,fun _=>0⟩
theorem jL {σ:Type}{d0:aa}{con:σ→List Con}{t:σ}{a:List Int}(gd:GoodD d0.length d0)(h:gu d0 con t a):a.length=d0.length∧(∀i,i<d0.length→a.getD i 0∈vals (d0.getD i []))∧∀x∈a,-1048576≤x∧x≤1048576:=by
 obtain⟨e,ge,hle,_,hs⟩:=h
 obtain⟨s1,s2⟩:=ju ge hs
 have hv: ∀i,i<d0.length→a.getD i 0∈vals (d0.getD i []):=fun i hi=>by
  have h1:=s2 (i:Int) (by omega) (by omega)
  have h2:=hle.2 (i:Int) (atR a i) (by omega) (by rw[h1];simp)
  unfold domAt atR at h2
  rwa[if_neg (by omega),DI]at h2
 refine⟨s1,hv,fun x hx=> ?_⟩
 obtain⟨i,hi,rfl⟩:=List.mem_iff_getElem.1 hx
 have h1:=hv i (by omega)
 have h1:a[i]∈vals (d0.getD i []):=by rw[D0 (l:=a),D1 hi]at h1;exact h1
 rw[D0,D1 (by omega)]at h1
 exact(gd.few.fine _ (D5 _)).val _ h1
set_option maxHeartbeats 1000000 in
theorem AU (kb sb:Nat)(m:Mod)(left:Int)(d0:aa)(gd:GoodD d0.length d0)(hdl:d0.length≤1024)(hcl:m.cons.length≤4095)(hg:m.goal.kind≠0→GoalOk m.goal)(bp sp kp:Value)(I:Option (List Int)→Prop):FndOK (nA m kb bp sp kp) kb sb m left d0 I:=by
 refine⟨fun t a g1 g2 nodes short over _ _ hf=> ?_⟩
 obtain⟨hal,_,hav⟩:=jL gd hf
 refine SpecX.body (fn:=Tryz.f42) [1000,1001,1002,1003,1004,1005] [1004,1005] rfl rfl rfl rfl fun w0 Z=> ?_
 refine T.sub (Rel.derawp (s:=1) (g:=1001) rfl rfl rfl) ?_
 refine T.sub (Rel.derawp (s:=2) (g:=1002) rfl rfl rfl) ?_
 refine T.sub (Rel.derawp (s:=4) (g:=1003) rfl rfl rfl) ?_
 refine .B ?_
 refine .W ?_
 refine .W ?_
 refine J.sub (Rel.canon (keep:=[0,3,4,1000,1001,1002,1003,1004,1005]) (os:=[1000,1001,1002,1003,1004,1005]) rfl) (?_:J _ _ _ _ ⟨[(0,.val true (aq a)),(3,.val false (.ptr (cM m))),(4,.optr 3 0 0 0),(1000,.eq (pV kb) 0),(1001,.eq bp 1),(1002,.eq sp 2),(1003,.eq kp 3),(1004,.eq g1 4),(1005,.eq g2 5)],[(0,some (kV m (pV sb) (iE m.cons m.goal t) left nodes short over (nA m kb bp sp kp).pv)),(1,some (.box true [aq a])),(2,some (.box true [.bool true])),(3,some (.box true [.raw (pV kb)])),(4,some (.sl 3 1 true [])),(5,some (.sl 3 1 true []))],6⟩ _)
 refine .B ?_
 refine T.cd rfl (fun hk=> ?_) (fun hk=> ?_)
 ·have e1:(nA m kb bp sp kp).fnd t a=(some a,true):=by show(some a,decide (m.goal.kind=0))=_;rw[decide_eq_true hk]
  rw[e1]
  refine .B ?_
  have e2: ∀u,iE m.cons m.goal u=m.cons:=fun u=>by cases u with|none=>rfl|some b=>exact if_pos hk
  refine⟨[0,1,2,3],[4,5],[g1,g2],⟨rfl,⟨_,rfl,?_,rfl⟩,rfl,⟨_,rfl,rfl,rfl⟩,rfl,⟨_,rfl,rfl,rfl⟩,rfl,⟨_,rfl,rfl,rfl⟩,trivial⟩,⟨rfl,⟨_,rfl,rfl,rfl⟩,rfl,⟨_,rfl,rfl,rfl⟩,trivial⟩,rfl,.val rfl rfl (fun _=>rfl) .nil⟩
  show Own.reg _ _=kV m (pV sb) (iE m.cons m.goal (some a)) left nodes short over _
  rw[e2,e2]
  rfl
 ·have e1:(nA m kb bp sp kp).fnd t a=(some a,false):=by show(some a,decide (m.goal.kind=0))=_;rw[decide_eq_false hk]
  rw[e1]
  have hgo:=hg hk
  have hgo2:=hgo
  obtain⟨g4,g5,g6,g7⟩:=hgo2
  have hat: ∀v,-1048576≤atR a v∧atR a v≤1048576:=fun v=>by
   unfold atR
   split
   ·omega
   ·rw[D0]
    cases h:a[v.toNat]? with
    |none=>simp
    |some x=>exact hav x (D4 h)
  have hvb: -4611686018427387904≤valueG m.goal a∧valueG m.goal a≤4611686018427387904:=by
   unfold valueG
   rw[if_neg hk,←jO]
   have:=pF m.goal.coefs (pickedR m.goal.vars a) g6 (fun x hx=>by obtain⟨v,_,rfl⟩:=List.mem_map.1 hx;exact hat v)
   omega
  have hbe:=vm m.goal (valueG m.goal a) hgo hvb
  have e2:iE m.cons m.goal (some a)=m.cons++[fw m.goal (valueG m.goal a)]:=if_neg hk
  have hva:=t8 m.goal a hg (by omega) hav
  have hcc:=nz m.cons (by omega)
  refine .M ?_
  refine T.rdw 15 rfl (by kernel_rfl) rfl ?_
  refine J.lp 1000 (b:=kb) (q:=0) rfl ?_
  refine .M ?_
  refine .C hcc ?_
  refine .M ?_
  refine .C hva ?_
  refine .M ?_
  refine .C hbe ?_
  refine .M ?_
  refine .V ?_
  refine J.ad rfl rfl rfl rfl rfl rfl rfl rfl rfl rfl rfl rfl rfl rfl rfl rfl rfl rfl (cW rfl) (DO (Dl _ (show(m.cons.map cC).length+1≤4096 by rw[D6];omega)) (show 4096*104≤140737488355328 by decide)) ?_
  refine .M ?_
  refine⟨by kernel_rfl,?_⟩
  refine J.sub (Rel.frzX (s:=24) (o:=7) rfl rfl ⟨.inr ⟨1000,_,_,rfl,rfl,by decide⟩,.inr ⟨1001,_,_,rfl,rfl,by decide⟩,.inr ⟨1002,_,_,rfl,rfl,by decide⟩,.inr ⟨1003,_,_,rfl,rfl,by decide⟩,.inr ⟨1004,_,_,rfl,rfl,by decide⟩,.inr ⟨1005,_,_,rfl,rfl,by decide⟩,trivial⟩) ?_
  refine .W ?_
  refine .M ?_
  have e3:m.cons.map cC++[cC (fw m.goal (valueG m.goal a))]=(iE m.cons m.goal (some a)).map cC:=by rw[e2,Di];rfl
  refine⟨[0,1,2,3],[4,5],[g1,g2],⟨rfl,⟨_,rfl,?_,rfl⟩,rfl,⟨_,rfl,rfl,rfl⟩,rfl,⟨_,rfl,rfl,rfl⟩,rfl,⟨_,rfl,rfl,rfl⟩,trivial⟩,⟨rfl,⟨_,rfl,rfl,rfl⟩,rfl,⟨_,rfl,rfl,rfl⟩,trivial⟩,rfl,.val rfl rfl (fun _=>rfl) .nil⟩
  show Own.reg _ _=kV m (pV sb) (iE m.cons m.goal (some a)) left nodes short over _
  unfold kV cF
  rw[←e3]
  rfl
theorem goal_kinds {d:aa}{g:Goal}(h:eB d g=0):(g.kind=0∧g.vars=[]∧g.coefs=[])∨((g.kind=1∨g.kind=2)∧conR d (em g)=0):=by
 unfold eB at h
 split at h
 ·rename_i h1;exact .inr ⟨h1,h⟩
 ·split at h
  ·cases h
  ·rename_i h1 h2
   exact .inl ⟨by omega,DC (by omega),DC (by omega)⟩
theorem pQ (k:Int):aG (-k)=aG k:=by unfold aG;omega
theorem mQ (l:List Int):ak (l.map (- ·))=ak l:=by
 unfold ak
 rw[EU]
 refine congrArg List.sum (Ds fun k _=> ?_)
 show aG (-k)*1048576=_
 rw[pQ]
structure GoalIn (d:aa)(g:Goal):Prop where
 few:g.vars.length≤1024
 kind:g.kind=0∨((g.kind=1∨g.kind=2)∧SumFine d g.vars g.coefs∧g.vars.Nodup∧0<g.vars.length∧ak g.coefs≤4611686018427387904)
theorem xM {d:aa}{g:Goal}(gd:GoodD d.length d)(hf:g.vars.length≤1024)(hc:g.coefs.length≤1024)(h:eB d g=0):GoalIn d g:=by
 refine⟨hf,?_⟩
 rcases goal_kinds h with ⟨h1,_⟩|⟨h1,h2⟩
 ·exact .inl h1
 ·have hcb:ConB (em g):=⟨by show(g.vars.length+1)*8≤_;omega,by show g.coefs.length*8≤_;omega,by simp[em],by simp[em]⟩
  have hs:=rS hcb h2 rfl gd.few.fine gd.few.small
  obtain⟨_,h3⟩:=pL (jQ h2)
  have:=bE (em g).rhs
  exact .inr ⟨h1,hs.fine,hs.nod,hs.pos,by have h3:ak g.coefs+aG (em g).rhs≤_:=h3;omega⟩
theorem GoalIn.ok {d:aa}{g:Goal}(h:GoalIn d g)(hk:g.kind≠0):GoalOk g:=by
 rcases h.kind with h1|⟨_,h1,_,_,h2⟩
 ·exact absurd h1 hk
 ·exact⟨h1.len,h.few,h1.ck,h2⟩
theorem xX {a:List Int}(h: ∀x∈a,-1048576≤x∧x≤1048576)(v:Int): -1048576≤atR a v∧atR a v≤1048576:=by
 unfold atR
 split
 ·omega
 ·rw[D0]
  cases e:a[v.toNat]? with
  |none=>simp
  |some x=>exact h x (D4 e)
theorem zy {g:Goal}{a:List Int}(hg:g.kind≠0→GoalOk g)(h: ∀x∈a,-1048576≤x∧x≤1048576): -4611686018427387904≤valueG g a∧valueG g a≤4611686018427387904:=by
 unfold valueG
 split
 ·omega
 ·rename_i hk
  obtain⟨_,_,g6,g7⟩:=hg hk
  rw[←jO]
  have:=pF g.coefs (pickedR g.vars a) g6 (fun x hx=>by obtain⟨v,_,rfl⟩:=List.mem_map.1 hx;exact xX h v)
  omega
theorem zr {d:aa}{g:Goal}(h:GoalIn d g)(hk:g.kind≠0){v:Int}(hv: -4611686018427387904≤v∧v≤4611686018427387904):RightC d (fw g v):=by
 rcases h.kind with h1|⟨h1,h2,h3,h4,h5⟩
 ·exact absurd h1 hk
 ·refine .inr ⟨rfl,?_⟩
  unfold fw
  by_cases hk2:g.kind=2
  ·rw[if_pos hk2,if_pos hk2]
   exact⟨⟨by show g.vars.length=(g.coefs.map (- ·)).length;rw[D6];exact h2.len,h2.vl,h2.vin,fun k hk=>by
    obtain⟨j,hj,rfl⟩:=List.mem_map.1 hk
    have:=h2.ck j hj
    exact⟨by have:=this.1;omega,by rw[pQ];exact this.2⟩,h2.dom,h2.dl⟩,h3,h4,by show(0:Int)≤0∧(0:Int)≤2;omega,by show ak (g.coefs.map (- ·))≤_;rw[mQ];omega,by show aG (-v-1)≤_;unfold aG;omega⟩
  ·rw[if_neg hk2,if_neg hk2]
   exact⟨h2,h3,h4,by show(0:Int)≤0∧(0:Int)≤2;omega,by show ak g.coefs≤_;omega,by show aG (v-1)≤_;unfold aG;omega⟩
def IB (t:Option (List Int)):Prop:= ∀a,t=some a→∀x∈a,-1048576≤x∧x≤1048576
theorem o4 {d0:aa}{cons:List Con}{g:Goal}(h:RunOk d0 cons)(hl:cons.length≤4095)(hg:GoalIn d0 g):SrchOK d0 (iE cons g) (wL g) IB:=by
 refine⟨fun t ht=> ?_,fun t a ht hf b e=> ?_⟩
 ·cases t with
  |none=>exact h
  |some a=>
   by_cases hk:g.kind=0
   ·have e:iE cons g (some a)=cons:=if_pos hk
    rw[e];exact h
   ·have e:iE cons g (some a)=cons++[fw g (valueG g a)]:=if_neg hk
    rw[e]
    refine⟨h.gd,fun c hc=> ?_,fun c hc=> ?_,h.prod,by rw[DF];show _+1≤_;omega⟩
    ·rcases List.mem_append.1 hc with hc|hc
     ·exact h.con c hc
     ·rw[List.mem_singleton.1 hc]
      have hlen:=(hg.ok hk).len
      have hfew:=hg.few
      refine⟨hfew,by show(g.vars.length+1)*8≤_;omega,?_,by simp[fw],by simp[fw]⟩
      show(fw g _).coefs.length*8≤_
      unfold fw
      split
      ·show(g.coefs.map (- ·)).length*8≤_;rw[D6];omega
      ·show g.coefs.length*8≤_;omega
    ·rcases List.mem_append.1 hc with hc|hc
     ·exact h.right c hc
     ·rw[List.mem_singleton.1 hc]
      exact zr hg hk (zy (fun hk=>hg.ok hk) (ht a rfl))
 ·cases e
  exact(jL h.gd hf).2.2
noncomputable def srchB (m:Mod)(left:Int):Srch (Option (List Int)):=lookG left (iE m.cons m.goal) (wL m.goal) (weight (domsM m)+1) (domsM m) ⟨0,false,false,none⟩
set_option maxHeartbeats 1000000 in
theorem oy (m:Mod)(hm:ModB m)(hr:RunOk (domsM m) m.cons)(hw:weight (domsM m)≤1000000)(hg:GoalIn (domsM m) m.goal)(left:Int)(hleft:left≤1099511627776)(hck:Spec Tryz.prog 64 false [.agg (cM m)] [.val (.int .i64 0)]):
  Spec Tryz.prog 18 false [.agg (cM m),.int .i64 left] [.val (aq ((srchB m left).st.getD [])),.val (.bool (srchB m left).st.isSome),.val (.bool (!(srchB m left).short)),.val (.int .i64 (srchB m left).nodes),.val (.int .i64 0)]:=by
 refine Spec.body Tryz.func18 rfl rfl rfl fun w0 Z0=> ?_
 have hdl:(domsM m).length≤1024:=by have:=hm.vl;simpa[domsM]using this
 have hcl:=hm.cl
 refine .B ?_
 refine J.cx [] [] [1000,1001,1002,1006,1007] (m5 m hm hr.gd.few left hck) trivial (fun ns hns=> ?_)
 obtain⟨p,sp,lv,cv,mv,rfl⟩:=CW hns rfl
 refine .M ?_
 refine .L ?_
 refine .W ?_
 refine .M ?_
 refine T.cf rfl ?_
 refine T.canon (keep:=[2,9,1000,1001,1002,1006,1007]) (os:=[1000,1001,1002,1006,1007,9,2]) rfl ?_
 refine T.knownp 1000 0 rfl rfl fun kb e1=> ?_
 refine T.knownp 1001 1 rfl rfl fun sb e2=> ?_
 obtain rfl:p=pV kb:=e1
 obtain rfl:sp=pV sb:=e2
 refine .M ?_
 refine .L ?_
 refine .M ?_
 refine .L ?_
 refine .W ?_
 refine .M ?_
 refine J.name 1003 (s:=11) rfl rfl rfl fun bp=> ?_
 refine J.name 1004 (s:=12) rfl rfl rfl fun op=> ?_
 refine J.name 1005 (s:=9) rfl rfl rfl fun kp=> ?_
 refine J.sub (Rel.raw (s:=11) (g:=1003) rfl (.inr rfl) rfl rfl rfl) ?_
 refine J.sub (Rel.raw (s:=12) (g:=1004) rfl (.inr rfl) rfl rfl rfl) ?_
 refine J.sub (Rel.raw (s:=9) (g:=1005) rfl (.inr rfl) rfl rfl rfl) ?_
 refine J.sub (Rel.unbx (s:=2) (fun b h=>h) rfl rfl) ?_
 refine J.sub (Rel.fp (s:=2) rfl) ?_
 refine J.sub (Rel.derawp (s:=22) (g:=1000) rfl rfl rfl) ?_
 refine .M ?_
 refine .W ?_
 refine .M ?_
 refine J.sub (Rel.derawp (s:=9) (g:=1005) rfl rfl rfl) ?_
 refine .M ?_
 refine J.sub (Rel.ownN 1008 3 1) ?_
 refine J.sub (Rel.ownN 1009 3 1) ?_
 refine J.sub (Rel.canon (keep:=[9,11,12,26,1000,1001,1002,1003,1004,1005,1006,1007,1008,1009]) (os:=[1000,1001,1002,1003,1004,1005,1006,1007,1008,1009]) rfl) (?_:J _ _ _ _ (nE (nA m kb bp op kp) kb sb m left [(9,.optr 5 0 0 0),(11,.val true (.raw bp)),(12,.val true (.raw op)),(26,.val true (.raw (pV kb)))] lv cv mv (.slice none 0 0) (.slice none 0 0) (domsM m) [] [] ⟨0,false,false,none⟩) _)
 have hlk: ∃e ch',vq (nA m kb bp op kp) kb sb m left 37 [(true,.raw (pV kb))] lv cv mv (.slice none 0 0) (.slice none 0 0) (domsM m) e [] ch' [] ⟨0,false,false,none⟩ (srchB m left):=⟨_,_,qP (nA m kb bp op kp) kb sb m left (domsM m) IB (o4 hr (by omega) hg) (AU kb sb m left (domsM m) hr.gd hdl (by omega) (fun hk=>hg.ok hk) bp op kp IB) (fun t a=>DU _) hleft hdl (weight (domsM m)+1) (domsM m) ⟨0,false,false,none⟩ lv cv mv (.slice none 0 0) (.slice none 0 0) [] [] (Dz _) hr.gd leD.rfl' (fun a e=>by cases e) (DU _) rfl (by simp;omega) (by simp;omega)⟩
 obtain⟨e,ch',hlk⟩:=hlk
 generalize srchB m left=r at*
 refine J.cx [0,1,2,3,4,5,6,7,8,9] [1000,1001,1002,1003,1004,1005,1006,1007,1008,1009] [1006,1007,1008,1009] hlk ⟨rfl,⟨_,rfl,rfl,rfl⟩,rfl,⟨_,rfl,rfl,rfl⟩,rfl,⟨_,rfl,rfl,rfl⟩,rfl,⟨_,rfl,rfl,rfl⟩,rfl,⟨_,rfl,rfl,rfl⟩,rfl,⟨_,rfl,rfl,rfl⟩,rfl,⟨_,rfl,rfl,rfl⟩,rfl,⟨_,rfl,rfl,rfl⟩,rfl,⟨_,rfl,rfl,rfl⟩,rfl,⟨_,rfl,rfl,rfl⟩,trivial⟩ (fun ns hns=> ?_)
 obtain⟨a1,a2,a3,a4,rfl⟩:=Az hns rfl
 refine .M ?_
 refine T.K (?_:T _ _ (nE (nA m kb bp op kp) kb sb m left [(9,.optr 5 0 0 0),(11,.val true (.raw bp)),(12,.val true (.raw op))] lv a1 a2 a3 a4 e ch' [] r) _)
 refine T.sub (Rel.derawp (s:=11) (g:=1003) rfl rfl rfl) ?_
 refine T.sub (Rel.derawp (s:=12) (g:=1004) rfl rfl rfl) ?_
 refine .A ?_
 conv=>whnf
 iterate 2 refine J.H rfl ?_
 refine J.lp 1000 (b:=kb) (q:=0) rfl ?_
 iterate 4 refine J.H rfl ?_
 refine J.lp 1000 (b:=kb) (q:=0) rfl ?_
 iterate 8 refine J.H rfl ?_
 refine J.nil ?_
 refine .B ?_
 exact⟨_,.v rfl rfl rfl (fun _=>rfl) (.v rfl rfl rfl (fun _=>rfl) (.v rfl rfl rfl (fun _=>rfl) (.v rfl rfl rfl (fun _=>rfl) (.v rfl rfl rfl (fun _=>rfl) .nil))))⟩
def kS:Con:=⟨0,[0,1],[1,1],1,1,[],0⟩
def kT:Con:=⟨0,[0,1],[-2,-1],0,-2,[],0⟩
def eA:Mod:=⟨[(⟨#[120]⟩,[(0,1)]),(⟨#[121]⟩,[(0,1)])],[kS],⟨2,[0,1],[2,1]⟩⟩
theorem wF:ConB kS:=by simp[ConB,kS]
theorem CZ:ConB kT:=by simp[ConB,kT]
theorem gp0:GoodD 2 (dmQ 0 1 0 1):=jl (by decide) (by decide) (by decide) (by decide) (by decide) (by decide)
theorem gp1:GoodD 2 (dmQ 0 0 0 1):=jl (by decide) (by decide) (by decide) (by decide) (by decide) (by decide)
theorem gp2:GoodD 2 (dmQ 0 0 1 1):=jl (by decide) (by decide) (by decide) (by decide) (by decide) (by decide)
theorem gp3:GoodD 2 (dmQ 1 1 0 1):=jl (by decide) (by decide) (by decide) (by decide) (by decide) (by decide)
theorem gp4:GoodD 2 (dmQ 1 1 0 0):=jl (by decide) (by decide) (by decide) (by decide) (by decide) (by decide)
theorem CN:bG kS (dmQ 0 1 0 1)=some (dmQ 0 1 0 1):=jA (N:=5) gp0 wF rfl (by decide +kernel) (by unfold LinAns;rw[if_neg (by decide),if_neg (by decide)];decide +kernel)
theorem CM:bG kS (dmQ 0 0 0 1)=some (dmQ 0 0 1 1):=jA (N:=5) gp1 wF rfl (by decide +kernel) (by unfold LinAns;rw[if_neg (by decide),if_neg (by decide)];decide +kernel)
theorem CL:bG kS (dmQ 0 0 1 1)=some (dmQ 0 0 1 1):=jA (N:=5) gp2 wF rfl (by decide +kernel) (by unfold LinAns;rw[if_neg (by decide),if_neg (by decide)];decide +kernel)
theorem BS:bG kS (dmQ 1 1 0 1)=some (dmQ 1 1 0 0):=jA (N:=5) gp3 wF rfl (by decide +kernel) (by unfold LinAns;rw[if_neg (by decide),if_neg (by decide)];decide +kernel)
theorem BR:bG kS (dmQ 1 1 0 0)=some (dmQ 1 1 0 0):=jA (N:=5) gp4 wF rfl (by decide +kernel) (by unfold LinAns;rw[if_neg (by decide),if_neg (by decide)];decide +kernel)
theorem CK:bG kT (dmQ 1 1 0 0)=some (dmQ 1 1 0 0):=jA (N:=5) gp4 CZ rfl (by decide +kernel) (by unfold LinAns;rw[if_neg (by decide),if_neg (by decide)];decide +kernel)
theorem zR:RunOk (dmQ 0 1 0 1) [kS]:=by
 refine⟨gp0,fun c hc=> ?_,fun c hc=> .inl ?_,by decide +kernel,by decide⟩
 ·simp at hc;subst hc;exact⟨by decide,wF⟩
 ·simp at hc;subst hc;decide +kernel
theorem Dd:RunOk (dmQ 0 1 0 1) [kS,kT]:=by
 refine⟨gp0,fun c hc=> ?_,fun c hc=> .inl ?_,by decide +kernel,by decide⟩
 ·simp at hc
  rcases hc with rfl|rfl
  ·exact⟨by decide,wF⟩
  ·exact⟨by decide,CZ⟩
 ·simp at hc
  rcases hc with rfl|rfl<;>decide +kernel
theorem leP {a b c d:Int}(h:0≤a∧b≤1∧0≤c∧d≤1):leD (dmQ a b c d) (dmQ 0 1 0 1):=by
 refine⟨rfl,fun u x h0 hx=> ?_⟩
 unfold domAt at hx⊢
 match hn:u.toNat with
 |0=>rw[hn]at hx;simp[dmQ,vals,cB]at hx⊢;omega
 |1=>rw[hn]at hx;simp[dmQ,vals,cB]at hx⊢;omega
 |n+2=>rw[hn]at hx;simp[dmQ,vals]at hx
theorem C9:fV [kS] (dmQ 0 1 0 1)=some (dmQ 0 1 0 1):=by
 refine(fz (R:=some (dmQ 0 1 0 1)) ⟨?_,fun c hc=> ?_⟩).symm
 ·exact Come.refl (aT 2) gp0
 simp at hc;subst hc;exact CN
theorem AY:fV [kS] (dmQ 0 0 0 1)=some (dmQ 0 0 1 1):=by
 have hs:=(zR.less (e:=dmQ 0 0 0 1) gp1 (leP (by decide))).step (c:=kS) (by simp)
 refine(fz (R:=some (dmQ 0 0 1 1)) ⟨?_,fun c hc=> ?_⟩).symm
 ·exact(Come.refl (aT 2) gp1).step (aT 2) (c:=kS) (by simp) hs.takes CM
 simp at hc;subst hc;exact CL
theorem C8:fV [kS] (dmQ 1 1 0 1)=some (dmQ 1 1 0 0):=by
 have hs:=(zR.less (e:=dmQ 1 1 0 1) gp3 (leP (by decide))).step (c:=kS) (by simp)
 refine(fz (R:=some (dmQ 1 1 0 0)) ⟨?_,fun c hc=> ?_⟩).symm
 ·exact(Come.refl (aT 2) gp3).step (aT 2) (c:=kS) (by simp) hs.takes BS
 simp at hc;subst hc;exact BR
theorem C7:fV [kS,kT] (dmQ 1 1 0 1)=some (dmQ 1 1 0 0):=by
 have hs:=(Dd.less (e:=dmQ 1 1 0 1) gp3 (leP (by decide))).step (c:=kS) (by simp)
 refine(fz (R:=some (dmQ 1 1 0 0)) ⟨?_,fun c hc=> ?_⟩).symm
 ·exact(Come.refl (aT 2) gp3).step (aT 2) (c:=kS) (by simp) hs.takes BS
 simp at hc
 rcases hc with rfl|rfl
 ·exact BR
 ·exact CK
theorem ur {σ:Type}{left:Int}{con:σ→List Con}{fnd:σ→List Int→σ×Bool}{n:Nat}{d l:aa}{s:Srch σ}{a:List Int}(h1:(s.nodes:Int)<left)(h2:fV (con s.st) d=some l)(h3:cz l=some a):lookG left con fnd (n+1) d s= { s with nodes:=s.nodes+1,st:=(fnd s.st a).1,over:=(fnd s.st a).2 }:=by
 rw[lookG,if_neg (by omega),h2]
 simp only[h3]
theorem wy {σ:Type}{left:Int}{con:σ→List Con}{fnd:σ→List Int→σ×Bool}{n:Nat}{s:Srch σ}(h1:(s.nodes:Int)<left)(h2:con s.st=[kS]):lookG left con fnd (n+1) (dmQ 0 1 0 1) s=[0,1].foldl (fun s x=>if s.over then s else lookG left con fnd n (dmQ x x 0 1) s) { s with nodes:=s.nodes+1 }:=by
 rw[lookG,if_neg (by omega),h2,C9]
 have h3:cz (dmQ 0 1 0 1)=none:=by decide +kernel
 simp only[h3]
 have h4:openV (dmQ 0 1 0 1)=0:=by decide +kernel
 rw[h4]
 rfl
theorem A5:srchA eA 9=⟨3,false,false,[[0,1],[1,0]]⟩:=by
 show lookG 9 (fun _=>[kS]) kI 5 (dmQ 0 1 0 1) ⟨0,false,false,[]⟩=_
 rw[wy (by decide) rfl,DH,if_neg (by decide),ur (n:=3) (by decide) AY (a:=[0,1]) (by decide +kernel),DH,if_neg (by decide),ur (n:=3) (by decide) C8 (a:=[1,0]) (by decide +kernel)]
 rfl
theorem A6:srchA eA 2=⟨2,true,true,[[0,1]]⟩:=by
 show lookG 2 (fun _=>[kS]) kI 5 (dmQ 0 1 0 1) ⟨0,false,false,[]⟩=_
 rw[wy (by decide) rfl,DH,if_neg (by decide),ur (n:=3) (by decide) AY (a:=[0,1]) (by decide +kernel),DH,if_neg (by decide),lookG,if_pos (by decide)]
 rfl
theorem A4:srchB eA 9=⟨3,false,false,some [1,0]⟩:=by
 show lookG 9 (iE [kS] ⟨2,[0,1],[2,1]⟩) (wL ⟨2,[0,1],[2,1]⟩) 5 (dmQ 0 1 0 1) ⟨0,false,false,none⟩=_
 rw[wy (by decide) rfl,DH,if_neg (by decide),ur (n:=3) (by decide) AY (a:=[0,1]) (by decide +kernel),DH,if_neg (by decide),ur (n:=3) (by decide) (show fV (iE [kS] ⟨2,[0,1],[2,1]⟩ (some [0,1])) (dmQ 1 1 0 1)=_ from C7) (a:=[1,0]) (by decide +kernel)]
 rfl
theorem Bf:checkR eA=0:=by decide +kernel
theorem rZ:ModB eA:=⟨by decide,fun v hv=>by simp[eA]at hv;rcases hv with rfl|rfl<;>exact⟨by decide,by decide⟩,by decide,fun c hc=>by simp[eA]at hc;subst hc;exact⟨by decide,by decide,by decide,by simp[kS]⟩,⟨by decide,by decide⟩⟩
def qG:Mod:=⟨[],[],⟨9,[],[]⟩⟩
theorem Bm:checkR qG=44:=by decide +kernel
theorem Ce:ModB qG:=⟨by decide,fun v hv=>(by cases hv),by decide,fun c hc=>(by cases hc),⟨by decide,by decide⟩⟩
def iW (g:Goal):Goal:=⟨3-g.kind,g.vars,g.coefs.map (- ·)⟩
def xi (m:Mod):Mod:=⟨m.vars,m.cons,iW m.goal⟩
theorem qy: ∀(vars coefs a:List Int),bI vars (coefs.map (- ·)) a= -bI vars coefs a
 |v::vars,k::coefs,a=>by
  have:=qy vars coefs a
  unfold bI at*
  simp only[DJ,EV,E5,this]
  rw[Fu];omega
 | [],coefs,a=>by simp[bI]
 |_::_,[],a=>by simp[bI]
theorem xV: ∀(l:List Int) (room:Int),eD room (l.map (- ·))=eD room l
 | [],room=>rfl
 |k::l,room=>by
  rw[DJ,eD,eD,xV l]
  have e:max (-k) (- -k)=max k (-k):=by omega
  rw[e]
  by_cases h:4398046511104<k∨k< -4398046511104
  ·rw[if_pos h,if_pos (by omega)]
  ·rw[if_neg h,if_neg (by omega)]
theorem zB (d:aa)(g:Goal):conR d (em (iW g))=conR d (em g):=by
 have h1:sumR (em (iW g))=sumR (em g):=by
  unfold sumR em iW
  simp only[D6]
  congr 2
  rw[decide_eq_decide,F1]
  constructor
  ·rintro⟨k,hk,h⟩
   have e:k=0:=by omega
   rw[e]at hk;exact hk
  ·intro h
   exact⟨0,h,by omega⟩
 have h2:eh (em (iW g)).coefs (em (iW g)).rhs=eh (em g).coefs (em g).rhs:=by
  unfold eh
  show(if _ then true else eD _ (g.coefs.map (- ·)))=_
  rw[xV];rfl
 have h3:rightR d (em (iW g))=rightR d (em g):=by
  unfold rightR
  rw[if_pos (show(em (iW g)).kind=0 from rfl),if_pos (show(em g).kind=0 from rfl),h1];rfl
 unfold conR
 rw[h2,h3];rfl
theorem yb {d:aa}{g:Goal}(hk:g.kind=1∨g.kind=2):eB d (iW g)=eB d g:=by
 unfold eB
 rw[if_pos (show(iW g).kind=1∨(iW g).kind=2 by show 3-g.kind=1∨3-g.kind=2;omega),if_pos hk,zB]
theorem vA {m:Mod}(hk:m.goal.kind=1∨m.goal.kind=2):checkR (xi m)=checkR m:=by
 unfold checkR
 rw[show eB (domsM (xi m)) (xi m).goal=eB (domsM m) m.goal from yb hk]
 rfl
theorem qM (l:List Int)(hl:l.length≤1048576):Spec Tryz.prog 175 false [aq l] [.val (.bool (decide l.Nodup))]:=by
 refine Spec.body Tryz.func175 rfl rfl rfl fun w0 Z0=> ?_
 have hs:(cK l).length=l.length:=FW ..
 have e:decide l.Nodup=decide ((((aW l).map cI).length:Int)=((l.map cI).length:Int)):=decide_eq_decide.2 (by rw[D6,D6,←qm];omega)
 rw[e]
 refine .B ?_
 refine .C (oe l) ?_
 refine .B ?_
 refine .C (k6 l (by omega)) ?_
 refine .B ?_
 refine J.cp (cs2:=[]) (qs:=[]) [] rfl rfl rfl rfl rfl rfl rfl rfl (iF _ (by omega)) trivial rfl rfl rfl rfl rfl rfl ?_
 rw[iG]
 refine .B ?_
 exact r1
theorem Bo {d:List (Int×Int)}(h: ∀r∈d,r.1≤r.2):d3 d [(0,1)]=[]↔truthR d=true:=by
 have h1: ∀(out:List (Int×Int)) (r:Int×Int),r.1≤r.2→(cA [(0,1)] out r=out∧(!(decide (r.1<0)||decide (1<r.2)))=true)∨(∃p,cA [(0,1)] out r=out++p∧p≠[]∧(!(decide (r.1<0)||decide (1<r.2)))=false):=by
  intro out r hr
  have hw:wr ((0,1):Int×Int).2=1:=rfl
  have hw2:wr (((0,1):Int×Int).2+1)=2:=by rfl
  unfold cA
  rw[bM,bM,bM]
  by_cases h2:((0,1):Int×Int).2<r.1∨r.2<((0,1):Int×Int).1
  ·rw[if_pos h2]
   rw[if_pos hr]
   refine .inr ⟨_,rfl,by simp,?_⟩
   have h2:1<r.1∨r.2<0:=h2
   have:r.1<0∨1<r.2:=by omega
   rcases this with h|h<;>simp[h]
  ·rw[if_neg h2,hw2]
   have h2: ¬(1<r.1∨r.2<0):=h2
   by_cases h3:r.1<((0,1):Int×Int).1
   ·rw[if_pos h3]
    have h3:r.1<0:=h3
    refine .inr ?_
    split
    ·exact⟨_,DV _ _ _,by simp,by simp[h3]⟩
    ·exact⟨_,rfl,by simp,by simp[h3]⟩
   ·rw[if_neg h3]
    have h3: ¬r.1<0:=h3
    split
    ·rename_i h4
     have h4:2≤r.2:=h4
     exact .inr ⟨_,rfl,by simp,by simp[show 1<r.2 by omega]⟩
    ·rename_i h4
     have h4: ¬2≤r.2:=h4
     exact .inl ⟨rfl,by simp[h3,show¬1<r.2 by omega]⟩
 have key: ∀(l:List (Int×Int)) (out:List (Int×Int)),(∀r∈l,r.1≤r.2)→(∃p,l.foldl (cA [(0,1)]) out=out++p∧(p=[]↔truthR l=true)):=by
  intro l
  induction l with
  |nil=>intro out _;exact⟨[],by simp,by simp[truthR]⟩
  |cons r l ih=>
   intro out hl
   have ht:truthR (r::l)=((!(decide (r.1<0)||decide (1<r.2)))&&truthR l):=rfl
   rw[DH,ht]
   rcases h1 out r (hl r (.head _))with ⟨e,e2⟩|⟨p,e,hp,e2⟩
   ·rw[e,e2,E4];exact ih out fun r hr=>hl r (.tail _ hr)
   ·obtain⟨q,h3,h4⟩:=ih (out++p) fun r hr=>hl r (.tail _ hr)
    rw[e,e2,h3,DV]
    exact⟨p++q,rfl,by simp[hp]⟩
 obtain⟨p,h2,h3⟩:=key d [] h
 unfold d3
 rw[h2,EB];exact h3
theorem nh (d:List (Int×Int))(hd:d.length≤1048576)(hr: ∀r∈d,r.1≤r.2):Spec Tryz.prog 172 false [dm d] [.val (.bool (truthR d))]:=by
 refine Spec.body Tryz.func172 rfl rfl rfl fun w0 Z0=> ?_
 have hm:=kE d [(0,1)] (by simp) (by show(d.length+1)*2*16≤_;omega)
 have e:truthR d=decide ((((d3 d [(0,1)]).map cR).length:Int)=0):=by
  rw[Ed,decide_eq_true_eq,←Bo hr,D6]
  exact⟨fun h=>by rw[h];rfl,fun h=>DC (by omega)⟩
 rw[e]
 refine .B ?_
 refine .V ?_
 refine .B ?_
 refine .C hm ?_
 refine .B ?_
 exact r1
theorem yo (v:Int):Spec Tryz.prog 222 false [.int .i64 v] [.val (.bool (!aH v))]:=by
 refine Spec.body Tryz.func222 rfl rfl rfl fun w0 Z0=> ?_
 refine .B ?_
 refine J.g rfl rfl rfl (fun h=> ?_) (fun h=> ?_)
 ·have e:(!aH v)=true:=by have h:v< -1048576:=h;simp[aH];omega
  rw[e]
  refine .B ?_
  exact r1
 ·have e:(!aH v)=decide (v > 1048576):=by have h: ¬v< -1048576:=h;simp only[aH];rw[Ed];simp;omega
  rw[e]
  refine .B ?_
  exact r1
theorem tE (v:Int):Spec Tryz.prog 179 false [.int .i64 v] [.val (.bool (!(decide (v=1)||decide (v= -1))))]:=by
 refine Spec.body Tryz.func179 rfl rfl rfl fun w0 Z0=> ?_
 refine .B ?_
 refine J.g rfl rfl rfl (fun h=> ?_) (fun h=> ?_)
 ·have h:v≠1:=h
  rw[decide_eq_false h,GU]
  refine .B ?_
  exact⟨_,.v rfl rfl (by rw[←decide_not]) (fun _=>rfl) .nil⟩
 ·have h:v=1:=by have h: ¬(v≠1):=h;omega
  rw[decide_eq_true h,Bool.true_or]
  refine .B ?_
  exact r1
theorem tu (l:List Int)(v:Int)(hl:l.length*8≤140737488355328):Spec Tryz.prog 223 false [aq l,.int .i64 v] [.val (.int .i64 (indexP (fun x=>decide (v=x)) l))]:=by
 refine Spec.body Tryz.func223 rfl rfl rfl fun w0 Z0=> ?_
 refine .B ?_
 refine T.K (T.listI l (fun pre=> ∀x∈pre,¬v=x) (fun n pre post=>⟨[(0,.val false (aq l)),(1,.val false (.int .i64 v)),(7,.val true (.int .i64 (l.map cI).length)),(8,.val true (.int .i64 n))],[],0⟩) (fun _ _ h=>h) (fun v hv=>by cases hv) ?_ ?_)
 ·rintro n pre x post h hn hi ih
  have hlt:=bY h hn
  refine .B ?_
  refine T.ct2 rfl (bX h hn) ?_
  refine .B ?_
  refine .I (r:=cI x) (aS h hn) ?_
  refine .B ?_
  refine T.cd rfl (fun h2=> ?_) (fun h2=> ?_)
  ·have h2:v=x:=h2
   refine .B ?_
   have e:indexP (fun x=>decide (v=x)) l=(n:Int):=by
    unfold indexP
    rw[h,Fg,List.findIdx?_eq_none_iff.2 (by simpa using hi),Ex,if_pos (by simpa using h2)]
    simp[hn]
   rw[e]
   exact r1
  ·have h2: ¬v=x:=h2
   refine .B ?_
   rw[aj hlt (by omega)]
   exact T.K (ih (by
    intro y hy
    rcases List.mem_append.1 hy with hy|hy
    ·exact hi y hy
    ·rw[List.mem_singleton.1 hy];exact h2))
 ·intro hi
  have e:indexP (fun x=>decide (v=x)) l= -1:=by
   unfold indexP
   rw[List.findIdx?_eq_none_iff.2 (by simpa using hi)]
  rw[e]
  refine .B ?_
  refine T.cf2 rfl bl ?_
  refine .B ?_
  exact r1
theorem je (l:List Int)(v:Int)(hl:l.length*8≤140737488355328):Spec Tryz.prog 178 false [aq l,.int .i64 v] [.val (.bool (decide (v∈l)))]:=by
 refine Spec.body Tryz.func178 rfl rfl rfl fun w0 Z0=> ?_
 refine .B ?_
 refine .C (tu l v hl) ?_
 refine .B ?_
 refine⟨_,.v rfl rfl ?_ (fun _=>rfl) .nil⟩
 simp only[PV.bool.injEq]
 unfold indexP
 cases h:l.findIdx? fun x=>decide (v=x)with
 |none=>
  have h1:=List.findIdx?_eq_none_iff.1 h
  have: ¬v∈l:=fun hv=>by simpa using h1 v hv
  rw[decide_eq_false this];rfl
 |some i=>
  obtain⟨h1,h2,_⟩:=List.findIdx?_eq_some_iff_getElem.1 h
  have:v∈l:=by rw[of_decide_eq_true h2];exact D5 h1
  rw[decide_eq_true this]
  simp
theorem qH (c:Con)(hv:c.vars.length≤1048576)(hk:c.coefs.length≤1048576):Spec Tryz.prog 180 false [.agg (cC c)] [.val (.bool (sumR c))]:=by
 refine Spec.body Tryz.func180 rfl rfl rfl fun w0 Z0=> ?_
 have hall:=qM c.vars hv
 have hcon:=je c.coefs 0 (by omega)
 refine .B ?_
 refine J.g rfl rfl rfl (fun h1=> ?_) (fun h1=> ?_)
 ·have h1:0<c.vars.length:=by simpa using h1
  refine .B ?_
  refine J.g rfl rfl rfl (fun h2=> ?_) (fun h2=> ?_)
  ·have h2:c.vars.length=c.coefs.length:=by simp at h2;omega
   have e:sumR c=(decide c.vars.Nodup&& !decide (0∈c.coefs)):=by unfold sumR;rw[decide_eq_true h1,decide_eq_true h2,G7,G7]
   rw[e]
   generalize decide c.vars.Nodup=nd at*
   refine .B ?_
   refine .C hall ?_
   cases nd
   ·refine .B ?_
    exact r1
   ·refine .B ?_
    refine .C hcon ?_
    refine .B ?_
    exact r1
  ·have h2: ¬c.vars.length=c.coefs.length:=by simp at h2;omega
   have e:sumR c=false:=by unfold sumR;rw[decide_eq_false h2,Fj,Ep]
   rw[e]
   refine .B ?_
   exact r1
 ·have h1: ¬0<c.vars.length:=by simpa using h1
  have e:sumR c=false:=by unfold sumR;rw[decide_eq_false h1,Fj,Ep,Ep]
  rw[e]
  refine .B ?_
  exact r1
theorem wv (c:Con)(hv:c.vars.length≤1048576)(hk:c.coefs.length≤1048576):Spec Tryz.prog 173 false [.agg (cC c)] [.val (.bool (sumR c&&opR c))]:=by
 refine Spec.body Tryz.func173 rfl rfl rfl fun w0 Z0=> ?_
 have hs:=qH c hv hk
 generalize sumR c=sr at*
 refine .B ?_
 refine .C hs ?_
 cases sr
 ·refine .B ?_
  exact r1
 ·refine .B ?_
  refine J.g rfl rfl rfl (fun h1=> ?_) (fun h1=> ?_)
  ·have e:(true&&opR c)=decide (c.op<3):=by unfold opR;rw[decide_eq_true (show 0≤c.op from h1)];simp;omega
   rw[e]
   refine .B ?_
   exact r1
  ·have e:(true&&opR c)=false:=by unfold opR;rw[decide_eq_false (show¬0≤c.op from h1)];rfl
   rw[e]
   refine .B ?_
   exact r1
theorem ue (c:Con):Spec Tryz.prog 174 false [.agg (cC c)] [.val (.bool (plainR c))]:=by
 refine Spec.body Tryz.func174 rfl rfl rfl fun w0 Z0=> ?_
 refine .B ?_
 refine J.g rfl rfl rfl (fun h1=> ?_) (fun h1=> ?_)
 ·have h1:c.coefs.length=0:=by simpa using h1
  refine .B ?_
  refine J.g rfl rfl rfl (fun h2=> ?_) (fun h2=> ?_)
  ·have h2:c.op=0:=h2
   refine .B ?_
   refine J.g rfl rfl rfl (fun h3=> ?_) (fun h3=> ?_)
   ·have h3:c.rhs=0:=h3
    have e:plainR c=decide (c.b=0):=by unfold plainR bareR;rw[decide_eq_true h1,decide_eq_true h2,decide_eq_true h3];simp
    rw[e]
    refine .B ?_
    exact r1
   ·have h3: ¬c.rhs=0:=h3
    have e:plainR c=false:=by unfold plainR bareR;rw[decide_eq_false h3];simp
    rw[e]
    refine .B ?_
    exact r1
  ·have h2: ¬c.op=0:=h2
   have e:plainR c=false:=by unfold plainR bareR;rw[decide_eq_false h2];simp
   rw[e]
   refine .B ?_
   exact r1
 ·have h1: ¬c.coefs.length=0:=by simpa using h1
  have e:plainR c=false:=by unfold plainR bareR;rw[decide_eq_false h1];simp
  rw[e]
  refine .B ?_
  exact r1
theorem yM (c:Con)(l:List Int)(hl:l.length*8≤140737488355328):Spec Tryz.prog 177 false [.agg (cC c),aq l] [.val (.bool (ex c l))]:=by
 refine Spec.body Tryz.func177 rfl rfl rfl fun w0 Z0=> ?_
 have hcon:=ef (p:=fun v=> !aH v) (f:=222) [] l (fun v _=>yo v) hl
 have e2:(l.any fun v=> !aH v)= !l.all aH:=by rw[Em]
 rw[e2]at hcon
 refine .B ?_
 refine J.g rfl rfl rfl (fun h1=> ?_) (fun h1=> ?_)
 ·have h1:l.length=c.vars.length:=by simp at h1;omega
  have e:ex c l=l.all aH:=by unfold ex;rw[decide_eq_true h1,E4]
  rw[e]
  refine .B ?_
  refine .C hcon ?_
  refine .B ?_
  exact⟨_,.v rfl rfl (by rw[Gd]) (fun _=>rfl) .nil⟩
 ·have h1: ¬l.length=c.vars.length:=by simp at h1;omega
  have e:ex c l=false:=by unfold ex;rw[decide_eq_false h1,Ep]
  rw[e]
  refine .B ?_
  exact r1
theorem tF (c:Con)(l:List Int)(hl:l.length*8≤140737488355328):Spec Tryz.prog 176 false [aq l,.ptr (cC c)] [.val (.bool (!ex c l))]:=by
 refine Spec.body Tryz.func176 rfl rfl rfl fun w0 Z0=> ?_
 refine .B ?_
 refine .C (yM c l hl) ?_
 refine .B ?_
 exact r1
theorem rV (d:aa)(v:Int)(hv:0≤v∧v.toNat<d.length)(hx: ∀x∈d,x.length≤1048576∧∀r∈x,r.1≤r.2):Spec Tryz.prog 171 false [.int .i64 v,.ptr [aJ d]] [.val (.bool (!truthR (domAt d v)))]:=by
 refine Spec.body Tryz.func171 rfl rfl rfl fun w0 Z0=> ?_
 have hy:d[v.toNat]? =some (domAt d v):=by unfold domAt;rw[D0,D1 hv.2];rfl
 have hm:=D4 hy
 have ht:=nh (domAt d v) (hx _ hm).1 (hx _ hm).2
 refine .B ?_
 refine J.i rfl rfl rfl rfl rfl rfl rfl rfl rfl (r:=cD (domAt d v)) hv.1 (by rw[D8,hy];rfl) rfl ?_
 refine .B ?_
 refine .C ht ?_
 refine .B ?_
 exact r1
theorem tG (d:aa)(l:List Int)(hl:l.length*8≤140737488355328)(hv: ∀v∈l,0≤v∧v.toNat<d.length)(hx: ∀x∈d,x.length≤1048576∧∀r∈x,r.1≤r.2):Spec Tryz.prog 170 false [aq l,.ptr [aJ d]] [.val (.bool (l.all fun v=>truthR (domAt d v)))]:=by
 refine Spec.body Tryz.func170 rfl rfl rfl fun w0 Z0=> ?_
 have hcon:=ef (p:=fun v=> !truthR (domAt d v)) (f:=171) [.ptr [aJ d]] l (fun v h=>rV d v (hv v h) hx) hl
 have e2:(l.any fun v=> !truthR (domAt d v))= !l.all fun v=>truthR (domAt d v):=by rw[Em]
 rw[e2]at hcon
 refine .B ?_
 refine .C hcon ?_
 refine .B ?_
 exact⟨_,.v rfl rfl (by rw[Gd]) (fun _=>rfl) .nil⟩
def x6 (d:aa):Prop:= ∀x∈d,x.length≤1048576∧∀r∈x,r.1≤r.2
theorem x9 (d:aa)(c:Con)(hl:c.vars.length=c.coefs.length):gv d c=((c.coefs.all fun k=>decide (k=1)||decide (k= -1))&&c.vars.all fun v=>truthR (domAt d v)):=by
 rw[Ed,DA,gv,DL,DL,DL]
 have hva: ∀i,i<c.vars.length→∀(h:i<c.vars.length),varAt c i=c.vars[i]:=fun i hi h=>by unfold varAt;rw[D0,D1 h];rfl
 have hca: ∀i,∀(h:i<c.coefs.length),coefAt c i=c.coefs[i]:=fun i h=>by unfold coefAt;rw[D0,D1 h];rfl
 constructor
 ·intro h
  refine⟨fun k hk=> ?_,fun v hv=> ?_⟩
  ·obtain⟨i,hi,rfl⟩:=List.mem_iff_getElem.1 hk
   have:=h i (List.mem_range.2 (by omega))
   unfold gw at this
   rw[hca i hi,DA]at this
   exact this.2
  ·obtain⟨i,hi,rfl⟩:=List.mem_iff_getElem.1 hv
   have:=h i (List.mem_range.2 hi)
   unfold gw at this
   rw[hva i hi hi,DA]at this
   exact this.1
 ·rintro⟨h1,h2⟩ i hi
  have hi:=List.mem_range.1 hi
  unfold gw
  rw[hva i hi hi,hca i (by omega),DA]
  exact⟨h2 _ (D5 _),h1 _ (D5 _)⟩
theorem ub (d:aa)(c:Con)(hvl:c.vars.length≤1048576)(hkl:c.coefs.length≤1048576)(hrl:c.rows.length≤1048576)(hr: ∀r∈c.rows,r.length*8≤140737488355328)(hv: ∀v∈c.vars,0≤v∧v.toNat<d.length)(hb:c.kind=4→0≤c.b∧c.b.toNat<d.length)(hx:x6 d):Spec Tryz.prog 130 false [aJ d,.agg (cC c)] [.val (.bool (rightR d c))]:=by
 refine Spec.body Tryz.func130 rfl rfl rfl fun w0 Z0=> ?_
 refine T.seq ?_
 refine T.r ?_
 repeat' first|refine J.e rfl rfl rfl rfl ?_|refine J.skip rfl rfl rfl ?_|refine J.bx rfl rfl rfl rfl rfl rfl ?_
 refine J.nil ?_
 refine T.sub (Rel.unbx (s:=2) (fun b h=>h) rfl rfl) ?_
 refine T.sub (Rel.fp (s:=2) rfl) ?_
 refine .B ?_
 have hsum:=qH c hvl hkl
 have hheld:=wv c hvl hkl
 have hplain:=ue c
 have hall:=qM c.vars hvl
 have hrow:=pJ (p:=fun r=> !ex c r) (f:=176) [.ptr (cC c)] c.rows (fun r h=>tF c r (hr r h)) (by omega)
 rw[←Em]at hrow
 have hunit:=ef (p:=fun v=> !(decide (v=1)||decide (v= -1))) (f:=179) [] c.coefs (fun v _=>tE v) (by omega)
 rw[←Em]at hunit
 have htr:=tG d c.vars (by omega) hv hx
 have hbm:=je c.vars c.b (by omega)
 refine J.g rfl rfl rfl (fun h1=> ?_) (fun h1=> ?_)
 ·have h1: ¬c.kind=2:=h1
  refine .B ?_
  refine T.cd rfl (fun h2=> ?_) (fun h2=> ?_)
  ·have h2:0<c.rows.length:=by simp at h2;omega
   have e:rightR d c=false:=by
    have:noneR c=false:=by unfold noneR;rw[decide_eq_false (by omega)]
    unfold rightR
    rw[if_neg h1,this]
    repeat' split
    all_goals simp
   rw[e]
   refine .B ?_
   exact r1
  ·have hn:noneR c=true:=by unfold noneR;simp at h2⊢;omega
   refine .B ?_
   refine T.cd rfl (fun hk0=> ?_) (fun hk0=> ?_)
   ·have hk0:c.kind=0:=hk0
    have e:rightR d c=((sumR c&&opR c)&&decide (c.b=0)):=by unfold rightR;rw[if_pos hk0,hn,E4]
    rw[e]
    generalize (sumR c&&opR c)=so at*
    refine .B ?_
    refine .C hheld ?_
    cases so
    ·refine .B ?_
     exact r1
    ·refine .B ?_
     exact r1
   ·have hk0: ¬c.kind=0:=hk0
    refine .B ?_
    refine T.cd rfl (fun hk1=> ?_) (fun hk1=> ?_)
    ·have hk1:c.kind=1:=hk1
     have e:rightR d c=(plainR c&&(decide (0<c.vars.length)&&decide c.vars.Nodup)):=by unfold rightR;rw[if_neg hk0,if_pos hk1,hn,E4];rfl
     rw[e]
     generalize plainR c=pr at*
     generalize decide c.vars.Nodup=nd at*
     refine .B ?_
     refine .C hplain ?_
     cases pr
     ·refine .B ?_
      exact r1
     ·refine .B ?_
      refine J.g rfl rfl rfl (fun h3=> ?_) (fun h3=> ?_)
      ·rw[decide_eq_true (show 0<c.vars.length by have h:=h3;rw[D6]at h;omega)]
       refine .B ?_
       refine .C hall ?_
       refine .B ?_
       exact r1
      ·rw[decide_eq_false (show¬0<c.vars.length by have h:=h3;rw[D6]at h;omega)]
       refine .B ?_
       exact r1
    ·have hk1: ¬c.kind=1:=hk1
     refine .B ?_
     refine T.cf2 rfl (decide_eq_false h1) ?_
     refine .B ?_
     refine T.cd rfl (fun hk3=> ?_) (fun hk3=> ?_)
     ·have hk3:c.kind=3:=hk3
      have e:rightR d c=(plainR c&&(decide (3≤c.vars.length)&&decide c.vars.Nodup)):=by
       unfold rightR
       rw[if_neg hk0,if_neg hk1,if_neg h1,if_pos hk3,hn,E4]
       unfold manyR
       generalize plainR c=pr
       generalize decide c.vars.Nodup=nd
       by_cases h:3≤c.vars.length
       ·rw[decide_eq_true h,decide_eq_true (show 0<c.vars.length by omega)];simp
       ·rw[decide_eq_false h];simp
      rw[e]
      generalize plainR c=pr at*
      generalize decide c.vars.Nodup=nd at*
      refine .B ?_
      refine .C hplain ?_
      cases pr
      ·refine .B ?_
       exact r1
      ·refine .B ?_
       refine J.g rfl rfl rfl (fun h3=> ?_) (fun h3=> ?_)
       ·rw[decide_eq_true (show 3≤c.vars.length by have h:=h3;rw[D6]at h;omega)]
        refine .B ?_
        refine .C hall ?_
        refine .B ?_
        exact r1
       ·rw[decide_eq_false (show¬3≤c.vars.length by have h:=h3;rw[D6]at h;omega)]
        refine .B ?_
        exact r1
     ·have hk3: ¬c.kind=3:=hk3
      refine .B ?_
      refine T.cd rfl (fun hk4=> ?_) (fun hk4=> ?_)
      ·have hk4:c.kind=4:=hk4
       obtain⟨hb0,hb1⟩:=hb hk4
       have hy:d[c.b.toNat]? =some (domAt d c.b):=by unfold domAt;rw[D0,D1 hb1];rfl
       have hm:=D4 hy
       have ht:=nh (domAt d c.b) (hx _ hm).1 (hx _ hm).2
       have e:rightR d c=((sumR c&&opR c)&&truthR (domAt d c.b)&& !decide (c.b∈c.vars)):=by unfold rightR;rw[if_neg hk0,if_neg hk1,if_neg h1,if_neg hk3,if_pos hk4,hn,E4]
       rw[e]
       generalize (sumR c&&opR c)=so at*
       generalize truthR (domAt d c.b)=tr at*
       refine .B ?_
       refine .C hheld ?_
       cases so
       ·refine .B ?_
        exact r1
       ·refine .B ?_
        refine J.i rfl rfl rfl rfl rfl rfl rfl rfl rfl (r:=cD (domAt d c.b)) hb0 (by rw[D8,hy];rfl) rfl ?_
        refine .B ?_
        refine .C ht ?_
        cases tr
        ·refine .B ?_
         exact r1
        ·refine .B ?_
         refine .C hbm ?_
         refine .B ?_
         exact r1
      ·have hk4: ¬c.kind=4:=hk4
       refine .B ?_
       refine T.cd rfl (fun hk5=> ?_) (fun hk5=> ?_)
       ·have hk5:c.kind=5:=hk5
        have e:rightR d c=(bareR c&&(sumR c&&gv d c)):=by unfold rightR;rw[if_neg hk0,if_neg hk1,if_neg h1,if_neg hk3,if_neg hk4,if_pos hk5,hn,E4,Bool.and_assoc]
        rw[e]
        refine .B ?_
        refine .C hsum ?_
        cases hs:sumR c
        ·refine .B ?_
         exact⟨_,.v rfl rfl (by rw[Ep,Fj]) (fun _=>rfl) .nil⟩
        ·have hlen:c.vars.length=c.coefs.length:=by unfold sumR at hs;simp at hs;omega
         rw[x9 d c hlen]
         generalize (c.coefs.all fun k=>decide (k=1)||decide (k= -1))=uc at*
         generalize (c.vars.all fun v=>truthR (domAt d v))=tv at*
         refine .B ?_
         refine J.g rfl rfl rfl (fun h4=> ?_) (fun h4=> ?_)
         ·have h4:c.op=0:=h4
          refine .B ?_
          refine J.g rfl rfl rfl (fun h5=> ?_) (fun h5=> ?_)
          ·have h5:c.rhs=0:=h5
           refine .B ?_
           refine J.g rfl rfl rfl (fun h6=> ?_) (fun h6=> ?_)
           ·have h6:c.b=0:=h6
            have e:bareR c=true:=by unfold bareR;rw[decide_eq_true h4,decide_eq_true h5,decide_eq_true h6];rfl
            rw[e]
            refine .B ?_
            refine .C hunit ?_
            cases uc
            ·refine .B ?_
             exact r1
            ·refine .B ?_
             refine .C htr ?_
             refine .B ?_
             exact r1
           ·have h6: ¬c.b=0:=h6
            have e:bareR c=false:=by unfold bareR;rw[decide_eq_false h6,Fj]
            rw[e]
            refine .B ?_
            exact r1
          ·have h5: ¬c.rhs=0:=h5
           have e:bareR c=false:=by unfold bareR;rw[decide_eq_false h5,Fj,Ep]
           rw[e]
           refine .B ?_
           exact r1
         ·have h4: ¬c.op=0:=h4
          have e:bareR c=false:=by unfold bareR;rw[decide_eq_false h4,Ep,Ep]
          rw[e]
          refine .B ?_
          exact r1
       ·have hk5: ¬c.kind=5:=hk5
        have e:rightR d c=(plainR c&&(decide (2≤c.vars.length)&&decide ((c.vars.length:Int).tmod 2=0))):=by
         unfold rightR
         rw[if_neg hk0,if_neg hk1,if_neg h1,if_neg hk3,if_neg hk4,if_neg hk5,hn,E4,Bool.and_assoc]
         congr 2
         rw[decide_eq_decide,GJ (by omega)]
         omega
        rw[e]
        generalize plainR c=pr at*
        refine .B ?_
        refine .C hplain ?_
        cases pr
        ·refine .B ?_
         exact r1
        ·refine .B ?_
         refine J.g rfl rfl rfl (fun h3=> ?_) (fun h3=> ?_)
         ·rw[decide_eq_true (show 2≤c.vars.length by have h:=h3;rw[D6]at h;omega)]
          refine .B ?_
          exact⟨_,.v rfl rfl (by simp) (fun _=>rfl) .nil⟩
         ·rw[decide_eq_false (show¬2≤c.vars.length by have h:=h3;rw[D6]at h;omega)]
          refine .B ?_
          exact r1
 ·have hk2:c.kind=2:=by have h1: ¬(c.kind≠2):=h1;omega
  refine .B ?_
  refine T.cf rfl ?_
  refine .B ?_
  refine T.cf2 rfl (decide_eq_false (by omega)) ?_
  refine .B ?_
  refine T.cf2 rfl (decide_eq_false (by omega)) ?_
  refine .B ?_
  refine T.ct2 rfl (decide_eq_true hk2) ?_
  refine T.sub (Rel.unbx (s:=3) (fun b h=>h) rfl rfl) ?_
  refine T.sub (Rel.fp (s:=3) rfl) ?_
  have e:rightR d c=(plainR c&&(decide (0<c.vars.length)&&(decide c.vars.Nodup&&(decide (c.rows.length≤1024)&&c.rows.all (ex c))))):=by
   unfold rightR manyR k8
   rw[if_neg (by omega),if_neg (by omega),if_pos hk2]
   generalize plainR c=a1
   generalize decide (0<c.vars.length)=a2
   generalize decide c.vars.Nodup=a3
   generalize decide (c.rows.length≤1024)=a4
   generalize c.rows.all (ex c)=a5
   cases a1<;>cases a2<;>cases a3<;>cases a4<;>cases a5<;>rfl
  rw[e]
  generalize plainR c=pr at*
  generalize decide c.vars.Nodup=nd at*
  generalize c.rows.all (ex c)=ra at*
  refine .B ?_
  refine .C hplain ?_
  cases pr
  ·refine .B ?_
   exact r1
  ·refine .B ?_
   refine J.g rfl rfl rfl (fun h3=> ?_) (fun h3=> ?_)
   ·rw[decide_eq_true (show 0<c.vars.length by have h:=h3;rw[D6]at h;omega)]
    refine .B ?_
    refine .C hall ?_
    cases nd
    ·refine .B ?_
     exact r1
    ·refine .B ?_
     refine J.g rfl rfl rfl (fun h4=> ?_) (fun h4=> ?_)
     ·rw[decide_eq_true (show c.rows.length≤1024 by have h:=h4;rw[D6]at h;omega)]
      refine .B ?_
      refine .C hrow ?_
      refine .B ?_
      exact⟨_,.v rfl rfl (by rw[Gd];rfl) (fun _=>rfl) .nil⟩
     ·rw[decide_eq_false (show¬c.rows.length≤1024 by have h:=h4;rw[D6]at h;omega)]
      refine .B ?_
      exact r1
   ·rw[decide_eq_false (show¬0<c.vars.length by have h:=h3;rw[D6]at h;omega)]
    refine .B ?_
    exact r1
theorem rA (d:aa)(v:Int):Spec Tryz.prog 128 false [.int .i64 v,.ptr [aJ d]] [.val (.bool (!inD d v))]:=by
 refine Spec.body Tryz.func128 rfl rfl rfl fun w0 Z0=> ?_
 have e0:(!inD d v)=(decide (v<0)||decide (v≥((d.map cD).length:Int))):=by unfold inD;rw[Gd,D6]
 rw[e0]
 refine .B ?_
 refine J.g rfl rfl rfl (fun h1=> ?_) (fun h1=> ?_)
 ·rw[decide_eq_true (show v<0 from h1),Bool.true_or]
  refine .B ?_
  exact r1
 ·rw[decide_eq_false (show¬v<0 from h1),GU]
  refine .B ?_
  exact r1
structure ConI (c:Con):Prop where
 vl:c.vars.length≤1024
 kl:c.coefs.length≤1024
 rl:c.rows.length≤1024
 rr: ∀r∈c.rows,r.length≤1024
 ki:eh c.coefs c.rhs=false∨∀k∈c.coefs,-9223372036854775808≤k∧k≤9223372036854775807
theorem zA (d:aa)(c:Con):(usesR c).all (inD d)=(c.vars.all (inD d)&&(!decide (c.kind=4)||inD d c.b)):=by
 rw[Ed,DL]
 constructor
 ·intro h
  rw[DA,DL]
  refine⟨fun v hv=>h v (uses_mem.2 (.inl hv)),?_⟩
  by_cases hk:c.kind=4
  ·rw[h c.b (uses_mem.2 (.inr ⟨hk,rfl⟩)),Bool.or_true]
  ·rw[decide_eq_false hk];rfl
 ·intro h v hv
  rw[DA,DL]at h
  rcases uses_mem.1 hv with h1|⟨hk,rfl⟩
  ·exact h.1 v h1
  ·have:=h.2
   rwa[decide_eq_true hk]at this
theorem qL (d:aa)(c:Con)(hc:ConI c)(hx:x6 d):Spec Tryz.prog 100 false [aJ d,.agg (cC c)] [.val (.int .i64 (conR d c))]:=by
 refine Spec.body Tryz.func100 rfl rfl rfl fun w0 Z0=> ?_
 have hvl:=hc.vl
 have hkl:=hc.kl
 have hrl:=hc.rl
 have haway:=ef (p:=fun v=> !inD d v) (f:=128) [.ptr [aJ d]] c.vars (fun v _=>rA d v) (by omega)
 rw[←Em]at haway
 have hawayb:=rA d c.b
 have hright:=fun(h1: ∀v∈c.vars,0≤v∧v.toNat<d.length) h2=>ub d c (by omega) (by omega) (by omega) (fun r hr=>by have:=hc.rr r hr;omega) h1 h2 hx
 have hbig:(∀k∈c.coefs,-9223372036854775808≤k∧k≤9223372036854775807)→_:=fun h=>yO c.coefs c.rhs (by omega) h
 have hki:=fun h:eh c.coefs c.rhs=false=>fun k hk=>show -9223372036854775808≤k∧k≤9223372036854775807 by
  have h1:=(pL h).1 k hk
  unfold aG at h1
  omega
 have hbig:=hbig (hc.ki.elim hki id)
 refine T.seq ?_
 refine T.r ?_
 repeat' first|refine J.e rfl rfl rfl rfl ?_|refine J.skip rfl rfl rfl ?_|refine J.bx rfl rfl rfl rfl rfl rfl ?_
 refine J.nil ?_
 refine T.sub (Rel.unbx (s:=2) (fun b h=>h) rfl rfl) ?_
 refine T.sub (Rel.fp (s:=2) rfl) ?_
 generalize hR:conR d c=R
 unfold conR at hR
 refine .B ?_
 have bad1:c.kind<0∨6<c.kind→R=44:=fun h=>by rw[if_pos h]at hR;exact hR.symm
 refine J.g rfl rfl rfl (fun h1=> ?_) (fun h1=> ?_)
 ·rw[bad1 (.inl h1)]
  refine .B ?_
  refine T.ct rfl ?_
  refine .B ?_
  exact r1
 ·refine .B ?_
  refine T.cd rfl (fun h2=> ?_) (fun h2=> ?_)
  ·rw[bad1 (.inr (by have h2:c.kind≥7:=h2;omega))]
   refine .B ?_
   exact r1
  ·rw[if_neg (by have h1: ¬c.kind<0:=h1;have h2: ¬c.kind≥7:=h2;omega),zA]at hR
   refine .B ?_
   refine .C haway ?_
   cases ha:c.vars.all (inD d)
   ·rw[ha,Ep,if_pos rfl]at hR
    subst hR
    refine .B ?_
    refine T.ct rfl ?_
    refine .B ?_
    exact r1
   ·rw[ha,E4]at hR
    have hva: ∀v∈c.vars,0≤v∧v.toNat<d.length:=fun v hv=>lO.1 (List.all_eq_true.1 ha v hv)
    refine .B ?_
    refine J.g rfl rfl rfl (fun h3=> ?_) (fun h3=> ?_)
    ·have h3:c.kind=4:=h3
     rw[decide_eq_true h3]at hR
     refine .B ?_
     refine .C hawayb ?_
     cases hbd:inD d c.b
     ·rw[hbd]at hR
      have hR:(43:Int)=R:=hR
      subst hR
      refine .B ?_
      refine T.ct rfl ?_
      refine .B ?_
      exact r1
     ·rw[hbd]at hR
      have hR:(if rightR d c=false then(44:Int)else if eh c.coefs c.rhs=true then 45 else 0)=R:=hR
      have hright:=hright hva fun _=>lO.1 hbd
      generalize rightR d c=rr at*
      refine .B ?_
      refine T.cf rfl ?_
      refine .B ?_
      refine .C hright ?_
      cases rr
      ·subst hR
       refine .B ?_
       refine T.ct rfl ?_
       refine .B ?_
       exact r1
      ·rw[if_neg (by simp)]at hR
       refine .B ?_
       refine T.cf rfl ?_
       refine .B ?_
       refine .C hbig ?_
       refine .B ?_
       refine T.cond rfl (fun h4=> ?_) (fun h4=> ?_)
       ·have h4:eh c.coefs c.rhs=true:=h4
        rw[if_pos h4]at hR
        subst hR
        refine .B ?_
        exact r1
       ·have h4:eh c.coefs c.rhs=false:=h4
        rw[if_neg (by simp[h4])]at hR
        subst hR
        refine .B ?_
        exact r1
    ·have h3: ¬c.kind=4:=h3
     rw[decide_eq_false h3]at hR
     have hR:(if rightR d c=false then(44:Int)else if eh c.coefs c.rhs=true then 45 else 0)=R:=hR
     have hright:=hright hva fun h=>absurd h h3
     generalize rightR d c=rr at*
     refine .B ?_
     refine T.cf rfl ?_
     refine .B ?_
     refine .C hright ?_
     cases rr
     ·subst hR
      refine .B ?_
      refine T.ct rfl ?_
      refine .B ?_
      exact r1
     ·rw[if_neg (by simp)]at hR
      refine .B ?_
      refine T.cf rfl ?_
      refine .B ?_
      refine .C hbig ?_
      refine .B ?_
      refine T.cond rfl (fun h4=> ?_) (fun h4=> ?_)
      ·have h4:eh c.coefs c.rhs=true:=h4
       rw[if_pos h4]at hR
       subst hR
       refine .B ?_
       exact r1
      ·have h4:eh c.coefs c.rhs=false:=h4
       rw[if_neg (by simp[h4])]at hR
       subst hR
       refine .B ?_
       exact r1
def CU (c:Int):Bool:=decide (c≥97)&&decide (c≤122)
def badC (i:Nat)(c:Int):Bool:= !CU c&&(decide ((i:Int)=0)||(decide (c≠95)&&(decide (c<48)||decide (c > 57))))
theorem A9 {s:ByteArray}{i:Nat}(h:i<s.size):badC i ((Utf8.decode s i).1:Int)=badI i (byteI s i)∧(badI i (byteI s i)=false→(Utf8.decode s i).2=1):=by
 have hb:s.get! i=byteI s i:=by
  unfold byteI
  rw[getElem?_pos s i h]
  show s.data[i]! =_
  rw[getElem!_pos s.data i h];rfl
 by_cases hlt:(s.get! i).toNat<128
 ·rw[sF hlt,hb]
  exact⟨rfl,fun _=>rfl⟩
 ·have hf:=wU (GY hlt)
  rw[hb]at hlt
  generalize (Utf8.decode s i).1=c at*
  have e1:badI i (byteI s i)=true:=by
   simp only[badI,letB]
   have: ¬((byteI s i).toNat:Int)≤122:=by omega
   have:((byteI s i).toNat:Int) > 57:=by omega
   have:((byteI s i).toNat:Int)≠95:=by omega
   simp[*]
  have e2:badC i c=true:=by
   simp only[badC,CU]
   have: ¬(c:Int)≤122:=by omega
   have:(c:Int) > 57:=by omega
   have:(c:Int)≠95:=by omega
   simp[*]
  rw[e1,e2]
  exact⟨rfl,fun h=>by cases h⟩
theorem wu (s:ByteArray)(hs:s.size≤140737488355328):Spec Tryz.prog 98 false [.str s] [.val (.bool (fJ s))]:=by
 refine Spec.body Tryz.func98 rfl rfl rfl fun w0 Z0=> ?_
 generalize hR:fJ s=R
 refine .B ?_
 cases h0:(s.toList==(⟨#[]⟩:ByteArray).toList)
 ·refine .B ?_
  refine T.cd rfl (fun h1=> ?_) (fun h1=> ?_)
  ·have:R=false:=by rw[←hR];unfold fJ;rw[h0];simp;omega
   subst this
   refine .B ?_
   exact r1
  ·refine .B ?_
   refine J.rgs rfl rfl rfl rfl rfl rfl ?_
   refine .B ?_
   refine T.K (T.ind (fun i:Nat=>⟨[(14,.ref 0)],[(0,some (.sit s i))],1⟩) (fun i=>i≤s.size∧∀j,j<i→badI j (byteI s j)=false) (fun i=>s.size-i) 0 ⟨DU _,fun j hj=>absurd hj (Dw j)⟩ (fun _ _ h=>h) ?_)
   rintro i ⟨hi,hb⟩ ih
   refine .B ?_
   refine J.nxs rfl rfl rfl rfl rfl rfl (fun h2=> ?_) (fun h2=> ?_)
   ·have hyes:R=true:=by
     rw[←hR]
     unfold fJ
     rw[h0]
     have:((List.range s.size).all fun i=> !badI i (byteI s i))=true:=by
      rw[DL]
      intro j hj
      rw[hb j (by have:=List.mem_range.1 hj;omega)];rfl
     rw[this]
     simp;omega
    subst hyes
    refine .B ?_
    refine T.cf rfl ?_
    refine .B ?_
    exact r1
   ·obtain⟨hbd,hw⟩:=A9 h2
    have hno:badI i (byteI s i)=true→R=false:=fun h=>by
     rw[←hR]
     unfold fJ
     have:((List.range s.size).all fun i=> !badI i (byteI s i))=false:=by
      rw[FK]
      exact⟨i,List.mem_range.2 h2,by rw[h];simp⟩
     rw[this];rfl
    have ih1:=fun h:badI i (byteI s i)=false=>ih (i+1) ⟨by omega,fun j hj=>by
     by_cases e:j=i
     ·rw[e];exact h
     ·exact hb j (by omega)⟩ (by omega)
    rw[←hbd]at hw hno ih1
    obtain⟨c,hc⟩: ∃c,c=(Utf8.decode s i).1:=⟨_,rfl⟩
    obtain⟨k,hk⟩: ∃k,k=(Utf8.decode s i).2:=⟨_,rfl⟩
    rw[←hc]at hw hno ih1
    rw[←hk]at hw
    rw[←hc,←hk]
    have hbc:badC i c=(!(decide ((c:Int)≥97)&&decide ((c:Int)≤122))&&(decide ((i:Int)=0)||(decide ((c:Int)≠95)&&(decide ((c:Int)<48)||decide ((c:Int) > 57))))):=rfl
    generalize badC i c=bad at*
    refine .B ?_
    refine T.ct rfl ?_
    refine .B ?_
    cases h1:decide ((c:Int)≥97)
    ·skip
     refine .B ?_
     cases h3:decide ((i:Int)=0)
     ·refine .B ?_
      cases h4:decide ((c:Int)≠95)
      ·skip
       refine .B ?_
       refine T.cf rfl ?_
       refine .B ?_
       have hb0:bad=false:=by rw[hbc,h1,h3,h4];rfl
       rw[hw hb0]
       exact T.K (ih1 hb0)
      ·refine .B ?_
       cases h5:decide ((c:Int)<48)
       ·refine .B ?_
        cases h6:decide ((c:Int) > 57)
        ·skip
         refine .B ?_
         refine T.cf rfl ?_
         refine .B ?_
         have hb0:bad=false:=by rw[hbc,h1,h3,h4,h5,h6];rfl
         rw[hw hb0]
         exact T.K (ih1 hb0)
        ·skip
         refine .B ?_
         refine T.ct rfl ?_
         refine .B ?_
         rw[hno (by rw[hbc,h1,h3,h4,h5,h6];rfl)]
         exact r1
       ·skip
        refine .B ?_
        refine T.ct rfl ?_
        refine .B ?_
        rw[hno (by rw[hbc,h1,h3,h4,h5];rfl)]
        exact r1
     ·skip
      refine .B ?_
      refine T.ct rfl ?_
      refine .B ?_
      rw[hno (by rw[hbc,h1,h3];rfl)]
      exact r1
    ·refine .B ?_
     cases h2:decide ((c:Int)≤122)
     ·skip
      refine .B ?_
      cases h3:decide ((i:Int)=0)
      ·refine .B ?_
       cases h4:decide ((c:Int)≠95)
       ·skip
        refine .B ?_
        refine T.cf rfl ?_
        refine .B ?_
        have hb0:bad=false:=by rw[hbc,h1,h2,h3,h4];rfl
        rw[hw hb0]
        exact T.K (ih1 hb0)
       ·refine .B ?_
        cases h5:decide ((c:Int)<48)
        ·refine .B ?_
         cases h6:decide ((c:Int) > 57)
         ·skip
          refine .B ?_
          refine T.cf rfl ?_
          refine .B ?_
          have hb0:bad=false:=by rw[hbc,h1,h2,h3,h4,h5,h6];rfl
          rw[hw hb0]
          exact T.K (ih1 hb0)
         ·skip
          refine .B ?_
          refine T.ct rfl ?_
          refine .B ?_
          rw[hno (by rw[hbc,h1,h2,h3,h4,h5,h6];rfl)]
          exact r1
        ·skip
         refine .B ?_
         refine T.ct rfl ?_
         refine .B ?_
         rw[hno (by rw[hbc,h1,h2,h3,h4,h5];rfl)]
         exact r1
      ·skip
       refine .B ?_
       refine T.ct rfl ?_
       refine .B ?_
       rw[hno (by rw[hbc,h1,h2,h3];rfl)]
       exact r1
     ·skip
      refine .B ?_
      refine T.cf rfl ?_
      refine .B ?_
      have hb0:bad=false:=by rw[hbc,h1,h2];rfl
      rw[hw hb0]
      exact T.K (ih1 hb0)
 ·have:R=false:=by rw[←hR];unfold fJ;rw[h0];simp
  subst this
  refine .B ?_
  refine T.ct rfl ?_
  refine .B ?_
  exact r1
theorem ww (d:aa)(g:Goal)(hv:g.vars.length≤1024)(hk:g.coefs.length≤1024)(hi:eh g.coefs 0=false∨∀k∈g.coefs,-9223372036854775808≤k∧k≤9223372036854775807)(hx:x6 d):Spec Tryz.prog 101 false [aJ d,.agg (cG g)] [.val (.int .i64 (eB d g))]:=by
 refine Spec.body Tryz.func101 rfl rfl rfl fun w0 Z0=> ?_
 have hcon:=qL d (em g) ⟨hv,hk,DU _,fun r hr=>(by cases hr),hi⟩ hx
 generalize hR:eB d g=R
 unfold eB at hR
 refine .B ?_
 refine T.cd rfl (fun h0=> ?_) (fun h0=> ?_)
 ·have h0:g.kind=0:=h0
  rw[if_neg (by omega)]at hR
  refine .B ?_
  refine J.g rfl rfl rfl (fun h1=> ?_) (fun h1=> ?_)
  ·rw[if_pos (.inr (.inl (by have h:=h1;rw[D6]at h;omega)))]at hR
   subst hR
   refine .B ?_
   refine T.ct rfl ?_
   refine .B ?_
   exact r1
  ·refine .B ?_
   refine T.cd rfl (fun h2=> ?_) (fun h2=> ?_)
   ·rw[if_pos (.inr (.inr (by have h:=h2;rw[D6]at h;omega)))]at hR
    subst hR
    refine .B ?_
    exact r1
   ·rw[if_neg (by have h:=h1;rw[D6]at h;have h':=h2;rw[D6]at h';omega)]at hR
    subst hR
    refine .B ?_
    exact r1
 ·have h0: ¬g.kind=0:=h0
  refine .B ?_
  refine T.cd rfl (fun h1=> ?_) (fun h1=> ?_)
  ·have h1:g.kind=1:=h1
   rw[if_pos (.inl h1)]at hR
   subst hR
   refine .B ?_
   refine T.ct2 rfl (decide_eq_true h1) ?_
   refine .B ?_
   refine .C hcon ?_
   refine .B ?_
   exact r1
  ·have h1: ¬g.kind=1:=h1
   refine .B ?_
   refine T.cd rfl (fun h2=> ?_) (fun h2=> ?_)
   ·have h2:g.kind=2:=h2
    rw[if_pos (.inr h2)]at hR
    subst hR
    refine .B ?_
    refine .C hcon ?_
    refine .B ?_
    exact r1
   ·have h2: ¬g.kind=2:=h2
    rw[if_neg (by omega),if_pos (.inl h0)]at hR
    subst hR
    refine .B ?_
    exact r1
def hadM (m:Mod)(i:Nat):List (ByteArray×Bool):=(List.range i).map fun k=>(nmM m k,true)
theorem rD (a b:ByteArray):(a.toList==b.toList)=decide (a=b):=by
 rw[ByteArray.toList_eq,ByteArray.toList_eq]
 by_cases h:a=b
 ·subst h;simp
 ·rw[decide_eq_false h]
  simp only[beq_eq_false_iff_ne]
  intro e
  apply h
  cases a;cases b
  congr
  exact Array.toList_inj.1 e
theorem uM (m:Mod)(i:Nat):(lkA (hadM m i) (nmM m i))=if gy m i=true then some true else none:=by
 unfold lkA fiA hadM gy
 cases h:((List.range i).map fun k=>(nmM m k,true)).findIdx? fun p=>decide (p.1=nmM m i)with
 |none=>
  have h1:=List.findIdx?_eq_none_iff.1 h
  rw[if_neg]
  ·rfl
  ·rw[El]
   rintro⟨k,hk,hb⟩
   rw[rD]at hb
   have:=h1 _ (List.mem_map.2 ⟨k,hk,rfl⟩)
   rw[hb]at this;cases this
 |some j=>
  obtain⟨h1,h2,_⟩:=List.findIdx?_eq_some_iff_getElem.1 h
  have h1':j<i:=by simpa using h1
  rw[if_pos]
  ·simp[h1']
  ·rw[El]
   refine⟨j,List.mem_range.2 h1',?_⟩
   rw[rD]
   simpa using h2
theorem Ck (m:Mod)(i:Nat)(h:gy m i=false):upA (hadM m i) (nmM m i) true=hadM m (i+1):=by
 have h1:=uM m i
 rw[h,if_neg (by simp)]at h1
 unfold upA
 have h2:fiA (hadM m i) (nmM m i)=none:=by
  cases h3:fiA (hadM m i) (nmM m i)with
  |none=>rfl
  |some j=>
   unfold lkA at h1
   rw[h3]at h1
   obtain⟨h4,_⟩:=List.findIdx?_eq_some_iff_getElem.1 h3
   simp[h4]at h1
 rw[h2]
 simp[hadM,Fp]
structure ModK (m:Mod):Prop where
 b:ModB m
 ck: ∀c∈m.cons,eh c.coefs c.rhs=false∨∀k∈c.coefs,-9223372036854775808≤k∧k≤9223372036854775807
 gk:eh m.goal.coefs 0=false∨∀k∈m.goal.coefs,-9223372036854775808≤k∧k≤9223372036854775807
theorem my (m:Mod)(hm:ModK m):Spec Tryz.prog 64 false [.agg (cM m)] [.val (.int .i64 (checkR m))]:=by
 refine Spec.body Tryz.func64 rfl rfl rfl fun w0 Z0=> ?_
 obtain⟨hm,hck,hgk⟩:=hm
 have hds:=(oZ m hm).frz
 generalize hR:checkR m=R
 obtain⟨b1,b2,b3,b4,b5⟩:=hm
 have yes:64<m.vars.length∨256<m.cons.length→(2:Int)=R:=fun h=>by rw[←hR];exact(if_pos h).symm
 refine .B ?_
 refine J.g rfl rfl rfl (fun h1=> ?_) (fun h1=> ?_)
 ·have e:=yes (.inl (by have h:=h1;rw[D6]at h;omega))
  subst e
  refine .B ?_
  refine T.ct rfl ?_
  refine .B ?_
  exact r1
 ·refine .B ?_
  refine T.cd rfl (fun h2=> ?_) (fun h2=> ?_)
  ·have e:=yes (.inr (by have h:=h2;rw[D6]at h;omega))
   subst e
   refine .B ?_
   exact r1
  ·have hR:(if firstE ((List.range m.vars.length).map (varR m))≠0 then firstE ((List.range m.vars.length).map (varR m))else
     if firstE (m.cons.map (conR (domsM m)))≠0 then firstE (m.cons.map (conR (domsM m)))else eB (domsM m) m.goal)=R:=by
    unfold checkR at hR
    rw[if_neg (by have h:=h1;rw[D6]at h;have h':=h2;rw[D6]at h';omega)]at hR
    exact hR
   have hvar: ∀i,i<m.vars.length→(∀j,j<i→varR m j=0)→varR m i≠0→R=varR m i:=fun i hi hb he=>by
    have:firstE ((List.range m.vars.length).map (varR m))=varR m i:=jK (i:=i) (fun j hj x hx=>by
     rw[D8,EO (by omega)]at hx
     rw[←D2 hx]
     exact hb j hj) (by rw[D8,EO hi];rfl) he
    rw[this,if_pos he]at hR
    exact hR.symm
   refine .B ?_
   refine J.mm rfl rfl rfl rfl ?_
   refine .B ?_
   refine T.K (T.ind (fun i:Nat=>⟨[(1,.optr 0 0 0 0),(3,.ref 1),(22,.val false (.sl (m.vars.map cV))),(23,.val true (.int .i64 (m.vars.map cV).length)),(24,.val true (.int .i64 i))],[(0,some (.box false (cM m))),(1,some (.mp true none ((hadM m i).map fun p=>(.string p.1,.bool p.2))))],2⟩) (fun i=>i≤m.vars.length∧∀j,j<i→varR m j=0) (fun i=>m.vars.length-i) 0 ⟨DU _,fun j hj=>absurd hj (Dw j)⟩ (fun _ _ h=>h) ?_)
   rintro i ⟨hi,hb⟩ ih
   refine .B ?_
   refine T.cd rfl (fun h3=> ?_) (fun h3=> ?_)
   ·have h3:i<m.vars.length:=by have h:=h3;rw[D6]at h;omega
    have hv:=hvar i h3 hb
    have hvi:varR m i=if fJ (nmM m i)=false then 40 else if gy m i=true then 41 else if dmM m i=[]∨chkR (dmM m i)≠0 then 42 else 0:=rfl
    have hrow:(m.vars.map cV)[((i:Nat):Int).toNat]? =some (cV (nmM m i,dmM m i)):=by
     rw[DI,D8,D1 h3]
     unfold nmM dmM
     rw[D0,D1 h3];rfl
    have hbk:(nmM m i).size≤1024∧(dmM m i).length≤1024:=by
     unfold nmM dmM
     rw[D0,D1 h3]
     exact b2 _ (D5 h3)
    have hns:=wu (nmM m i) (by omega)
    have hls:=uM m i
    have hup:=Ck m i
    refine .B ?_
    refine .I (r:=cV (nmM m i,dmM m i)) hrow ?_
    refine .B ?_
    refine .L ?_
    refine .W ?_
    refine .B ?_
    refine .C hns ?_
    refine .B ?_
    cases hn:fJ (nmM m i)
    ·have:R=40:=by rw[hv (by rw[hvi,if_pos hn];decide),hvi,if_pos hn]
     subst this
     refine T.ct rfl ?_
     refine .B ?_
     exact r1
    ·rw[if_neg (by rw[hn];simp)]at hvi
     refine T.cf rfl ?_
     refine .B ?_
     refine J.ml (nmM m i) (.bool false) rfl rfl rfl rfl rfl rfl rfl rfl rfl zx (fun _ _=> .bool _) (CY Tryz.underlying9) (fun _ _ _ h=>rW h) ?_
     rw[hls]
     cases ht:gy m i
     ·rw[if_neg (by rw[ht];simp)]at hvi
      have hup:=hup ht
      have hck2:=jm (dmM m i) (by omega)
      have stop:dmM m i=[]∨chkR (dmM m i)≠0→R=42:=fun h=>by rw[hv (by rw[hvi,if_pos h];decide),hvi,if_pos h]
      have goon: ¬dmM m i=[]→¬chkR (dmM m i)≠0→varR m i=0:=fun a b=>by rw[hvi,if_neg (fun h=>h.elim a b)]
      have hw1:IntKind.i64.wrap ((i:Int)+1)=((i+1:Nat):Int):=aj (l:=m.vars.length) h3 (by omega)
      have ih4:=fun h:varR m i=0=>ih (i+1) ⟨by omega,fun j hj=>by
       by_cases e:j=i
       ·rw[e];exact h
       ·exact hb j (by omega)⟩ (by omega)
      generalize varR m i=vr at*
      rw[←hup]at ih4
      generalize hadM m i=hm at*
      generalize nmM m i=nm at*
      generalize dmM m i=dd at*
      generalize chkR dd=ck at*
      refine .B ?_
      refine T.cf rfl ?_
      refine .B ?_
      refine J.g rfl rfl rfl (fun h5=> ?_) (fun h5=> ?_)
      ·have e:=stop (.inl (by simpa using h5))
       subst e
       refine .B ?_
       refine T.ct rfl ?_
       refine .B ?_
       exact r1
      ·refine .B ?_
       refine .C hck2 ?_
       refine .B ?_
       refine T.cd rfl (fun h6=> ?_) (fun h6=> ?_)
       ·have e:=stop (.inr h6)
        subst e
        refine .B ?_
        exact r1
       ·refine .B ?_
        refine J.mu nm true rfl rfl rfl rfl rfl rfl rfl rfl rfl rfl rfl (CY Tryz.underlying9) (fun _ _ _ h=>rW h) rfl ?_
        refine .B ?_
        rw[hw1]
        exact T.K (ih4 (goon (fun e=>h5 (by rw[e];rfl)) h6))
     ·have:R=41:=by rw[hv (by rw[hvi,if_pos ht];decide),hvi,if_pos ht]
      subst this
      refine .B ?_
      refine T.ct rfl ?_
      refine .B ?_
      exact r1
   ·have h3:i=m.vars.length:=by have h:=h3;rw[D6]at h;omega
    have hfz:firstE ((List.range m.vars.length).map (varR m))=0:=jJ fun x hx=>by
     obtain⟨j,hj,rfl⟩:=List.mem_map.1 hx
     exact hb j (by rw[h3];exact List.mem_range.1 hj)
    rw[hfz,if_neg (by simp)]at hR
    have hdv:x6 (domsM m):=fun x hx=>by
     obtain⟨v,hv,rfl⟩:=List.mem_map.1 hx
     refine⟨by have:=b2 v hv;omega,?_⟩
     obtain⟨j,hj,rfl⟩:=List.mem_iff_getElem.1 hv
     have hvj:=hb j (by omega)
     unfold varR at hvj
     split at hvj
     ·cases hvj
     ·split at hvj
      ·cases hvj
      ·split at hvj
       ·cases hvj
       ·rename_i h6
        have h7:chkR (dmM m j)=0:=Classical.byContradiction fun e=>h6 (.inr e)
        unfold dmM at h7
        rw[D0,D1 hj]at h7
        exact(sM h7).1.ok.1
    refine .B ?_
    refine .C hds ?_
    refine .B ?_
    refine T.K (T.ind (fun i:Nat=>⟨[(1,.optr 0 0 0 0),(6,.val true (aJ (domsM m))),(56,.val false (.sl (m.cons.map cC))),(57,.val true (.int .i64 (m.cons.map cC).length)),(58,.val true (.int .i64 i))],[(0,some (.box false (cM m)))],1⟩) (fun i=>i≤m.cons.length∧∀j,j<i→∀c,m.cons[j]? =some c→conR (domsM m) c=0) (fun i=>m.cons.length-i) 0 ⟨DU _,fun j hj=>absurd hj (Dw j)⟩ (fun _ _ h=>h) ?_)
    rintro k ⟨hk,hbc⟩ ih
    refine .B ?_
    refine T.cd rfl (fun h4=> ?_) (fun h4=> ?_)
    ·have h4:k<m.cons.length:=by have h:=h4;rw[D6]at h;omega
     have hrow:(m.cons.map cC)[((k:Nat):Int).toNat]? =some (cC m.cons[k]):=by simp[h4]
     have hcb:=b4 _ (D5 h4)
     have hcs:=qL (domsM m) m.cons[k] ⟨by omega,by omega,by omega,hcb.2.2.2,hck _ (D5 h4)⟩ hdv
     have hgk:m.cons[k]? =some m.cons[k]:=D1 h4
     have stop:conR (domsM m) m.cons[k]≠0→R=conR (domsM m) m.cons[k]:=fun he=>by
      have:firstE (m.cons.map (conR (domsM m)))=conR (domsM m) m.cons[k]:=jK (i:=k) (fun j hj x hx=>by
       rw[D8]at hx
       obtain⟨c,hc,rfl⟩:=Option.map_eq_some_iff.1 hx
       exact hbc j hj c hc) (by rw[D8,hgk];rfl) he
      rw[this,if_pos he]at hR
      exact hR.symm
     have ih4:=fun h:conR (domsM m) m.cons[k]=0=>ih (k+1) ⟨by omega,fun j hj c hc=>by
      by_cases e:j=k
      ·rw[e,hgk]at hc;cases hc;exact h
      ·exact hbc j (by omega) c hc⟩ (by omega)
     generalize m.cons[k]=c at*
     generalize conR (domsM m) c=cr at*
     refine .B ?_
     refine .I (r:=cC c) hrow ?_
     refine .B ?_
     refine .L ?_
     refine .W ?_
     refine .B ?_
     refine .C hcs ?_
     refine .B ?_
     refine T.cd rfl (fun h5=> ?_) (fun h5=> ?_)
     ·have e:=stop h5
      subst e
      refine .B ?_
      exact r1
     ·have h5:cr=0:=Classical.byContradiction h5
      refine .B ?_
      rw[aj (l:=m.cons.length) h4 (by omega)]
      exact T.K (ih4 h5)
    ·have h4:k=m.cons.length:=by have h:=h4;rw[D6]at h;omega
     have hfc:firstE (m.cons.map (conR (domsM m)))=0:=jJ fun x hx=>by
      obtain⟨c,hc,rfl⟩:=List.mem_map.1 hx
      obtain⟨j,hj⟩:=D9 hc
      exact hbc j (by have:=(List.getElem?_eq_some_iff.1 hj).1;omega) c hj
     rw[hfc,if_neg (by simp)]at hR
     have hgo:=ww (domsM m) m.goal b5.1 b5.2 hgk hdv
     rw[hR]at hgo
     refine .B ?_
     refine .C hgo ?_
     refine .B ?_
     exact r1
theorem kr:Spec Tryz.prog 34 false [] [.val (.agg (cM eA))]:=by
 refine Spec.body Tryz.func34 rfl rfl rfl fun w0 Z0=> ?_
 refine .B ?_
 refine .L ?_
 refine .B ?_
 refine .V ?_
 refine .B ?_
 refine .V ?_
 refine .V ?_
 refine .V ?_
 refine .B ?_
 refine .V ?_
 refine .V ?_
 refine .V ?_
 refine .B ?_
 refine .W ?_
 refine .B ?_
 exact⟨_,.cell rfl rfl rfl (fun _=>rfl) .nil⟩
theorem B9:ModK eA:=⟨rZ,fun c hc=> .inl (by simp[eA]at hc;subst hc;decide +kernel),.inl (by decide +kernel)⟩
theorem Cd:ModK qG:=⟨Ce,fun c hc=>(by cases hc),.inl (by decide +kernel)⟩
theorem ix:Spec Tryz.prog 12 false [] [.val (.bool true)]:=by
 refine Spec.body Tryz.func12 rfl rfl rfl fun w0 Z0=> ?_
 have hck:=my eA B9
 rw[Bf]at hck
 have hgi:GoalIn (dmQ 0 1 0 1) eA.goal:=xM gp0 (by decide) (by decide) (by decide +kernel)
 have a1:=(mg eA rZ zR (by decide +kernel) 9 (by decide) hck).frz
 have a2:=(mg eA rZ zR (by decide +kernel) 2 (by decide) hck).frz
 have a3:=oy eA rZ zR (by decide +kernel) hgi 9 (by decide) hck
 rw[A5]at a1
 rw[A6]at a2
 rw[A4]at a3
 have hck2:=my qG Cd
 rw[Bm]at hck2
 have a4:=(A8 qG 9 44 (by decide) hck2).frz
 have a1:Spec Tryz.prog 13 false [.agg (cM eA),.int .i64 9] [.val (aZ [[0,1],[1,0]]),.val (.bool true),.val (.int .i64 3),.val (.int .i64 0)]:=a1
 have a2:Spec Tryz.prog 13 false [.agg (cM eA),.int .i64 2] [.val (aZ [[0,1]]),.val (.bool false),.val (.int .i64 2),.val (.int .i64 0)]:=a2
 have a3:Spec Tryz.prog 18 false [.agg (cM eA),.int .i64 9] [.val (aq [1,0]),.val (.bool true),.val (.bool true),.val (.int .i64 3),.val (.int .i64 0)]:=a3
 have a4:Spec Tryz.prog 13 false [.agg (cM qG),.int .i64 9] [.val (aZ []),.val (.bool false),.val (.int .i64 0),.val (.int .i64 44)]:=a4
 have l1:=gg [[0,1],[1,0]] [[0,1],[1,0]] (by decide) (by decide)
 rw[decide_eq_true rfl]at l1
 have l2:=gg [[0,1]] [[0,1]] (by decide) (by decide)
 rw[decide_eq_true rfl]at l2
 have l3:=jz [1,0] [1,0] (by decide)
 rw[decide_eq_true rfl]at l3
 refine .B ?_
 refine .C kr ?_
 refine .B ?_
 refine .C a1 ?_
 refine .B ?_
 refine .C kr ?_
 refine .B ?_
 refine .C a2 ?_
 refine .B ?_
 refine .C kr ?_
 refine .B ?_
 refine .C a3 ?_
 refine .B ?_
 refine .C a4 ?_
 refine .B ?_
 refine .V ?_
 refine .V ?_
 refine .V ?_
 refine .C l1 ?_
 refine .B ?_
 refine .V ?_
 refine .V ?_
 refine .C l2 ?_
 refine .B ?_
 refine .V ?_
 refine .C l3 ?_
 refine .B ?_
 exact r1
theorem zn {m:Mod}(h:checkR m=0):m.vars.length≤64∧m.cons.length≤256∧eB (domsM m) m.goal=0:=by
 unfold checkR at h
 split at h
 ·cases h
 ·rename_i h0
  split at h
  ·rename_i h1;exact absurd h h1
  ·split at h
   ·rename_i h1;exact absurd h h1
   ·exact⟨by omega,by omega,h⟩
theorem n4: ∀{d:aa},(∀x∈d,(vals x).length≤4096)→weight d≤d.length*4096
 | [],_=>by simp[weight]
 |x::d,h=>by
  have h1:=h x (.head _)
  have h2:=n4 fun y hy=>h y (.tail _ hy)
  unfold weight at*
  simp only[DJ,E5,DK]
  omega
theorem u6 {d:aa}{c:Con}(h:conR d c=0):eh c.coefs c.rhs=false:=jQ h
structure Fit (b:Mod):Prop where
 ck:checkR b=0
 mb:ModB b
 r:RightM b
 p:prodD (domsM b)≤1048576
 cl:b.cons.length≤256
 w:weight (domsM b)≤1000000
 g:GoalIn (domsM b) b.goal
 k:ModK b
theorem Fit.run {b:Mod}(h:Fit b):RunOk (domsM b) b.cons:=h.r.run h.p
theorem AH {b:Mod}(hb:ModB b)(hc:checkR b=0)(hp:prodD (domsM b)≤1048576):Fit b:=by
 have hr:=kM hb hc
 obtain⟨h1,h2,h3⟩:=zn hc
 have hw:=n4 hr.good.few.few
 have hl:(domsM b).length=b.vars.length:=by simp[domsM]
 refine⟨hc,hb,hr,hp,h2,by omega,xM hr.good hb.gl.1 hb.gl.2 h3,hb,fun c hm=> .inl (u6 (hr.right c hm)),?_⟩
 rcases goal_kinds h3 with ⟨_,_,h4⟩|⟨_,h4⟩
 ·rw[h4];exact .inl rfl
 ·exact .inl (u6 h4)
theorem Cm {m:Mod}{most:Nat}(hb:ModB m)(h:okM m most=true)(h1:1≤most∧most≤1048576):Fit m∧prodD (domsM m)≤most:=by
 have hk:=Aj hb h h1.1
 unfold okM at h
 rw[DA,decide_eq_true_eq]at h
 exact⟨AH hb h.1 (DO hk.2 h1.2),hk.2⟩
theorem Fit.turn {b:Mod}(h:Fit b)(hk:b.goal.kind≠0):Fit (xi b):=by
 have hk2:b.goal.kind=1∨b.goal.kind=2:=(h.g.kind.resolve_left hk).1
 refine AH ⟨h.mb.vl,h.mb.vn,h.mb.cl,h.mb.cb,⟨h.mb.gl.1,by show(b.goal.coefs.map (- ·)).length≤_;rw[D6];exact h.mb.gl.2⟩⟩ ((vA hk2).trans h.ck) h.p
theorem rp {b:Mod}(h:Fit b):Spec Tryz.prog 64 false [.agg (cM b)] [.val (.int .i64 0)]:=by
 have:=my b h.k
 rw[h.ck]at this
 exact this
theorem xP {b:Mod}(h:Fit b)(left:Int)(hl:left≤1099511627776):Spec Tryz.prog 13 false [.agg (cM b),.int .i64 left] [.own 24 1 ((srchA b left).st.map cL),.val (.bool (!(srchA b left).short)),.val (.int .i64 (srchA b left).nodes),.val (.int .i64 0)]:=mg b h.mb h.run h.w left hl (rp h)
theorem AI {b:Mod}(h:Fit b)(left:Int)(hl:left≤1099511627776):Spec Tryz.prog 18 false [.agg (cM b),.int .i64 left] [.val (aq ((srchB b left).st.getD [])),.val (.bool (srchB b left).st.isSome),.val (.bool (!(srchB b left).short)),.val (.int .i64 (srchB b left).nodes),.val (.int .i64 0)]:=oy b h.mb h.run h.w h.g left hl (rp h)
theorem lookG_os {σ:Type}{left:Int}{con:σ→List Con}{fnd:σ→List Int→σ×Bool}(hf: ∀st a,(fnd st a).2=false): ∀(n:Nat) (d:aa) (s:Srch σ),s.over=s.short→(lookG left con fnd n d s).over=(lookG left con fnd n d s).short∨(lookG left con fnd n d s).over=false∧s.over=true
 |0,d,s,h=> .inl h
 |n+1,d,s,h=>by
  rw[lookG]
  split
  ·exact .inl rfl
  ·split
   ·exact .inl h
   ·split
    ·rename_i a _
     cases hs:s.over with
     |true=>exact .inr ⟨hf _ _,rfl⟩
     |false=>exact .inl (by rw[hs]at h;show(fnd s.st a).2=s.short;rw[hf,h])
    ·left
     refine gS (Q:=fun s:Srch σ=>s.over=s.short) (fun t x _ ht=> ?_) h
     split
     ·exact ht
     ·rename_i ho
      rcases lookG_os hf n _ t ht with h1|⟨_,h1⟩
      ·exact h1
      ·exact absurd h1 ho
theorem tZ {d:aa}:nodeF d≤bA (d.map fun x=>(vals x).length+1):=by
 refine kA (by simp) fun i x y hx hy=> ?_
 obtain⟨x',hx',rfl⟩: ∃x',d[i]? =some x'∧iN (vals x').length=x:=by simpa using hx
 obtain⟨y',hy',rfl⟩: ∃y',d[i]? =some y'∧(vals y').length+1=y:=by simpa using hy
 rw[hx']at hy'
 cases hy'
 unfold iN
 split<;>omega
def enoughN (d:aa):Nat:=2*bA (d.map fun x=>(vals x).length+1)+1
section
variable {b:Mod}{left:Int}
theorem C1 (h:Fit b)(left:Int):Goes left (domsM b) (fun _=>b.cons) kI (fun _=>True) (nodeF (domsM b)) ⟨0,false,false,[]⟩ (srchA b left):=cY (o5 h.run) (weight (domsM b)+1) (domsM b) ⟨0,false,false,[]⟩ (Dz _) h.r.good leD.rfl' trivial
theorem BW (h:Fit b)(left:Int):Goes left (domsM b) (iE b.cons b.goal) (wL b.goal) IB (nodeF (domsM b)) ⟨0,false,false,none⟩ (srchB b left):=cY (o4 h.run (by have:=h.cl;omega) h.g) (weight (domsM b)+1) (domsM b) ⟨0,false,false,none⟩ (Dz _) h.r.good leD.rfl' (fun a e=>by cases e)
theorem zO (h:Fit b)(hl:(enoughN (domsM b):Int)≤left):(srchA b left).short=false:=by
 cases hs:(srchA b left).short with
 |false=>rfl
 |true=>
  have h1:=((C1 h left).now rfl hs).2.1
  have h2:=tZ (d:=domsM b)
  unfold enoughN at hl
  simp only at h1
  omega
theorem B2 (h:Fit b)(hl:(enoughN (domsM b):Int)≤left):(srchB b left).short=false:=by
 cases hs:(srchB b left).short with
 |false=>rfl
 |true=>
  have h1:=((BW h left).now rfl hs).2.1
  have h2:=tZ (d:=domsM b)
  unfold enoughN at hl
  simp only at h1
  omega
theorem CG (h:Fit b)(left:Int):(srchA b left).over=(srchA b left).short:=by
 rcases lookG_os (left:=left) (con:=fun _:List (List Int)=>b.cons) (fnd:=kI) (fun _ _=>rfl) (weight (domsM b)+1) (domsM b) ⟨0,false,false,[]⟩ rfl with h1|⟨_,h1⟩
 ·exact h1
 ·cases h1
theorem vu (h:Fit b)(hs:(srchA b left).short=false):(srchA b left).st=solsR b.cons (domsM b):=by
 have ho:=CG h left
 rw[hs]at ho
 exact qR h.run (weight (domsM b)+1) (domsM b) ⟨0,false,false,[]⟩ (Dz _) h.r.good leD.rfl' rfl ho
theorem moreA (h:Fit b){left':Int}(hl:left≤left'):srchA b left=srchA b left'∨((srchA b left).nodes≤(srchA b left').nodes∧∃l,(srchA b left').st=(srchA b left).st++l):=by
 rcases lookG_more (o5 h.run) hl (weight (domsM b)+1) (domsM b) ⟨0,false,false,[]⟩ (Dz _) h.r.good leD.rfl' trivial with h1|⟨_,h1,h2,_⟩
 ·exact .inl h1
 ·exact .inr ⟨h1,B7 h2⟩
theorem Cn (h:Fit b)(left:Int): ∃l,solsR b.cons (domsM b)=(srchA b left).st++l:=by
 have h1:=vu (left:=max left (enoughN (domsM b))) h (zO h (by omega))
 rcases moreA h (left:=left) (left':=max left (enoughN (domsM b))) (by omega)with h2|⟨_,l,h2⟩
 ·exact⟨[],by rw[EJ,←h1,←h2]⟩
 ·exact⟨l,by rw[←h1,h2]⟩
end
theorem zN {cons:List Con}{d:aa}: ∀a∈solsR cons d,a.length=d.length:=fun a ha=>(gF.1 ha).1.1
def Bnd (a:List Int):Prop:= ∀x∈a,-1048576≤x∧x≤1048576
def cX (g:Goal)(x y:Int):Prop:=if g.kind=2 then y≤x else x≤y
theorem rE {d:aa}{g:Goal}(hg:GoalIn d g)(hk:g.kind≠0){a:List Int}(ha:Bnd a)(v:Int):holdsR (fw g v) a=true↔¬cX g v (valueG g a):=by
 obtain⟨hk2,hf,_,_,hw⟩:=hg.kind.resolve_left hk
 have hh:holdsR (fw g v) a=decide (sumW (fw g v).vars (fw g v).coefs a≤(fw g v).rhs):=by
  unfold holdsR
  rw[if_pos (show(fw g v).kind=0 from rfl)]
  rfl
 have hv:valueG g a=bI g.vars g.coefs a:=if_neg hk
 rw[hh,decide_eq_true_eq,hv]
 unfold fw cX
 by_cases h2:g.kind=2
 ·rw[if_pos h2,if_pos h2,if_pos h2]
  have e:sumW g.vars (g.coefs.map (- ·)) a=bI g.vars (g.coefs.map (- ·)) a:=me (g:=atR a) (by rw[D6];exact hf.len) (fun k hk=>by
   obtain⟨j,hj,rfl⟩:=List.mem_map.1 hk
   have:=hf.ck j hj
   exact⟨by have:=this.1;omega,by rw[pQ];exact this.2⟩) (by rw[mQ];omega) (fun _ _=>rfl) fun u _=>xX ha u
  show sumW g.vars (g.coefs.map (- ·)) a≤-v-1↔_
  rw[e,qy]
  omega
 ·rw[if_neg h2,if_neg h2,if_neg h2]
  have e:sumW g.vars g.coefs a=bI g.vars g.coefs a:=me (g:=atR a) hf.len hf.ck (by omega) (fun _ _=>rfl) fun u _=>xX ha u
  show sumW g.vars g.coefs a≤v-1↔_
  rw[e]
  omega
theorem pW {g:Goal}{x y z:Int}(h1:cX g x y)(h2:cX g y z):cX g x z:=by
 unfold cX at*
 split at h1<;>simp_all<;>omega
theorem r4 (g:Goal)(x:Int):cX g x x:=by unfold cX;split<;>exact Dn _
theorem t7 {g:Goal}{x y:Int}(h: ¬cX g x y):cX g y x:=by
 unfold cX at*
 split at h<;>simp_all<;>omega
theorem nv {σ:Type}{d0:aa}{con:σ→List Con}{t:σ}{a:List Int}(hr:RunOk d0 (con t))(h:gu d0 con t a): ∀c∈con t,holdsR c a=true:=by
 obtain⟨e,ge,hle,hst,hs⟩:=h
 obtain⟨s1,s2⟩:=ju ge hs
 exact(eU hr ge hle s1 fun u h0 hu=>s2 u h0 (by omega)).1 hst
def Db (g:Goal)(t:Option (List Int))(a:List Int):Prop:=Bnd a→∃c,t=some c∧(g.kind≠0→cX g (valueG g c) (valueG g a))
section
variable {b:Mod}{left:Int}
theorem okB (h:Fit b):SrchOK (domsM b) (iE b.cons b.goal) (wL b.goal) IB:=o4 h.run (by have:=h.cl;omega) h.g
theorem zk {t:Option (List Int)}{cons:List Con}{g:Goal}: ∀c∈cons,c∈iE cons g t:=fun c hc=>by
 cases t with
 |none=>exact hc
 |some a=>unfold iE;simp only;split<;>simp[hc]
theorem sk (h:Fit b)(hk:b.goal.kind≠0){c a:List Int}(hI:IB (some c))(hf:gu (domsM b) (iE b.cons b.goal) (some c) a):cX b.goal (valueG b.goal a) (valueG b.goal c):=by
 have h1:=nv ((okB h).run _ hI) hf (fw b.goal (valueG b.goal c)) (by
  show _∈(if b.goal.kind=0 then _ else _)
  rw[if_neg hk];simp)
 rw[rE h.g hk (jL h.r.good hf).2.2]at h1
 exact t7 h1
theorem xZ (h:Fit b)(hs:(srchB b left).short=false): ∀a∈solsR b.cons (domsM b),Db b.goal (srchB b left).st a:=by
 have key:=(qQ (left:=left) (okB h) b.cons (Db b.goal) (fun st a c hI hf hacc hb=> ?_) (fun st a hI hf hb=>⟨a,rfl,fun _=>r4 _ _⟩) (fun st a hI hbase hno hb=> ?_) (fun st a c hI hf ho hb=> ?_) (weight (domsM b)+1) (domsM b) ⟨0,false,false,none⟩ (Dz _) h.r.good leD.rfl' (fun a e=>by cases e) hs (fun a e=>by cases e)).2
 ·intro a ha
  obtain⟨⟨h1,h2⟩,h3⟩:=gF.1 ha
  exact key a h1 h2 h3
 ·obtain⟨x,rfl,hx⟩:=hacc hb
  exact⟨c,rfl,fun hk=>pW (sk h hk hI hf) (hx hk)⟩
 ·cases st with
  |none=>exact absurd hbase hno
  |some x=>
   refine⟨x,rfl,fun hk=> ?_⟩
   apply Classical.byContradiction
   intro hn
   refine hno fun c hc=> ?_
   have hc:c∈(if b.goal.kind=0 then b.cons else b.cons++[fw b.goal (valueG b.goal x)]):=hc
   rw[if_neg hk]at hc
   rcases List.mem_append.1 hc with hc|hc
   ·exact hbase c hc
   ·rw[List.mem_singleton.1 hc]
    exact(rE h.g hk hb _).2 hn
 ·have hk:b.goal.kind=0:=of_decide_eq_true ho
  exact⟨a,rfl,fun h=>absurd hk h⟩
theorem oo (h:Fit b): ∀a∈solsR b.cons (domsM b),Bnd a:=fun a ha x hx=>by
 obtain⟨⟨h1,h2⟩,_⟩:=gF.1 ha
 obtain⟨i,hi,rfl⟩:=List.mem_iff_getElem.1 hx
 have h3:=h2 i (by omega)
 rw[D0 (l:=a),D1 hi]at h3
 rw[D0,D1 (by omega)]at h3
 exact(h.r.good.few.fine _ (D5 _)).val _ h3
theorem B6 (h:Fit b){s t:Option (List Int)}(hr:Reach (wL b.goal) (gu (domsM b) (iE b.cons b.goal)) s t)(hs: ∀c,s=some c→c∈solsR b.cons (domsM b)): ∀c,t=some c→c∈solsR b.cons (domsM b):=by
 refine hr.keep (P:=fun t=> ∀c,t=some c→c∈solsR b.cons (domsM b)) hs fun u a hu hf c e=> ?_
 cases e
 obtain⟨h1,h2,h3⟩:=jL h.r.good hf
 have hI:IB u:=fun x e=>oo h x (hu x e)
 exact gF.2 ⟨⟨h1,h2⟩,fun c hc=>nv ((okB h).run _ hI) hf c (zk c hc)⟩
theorem xW (h:Fit b)(left:Int): ∀c,(srchB b left).st=some c→c∈solsR b.cons (domsM b):=B6 h (BW h left).reach fun c e=>by cases e
theorem B0 (h:Fit b)(hs:(srchB b left).short=false):(srchB b left).st.isSome=decide (0<(solsR b.cons (domsM b)).length):=by
 rw[Ed,decide_eq_true_eq]
 constructor
 ·intro h1
  obtain⟨c,hc⟩:=Option.isSome_iff_exists.1 h1
  exact List.length_pos_of_mem (xW h left c hc)
 ·intro h1
  obtain⟨a,ha⟩:=FR h1
  obtain⟨c,hc,_⟩:=xZ h hs a ha (oo h a ha)
  rw[hc];rfl
end
def zK (P:Nat→Nat):Nat→Int
 |0=>1
 |i+1=>P (i+1)
theorem uY (m:Mod)(hm:ModB m)(fd:FewD (domsM m))(hb:enoughN (domsM m)≤1099511627776):Spec Tryz.prog 22 false [.agg (cM m)] [.val (.int .i64 (enoughN (domsM m)))]:=by
 refine Spec.body Tryz.func22 rfl rfl rfl fun w0 Z0=> ?_
 obtain⟨b1,b2,b3,b4,b5⟩:=hm
 have hlen:(domsM m).length=m.vars.length:=by simp[domsM]
 obtain⟨P,hP⟩: ∃P:Nat→Nat,P=fun i=>bA (((domsM m).take i).map fun x=>(vals x).length+1):=⟨_,rfl⟩
 have hPs: ∀i (h:i<m.vars.length),P (i+1)=P i*((vals m.vars[i].2).length+1):=fun i h=>by
  rw[hP]
  simp only
  rw[D7 (by omega),Di,cU]
  simp[bA,domsM]
 have hPm: ∀i,i≤m.vars.length→P i≤549755813888:=fun i hi=>by
  have h1:bA ((domsM m).map fun x=>(vals x).length+1)≤549755813888:=by unfold enoughN at hb;omega
  rw[hP]
  simp only
  have e:bA ((domsM m).map fun x=>(vals x).length+1)=bA (((domsM m).take i).map fun x=>(vals x).length+1)*bA (((domsM m).drop i).map fun x=>(vals x).length+1):=by
   rw[←cU,←Di,Ea]
  have h2:1≤bA (((domsM m).drop i).map fun x=>(vals x).length+1):=jv fun x hx=>by
   obtain⟨y,_,rfl⟩:=List.mem_map.1 hx;omega
  rw[e]at h1
  exact DO (F4 _ h2) h1
 refine .B ?_
 refine T.K (T.ind (fun i:Nat=>⟨[(1,.optr 0 0 0 0),(3,.val true (.int .i64 (zK P i))),(4,.val true (.int .i64 i))],[(0,some (.box false (cM m)))],1⟩) (fun i=>i≤m.vars.length) (fun i=>m.vars.length-i) 0 (DU _) (fun _ _ h=>h) ?_)
 rintro i hi ih
 have hP0:P 0=1:=by rw[hP];rfl
 have hQ: ∀i,zK P i=P i:=fun i=>by cases i with|zero=>rw[hP0];rfl|succ i=>rfl
 simp only[hQ]at ih⊢
 refine .B ?_
 refine T.cd rfl (fun h1=> ?_) (fun h1=> ?_)
 ·have h1:i<m.vars.length:=by have h:=h1;rw[D6]at h;omega
  have hrow:(m.vars.map cV)[((i:Nat):Int).toNat]? =some (cV m.vars[i]):=by simp[h1]
  have hx:m.vars[i].2∈domsM m:=List.mem_map.2 ⟨_,D5 h1,rfl⟩
  have hd:=(fd.fine _ hx).domB
  have hval:=fY m.vars[i].2 hd.1 (by have:=hd.2.1;omega) hd.2.2
  have hmul:=hPs i h1
  have hle:=hPm (i+1) h1
  have hvl:=fd.few _ hx
  have ih1:=ih (i+1) h1 (by omega)
  rw[hmul]at hle ih1
  generalize m.vars[i]=v at*
  refine .B ?_
  refine .I (r:=cV v) hrow ?_
  refine .B ?_
  refine .C hval ?_
  refine .B ?_
  rw[D6,ae (n:=((vals v.2).length:Int)+1) (by omega) (by omega)]
  have e2:(P i:Int)*(((vals v.2).length:Int)+1)=((P i*((vals v.2).length+1):Nat):Int):=by push_cast;rfl
  rw[e2,ae (n:=((P i*((vals v.2).length+1):Nat):Int)) (by omega) (by omega),aj (l:=m.vars.length) (n:=i) h1 (by omega)]
  exact T.K ih1
 ·have e:i=m.vars.length:=by have h:=h1;rw[D6]at h;omega
  subst e
  have e3:enoughN (domsM m)=2*P m.vars.length+1:=by rw[hP];simp only;rw[DE (by omega)];rfl
  have hle:=hPm _ (DB _)
  rw[e3]
  refine .B ?_
  exact⟨_,.v rfl rfl (by rw[ae (n:=2*(P m.vars.length:Int)) (by omega) (by omega),ae (by omega) (by omega)];congr 1) (fun _=>rfl) .nil⟩
theorem tz (g:Goal)(a:List Int)(hg:g.kind≠0→GoalOk g)(hvl:g.vars.length≤1024)(hkl:g.coefs.length≤1024)(hal:a.length*8≤140737488355328)(ha: ∀x∈a,-1048576≤x∧x≤1048576):Spec Tryz.prog 24 false [.agg (cG g),aq a] [.val (.int .i64 (valueG g a))]:=by
 refine Spec.body Tryz.func24 rfl rfl rfl fun w0 Z0=> ?_
 have hs:=qq g.vars g.coefs a (by omega) (by omega) hal
 refine .B ?_
 refine T.cd rfl (fun h=> ?_) (fun h=> ?_)
 ·rw[show valueG g a=0 from if_pos h]
  refine .B ?_
  exact r1
 ·have hgo:=hg h
  have e:sumW g.vars g.coefs a=valueG g a:=by
   rw[show valueG g a=bI g.vars g.coefs a from if_neg h]
   exact me (g:=atR a) hgo.len hgo.ck (by have:=hgo.weight;omega) (fun _ _=>rfl) fun u _=>xX ha u
  rw[e]at hs
  refine .B ?_
  refine .C hs ?_
  refine .B ?_
  exact r1
theorem tn {b:Mod}:(growR (domsM b) (domsM b).length).filter (cQ b)=solsR b.cons (domsM b):=by
 refine G0 fun a ha=> ?_
 obtain⟨h1,h2⟩:=jf.1 ha
 rw[Ed,om,DL]
 exact⟨fun h=>h.2.2,fun h=>⟨h1,h2,h⟩⟩
theorem zu {b:Mod}(hF:Fit b)(hs:smallD (domsM b) 65536=true):Spec Tryz.prog 21 false [.agg (cM b)] [.own 24 1 ((solsR b.cons (domsM b)).map cL),.val (.int .i64 0)]:=by
 refine Spec.body Tryz.func21 rfl rfl rfl fun w0 Z0=> ?_
 have hck:=nj b hF.mb
 rw[hF.ck]at hck
 have hds:=(kz b hF.mb).frz
 have fd:=hF.r.good.few
 have hsm:=m6 (domsM b) 65536 (by omega) fd
 rw[hs]at hsm
 have hdl:(domsM b).length≤1024:=by have:=hF.mb.vl;simpa[domsM]using this
 have hcnt: ∀n,n≤(domsM b).length→(growR (domsM b) n).length≤1048576:=fun n hn=>by
  rw[jg _ _ hn]
  have e:prodD (domsM b)=prodD ((domsM b).take n)*prodD ((domsM b).drop n):=by
   unfold prodD
   rw[←cU,←Di,Ea]
  have h2:1≤prodD ((domsM b).drop n):=jv fun x hx=>by
   obtain⟨y,hy,rfl⟩:=List.mem_map.1 hx
   have:=hF.r.good.one y (EL hy)
   omega
  have h3:=hF.p
  rw[e]at h3
  exact DO (F4 _ h2) h3
 have hgr:=(y4 (domsM b) (fun x hx=>(fd.fine x hx).domB) (by omega) (domsM b).length (DB _) (fun n hn=>by have:=hcnt n hn;omega)).frz
 have hlen:=hcnt _ (DB _)
 have hrow: ∀a∈growR (domsM b) (domsM b).length,a.length≤1024:=fun a ha=>by rw[jH _ _ a ha];exact hdl
 have hso:=fun a ha=>mY b a hF.mb fd hF.r.right (by have:=hrow a ha;omega)
 rw[←tn]
 have hdl2:((domsM b).map cD).length=(domsM b).length:=D6 _
 generalize growR (domsM b) (domsM b).length=l at*
 refine .B ?_
 refine .C hck ?_
 refine .B ?_
 refine T.cf rfl ?_
 refine .B ?_
 refine .C hds ?_
 refine .B ?_
 refine .C hsm ?_
 refine .B ?_
 refine T.cf rfl ?_
 refine .B ?_
 rw[hdl2]
 refine .C hgr ?_
 refine .B ?_
 refine .O ?_
 refine .B ?_
 refine T.K (T.listI l (fun _=>True) (fun n pre post=>⟨[(1,.optr 0 0 0 0),(6,.val true (aZ l)),(7,.ref 1),(8,.val true (.int .i64 n))],[(0,some (.box false (cM b))),(1,some (.sl 24 1 true ((pre.filter (cQ b)).map cL)))],2⟩) (fun _ _ h=>h) trivial ?_ ?_)
 ·rintro n pre a post h hn _ ih
  have hlt:=bY h hn
  have hsp:=hso a (by rw[h];simp)
  have hra:=aS (enc:=cL) h hn
  have hpl:(pre.filter (cQ b)).length≤l.length:=by
   have:=Du (cQ b) pre
   rw[h];simp;omega
  have ih1:=ih trivial
  rw[Ez,Di]at ih1
  refine .B ?_
  refine T.ct2 rfl (bX h hn) ?_
  refine .M ?_
  refine T.rdm 6 rfl (by kernel_rfl) rfl ?_
  refine .M ?_
  refine .I (r:=cL a) hra ?_
  refine .M ?_
  refine .C hsp ?_
  refine .M ?_
  cases hs:cQ b a with
  |true=>
   rw[hs]at hsp
   rw[show [a].filter (cQ b)=[a]by rw[FO,if_pos hs];rfl]at ih1
   refine .M ?_
   refine T.ct rfl ?_
   refine .B ?_
   refine .I (r:=cL a) hra ?_
   refine .B ?_
   refine .V ?_
   refine J.a rfl rfl rfl rfl rfl rfl rfl rfl rfl rfl rfl rfl rfl rfl rfl rfl rfl (cW rfl) (by show((List.map cL _).length+1)*24≤_;rw[D6];omega) ?_
   refine .B ?_
   rw[aj hlt (by omega)]
   exact T.K ih1
  |false=>
   rw[show [a].filter (cQ b)=[]by rw[FO,if_neg (by rw[hs];simp)];rfl,FT,EJ]at ih1
   refine .M ?_
   refine T.cf rfl ?_
   refine .B ?_
   rw[aj hlt (by omega)]
   exact T.K ih1
 ·intro _
  refine .B ?_
  refine T.cf2 rfl bl ?_
  refine .B ?_
  exact⟨_,.o rfl rfl rfl (fun _=> .inl rfl) (by simp) (.v rfl rfl rfl (fun _=>rfl) .nil)⟩
theorem z2 {l:List Nat}(h: ∀x∈l,1≤x):bA (l.map (· +1))≤2 ^ l.length*bA l:=by
 induction l with
 |nil=>simp[bA]
 |cons x l ih=>
  have h1:=h x (.head _)
  have h2:=ih fun y hy=>h y (.tail _ hy)
  rw[DJ,bA,bA,DK,Nat.pow_succ]
  calc (x+1)*bA (l.map (· +1))≤(2*x)*(2 ^ l.length*bA l):=Fi (by omega) h2
   _=2 ^ l.length*2*(x*bA l):=by rw[Nat.mul_comm 2 x,Gh x 2,GR x 2,Nat.mul_comm (2 ^ l.length) 2,Gh 2,GR x]
theorem zb {d:aa}(gd:GoodD d.length d)(hl:d.length≤10)(hp:prodD d≤300):enoughN d≤614401:=by
 have h1:=z2 (l:=d.map fun x=>(vals x).length) (fun x hx=>by
  obtain⟨y,hy,rfl⟩:=List.mem_map.1 hx
  have:=gd.one y hy
  omega)
 rw[EU,D6]at h1
 have h2:2 ^ d.length≤1024:=DO (Nat.pow_le_pow_right (by omega) hl) (by decide)
 have h3:2 ^ d.length*bA (d.map fun x=>(vals x).length)≤1024*300:=Fi h2 hp
 unfold enoughN
 have h4:bA (d.map fun x=>(vals x).length+1)=bA (d.map ((· +1)∘fun x=>(vals x).length)):=rfl
 omega
theorem vL {d:aa}{a b:Nat}(h:smallD d a=true)(hab:a≤b):smallD d b=true:=by
 unfold smallD at*
 rw[DL]at*
 intro k hk
 have:=h k hk
 rw[decide_eq_true_eq]at*
 omega
theorem zp (m:Mod):(domsM (boundM m)).length≤10:=by simp[domsM,boundM];omega
theorem Ai {m:Mod}{most:Nat}(h:okM m most=true):smallD (domsM m) most=true:=by
 unfold okM at h
 rw[DA]at h
 exact h.2
theorem wR {b:Mod}(h:Fit b): ∀a∈solsR b.cons (domsM b),cQ b a=true:=fun a ha=>by
 obtain⟨⟨h1,h2⟩,h3⟩:=gF.1 ha
 exact om.2 ⟨h1,h2,h3⟩
set_option maxHeartbeats 1000000 in
theorem wC (m:Mod)(budget:Int)(hm:ModI m):Spec Tryz.prog 5 true [.agg (cM m),.int .i64 budget] [.val (.bool true)]:=by
 refine Spec.body Tryz.func5 rfl rfl rfl fun w0 Z0=> ?_
 have hrs:=ul m 300 hm (by omega)
 have hb:=vh m
 have hfit:=fun h=>Cm (most:=300) hb h (by omega)
 have hsm:=fun h=>vL (Ai (m:=boundM m) (most:=300) h) (show 300≤65536 by omega)
 have hbl:=zp m
 generalize okM (boundM m) 300=ok at*
 generalize boundM m=b at*
 refine .B ?_
 refine .C hrs ?_
 refine .B ?_
 refine .W ?_
 refine .B ?_
 cases ok with
 |false=>
  refine T.ct rfl ?_
  refine .B ?_
  refine .C ix ?_
  refine .B ?_
  exact⟨_,.v rfl rfl rfl (fun h=>by cases h) .nil⟩
 |true=>
  obtain⟨hF,hp⟩:=hfit rfl
  have hen:=zb hF.r.good hbl hp
  have s0:=(zu hF (hsm rfl)).frz
  have s1:=(xP hF (min budget 400) (by omega)).frz
  have se:=uY b hF.mb hF.r.good.few (by omega)
  have s2:=(xP hF (enoughN (domsM b)) (by omega)).frz
  have s3:=AI hF (enoughN (domsM b)) (by omega)
  have hshA:=zO (left:=enoughN (domsM b)) hF (Dn _)
  have hshB:=B2 (left:=enoughN (domsM b)) hF (Dn _)
  have hwA:=vu hF hshA
  have hwB:(srchB b (enoughN (domsM b))).st.isSome=decide ((((solsR b.cons (domsM b)).map cL).length:Int) > 0):=by rw[B0 hF hshB,D6];exact decide_eq_decide.2 (by omega)
  have hacc:=xZ hF hshB
  have hsol:=xW hF (enoughN (domsM b))
  have hfirst:=Cn hF (min budget 400)
  have hw1:=fun h=>vu (left:=min budget 400) hF h
  have hbn:=oo hF
  have hsl:=zN (cons:=b.cons) (d:=domsM b)
  have hdl:(domsM b).length≤1024:=by omega
  have hss:=wR hF
  have hcnt:(solsR b.cons (domsM b)).length≤1048576:=by
   have h1:=Du (fun a=>b.cons.all fun c=>holdsR c a) (growR (domsM b) (domsM b).length)
   have h2:=jg (domsM b) _ (DB _)
   rw[DE (DB _)]at h2
   unfold solsR
   have:=hF.p
   omega
  rw[hshA]at s2
  rw[hshB,hwB]at s3
  rw[hwA]at s2
  have hsolv:=fun a (ha:a∈solsR b.cons (domsM b))=>mY b a hF.mb hF.r.good.few hF.r.right (by rw[hsl a ha];omega)
  have hval:=fun a (ha:a∈solsR b.cons (domsM b))=>tz b.goal a (fun hk=>hF.g.ok hk) hF.mb.gl.1 hF.mb.gl.2 (by rw[hsl a ha];omega) (hbn a ha)
  have hkinds:=hF.g.kind
  generalize enoughN (domsM b)=en at*
  generalize srchA b (min budget 400)=r1 at*
  generalize srchB b en=rb at*
  generalize solsR b.cons (domsM b)=A at*
  obtain⟨n1,sh1,ov1,l1⟩:=r1
  obtain⟨nb,shb,ovb,stb⟩:=rb
  simp only at hfirst hw1 hacc hsol hwB
  obtain⟨rest,hpre⟩:=hfirst
  have lA:aZ A= .sl (A.map cL):=rfl
  have s0:Spec Tryz.prog 21 false [.agg (cM b)] [.val (aZ A),.val (.int .i64 0)]:=s0
  have s1:Spec Tryz.prog 13 false [.agg (cM b),.int .i64 (min budget 400)] [.val (aZ l1),.val (.bool (!sh1)),.val (.int .i64 n1),.val (.int .i64 0)]:=s1
  have hl1:l1.length≤A.length:=by rw[hpre];simp
  have hx1: ∀x∈l1,x.length*8≤140737488355328:=fun x hx=>by rw[hsl x (by rw[hpre];exact DN _ hx)];omega
  have q1:=gg A A (by omega) (fun x hx=>by rw[hsl x hx];omega)
  rw[decide_eq_true rfl]at q1
  have q2:=gg l1 A (by omega) hx1
  refine T.cf rfl ?_
  have hpre2: ∀i (h:i<l1.length),A[i]'(by omega)=l1[i]:=fun i h=>by
   have:A[i]? =l1[i]? :=by rw[hpre,Dj h]
   rw[D1 h,D1 (by omega)]at this
   exact D2 this
  have hdone:sh1=false→decide (l1=A)=true:=fun h=>decide_eq_true (hw1 h)
  have hq2: ∀i (h:i<l1.length),Spec Tryz.prog 20 false [aq l1[i],aq l1[i]] [.val (.bool true)]:=fun i h=>by
   have:=jz l1[i] l1[i] (hx1 _ (D5 h))
   rwa[decide_eq_true rfl]at this
  have hbest: ∀c,stb=some c→Spec Tryz.prog 23 false [.agg (cM b),aq c] [.val (.bool true)]∧Spec Tryz.prog 24 false [.agg (cG b.goal),aq c] [.val (.int .i64 (valueG b.goal c))]:=fun c hc=>by
   have h1:=hsolv c (hsol c hc)
   rw[hss c (hsol c hc)]at h1
   exact⟨h1,hval c (hsol c hc)⟩
  have hvi:=fun i (h:i<A.length)=>hval A[i] (D5 h)
  have hnw: ∀i (h:i<A.length),b.goal.kind≠0→∃c,stb=some c∧cX b.goal (valueG b.goal c) (valueG b.goal A[i]):=fun i h hk=>by
   obtain⟨c,hc,hn⟩:=hacc A[i] (D5 h) (hbn _ (D5 h))
   exact⟨c,hc,hn hk⟩
  generalize hx:decide (((A.map cL).length:Int) > 0)=x at*
  refine .B ?_
  refine .C s0 ?_
  refine .B ?_
  refine .C s1 ?_
  refine .M ?_
  refine T.rdm 13 rfl (by kernel_rfl) rfl ?_
  refine .M ?_
  refine .C se ?_
  refine .M ?_
  refine .C s2 ?_
  refine .M ?_
  refine T.rdm 15 rfl (by kernel_rfl) rfl ?_
  refine .M ?_
  refine .C se ?_
  refine .M ?_
  refine .C s3 ?_
  iterate 11 refine J.H rfl ?_
  refine J.nil ?_
  refine J.nil ?_
  refine T.midr ⟨[(2,.optr 0 0 0 0),(6,.val true (aZ A)),(8,.val true (aZ l1)),(16,.val true (aq (stb.getD []))),(17,.val true (.bool x))],[(0,some (.box false (cM b)))],1⟩ ?_ ?_
  ·refine .M ?_
   refine .C q1 ?_
   refine .M ?_
   rw[hx]
   have hxx:(!(x==x))=false:=by cases x<;>rfl
   rw[hxx]
   cases sh1 with
   |false=>
    rw[hdone rfl]at q2
    refine .M ?_
    refine .C q2 ?_
    refine .M ?_
    refine T.cd rfl (fun h=> ?_) (fun h=> ?_)
    ·exfalso
     have h:=h
     rw[D6,D6]at h
     omega
    ·refine .M ?_
     exact⟨[2,6,8,16,17],[2],rfl,rfl⟩
   |true=>
    refine .M ?_
    refine T.cd rfl (fun h=> ?_) (fun h=> ?_)
    ·exfalso
     have h:=h
     rw[D6,D6]at h
     omega
    ·refine .M ?_
     exact⟨[2,6,8,16,17],[2],rfl,rfl⟩
  refine T.midr ⟨[(2,.optr 0 0 0 0),(6,.val true (aZ A)),(8,.val true (aZ l1)),(16,.val true (aq (stb.getD []))),(17,.val true (.bool x))],[(0,some (.box false (cM b)))],1⟩ ?_ ?_
  ·refine .B ?_
   refine T.K (T.ind (fun i:Nat=>⟨[(2,.optr 0 0 0 0),(6,.val true (aZ A)),(8,.val true (aZ l1)),(16,.val true (aq (stb.getD []))),(17,.val true (.bool x)),(21,.val true (.int .i64 i))],[(0,some (.box false (cM b)))],1⟩) (fun i=>i≤l1.length) (fun i=>l1.length-i) 0 (DU _) (fun _ _ h=>h) ?_)
   rintro i hi ih
   refine .B ?_
   refine T.cd rfl (fun h1=> ?_) (fun h1=> ?_)
   ·have h1:i<l1.length:=by have h:=h1;rw[D6]at h;omega
    have hra:=aL (enc:=cL) (l:=A) (show i<A.length by omega)
    rw[hpre2 i h1]at hra
    refine .M ?_
    refine T.rdm 10 rfl (by kernel_rfl) rfl ?_
    refine .M ?_
    refine .I (r:=cL l1[i]) (aL h1) ?_
    refine .M ?_
    refine .I (r:=cL l1[i]) hra ?_
    refine .M ?_
    refine .C (hq2 i h1) ?_
    refine .M ?_
    refine T.cf rfl ?_
    refine .B ?_
    rw[aj h1 (by omega)]
    exact T.K (ih (i+1) h1 (by omega))
   ·refine .M ?_
    exact⟨[2,6,8,16,17],[2],rfl,rfl⟩
  refine T.midr ⟨[(2,.optr 0 0 0 0),(6,.val true (aZ A)),(8,.val true (aZ l1)),(16,.val true (aq (stb.getD []))),(17,.val true (.bool x))],[(0,some (.box false (cM b)))],1⟩ ?_ ?_
  ·cases stb with
   |none=>
    obtain rfl:x=false:=hwB.symm
    refine .B ?_
    refine T.cf rfl ?_
    refine .B ?_
    exact⟨[2,6,8,16,17],[2],rfl,rfl⟩
   |some c=>
    obtain rfl:x=true:=hwB.symm
    refine .B ?_
    refine .C (hbest c rfl).1 ?_
    refine .B ?_
    refine T.cf rfl ?_
    refine .B ?_
    exact⟨[2,6,8,16,17],[2],rfl,rfl⟩
  refine .B ?_
  refine T.K (T.ind (fun i:Nat=>⟨[(2,.optr 0 0 0 0),(6,.val true (aZ A)),(16,.val true (aq (stb.getD []))),(22,.val true (.int .i64 i))],[(0,some (.box false (cM b)))],1⟩) (fun i=>i≤A.length) (fun i=>A.length-i) 0 (DU _) (fun _ _ h=>h) ?_)
  rintro i hi ih
  refine .B ?_
  refine J.g rfl rfl rfl (fun h1=> ?_) (fun h1=> ?_)
  ·have h1:i<A.length:=by have h:=h1;rw[D6]at h;omega
   refine .B ?_
   refine T.cd rfl (fun hk=> ?_) (fun hk=> ?_)
   ·have hk:b.goal.kind≠0:=hk
    obtain⟨c,hc,hn⟩:=hnw i h1 hk
    have hvc:=(hbest c hc).2
    have hva:=hvi i h1
    have hkk:=(hkinds.resolve_left hk).1
    subst hc
    unfold cX at hn
    generalize valueG b.goal c=w at*
    generalize valueG b.goal A[i]=v at*
    refine .M ?_
    refine T.rdm 13 rfl (by kernel_rfl) rfl ?_
    refine .M ?_
    refine .I (r:=cL A[i]) (aL h1) ?_
    refine .M ?_
    refine .C hva ?_
    refine .M ?_
    refine .C hvc ?_
    refine .M ?_
    refine J.g rfl rfl rfl (fun h2=> ?_) (fun h2=> ?_)
    ·have h2:b.goal.kind=1:=h2
     rw[if_neg (by omega)]at hn
     refine .B ?_
     refine J.g rfl rfl rfl (fun h3=>absurd h3 (by show¬v<w;omega)) (fun h3=> ?_)
     refine .B ?_
     refine J.g rfl rfl rfl (fun h4=>absurd h4 (by show¬b.goal.kind=2;omega)) (fun h4=> ?_)
     refine .B ?_
     refine T.cf rfl ?_
     refine .B ?_
     rw[aj h1 (by omega)]
     exact T.K (ih (i+1) h1 (by omega))
    ·have h2: ¬b.goal.kind=1:=h2
     rw[if_pos (by omega)]at hn
     refine .B ?_
     refine J.g rfl rfl rfl (fun h3=> ?_) (fun h3=>absurd (show b.goal.kind=2 by omega) h3)
     refine .B ?_
     refine T.cd rfl (fun h4=>absurd h4 (by show¬v > w;omega)) (fun h4=> ?_)
     refine .B ?_
     rw[aj h1 (by omega)]
     exact T.K (ih (i+1) h1 (by omega))
   ·refine .B ?_
    refine .C ix ?_
    refine .B ?_
    exact⟨_,.v rfl rfl rfl (fun h=>by cases h) .nil⟩
  ·refine .B ?_
   refine T.cf rfl ?_
   refine .B ?_
   refine .C ix ?_
   refine .B ?_
   exact⟨_,.v rfl rfl rfl (fun h=>by cases h) .nil⟩
set_option maxRecDepth 100000
section
variable {H:Type}{henc:TypeId×Value→H}{w:World}
theorem f9:dF henc Tryz.prog w 3 cI (fun n=> -9223372036854775808≤n∧n≤9223372036854775807):=yF (by kernel_rfl)
theorem jb:dF henc Tryz.prog w 24 (fun l=>[aq l]) (fun l=>l.length*8≤reachBytes):=
 (eV (t:=24) (e:=3) (by kernel_rfl) f9 (fun _=>by kernel_rfl) (by decide +kernel) (fun a p hp=>by simp[cI]at hp;subst hp;rfl)).map id (fun _=>rfl) fun l h=>h.1
theorem Af:dF henc Tryz.prog w 34 (fun l=>[aZ l]) (fun l=>l.length*24≤reachBytes∧∀x∈l,x.length*8≤reachBytes):=
 (eV (t:=34) (e:=24) (by kernel_rfl) jb (fun _=>by kernel_rfl) (by decide +kernel) (fun a p hp=>by simp at hp;subst hp;rfl)).map id (fun _=>rfl) fun l h=>h
theorem yG:dF henc Tryz.prog w 51 cC ConB:=by
 have h:=dY (henc:=henc) (w:=w) Tryz.underlying51 (aP f9 rfl (aP jb (by kernel_rfl) (aP jb (by kernel_rfl) (aP f9 (by kernel_rfl) (aP f9 (by kernel_rfl) (aP Af (by kernel_rfl) (aP f9 (by kernel_rfl) (fI _)))))))) (by kernel_rfl)
 refine h.map (fun x=>(⟨x.1,x.2.1,x.2.2.1,x.2.2.2.1,x.2.2.2.2.1,x.2.2.2.2.2.1,x.2.2.2.2.2.2.1⟩:Con)) (fun _=>rfl) fun x h=> ?_
 obtain⟨_,h1,h2,_,_,h3,_⟩:=h
 have e:reachBytes=140737488351232:=rfl
 rw[e]at h1 h2 h3
 exact⟨by simp only;omega,by simp only;omega,by simp only;omega,fun y hy=>by have:=h3.2 y hy;omega⟩
end
end Go.Proofs.YtopcjbahjjhdmaaGreat
namespace Go.Proofs.YtopcjbahjjhdmaaGreat
open Go Go.RowKit
set_option linter.unusedVariables false
set_option maxRecDepth 100000
section
variable {H:Type}{henc:TypeId×Value→H}{w:World}
theorem Bh:dF henc Tryz.prog w 9 (fun s:ByteArray=>[.str s]) (fun _=>True):=by
 intro fuel cs x h _ _
 obtain⟨s,rfl,_,_⟩:=DataW.trod_string (show Tryz.prog.underlying 9=some .string by kernel_rfl) h
 exact⟨s,.cons (.str _) .nil,trivial⟩
theorem tW:dF henc Tryz.prog w 53 cR (fun _=>True):=by
 have h:=dY (henc:=henc) (w:=w) Tryz.underlying53 (aP f9 rfl (aP f9 (by kernel_rfl) (fI _))) (by kernel_rfl)
 exact h.map (fun x=>(x.1,x.2.1)) (fun _=>rfl) fun _ _=>trivial
theorem Bi:dF henc Tryz.prog w 54 (fun l=>[dm l]) (fun l=>l.length*16≤reachBytes):=
 (eV (t:=54) (e:=53) (by kernel_rfl) tW (fun _=>by kernel_rfl) (by decide +kernel) (fun a p hp=>by simp[cR]at hp;rcases hp with rfl|rfl<;>rfl)).map id (fun _=>rfl) fun l h=>h.1
theorem yD:dF henc Tryz.prog w 56 cV (fun v=>v.2.length*16≤reachBytes):=by
 have h:=dY (henc:=henc) (w:=w) Tryz.underlying56 (aP Bh rfl (aP Bi (by kernel_rfl) (fI _))) (by kernel_rfl)
 exact h.map (fun x=>(x.1,x.2.1)) (fun _=>rfl) fun x h=>h.2.1
theorem v8:dF henc Tryz.prog w 22 (fun l:List (ByteArray×List (Int×Int))=>[.sl (l.map cV)]) (fun l=>l.length*40≤reachBytes∧∀v∈l,v.2.length*16≤reachBytes):=
 (eV (t:=22) (e:=56) (by kernel_rfl) yD (fun _=>by kernel_rfl) (by decide +kernel) (fun a p hp=>by simp[cV]at hp;rcases hp with rfl|rfl<;>rfl)).map id (fun _=>rfl) fun l h=>h
theorem wg:dF henc Tryz.prog w 51 cC (fun c=>c.vars.length*8≤140737488355328∧c.coefs.length*8≤140737488355328∧c.rows.length*8≤140737488355328∧∀r∈c.rows,r.length*8≤140737488355328):=
 yG.map id (fun _=>rfl) fun c h=>by obtain⟨h1,h2,h3,h4⟩:=h;exact⟨by simp only[id];omega,h2,by simp only[id];omega,h4⟩
theorem we:dF henc Tryz.prog w 23 (fun l=>[cF l]) (fun l=>l.length*104≤reachBytes∧∀c∈l,c.vars.length*8≤140737488355328∧c.coefs.length*8≤140737488355328∧c.rows.length*8≤140737488355328∧∀r∈c.rows,r.length*8≤140737488355328):=
 (eV (t:=23) (e:=51) (by kernel_rfl) wg (fun _=>by kernel_rfl) (by decide +kernel) (fun a p hp=>by simp[cC]at hp;rcases hp with rfl|rfl|rfl|rfl|rfl|rfl|rfl<;>rfl)).map id (fun _=>rfl) fun l h=>h
theorem wc:dF henc Tryz.prog w 26 cG (fun g=>g.vars.length*8≤reachBytes∧g.coefs.length*8≤reachBytes):=by
 have h:=dY (henc:=henc) (w:=w) Tryz.underlying26 (aP f9 rfl (aP jb (by kernel_rfl) (aP jb (by kernel_rfl) (fI _)))) (by kernel_rfl)
 exact h.map (fun x=>(⟨x.1,x.2.1,x.2.2.1⟩:Goal)) (fun _=>rfl) fun x h=>⟨h.2.1,h.2.2.1⟩
theorem yE:dF henc Tryz.prog w 28 cM ModI:=by
 have h:=dY (henc:=henc) (w:=w) Tryz.underlying28 (aP v8 rfl (aP we (by kernel_rfl) (aP wc (by kernel_rfl) (fI _)))) (by kernel_rfl)
 refine h.map (fun x=>(⟨x.1,x.2.1,x.2.2.1⟩:Mod)) (fun _=>by simp[cM,cG]) fun x h=> ?_
 obtain⟨⟨h1,h2⟩,⟨h3,h4⟩,⟨h5,h6⟩,_⟩:=h
 have e:reachBytes=140737488351232:=rfl
 rw[e]at h1 h3 h5 h6
 exact⟨fun v hv=>by have:=h2 v hv;rw[e]at this;omega,by simp only;omega,by simp only;omega,h4,by simp only;omega⟩
theorem Bn (m:Mod): ∀p∈cM m,p.one=true:=by
 intro p hp
 simp[cM,cF]at hp
 rcases hp with rfl|rfl|rfl|rfl|rfl<;>rfl
end
end Go.Proofs.YtopcjbahjjhdmaaGreat
namespace Go.Proofs.YtopcjbahjjhdmaaGreat.searchWhole
open Go.ChangeShapes Go.WideShapes Go.ChangeAt Go.RowKit
theorem own:ownKnob Tryz.prog.godebug=none:=by kernel_rfl
theorem laidOut:laidOutB Tryz.prog=true:=by kernel_rfl
set_option maxRecDepth 100000 in
theorem lifted (os:Os)(started:os.Started)(H:Type)(enc:TypeId×Value→H):
  ReturnsInHanded {} Tryz.checked os 5 .any (Rows.searchWholeSpec.pre6 enc Tryz.prog Tryz.f5 Rows.searchWholeRow.domain false) (Rows.searchWholeSpec.post enc Tryz.prog Tryz.f5 false true false false):=by
 refine returnsInHanded_of_change_sized (C:=Tryz.checked) own started (by kernel_rfl) Tryz.func5
  (ChangeSpec.witness6 (enc:=enc) (C:=Tryz.checked) false ⟨#[],#[.agg #[.slice none 0 0,.slice none 0 0,.int .i64 0,.slice none 0 0,.slice none 0 0],.int .i64 0],[]⟩ 8 (by kernel_rfl) (by kernel_rfl) (by kernel_rfl) (by kernel_rfl)) ?_
 intro W base args ds gs before hval0 hW hcnd hsz0 _
 have hsz:(DataW.weightsEach Tryz.prog (Tryz.f5.params.toList++Rows.searchWholeSpec.plain.varTypes Tryz.prog) (ds++gs)).all (· ≤reachBytes)=true:=hsz0
 have hval: ∀(j:Nat) t v,Tryz.f5.params[j]? =some t→args[j]? =some v→Value.okWide Tryz.prog W .any base t v:=hval0
 have hW':=hW
 obtain⟨p,q,hA0,hV,rfl,hfz,hnd⟩:=hW
 have hA:DataW.TrodAll enc Tryz.prog W 0 (fun _=>true) true Tryz.f5.params.toList args.toList ds p:=hA0
 rw[Tryz.params5]at hA hval hsz
 obtain⟨v0,vs0,d0,ds0,p0,q0,hargs,rfl,rfl,h0,r0⟩:=trodAll_cons hA
 obtain⟨v1,vs1,d1,ds1,p1,q1,rfl,rfl,rfl,h1,r1⟩:=trodAll_cons r0
 obtain⟨rfl,rfl,rfl⟩:=trodAll_nil r1
 obtain rfl:args= #[v0,v1]:=by cases args;simp_all
 obtain⟨rfl,rfl⟩:=trodVars_none hV
 have hv0:=hval 0 28 v0 rfl rfl
 obtain⟨cs0,rfl,_,_⟩: ∃cs,v0= .agg cs∧cs.size=Tryz.prog.cellsOf 28∧Row.okWide Tryz.prog W .any base 28 cs:=by
  unfold Value.okWide at hv0
  rw[Tryz.underlying28]at hv0
  exact hv0
 have k0:=h0
 have lt0: ∀x∈p0,x.block<W.heap.size:=by obtain⟨m,hm⟩:=k0;exact DataW.trod_lt m _ _ _ hm
 obtain⟨fuel0,hf0⟩:=h0
 obtain⟨budget,rfl,rfl,rfl,w1⟩:=open_int Tryz.underlying3 (hval 1 3 v1 rfl rfl) h1
 have hw:(DataW.weightsEach Tryz.prog (28::3::Rows.searchWholeSpec.plain.varTypes Tryz.prog) (d0:: .lit (.int .i64 budget)::[])).all (· ≤reachBytes)=true:=hsz
 rw[DataW.weightsEach,EP,DA]at hw
 obtain⟨hw0,hw⟩:=hw
 rw[DataW.weightsEach,EP,DA]at hw
 obtain⟨hw1,hw⟩:=hw
 obtain⟨m,hrep0,hm⟩:=yE fuel0 _ (d0,p0) hf0 hw0 (nf hfz fun p hp=>by simp[hp])
 clear hA0 hval0 hsz0 hsz hw
 have hcs0:(Value.agg cs0).cells.toList=cs0.toList:=rfl
 rw[hcs0]at hrep0
 have harg0:Rep W (fun _=>True) (.agg cs0) (.agg (cM m)):=by
  have:=Rep.agg (w:=W) (Z:=fun _=>True) cs0.toList (cM m) hrep0 (Bn m)
  simpa using this
 refine((wC m budget hm).out W (fun _=>True) [.agg cs0,.int .i64 budget] (.cons harg0 (.cons (.int _ _) .nil))).mono fun e W' ⟨rs,he,bel,hret⟩=> ?_
 have hrs:rs=[.bool true]:=by
  have h:=hret.each
  cases h with
  |cons h1 h2=>cases h2;cases h1;rfl
 subst hrs
 subst he
 exact⟨_,rfl,_,_,_,[],_,[],hW',trodAll_mk1 (shut_bool Tryz.underlying4 _),trodAll_cons_mk (Below.trod laidOut (by kernel_rfl) (of_decide_eq_true (by kernel_rfl)) k0 bel lt0) (trodAll_cons_mk (shut_int Tryz.underlying3 w1) trodAll_mk0),rfl,bel.frame _,fun h=>by cases h⟩
theorem over:Rows.searchWholeRow.holds Tryz.pinned (OpenSpec.ofChange Rows.searchWholeSpec):=
 OpenClaim.holds_of_wide 5 Tryz.f5 rfl rfl rfl rfl rfl rfl rfl ⟨rfl,rfl,rfl,rfl,rfl⟩ rfl rfl rfl rfl rfl (by kernel_rfl) Tryz.func5 (by kernel_rfl)
  (of_decide_eq_true (by kernel_rfl)) (by unfold Func.isWrapper;first|(rw[if_pos (by decide +kernel)];kernel_rfl)|(rw[if_neg (by decide +kernel)];exact⟨rfl,rfl⟩))
  (fun os started H enc _=>lifted os started H enc)
theorem proved:Rows.SearchWholeSaid:=over
#print axioms proved
end Go.Proofs.YtopcjbahjjhdmaaGreat.searchWhole
namespace Go.Proofs.YtopcjbahjjhdmaaGreat
theorem searchWhole_holds:Rows.SearchWholeSaid:=searchWhole.proved
end Go.Proofs.YtopcjbahjjhdmaaGreat
