/- The texts FnA, FvQ, FnB, FnC, FnD, FnE, ItA, ItB, FnF, FnG, FnH, FnI, FnJ, FnK, FnL, FnM, FnN, FuA, FuB, PuL, ShS, FuC, FuD, FnO, PuA, PuB of the workplace, joined. -/
import Derived.Test.YtopcjbahjjhdmaaGreatB4
import Derived.Test.YtopcjbahjjhdmaaGreatProg
import Derived.RangeFuncBox
import Derived.RangeFuncWrites
import Derived.RangeFuncCalls
import Derived.RangeFuncLeaves
import Derived.Shelf.Abstract
import Derived.WalkKit
import Derived.OwnWalkIn
import Derived.TacticsInMore
import Derived.LoopNIn
import Derived.LoopIn
import Derived.Maps.AppendAt
import Derived.Shelf.Sort.Plain
import Derived.Shelf.Slices.In.SortNone
namespace Go.Proofs.YtopcjbahjjhdmaaGreat
open Go Go.RowKit
set_option linter.unusedVariables false
set_option maxRecDepth 4000
def aH (v:Int):Bool:=decide (-1048576≤v∧v≤1048576)
theorem jU (v:Int):Spec Tryz.prog 60 false [.int .i64 v] [.val (.bool (aH v))]:=by
 refine Spec.body Tryz.func60 rfl rfl rfl fun w0 Z0=> ?_
 refine .B ?_
 refine J.g rfl rfl rfl (fun h=> ?_) (fun h=> ?_)
 ·refine .B ?_
  exact⟨_,.v rfl rfl (by simp[aH,show -1048576≤v from h]) (fun _=>rfl) .nil⟩
 ·refine .B ?_
  exact⟨_,.v rfl rfl (by simp[aH,show¬-1048576≤v from h]) (fun _=>rfl) .nil⟩
theorem oW (l:List Int)(v:Int)(hl:l.length≤9223372036854775806):Spec Tryz.prog 48 false [av l,.int .i64 v] [.val (.bool (decide (v∈l)))]:=by
 refine Spec.body Tryz.func48 rfl rfl rfl fun w0 Z0=> ?_
 refine .B ?_
 ·refine T.K (T.ind (fun i:Nat=>⟨[(0,.val false (av l)),(1,.val false (.int .i64 v)),(5,.val true (.int .i64 i))],[],0⟩) (fun i=>i≤l.length∧∀x∈l.take i,x≠v) (fun i=>l.length-i) 0 (by simp) (fun _ _ h=>h) ?_)
  rintro i ⟨hi,hx⟩ ih
  refine .B ?_
  refine T.cd rfl (fun h=> ?_) (fun h=> ?_)
  ·simp at h
   refine .B ?_
   refine J.i rfl rfl rfl rfl rfl rfl rfl rfl rfl (r:=cI l[i]) (by omega) (by simp[h]) rfl ?_
   refine .B ?_
   refine T.cd rfl (fun h2=> ?_) (fun h2=> ?_)
   ·refine .B ?_
    exact⟨_,.v rfl rfl (by rw[←h2];simp) (fun _=>rfl) .nil⟩
   ·refine .B ?_
    rw[ae (by omega) (by omega)]
    refine T.K (ih (i+1) ⟨by omega,?_⟩ (by omega))
    intro x hm
    rw[C7 h]at hm
    simp only[Dl,DL]at hm
    rcases hm with hm|hm
    ·exact hx x hm
    ·rw[hm];exact h2
  ·simp at h
   refine .B ?_
   refine⟨_,.v rfl rfl ?_ (fun _=>rfl) .nil⟩
   rw[CV h]at hx
   simp only[PV.bool.injEq,Bool.false_eq,decide_eq_false_iff_not]
   exact fun hm=>hx v hm rfl
def mg (v:Int):List Int→List Int
 | []=>[v]
 |x::xs=>if v<x then v::x::xs else x::mg v xs
def insU (v:Int)(l:List Int):List Int:=if v∈l then l else mg v l
def aV (l:List Int):List Int:=l.foldl (fun out v=>insU v out) []
theorem mS (v:Int): ∀l,(mg v l).length=l.length+1
 | []=>rfl
 |x::xs=>by simp only[mg];split<;>simp[mS v xs]
theorem ue (v:Int)(l:List Int):(insU v l).length≤l.length+1:=by
 unfold insU;split
 ·omega
 ·rw[mS];omega
theorem jD: ∀(l out:List Int),(l.foldl (fun out v=>insU v out) out).length≤out.length+l.length
 | [],out=>by simp
 |v::l,out=>by
  have h1:=jD l (insU v out)
  have h2:=ue v out
  simp only[CZ,D0]
  omega
theorem e8 (l:List Int):(aV l).length≤l.length:=by have:=jD l [];simpa[aV]using this
set_option linter.unusedSimpArgs false
set_option maxRecDepth 8000
def byteI (s:ByteArray)(i:Nat):UInt8:=(s[i]?).getD 0
def letB (b:UInt8):Bool:=decide ((b.toNat:Int)≥97)&&decide ((b.toNat:Int)≤122)
def badI (i:Nat)(b:UInt8):Bool:= !letB b&&(decide ((i:Int)=0)||(decide ((b.toNat:Int)≠95)&&(decide ((b.toNat:Int)<48)||decide ((b.toNat:Int) > 57))))
def fG (s:ByteArray):Bool:=((List.range s.size).all fun i=> !badI i (byteI s i))&&(!(s.toList==(⟨#[]⟩:ByteArray).toList)&&decide ((s.size:Int)≤16))
theorem yp (s:ByteArray)(hs:s.size≤140737488355328):Spec Tryz.prog 30 false [.str s] [.val (.bool (fG s))]:=by
 refine Spec.body Tryz.func30 rfl rfl rfl fun w0 Z0=> ?_
 generalize hR:fG s=R
 refine .B ?_
 refine T.K (T.ind (fun i:Nat=>⟨[(0,.val false (.str s)),(3,.val true (.int .i64 i))],[],0⟩) (fun i=>i≤s.size∧∀j,j<i→badI j (byteI s j)=false) (fun i=>s.size-i) 0 ⟨DC _,fun j hj=>absurd hj (DY j)⟩ (fun _ _ h=>h) ?_)
 rintro i ⟨hi,hb⟩ ih
 refine .B ?_
 refine T.cd rfl (fun h1=> ?_) (fun h1=> ?_)
 ·have h1:i<s.size:=by omega
  have hw:IntKind.i64.wrap ((i:Int)+1)=((i+1:Nat):Int):=by rw[ae (by omega) (by omega)];omega
  have hbi:s[((i:Nat):Int).toNat]? =some (byteI s i):=by
   rw[D1];unfold byteI
   rw[getElem?_pos s i h1];rfl
  have hno:badI i (byteI s i)=true→R=false:=fun h=>by
   rw[←hR]
   unfold fG
   have:((List.range s.size).all fun i=> !badI i (byteI s i))=false:=by
    rw[FV]
    exact⟨i,List.mem_range.2 h1,by rw[h];simp⟩
   rw[this];rfl
  have ih1:=fun h:badI i (byteI s i)=false=>ih (i+1) ⟨by omega,fun j hj=>by
   by_cases e:j=i
   ·rw[e];exact h
   ·exact hb j (by omega)⟩ (by omega)
  have hbd:badI i (byteI s i)=(!letB (byteI s i)&&(decide ((i:Int)=0)||(decide (((byteI s i).toNat:Int)≠95)&&(decide (((byteI s i).toNat:Int)<48)||decide (((byteI s i).toNat:Int) > 57))))):=rfl
  have hlt:letB (byteI s i)=(decide (((byteI s i).toNat:Int)≥97)&&decide (((byteI s i).toNat:Int)≤122)):=rfl
  generalize badI i (byteI s i)=bad at*
  generalize letB (byteI s i)=lt at*
  generalize byteI s i=b at*
  refine .B ?_
  refine J.xs rfl rfl rfl rfl rfl rfl rfl (by omega) hbi ?_
  refine .B ?_
  cases h1:decide ((b.toNat:Int)≥97)
  ·refine .B ?_
   cases h3:decide ((i:Int)=0)
   ·refine .B ?_
    refine J.xs rfl rfl rfl rfl rfl rfl rfl (by omega) hbi ?_
    refine .B ?_
    cases h4:decide ((b.toNat:Int)≠95);rotate_left
    ·refine .B ?_
     refine J.xs rfl rfl rfl rfl rfl rfl rfl (by omega) hbi ?_
     refine .B ?_
     cases h5:decide ((b.toNat:Int)<48)
     ·refine .B ?_
      refine J.xs rfl rfl rfl rfl rfl rfl rfl (by omega) hbi ?_
      refine .B ?_
      cases h6:decide ((b.toNat:Int) > 57)
      ·refine .B ?_
       refine T.cf rfl ?_
       refine .B ?_
       rw[hw]
       exact T.K (ih1 (by rw[hbd,hlt,h1,h3,h4,h5,h6];rfl))
      ·refine .B ?_
       refine T.ct rfl ?_
       refine .B ?_
       rw[hno (by rw[hbd,hlt,h1,h3,h4,h5,h6];rfl)]
       exact r1
     ·refine .B ?_
      refine T.ct rfl ?_
      refine .B ?_
      rw[hno (by rw[hbd,hlt,h1,h3,h4,h5];rfl)]
      exact r1
    ·refine .B ?_
     refine T.cf rfl ?_
     refine .B ?_
     rw[hw]
     exact T.K (ih1 (by rw[hbd,hlt,h1,h3,h4];rfl))
   ·refine .B ?_
    refine T.ct rfl ?_
    refine .B ?_
    rw[hno (by rw[hbd,hlt,h1,h3];rfl)]
    exact r1
  ·refine .B ?_
   refine J.xs rfl rfl rfl rfl rfl rfl rfl (by omega) hbi ?_
   refine .B ?_
   cases h2:decide ((b.toNat:Int)≤122)
   ·refine .B ?_
    cases h3:decide ((i:Int)=0)
    ·refine .B ?_
     refine J.xs rfl rfl rfl rfl rfl rfl rfl (by omega) hbi ?_
     refine .B ?_
     cases h4:decide ((b.toNat:Int)≠95);rotate_left
     ·refine .B ?_
      refine J.xs rfl rfl rfl rfl rfl rfl rfl (by omega) hbi ?_
      refine .B ?_
      cases h5:decide ((b.toNat:Int)<48)
      ·refine .B ?_
       refine J.xs rfl rfl rfl rfl rfl rfl rfl (by omega) hbi ?_
       refine .B ?_
       cases h6:decide ((b.toNat:Int) > 57)
       ·refine .B ?_
        refine T.cf rfl ?_
        refine .B ?_
        rw[hw]
        exact T.K (ih1 (by rw[hbd,hlt,h1,h2,h3,h4,h5,h6];rfl))
       ·refine .B ?_
        refine T.ct rfl ?_
        refine .B ?_
        rw[hno (by rw[hbd,hlt,h1,h2,h3,h4,h5,h6];rfl)]
        exact r1
      ·refine .B ?_
       refine T.ct rfl ?_
       refine .B ?_
       rw[hno (by rw[hbd,hlt,h1,h2,h3,h4,h5];rfl)]
       exact r1
     ·refine .B ?_
      refine T.cf rfl ?_
      refine .B ?_
      rw[hw]
      exact T.K (ih1 (by rw[hbd,hlt,h1,h2,h3,h4];rfl))
    ·refine .B ?_
     refine T.ct rfl ?_
     refine .B ?_
     rw[hno (by rw[hbd,hlt,h1,h2,h3];rfl)]
     exact r1
   ·refine .B ?_
    refine T.cf rfl ?_
    refine .B ?_
    rw[hw]
    exact T.K (ih1 (by rw[hbd,hlt,h1,h2];rfl))
 ·have h1:i=s.size:=by omega
  subst h1
  have hall:((List.range s.size).all fun i=> !badI i (byteI s i))=true:=by
   rw[DA]
   intro j hj
   rw[hb j (List.mem_range.1 hj)];rfl
  have hR2:R=(!(s.toList==(⟨#[]⟩:ByteArray).toList)&&decide ((s.size:Int)≤16)):=by
   rw[←hR];unfold fG;rw[hall];rfl
  refine .B ?_
  cases h2:(s.toList==(⟨#[]⟩:ByteArray).toList)
  ·rw[h2]at hR2
   refine .B ?_
   rw[hR2]
   exact r1
  ·rw[h2]at hR2
   refine .B ?_
   rw[hR2]
   exact r1
set_option maxRecDepth 4000
def rng (lo hi:Int):List Int:=(List.range (hi+1-lo).toNat).map (fun k:Nat=>lo+k)
def vals (d:List (Int×Int)):List Int:=d.flatMap fun r=>rng r.1 r.2
def InB (d:List (Int×Int)):Prop:= ∀r∈d,-1048576≤r.1∧r.1≤1048576∧-1048576≤r.2∧r.2≤1048576
theorem pT {l:List Int}{v:Int}:l.map cI++[(PV.int .i64 v).cells]=(l++[v]).map cI:=by simp[cI,PV.cells]
theorem zA (lo:Int)(k:Nat):(List.range (k+1)).map (fun k:Nat=>lo+k)=(List.range k).map (fun k:Nat=>lo+k)++[lo+k]:=by simp[FM]
theorem mz (d:List (Int×Int))(hb:InB d)(hl:(vals d).length*8≤140737488355328)(hd:d.length*16≤140737488355328):Spec Tryz.prog 47 false [dm d] [.own 3 1 ((vals d).map cI)]:=by
 refine Spec.body Tryz.func47 rfl rfl rfl fun w0 Z0=> ?_
 refine .B ?_
 refine .O ?_
 refine .B ?_
 refine T.K (T.list d (fun n pre post=>⟨[(0,.val false (dm d)),(3,.ref 0),(4,.val true (.int .i64 n))],[(0,some (.sl 3 1 true ((vals pre).map cI)))],1⟩) (fun _ _ h=>h) ?_ ?_)
 ·rintro n pre x post h hn ih
  have hx:=hb x (by rw[h];simp)
  have hd1:pre.length<d.length:=by rw[h];simp
  have hlen:(vals pre).length+(rng x.1 x.2).length≤(vals d).length:=by rw[h];simp[vals]
  refine .B ?_
  refine T.ct2 rfl (bX h hn) ?_
  refine .B ?_
  refine .I (r:=cR x) (aS h hn) ?_
  refine .B ?_
  refine T.K (T.ind (fun(s:Int×List Int)=>⟨[(0,.val false (dm d)),(4,.val true (.int .i64 n)),(5,.val true (.int .i64 s.1)),(3,.ref 0)],[(0,some (.sl 3 1 true (s.2.map cI)))],1⟩)
   (fun s=> ∃k,k≤(x.2+1-x.1).toNat∧s.1=x.1+k∧s.2=vals pre++(List.range k).map (fun k:Nat=>x.1+k)) (fun s=>(x.2+1-s.1).toNat) (x.1,vals pre) ⟨0,by simp⟩ (fun _ _ h=>h) ?_)
  rintro⟨v,acc⟩ ⟨k,hk,hv,hacc⟩ ih2
  simp only at hv hacc ih2
  refine .B ?_
  refine .I (r:=cR x) (aS h hn) ?_
  refine .B ?_
  refine T.cd rfl (fun h1=> ?_) (fun h1=> ?_)
  ·simp only at h1
   refine .B ?_
   have hk2:k+1≤(x.2+1-x.1).toNat:=by omega
   have hlr:(rng x.1 x.2).length=(x.2+1-x.1).toNat:=by simp[rng]
   refine .V ?_
   refine .B ?_
   refine J.a rfl rfl rfl rfl rfl rfl rfl rfl rfl rfl rfl rfl rfl rfl rfl rfl rfl (cB rfl) (by show(List.length _+1)*8≤_;simp[hacc];omega) ?_
   refine .B ?_
   rw[ae (by omega) (by omega),pT]
   exact T.K (ih2 (v+1,acc++[v]) ⟨k+1,hk2,by simp only;omega,by simp only;rw[zA,←DD,←hacc,←hv]⟩ (by simp only;omega))
  ·simp only at h1
   refine .B ?_
   rw[ak (bY h hn) (by omega)]
   have hk2:k=(x.2+1-x.1).toNat:=by omega
   have e:vals (pre++[x])=acc:=by rw[hacc,hk2];simp[vals,rng]
   rw[e]at ih
   exact T.K ih
 ·refine .B ?_
  refine T.cf2 rfl bl ?_
  refine .B ?_
  exact⟨_,.o rfl rfl rfl (fun _=> .inl rfl) (by simp) .nil⟩
def bf (v:Int)(s:List Int×Bool)(x:Int):List Int×Bool:=if s.2=false∧v<x then(s.1++[v]++[x],true)else(s.1++[x],s.2)
def mh (v:Int)(s:List Int×Bool):List Int:=if s.2 then s.1 else s.1++[v]
def Bf (v:Int)(out:List Int):List Int:=mh v (out.foldl (bf v) ([],decide (v∈out)))
theorem fk (v:Int): ∀(out acc:List Int),out.foldl (bf v) (acc,true)=(acc++out,true)
 | [],acc=>by simp
 |x::out,acc=>by simp[bf,fk v out]
theorem jK (v:Int): ∀(out acc:List Int),mh v (out.foldl (bf v) (acc,false))=acc++mg v out
 | [],acc=>by simp[mg,mh]
 |x::out,acc=>by
  simp only[CZ,mg]
  by_cases h:v<x
  ·rw[if_pos h]
   have:bf v (acc,false) x=(acc++[v]++[x],true):=by simp[bf,h]
   rw[this,fk]
   simp[mh]
  ·rw[if_neg h]
   have:bf v (acc,false) x=(acc++[x],false):=by simp[bf,h]
   rw[this,jK v out (acc++[x])]
   simp
theorem Be (v:Int)(out:List Int):Bf v out=insU v out:=by
 unfold Bf insU
 by_cases h:v∈out
 ·simp[h,fk,mh]
 ·have:=jK v out []
  simpa[h]using this
theorem i5 (v:Int): ∀(out:List Int) (s:List Int×Bool),(out.foldl (bf v) s).1.length≤s.1.length+out.length+1∧((out.foldl (bf v) s).2=false→(out.foldl (bf v) s).1.length=s.1.length+out.length)
 | [],s=>by simp
 |x::out,s=>by
  have h:=i5 v out (bf v s x)
  simp only[CZ,D0]
  by_cases hc:s.2=false∧v<x
  ·have e:bf v s x=(s.1++[v]++[x],true):=by simp[bf,hc]
   rw[e,fk]
   simp;omega
  ·have e:bf v s x=(s.1++[x],s.2):=by simp only[bf,if_neg hc]
   rw[e]at h⊢
   simp at h
   constructor
   ·omega
   ·intro h2;have:=h.2 h2;omega
theorem iQ (l:List Int)(hl:l.length*8≤140737488355328):Spec Tryz.prog 52 false [av l] [.own 3 1 ((aV l).map cI)]:=by
 refine Spec.body Tryz.func52 rfl rfl rfl fun w0 Z0=> ?_
 refine .B ?_
 refine .O ?_
 refine .B ?_
 refine T.K (T.list l (fun n pre post=>⟨[(0,.val false (av l)),(3,.ref 0),(4,.val true (.int .i64 n))],[(0,some (.sl 3 1 true ((aV pre).map cI)))],1⟩) (fun _ _ h=>h) ?_ ?_)
 ·rintro n pre x post h hn ih
  have hlen:=e8 pre
  have hlt:=bY h hn
  have hsu:aV (pre++[x])=Bf x (aV pre):=by rw[Be];simp[aV,Fx]
  generalize hout:aV pre=out at*
  refine .B ?_
  refine T.ct2 rfl (bX h hn) ?_
  refine .B ?_
  refine .O ?_
  refine .B ?_
  refine .I (r:=cI x) (aS h hn) ?_
  refine .B ?_
  refine .C (oW out x (by omega)) ?_
  refine .B ?_
  refine T.K (T.list out (fun k pre2 post2=>⟨[(0,.val false (av l)),(3,.ref 0),(4,.val true (.int .i64 n)),(5,.ref 1),(6,.val true (.bool (pre2.foldl (bf x) ([],decide (x∈out))).2)),(7,.val true (.int .i64 k))],
   [(0,some (.sl 3 1 true (out.map cI))),(1,some (.sl 3 1 true ((pre2.foldl (bf x) ([],decide (x∈out))).1.map cI)))],2⟩) (fun _ _ h=>h) ?_ ?_)
  ·rintro k pre2 y post2 h2 hn2 ih2
   have hlt2:=bY h2 hn2
   rw[Fx,CZ,GE]at ih2
   have hsl:=i5 x pre2 ([],decide (x∈out))
   generalize hs:pre2.foldl (bf x) ([],decide (x∈out))=s at*
   obtain⟨nxt,put⟩:=s
   simp only[Dj]at hsl
   refine .B ?_
   refine T.ct2 rfl (bX h2 hn2) ?_
   refine .B ?_
   cases put
   ·have h9:nxt.length=0+pre2.length:=hsl.2 rfl
    refine .B ?_
    refine .I (r:=cI x) (aS h hn) ?_
    refine .B ?_
    refine J.io rfl rfl rfl rfl rfl rfl rfl rfl rfl (by omega) (by simp;omega) rfl ?_
    refine J.lo rfl rfl rfl rfl rfl rfl (r:=cI y) (aS h2 hn2) rfl ?_
    refine .B ?_
    refine T.cd rfl (fun hxy=> ?_) (fun hxy=> ?_)
    ·have e:bf x (nxt,false) y=(nxt++[x]++[y],true):=by simp[bf,hxy]
     rw[e]at ih2
     refine .B ?_
     refine .I (r:=cI x) (aS h hn) ?_
     refine .B ?_
     refine .V ?_
     refine .B ?_
     refine J.a rfl rfl rfl rfl rfl rfl rfl rfl rfl rfl rfl rfl rfl rfl rfl rfl rfl (cB rfl) (by show(List.length _+1)*8≤_;simp;omega) ?_
     refine .B ?_
     refine J.io rfl rfl rfl rfl rfl rfl rfl rfl rfl (by omega) (by simp;omega) rfl ?_
     refine J.lo rfl rfl rfl rfl rfl rfl (r:=cI y) (aS h2 hn2) rfl ?_
     refine .B ?_
     refine .V ?_
     refine .B ?_
     refine J.a rfl rfl rfl rfl rfl rfl rfl rfl rfl rfl rfl rfl rfl rfl rfl rfl rfl (cB rfl) (by show(List.length _+1)*8≤_;simp;omega) ?_
     refine .B ?_
     rw[ak hlt2 (by omega)]
     rw[pT,pT]
     exact T.K ih2
    ·have e:bf x (nxt,false) y=(nxt++[y],false):=by simp[bf,hxy]
     rw[e]at ih2
     refine .B ?_
     refine J.io rfl rfl rfl rfl rfl rfl rfl rfl rfl (by omega) (by simp;omega) rfl ?_
     refine J.lo rfl rfl rfl rfl rfl rfl (r:=cI y) (aS h2 hn2) rfl ?_
     refine .B ?_
     refine .V ?_
     refine .B ?_
     refine J.a rfl rfl rfl rfl rfl rfl rfl rfl rfl rfl rfl rfl rfl rfl rfl rfl rfl (cB rfl) (by show(List.length _+1)*8≤_;simp;omega) ?_
     refine .B ?_
     rw[ak hlt2 (by omega),pT]
     exact T.K ih2
   ·have e:bf x (nxt,true) y=(nxt++[y],true):=by simp[bf]
    rw[e]at ih2
    refine .B ?_
    refine T.cf rfl ?_
    refine .B ?_
    refine J.io rfl rfl rfl rfl rfl rfl rfl rfl rfl (by omega) (by simp;omega) rfl ?_
    refine J.lo rfl rfl rfl rfl rfl rfl (r:=cI y) (aS h2 hn2) rfl ?_
    refine .B ?_
    refine .V ?_
    refine .B ?_
    refine J.a rfl rfl rfl rfl rfl rfl rfl rfl rfl rfl rfl rfl rfl rfl rfl rfl rfl (cB rfl) (by show(List.length _+1)*8≤_;simp;omega) ?_
    refine .B ?_
    rw[ak hlt2 (by omega),pT]
    exact T.K ih2
  ·have hsl:=i5 x out ([],decide (x∈out))
   have hfin:Bf x out=mh x (out.foldl (bf x) ([],decide (x∈out))):=rfl
   rw[hsu,hfin]at ih
   generalize hs:out.foldl (bf x) ([],decide (x∈out))=s at*
   obtain⟨nxt,put⟩:=s
   simp only[Dj]at hsl
   refine .B ?_
   refine T.cf2 rfl bl ?_
   refine .B ?_
   cases put
   ·have h9:nxt.length=0+out.length:=hsl.2 rfl
    refine .B ?_
    refine T.ct rfl ?_
    refine .B ?_
    refine .I (r:=cI x) (aS h hn) ?_
    refine .B ?_
    refine .V ?_
    refine .B ?_
    refine J.a rfl rfl rfl rfl rfl rfl rfl rfl rfl rfl rfl rfl rfl rfl rfl rfl rfl (cB rfl) (by show(List.length _+1)*8≤_;simp;omega) ?_
    refine .B ?_
    rw[ak hlt (by omega),pT]
    exact T.K ih
   ·refine .B ?_
    refine T.cf rfl ?_
    refine .B ?_
    rw[ak hlt (by omega)]
    exact T.K ih
 ·refine .B ?_
  refine T.cf2 rfl bl ?_
  refine .B ?_
  exact⟨_,.o rfl rfl rfl (fun _=> .inl rfl) (by simp) .nil⟩
def dM (lo:Int):Int→List Int→List (Int×Int)
 |x,[]=>[(lo,x)]
 |x,y::ys=>if y=x+1 then dM lo y ys else(lo,x)::dM y y ys
def cZ:List Int→List (Int×Int)
 | []=>[]
 |x::xs=>dM x x xs
def DomB (d:List (Int×Int)):Prop:=InB d∧(vals d).length*16≤140737488355328∧d.length*16≤140737488355328
theorem ub (v x:Int): ∀l,x∈insU v l↔x=v∨x∈l:=by
 have key: ∀l,x∈mg v l↔x=v∨x∈l:=by
  intro l
  induction l with
  |nil=>simp[mg]
  |cons y l ih=>simp only[mg];split<;>simp[ih];grind
 intro l
 unfold insU
 split
 ·rename_i h;constructor
  ·exact .inr
  ·rintro(rfl|h2)
   ·exact h
   ·exact h2
 ·exact key l
theorem bJ (x:Int)(l:List Int):x∈aV l↔x∈l:=by
 have key: ∀(l out:List Int),x∈l.foldl (fun out v=>insU v out) out↔x∈out∨x∈l:=by
  intro l
  induction l with
  |nil=>simp
  |cons v l ih=>intro out;rw[CZ,ih,ub];simp;grind
 simpa[aV]using key l []
def o8 (d:List (Int×Int)):Int×Int×Bool:=match vals d with
 | []=>(0,0,false)
 |x::l=>(x,(x::l).getLast (by simp),true)
theorem lM {α:Type}{a b:List α}{i:Nat}(h:a.take i=b.take i)(ha:i<a.length)(hb:i<b.length)(he:a[i]=b[i]):a.take (i+1)=b.take (i+1):=by
 rw[C7 ha,C7 hb,h,he]
theorem lX (a b:List Int)(hl:a.length*8≤140737488355328):Spec Tryz.prog 20 false [av a,av b] [.val (.bool (decide (a=b)))]:=by
 refine Spec.body Tryz.func20 rfl rfl rfl fun w0 Z0=> ?_
 refine .B ?_
 refine T.cd rfl (fun h=> ?_) (fun h=> ?_)
 ·refine .B ?_
  exact⟨_,.v rfl rfl (by simp only[C6]at h;rw[decide_eq_false];intro e;subst e;exact h rfl) (fun _=>rfl) .nil⟩
 ·have hlen:a.length=b.length:=by simp only[C6,ne_eq,Classical.not_not]at h;omega
  refine .B ?_
  refine T.K (T.ind (fun i:Nat=>⟨[(0,.val false (av a)),(1,.val false (av b)),(5,.val true (.int .i64 i))],[],0⟩) (fun i=>i≤a.length∧a.take i=b.take i) (fun i=>a.length-i) 0 (by simp) (fun _ _ h=>h) ?_)
  rintro i ⟨hi,ht⟩ ih
  refine .B ?_
  refine T.cd rfl (fun h1=> ?_) (fun h1=> ?_)
  ·simp at h1
   refine .B ?_
   refine .I (r:=cI a[i]) (aO h1) ?_
   refine .B ?_
   refine .I (r:=cI b[i]) (aO (by omega)) ?_
   refine .B ?_
   refine T.cd rfl (fun h2=> ?_) (fun h2=> ?_)
   ·refine .B ?_
    exact⟨_,.v rfl rfl (by rw[decide_eq_false];intro e;subst e;exact h2 rfl) (fun _=>rfl) .nil⟩
   ·refine .B ?_
    rw[ak h1 (by omega)]
    exact T.K (ih (i+1) ⟨by omega,lM ht h1 (by omega) (Classical.not_not.1 h2)⟩ (by omega))
  ·simp at h1
   refine .B ?_
   refine⟨_,.v rfl rfl ?_ (fun _=>rfl) .nil⟩
   rw[CV (by omega),CV (by omega)]at ht
   simp[ht]
end Go.Proofs.YtopcjbahjjhdmaaGreat
namespace Go.Proofs.YtopcjbahjjhdmaaGreat
open Go Go.RowKit Go.Shelf
set_option linter.unusedVariables false
set_option linter.unusedSimpArgs false
attribute [local go_sem] Oper.semAt_some
def KpE (n₀:Nat)(W W':World):Prop:=Below n₀ W W'∧∀(b:Nat) (c:Array Value) (e:TypeId) (fr:Nat×Nat),W.heap[b]? =some (.cells c e fr)→e≠3→e≠24→W'.heap[b]? =some (.cells c e fr)
theorem KpE.refl (n₀:Nat)(W:World):KpE n₀ W W:=⟨Below.refl _ _,fun _ _ _ _ h _ _=>h⟩
theorem KpE.trans {n₀:Nat}{A B C:World}(h:KpE n₀ A B)(k:KpE n₀ B C):KpE n₀ A C:=⟨h.1.trans k.1,fun b c e fr hb h1 h2=>k.2 b c e fr (h.2 b c e fr hb h1 h2) h1 h2⟩
def uW (P:Program)(g:FuncId)(lb:Array Value)(n₀:Nat)(w:World)(xs:List Int):Prop:= ∀(F:Fence) (n:Nat),F.fn g→F.round=none→1≤n→SeqStopsK F n P g lb (fun x:Int=> #[Value.int .i64 x]) (KpE n₀) (fun ys=>ys=xs) (fun _=>True) xs.length w
theorem zC {w:World}{Z:Nat→Prop}{v:Value}{l:List Int}(h:Rep w Z v (av l)): ∃(p:Option Addr) (cap:Nat),v= .slice p l.length cap∧(l≠[]→∃b off,p=some ⟨b,off,none⟩∧b<w.heap.size∧∀j (hj:j<l.length),w.cell? ⟨b,off+j,none⟩=some (.int .i64 l[j])):=by
 unfold av at h
 generalize hp:PV.sl (l.map cI)=p at h
 cases h with
 |nilsl=>
  have:l=[]:=by simpa using hp
  subst this;exact⟨none,0,rfl,fun h=>absurd rfl h⟩
 |slE a cap hc=>
  have:l=[]:=by simpa using hp
  subst this;exact⟨some a,cap,rfl,fun h=>absurd rfl h⟩
 |sl b off cap sz rows xs hz hb h1 h2 h3 h4 h5 h6=>
  have hp:l.map cI=rows:=by simpa using hp
  subst hp
  refine⟨_,cap,by rw[C6],fun _=>⟨b,off,rfl,hb,fun j hj=> ?_⟩⟩
  have e:(l.map cI).flatten=l.map (PV.int .i64):=qO _ l
  rw[e]at h6
  obtain⟨v,hv,hr⟩:=h6.get (i:=j) (b:= .int .i64 l[j]) (by simp[hj])
  have:=(h3 j v hv).1
  rw[this]
  cases hr;rfl
 |_=>cases hp
set_option maxRecDepth 100000 in
set_option maxHeartbeats 2000000 in
theorem uY (F:Fence)(n:Nat)(h7:F.fn 240)(hro:F.round=none)(hn:1≤n)(l Bs o n₀:Nat)(p:Option Addr)(cap:Nat)(zs:List Int)(hreach:zs.length*8≤140737488351232)(J Jx:List Int→World→Prop)
  (hY: ∀pre x W,J pre W→pre.length<zs.length→YieldAt F (n-1) Tryz.prog l #[.int .i64 x] W fun e W'=>
   (e= .returned (.bool true)∧J (pre++[x]) W'∧KpE n₀ W W')∨(e= .returned (.bool false)∧Jx (pre++[x]) W'))
  (W:World) (hBs:W.cell? ⟨Bs,o,none⟩=some (.slice p zs.length cap)) (hc:zs≠[]→∃b off,p=some ⟨b,off,none⟩∧b<n₀∧∀j (hj:j<zs.length),W.cell? ⟨b,off+j,none⟩=some (.int .i64 zs[j])) (h0:J [] W):
  CallsIn F n Tryz.prog 240 #[.func (.yield l) #[] #[],.pointer (some ⟨Bs,o,none⟩)] W fun e W'=>(∃v,e= .returned v)∧((∃ys,ys=zs∧J ys W')∨(∃pre,True∧Jx pre W')):=by
 refine callsIn_of_wp Tryz.func240 rfl h7 ?_ hro
 simp only[Tryz.ntmps240,F4,D0,Dj,Nat.reduceAdd,Nat.reduceSub,F9,FA,FW,FK,Df,Dq]
 gi_wp2
 gi_loopw [7] (fun i wr=> ∃k:Nat,k≤zs.length∧i= .int .i64 k∧J (zs.take k) wr∧KpE n₀ W wr)
  (fun i _=>zs.length-(intOf i).toNat)
 case atStart=>exact⟨0,DC _,rfl,h0,KpE.refl _ _⟩
 case round=>
  obtain⟨k,hk,rfl,hJs,hnx⟩:=hrel
  by_cases hlt:k<zs.length
  ·obtain⟨b,off,rfl,hb,hc⟩:=hc (fun e=>by subst e;simp at hlt)
   have hcx:wr.cell? ⟨b,off+k,none⟩=some (.int .i64 zs[k]):=(hnx.1.cell (p:=⟨b,off+k,none⟩) hb).trans (hc k hlt)
   obtain⟨fn,tmps,assign,body,hy,hR⟩:=hY _ zs[k] wr hJs (by simp;omega)
   gi_wp2
   refine hR.mono ?_
   rintro e W3 (⟨rfl,hJ3,hk3⟩|⟨rfl,hJx3⟩)
   ·gi_wp2
    go_roundw
    case rel=>exact⟨k+1,by omega,by simp,by rw[C7 hlt];exact hJ3,hnx.trans hk3⟩
    case measure=>simp[intOf];omega
   ·gi_wp2
    refine bodyPost_ret (results_none rfl _ _ _) rfl ?_
    exact⟨⟨_,rfl⟩,.inr ⟨_,trivial,hJx3⟩⟩
  ·obtain rfl:k=zs.length:=by omega
   rw[DE]at hJs
   gi_wp2
   go_end0
   exact⟨⟨_,rfl⟩,.inl ⟨_,rfl,hJs⟩⟩
theorem BJ {w:World}{Z:Nat→Prop}{v:Value}{d:List (Int×Int)}(h:Rep w Z v (dm d)): ∃(p:Option Addr) (cap:Nat),v= .slice p d.length cap∧(d≠[]→∃b off,p=some ⟨b,off,none⟩∧b<w.heap.size∧∀j (hj:j<d.length),w.cell? ⟨b,off+j*2,none⟩=some (.int .i64 d[j].1)∧w.cell? ⟨b,off+j*2+1,none⟩=some (.int .i64 d[j].2)):=by
 unfold dm at h
 generalize hp:PV.sl (d.map cR)=p at h
 cases h with
 |nilsl=>
  have:d=[]:=by simpa using hp
  subst this;exact⟨none,0,rfl,fun h=>absurd rfl h⟩
 |slE a cap hc=>
  have:d=[]:=by simpa using hp
  subst this;exact⟨some a,cap,rfl,fun h=>absurd rfl h⟩
 |sl b off cap sz rows xs hz hb h1 h2 h3 h4 h5 h6=>
  have hp:d.map cR=rows:=by simpa using hp
  subst hp
  refine⟨_,cap,by rw[C6],fun hne=>⟨b,off,rfl,hb,fun j hj=> ?_⟩⟩
  have e: ∀i,i<2→(d.map cR).flatten[j*2+i]? =(cR d[j])[i]? :=fun i hi=>uv (sz:=2) (fun r hr=>by obtain⟨x,_,rfl⟩:=List.mem_map.1 hr;rfl) (by simp[hj]) i hi
  have one: ∀i (x:Int),i<2→(cR d[j])[i]? =some (.int .i64 x)→w.cell? ⟨b,off+(j*2+i),none⟩=some (.int .i64 x):=by
   intro i x hi hx
   obtain⟨v,hv,hr⟩:=h6.get ((e i hi).trans hx)
   rw[(h3 _ v hv).1]
   cases hr;rfl
  exact⟨one 0 _ (by decide) rfl,by have:=one 1 _ (by decide) rfl;rwa[←Dt]at this⟩
 |_=>cases hp
set_option maxRecDepth 100000 in
set_option maxHeartbeats 4000000 in
theorem Bv (F:Fence)(n:Nat)(h7:F.fn 144)(hro:F.round=none)(hn:1≤n)(l Bs o n₀:Nat)(p:Option Addr)(cap:Nat)(d:List (Int×Int))(hin:InB d)(hreach:d.length*16≤140737488351232)(J Jx:List Int→World→Prop)
  (hY: ∀pre x W,J pre W→pre.length<((vals d).take 4097).length→YieldAt F (n-1) Tryz.prog l #[.int .i64 x] W fun e W'=>
   (e= .returned (.bool true)∧J (pre++[x]) W'∧KpE n₀ W W')∨(e= .returned (.bool false)∧Jx (pre++[x]) W'))
  (W:World) (hW:n₀≤W.heap.size) (hJ:AbidesFrom W.heap.size J) (hBs:W.cell? ⟨Bs,o,none⟩=some (.slice p d.length cap)) (hc:d≠[]→∃b off,p=some ⟨b,off,none⟩∧b<n₀∧∀j (hj:j<d.length),W.cell? ⟨b,off+j*2,none⟩=some (.int .i64 d[j].1)∧W.cell? ⟨b,off+j*2+1,none⟩=some (.int .i64 d[j].2)) (h0:J [] W):
  CallsIn F n Tryz.prog 144 #[.func (.yield l) #[] #[],.pointer (some ⟨Bs,o,none⟩)] W fun e W'=>(∃v,e= .returned v)∧((∃ys,ys=(vals d).take 4097∧J ys W')∨(∃pre,True∧Jx pre W')):=by
 refine callsIn_of_wp Tryz.func144 rfl h7 ?_ hro
 simp only[Tryz.ntmps144,F4,D0,Dj,Nat.reduceAdd,Nat.reduceSub,F9,FA,FW,FK,Df,Dq]
 gi_wp2
 gi_loopw [3,9] (fun c i wr=> ∃k:Nat,k≤d.length∧i= .int .i64 k∧c= .int .i64 ((vals (d.take k)).take 4097).length∧J ((vals (d.take k)).take 4097) wr∧KpE n₀ W wr)
  (fun _ i _=>d.length-(intOf i).toNat)
 case atStart=>exact⟨0,DC _,rfl,rfl,h0,KpE.refl _ _⟩
 case round=>
  obtain⟨k,hk,rfl,rfl,hJs,hnx⟩:=hrel
  by_cases hlt:k<d.length
  ·obtain⟨b,off,rfl,hb,hc⟩:=hc (fun e=>by subst e;simp at hlt)
   have hc1:wr.cell? ⟨b,off+k*2,none⟩=some (.int .i64 d[k].1):=(hnx.1.cell (p:=⟨b,off+k*2,none⟩) hb).trans (hc k hlt).1
   have hc2:wr.cell? ⟨b,off+k*2+1,none⟩=some (.int .i64 d[k].2):=(hnx.1.cell (p:=⟨b,off+k*2+1,none⟩) hb).trans (hc k hlt).2
   gi_wp2
   have hA:vals (d.take (k+1))=vals (d.take k)++rng d[k].1 d[k].2:=by
    rw[C7 hlt,vals,List.flatMap_append];simp[vals]
   have hall: ∃r,vals d=vals (d.take k)++rng d[k].1 d[k].2++r:=by
    refine⟨vals (d.drop (k+1)),?_⟩
    rw[←hA]
    conv=>lhs;rw[←E7 (k+1) d]
    rw[vals,List.flatMap_append];rfl
   have hbd:=hin d[k] (C5 hlt)
   have hrl:(rng d[k].1 d[k].2).length=(d[k].2+1-d[k].1).toNat:=by simp[rng]
   have hrg: ∀j (h:j<(rng d[k].1 d[k].2).length),(rng d[k].1 d[k].2)[j]=d[k].1+j:=fun j h=>by simp[rng]
   generalize vals (d.take k)=A at*
   generalize d[k].1=lo at*
   generalize d[k].2=hi at*
   generalize hR:rng lo hi=R at*
   have hX:(wr.alloc (.cells #[.int .i64 lo,.int .i64 hi] 53)).heap[wr.heap.size]? =some (.cells #[.int .i64 lo,.int .i64 hi] 53 (0,0)):=World.alloc_heap_new wr _
   have hJ1:J (A.take 4097) (wr.alloc (.cells #[.int .i64 lo,.int .i64 hi] 53)):=hJ _ wr _ none hJs (World.grownBy_alloc wr _ none) (fun r e=>by cases e)
   have hK1:KpE n₀ W (wr.alloc (.cells #[.int .i64 lo,.int .i64 hi] 53)):=⟨hnx.1.alloc (D3 hW hnx.1.size) _,fun b c e fr hb h1 h2=>(Below.heap_alloc _ _ b (Array.getElem?_eq_some_iff.1 (hnx.2 b c e fr hb h1 h2)).1).trans (hnx.2 b c e fr hb h1 h2)⟩
   generalize wr.alloc (.cells #[.int .i64 lo,.int .i64 hi] 53)=W1 at*
   generalize hXe:wr.heap.size=X at*
   gi_loopw [3,6] (fun c v wq=> ∃j:Nat,j≤R.length∧v= .int .i64 (lo+j)∧c= .int .i64 ((A++R.take j).take 4097).length∧J ((A++R.take j).take 4097) wq∧KpE n₀ W wq∧wq.heap[X]? =some (.cells #[.int .i64 lo,.int .i64 hi] 53 (0,0))∧(j=0∨(A++R.take j).length≤4097))
    (fun c v _=>(hi+1-intOf v).toNat)
   case atStart=>exact⟨0,DC _,by simp,by simp,by simpa using hJ1,hK1,hX,.inl rfl⟩
   case round=>
    obtain⟨j,hj,rfl,rfl,hJ2,hK2,hX2,hj4⟩:=hrel
    have hx2:wr.cell? ⟨X,1,none⟩=some (Value.int .i64 hi):=by simp[World.cell?,hX2]
    by_cases hgo:j<R.length∧((A++R.take j).take 4097).length≤4096
    ·obtain⟨hjl,hle⟩:=hgo
     have hle2:(A++R.take j).length≤4096:=by rw[D8]at hle;omega
     have e1:(A++R.take j).take 4097=A++R.take j:=CV (by omega)
     have e2:(A++R.take (j+1)).take 4097=A++R.take j++[lo+j]:=by
      rw[C7 hjl,hrg j hjl,←DD,CV]
      rw[CW];simp only[Db];omega
     obtain⟨r,hr⟩:=hall
     rw[e1]at hJ2⊢
     have hY2:=hY _ (lo+j) wr hJ2 (by
      rw[hr]
      simp only[D8,CW]at hle2⊢
      omega)
     have hlj:lo+j≤hi:=by omega
     have e3:(A++R.take (j+1)).take 4097=(A++R.take (j+1)):=by rw[e2,C7 hjl,hrg j hjl,←DD]
     generalize hP:A++R.take j=pre at*
     obtain⟨cn,hcn⟩: ∃cn,pre.length=cn:=⟨_,rfl⟩
     rw[hcn]at hle2⊢
     obtain⟨fn,tmps,assign,body,hy,hR2⟩:=hY2
     gi_wp2
     refine hR2.mono ?_
     rintro e W3 (⟨rfl,hJ3,hk3⟩|⟨rfl,hJx3⟩)
     ·gi_wp2
      go_roundw
      case rel=>exact⟨j+1,by omega,by simp;omega,by rw[e2,CW,hcn];simp,by rw[e2];exact hJ3,hK2.trans hk3,hk3.2 _ _ _ _ hX2 (by decide) (by decide),.inr (by rw[←e3,D8];omega)⟩
      case measure=>simp[intOf];omega
     ·gi_wp2
      refine bodyPost_ret (results_none rfl _ _ _) rfl ?_
      exact⟨⟨_,rfl⟩,.inr ⟨_,trivial,hJx3⟩⟩
    ·have hend:(A++R.take j).take 4097=(A++R).take 4097:=by
      by_cases h1:j<R.length
      ·have h2:4097≤(A++R.take j).length:=by
        have h3: ¬((A++R.take j).take 4097).length≤4096:=fun h=>hgo ⟨h1,h⟩
        rw[D8]at h3;omega
       have h4:A++R=A++R.take j++R.drop j:=by rw[DD,E7]
       rw[h4,EY h2]
      ·rw[show R.take j=R from CV (by omega)]
     have hex: ¬(lo+j≤hi∧(((A++R).take 4097).length:Int)≤4096):=by
      rintro⟨h1,h2⟩
      exact hgo ⟨by omega,by rw[hend];omega⟩
     rw[hend]at hJ2⊢
     have hA2:((A++R).take 4097).length=((vals (d.take (k+1))).take 4097).length:=by rw[hA]
     generalize hcn:((A++R).take 4097).length=cn at*
     rw[←hA]at hJ2
     by_cases h1:lo+j≤hi
     ·have h2: ¬(cn≤4096):=fun h2=>hex ⟨h1,by omega⟩
      have h3:Hid (¬cn≤4096):=h2
      have hA3:Hid (cn=((vals (d.take (k+1))).take 4097).length):=hA2
      clear hex h2 hend hA2 hcn
      gi_wp2
      ·have h4: ¬cn≤4096:=h3
       omega
      ·have hA2:cn=((vals (d.take (k+1))).take 4097).length:=hA3
       exact⟨⟨k+1,by omega,by simp,by rw[hA2],hJ2,hK2⟩,by simp[intOf];omega⟩
     ·gi_wp2
      exact⟨⟨k+1,by omega,by simp,by rw[hA2],hJ2,hK2⟩,by simp[intOf];omega⟩
  ·obtain rfl:k=d.length:=by omega
   rw[DE]at hJs
   gi_wp2
   go_end0
   exact⟨⟨_,rfl⟩,.inl ⟨_,rfl,hJs⟩⟩
theorem pz (Bs o:Nat)(zs:List Int)(hreach:zs.length*8≤140737488351232)(w:World)(u:Value){Z:Nat→Prop}(hu:Rep w Z u (.ptr [av zs])):uW Tryz.prog 240 #[u] w.heap.size w zs:=by
 intro F n hF hro hn l J Jx W hW hJ _ hY h0
 cases hu with
 |ptr b o cells xs hz hb h1 h2 h3=>
  cases h3 with
  | @cons v _ vs _ hv _=>
   obtain⟨p,cap,rfl,hc⟩:=zC hv
   have hcell:w.cell? ⟨b,o,none⟩=some (.slice p zs.length cap):=by have:=(h2 0 _ rfl).1;simpa using this
   exact uY F n hF hro hn l b o w.heap.size p cap zs hreach J Jx hY W ((hW.cell (p:=⟨b,o,none⟩) hb).trans hcell) (fun hne=>by
    obtain⟨b',off,e,hb',hcs⟩:=hc hne
    exact⟨b',off,e,hb',fun j hj=>(hW.cell (p:=⟨b',off+j,none⟩) hb').trans (hcs j hj)⟩) h0
theorem wM (d:List (Int×Int))(hin:InB d)(hreach:d.length*16≤140737488351232)(w:World)(u:Value){Z:Nat→Prop}(hu:Rep w Z u (.ptr [dm d])):uW Tryz.prog 144 #[u] w.heap.size w ((vals d).take 4097):=by
 intro F n hF hro hn l J Jx W hW hJ _ hY h0
 cases hu with
 |ptr b o cells xs hz hb h1 h2 h3=>
  cases h3 with
  | @cons v _ vs _ hv _=>
   obtain⟨p,cap,rfl,hc⟩:=BJ hv
   have hcell:w.cell? ⟨b,o,none⟩=some (.slice p d.length cap):=by have:=(h2 0 _ rfl).1;simpa using this
   exact Bv F n hF hro hn l b o w.heap.size p cap d hin hreach J Jx hY W hW.size hJ ((hW.cell (p:=⟨b,o,none⟩) hb).trans hcell) (fun hne=>by
    obtain⟨b',off,e,hb',hcs⟩:=hc hne
    exact⟨b',off,e,hb',fun j hj=>⟨(hW.cell (p:=⟨b',off+j*2,none⟩) hb').trans (hcs j hj).1,(hW.cell (p:=⟨b',off+j*2+1,none⟩) hb').trans (hcs j hj).2⟩⟩) h0
theorem Cz:(Tryz.prog.info? 3).map (fun i=>(i.zero,i.size,i.bytes))=some (some (.int .i64 0),1,8):=by kernel_rfl
theorem Bb {W w1:World}{n₀ B:Nat}{v v':Value}{k:Nat}{xs:List Value}{tmp:Obj}(hv:Boxed W B 24 v)(hrow:W.ownsRow n₀ 3 1 v k xs)(hgrow:(W.alloc tmp).grownBy w1 v.ownBlock)
  (b:Nat) (c:Array Value) (e:TypeId) (fr:Nat×Nat) (hb:W.heap[b]? =some (.cells c e fr)) (h1:e≠3) (h2:e≠24):(w1.setCell ⟨B,0,none⟩ v').heap[b]? =some (.cells c e fr):=by
 have hlt:=(Array.getElem?_eq_some_iff.1 hb).1
 have hbB:b≠B:=by
  rintro rfl
  have hv:W.heap[b]? =some (.cells #[v] 24 (0,0)):=hv
  rw[hv]at hb;cases hb;exact h2 rfl
 have ha:(W.alloc tmp).heap[b]? =some (.cells c e fr):=(Below.heap_alloc _ _ b hlt).trans hb
 have hg:w1.heap[b]? =some (.cells c e fr):=by
  refine(hgrow.block b (by simp;omega) fun eb=> ?_).trans ha
  rcases hrow.2 with ⟨rfl,_⟩|⟨g,cap,cur,rfl,_,hgb,_⟩
  ·cases eb
  ·obtain rfl:b=g:=by simpa[Value.ownBlock]using eb
   rw[hgb]at hb;cases hb;exact h1 rfl
 exact((grownBy_setCell' w1 B v').block b (Array.getElem?_eq_some_iff.1 hg).1 (fun e=>hbB (C2 e))).trans hg
theorem Ba {n₀:Nat}(W:World)(l:Nat)(o o':Obj)(hl:n₀≤l)(ho:W.heap[l]? =some o)(h1:o.isCells=false):KpE n₀ W (W.putObj l o'):=by
 refine⟨(Below.refl n₀ W).grown (grownBy_putObj' W l o') (by have:=(Array.getElem?_eq_some_iff.1 ho).1;omega) (fun k e=>by cases e;exact hl),fun b c e fr hb _ _=> ?_⟩
 have hne:l≠b:=by rintro rfl;rw[ho]at hb;cases hb;cases h1
 exact(World.putObj_heap_other (Ne.symm hne)).trans hb
set_option maxRecDepth 100000 in
set_option maxHeartbeats 4000000 in
theorem sc (F:Fence)(n:Nat)(hF:F.fn 143)(hro:F.round=none)(hn:3≤n)(g:Nat)(lb:Array Value)(hFg:F.fn g)(eg: ∀args w,(callFunc g args).run Tryz.prog w= .ok (.enter g args) w)(xs:List Int)(hlen:xs.length*8≤140737488355328)(w:World)
  (hs:uW Tryz.prog g lb w.heap.size w xs):
  CallsIn F n Tryz.prog 143 #[.slice none 0 0,.func (.func g) #[] lb] w fun e W'=> ∃v,e= .returned v∧W'.ownsRow w.heap.size 3 1 v xs.length (xs.map (Value.int .i64))∧Below w.heap.size w W':=by
 have h1:1≤n:=by omega
 obtain⟨i0,hi,hz0,hz1,hz2⟩:=info_parts Cz
 refine callsIn_of_wp_marks Tryz.func143 rfl hF ?_ hro
 simp only[Tryz.ntmps143,F4,D0,Dj,Nat.reduceAdd,Nat.reduceSub,F9,FA,FW,FK,Df,Dq]
 gi_wp2
 have bO:=Boxed.new w 24 (.slice none 0 0)
 have hB0:Below w.heap.size w (w.alloc (.cells #[.slice none 0 0] 24)):=(Below.refl _ w).alloc (CS _) _
 have hm:maxLen=9223372036854775807:=rfl
 refine wpIn_rangeFunc_ownG hro h1 (gf:=g) (lb:=lb) rfl hFg eg (hs F (n-1) hFg hro (by omega)) KpE.trans (fun W l o o' hl ho h1 _=>Ba W l o o' (by simp at hl;omega) ho h1) hB0 (fun _=>rfl)
  (fun(pre:List Int) W=>(∃v,Boxed W w.heap.size 24 v∧W.ownsRow w.heap.size 3 1 v pre.length (pre.map (Value.int .i64))∧True)∧Below w.heap.size w W)
  (fun _ _ _=>False)
  (OwnFrom.and (Own.from (holdsRow_own w.heap.size w.heap.size 24 3 1 (fun pre:List Int=>pre.length) (fun pre:List Int=>pre.map (Value.int .i64)) (fun _ _=>True)) _) (ownFrom_below (CS _) (by simp)))
  (fun _ _ _ _ _ hs _ _=>hs)
  ⟨⟨_,bO,World.ownsRow_nil _ _ _ _,trivial⟩,hB0⟩
  (fun x=> { tmps:= #[.slice none 0 0,.func (.func g) #[] lb,.pointer (some ⟨w.heap.size,0,none⟩),undef,.slice none 0 0,.int .i64 x,.func (.func g) #[] lb,.int .i64 x,undef,undef,undef,undef,undef],defers:=[] }) ?assign ?body ?done ?stop
 case assign=>
  intro l x W K hK
  gi_wp2
  exact hK
 case body=>
  rintro l pre x W ⟨⟨v,hv,hrow,_⟩,hB⟩ hlt
  have hc:=hv.cell
  gi_wp2_with (gi_at_builtin;refine wpListIn_append_own _ rfl _ _ 24 rfl w.heap.size 3 i0 (.int .i64 0) 1 8 Tryz.underlying24 hi hz0 hz1 hz2 rfl (by decide) _ _ _ rfl (hrow.alloc _) ⟨W.heap.size,0,none⟩ 1 1 [.int .i64 x] rfl rfl (cell_one_new _ _ _) (by simp[Value.oneCell']) (by omega) (by omega) (by have:=hB.size;simp;omega) ?_;intro v' w1 hown' hgrow _;obtain⟨g',cap',rfl⟩:=ownsRow_succ hown';obtain⟨hv1,hv2,hr2,hk2,hb2⟩:=hv.appended (by decide) hrow hB.size (CS _) hown' hgrow;have hkp:=Bb (v':=Value.slice (some ⟨g',0,none⟩) (pre.length+1) cap') hv hrow hgrow;have hc1:=hv1.cell;have hf1:=hv1.frozen)
  exact⟨hk2.from _,⟨hb2,hkp⟩,⟨_,hv2,by simpa using hr2,trivial⟩,hB.trans hb2⟩
 case done=>
  rintro D ys W hD rfl ⟨⟨v,hv,hrow,_⟩,hB⟩ hK
  have hc:=hv.cell
  gi_wp2
  refine⟨by simp,.inl ⟨_,_,rfl,run_takeDeferred hK,?_⟩⟩
  exact⟨_,results_tmp rfl _ _ _,v,rfl,ownsRow_putObj hrow _ hK rfl,hB.trans (belowK_b (w:=w) (CS _) W D _ _ (by simp at hD;omega) hK rfl rfl)⟩
 case stop=>
  rintro D c pre W _ _ h _
  exact h.elim
theorem wA (F:Fence)(n:Nat)(h8:F.fn 113)(hF:F.fn 143)(hro:F.round=none)(hn:4≤n)(g:Nat)(lb:Array Value)(hFg:F.fn g)(eg: ∀args w,(callFunc g args).run Tryz.prog w= .ok (.enter g args) w)(xs:List Int)(hlen:xs.length*8≤140737488355328)(w:World)
  (hs:uW Tryz.prog g lb w.heap.size w xs):
  CallsIn F n Tryz.prog 113 #[.func (.func g) #[] lb] w fun e W'=> ∃v,e= .returned v∧W'.ownsRow w.heap.size 3 1 v xs.length (xs.map (Value.int .i64))∧Below w.heap.size w W':=by
 have h1:1≤n:=by omega
 refine callsIn_of_wp Tryz.func113 rfl h8 ?_ hro
 simp only[Tryz.ntmps113,F4,D0,Dj,Nat.reduceAdd,Nat.reduceSub,F9,FA,FW,FK,Df,Dq]
 gi_wp2_with (gi_at_call 143;refine(sc F (n-1) hF hro (by omega) g lb hFg eg xs hlen _ hs).mono ?_;rintro e w' ⟨v,rfl,hrow,hb⟩)
 go_ret
 exact⟨v,rfl,hrow,hb⟩
end Go.Proofs.YtopcjbahjjhdmaaGreat
namespace Go.Proofs.YtopcjbahjjhdmaaGreat
open Go Go.RowKit
set_option linter.unusedVariables false
set_option linter.unusedSimpArgs false
set_option maxRecDepth 8000
theorem zO {w w':World}{v:Value}{xs:List Int}{Zx:Nat→Prop}(h:w'.ownsRow w.heap.size 3 1 v xs.length (xs.map (Value.int .i64))):RetRel w w' Zx [v] [.own 3 1 (xs.map cI)]:=by
 have hvb: ∀g,VB v g→w.heap.size≤g:=fun g hg=>(h.lt g ((sf h).1 hg)).1
 have hsl: ∀Z:Nat→Prop,dx w' Z v 3 1 (xs.map cI):=fun Z=>by
  refine⟨xs.map (Value.int .i64),?_,?_,fun r hr=>by obtain⟨x,_,rfl⟩:=List.mem_map.1 hr;rfl,fun r hr p hp=>by obtain⟨x,_,rfl⟩:=List.mem_map.1 hr;simp[cI]at hp;rw[hp];rfl⟩
  ·rw[C6]
   refine⟨h.1,?_⟩
   rcases h.2 with h2|⟨g,cap,cur,e,_,r⟩
   ·exact .inl h2
   ·exact .inr ⟨g,cap,cur,e,DC _,r⟩
  ·have e:(xs.map cI).flatten=xs.map (PV.int .i64):=qO _ xs
   rw[e]
   clear e h hvb
   induction xs with
   |nil=>exact .nil
   |cons x xs ih=>exact .cons (.int _ _) ih
 refine⟨.cons (hsl _) .nil,fun u g hu hg=> ?_,fun i j u u' g hi hj _ _=> ?_⟩
 ·have:u=v:=by simpa[RV.vals]using hu
  exact hvb g (this▸hg)
 ·simp only[RV.vals]at hi hj
  cases i<;>cases j<;>simp_all
theorem lC {g:FuncId}{caps:List PV}{xs:List Int}(eg: ∀args w,(callFunc g args).run Tryz.prog w= .ok (.enter g args) w)(hg: ∀(w:World) (Z:Nat→Prop) (us:List Value),L2 (Rep w Z) us caps→uW Tryz.prog g us.toArray w.heap.size w xs)(hl:xs.length*8≤140737488355328):
  Spec Tryz.prog 113 false [.fn (.func g) [] caps] [.own 3 1 (xs.map cI)]:=by
 refine⟨⟨_,Tryz.func113,rfl,rfl⟩,fun w Z vs hvs=> ?_⟩
 cases hvs with
 |cons h0 h1=>
  cases h1
  cases h0 with
  |fn f fs us fst cps h2 h3=>
   cases h2
   refine((wA Fence.wide 9 trivial trivial rfl (by decide) g us.toArray trivial eg xs hl w (hg w Z us h3)).calls room_wide).mono ?_
   rintro e w' ⟨v,rfl,hrow,hb⟩
   exact⟨[v],rfl,hb,zO hrow⟩
theorem yX (d:List (Int×Int)):Spec Tryz.prog 114 true [dm d] [.val (.fn (.func 144) [] [.ptr [dm d]])]:=by
 refine Spec.body Tryz.func114 rfl rfl rfl fun w0 Z0=> ?_
 refine .B ?_
 refine J.sub (Rel.unbx (s:=1) (fun _ h=>h) rfl rfl) ?_
 refine J.sub (Rel.fp (s:=1) rfl) ?_
 refine .B ?_
 exact⟨_,.v rfl rfl rfl (fun h=>by cases h) .nil⟩
theorem nN (l:List Int):Spec Tryz.prog 221 true [av l] [.val (.fn (.func 240) [] [.ptr [av l]])]:=by
 refine Spec.body Tryz.func221 rfl rfl rfl fun w0 Z0=> ?_
 refine .B ?_
 refine J.sub (Rel.unbx (s:=1) (fun _ h=>h) rfl rfl) ?_
 refine J.sub (Rel.fp (s:=1) rfl) ?_
 refine .B ?_
 exact⟨_,.v rfl rfl rfl (fun h=>by cases h) .nil⟩
theorem ip (d:List (Int×Int))(hb:InB d)(hd:d.length*16≤140737488351232):Spec Tryz.prog 72 false [dm d] [.own 3 1 (((vals d).take 4097).map cI)]:=by
 refine Spec.body Tryz.func72 rfl rfl rfl fun w0 Z0=> ?_
 have hc:=lC (g:=144) (caps:=[.ptr [dm d]]) (xs:=(vals d).take 4097) (enters_of Tryz.func144 (by kernel_rfl) rfl) (fun w Z us h=>by
  cases h with
  |cons h1 h2=>cases h2;exact wM d hb hd w _ h1) (by rw[D8];omega)
 refine .B ?_
 refine .C (yX d) ?_
 refine .B ?_
 refine .C hc ?_
 refine .B ?_
 exact⟨_,.o rfl rfl rfl (fun _=> .inl rfl) (by simp) .nil⟩
set_option maxRecDepth 4000
theorem vZ (d:List (List (Int×Int)))(hl:d.length*24≤140737488355328)(hx: ∀x∈d,x.length*16≤140737488355328):Spec Tryz.prog 59 false [aJ d] [.own 54 1 (d.map cD)]:=by
 refine Spec.body Tryz.func59 rfl rfl rfl fun w0 Z0=> ?_
 refine .B ?_
 refine .O ?_
 refine .B ?_
 refine T.K (T.list d (fun n pre post=>⟨[(0,.val false (aJ d)),(3,.ref 0),(4,.val true (.int .i64 n))],[(0,some (.sl 54 1 true (pre.map cD)))],1⟩) (fun _ _ h=>h) ?_ ?_)
 ·rintro n pre x post h hn ih
  have hlt:=bY h hn
  have hxl:=hx x (by rw[h];simp)
  refine .B ?_
  refine T.ct2 rfl (bX h hn) ?_
  refine .B ?_
  refine .O ?_
  refine .B ?_
  refine .I (r:=cD x) (aS h hn) ?_
  refine .B ?_
  refine J.a rfl rfl rfl rfl rfl rfl rfl rfl rfl rfl rfl rfl rfl rfl rfl rfl rfl xo (by show(0+List.length _)*16≤_;simp;omega) ?_
  refine .B ?_
  refine J.sub (Rel.flat (o:=2) rfl rQ) ?_
  refine J.sub (Rel.frz (s:=18) (fun _ h=>h) rfl rfl) ?_
  refine .V ?_
  refine .B ?_
  refine J.aD rfl rfl rfl rfl rfl rfl rfl rfl rfl rfl rfl rfl rfl rfl rfl rfl rfl rfl rfl (by omega) ?_
  refine .B ?_
  rw[ak hlt (by omega)]
  exact T.K ih
 ·refine .B ?_
  refine T.cf2 rfl bl ?_
  refine .B ?_
  exact⟨_,.o rfl rfl rfl (fun _=> .inl rfl) (by simp) .nil⟩
theorem bQ (d:List (Int×Int))(hd:d.length*16≤140737488355328):Spec Tryz.prog 102 false [dm d] [.own 53 2 (d.map cR)]:=by
 refine Spec.body Tryz.func102 rfl rfl rfl fun w0 Z0=> ?_
 refine .B ?_
 refine J.nc rfl rfl rfl rfl rfl rfl rfl fun b hb=> ?_
 refine .B ?_
 cases b
 ·refine T.cf rfl ?_
  refine .B ?_
  refine .O ?_
  refine .B ?_
  refine J.a rfl rfl rfl rfl rfl rfl rfl rfl rfl rfl rfl rfl rfl rfl rfl rfl rfl xo (by show(0+List.length _)*16≤_;simp;omega) ?_
  refine .B ?_
  exact⟨_,.o rfl rfl rfl (fun _=> .inr rQ) (by simp) .nil⟩
 ·have:d=[]:=by simpa using hb rfl
  subst this
  refine T.ct rfl ?_
  refine .B ?_
  exact⟨_,.ownN rfl .nil⟩
def aM (d:List (Int×Int)):Int:=match d.getLast? with
 |some r=>r.2
 |none=>0
def ay (d:List (Int×Int)):Int:=match d with
 |r::_=>r.1
 | []=>0
theorem kg (d:List (Int×Int)):Spec Tryz.prog 108 false [dm d] [.val (.int .i64 (ay d)),.val (.bool (!d.isEmpty))]:=by
 refine Spec.body Tryz.func108 rfl rfl rfl fun w0 Z0=> ?_
 refine .B ?_
 cases d with
 |nil=>
  refine T.ct2 rfl rfl ?_
  refine .B ?_
  exact r2
 |cons x d=>
  refine T.cf2 rfl (by simp;omega) ?_
  refine .B ?_
  refine .I (r:=cR x) rfl ?_
  refine .B ?_
  exact r2
theorem qj (d:List (Int×Int))(hd:d.length*8≤140737488355328):Spec Tryz.prog 232 false [dm d] [.val (.int .i64 (aM d)),.val (.bool (!d.isEmpty))]:=by
 refine Spec.body Tryz.func232 rfl rfl rfl fun w0 Z0=> ?_
 refine .B ?_
 by_cases hn:d=[]
 ·subst hn
  refine T.ct2 rfl rfl ?_
  refine .B ?_
  exact r2
 ·have hpos:=List.length_pos_iff.2 hn
  refine T.cf2 rfl (by simp[hn]) ?_
  refine .B ?_
  rw[ae (by simp;omega) (by simp;omega)]
  have e1:((List.map cR d).length:Int)-1=((d.length-1:Nat):Int):=by simp;omega
  rw[e1]
  refine .I (r:=cR (d.getLast hn)) ?_ ?_
  ·rw[List.getLast_eq_getElem]
   exact aO (by omega)
  refine .B ?_
  exact⟨_,.v rfl rfl (by simp[aM,Fe hn]) (fun _=>rfl) (.v rfl rfl (by simp[hn]) (fun _=>rfl) .nil)⟩
def xh:Nat→List (Int×Int)→List (Int×Int)→List (Int×Int)
 |n+1,x::xs,y::ys=>(if max x.1 y.1≤min x.2 y.2 then [(max x.1 y.1,min x.2 y.2)]else [])++(if x.2<y.2 then xh n xs (y::ys)else xh n (x::xs) ys)
 |_,_,_=>[]
def bB (a b:List (Int×Int)):List (Int×Int):=xh (a.length+b.length) a b
theorem hI (x y:Int×Int)(xs ys:List (Int×Int)):bB (x::xs) (y::ys)=(if max x.1 y.1≤min x.2 y.2 then [(max x.1 y.1,min x.2 y.2)]else [])++(if x.2<y.2 then bB xs (y::ys)else bB (x::xs) ys):=by
 unfold bB
 rw[show(x::xs).length+(y::ys).length=(xs.length+ys.length+1)+1 by simp;omega,xh]
 rw[show xs.length+(y::ys).length=xs.length+ys.length+1 by simp;omega,show(x::xs).length+ys.length=xs.length+ys.length+1 by simp;omega]
theorem nu (b:List (Int×Int)):bB [] b=[]:=by
 unfold bB;generalize ([]:List (Int×Int)).length+b.length=n
 cases n<;>rfl
theorem nt (a:List (Int×Int)):bB a []=[]:=by
 unfold bB;generalize a.length+([]:List (Int×Int)).length=n
 cases n with
 |zero=>rfl
 |succ n=>cases a<;>rfl
theorem l4 (a b:List (Int×Int))(hl:(a.length+b.length)*16≤140737488355328):Spec Tryz.prog 189 false [dm a,dm b] [.own 53 2 ((bB a b).map cR)]:=by
 refine Spec.body Tryz.func189 rfl rfl rfl fun w0 Z0=> ?_
 refine .B ?_
 refine T.sub (Rel.own0 (s:=5) 53 2 rfl) ?_
 refine T.K (T.ind (fun(s:Nat×Nat×List (Int×Int))=>⟨[(0,.val false (dm a)),(1,.val false (dm b)),(5,.ref 0),(6,.val true (.int .i64 s.1)),(7,.val true (.int .i64 s.2.1))],[(0,some (.sl 53 2 true (s.2.2.map cR)))],1⟩)
  (fun s=>s.1≤a.length∧s.2.1≤b.length∧s.2.2.length≤s.1+s.2.1∧s.2.2++bB (a.drop s.1) (b.drop s.2.1)=bB a b) (fun s=>(a.length-s.1)+(b.length-s.2.1)) (0,0,[]) (by simp) (fun _ _ h=>h) ?_)
 rintro⟨i,k,out⟩ ⟨hi,hk,hol,he⟩ ih
 simp only at hi hk hol he ih
 dsimp only
 refine .B ?_
 have fin: ∀(h: ¬(i<a.length∧k<b.length)),out=bB a b:=by
  intro h
  rw[←he]
  by_cases h1:i<a.length
  ·have h2: ¬k<b.length:=fun h2=>h ⟨h1,h2⟩
   rw[Dk (l:=b) (by omega)]
   simp[nt]
  ·rw[Dk (l:=a) (by omega)]
   simp[nu]
 refine J.g rfl rfl rfl (fun h1=> ?_) (fun h1=> ?_)
 ·refine .B ?_
  simp at h1
  refine T.cd rfl (fun h2=> ?_) (fun h2=> ?_)
  ·simp at h2
   rw[CU h1,CU h2,hI]at he
   have hai:=aO (enc:=cR) h1
   have hbk:=aO (enc:=cR) h2
   have hda:a.drop (i+1)=(a.drop i).tail:=by simp
   refine .B ?_
   refine .I (r:=cR a[i]) hai ?_
   refine .B ?_
   refine .I (r:=cR b[k]) hbk ?_
   refine .B ?_
   refine .I (r:=cR a[i]) hai ?_
   refine .B ?_
   refine .I (r:=cR b[k]) hbk ?_
   refine .B ?_
   refine T.cd rfl (fun h3=> ?_) (fun h3=> ?_)
   ·try simp only at h3
    rw[if_pos h3]at he
    refine .B ?_
    refine .V ?_
    refine .B ?_
    refine J.aR rfl rfl rfl rfl rfl rfl rfl rfl rfl rfl rfl rfl rfl rfl rfl rfl rfl rfl rfl (by omega) ?_
    refine .B ?_
    refine .I (r:=cR a[i]) hai ?_
    refine .B ?_
    refine .I (r:=cR b[k]) hbk ?_
    refine .B ?_
    refine T.cd rfl (fun h4=> ?_) (fun h4=> ?_)
    ·try simp only at h4
     rw[if_pos h4,←CU h2]at he
     refine .B ?_
     rw[ak h1 (by omega)]
     exact T.K (ih (i+1,k,out++[(max a[i].1 b[k].1,min a[i].2 b[k].2)]) ⟨by simp only;omega,by simp only;omega,by simp;omega,by simp only;rw[DD];exact he⟩ (by simp only;omega))
    ·try simp only at h4
     rw[if_neg h4,←CU h1]at he
     refine .B ?_
     rw[ak h2 (by omega)]
     exact T.K (ih (i,k+1,out++[(max a[i].1 b[k].1,min a[i].2 b[k].2)]) ⟨by simp only;omega,by simp only;omega,by simp;omega,by simp only;rw[DD];exact he⟩ (by simp only;omega))
   ·try simp only at h3
    rw[if_neg h3,Df]at he
    refine .B ?_
    refine .I (r:=cR a[i]) hai ?_
    refine .B ?_
    refine .I (r:=cR b[k]) hbk ?_
    refine .B ?_
    refine T.cd rfl (fun h4=> ?_) (fun h4=> ?_)
    ·try simp only at h4
     rw[if_pos h4,←CU h2]at he
     refine .B ?_
     rw[ak h1 (by omega)]
     exact T.K (ih (i+1,k,out) ⟨by simp only;omega,by simp only;omega,by simp only;omega,he⟩ (by simp only;omega))
    ·try simp only at h4
     rw[if_neg h4,←CU h1]at he
     refine .B ?_
     rw[ak h2 (by omega)]
     exact T.K (ih (i,k+1,out) ⟨by simp only;omega,by simp only;omega,by simp only;omega,he⟩ (by simp only;omega))
  ·simp at h2
   refine .B ?_
   exact⟨_,.o rfl rfl (by rw[fin (by omega)]) (fun _=> .inl rfl) (by simp) .nil⟩
 ·simp at h1
  refine .B ?_
  refine T.cf rfl ?_
  refine .B ?_
  exact⟨_,.o rfl rfl (by rw[fin (by omega)]) (fun _=> .inl rfl) (by simp) .nil⟩
def domCut (d:List (Int×Int))(lo hi:Int):List (Int×Int):=if hi<lo then []else bB d [(lo,hi)]
theorem f5 (d:List (Int×Int))(lo hi:Int)(hd:(d.length+1)*16≤140737488355328):Spec Tryz.prog 197 false [dm d,.int .i64 lo,.int .i64 hi] [.own 53 2 ((domCut d lo hi).map cR)]:=by
 refine Spec.body Tryz.func197 rfl rfl rfl fun w0 Z0=> ?_
 refine .B ?_
 refine T.cd rfl (fun h=> ?_) (fun h=> ?_)
 ·have e:domCut d lo hi=[]:=by simp[domCut];intro h2;omega
  rw[e]
  refine .B ?_
  exact⟨_,.ownN rfl .nil⟩
 ·have e:domCut d lo hi=bB d [(lo,hi)]:=by simp[domCut];intro h2;omega
  rw[e]
  refine .B ?_
  refine .V ?_
  refine .B ?_
  refine .C (l4 d [(lo,hi)] (by simpa using hd)) ?_
  refine .B ?_
  exact⟨_,.o rfl rfl rfl (fun _=> .inl rfl) (by simp) .nil⟩
theorem wt (a b:List (Int×Int))(hl:a.length*8≤140737488355328):Spec Tryz.prog 140 false [dm a,dm b] [.val (.bool (decide (a=b)))]:=by
 refine Spec.body Tryz.func140 rfl rfl rfl fun w0 Z0=> ?_
 refine .B ?_
 refine T.cd rfl (fun h=> ?_) (fun h=> ?_)
 ·refine .B ?_
  exact⟨_,.v rfl rfl (by simp only[C6]at h;rw[decide_eq_false];intro e;subst e;exact h rfl) (fun _=>rfl) .nil⟩
 ·have hlen:a.length=b.length:=by simp only[C6,ne_eq,Classical.not_not]at h;omega
  refine .B ?_
  refine T.K (T.ind (fun i:Nat=>⟨[(0,.val false (dm a)),(1,.val false (dm b)),(12,.val true (.int .i64 (a.map cR).length)),(13,.val true (.int .i64 i))],[],0⟩) (fun i=>i≤a.length∧a.take i=b.take i) (fun i=>a.length-i) 0 (by simp) (fun _ _ h=>h) ?_)
  rintro i ⟨hi,ht⟩ ih
  refine .B ?_
  refine T.cd rfl (fun h1=> ?_) (fun h1=> ?_)
  ·simp at h1
   refine .B ?_
   refine .I (r:=cR a[i]) (aO h1) ?_
   refine .B ?_
   refine .I (r:=cR b[i]) (aO (by omega)) ?_
   refine .B ?_
   refine J.se [a[i].1,a[i].2] [b[i].1,b[i].2] rfl rfl rfl rfl rfl rfl rfl rfl (by kernel_rfl) (by kernel_rfl) (by kernel_rfl) (by kernel_rfl) rfl rfl (.inr rfl) ?_
   refine .B ?_
   refine T.cond rfl (fun h2=> ?_) (fun h2=> ?_)
   ·refine .B ?_
    exact⟨_,.v rfl rfl (by rw[decide_eq_false];intro e;subst e;simp at h2) (fun _=>rfl) .nil⟩
   ·refine .B ?_
    rw[ak h1 (by omega)]
    refine T.K (ih (i+1) ⟨by omega,lM ht h1 (by omega) ?_⟩ (by omega))
    simp at h2
    exact Prod.ext h2.1 h2.2
  ·simp at h1
   refine .B ?_
   refine⟨_,.v rfl rfl ?_ (fun _=>rfl) .nil⟩
   rw[CV (by omega),CV (by omega)]at ht
   simp[ht]
theorem d8 (a b:List (Int×Int))(hl:a.length*8≤140737488355328):Spec Tryz.prog 106 false [dm a,dm b] [.val (.bool (decide (a=b)))]:=by
 refine Spec.body Tryz.func106 rfl rfl rfl fun w0 Z0=> ?_
 refine .B ?_
 refine .C (wt a b hl) ?_
 refine .B ?_
 exact r1
def ofD (d:List (Int×Int)):Int×Int:=(ay d,aM d)
theorem lB (d:List (Int×Int))(hd:d.length*8≤140737488355328):Spec Tryz.prog 198 false [dm d] [.val (.agg [.int .i64 (ay d),.int .i64 (aM d)])]:=by
 refine Spec.body Tryz.func198 rfl rfl rfl fun w0 Z0=> ?_
 refine .B ?_
 refine .L ?_
 refine .B ?_
 refine .C (kg d) ?_
 refine .B ?_
 refine .C (qj d hd) ?_
 refine .B ?_
 refine .W ?_
 refine .B ?_
 exact⟨_,.c rfl rfl rfl rfl (fun _=>rfl) .nil⟩
def gj (a b:Int)(da db:List (Int×Int)):Bool:=decide (a=b)||(decide (0<da.length)&&decide (0<db.length)&&decide (ay da=aM da)&&decide (ofD da=ofD db))
theorem v7 (d:List (List (Int×Int)))(a b:Int)(da db:List (Int×Int))(ha:0≤a)(hb:0≤b)(hda:d[a.toNat]? =some da)(hdb:d[b.toNat]? =some db)(hla:da.length*8≤140737488355328)(hlb:db.length*8≤140737488355328):
  Spec Tryz.prog 231 false [aJ d,.int .i64 a,.int .i64 b] [.val (.bool (gj a b da db))]:=by
 refine Spec.body Tryz.func231 rfl rfl rfl fun w0 Z0=> ?_
 have ra:(d.map cD)[a.toNat]? =some (cD da):=by simp[hda]
 have rb:(d.map cD)[b.toNat]? =some (cD db):=by simp[hdb]
 refine .B ?_
 refine J.i rfl rfl rfl rfl rfl rfl rfl rfl rfl (r:=cD da) ha ra rfl ?_
 refine .B ?_
 refine .C (lB da hla) ?_
 refine .B ?_
 refine .L ?_
 refine .W ?_
 refine .B ?_
 refine J.g rfl rfl rfl (fun h1=> ?_) (fun h1=> ?_)
 ·refine .B ?_
  exact⟨_,.v rfl rfl (by simp[gj,show a=b from h1]) (fun _=>rfl) .nil⟩
 ·refine .B ?_
  refine J.i rfl rfl rfl rfl rfl rfl rfl rfl rfl (r:=cD da) ha ra rfl ?_
  refine .B ?_
  refine J.g rfl rfl rfl (fun h2=> ?_) (fun h2=> ?_)
  ·refine .B ?_
   refine J.i rfl rfl rfl rfl rfl rfl rfl rfl rfl (r:=cD db) hb rb rfl ?_
   refine .B ?_
   refine J.g rfl rfl rfl (fun h3=> ?_) (fun h3=> ?_)
   ·refine .B ?_
    refine J.g rfl rfl rfl (fun h4=> ?_) (fun h4=> ?_)
    ·refine .B ?_
     refine J.i rfl rfl rfl rfl rfl rfl rfl rfl rfl (r:=cD db) hb rb rfl ?_
     refine .B ?_
     refine .C (lB db hlb) ?_
     refine .B ?_
     refine J.se [ay da,aM da] [ay db,aM db] rfl rfl rfl rfl rfl rfl rfl rfl (by kernel_rfl) (by kernel_rfl) (by kernel_rfl) (by kernel_rfl) rfl rfl (.inl rfl) ?_
     refine .B ?_
     refine⟨_,.v rfl rfl ?_ (fun _=>rfl) .nil⟩
     have h2:0<da.length:=by simpa using h2
     have h3:0<db.length:=by simpa using h3
     have h1: ¬a=b:=h1
     have h4:ay da=aM da:=h4
     simp[gj,h1,h2,h3,h4,ofD]
    ·refine .B ?_
     exact⟨_,.v rfl rfl (by simp[gj,show¬a=b from h1,show¬ay da=aM da from h4]) (fun _=>rfl) .nil⟩
   ·refine .B ?_
    refine⟨_,.v rfl rfl ?_ (fun _=>rfl) .nil⟩
    have h3: ¬0<db.length:=by simpa using h3
    simp[gj,show¬a=b from h1,h3]
  ·refine .B ?_
   refine⟨_,.v rfl rfl ?_ (fun _=>rfl) .nil⟩
   have h2: ¬0<da.length:=by simpa using h2
   simp[gj,show¬a=b from h1,h2]
def eX (p:Nat→Bool)(h:Nat):Nat:=((List.range h).find? fun k=> !p k).getD h
theorem yc {p:Nat→Bool}{h k:Nat}(hk:k<h)(ha: ∀j,j<k→p j=true)(hn:p k=false):eX p h=k:=by
 unfold eX
 have:(List.range h).find? (fun k=> !p k)=some k:=by
  rw[Er]
  exact⟨by simp[hn],by simpa using hk,fun j hj=>by simp[ha j hj]⟩
 rw[this];rfl
theorem vC {p:Nat→Bool}{h:Nat}(ha: ∀j,j<h→p j=true):eX p h=h:=by
 unfold eX
 have:(List.range h).find? (fun k=> !p k)=none:=by
  rw[Fq]
  intro x hx
  simp[ha x (List.mem_range.1 hx)]
 rw[this];rfl
def halfOf (c:Con):Nat:=c.vars.length / 2
def varAt (c:Con)(k:Nat):Int:=c.vars.getD k 0
def domAt (d:List (List (Int×Int)))(v:Int):List (Int×Int):=d.getD v.toNat []
def cO (d:List (List (Int×Int)))(c:Con):Prop:=c.vars.length*8≤140737488355328∧∀v∈c.vars,0≤v∧v.toNat<d.length
def dU (d:List (List (Int×Int)))(c:Con)(k:Nat):Bool:=gj (varAt c k) (varAt c (halfOf c+k)) (domAt d (varAt c k)) (domAt d (varAt c (halfOf c+k)))
def placeO (d:List (List (Int×Int)))(c:Con):Nat:=eX (dU d c) (halfOf c)
theorem eD {c:Con}{k:Nat}(h:k<c.vars.length):(c.vars.map cI)[((k:Nat):Int).toNat]? =some (cI (varAt c k)):=by
 simp[varAt,h]
theorem aK {c:Con}{k:Nat}(h:k<c.vars.length):varAt c k∈c.vars:=by
 simp[varAt,h]
theorem ao {d:List (List (Int×Int))}{v:Int}(h:v.toNat<d.length):d[v.toNat]? =some (domAt d v):=by
 simp[domAt,h]
theorem ah {d:List (List (Int×Int))}{v:Int}(h:v.toNat<d.length):domAt d v∈d:=by
 simp[domAt,h]
theorem jq (c:Con):halfOf c+halfOf c≤c.vars.length:=by unfold halfOf;omega
theorem vB (d:List (List (Int×Int)))(c:Con)(hc:cO d c)(hd: ∀x∈d,x.length*8≤140737488355328):Spec Tryz.prog 196 false [aJ d,.agg (cC c)] [.val (.int .i64 (placeO d c))]:=by
 refine Spec.body Tryz.func196 rfl rfl rfl fun w0 Z0=> ?_
 obtain⟨hc1,hc2⟩:=hc
 have hh:=jq c
 refine .B ?_
 have e1:IntKind.i64.wrap (((c.vars.map cI).length:Int).tdiv 2)=(halfOf c:Int):=by
  rw[C6,FB (by omega),ae (by omega) (by omega)]
  simp[halfOf]
 rw[e1]
 refine T.K (T.ind (fun k:Nat=>⟨[(0,.val false (aJ d)),(3,.optr 0 0 0 0),(5,.val true (.int .i64 (halfOf c))),(11,.val true (.int .i64 (halfOf c))),(12,.val true (.int .i64 k))],[(0,some (.box false (cC c)))],1⟩)
  (fun k=>k≤halfOf c∧∀j,j<k→dU d c j=true) (fun k=>halfOf c-k) 0 (by simp) (fun _ _ h=>h) ?_)
 rintro k ⟨hk,hp⟩ ih
 refine .B ?_
 refine T.cd rfl (fun h1=> ?_) (fun h1=> ?_)
 ·have h1:k<halfOf c:=by simpa using h1
  have hv1:=hc2 _ (aK (c:=c) (k:=k) (by omega))
  have hv2:=hc2 _ (aK (c:=c) (k:=halfOf c+k) (by omega))
  refine .B ?_
  refine .I (r:=cI (varAt c k)) (eD (by omega)) ?_
  refine .B ?_
  rw[show IntKind.i64.wrap ((halfOf c:Int)+(k:Int))=((halfOf c+k:Nat):Int)by rw[ae (by omega) (by omega)];omega]
  refine .I (r:=cI (varAt c (halfOf c+k))) (eD (by omega)) ?_
  refine .B ?_
  refine J.cc rfl rfl rfl rfl rfl (v7 d (varAt c k) (varAt c (halfOf c+k)) _ _ hv1.1 hv2.1 (ao hv1.2) (ao hv2.2) (hd _ (ah hv1.2)) (hd _ (ah hv2.2))) rfl rfl ?_
  refine .B ?_
  refine T.cond rfl (fun h2=> ?_) (fun h2=> ?_)
  ·have h2:dU d c k=false:=by simpa[dU]using h2
   refine .B ?_
   exact⟨_,.v rfl rfl (by rw[placeO,yc h1 hp h2]) (fun _=>rfl) .nil⟩
  ·have h2:dU d c k=true:=by simpa[dU]using h2
   refine .B ?_
   rw[ak (l:=halfOf c) h1 (by omega)]
   refine T.K (ih (k+1) ⟨by omega,fun j hj=> ?_⟩ (by omega))
   by_cases e:j=k
   ·rw[e];exact h2
   ·exact hp j (by omega)
 ·have h1: ¬k<halfOf c:=by simpa using h1
  refine .B ?_
  exact⟨_,.v rfl rfl (by rw[placeO,vC fun j hj=>hp j (by omega)]) (fun _=>rfl) .nil⟩
abbrev aa:=List (List (Int×Int))
def cH {α β:Type}(step:α→β ⊕ α):Nat→α→Option β
 |0,_=>none
 |n+1,x=>match step x with
  | .inl b=>some b
  | .inr y=>cH step n y
theorem be {α β:Type}{step:α→β ⊕ α}{n:Nat}{x:α}{b r:β}(h:cH step n x=some r)(e:step x= .inl b):b=r:=by
 cases n with
 |zero=>cases h
 |succ n=>simp only[cH,e,C3]at h;exact h
theorem gI {α β:Type}{step:α→β ⊕ α}{n:Nat}{x y:α}{r:β}(h:cH step n x=some r)(e:step x= .inr y): ∃m,m<n∧cH step m y=some r:=by
 cases n with
 |zero=>cases h
 |succ n=>simp only[cH,e]at h;exact⟨n,Di n,h⟩
def dI (c:Con)(out:aa):Option aa ⊕ aa:=
 if placeO out c=halfOf c then .inl (some out)else
 let a:=varAt c (placeO out c)
 let b:=varAt c (halfOf c+placeO out c)
 let x:=domCut (domAt out a) (-1048576) (aM (domAt out b))
 let y:=domCut (domAt out b) (ay (domAt out a)) 1048576
 if x=[]∨y=[]then .inl none else
 if x=domAt out a∧y=domAt out b then .inl (some out)else .inr ((out.set a.toNat x).set b.toNat y)
def aW (R:Option aa):List RV:=[.own 54 1 ((R.getD []).map cD),.val (.bool R.isSome)]
theorem kX (r:Int×Int): ∀a,(bB a [r]).length≤a.length
 | []=>by simp[nu]
 |x::xs=>by
  have:=kX r xs
  rw[hI]
  simp only[CW,D0]
  have h2:(bB (x::xs) []).length=0:=by simp[nt]
  split<;>split<;>simp only[D0,Dj]<;>omega
theorem jN (d:List (Int×Int))(lo hi:Int):(domCut d lo hi).length≤d.length:=by
 unfold domCut;split
 ·simp
 ·exact kX _ _
theorem lV (p:Nat→Bool)(h:Nat):eX p h≤h:=by
 unfold eX
 cases hf:(List.range h).find? (fun k=> !p k)with
 |none=>simp
 |some k=>
  have:=List.mem_range.1 (Fs hf)
  simp;omega
def je (d:aa):Prop:=d.length*24≤140737488355328∧∀x∈d,(x.length+1)*16≤140737488355328
theorem je.set {d:aa}(h:je d)(i:Nat){x:List (Int×Int)}(hx:(x.length+1)*16≤140737488355328):je (d.set i x):=by
 refine⟨by simpa using h.1,fun y hy=> ?_⟩
 rcases CX hy with hy|rfl
 ·exact h.2 y hy
 ·exact hx
theorem cO.set {d:aa}{c:Con}(h:cO d c)(i:Nat)(x:List (Int×Int)):cO (d.set i x) c:=by
 refine⟨h.1,fun v hv=> ?_⟩
 rw[DI]
 exact h.2 v hv
theorem vz (d:aa)(c:Con)(hc:cO d c)(hd:je d)(R:Option aa)(N:Nat)(hR:if []∈d then R=none else cH (dI c) N d=some R):Spec Tryz.prog 138 false [aJ d,.agg (cC c)] (aW R):=by
 refine Spec.body Tryz.func138 rfl rfl rfl fun w0 Z0=> ?_
 have hh:=jq c
 obtain⟨hd1,hd2⟩:=hd
 refine .B ?_
 refine T.sub (Rel.own0 (s:=6) 54 1 rfl) ?_
 refine T.K (T.listI d (fun pre=>[]∉pre) (fun n pre post=>⟨[(0,.val false (aJ d)),(3,.optr 0 0 0 0),(6,.ref 1),(15,.val false (aJ d)),(16,.val true (.int .i64 (d.map cD).length)),(17,.val true (.int .i64 n))],[(0,some (.box false (cC c))),(1,some (.sl 54 1 true (pre.map cD)))],2⟩) (fun _ _ h=>h) (by simp) ?_ ?_)
 ·rintro n pre x post h hn hi ih
  have hlt:=bY h hn
  have hxl:=hd2 x (by rw[h];simp)
  refine .B ?_
  refine T.ct2 rfl (bX h hn) ?_
  refine .B ?_
  refine .I (r:=cD x) (aS h hn) ?_
  refine .B ?_
  refine T.cd rfl (fun h1=> ?_) (fun h1=> ?_)
  ·have hx:x=[]:=by simp at h1;exact h1
   have:R=none:=by rw[if_pos (by rw[h,hx];simp)]at hR;exact hR
   subst this
   refine .B ?_
   exact⟨_,.ownN rfl (.v rfl rfl rfl (fun _=>rfl) .nil)⟩
  ·have hx:x≠[]:=fun e=>h1 (by rw[e];rfl)
   refine .B ?_
   refine .C (bQ x (by omega)).frz ?_
   refine .B ?_
   refine .V ?_
   refine .B ?_
   refine J.aD rfl rfl rfl rfl rfl rfl rfl rfl rfl rfl rfl rfl rfl rfl rfl rfl rfl rfl rfl (by omega) ?_
   refine .B ?_
   rw[ak hlt (by omega)]
   exact T.K (ih (by simp[hi,Ne.symm hx]))
 ·intro hi
  rw[if_neg hi]at hR
  refine .B ?_
  refine T.cf2 rfl bl ?_
  refine .B ?_
  have e1:IntKind.i64.wrap (((c.vars.map cI).length:Int).tdiv 2)=(halfOf c:Int):=by
   have:=hc.1
   rw[C6,FB (by omega),ae (by omega) (by omega)]
   simp[halfOf]
  rw[e1]
  refine T.K (T.ind (fun(s:Nat×aa)=>⟨[(3,.optr 0 0 0 0),(6,.ref 1),(9,.val true (.int .i64 (halfOf c)))],[(0,some (.box false (cC c))),(1,some (.sl 54 1 true (s.2.map cD)))],2⟩)
   (fun s=>cH (dI c) s.1 s.2=some R∧cO s.2 c∧je s.2) (fun s=>s.1) (N,d) ⟨hR,hc,hd1,hd2⟩ (fun _ _ h=>h) ?_)
  rintro⟨m,out⟩ ⟨hR,hc,hd⟩ ih
  simp only at hR hc hd ih
  dsimp only
  have hcv:=hc.1
  have hlen8: ∀x∈out,x.length*8≤140737488355328:=fun x hx=>by have:=hd.2 x hx;omega
  refine .B ?_
  refine .C (vB out c hc hlen8) ?_
  refine .B ?_
  have hpl:placeO out c≤halfOf c:=lV _ _
  have hst:dI c out=dI c out:=rfl
  conv at hst=>rhs;unfold dI
  generalize placeO out c=k at*
  refine T.cd rfl (fun h1=> ?_) (fun h1=> ?_)
  ·have h1:k=halfOf c:=by omega
   rw[if_pos h1]at hst
   obtain rfl:=be hR hst
   refine .B ?_
   exact⟨_,.o rfl rfl rfl (fun _=> .inl rfl) (by simp) (.v rfl rfl rfl (fun _=>rfl) .nil)⟩
  ·have h1: ¬k=halfOf c:=by omega
   rw[if_neg h1]at hst
   have hv1:=hc.2 _ (aK (c:=c) (k:=k) (by omega))
   have hv2:=hc.2 _ (aK (c:=c) (k:=halfOf c+k) (by omega))
   have hm1:=hd.2 _ (ah hv1.2)
   have hm2:=hd.2 _ (ah hv2.2)
   have ra:(out.map cD)[(varAt c k).toNat]? =some (cD (domAt out (varAt c k))):=by simp[ao hv1.2]
   have rb:(out.map cD)[(varAt c (halfOf c+k)).toNat]? =some (cD (domAt out (varAt c (halfOf c+k)))):=by simp[ao hv2.2]
   have la:(varAt c k).toNat<(out.map cD).length:=by simpa using hv1.2
   have lb:(varAt c (halfOf c+k)).toNat<(out.map cD).length:=by simpa using hv2.2
   have ka:=eD (c:=c) (k:=k) (by omega)
   have kb:=eD (c:=c) (k:=halfOf c+k) (by omega)
   simp only at hst
   generalize varAt c k=a at*
   generalize varAt c (halfOf c+k)=b at*
   generalize domAt out a=da at*
   generalize domAt out b=db at*
   refine .B ?_
   refine .I (r:=cI a) ka ?_
   refine .B ?_
   rw[show IntKind.i64.wrap ((halfOf c:Int)+(k:Int))=((halfOf c+k:Nat):Int)by rw[ae (by omega) (by omega)];omega]
   refine .I (r:=cI b) kb ?_
   refine .B ?_
   refine J.io rfl rfl rfl rfl rfl rfl rfl rfl rfl hv1.1 la rfl ?_
   refine J.lo rfl rfl rfl rfl rfl rfl (r:=cD da) ra rfl ?_
   refine .B ?_
   refine J.io rfl rfl rfl rfl rfl rfl rfl rfl rfl hv2.1 lb rfl ?_
   refine J.lo rfl rfl rfl rfl rfl rfl (r:=cD db) rb rfl ?_
   refine .B ?_
   refine .C (lB db (by omega)) ?_
   refine .B ?_
   refine .C (f5 da (-1048576) (aM db) (by omega)).frz ?_
   refine .B ?_
   refine J.io rfl rfl rfl rfl rfl rfl rfl rfl rfl hv2.1 lb rfl ?_
   refine J.lo rfl rfl rfl rfl rfl rfl (r:=cD db) rb rfl ?_
   refine .B ?_
   refine J.io rfl rfl rfl rfl rfl rfl rfl rfl rfl hv1.1 la rfl ?_
   refine J.lo rfl rfl rfl rfl rfl rfl (r:=cD da) ra rfl ?_
   refine .B ?_
   refine .C (lB da (by omega)) ?_
   refine .B ?_
   refine .C (f5 db (ay da) 1048576 (by omega)).frz ?_
   refine .B ?_
   have hxl:=jN da (-1048576) (aM db)
   have hyl:=jN db (ay da) 1048576
   generalize domCut da (-1048576) (aM db)=x at*
   generalize domCut db (ay da) 1048576=y at*
   have hnone:x=[]∨y=[]→R=none:=fun h=>by rw[if_pos h]at hst;exact(be hR hst).symm
   refine J.g rfl rfl rfl (fun h2=> ?_) (fun h2=> ?_)
   ·have h2:x=[]:=by simpa using h2
    have:=hnone (.inl h2)
    subst this
    refine .B ?_
    refine T.ct rfl ?_
    refine .B ?_
    exact⟨_,.ownN rfl (.v rfl rfl rfl (fun _=>rfl) .nil)⟩
   ·have h2: ¬x=[]:=by simpa using h2
    refine .B ?_
    refine T.cd rfl (fun h3=> ?_) (fun h3=> ?_)
    ·have h3:y=[]:=by simpa using h3
     have:=hnone (.inr h3)
     subst this
     refine .B ?_
     exact⟨_,.ownN rfl (.v rfl rfl rfl (fun _=>rfl) .nil)⟩
    ·have h3: ¬y=[]:=by simpa using h3
     rw[if_neg (by simp[h2,h3])]at hst
     refine .B ?_
     refine J.io rfl rfl rfl rfl rfl rfl rfl rfl rfl hv1.1 la rfl ?_
     refine J.lo rfl rfl rfl rfl rfl rfl (r:=cD da) ra rfl ?_
     refine .B ?_
     refine .C (d8 x da (by omega)) ?_
     refine .B ?_
     refine J.g rfl rfl rfl (fun h4=> ?_) (fun h4=> ?_)
     ·have h4:x=da:=h4
      refine .B ?_
      refine J.io rfl rfl rfl rfl rfl rfl rfl rfl rfl hv2.1 lb rfl ?_
      refine J.lo rfl rfl rfl rfl rfl rfl (r:=cD db) rb rfl ?_
      refine .B ?_
      refine .C (d8 y db (by omega)) ?_
      refine .B ?_
      refine T.cd rfl (fun h5=> ?_) (fun h5=> ?_)
      ·rw[if_pos ⟨h4,h5⟩]at hst
       obtain rfl:=be hR hst
       refine .B ?_
       exact⟨_,.o rfl rfl rfl (fun _=> .inl rfl) (by simp) (.v rfl rfl rfl (fun _=>rfl) .nil)⟩
      ·rw[if_neg (fun e=>h5 e.2)]at hst
       obtain⟨m',hm',hR'⟩:=gI hR hst
       refine .B ?_
       refine J.io rfl rfl rfl rfl rfl rfl rfl rfl rfl hv1.1 la rfl ?_
       refine J.w1 rfl rfl rfl rfl rfl rfl rfl rfl rfl rfl rfl (fun _=>rfl) (by simpa using la) ?_
       refine J.io rfl rfl rfl rfl rfl rfl rfl rfl rfl hv2.1 (by simpa using lb) rfl ?_
       refine J.w1 rfl rfl rfl rfl rfl rfl rfl rfl rfl rfl rfl (fun _=>rfl) (by simpa using lb) ?_
       refine .B ?_
       refine T.K (ih (m',(out.set a.toNat x).set b.toNat y) ⟨hR',(hc.set _ _).set _ _,(hd.set _ (by omega)).set _ (by omega)⟩ hm')
     ·have h4: ¬x=da:=h4
      rw[if_neg (fun e=>h4 e.1)]at hst
      obtain⟨m',hm',hR'⟩:=gI hR hst
      refine .B ?_
      refine T.cf rfl ?_
      refine .B ?_
      refine J.io rfl rfl rfl rfl rfl rfl rfl rfl rfl hv1.1 la rfl ?_
      refine J.w1 rfl rfl rfl rfl rfl rfl rfl rfl rfl rfl rfl (fun _=>rfl) (by simpa using la) ?_
      refine J.io rfl rfl rfl rfl rfl rfl rfl rfl rfl hv2.1 (by simpa using lb) rfl ?_
      refine J.w1 rfl rfl rfl rfl rfl rfl rfl rfl rfl rfl rfl (fun _=>rfl) (by simpa using lb) ?_
      refine .B ?_
      refine T.K (ih (m',(out.set a.toNat x).set b.toNat y) ⟨hR',(hc.set _ _).set _ _,(hd.set _ (by omega)).set _ (by omega)⟩ hm')
theorem vO (d:List (List Int))(hl:d.length*24≤140737488355328)(hx: ∀x∈d,x.length*8≤140737488355328):Spec Tryz.prog 74 false [bR d] [.own 24 1 (d.map cL)]:=by
 refine Spec.body Tryz.func74 rfl rfl rfl fun w0 Z0=> ?_
 refine .B ?_
 refine .O ?_
 refine .B ?_
 refine T.K (T.list d (fun n pre post=>⟨[(0,.val false (bR d)),(3,.ref 0),(4,.val true (.int .i64 n))],[(0,some (.sl 24 1 true (pre.map cL)))],1⟩) (fun _ _ h=>h) ?_ ?_)
 ·rintro n pre x post h hn ih
  have hlt:=bY h hn
  have hxl:=hx x (by rw[h];simp)
  refine .B ?_
  refine T.ct2 rfl (bX h hn) ?_
  refine .B ?_
  refine .O ?_
  refine .B ?_
  refine .I (r:=cL x) (aS h hn) ?_
  refine .B ?_
  refine J.a rfl rfl rfl rfl rfl rfl rfl rfl rfl rfl rfl rfl rfl rfl rfl rfl rfl oL (by show(0+List.length _)*8≤_;simp;omega) ?_
  refine .B ?_
  refine J.sub (Rel.flat (o:=2) rfl wl) ?_
  refine J.sub (Rel.frz (s:=18) (fun _ h=>h) rfl rfl) ?_
  refine .V ?_
  refine .B ?_
  refine J.a1 (enc:=cL) (x:=x) (B:=24) rfl rfl rfl rfl rfl rfl rfl rfl rfl rfl rfl rfl rfl rfl rfl rfl rfl rfl rfl rfl (by omega) ?_
  refine .B ?_
  rw[ak hlt (by omega)]
  exact T.K ih
 ·refine .B ?_
  refine T.cf2 rfl bl ?_
  refine .B ?_
  exact⟨_,.o rfl rfl rfl (fun _=> .inl rfl) (by simp) .nil⟩
def ConB (c:Con):Prop:=(c.vars.length+1)*8≤140737488355328∧c.coefs.length*8≤140737488355328∧c.rows.length*24≤140737488355328∧∀x∈c.rows,x.length*8≤140737488355328
theorem tn (c:Con)(hc:ConB c):Spec Tryz.prog 38 true [.agg (cC c)] [.val (.agg (cC c))]:=by
 refine Spec.body Tryz.func38 rfl rfl rfl fun w0 Z0=> ?_
 obtain⟨h1,h2,h3,h4⟩:=hc
 refine .B ?_
 refine .L ?_
 refine .B ?_
 refine .O ?_
 refine .B ?_
 refine J.a rfl rfl rfl rfl rfl rfl rfl rfl rfl rfl rfl rfl rfl rfl rfl rfl rfl oL (by show(0+List.length _)*8≤_;simp;omega) ?_
 refine J.sub (Rel.frz (s:=6) (fun _ h=>h) rfl rfl) ?_
 refine .B ?_
 refine .W ?_
 refine .B ?_
 refine .O ?_
 refine .B ?_
 refine J.a rfl rfl rfl rfl rfl rfl rfl rfl rfl rfl rfl rfl rfl rfl rfl rfl rfl oL (by show(0+List.length _)*8≤_;simp;omega) ?_
 refine J.sub (Rel.frz (s:=11) (fun _ h=>h) rfl rfl) ?_
 refine .B ?_
 refine .W ?_
 refine .B ?_
 refine .C (vO c.rows h3 h4).frz ?_
 refine .B ?_
 refine .W ?_
 refine .B ?_
 refine .W ?_
 refine .B ?_
 exact⟨_,.c rfl rfl rfl rfl (fun h=>by cases h) .nil⟩
def usesR (c:Con):List Int:=aV (if c.kind=4 then c.vars++[c.b]else c.vars)
theorem xI (c:Con)(hc:ConB c):Spec Tryz.prog 61 false [.agg (cC c)] [.own 3 1 ((usesR c).map cI)]:=by
 refine Spec.body Tryz.func61 rfl rfl rfl fun w0 Z0=> ?_
 obtain⟨h1,h2,h3,h4⟩:=hc
 refine .B ?_
 refine .O ?_
 refine .B ?_
 refine J.a rfl rfl rfl rfl rfl rfl rfl rfl rfl rfl rfl rfl rfl rfl rfl rfl rfl oL (by show(0+List.length _)*8≤_;simp;omega) ?_
 refine J.sub (Rel.flat (o:=2) rfl wl) ?_
 refine .B ?_
 refine T.cd rfl (fun h=> ?_) (fun h=> ?_)
 ·have e:usesR c=aV (c.vars++[c.b]):=by unfold usesR;rw[if_pos (show c.kind=4 from h)]
  rw[e]
  refine .B ?_
  refine .V ?_
  refine .B ?_
  refine J.aI rfl rfl rfl rfl rfl rfl rfl rfl rfl rfl rfl rfl rfl rfl rfl rfl rfl rfl rfl (l:=c.vars) (by omega) ?_
  refine .B ?_
  refine .C (iQ (c.vars++[c.b]) (by simp;omega)) ?_
  refine .B ?_
  exact⟨_,.o rfl rfl rfl (fun _=> .inl rfl) (by simp) .nil⟩
 ·have e:usesR c=aV c.vars:=by unfold usesR;rw[if_neg (show¬c.kind=4 from h)]
  rw[e]
  refine .B ?_
  refine .C (iQ c.vars (by omega)) ?_
  refine .B ?_
  exact⟨_,.o rfl rfl rfl (fun _=> .inl rfl) (by simp) .nil⟩
theorem mM (l:List Int)(hl:l.length*8≤140737488355328):Spec Tryz.prog 93 false [av l] [.val (.bool (decide l.Nodup))]:=by
 refine Spec.body Tryz.func93 rfl rfl rfl fun w0 Z0=> ?_
 refine .B ?_
 refine T.K (T.ind (fun i:Nat=>⟨[(0,.val false (av l)),(3,.val true (.int .i64 i))],[],0⟩) (fun i=>i≤l.length∧(l.take i).Nodup) (fun i=>l.length-i) 0 (by simp) (fun _ _ h=>h) ?_)
 rintro i ⟨hi,hd⟩ ih
 refine .B ?_
 refine T.cd rfl (fun h1=> ?_) (fun h1=> ?_)
 ·have h1:i<l.length:=by simpa using h1
  refine .B ?_
  refine T.K (T.ind (fun k:Nat=>⟨[(0,.val false (av l)),(3,.val true (.int .i64 i)),(4,.val true (.int .i64 k))],[],0⟩) (fun k=>k≤i∧l[i]∉l.take k) (fun k=>i-k) 0 (by simp) (fun _ _ h=>h) ?_)
  rintro k ⟨hk,hn⟩ ih2
  refine .B ?_
  refine T.cd rfl (fun h2=> ?_) (fun h2=> ?_)
  ·have h2:k<i:=by omega
   refine .B ?_
   refine .I (r:=cI l[i]) (aO h1) ?_
   refine .B ?_
   refine .I (r:=cI l[k]) (aO (by omega)) ?_
   refine .B ?_
   refine T.cd rfl (fun h3=> ?_) (fun h3=> ?_)
   ·refine .B ?_
    refine⟨_,.v rfl rfl ?_ (fun _=>rfl) .nil⟩
    rw[decide_eq_false]
    intro h
    have:=List.pairwise_iff_getElem.1 h k i (by omega) h1 h2
    exact this (Eq.symm h3)
   ·refine .B ?_
    rw[ak (l:=l.length) (by omega) (by omega)]
    refine T.K (ih2 (k+1) ⟨by omega,?_⟩ (by omega))
    rw[C7 (by omega)]
    simp only[Dl,DL,not_or]
    exact⟨hn,h3⟩
  ·have h2:k=i:=by omega
   subst h2
   refine .B ?_
   rw[ak (l:=l.length) (by omega) (by omega)]
   refine T.K (ih (k+1) ⟨by omega,?_⟩ (by omega))
   rw[C7 (by omega),List.nodup_append]
   refine⟨hd,by simp,?_⟩
   intro a ha b hb e
   simp only[DL]at hb
   subst hb e
   exact hn ha
 ·have h1:i=l.length:=by simp at h1;omega
  refine .B ?_
  refine⟨_,.v rfl rfl ?_ (fun _=>rfl) .nil⟩
  rw[h1,DE]at hd
  simp[hd]
def sumR (c:Con):Bool:=decide c.vars.Nodup&&decide (0<c.vars.length)&&decide (c.vars.length=c.coefs.length)&& !decide (0∈c.coefs)
theorem zl (c:Con)(hc:ConB c):Spec Tryz.prog 94 false [.agg (cC c)] [.val (.bool (sumR c))]:=by
 refine Spec.body Tryz.func94 rfl rfl rfl fun w0 Z0=> ?_
 obtain⟨h1,h2,h3,h4⟩:=hc
 unfold sumR
 have ho:=mM c.vars (by omega)
 generalize decide c.vars.Nodup=b1 at*
 refine .B ?_
 refine .C ho ?_
 refine .B ?_
 refine J.gb rfl rfl rfl (fun h=> ?_) (fun h=> ?_)
 ·subst h
  refine .B ?_
  refine J.g rfl rfl rfl (fun h=> ?_) (fun h=> ?_)
  ·have h:0<c.vars.length:=by simpa using h
   refine .B ?_
   refine J.g rfl rfl rfl (fun h5=> ?_) (fun h5=> ?_)
   ·have h5:c.vars.length=c.coefs.length:=by simp only[C6]at h5;omega
    refine .B ?_
    refine .C (oW c.coefs 0 (by omega)) ?_
    refine .B ?_
    exact⟨_,.v rfl rfl (by simp[h5];intro hh;omega) (fun _=>rfl) .nil⟩
   ·have h5: ¬c.vars.length=c.coefs.length:=by simp only[C6]at h5;omega
    refine .B ?_
    exact⟨_,.v rfl rfl (by simp[h5]) (fun _=>rfl) .nil⟩
  ·have h: ¬0<c.vars.length:=by simpa using h
   refine .B ?_
   exact⟨_,.v rfl rfl (by simp[h]) (fun _=>rfl) .nil⟩
 ·subst h
  refine .B ?_
  exact⟨_,.v rfl rfl (by simp) (fun _=>rfl) .nil⟩
def em (c:Con)(r:List Int):Bool:=decide (r.length=c.vars.length)&&r.all aH
def kH (c:Con):Bool:=c.rows.all (em c)&&decide (c.rows.length≤1024)
theorem xZ (c:Con)(hc:ConB c):Spec Tryz.prog 95 false [.agg (cC c)] [.val (.bool (kH c))]:=by
 refine Spec.body Tryz.func95 rfl rfl rfl fun w0 Z0=> ?_
 obtain⟨h1,h2,h3,h4⟩:=hc
 refine .B ?_
 refine T.K (T.listI c.rows (fun pre=>pre.all (em c)=true) (fun n pre post=>⟨[(1,.optr 0 0 0 0),(3,.val true (.int .i64 n))],[(0,some (.box false (cC c)))],1⟩) (fun _ _ h=>h) rfl ?_ ?_)
 ·rintro n pre x post h hn hi ih
  have hlt:=bY h hn
  have hxl:=h4 x (by rw[h];simp)
  have hra:=aS (enc:=cL) h hn
  have bad:em c x=false→kH c=false:=fun e=>by rw[kH,h];simp[e]
  refine .B ?_
  refine T.ct2 rfl (bX h hn) ?_
  refine .B ?_
  refine .I (r:=cL x) hra ?_
  refine .B ?_
  refine T.cd rfl (fun h5=> ?_) (fun h5=> ?_)
  ·have h5: ¬x.length=c.vars.length:=by simp only[C6]at h5;omega
   rw[bad (by simp[em,h5])]
   refine .B ?_
   exact r1
  ·have h5:x.length=c.vars.length:=by simp only[C6]at h5;omega
   refine .B ?_
   refine T.K (T.listI x (fun pre=>pre.all aH=true) (fun k pre post=>⟨[(1,.optr 0 0 0 0),(3,.val true (.int .i64 n)),(4,.val true (.int .i64 k))],[(0,some (.box false (cC c)))],1⟩) (fun _ _ h=>h) rfl ?_ ?_)
   ·rintro k pre2 y post2 h6 hk hi2 ih2
    have hlt2:=bY h6 hk
    refine .B ?_
    refine .I (r:=cL x) hra ?_
    refine .B ?_
    refine T.ct2 rfl (bX h6 hk) ?_
    refine .B ?_
    refine .I (r:=cL x) hra ?_
    refine .B ?_
    refine .I (r:=cI y) (aS h6 hk) ?_
    refine .B ?_
    refine .C (jU y) ?_
    refine .B ?_
    refine T.cond rfl (fun h7=> ?_) (fun h7=> ?_)
    ·rw[bad (by simp only[Dd]at h7;simp only[em];rw[h6];simp[h7])]
     refine .B ?_
     exact r1
    ·refine .B ?_
     rw[ak hlt2 (by omega)]
     exact T.K (ih2 (by simp only[EU]at h7;simp[Dm,hi2,h7]))
   ·intro hi2
    refine .B ?_
    refine .I (r:=cL x) hra ?_
    refine .B ?_
    refine T.cf2 rfl bl ?_
    refine .B ?_
    rw[ak hlt (by omega)]
    exact T.K (ih (by rw[Dm,hi];simp[em,h5,hi2]))
 ·intro hi
  refine .B ?_
  refine T.cf2 rfl bl ?_
  refine .B ?_
  exact⟨_,.v rfl rfl (by rw[kH,hi];simp;omega) (fun _=>rfl) .nil⟩
def truthR (d:List (Int×Int)):Bool:=d.all fun r=> !(decide (r.1<0)||decide (1<r.2))
theorem nK (d:List (Int×Int))(hd:d.length*8≤140737488355328):Spec Tryz.prog 96 false [dm d] [.val (.bool (truthR d))]:=by
 refine Spec.body Tryz.func96 rfl rfl rfl fun w0 Z0=> ?_
 refine .B ?_
 refine T.K (T.listI d (fun pre=>truthR pre=true) (fun n pre post=>⟨[(0,.val false (dm d)),(3,.val true (.int .i64 n))],[],0⟩) (fun _ _ h=>h) rfl ?_ ?_)
 ·rintro n pre x post h hn hi ih
  have hlt:=bY h hn
  have hra:=aS (enc:=cR) h hn
  have bad:(decide (x.1<0)||decide (1<x.2))=true→truthR d=false:=fun e=>by
   rw[truthR,h,Dm,EW,e]
   simp
  refine .B ?_
  refine T.ct2 rfl (bX h hn) ?_
  refine .B ?_
  refine .I (r:=cR x) hra ?_
  refine .B ?_
  refine J.g rfl rfl rfl (fun h1=> ?_) (fun h1=> ?_)
  ·rw[bad (by simp[show x.1<0 from h1])]
   refine .B ?_
   refine T.ct rfl ?_
   refine .B ?_
   exact r1
  ·refine .B ?_
   refine .I (r:=cR x) hra ?_
   refine .B ?_
   refine T.cd rfl (fun h2=> ?_) (fun h2=> ?_)
   ·rw[bad (by simp[show x.2 > 1 from h2])]
    refine .B ?_
    exact r1
   ·refine .B ?_
    rw[ak hlt (by omega)]
    refine T.K (ih ?_)
    simp only[truthR,Dm,CR]at hi⊢
    refine⟨hi,?_⟩
    simp[show¬x.1<0 from h1,show¬1<x.2 from h2]
 ·intro hi
  refine .B ?_
  refine T.cf2 rfl bl ?_
  refine .B ?_
  exact⟨_,.v rfl rfl (by rw[hi]) (fun _=>rfl) .nil⟩
def eB (room:Int):List Int→Bool
 | []=>false
 |x::xs=>if 4398046511104<x∨x< -4398046511104 then true else if room-max x (-x)*1048576<0 then true else eB (room-max x (-x)*1048576) xs
def ee (l:List Int)(rhs:Int):Bool:=if 4611686018427387904<rhs∨rhs< -4611686018427387904 then true else eB (4611686018427387904-max rhs (-rhs)) l
theorem AA (l:List Int)(rhs:Int)(hl:l.length*8≤140737488355328):Spec Tryz.prog 63 false [av l,.int .i64 rhs] [.val (.bool (ee l rhs))]:=by
 refine Spec.body Tryz.func63 rfl rfl rfl fun w0 Z0=> ?_
 unfold ee
 refine .B ?_
 refine J.g rfl rfl rfl (fun h1=> ?_) (fun h1=> ?_)
 ·rw[if_pos (.inl h1)]
  refine .B ?_
  refine T.ct rfl ?_
  refine .B ?_
  exact r1
 ·have h1: ¬4611686018427387904<rhs:=h1
  refine .B ?_
  rw[show IntKind.i64.wrap (0-4611686018427387904)= -4611686018427387904 by rfl]
  refine T.cd rfl (fun h2=> ?_) (fun h2=> ?_)
  ·rw[if_pos (.inr h2)]
   refine .B ?_
   exact r1
  ·rw[if_neg (by omega)]
   refine .B ?_
   rw[ae (n:=0-rhs) (by omega) (by omega),show(0:Int)-rhs= -rhs by omega,ae (n:=4611686018427387904-max rhs (-rhs)) (by omega) (by omega)]
   refine T.K (T.ind (fun(s:Nat×Int)=>⟨[(0,.val false (av l)),(5,.val true (.int .i64 s.2)),(6,.val true (.int .i64 s.1))],[],0⟩)
    (fun s=>s.1≤l.length∧0≤s.2∧s.2≤4611686018427387904∧eB s.2 (l.drop s.1)=eB (4611686018427387904-max rhs (-rhs)) l) (fun s=>l.length-s.1) (0,4611686018427387904-max rhs (-rhs)) ⟨by simp,by simp only;omega,by simp only;omega,by simp⟩ (fun _ _ h=>h) ?_)
   rintro⟨i,room⟩ ⟨hi,hr0,hr1,he⟩ ih
   simp only at hi hr0 hr1 he ih
   rw[←he]
   dsimp only
   refine .B ?_
   refine T.cd rfl (fun h3=> ?_) (fun h3=> ?_)
   ·have h3:i<l.length:=by simpa using h3
    rw[CU h3,eB]at he⊢
    refine .B ?_
    refine .I (r:=cI l[i]) (aO h3) ?_
    refine .B ?_
    refine J.g rfl rfl rfl (fun h4=> ?_) (fun h4=> ?_)
    ·rw[if_pos (.inl h4)]
     refine .B ?_
     refine T.ct rfl ?_
     refine .B ?_
     exact r1
    ·have h4: ¬l[i] > 4398046511104:=h4
     refine .B ?_
     refine .I (r:=cI l[i]) (aO h3) ?_
     refine .B ?_
     refine T.cd rfl (fun h5=> ?_) (fun h5=> ?_)
     ·rw[if_pos (.inr h5)]
      refine .B ?_
      exact r1
     ·have h5: ¬l[i]< -4398046511104:=h5
      rw[if_neg (by omega)]at he⊢
      refine .B ?_
      refine .I (r:=cI l[i]) (aO h3) ?_
      refine .B ?_
      refine .I (r:=cI l[i]) (aO h3) ?_
      refine .B ?_
      rw[ae (n:=0-l[i]) (by omega) (by omega),show(0:Int)-l[i]= -l[i]by omega,ae (n:=max l[i] (-l[i])*1048576) (by omega) (by omega),ae (n:=room-max l[i] (-l[i])*1048576) (by omega) (by omega)]
      refine T.cd rfl (fun h6=> ?_) (fun h6=> ?_)
      ·rw[if_pos h6]
       refine .B ?_
       exact r1
      ·have h6: ¬room-max l[i] (-l[i])*1048576<0:=h6
       rw[if_neg h6]at he⊢
       refine .B ?_
       rw[ak h3 (by omega),he]
       exact T.K (ih (i+1,room-max l[i] (-l[i])*1048576) ⟨by simp only;omega,by simp only;omega,by simp only;omega,by simp only;exact he⟩ (by simp only;omega))
   ·have h3: ¬i<l.length:=by simpa using h3
    refine .B ?_
    exact⟨_,.v rfl rfl (by rw[Dk (by omega)];rfl) (fun _=>rfl) .nil⟩
def coefAt (c:Con)(k:Nat):Int:=c.coefs.getD k 0
def gg (d:aa)(c:Con)(i:Nat):Bool:=truthR (domAt d (varAt c i))&&(decide (coefAt c i=1)||decide (coefAt c i= -1))
def f9 (d:aa)(c:Con):Bool:=(List.range c.vars.length).all (gg d c)
theorem ix {c:Con}{k:Nat}(h:k<c.coefs.length):(c.coefs.map cI)[((k:Nat):Int).toNat]? =some (cI (coefAt c k)):=by
 simp[coefAt,h]
theorem u0 (d:aa)(c:Con)(hc:cO d c)(hl:c.vars.length=c.coefs.length)(hd: ∀x∈d,x.length*8≤140737488355328):Spec Tryz.prog 97 false [aJ d,.agg (cC c)] [.val (.bool (f9 d c))]:=by
 refine Spec.body Tryz.func97 rfl rfl rfl fun w0 Z0=> ?_
 obtain⟨h1,h2⟩:=hc
 refine .B ?_
 refine T.K (T.ind (fun i:Nat=>⟨[(0,.val false (aJ d)),(3,.optr 0 0 0 0),(5,.val true (.int .i64 i))],[(0,some (.box false (cC c)))],1⟩) (fun i=>i≤c.vars.length∧∀j,j<i→gg d c j=true) (fun i=>c.vars.length-i) 0 (by simp) (fun _ _ h=>h) ?_)
 rintro i ⟨hi,hp⟩ ih
 refine .B ?_
 refine T.cd rfl (fun h3=> ?_) (fun h3=> ?_)
 ·have h3:i<c.vars.length:=by simpa using h3
  have hv:=h2 _ (aK h3)
  have ra:(d.map cD)[(varAt c i).toNat]? =some (cD (domAt d (varAt c i))):=by simp[ao hv.2]
  have hu:gg d c i=(truthR (domAt d (varAt c i))&&(decide (coefAt c i=1)||decide (coefAt c i= -1))):=rfl
  have ht:=nK (domAt d (varAt c i)) (hd _ (ah hv.2))
  have bad:gg d c i=false→f9 d c=false:=fun e=>by
   rw[f9,FV]
   exact⟨i,List.mem_range.2 h3,by simp[e]⟩
  have good:gg d c i=true→T _ _ _ _:=fun e=>ih (i+1) ⟨by omega,fun j hj=>by
   by_cases e2:j=i
   ·rw[e2];exact e
   ·exact hp j (by omega)⟩ (by omega)
  refine .B ?_
  refine .I (r:=cI (varAt c i)) (eD h3) ?_
  refine .B ?_
  refine J.i rfl rfl rfl rfl rfl rfl rfl rfl rfl (r:=cD (domAt d (varAt c i))) hv.1 ra rfl ?_
  refine .B ?_
  refine .C ht ?_
  generalize truthR (domAt d (varAt c i))=tr at*
  cases tr
  ·rw[bad hu]
   refine .B ?_
   refine T.ct rfl ?_
   refine .B ?_
   exact r1
  ·rw[Da]at hu
   refine .B ?_
   refine .I (r:=cI (coefAt c i)) (ix (by omega)) ?_
   refine .B ?_
   refine J.g rfl rfl rfl (fun h4=> ?_) (fun h4=> ?_)
   ·have h4: ¬coefAt c i=1:=h4
    refine .B ?_
    refine .I (r:=cI (coefAt c i)) (ix (by omega)) ?_
    refine .B ?_
    refine T.cd rfl (fun h5=> ?_) (fun h5=> ?_)
    ·have h5: ¬coefAt c i= -1:=h5
     rw[bad (by rw[hu];simp[h4,h5])]
     refine .B ?_
     exact r1
    ·have h5:coefAt c i= -1:=Classical.not_not.1 h5
     refine .B ?_
     rw[ak h3 (by omega)]
     exact T.K (good (by rw[hu];simp[h5]))
   ·have h4:coefAt c i=1:=Classical.not_not.1 h4
    refine .B ?_
    refine T.cf rfl ?_
    refine .B ?_
    rw[ak h3 (by omega)]
    exact T.K (good (by rw[hu];simp[h4]))
 ·have h3:i=c.vars.length:=by simp at h3;omega
  refine .B ?_
  refine⟨_,.v rfl rfl ?_ (fun _=>rfl) .nil⟩
  simp only[PV.bool.injEq]
  rw[eq_comm,f9,DA]
  intro j hj
  exact hp j (by have:=List.mem_range.1 hj;omega)
def bareR (c:Con):Bool:=decide (c.op=0)&&decide (c.rhs=0)&&decide (c.b=0)
def opR (c:Con):Bool:=decide (0≤c.op)&&decide (c.op≤2)
def manyR (c:Con):Bool:=decide (0<c.vars.length)&&decide c.vars.Nodup
def noneR (c:Con):Bool:=decide (c.rows.length=0)
def plainR (c:Con):Bool:=bareR c&&decide (c.coefs.length=0)
def rightR (d:aa)(c:Con):Bool:=
 if c.kind=0 then noneR c&&sumR c&&opR c&&decide (c.b=0)else
 if c.kind=1 then noneR c&&plainR c&&manyR c else
 if c.kind=2 then plainR c&&manyR c&&kH c else
 if c.kind=3 then noneR c&&plainR c&&manyR c&&decide (3≤c.vars.length)else
 if c.kind=4 then noneR c&&sumR c&&opR c&&truthR (domAt d c.b)&& !decide (c.b∈c.vars)else
 if c.kind=5 then noneR c&&bareR c&&sumR c&&f9 d c else
 noneR c&&plainR c&&decide (2≤c.vars.length)&&decide (c.vars.length % 2=0)
theorem vv (d:aa)(c:Con)(hc:ConB c)(hv:cO d c)(hb:c.kind=4→0≤c.b∧c.b.toNat<d.length)(hd: ∀x∈d,x.length*8≤140737488355328):Spec Tryz.prog 62 false [aJ d,.agg (cC c)] [.val (.bool (rightR d c))]:=by
 refine Spec.body Tryz.func62 rfl rfl rfl fun w0 Z0=> ?_
 have hsum:=zl c hc
 have hrows:=xZ c hc
 have hunits:sumR c=true→Spec Tryz.prog 97 false [aJ d,.agg (cC c)] [.val (.bool (f9 d c))]:=fun h=>u0 d c hv (by simp[sumR]at h;omega) hd
 have hoth:=mM c.vars (by have:=hc.1;omega)
 have hbm:=oW c.vars c.b (by have:=hc.1;omega)
 refine T.seq ?_
 refine T.r ?_
 repeat' first|refine J.e rfl rfl rfl rfl ?_|refine J.skip rfl rfl rfl ?_|refine J.bx rfl rfl rfl rfl rfl rfl ?_
 refine J.nil ?_
 refine T.mid ⟨[(0,.val false (aJ d)),(3,.optr 0 0 0 0),(5,.val true (.bool (bareR c)))],[(0,some (.box false (cC c)))],1⟩ ?_ ?_
 ·refine .B ?_
  refine J.g rfl rfl rfl (fun h1=> ?_) (fun h1=> ?_)
  ·refine .B ?_
   refine J.g rfl rfl rfl (fun h2=> ?_) (fun h2=> ?_)
   ·rw[show bareR c=decide (c.b=0)by simp[bareR,show c.op=0 from h1,show c.rhs=0 from h2]]
    refine .B ?_
    exact⟨rfl,[0,3,5],[3],rfl,rfl⟩
   ·rw[show bareR c=false by simp[bareR,show¬c.rhs=0 from h2]]
    refine .B ?_
    exact⟨rfl,[0,3,5],[3],rfl,rfl⟩
  ·rw[show bareR c=false by simp[bareR,show¬c.op=0 from h1]]
   refine .B ?_
   exact⟨rfl,[0,3,5],[3],rfl,rfl⟩
 refine T.mid ⟨[(0,.val false (aJ d)),(3,.optr 0 0 0 0),(5,.val true (.bool (bareR c))),(6,.val true (.bool (plainR c)))],[(0,some (.box false (cC c)))],1⟩ ?_ ?_
 ·rw[show plainR c=(bareR c&&decide (((c.coefs.map cI).length:Int)=0))by simp[plainR]]
  generalize bareR c=bb
  cases bb
  ·refine .B ?_
   exact⟨rfl,[0,3,5,6],[3],rfl,rfl⟩
  ·refine .B ?_
   exact⟨rfl,[0,3,5,6],[3],rfl,rfl⟩
 refine T.mid ⟨[(0,.val false (aJ d)),(3,.optr 0 0 0 0),(5,.val true (.bool (bareR c))),(6,.val true (.bool (plainR c))),(7,.val true (.bool (opR c)))],[(0,some (.box false (cC c)))],1⟩ ?_ ?_
 ·refine .B ?_
  refine J.g rfl rfl rfl (fun h1=> ?_) (fun h1=> ?_)
  ·rw[show opR c=decide (c.op≤2)by simp[opR,show c.op≥0 from h1]]
   refine .B ?_
   exact⟨rfl,[0,3,5,6,7],[3],rfl,rfl⟩
  ·rw[show opR c=false by simp[opR,show¬0≤c.op from h1]]
   refine .B ?_
   exact⟨rfl,[0,3,5,6,7],[3],rfl,rfl⟩
 refine T.mid ⟨[(0,.val false (aJ d)),(3,.optr 0 0 0 0),(5,.val true (.bool (bareR c))),(6,.val true (.bool (plainR c))),(7,.val true (.bool (opR c))),(8,.val true (.bool (manyR c)))],[(0,some (.box false (cC c)))],1⟩ ?_ ?_
 ·refine .B ?_
  refine J.g rfl rfl rfl (fun h1=> ?_) (fun h1=> ?_)
  ·rw[show manyR c=decide c.vars.Nodup by simp only[C6]at h1;simp[manyR];omega]
   refine .B ?_
   refine .C hoth ?_
   refine .B ?_
   exact⟨rfl,[0,3,5,6,7,8],[3],rfl,rfl⟩
  ·rw[show manyR c=false by simp only[C6]at h1;simp[manyR];omega]
   refine .B ?_
   exact⟨rfl,[0,3,5,6,7,8],[3],rfl,rfl⟩
 refine T.mid ⟨[(0,.val false (aJ d)),(3,.optr 0 0 0 0),(5,.val true (.bool (bareR c))),(6,.val true (.bool (plainR c))),(7,.val true (.bool (opR c))),(8,.val true (.bool (manyR c))),(9,.val true (.bool (noneR c)))],[(0,some (.box false (cC c)))],1⟩ ?_ ?_
 ·rw[show noneR c=decide (((c.rows.map cL).length:Int)=0)by simp[noneR]]
  refine .B ?_
  exact⟨rfl,[0,3,5,6,7,8,9],[3],rfl,rfl⟩
 refine .B ?_
 by_cases hk0:c.kind=0
 ·rw[show rightR d c=(noneR c&&sumR c&&opR c&&decide (c.b=0))by simp[rightR,hk0]]
  refine T.ct2 rfl (by simp[hk0]) ?_
  refine .B ?_
  generalize noneR c=bn at*
  cases bn
  ·refine .B ?_
   exact r1
  ·refine .B ?_
   refine .C hsum ?_
   generalize sumR c=bs at*
   cases bs
   ·refine .B ?_
    exact r1
   ·refine .B ?_
    generalize opR c=bo at*
    cases bo
    ·refine .B ?_
     exact r1
    ·refine .B ?_
     exact⟨_,.v rfl rfl (by simp<;>omega) (fun _=>rfl) .nil⟩
 refine T.cf2 rfl (by simp[hk0]) ?_
 refine .B ?_
 by_cases hk1:c.kind=1
 ·rw[show rightR d c=(noneR c&&plainR c&&manyR c)by simp[rightR,hk1]]
  refine T.ct2 rfl (by simp[hk1]) ?_
  refine .B ?_
  generalize noneR c=bn at*
  cases bn
  ·refine .B ?_
   exact r1
  ·refine .B ?_
   generalize plainR c=bp at*
   cases bp
   ·refine .B ?_
    exact r1
   ·refine .B ?_
    exact⟨_,.v rfl rfl (by simp<;>omega) (fun _=>rfl) .nil⟩
 refine T.cf2 rfl (by simp[hk1]) ?_
 refine .B ?_
 by_cases hk2:c.kind=2
 ·rw[show rightR d c=(plainR c&&manyR c&&kH c)by simp[rightR,hk2]]
  refine T.ct2 rfl (by simp[hk2]) ?_
  refine .B ?_
  generalize plainR c=bp at*
  cases bp
  ·refine .B ?_
   exact r1
  ·refine .B ?_
   generalize manyR c=bm at*
   cases bm
   ·refine .B ?_
    exact r1
   ·refine .B ?_
    refine .C hrows ?_
    refine .B ?_
    exact⟨_,.v rfl rfl (by simp<;>omega) (fun _=>rfl) .nil⟩
 refine T.cf2 rfl (by simp[hk2]) ?_
 refine .B ?_
 by_cases hk3:c.kind=3
 ·rw[show rightR d c=(noneR c&&plainR c&&manyR c&&decide (3≤c.vars.length))by simp[rightR,hk3]]
  refine T.ct2 rfl (by simp[hk3]) ?_
  refine .B ?_
  generalize noneR c=bn at*
  cases bn
  ·refine .B ?_
   exact r1
  ·refine .B ?_
   generalize plainR c=bp at*
   cases bp
   ·refine .B ?_
    exact r1
   ·refine .B ?_
    generalize manyR c=bm at*
    cases bm
    ·refine .B ?_
     exact r1
    ·refine .B ?_
     exact⟨_,.v rfl rfl (by simp<;>omega) (fun _=>rfl) .nil⟩
 refine T.cf2 rfl (by simp[hk3]) ?_
 refine .B ?_
 by_cases hk4:c.kind=4
 ·rw[show rightR d c=(noneR c&&sumR c&&opR c&&truthR (domAt d c.b)&& !decide (c.b∈c.vars))by simp[rightR,hk4]]
  refine T.ct2 rfl (by simp[hk4]) ?_
  refine .B ?_
  generalize noneR c=bn at*
  cases bn
  ·refine .B ?_
   exact r1
  ·refine .B ?_
   refine .C hsum ?_
   generalize sumR c=bs at*
   cases bs
   ·refine .B ?_
    exact r1
   ·refine .B ?_
    generalize opR c=bo at*
    cases bo
    ·refine .B ?_
     exact r1
    ·refine .B ?_
     have hb2:=hb hk4
     refine J.i rfl rfl rfl rfl rfl rfl rfl rfl rfl (r:=cD (domAt d c.b)) hb2.1 (by simp[ao hb2.2]) rfl ?_
     refine .B ?_
     have htr:=nK (domAt d c.b) (hd _ (ah hb2.2))
     refine .C htr ?_
     generalize truthR (domAt d c.b)=bt at*
     cases bt
     ·refine .B ?_
      exact r1
     ·refine .B ?_
      refine .C hbm ?_
      refine .B ?_
      exact⟨_,.v rfl rfl (by simp<;>omega) (fun _=>rfl) .nil⟩
 refine T.cf2 rfl (by simp[hk4]) ?_
 refine .B ?_
 by_cases hk5:c.kind=5
 ·rw[show rightR d c=(noneR c&&bareR c&&sumR c&&f9 d c)by simp[rightR,hk5]]
  refine T.ct2 rfl (by simp[hk5]) ?_
  refine .B ?_
  generalize noneR c=bn at*
  cases bn
  ·refine .B ?_
   exact r1
  ·refine .B ?_
   generalize bareR c=bb at*
   cases bb
   ·refine .B ?_
    exact r1
   ·refine .B ?_
    refine .C hsum ?_
    generalize sumR c=bs at*
    cases bs
    ·refine .B ?_
     exact r1
    ·refine .B ?_
     refine .C (hunits rfl) ?_
     refine .B ?_
     exact⟨_,.v rfl rfl (by simp<;>omega) (fun _=>rfl) .nil⟩
 refine T.cf2 rfl (by simp[hk5]) ?_
 refine .B ?_
 rw[show rightR d c=(noneR c&&plainR c&&decide (2≤c.vars.length)&&decide (c.vars.length % 2=0))by simp[rightR,hk0,hk1,hk2,hk3,hk4,hk5]]
 generalize noneR c=bn at*
 cases bn
 ·refine .B ?_
  exact r1
 ·refine .B ?_
  generalize plainR c=bp at*
  cases bp
  ·refine .B ?_
   exact r1
  ·refine .B ?_
   refine J.g rfl rfl rfl (fun h1=> ?_) (fun h1=> ?_)
   ·have h1:2≤c.vars.length:=by simp only[C6]at h1;omega
    refine .B ?_
    refine⟨_,.v rfl rfl ?_ (fun _=>rfl) .nil⟩
    simp only[C6,Da,h1,decide_true,PV.bool.injEq,decide_eq_decide]
    rw[Fr (by omega)]
    omega
   ·have h1: ¬2≤c.vars.length:=by simp only[C6]at h1;omega
    refine .B ?_
    exact⟨_,.v rfl rfl (by simp[h1]) (fun _=>rfl) .nil⟩
def inD (d:aa)(v:Int):Bool:= !(decide (v<0)||decide ((d.length:Int)≤v))
def conR (d:aa)(c:Con):Int:=
 if c.kind<0∨6<c.kind then 44 else
 if(usesR c).all (inD d)=false then 43 else
 if rightR d c=false then 44 else
 if ee c.coefs c.rhs=true then 45 else 0
theorem ln {d:aa}{v:Int}:inD d v=true↔0≤v∧v.toNat<d.length:=by
 simp[inD];omega
theorem ri {d:aa}{c:Con}(hc:ConB c)(h:(usesR c).all (inD d)=true):cO d c∧(c.kind=4→0≤c.b∧c.b.toNat<d.length):=by
 have h1: ∀v,v∈(if c.kind=4 then c.vars++[c.b]else c.vars)→0≤v∧v.toNat<d.length:=fun v hv=>ln.1 (List.all_eq_true.1 h v ((bJ v _).2 hv))
 refine⟨⟨by have:=hc.1;omega,fun v hv=>h1 v ?_⟩,fun hk=>h1 c.b ?_⟩
 ·split
  ·exact D4 _ hv
  ·exact hv
 ·rw[if_pos hk];simp
theorem uG (d:aa)(c:Con)(hc:ConB c)(hl:d.length*8≤140737488355328)(hd: ∀x∈d,x.length*8≤140737488355328):Spec Tryz.prog 32 false [aJ d,.agg (cC c)] [.val (.int .i64 (conR d c))]:=by
 refine Spec.body Tryz.func32 rfl rfl rfl fun w0 Z0=> ?_
 have hu:=(xI c hc).frz
 have hul:(usesR c).length*8≤140737488355328:=by
  have h1:=e8 (if c.kind=4 then c.vars++[c.b]else c.vars)
  have h2:(if c.kind=4 then c.vars++[c.b]else c.vars).length≤c.vars.length+1:=by split<;>simp
  have:=hc.1
  unfold usesR;omega
 have hin:=ri (d:=d) hc
 have hcon:conR d c=if c.kind<0∨6<c.kind then 44 else if(usesR c).all (inD d)=false then 43 else if rightR d c=false then 44 else if ee c.coefs c.rhs=true then 45 else 0:=rfl
 generalize usesR c=u at*
 refine .B ?_
 refine J.g rfl rfl rfl (fun h1=> ?_) (fun h1=> ?_)
 ·rw[hcon,if_pos (.inl h1)]
  refine .B ?_
  refine T.ct rfl ?_
  refine .B ?_
  exact r1
 ·refine .B ?_
  refine T.cd rfl (fun h2=> ?_) (fun h2=> ?_)
  ·rw[hcon,if_pos (.inr h2)]
   refine .B ?_
   exact r1
  ·rw[if_neg (fun h=>h.elim h1 h2)]at hcon
   refine .B ?_
   refine .C hu ?_
   refine .B ?_
   refine T.K (T.listI u (fun pre=>pre.all (inD d)=true) (fun n pre post=>⟨[(0,.val false (aJ d)),(3,.optr 0 0 0 0),(5,.val true (av u)),(6,.val true (.int .i64 n))],[(0,some (.box false (cC c)))],1⟩) (fun _ _ h=>h) rfl ?_ ?_)
   ·rintro n pre x post h hn hi ih
    have hlt:=bY h hn
    have hra:=aS (enc:=cI) h hn
    have bad:(decide (x<0)||decide ((d.length:Int)≤x))=true→conR d c=43:=fun e=>by
     rw[hcon,if_pos]
     rw[h,Dm,EW,inD,e]
     simp
    refine .B ?_
    refine T.ct2 rfl (bX h hn) ?_
    refine .B ?_
    refine .I (r:=cI x) hra ?_
    refine .B ?_
    refine J.g rfl rfl rfl (fun h3=> ?_) (fun h3=> ?_)
    ·rw[bad (by simp[show x<0 from h3])]
     refine .B ?_
     refine T.ct rfl ?_
     refine .B ?_
     exact r1
    ·refine .B ?_
     refine .I (r:=cI x) hra ?_
     refine .B ?_
     refine T.cd rfl (fun h4=> ?_) (fun h4=> ?_)
     ·have h4:(d.length:Int)≤x:=by simp only[C6]at h4;omega
      rw[bad (by simp[h4])]
      refine .B ?_
      exact r1
     ·have h4: ¬(d.length:Int)≤x:=by simp only[C6]at h4;omega
      refine .B ?_
      rw[ak hlt (by omega)]
      refine T.K (ih ?_)
      rw[Dm,hi]
      simp[inD,show¬x<0 from h3,h4]
   ·intro hi
    obtain⟨hv,hb⟩:=hin hi
    rw[if_neg (by simp[hi])]at hcon
    refine .B ?_
    refine T.cf2 rfl bl ?_
    refine .B ?_
    refine .C (vv d c hc hv hb hd) ?_
    refine .B ?_
    refine T.cond rfl (fun h3=> ?_) (fun h3=> ?_)
    ·rw[hcon,if_pos (by simpa using h3)]
     refine .B ?_
     exact r1
    ·rw[if_neg (by simpa using h3)]at hcon
     refine .B ?_
     refine .C (AA c.coefs c.rhs hc.2.1) ?_
     refine .B ?_
     refine T.cond rfl (fun h4=> ?_) (fun h4=> ?_)
     ·rw[hcon,if_pos h4]
      refine .B ?_
      exact r1
     ·rw[hcon,if_neg (by simp[h4])]
      refine .B ?_
      exact r1
set_option maxRecDepth 8000
abbrev bq:=List (Int×Bool)
abbrev By:=List (Int×Int)
def iI (rec:bq→By→Int→Bool×bq×By)(i:Int):List Int→bq→By→Bool×bq×By
 | [],s,b=>(false,s,b)
 |v::vs,s,b=>if(lkA s v).getD false=true then iI rec i vs s b else
  match lkA b v with
  |none=>(true,upA s v true,upA b v i)
  |some k=>match rec (upA s v true) b k with
   |(true,s2,b2)=>(true,s2,upA b2 v i)
   |(false,s2,b2)=>iI rec i vs s2 b2
def e7 (l:List (List Int)):Nat→Int→bq→By→Bool×bq×By
 |0,_,s,b=>(false,s,b)
 |f+1,i,s,b=>iI (fun s b k=>e7 l f k s b) i (l.getD i.toNat []) s b
def dS (l:List (List Int))(s:bq):Nat:=(l.flatten.filter fun v=> !(lkA s v).getD false).length
def mpS (s:bq):Own:= .mp true none (s.map fun p=>(Value.int .i64 p.1,PV.bool p.2))
def mpB (b:By):Own:= .mp true none (b.map fun p=>(Value.int .i64 p.1,PV.int .i64 p.2))
def iL (l:List (List Int))(b:By):Prop:= ∀p∈b,0≤p.2∧p.2.toNat<l.length
theorem rR {α β:Type}[DecidableEq α](p:α×β)(l:List (α×β))(a:α):fiA (p::l) a=if p.1=a then some 0 else(fiA l a).map (· +1):=by
 unfold fiA
 rw[ET]
 by_cases h:p.1=a
 ·simp[h]
 ·simp[h]
theorem vY {α β:Type}[DecidableEq α](a:α):lkA ([]:List (α×β)) a=none:=rfl
theorem c5 {α β:Type}[DecidableEq α](p:α×β)(l:List (α×β))(a:α):lkA (p::l) a=if p.1=a then some p.2 else lkA l a:=by
 unfold lkA
 rw[rR]
 by_cases h:p.1=a
 ·rw[if_pos h,if_pos h];rfl
 ·rw[if_neg h,if_neg h]
  cases fiA l a<;>simp
theorem gQ {α β:Type}[DecidableEq α](p:α×β)(l:List (α×β))(a:α)(b:β):upA (p::l) a b=if p.1=a then(a,b)::l else p::upA l a b:=by
 unfold upA
 rw[rR]
 by_cases h:p.1=a
 ·rw[if_pos h,if_pos h];rfl
 ·rw[if_neg h,if_neg h]
  cases fiA l a<;>simp
theorem k8 {α β:Type}[DecidableEq α](a c:α)(b:β): ∀l:List (α×β),lkA (upA l a b) c=if a=c then some b else lkA l c
 | []=>by
  show lkA [(a,b)] c=_
  exact c5 (a,b) [] c
 |p::l=>by
  rw[gQ,c5]
  by_cases h:p.1=a
  ·rw[if_pos h,c5]
   by_cases e:a=c
   ·rw[if_pos e,if_pos e]
   ·rw[if_neg e,if_neg e,if_neg (fun h2=>e (h.symm.trans h2))]
  ·rw[if_neg h,c5,k8 a c b l]
   by_cases e:p.1=c
   ·rw[if_pos e,if_pos e,if_neg (fun h2=>h (e.trans h2.symm))]
   ·rw[if_neg e,if_neg e]
theorem mem_upA {α β:Type}[DecidableEq α]{a:α}{b:β}{p:α×β}: ∀{l:List (α×β)},p∈upA l a b→p∈l∨p=(a,b)
 | [],h=> .inr (by simpa[upA,fiA]using h)
 |q::l,h=>by
  rw[gQ]at h
  split at h
  ·rcases List.mem_cons.1 h with h|h
   ·exact .inr h
   ·exact .inl (.tail _ h)
  ·rcases List.mem_cons.1 h with h|h
   ·exact .inl (h▸.head _)
   ·rcases mem_upA h with h|h
    ·exact .inl (.tail _ h)
    ·exact .inr h
theorem iL.up {l:List (List Int)}{b:By}(h:iL l b){v i:Int}(h0:0≤i)(hi:i.toNat<l.length):iL l (upA b v i):=fun p hp=>by
 rcases mem_upA hp with hp|rfl
 ·exact h p hp
 ·exact⟨h0,hi⟩
theorem eL {α β:Type}[DecidableEq α]{a:α}{b:β}: ∀{l:List (α×β)},lkA l a=some b→(a,b)∈l
 | [],h=>by cases h
 |p::l,h=>by
  rw[c5]at h
  split at h
  ·rename_i e
   obtain rfl:=C2 h
   subst e;exact .head _
  ·exact .tail _ (eL h)
def sees (s:bq)(v:Int):Prop:=(lkA s v).getD false=true
structure TryOk (l:List (List Int))(s:bq)(R:Bool×bq×By):Prop where
 seen: ∀v,sees s v→sees R.2.1 v
 byIn:iL l R.2.2
theorem sees_up {s:bq}{v w:Int}:sees (upA s v true) w↔v=w∨sees s w:=by
 unfold sees
 rw[k8]
 by_cases e:v=w
 ·simp[e]
 ·simp[e]
theorem rj {l:List (List Int)}{rec:bq→By→Int→Bool×bq×By}{i:Int}(h0:0≤i)(hi:i.toNat<l.length)(hr: ∀s b k,iL l b→0≤k→k.toNat<l.length→TryOk l s (rec s b k)): ∀(vs:List Int) (s:bq) (b:By),iL l b→TryOk l s (iI rec i vs s b)
 | [],s,b,hb=>⟨fun _ h=>h,hb⟩
 |v::vs,s,b,hb=>by
  rw[iI]
  split
  ·exact rj h0 hi hr vs s b hb
  ·split
   ·exact⟨fun w hw=>sees_up.2 (.inr hw),hb.up h0 hi⟩
   ·rename_i k hk
    have hk2:=hb _ (eL hk)
    have h1:=hr (upA s v true) b k hb hk2.1 hk2.2
    split
    ·rename_i s2 b2 e
     rw[e]at h1
     exact⟨fun w hw=>h1.seen w (sees_up.2 (.inr hw)),h1.byIn.up h0 hi⟩
    ·rename_i s2 b2 e
     rw[e]at h1
     have h2:=rj h0 hi hr vs s2 b2 h1.byIn
     exact⟨fun w hw=>h2.seen w (h1.seen w (sees_up.2 (.inr hw))),h2.byIn⟩
theorem nj (l:List (List Int)): ∀(f:Nat) (i:Int) (s:bq) (b:By),0≤i→i.toNat<l.length→iL l b→TryOk l s (e7 l f i s b)
 |0,i,s,b,_,_,hb=>⟨fun _ h=>h,hb⟩
 |f+1,i,s,b,h0,hi,hb=>by
  rw[e7]
  exact rj h0 hi (fun s b k hb h1 h2=>nj l f k s b h1 h2 hb) _ _ _ hb
theorem jM {α:Type}{p q:α→Bool}: ∀(l:List α),(∀x,q x=true→p x=true)→(l.filter q).length≤(l.filter p).length
 | [],_=>CS _
 |x::l,h=>by
  have:=jM l h
  by_cases hq:q x=true
  ·rw[EI hq,EI (h x hq)];simpa using this
  ·rw[Ea hq]
   by_cases hp:p x=true
   ·rw[EI hp];simp;omega
   ·rw[Ea hp];exact this
theorem pM {l:List (List Int)}{s s2:bq}(h: ∀v,sees s v→sees s2 v):dS l s2≤dS l s:=by
 refine jM _ fun v hv=> ?_
 by_cases hs:sees s v
 ·have:=h v hs
  unfold sees at this
  simp[this]at hv
 ·unfold sees at hs
  simpa using hs
theorem pL {l:List (List Int)}{s:bq}{v:Int}(hv:v∈l.flatten)(hs: ¬sees s v):dS l (upA s v true)<dS l s:=by
 refine jv _ v (fun w hw=> ?_) hv ?_ ?_
 ·by_cases h:sees s w
  ·have:sees (upA s v true) w:=sees_up.2 (.inr h)
   unfold sees at this
   simp[this]at hw
  ·unfold sees at h;simpa using h
 ·unfold sees at hs;simpa using hs
 ·have:sees (upA s v true) v:=sees_up.2 (.inl rfl)
  unfold sees at this
  simp[this]
abbrev ut (p2 p5 p6:Value):PV:= .fn (.func 241) [] [.raw p2,.raw p5,.raw p6]
theorem za (w:World):(zeroValue 4).run Tryz.prog w= .ok (.bool false) w:=by kernel_rfl
theorem B3 (w:World):(zeroValue 3).run Tryz.prog w= .ok (.int .i64 0) w:=by kernel_rfl
theorem zg (l:List (List Int))(hl:l.length*24≤140737488355328)(hx: ∀x∈l,x.length*8≤140737488355328): ∀(f:Nat) (i:Int) (s:bq) (b:By) (p2 p5 p6 pm pb ps:Value),dS l s<f→0≤i→i.toNat<l.length→iL l b→
  SpecO Tryz.prog 241 false [p2,p5,p6,pm,pb,ps] [.box true [.raw pm],.box true [.raw ps],.box true [ut p2 p5 p6],.box true [bR l,.raw pb],mpB b,mpS s] [.int .i64 i,.raw p2,.raw p5,.raw p6]
   [.box true [.raw pm],.box true [.raw ps],.box true [ut p2 p5 p6],.box true [bR l,.raw pb],mpB (e7 l f i s b).2.2,mpS (e7 l f i s b).2.1] (fun _=>[]) (fun _=>[.bool (e7 l f i s b).1]):=by
 intro f
 induction f with
 |zero=>intro i s b _ _ _ _ _ _ h;omega
 |succ f ihf=>
  intro i s0 b0 p2 p5 p6 pm pb ps hf h0 hi hb0
  have hrow:(l.map cL)[i.toNat]? =some (cL (l.getD i.toNat [])):=by simp[hi]
  have hgl:(l.getD i.toNat []).length*8≤140737488355328:=by
   rw[C0,C1 hi];exact hx _ (C5 hi)
  have hgm: ∀v∈l.getD i.toNat [],v∈l.flatten:=by
   rw[C0,C1 hi]
   exact fun v hv=>List.mem_flatten.2 ⟨_,C5 hi,hv⟩
  rw[e7]
  generalize l.getD i.toNat []=vs at*
  generalize hR:iI (fun s b k=>e7 l f k s b) i vs s0 b0=R
  refine SpecO.body [1001,1002,1003,1004,1005,1006] [] Tryz.func241 rfl rfl rfl rfl fun w0 Z1=> ?_
  refine T.sub (Rel.derawp (s:=1) (g:=1001) rfl rfl rfl) ?_
  refine T.sub (Rel.derawp (s:=2) (g:=1002) rfl rfl rfl) ?_
  refine T.sub (Rel.derawp (s:=3) (g:=1003) rfl rfl rfl) ?_
  refine T.sub (Rel.fine (s:=0) rfl rfl) ?_
  refine .B ?_
  refine J.sub (Rel.derawp (s:=10) (g:=1004) rfl rfl rfl) ?_
  refine .B ?_
  refine J.i rfl rfl rfl rfl rfl rfl rfl rfl rfl (r:=cL vs) h0 hrow rfl ?_
  refine .B ?_
  refine T.K (T.ind (fun x:Nat×bq×By=>⟨[(0,.val true (.int .i64 i)),(1,.optr 0 0 0 0),(2,.optr 1 0 0 0),(3,.optr 2 0 0 0),(16,.val true (av vs)),(17,.val true (.int .i64 (vs.map cI).length)),(18,.val true (.int .i64 x.1)),(1001,.eq p2 0),(1002,.eq p5 1),(1003,.eq p6 2),(1004,.eq pm 3),(1005,.eq pb 4),(1006,.eq ps 5)],
    [(0,some (.box true [.raw pm])),(1,some (.box true [.raw ps])),(2,some (.box true [ut p2 p5 p6])),(3,some (.box true [bR l,.raw pb])),(4,some (mpB x.2.2)),(5,some (mpS x.2.1))],6⟩)
   (fun x=>x.1≤vs.length∧iI (fun s b k=>e7 l f k s b) i (vs.drop x.1) x.2.1 x.2.2=R∧dS l x.2.1<f+1∧iL l x.2.2) (fun x=>vs.length-x.1) (0,s0,b0) ⟨by simp,hR,hf,hb0⟩ (fun _ _ h=>h) ?_)
  rintro⟨k,s,b⟩ ⟨hk,hR,hu,hb⟩ ih
  simp only at hk hR hu hb
  dsimp only
  refine .B ?_
  refine T.cd rfl (fun h1=> ?_) (fun h1=> ?_)
  rotate_left
  ·have h1:k=vs.length:=by simp at h1;omega
   subst h1
   rw[De,iI]at hR
   subst hR
   refine .B ?_
   exact⟨[0,1,2,3,4,5],[],[],⟨rfl,rfl,rfl,rfl,rfl,rfl,rfl,rfl,rfl,rfl,rfl,rfl,rfl,rfl,rfl,rfl,rfl,rfl,trivial⟩,trivial,rfl,.v rfl rfl rfl (fun _=>rfl) .nil⟩
  have h1:k<vs.length:=by simpa using h1
  rw[CU h1,iI]at hR
  have hvm:=hgm _ (C5 h1)
  generalize hv:vs[k]=v at*
  have hvr:(vs.map cI)[((k:Nat):Int).toNat]? =some (cI v):=by rw[←hv];exact aO h1
  have next: ∀s2 b2,iI (fun s b k=>e7 l f k s b) i (vs.drop (k+1)) s2 b2=R→dS l s2<f+1→iL l b2→_:=fun s2 b2 e1 e2 e3=>ih (k+1,s2,b2) ⟨by omega,e1,e2,e3⟩ (by show _-_<_-_;omega)
  dsimp only at next
  have hw1:IntKind.i64.wrap ((k:Int)+1)=((k+1:Nat):Int):=ak (l:=vs.length) h1 hgl
  refine .B ?_
  refine .I (r:=cI v) hvr ?_
  refine .B ?_
  refine J.sub (Rel.deraw (s:=22) (g:=1006) rfl rfl) ?_
  refine .B ?_
  refine J.ml v (.bool false) rfl rfl rfl rfl rfl rfl rfl rfl rfl za (fun _ _=> .bool _) (na Tryz.underlying3) (fun _ _ _ h=>c8 h) ?_
  have hmb:((lkA s v).map PV.bool).getD (.bool false)= .bool ((lkA s v).getD false):=by cases lkA s v<;>rfl
  rw[hmb]
  by_cases hs:(lkA s v).getD false=true
  ·rw[if_pos hs]at hR
   rw[hs]
   refine .B ?_
   refine T.ct rfl ?_
   refine .B ?_
   rw[hw1]
   exact T.K (next s b hR hu hb)
  rw[if_neg hs]at hR
  rw[eq_false_of_ne_true hs]
  have hlt:=pL hvm hs
  refine .B ?_
  refine T.cf rfl ?_
  refine .B ?_
  refine J.sub (Rel.deraw (s:=25) (g:=1006) rfl rfl) ?_
  refine .B ?_
  refine J.mu v true rfl rfl rfl rfl rfl rfl rfl rfl rfl rfl rfl (na Tryz.underlying3) (fun _ _ _ h=>c8 h) rfl ?_
  refine .B ?_
  refine J.sub (Rel.derawp (s:=28) (g:=1004) rfl rfl rfl) ?_
  refine .B ?_
  refine J.sub (Rel.deraw (s:=31) (g:=1005) rfl rfl) ?_
  refine .B ?_
  refine J.ml v (.int .i64 0) rfl rfl rfl rfl rfl rfl rfl rfl rfl B3 (fun _ _=> .int _ _) (na Tryz.underlying3) (fun _ _ _ h=>c8 h) ?_
  cases hk2:lkA b v with
  |none=>
   rw[hk2]at hR
   simp only at hR
   subst hR
   refine .B ?_
   refine T.ct rfl ?_
   refine .B ?_
   refine J.sub (Rel.derawp (s:=43) (g:=1004) rfl rfl rfl) ?_
   refine .B ?_
   refine J.sub (Rel.deraw (s:=46) (g:=1005) rfl rfl) ?_
   refine .B ?_
   refine J.mu v i rfl rfl rfl rfl rfl rfl rfl rfl rfl rfl rfl (na Tryz.underlying3) (fun _ _ _ h=>c8 h) rfl ?_
   refine .B ?_
   exact⟨[0,1,2,3,4,5],[],[],⟨rfl,rfl,rfl,rfl,rfl,rfl,rfl,rfl,rfl,rfl,rfl,rfl,rfl,rfl,rfl,rfl,rfl,rfl,trivial⟩,trivial,rfl,.v rfl rfl rfl (fun _=>rfl) .nil⟩
  |some q=>
   rw[hk2]at hR
   simp only at hR
   have hq:=hb _ (eL hk2)
   have hrec:=ihf q (upA s v true) b p2 p5 p6 pm pb ps (by omega) hq.1 hq.2 hb
   have hok:=nj l f q (upA s v true) b hq.1 hq.2 hb
   refine .B ?_
   refine J.co (qs:=[0,1,2,3,4,5]) (cs2:=[.box true [.raw pm],.box true [.raw ps],.box true [ut p2 p5 p6],.box true [bR l,.raw pb],mpB b,mpS (upA s v true)]) true [1001,1002,1003,1004,1005,1006] [] rfl rfl rfl rfl rfl rfl hrec ⟨rfl,rfl,rfl,rfl,rfl,rfl,rfl,rfl,rfl,rfl,rfl,rfl,trivial⟩ rfl rfl rfl rfl rfl rfl rfl fun ns hns=> ?_
   obtain rfl:ns=[]:=CT hns
   generalize hT:e7 l f q (upA s v true) b=TR at*
   obtain⟨r,s2,b2⟩:=TR
   have hsu:dS l s2<f+1:=by
    have:=pM (l:=l) hok.seen
    dsimp only at this
    omega
   have hby:iL l b2:=hok.byIn
   dsimp only
   refine .B ?_
   cases r with
   |false=>
    refine .B ?_
    refine T.cf rfl ?_
    refine .B ?_
    rw[hw1]
    exact T.K (next s2 b2 hR hsu hby)
   |true=>
    simp only at hR
    subst hR
    refine T.ct rfl ?_
    refine .B ?_
    refine J.sub (Rel.derawp (s:=43) (g:=1004) rfl rfl rfl) ?_
    refine .B ?_
    refine J.sub (Rel.deraw (s:=46) (g:=1005) rfl rfl) ?_
    refine .B ?_
    refine J.mu v i rfl rfl rfl rfl rfl rfl rfl rfl rfl rfl rfl (na Tryz.underlying3) (fun _ _ _ h=>c8 h) rfl ?_
    refine .B ?_
    exact⟨[0,1,2,3,4,5],[],[],⟨rfl,rfl,rfl,rfl,rfl,rfl,rfl,rfl,rfl,rfl,rfl,rfl,rfl,rfl,rfl,rfl,rfl,rfl,trivial⟩,trivial,rfl,.v rfl rfl rfl (fun _=>rfl) .nil⟩
abbrev lu (l:List (List Int))(i:Int)(b:By):Bool×bq×By:=e7 l (l.flatten.length+1) i [] b
theorem nI (l:List (List Int)):dS l []<l.flatten.length+1:=Nat.lt_succ_of_le (DN _ _)
theorem yK (l:List (List Int))(hl:l.length*24≤140737488355328)(hx: ∀x∈l,x.length*8≤140737488355328)(i:Int)(b:By)(pm pb:Value)(h0:0≤i)(hi:i.toNat<l.length)(hb:iL l b):
  SpecO Tryz.prog 225 false [pm,pb] [.box true [bR l,.raw pb],mpB b] [.raw pm,.int .i64 i] [.box true [bR l,.raw pb],mpB (lu l i b).2.2] (fun _=>[]) (fun _=>[.bool (lu l i b).1]):=by
 refine SpecO.body [1001,1002] [] Tryz.func225 rfl rfl rfl rfl fun w0 Z1=> ?_
 refine T.sub (Rel.fine (s:=0) rfl rfl) ?_
 refine T.sub (Rel.fine (s:=1) rfl rfl) ?_
 refine T.canon (keep:=[0,1,1001,1002]) (os:=[1001,1002]) rfl ?_
 refine .B ?_
 refine J.mm rfl rfl rfl rfl ?_
 refine .L ?_
 refine J.name 1003 (s:=7) rfl rfl rfl fun ps=> ?_
 refine J.sub (Rel.raw (s:=7) (g:=1003) rfl (.inl rfl) rfl rfl rfl) ?_
 refine .W ?_
 refine .B ?_
 refine .L ?_
 refine .B ?_
 refine J.name 1004 (s:=2) rfl rfl rfl fun p2=> ?_
 refine J.name 1005 (s:=5) rfl rfl rfl fun p5=> ?_
 refine J.name 1006 (s:=6) rfl rfl rfl fun p6=> ?_
 refine J.sub (Rel.raw (s:=2) (g:=1004) rfl (.inr rfl) rfl rfl rfl) ?_
 refine J.sub (Rel.raw (s:=5) (g:=1005) rfl (.inr rfl) rfl rfl rfl) ?_
 refine J.sub (Rel.raw (s:=6) (g:=1006) rfl (.inr rfl) rfl rfl rfl) ?_
 refine .B ?_
 refine J.sub (Rel.derawp (s:=6) (g:=1006) rfl rfl rfl) ?_
 refine J.sub (Rel.fineF (s:=8) rfl rfl rfl) ?_
 refine .W ?_
 refine .B ?_
 refine J.co (qs:=[2,4,5,0,1,3]) (cs2:=[.box true [.raw pm],.box true [.raw ps],.box true [ut p2 p5 p6],.box true [bR l,.raw pb],mpB b,mpS []]) true [1004,1005,1006,1001,1002,1003] [] rfl rfl rfl rfl rfl rfl (zg l hl hx (l.flatten.length+1) i [] b p2 p5 p6 pm pb ps (nI l) h0 hi hb) ⟨rfl,rfl,rfl,rfl,rfl,rfl,rfl,rfl,rfl,rfl,rfl,rfl,trivial⟩ rfl rfl rfl rfl rfl rfl rfl fun ns hns=> ?_
 obtain rfl:ns=[]:=CT hns
 refine .B ?_
 exact⟨[0,1],[],[],⟨rfl,rfl,rfl,rfl,rfl,rfl,trivial⟩,trivial,rfl,.v rfl rfl rfl (fun _=>rfl) .nil⟩
def d4 (l:List (List Int)):Nat→Nat→By→Option By
 |0,_,b=>some b
 |n+1,i,b=>match lu l (i:Nat) b with
  |(true,_,b2)=>d4 l n (i+1) b2
  |(false,_,_)=>none
def c7 (l:List (List Int)):Option By:=d4 l l.length 0 []
theorem kY (l:List (List Int))(hl:l.length*24≤140737488355328)(hx: ∀x∈l,x.length*8≤140737488355328):
  SpecO Tryz.prog 183 true [] [] [bR l] [] (fun ns=>match c7 l with|some b=>[.box true [bR l,.raw (ns.getD 1 undef)],mpB b]|none=>[]) (fun ns=>match c7 l with|some b=>[.raw (ns.getD 0 undef),.bool true]|none=>[.nilp,.bool false]):=by
 generalize hR:c7 l=R
 refine SpecO.body [] (match R with|some _=>[1003,1001]|none=>[]) Tryz.func183 rfl rfl rfl rfl fun w0 Z1=> ?_
 refine T.canon (keep:=[0]) (os:=[]) rfl ?_
 refine .B ?_
 refine J.mm rfl rfl rfl rfl ?_
 refine J.name 1001 (s:=7) rfl rfl rfl fun pb=> ?_
 refine J.sub (Rel.raw (s:=7) (g:=1001) rfl (.inl rfl) rfl rfl rfl) ?_
 refine .B ?_
 refine T.name 1003 (s:=4) rfl rfl rfl fun pm=> ?_
 refine T.sub (Rel.raw (s:=4) (g:=1003) rfl (.inr rfl) rfl rfl rfl) ?_
 have hlen:(l.map cL).length=l.length:=C6 ..
 rw[hlen]
 refine T.K (T.ind (fun x:Nat×By=>⟨[(4,.val true (.raw pm)),(11,.val true (.int .i64 l.length)),(12,.val true (.int .i64 x.1)),(1001,.eq pb 0),(1003,.eq pm 1)],
    [(0,some (mpB x.2)),(1,some (.box true [bR l,.raw pb]))],2⟩)
   (fun x=>x.1≤l.length∧d4 l (l.length-x.1) x.1 x.2=R∧iL l x.2) (fun x=>l.length-x.1) (0,[]) ⟨by simp,hR,fun p hp=>by cases hp⟩ (fun _ _ h=>h) ?_)
 rintro⟨k,b⟩ ⟨hk,hR,hb⟩ ih
 simp only at hk hR hb
 dsimp only
 refine .B ?_
 refine T.cd rfl (fun h1=> ?_) (fun h1=> ?_)
 rotate_left
 ·have h1:k=l.length:=by simp at h1;omega
  subst h1
  rw[FI,d4]at hR
  subst hR
  refine .B ?_
  exact⟨[],[1,0],[pm,pb],trivial,⟨rfl,rfl,rfl,rfl,rfl,rfl,trivial⟩,rfl,.v rfl rfl rfl (fun _=>rfl) (.v rfl rfl rfl (fun _=>rfl) .nil)⟩
 have h1:k<l.length:=by simpa using h1
 rw[show l.length-k=(l.length-(k+1))+1 by omega,d4]at hR
 have hok:=nj l (l.flatten.length+1) (k:Nat) [] b (by omega) (by omega) hb
 have hsp:=yK l hl hx (k:Nat) b pm pb (by omega) (by omega) hb
 have hw1:IntKind.i64.wrap ((k:Int)+1)=((k+1:Nat):Int):=by
  have:=ak (l:=l.length) h1 (by omega)
  exact this
 refine .B ?_
 refine J.co (qs:=[1,0]) (cs2:=[.box true [bR l,.raw pb],mpB b]) true [1003,1001] [] rfl rfl rfl rfl rfl rfl hsp ⟨rfl,rfl,rfl,rfl,trivial⟩ rfl rfl rfl rfl rfl rfl rfl fun ns hns=> ?_
 obtain rfl:ns=[]:=CT hns
 generalize hT:lu l (k:Nat) b=TR at*
 rw[show e7 l (l.flatten.length+1) (k:Nat) [] b=TR from hT]at hok
 obtain⟨r,s2,b2⟩:=TR
 dsimp only
 refine .B ?_
 cases r with
 |false=>
  simp only at hR
  subst hR
  refine T.ct rfl ?_
  refine .B ?_
  exact⟨[],[],[],trivial,trivial,rfl,.v rfl rfl rfl (fun _=>rfl) (.v rfl rfl rfl (fun _=>rfl) .nil)⟩
 |true=>
  simp only at hR
  refine T.cf rfl ?_
  refine .B ?_
  rw[hw1]
  exact T.K (ih (k+1,b2) ⟨by omega,hR,hok.byIn⟩ (by show _-_<_-_;omega))
def cnt (b:By)(j:Int):Nat:=b.countP fun p=>decide (p.2=j)
theorem Az (b:By)(v i j:Int):cnt (upA b v i) j+(if lkA b v=some j then 1 else 0)=cnt b j+if i=j then 1 else 0:=by
 induction b with
 |nil=>
  show List.countP _ [(v,i)]+0=0+_
  rw[Ew]
  simp
 |cons p b ih=>
  unfold cnt at*
  rw[gQ,c5]
  by_cases h:p.1=v
  ·rw[if_pos h,if_pos h,Ew,Ew]
   simp only[decide_eq_true_eq,C3]
   omega
  ·rw[if_neg h,if_neg h,Ew,Ew]
   omega
structure TT (i:Int)(s:bq)(b:By)(R:Bool×bq×By):Prop where
 mono: ∀v,sees s v→sees R.2.1 v
 no:R.1=false→R.2.2=b
 more:R.1=true→∀j,cnt R.2.2 j=cnt b j+if i=j then 1 else 0
 keep:R.1=true→∀v,sees s v→lkA R.2.2 v=lkA b v
theorem kz {rec:bq→By→Int→Bool×bq×By}{i:Int}(hr: ∀s b k,TT k s b (rec s b k)): ∀(vs:List Int) (s:bq) (b:By),TT i s b (iI rec i vs s b)
 | [],s,b=>⟨fun _ h=>h,fun _=>rfl,fun h=>(by cases h),fun h=>(by cases h)⟩
 |v::vs,s,b=>by
  rw[iI]
  split
  ·exact kz hr vs s b
  ·rename_i hs
   have hne: ∀w,sees s w→¬v=w:=fun w hw e=>hs (e▸hw)
   split
   ·rename_i hk
    refine⟨fun w hw=>sees_up.2 (.inr hw),fun h=>(by cases h),fun _ j=> ?_,fun _ w hw=> ?_⟩
    ·have:=Az b v i j
     rw[hk]at this
     simpa using this
    ·show lkA (upA b v i) w=_
     rw[k8,if_neg (hne w hw)]
   ·rename_i k hk
    have h1:=hr (upA s v true) b k
    have hv:sees (upA s v true) v:=sees_up.2 (.inl rfl)
    split
    ·rename_i s2 b2 e
     rw[e]at h1
     refine⟨fun w hw=>h1.mono w (sees_up.2 (.inr hw)),fun h=>(by cases h),fun _ j=> ?_,fun _ w hw=> ?_⟩
     ·have e1:=Az b2 v i j
      have e2:=h1.more rfl j
      have e3:=h1.keep rfl v hv
      simp only at e2 e3
      rw[e3,hk]at e1
      simp only[C3]at e1
      show cnt (upA b2 v i) j=_
      omega
     ·show lkA (upA b2 v i) w=_
      rw[k8,if_neg (hne w hw)]
      exact h1.keep rfl w (sees_up.2 (.inr hw))
    ·rename_i s2 b2 e
     rw[e]at h1
     obtain rfl:b2=b:=h1.no rfl
     have h2:=kz (i:=i) hr vs s2 b2
     exact⟨fun w hw=>h2.mono w (h1.mono w (sees_up.2 (.inr hw))),h2.no,h2.more,fun h w hw=>h2.keep h w (h1.mono w (sees_up.2 (.inr hw)))⟩
theorem ni (l:List (List Int)): ∀(f:Nat) (i:Int) (s:bq) (b:By),TT i s b (e7 l f i s b)
 |0,i,s,b=>⟨fun _ h=>h,fun _=>rfl,fun h=>(by cases h),fun h=>(by cases h)⟩
 |f+1,i,s,b=>by
  rw[e7]
  exact kz (fun s b k=>ni l f k s b) _ _ _
def ng (l:List (List Int))(b:By):Prop:= ∀p∈b,p.1∈l.getD p.2.toNat []
theorem ng.up {l:List (List Int)}{b:By}(h:ng l b){v i:Int}(hv:v∈l.getD i.toNat []):ng l (upA b v i):=fun p hp=>by
 rcases mem_upA hp with hp|rfl
 ·exact h p hp
 ·exact hv
theorem lL {l:List (List Int)}{rec:bq→By→Int→Bool×bq×By}{i:Int}(hr: ∀s b k,ng l b→ng l (rec s b k).2.2): ∀(vs:List Int) (s:bq) (b:By),(∀v∈vs,v∈l.getD i.toNat [])→ng l b→ng l (iI rec i vs s b).2.2
 | [],s,b,_,hb=>hb
 |v::vs,s,b,hv,hb=>by
  rw[iI]
  split
  ·exact lL hr vs s b (fun w hw=>hv w (.tail _ hw)) hb
  ·split
   ·exact hb.up (hv v (.head _))
   ·rename_i k _
    have h1:=hr (upA s v true) b k hb
    split
    ·rename_i s2 b2 e
     rw[e]at h1
     exact h1.up (hv v (.head _))
    ·rename_i s2 b2 e
     rw[e]at h1
     exact lL hr vs s2 b2 (fun w hw=>hv w (.tail _ hw)) h1
theorem pO (l:List (List Int)): ∀(f:Nat) (i:Int) (s:bq) (b:By),ng l b→ng l (e7 l f i s b).2.2
 |0,i,s,b,h=>h
 |f+1,i,s,b,h=>by
  rw[e7]
  exact lL (fun s b k h=>pO l f k s b h) _ _ _ (fun _ h=>h) h
theorem oX {l:List (List Int)}: ∀(n i:Nat) (b b2:By),n+i=l.length→ng l b→(∀j:Int,cnt b j=if 0≤j∧j<(i:Nat)then 1 else 0)→d4 l n i b=some b2→ng l b2∧∀j:Int,cnt b2 j=if 0≤j∧j<(l.length:Nat)then 1 else 0
 |0,i,b,b2,hi,hb,hc,h=>by
  cases h
  rw[show l.length=i by omega]
  exact⟨hb,hc⟩
 |n+1,i,b,b2,hi,hb,hc,h=>by
  have h1:=ni l (l.flatten.length+1) (i:Nat) [] b
  have h2:=pO l (l.flatten.length+1) (i:Nat) [] b hb
  rw[d4]at h
  generalize hT:lu l (i:Nat) b=R at*
  rw[show e7 l (l.flatten.length+1) (i:Nat) [] b=R from hT]at h1 h2
  obtain⟨r,s,b3⟩:=R
  cases r with
  |false=>cases h
  |true=>
   refine oX n (i+1) b3 b2 (by omega) h2 (fun j=> ?_) h
   have:=h1.more rfl j
   simp only at this
   rw[this,hc j]
   by_cases e:((i:Nat):Int)=j
   ·rw[if_pos e,if_neg (by omega),if_pos (by omega)]
   ·rw[if_neg e]
    by_cases e2:0≤j∧j<(i:Nat)
    ·rw[if_pos e2,if_pos (by omega)]
    ·rw[if_neg e2,if_neg (by omega)]
theorem l6 {l:List (List Int)}{b:By}(h:c7 l=some b):ng l b∧∀j:Int,cnt b j=if 0≤j∧j<(l.length:Nat)then 1 else 0:=
 oX l.length 0 [] b rfl (fun p hp=>by cases hp) (fun j=>by rw[if_neg (by omega)];rfl) h
theorem Bn {b:By}{j:Int}(h:0<cnt b j): ∃p∈b,p.2=j:=by
 obtain⟨p,h1,h2⟩:=List.countP_pos_iff.1 h
 exact⟨p,h1,by simpa using h2⟩
theorem r4 {j:Int}: ∀{b:By},cnt b j≤1→∀(x y:Nat) (p q:Int×Int),b[x]? =some p→b[y]? =some q→p.2=j→q.2=j→x=y
 | [],_,x,y,p,q,hp,_,_,_=>by cases hp
 |r::b,h,x,y,p,q,hp,hq,h1,h2=>by
  unfold cnt at h
  rw[Ew]at h
  have key: ∀(z:Nat) (u:Int×Int),b[z]? =some u→u.2=j→0<cnt b j:=fun z u hz hu=>List.countP_pos_iff.2 ⟨u,C4 hz,by simpa using hu⟩
  cases x with
  |zero=>
   cases y with
   |zero=>rfl
   |succ y=>
    obtain rfl:=C2 hp
    have:=key y q hq h2
    unfold cnt at this
    rw[if_pos (by simpa using h1)]at h
    omega
  |succ x=>
   cases y with
   |zero=>
    obtain rfl:=C2 hq
    have:=key x p hp h1
    unfold cnt at this
    rw[if_pos (by simpa using h2)]at h
    omega
   |succ y=>
    have:=r4 (j:=j) (b:=b) (by unfold cnt;omega) x y p q hp hq h1 h2
    omega
structure FF (l:List (List Int))(vs:List Int)(s:bq)(b:By)(R:Bool×bq×By):Prop where
 all:R.1=false→∀v∈vs,sees R.2.1 v
 own:R.1=false→∀v,sees R.2.1 v→sees s v∨∃k,lkA b v=some k∧∀w∈l.getD k.toNat [],sees R.2.1 w
theorem rn {l:List (List Int)}{rec:bq→By→Int→Bool×bq×By}{i:Int}{f:Nat}(ht: ∀s b k,TT k s b (rec s b k))(hr: ∀s b k,dS l s<f→0≤k→k.toNat<l.length→iL l b→FF l (l.getD k.toNat []) s b (rec s b k)): ∀(vs:List Int) (s:bq) (b:By),(∀v∈vs,v∈l.flatten)→dS l s<f+1→iL l b→FF l vs s b (iI rec i vs s b)
 | [],s,b,_,_,_=>⟨fun _ v hv=>(by cases hv),fun _ v hv=> .inl hv⟩
 |v::vs,s,b,hv,hu,hb=>by
  have hv2: ∀w∈vs,w∈l.flatten:=fun w hw=>hv w (.tail _ hw)
  rw[iI]
  split
  ·rename_i hs
   have h:=rn (i:=i) ht hr vs s b hv2 hu hb
   refine⟨fun e w hw=> ?_,h.own⟩
   cases hw with
   |head=>exact(kz (i:=i) ht vs s b).mono v hs
   |tail _ hw=>exact h.all e w hw
  ·rename_i hs
   split
   ·exact⟨fun h=>(by cases h),fun h=>(by cases h)⟩
   ·rename_i k hk
    have hq:=hb _ (eL hk)
    have hlt:=pL (hv v (.head _)) hs
    have h1:=hr (upA s v true) b k (by omega) hq.1 hq.2 hb
    have h2:=ht (upA s v true) b k
    split
    ·exact⟨fun h=>(by cases h),fun h=>(by cases h)⟩
    ·rename_i s2 b2 e
     rw[e]at h1 h2
     obtain rfl:b2=b:=h2.no rfl
     have hsv:sees s2 v:=h2.mono v (sees_up.2 (.inl rfl))
     have hle:dS l s2≤dS l (upA s v true):=pM fun w hw=>h2.mono w hw
     have h3:=rn (i:=i) ht hr vs s2 b2 hv2 (by omega) hb
     have h4:=kz (i:=i) ht vs s2 b2
     refine⟨fun e w hw=> ?_,fun e w hw=> ?_⟩
     ·cases hw with
      |head=>exact h4.mono v hsv
      |tail _ hw=>exact h3.all e w hw
     ·rcases h3.own e w hw with h5|h5
      ·rcases h1.own rfl w h5 with h6|⟨k2,h6,h7⟩
       ·rcases sees_up.1 h6 with rfl|h6
        ·exact .inr ⟨k,hk,fun u hu=>h4.mono u (h1.all rfl u hu)⟩
        ·exact .inl h6
       ·exact .inr ⟨k2,h6,fun u hu=>h4.mono u (h7 u hu)⟩
      ·exact .inr h5
theorem z6 {l:List (List Int)}{i:Int}: ∀v∈l.getD i.toNat [],v∈l.flatten:=fun v hv=>by
 by_cases h:i.toNat<l.length
 ·rw[C0,C1 h]at hv
  exact List.mem_flatten.2 ⟨_,C5 h,hv⟩
 ·rw[C0,DM (by omega)]at hv
  cases hv
theorem wT (l:List (List Int)): ∀(f:Nat) (i:Int) (s:bq) (b:By),dS l s<f→0≤i→i.toNat<l.length→iL l b→FF l (l.getD i.toNat []) s b (e7 l f i s b)
 |0,i,s,b,h,_,_,_=>by omega
 |f+1,i,s,b,h,_,_,hb=>by
  rw[e7]
  exact rn (fun s b k=>ni l f k s b) (fun s b k h1 h2 h3 h4=>wT l f k s b h1 h2 h3 h4) _ _ _ z6 h hb
def Others (l:List (List Int))(g:Nat→Int):Prop:=(∀j,j<l.length→g j∈l.getD j [])∧∀j k,j<l.length→k<l.length→g j=g k→j=k
def dd:List Int→List Int
 | []=>[]
 |x::l=>if x∈l then dd l else x::dd l
theorem rY {x:Int}: ∀{l:List Int},x∈dd l↔x∈l
 | []=>Iff.rfl
 |y::l=>by
  rw[dd]
  split
  ·rename_i h
   rw[rY,E4]
   constructor
   ·exact .inr
   ·rintro(rfl|h2)
    ·exact h
    ·exact h2
  ·rw[E4,E4,rY]
theorem pd: ∀l:List Int,(dd l).Nodup
 | []=> .nil
 |y::l=>by
  rw[dd]
  split
  ·exact pd l
  ·rename_i h
   exact List.nodup_cons.2 ⟨fun h2=>h (rY.1 h2),pd l⟩
theorem lY {α:Type}[DecidableEq α]: ∀{a b:List α},a.Nodup→(∀x∈a,x∈b)→a.length≤b.length
 | [],_,_,_=>DC _
 |x::a,b,h,hs=>by
  have hx:x∈b:=hs x (.head _)
  obtain⟨h1,h2⟩:=List.nodup_cons.1 h
  have:=lY (b:=b.erase x) h2 fun y hy=>(List.mem_erase_of_ne (fun e=>h1 (by rw[←e];exact hy))).2 (hs y (.tail _ hy))
  rw[List.length_erase_of_mem hx]at this
  have:=List.length_pos_of_mem hx
  rw[D0]
  omega
theorem fz {α β:Type}{f:α→β}: ∀{a:List α},a.Nodup→(∀x∈a,∀y∈a,f x=f y→x=y)→(a.map f).Nodup
 | [],_,_=> .nil
 |x::a,h,hf=>by
  obtain⟨h1,h2⟩:=List.nodup_cons.1 h
  refine List.nodup_cons.2 ⟨fun h3=> ?_,fz h2 fun y hy z hz=>hf y (.tail _ hy) z (.tail _ hz)⟩
  obtain⟨y,hy,e⟩:=List.mem_map.1 h3
  exact h1 (hf y (.tail _ hy) x (.head _) e▸hy)
theorem zx {s:bq}{v:Int}(h:sees s v):v∈s.map (·.1):=by
 unfold sees at h
 cases hk:lkA s v with
 |none=>rw[hk]at h;cases h
 |some x=>exact List.mem_map.2 ⟨_,eL hk,rfl⟩
theorem yL {l:List (List Int)}{i:Nat}{b:By}(hi:i<l.length)(hb:iL l b)(hc: ∀j:Int,cnt b j=if 0≤j∧j<(i:Nat)then 1 else 0)(hR:(lu l (i:Nat) b).1=false)(g:Nat→Int): ¬Others l g:=by
 rintro⟨hg,hinj⟩
 have hf:=wT l (l.flatten.length+1) (i:Nat) [] b (nI l) (by omega) (by omega) hb
 have h1:=hf.all hR
 have h2:=hf.own hR
 generalize hs:(lu l (i:Nat) b).2.1=s at*
 have h2: ∀v,sees s v→∃k,lkA b v=some k∧∀w∈l.getD k.toNat [],sees s w:=fun v hv=>by
  rcases h2 v hv with h|h
  ·cases h
  ·exact h
 let V:=(dd (s.map (·.1))).filter fun v=>(lkA s v).getD false
 have hV: ∀v,v∈V↔sees s v:=fun v=>by
  rw[EG,rY]
  exact⟨fun h=>h.2,fun h=>⟨zx h,h⟩⟩
 have hVn:V.Nodup:=(pd _).filter _
 let o:Int→Nat:=fun v=>((lkA b v).getD 0).toNat
 have ho: ∀v∈V,∃k:Int,lkA b v=some k∧o v=k.toNat∧0≤k∧k<(i:Nat)∧∀w∈l.getD (o v) [],sees s w:=fun v hv=>by
  obtain⟨k,hk,hw⟩:=h2 v ((hV v).1 hv)
  have hm:=eL hk
  have h0:0<cnt b k:=List.countP_pos_iff.2 ⟨_,hm,by simp⟩
  rw[hc]at h0
  have:0≤k∧k<(i:Nat):=by
   by_cases e:0≤k∧k<(i:Nat)
   ·exact e
   ·rw[if_neg e]at h0;omega
  have e:o v=k.toNat:=by show((lkA b v).getD 0).toNat=_;rw[hk];rfl
  exact⟨k,hk,e,this.1,this.2,e▸hw⟩
 have hoi: ∀v∈V,∀w∈V,o v=o w→v=w:=fun v hv w hw e=>by
  obtain⟨k,hk,h1,h3,h4,_⟩:=ho v hv
  obtain⟨k',hk',h1',h3',h4',_⟩:=ho w hw
  have ek:k=k':=by omega
  subst ek
  obtain⟨x,hx⟩:=C9 (eL hk)
  obtain⟨y,hy⟩:=C9 (eL hk')
  have:=r4 (b:=b) (j:=k) (by rw[hc];split<;>omega) x y _ _ hx hy rfl rfl
  subst this
  rw[hx]at hy
  exact congrArg Prod.fst (C2 hy)
 have hKn:(i::V.map o).Nodup:=List.nodup_cons.2 ⟨fun h=>by
  obtain⟨v,hv,e⟩:=List.mem_map.1 h
  obtain⟨k,_,h1,h3,h4,_⟩:=ho v hv
  omega,fz hVn hoi⟩
 have hKl: ∀k∈i::V.map o,k<l.length:=fun k hk=>by
  cases hk with
  |head=>exact hi
  |tail _ hk=>
   obtain⟨v,hv,rfl⟩:=List.mem_map.1 hk
   obtain⟨k,_,h1,h3,h4,_⟩:=ho v hv
   omega
 have hgn:((i::V.map o).map g).Nodup:=fz hKn fun x hx y hy e=>hinj x y (hKl x hx) (hKl y hy) e
 have hsub: ∀x∈(i::V.map o).map g,x∈V:=fun x hx=>by
  obtain⟨k,hk,rfl⟩:=List.mem_map.1 hx
  rw[hV]
  have hgk:=hg k (hKl k hk)
  cases hk with
  |head=>exact h1 _ (by simpa using hgk)
  |tail _ hk=>
   obtain⟨v,hv,rfl⟩:=List.mem_map.1 hk
   obtain⟨k,_,_,_,_,h5⟩:=ho v hv
   exact h5 _ hgk
 have:=lY hgn hsub
 simp at this
 omega
theorem lw {l:List (List Int)}{g:Nat→Int}(hg:Others l g): ∀(n i:Nat) (b:By),n+i=l.length→iL l b→(∀j:Int,cnt b j=if 0≤j∧j<(i:Nat)then 1 else 0)→d4 l n i b≠none
 |0,i,b,hi,hb,hc,h=>by cases h
 |n+1,i,b,hi,hb,hc,h=>by
  have h1:=ni l (l.flatten.length+1) (i:Nat) [] b
  have h2:=nj l (l.flatten.length+1) (i:Nat) [] b (by omega) (by omega) hb
  have h3:=yL (i:=i) (by omega) hb hc
  rw[d4]at h
  generalize hT:lu l (i:Nat) b=R at*
  rw[show e7 l (l.flatten.length+1) (i:Nat) [] b=R from hT]at h1 h2
  obtain⟨r,s,b3⟩:=R
  cases r with
  |false=>exact h3 rfl g hg
  |true=>
   refine lw hg n (i+1) b3 (by omega) h2.byIn (fun j=> ?_) h
   have:=h1.more rfl j
   simp only at this
   rw[this,hc j]
   by_cases e:((i:Nat):Int)=j
   ·rw[if_pos e,if_neg (by omega),if_pos (by omega)]
   ·rw[if_neg e]
    by_cases e2:0≤j∧j<(i:Nat)
    ·rw[if_pos e2,if_pos (by omega)]
    ·rw[if_neg e2,if_neg (by omega)]
theorem tJ {l:List (List Int)}{g:Nat→Int}(hg:Others l g): ∃b,c7 l=some b:=by
 cases h:c7 l with
 |some b=>exact⟨b,rfl⟩
 |none=>exact absurd h (lw hg l.length 0 [] rfl (fun p hp=>by cases hp) fun j=>by rw[if_neg (by omega)];rfl)
def sQ (b:By)(n:Nat):List Int:=(List.range n).map fun(j:Nat)=>((b.find? fun p=>decide (p.2=(j:Int))).map (·.1)).getD 0
theorem AO {l:List (List Int)}{b:By}(h:c7 l=some b){p:Int×Int}(hp:p∈b):0≤p.2∧p.2.toNat<l.length∧(sQ b l.length)[p.2.toNat]? =some p.1:=by
 obtain⟨_,hc⟩:=l6 h
 have h0:0<cnt b p.2:=List.countP_pos_iff.2 ⟨_,hp,by simp⟩
 have hr:0≤p.2∧p.2<(l.length:Nat):=by
  rw[hc]at h0
  by_cases e:0≤p.2∧p.2<(l.length:Nat)
  ·exact e
  ·rw[if_neg e]at h0;omega
 refine⟨hr.1,by omega,?_⟩
 unfold sQ
 rw[C8,Du (by omega)]
 simp only[DP,C3]
 have e:((p.2.toNat:Nat):Int)=p.2:=by omega
 rw[e]
 cases hf:b.find? fun q=>decide (q.2=p.2)with
 |none=>exact absurd (List.find?_eq_none.1 hf p hp) (by simp)
 |some q=>
  have hq:=Fs hf
  have hq2:q.2=p.2:=by simpa using List.find?_some hf
  obtain⟨x,hx⟩:=C9 hp
  obtain⟨y,hy⟩:=C9 hq
  have:=r4 (b:=b) (j:=p.2) (by rw[hc];split<;>omega) x y _ _ hx hy rfl hq2
  subst this
  rw[hx]at hy
  rw[←C2 hy];rfl
theorem CC {l:List (List Int)}{b:By}(h:c7 l=some b){j:Nat}(hj:j<l.length): ∃p∈b,p.2=(j:Int):=by
 obtain⟨_,hc⟩:=l6 h
 exact Bn (by rw[hc,if_pos (by omega)];omega)
theorem sP {l:List (List Int)}{b:By}(h:c7 l=some b)(hk:(b.map (·.1)).Nodup):Others l fun j=>(sQ b l.length).getD j 0:=by
 obtain⟨hf,hc⟩:=l6 h
 have hj: ∀j,j<l.length→∃p∈b,p.2=(j:Int)∧(sQ b l.length).getD j 0=p.1:=fun j hj=>by
  obtain⟨p,hp,e⟩:=CC h hj
  have h2:=(AO h hp).2.2
  rw[e]at h2
  refine⟨p,hp,e,?_⟩
  rw[C0,show j=((j:Nat):Int).toNat by omega,h2];rfl
 refine⟨fun j h1=> ?_,fun j k h1 h2 e=> ?_⟩
 ·obtain⟨p,hp,e1,e2⟩:=hj j h1
  have:=hf p hp
  rw[e1]at this
  show(sQ b l.length).getD j 0∈_
  rw[e2];simpa using this
 ·obtain⟨p,hp,e1,e2⟩:=hj j h1
  obtain⟨q,hq,e3,e4⟩:=hj k h2
  have e:p.1=q.1:=by
   have e:(sQ b l.length).getD j 0=(sQ b l.length).getD k 0:=e
   rw[e2,e4]at e;exact e
  have:p=q:=by
   obtain⟨x,hx⟩:=C9 hp
   obtain⟨y,hy⟩:=C9 hq
   have hx1:(b.map (·.1))[x]? =some p.1:=by rw[C8,hx];rfl
   have hy1:(b.map (·.1))[y]? =some p.1:=by rw[C8,hy,e];rfl
   have:x=y:=by
    obtain⟨h3,h4⟩:=List.getElem?_eq_some_iff.1 hx1
    obtain⟨h5,h6⟩:=List.getElem?_eq_some_iff.1 hy1
    exact(Ec hk).1 (h4.trans h6.symm)
   subst this
   rw[hx]at hy;exact C2 hy
  rw[this]at e1
  omega
def f8 (b:By):Prop:=(b.map (·.1)).Nodup
theorem f8.up {v i:Int}: ∀{b:By},f8 b→f8 (upA b v i)
 | [],_=>by
  show List.Nodup [v]
  simp
 |p::b,h=>by
  obtain⟨h1,h2⟩:=List.nodup_cons.1 (show(p.1::b.map (·.1)).Nodup from h)
  rw[gQ]
  split
  ·rename_i e
   show(v::b.map (·.1)).Nodup
   rw[←e]
   exact h
  ·rename_i e
   refine List.nodup_cons.2 ⟨fun h3=> ?_,f8.up h2⟩
   obtain⟨q,hq,e2⟩:=List.mem_map.1 h3
   rcases mem_upA hq with hq|rfl
   ·exact h1 (List.mem_map.2 ⟨q,hq,e2⟩)
   ·exact e e2.symm
theorem rk {rec:bq→By→Int→Bool×bq×By}{i:Int}(hr: ∀s b k,f8 b→f8 (rec s b k).2.2): ∀(vs:List Int) (s:bq) (b:By),f8 b→f8 (iI rec i vs s b).2.2
 | [],s,b,hb=>hb
 |v::vs,s,b,hb=>by
  rw[iI]
  split
  ·exact rk hr vs s b hb
  ·split
   ·exact hb.up
   ·rename_i k _
    have h1:=hr (upA s v true) b k hb
    split
    ·rename_i s2 b2 e
     rw[e]at h1
     exact f8.up h1
    ·rename_i s2 b2 e
     rw[e]at h1
     exact rk hr vs s2 b2 h1
theorem wS (l:List (List Int)): ∀(f:Nat) (i:Int) (s:bq) (b:By),f8 b→f8 (e7 l f i s b).2.2
 |0,i,s,b,h=>h
 |f+1,i,s,b,h=>by
  rw[e7]
  exact rk (fun s b k h=>wS l f k s b h) _ _ _ h
theorem oY {l:List (List Int)}: ∀(n i:Nat) (b b2:By),f8 b→d4 l n i b=some b2→f8 b2
 |0,i,b,b2,hb,h=>by cases h;exact hb
 |n+1,i,b,b2,hb,h=>by
  have h2:=wS l (l.flatten.length+1) (i:Nat) [] b hb
  rw[d4]at h
  generalize hT:lu l (i:Nat) b=R at*
  rw[show e7 l (l.flatten.length+1) (i:Nat) [] b=R from hT]at h2
  obtain⟨r,s,b3⟩:=R
  cases r with
  |false=>cases h
  |true=>exact oY n (i+1) b3 b2 h2 h
theorem yv {l:List (List Int)}{b:By}(h:c7 l=some b):f8 b:=oY _ _ _ _ (by show List.Nodup [];exact .nil) h
def dn (l:List (List Int)):List Int×Bool:=match c7 l with|some b=>(sQ b l.length,true)|none=>([],false)
theorem fH (l:List (List Int)):(dn l).2=true↔∃g,Others l g:=by
 unfold dn
 cases h:c7 l with
 |some b=>exact⟨fun _=>⟨_,sP h (yv h)⟩,fun _=>rfl⟩
 |none=>
  refine⟨fun h=>(by cases h),fun⟨g,hg⟩=> ?_⟩
  obtain⟨b,hb⟩:=tJ hg
  rw[h]at hb;cases hb
end Go.Proofs.YtopcjbahjjhdmaaGreat
namespace Go.Proofs.YtopcjbahjjhdmaaGreat
open Go Go.Shelf Go.RowKit
def ru:Go.Shelf.Ren:=⟨fun|189=>86|125=>124|257=>123|128=>165|129=>166|294=>156|295=>157|296=>158|297=>159|298=>160|299=>161|216=>162|300=>163|301=>164|328=>215|329=>216|330=>217|331=>218|332=>219|215=>167|343=>239|n=>n,fun|28=>24|3=>3|46=>146|0=>0|51=>173|53=>159|4=>4|183=>166|182=>165|131=>115|5=>5|9=>9|218=>204|222=>208|228=>221|229=>222|n=>n,fun|n=>n⟩
theorem sN:Go.Proofs.Lays.n189 Tryz.prog ru:= {
 mixed:=by kernel_rfl
 f125:=Tryz.func124.trans (congrArg some (by kernel_rfl))
 f128:=Tryz.func165.trans (congrArg some (by kernel_rfl))
 f129:=Tryz.func166.trans (congrArg some (by kernel_rfl))
 f189:=Tryz.func86.trans (congrArg some (by kernel_rfl))
 f215:=Tryz.func167.trans (congrArg some (by kernel_rfl))
 f216:=Tryz.func162.trans (congrArg some (by kernel_rfl))
 f257:=Tryz.func123.trans (congrArg some (by kernel_rfl))
 f294:=Tryz.func156.trans (congrArg some (by kernel_rfl))
 f295:=Tryz.func157.trans (congrArg some (by kernel_rfl))
 f296:=Tryz.func158.trans (congrArg some (by kernel_rfl))
 f297:=Tryz.func159.trans (congrArg some (by kernel_rfl))
 f298:=Tryz.func160.trans (congrArg some (by kernel_rfl))
 f299:=Tryz.func161.trans (congrArg some (by kernel_rfl))
 f300:=Tryz.func163.trans (congrArg some (by kernel_rfl))
 f301:=Tryz.func164.trans (congrArg some (by kernel_rfl))
 f328:=Tryz.func215.trans (congrArg some (by kernel_rfl))
 f329:=Tryz.func216.trans (congrArg some (by kernel_rfl))
 f330:=Tryz.func217.trans (congrArg some (by kernel_rfl))
 f331:=Tryz.func218.trans (congrArg some (by kernel_rfl))
 f332:=Tryz.func219.trans (congrArg some (by kernel_rfl))
 f343:=Tryz.func239.trans (congrArg some (by kernel_rfl))
 t0:=Tryz.underlying0
 a0:=Tryz.isAgg0
 z0:=Tryz.sizeOf0
 v0:=Tryz.zeroValue0
 t3:=Tryz.underlying3
 a3:=Tryz.isAgg3
 z3:=Tryz.sizeOf3
 v3:=Tryz.zeroValue3
 t4:=Tryz.underlying4
 a4:=Tryz.isAgg4
 z4:=Tryz.sizeOf4
 v4:=Tryz.zeroValue4
 t5:=Tryz.underlying5
 a5:=Tryz.isAgg5
 z5:=Tryz.sizeOf5
 v5:=Tryz.zeroValue5
 t9:=Tryz.underlying9
 a9:=Tryz.isAgg9
 z9:=Tryz.sizeOf9
 v9:=Tryz.zeroValue9
 t28:=Tryz.underlying24
 a28:=Tryz.isAgg24
 z28:=Tryz.sizeOf24
 v28:=Tryz.zeroValue24
 t46:=Tryz.underlying146
 a46:=Tryz.isAgg146
 z46:=Tryz.sizeOf146
 v46:=Tryz.zeroValue146
 t51:=Tryz.underlying173
 a51:=Tryz.isAgg173
 z51:=Tryz.sizeOf173
 v51:=Tryz.zeroValue173
 t53:=Tryz.underlying159
 a53:=Tryz.isAgg159
 z53:=Tryz.sizeOf159
 v53:=Tryz.zeroValue159
 t131:=Tryz.underlying115
 a131:=Tryz.isAgg115
 z131:=Tryz.sizeOf115
 v131:=Tryz.zeroValue115
 t182:=Tryz.underlying165
 a182:=Tryz.isAgg165
 z182:=Tryz.sizeOf165
 v182:=Tryz.zeroValue165
 t183:=Tryz.underlying166
 a183:=Tryz.isAgg166
 z183:=Tryz.sizeOf166
 v183:=Tryz.zeroValue166
 t218:=Tryz.underlying204
 a218:=Tryz.isAgg204
 z218:=Tryz.sizeOf204
 v218:=Tryz.zeroValue204
 t222:=Tryz.underlying208
 a222:=Tryz.isAgg208
 z222:=Tryz.sizeOf208
 v222:=Tryz.zeroValue208
 t228:=Tryz.underlying221
 a228:=Tryz.isAgg221
 z228:=Tryz.sizeOf221
 v228:=Tryz.zeroValue221
 t229:=Tryz.underlying222
 a229:=Tryz.isAgg222
 z229:=Tryz.sizeOf222
 v229:=Tryz.zeroValue222 }
open Go.Sort Go.RowKit in
theorem vg (blk off cap:Nat)(zs:List Int)(w:World)(hH:Holds (Value.int .i64) w blk off zs.toArray)(hblk:blk<w.heap.size)(hsz:zs.length<4611686018427387904):
  Calls Tryz.prog 86 #[.slice (some ⟨blk,off,none⟩) zs.length cap] w fun e w'=>
   e= .returned (.tuple #[])∧∃n os,w'=grow (putRow (Value.int .i64) (Sort.ahead w n) blk off (zs.mergeSort fun x y=>decide (x≤y)).toArray) os:=Any.slices_Sort_int sN blk off cap zs w hH hblk hsz
open Go.RowKit Go.Sort in
theorem m6 (p:Option Addr)(cap:Nat)(w:World):
  Calls Tryz.prog 86 #[.slice p 0 cap] w fun e w'=>e= .returned (.tuple #[])∧w'=w:=Any.slices_Sort_int_none sN p cap w
end Go.Proofs.YtopcjbahjjhdmaaGreat
namespace Go.Proofs.YtopcjbahjjhdmaaGreat
open Go Go.RowKit
set_option linter.unusedVariables false
set_option linter.unusedSimpArgs false
set_option maxRecDepth 8000
def pK (x:List (Int×Int)):List Int:=(vals x).take 4097
theorem pJ (x:List (Int×Int)):(pK x).length≤4097:=by unfold pK;rw[D8];omega
def listsP (d:aa)(vs:List Int):List (List Int):=vs.map fun v=>pK (d.getD v.toNat [])
theorem sH (d:aa)(vs:List Int)(hd:je d)(hb: ∀x∈d,InB x)(hx: ∀x∈d,x.length*16≤140737488351232)(hv: ∀v∈vs,0≤v∧v.toNat<d.length)(hl:vs.length*24≤140737488355328):
  Spec Tryz.prog 182 false [aJ d,av vs] [.own 24 1 ((listsP d vs).map cL)]:=by
 refine Spec.body Tryz.func182 rfl rfl rfl fun w0 Z0=> ?_
 refine .B ?_
 refine T.sub (Rel.own0 (s:=5) 24 1 rfl) ?_
 refine T.K (T.list vs (fun n pre post=>⟨[(0,.val false (aJ d)),(5,.ref 0),(8,.val false (av vs)),(9,.val true (.int .i64 (vs.map cI).length)),(10,.val true (.int .i64 n))],[(0,some (.sl 24 1 true ((listsP d pre).map cL)))],1⟩) (fun _ _ h=>h) ?_ ?_)
 ·rintro n pre v post h hn ih
  have hlt:=bY h hn
  have hvv:=hv v (by rw[h];simp)
  have hrow:(d.map cD)[v.toNat]? =some (cD (d.getD v.toNat [])):=by simp[hvv.2]
  have hm:d.getD v.toNat []∈d:=by rw[C0,C1 hvv.2];exact C5 hvv.2
  have hsp:=(ip (d.getD v.toNat []) (hb _ hm) (hx _ hm)).frz
  have hpl:(listsP d pre).length=pre.length:=C6 ..
  refine .B ?_
  refine T.ct2 rfl (bX h hn) ?_
  refine .B ?_
  refine .I (r:=cI v) (aS h hn) ?_
  refine .B ?_
  refine J.i rfl rfl rfl rfl rfl rfl rfl rfl rfl (r:=cD (d.getD v.toNat [])) hvv.1 hrow rfl ?_
  refine .B ?_
  refine .C hsp ?_
  refine .B ?_
  refine .V ?_
  refine .B ?_
  refine J.a1 (enc:=cL) (x:=pK (d.getD v.toNat [])) (B:=24) rfl rfl rfl rfl rfl rfl rfl rfl rfl rfl rfl rfl rfl rfl rfl rfl rfl rfl rfl rfl (by omega) ?_
  rw[show listsP d pre++[pK (d.getD v.toNat [])]=listsP d (pre++[v])by simp[listsP]]
  refine .B ?_
  rw[ak hlt (by omega)]
  exact T.K ih
 ·refine .B ?_
  refine T.cf2 rfl bl ?_
  refine .B ?_
  exact⟨_,.o rfl rfl rfl (fun _=> .inl rfl) (by simp) .nil⟩
theorem Cu {l:List (List Int)}: ∀r∈l.map cL,r.length=1:=fun r hr=>by obtain⟨x,_,rfl⟩:=List.mem_map.1 hr;rfl
theorem uJ (l:List (List Int))(hl:l.length*24≤140737488355328):Spec Tryz.prog 184 true [bR l] [.own 24 1 (l.map cL)]:=by
 refine Spec.body Tryz.func184 rfl rfl rfl fun w0 Z0=> ?_
 refine .B ?_
 refine J.nc rfl rfl rfl rfl rfl rfl rfl fun b hb=> ?_
 refine .B ?_
 cases b
 ·refine T.cf rfl ?_
  refine .B ?_
  refine .O ?_
  refine .B ?_
  refine J.a rfl rfl rfl rfl rfl rfl rfl rfl rfl rfl rfl rfl rfl rfl rfl rfl rfl Cu (by show(0+List.length _)*24≤_;simp;omega) ?_
  refine .B ?_
  exact⟨_,.o rfl rfl rfl (fun h=>by cases h) (by simp) .nil⟩
 ·have:l=[]:=by simpa using hb rfl
  subst this
  refine T.ct rfl ?_
  refine .B ?_
  exact⟨_,.ownN rfl .nil⟩
theorem i9 (v:Int):Spec Tryz.prog 168 false [.int .i64 v] [.val (.bool (aH v))]:=by
 refine Spec.body Tryz.func168 rfl rfl rfl fun w0 Z0=> ?_
 refine .B ?_
 refine J.g rfl rfl rfl (fun h=> ?_) (fun h=> ?_)
 ·refine .B ?_
  exact⟨_,.v rfl rfl (by simp[aH,show -1048576≤v from h]) (fun _=>rfl) .nil⟩
 ·refine .B ?_
  exact⟨_,.v rfl rfl (by simp[aH,show¬-1048576≤v from h]) (fun _=>rfl) .nil⟩
theorem zW (v:Int):Spec Tryz.prog 226 false [.int .i64 v] [.val (.bool (!aH v))]:=by
 refine Spec.body Tryz.func226 rfl rfl rfl fun w0 Z0=> ?_
 refine .B ?_
 refine .C (i9 v) ?_
 refine .B ?_
 exact r1
def indexP (p:Int→Bool)(l:List Int):Int:=match l.findIdx? p with|some i=>(i:Int)|none=> -1
theorem ug {p:Int→Bool}{f:FuncId}(l:List Int)(hp: ∀v∈l,Spec Tryz.prog f false [.int .i64 v] [.val (.bool (p v))])(hl:l.length*8≤140737488355328):Spec Tryz.prog 169 false [av l,.fn (.func f) [] []] [.val (.int .i64 (indexP p l))]:=by
 refine Spec.body Tryz.func169 rfl rfl rfl fun w0 Z0=> ?_
 refine .B ?_
 refine T.K (T.listI l (fun pre=> ∀v∈pre,p v=false) (fun n pre post=>⟨[(0,.val false (av l)),(1,.val false (.fn (.func f) [] [])),(7,.val true (.int .i64 (l.map cI).length)),(8,.val true (.int .i64 n))],[],0⟩) (fun _ _ h=>h) (fun v hv=>by cases hv) ?_ ?_)
 ·rintro n pre v post h hn hi ih
  have hlt:=bY h hn
  have hsp:=hp v (by rw[h];simp)
  refine .B ?_
  refine T.ct2 rfl (bX h hn) ?_
  refine .B ?_
  refine .I (r:=cI v) (aS h hn) ?_
  refine .B ?_
  refine .C hsp ?_
  refine .B ?_
  refine T.cond rfl (fun h2=> ?_) (fun h2=> ?_)
  ·have h2:p v=true:=h2
   refine .B ?_
   have e:indexP p l=(n:Int):=by
    unfold indexP
    rw[h,FC,List.findIdx?_eq_none_iff.2 (by simpa using hi),ET,if_pos h2]
    simp[hn]
   rw[e]
   exact r1
  ·have h2:p v=false:=h2
   refine .B ?_
   rw[ak hlt (by omega)]
   exact T.K (ih (by
    intro x hx
    rcases List.mem_append.1 hx with hx|hx
    ·exact hi x hx
    ·rw[List.mem_singleton.1 hx];exact h2))
 ·intro hi
  have e:indexP p l= -1:=by
   unfold indexP
   rw[List.findIdx?_eq_none_iff.2 (by simpa using hi)]
  rw[e]
  refine .B ?_
  refine T.cf2 rfl bl ?_
  refine .B ?_
  exact r1
theorem ph {p:Int→Bool}{f:FuncId}(l:List Int)(hp: ∀v∈l,Spec Tryz.prog f false [.int .i64 v] [.val (.bool (p v))])(hl:l.length*8≤140737488355328):Spec Tryz.prog 129 false [av l,.fn (.func f) [] []] [.val (.bool (l.any p))]:=by
 refine Spec.body Tryz.func129 rfl rfl rfl fun w0 Z0=> ?_
 refine .B ?_
 refine .C (ug l hp hl) ?_
 refine .B ?_
 refine⟨_,.v rfl rfl ?_ (fun _=>rfl) .nil⟩
 simp only[PV.bool.injEq]
 unfold indexP
 cases h:l.findIdx? p with
 |none=>
  have:l.any p=false:=by
   rw[F6]
   exact fun x hx=>by simpa using List.findIdx?_eq_none_iff.1 h x hx
  rw[this];rfl
 |some i=>
  have:l.any p=true:=by
   rw[EJ]
   obtain⟨h1,h2,_⟩:=List.findIdx?_eq_some_iff_getElem.1 h
   exact⟨_,C5 h1,h2⟩
  rw[this]
  simp
def fY (out:List (Int×Int))(v:Int):List (Int×Int):=match out.getLast? with
 |none=>out++[(v,v)]
 |some (a,b)=>if b≥v then out else if b=v-1 then out.dropLast++[(a,v)]else out++[(v,v)]
def packG (l:List Int):List (Int×Int):=l.foldl fY []
theorem p9 (v:Int):fY [] v=[(v,v)]:=rfl
theorem gX (o:List (Int×Int))(a b v:Int):fY (o++[(a,b)]) v=if b≥v then o++[(a,b)]else if b=v-1 then o++[(a,v)]else o++[(a,b)]++[(v,v)]:=by
 unfold fY
 rw[List.getLast?_append]
 simp
theorem ye (o:List (Int×Int))(v:Int):(fY o v).length≤o.length+1:=by
 rcases EE o with rfl|⟨o,⟨a,b⟩,rfl⟩
 ·exact CS _
 ·rw[E8,gX]
  split
  ·simp
  ·split<;>simp
theorem qa (l:List Int):(packG l).length≤l.length:=by
 have: ∀(l:List Int) (o:List (Int×Int)),(l.foldl fY o).length≤o.length+l.length:=by
  intro l
  induction l with
  |nil=>intro o;exact CS _
  |cons v l ih=>intro o;have h1:=ih (fY o v);have h2:=ye o v;rw[CZ,D0];omega
 have h:=this l []
 simp only[Dj,Dy]at h
 exact h
theorem vE (l:List Int)(v:Int):packG (l++[v])=fY (packG l) v:=by simp[packG]
theorem tc {e:TypeId}{fr:Bool}(o:List (Int×Int))(a b v:Int):Own.put (.sl e 2 fr ((o++[(a,b)]).map cR)) o.length 1 2 true [.int .i64 v]=some (.sl e 2 fr ((o++[(a,v)]).map cR)):=by
 have h:((o++[(a,b)]).map cR)[o.length]? =some (cR (a,b)):=by simp
 show(match Nat.beq 2 2,((o++[(a,b)]).map cR)[o.length]? with|true,some r=>(match Nat.ble (1+1) r.length with|true=>some (Own.sl e 2 (fr&&true) (((o++[(a,b)]).map cR).set o.length (putCells r 1 [.int .i64 v])))|false=>none)|_,_=>none)=_
 rw[h]
 show some (Own.sl e 2 (fr&&true) _)=_
 rw[Fd]
 congr 2
 rw[DF,DF,show o.length=(o.map cR).length+0 by simp,F1 _ _ (by simp)]
 simp[cR,putCells]
theorem ti (l:List Int)(hv: ∀v∈l,aH v=true)(hl:l.length*16≤140737488355328):Spec Tryz.prog 227 false [av l] [.own 53 2 ((packG l).map cR)]:=by
 refine Spec.body Tryz.func227 rfl rfl rfl fun w0 Z0=> ?_
 refine .B ?_
 refine T.sub (Rel.own0 (s:=3) 53 2 rfl) ?_
 refine T.K (T.list l (fun n pre post=>⟨[(3,.ref 0),(7,.val false (av l)),(8,.val true (.int .i64 (l.map cI).length)),(9,.val true (.int .i64 n))],[(0,some (.sl 53 2 true ((packG pre).map cR)))],1⟩) (fun _ _ h=>h) ?_ ?_)
 ·rintro n pre v post h hn ih
  have hlt:=bY h hn
  have hpl:=qa pre
  have hvv: -1048576≤v∧v≤1048576:=by simpa[aH]using hv v (by rw[h];simp)
  rw[vE]at ih
  refine .B ?_
  refine T.ct2 rfl (bX h hn) ?_
  refine .B ?_
  refine .I (r:=cI v) (aS h hn) ?_
  generalize packG pre=out at*
  refine .B ?_
  rcases EE out with rfl|⟨o,⟨a,b⟩,rfl⟩
  ·refine J.g rfl rfl rfl (fun h2=> ?_) (fun h2=> ?_)
   ·simp at h2
   refine .B ?_
   refine T.cf rfl ?_
   refine .B ?_
   refine T.cf rfl ?_
   refine .B ?_
   refine .V ?_
   refine .B ?_
   refine J.aR rfl rfl rfl rfl rfl rfl rfl rfl rfl rfl rfl rfl rfl rfl rfl rfl rfl rfl rfl (by simp) ?_
   refine .B ?_
   rw[ak hlt (by omega)]
   exact T.K ih
  ·rw[E8]at*
   rw[gX]at ih
   refine J.g rfl rfl rfl (fun h2=> ?_) (fun h2=> ?_)
   rotate_left
   ·simp at h2
   have hol:(o.map cR).length+1=(o++[(a,b)]).length:=by simp
   have hlw:IntKind.i64.wrap (((((o++[(a,b)]).map cR).length:Nat):Int)-1)=(o.length:Int):=by
    rw[C6,CW,ae]<;>simp at* <;>omega
   have hro:((o++[(a,b)]).map cR)[((o.length:Nat):Int).toNat]? =some (cR (a,b)):=by simp
   refine .B ?_
   rw[hlw]
   refine J.io rfl rfl rfl rfl rfl rfl rfl rfl rfl (by omega) (by simp) rfl ?_
   refine .B ?_
   refine J.lo rfl rfl rfl rfl rfl rfl (r:=cR (a,b)) hro rfl ?_
   refine .B ?_
   refine T.cd rfl (fun h3=> ?_) (fun h3=> ?_)
   ·rw[if_pos h3]at ih
    refine .B ?_
    rw[ak hlt (by omega)]
    exact T.K ih
   rw[if_neg h3]at ih
   refine .B ?_
   refine J.g rfl rfl rfl (fun h4=> ?_) (fun h4=> ?_)
   rotate_left
   ·simp at h4
   refine .B ?_
   rw[hlw]
   refine J.io rfl rfl rfl rfl rfl rfl rfl rfl rfl (by omega) (by simp) rfl ?_
   refine .B ?_
   refine J.lo rfl rfl rfl rfl rfl rfl (r:=cR (a,b)) hro rfl ?_
   refine .B ?_
   rw[ae (n:=v-1) (by omega) (by omega)]
   refine T.cd rfl (fun h5=> ?_) (fun h5=> ?_)
   ·rw[if_pos h5]at ih
    refine .B ?_
    rw[hlw]
    refine J.io rfl rfl rfl rfl rfl rfl rfl rfl rfl (by omega) (by simp) rfl ?_
    refine .B ?_
    refine J.w rfl rfl rfl rfl rfl rfl rfl rfl rfl (tc o a b v) ?_
    refine .B ?_
    rw[ak hlt (by omega)]
    exact T.K ih
   ·rw[if_neg h5]at ih
    refine .B ?_
    refine .V ?_
    refine .B ?_
    refine J.aR rfl rfl rfl rfl rfl rfl rfl rfl rfl rfl rfl rfl rfl rfl rfl rfl rfl rfl rfl (by omega) ?_
    refine .B ?_
    rw[ak hlt (by omega)]
    exact T.K ih
 ·refine .B ?_
  refine T.cf2 rfl bl ?_
  refine .B ?_
  exact⟨_,.o rfl rfl rfl (fun _=> .inl rfl) (by simp) .nil⟩
def az (d:List (Int×Int)):Prop:=(∀r∈d,r.1≤r.2)∧d.Pairwise fun r s=>r.2+2≤s.1
def Up (l:List Int):Prop:=l.Pairwise (· < ·)
theorem cF {lo hi v:Int}:v∈rng lo hi↔lo≤v∧v≤hi:=by
 simp only[rng,EX,Ej]
 constructor
 ·rintro⟨k,hk,rfl⟩;omega
 ·intro h;exact⟨(v-lo).toNat,by omega,by omega⟩
theorem aT {d:List (Int×Int)}{v:Int}:v∈vals d↔∃r∈d,r.1≤v∧v≤r.2:=by
 simp only[vals,Fb,cF]
theorem sY {lo x:Int}(h:lo≤x+1):rng lo (x+1)=rng lo x++[x+1]:=by
 unfold rng
 rw[show(x+1+1-lo).toNat=(x+1-lo).toNat+1 by omega,FM,DF]
 simp;omega
theorem bS (x:Int):rng x x=[x]:=by
 unfold rng
 rw[show(x+1-x).toNat=1 by omega]
 simp[FM]
theorem iV {lo hi:Int}(h:lo≤hi):rng lo hi=lo::rng (lo+1) hi:=by
 unfold rng
 rw[show(hi+1-lo).toNat=(hi+1-(lo+1)).toNat+1 by omega,List.range_succ_eq_map,CY,Dz]
 simp only[Int.natCast_zero,Int.add_zero,List.cons.injEq,true_and]
 apply DS
 intro a _
 simp;omega
theorem zB {lo hi:Int}(h:hi<lo):rng lo hi=[]:=by
 unfold rng
 rw[show(hi+1-lo).toNat=0 by omega];rfl
theorem BI (lo hi:Int):Up (rng lo hi):=by
 unfold Up rng
 rw[Fy]
 exact List.pairwise_lt_range.imp fun h=>by omega
theorem az.tail {r:Int×Int}{d:List (Int×Int)}(h:az (r::d)):az d:=⟨fun s hs=>h.1 s (.tail _ hs),(List.pairwise_cons.1 h.2).2⟩
theorem bj (r:Int×Int)(d:List (Int×Int)):vals (r::d)=rng r.1 r.2++vals d:=rfl
theorem aF: ∀{d:List (Int×Int)},az d→Up (vals d)
 | [],_=> .nil
 |r::d,h=>by
  rw[bj]
  refine List.pairwise_append.2 ⟨BI _ _,aF h.tail,fun a ha b hb=> ?_⟩
  obtain⟨s,hs,h1,h2⟩:=aT.1 hb
  have:=(cF.1 ha).2
  have:=(List.pairwise_cons.1 h.2).1 s hs
  omega
theorem jV: ∀(l:List Int) (lo x:Int),lo≤x→Up (x::l)→vals (dM lo x l)=rng lo x++l
 | [],lo,x,_,_=>by simp[dM,vals]
 |y::l,lo,x,hlo,hu=>by
  have h1:=List.pairwise_cons.1 hu
  have hxy:=h1.1 y (.head _)
  simp only[dM]
  split
  ·rename_i e
   rw[jV l lo y (by omega) h1.2,e,sY (by omega)]
   simp
  ·rw[bj,jV l y y (DO _) h1.2,bS]
   simp
theorem bI {l:List Int}(h:Up l):vals (cZ l)=l:=by
 cases l with
 |nil=>rfl
 |cons x l=>rw[cZ,jV l x x (DO _) h,bS];rfl
theorem oq: ∀(l:List Int) (lo x:Int),lo≤x→Up (x::l)→az (dM lo x l)∧∀r∈dM lo x l,lo≤r.1
 | [],lo,x,h,_=>by simp[dM,az,h]
 |y::l,lo,x,hlo,hu=>by
  have h1:=List.pairwise_cons.1 hu
  have hxy:=h1.1 y (.head _)
  simp only[dM]
  split
  ·exact oq l lo y (by omega) h1.2
  ·obtain⟨h2,h3⟩:=oq l y y (DO _) h1.2
   refine⟨⟨fun r hr=> ?_,List.pairwise_cons.2 ⟨fun r hr=> ?_,h2.2⟩⟩,fun r hr=> ?_⟩
   ·rcases List.mem_cons.1 hr with rfl|hr
    ·exact hlo
    ·exact h2.1 r hr
   ·have:=h3 r hr
    simp only;omega
   ·rcases List.mem_cons.1 hr with rfl|hr
    ·exact DO _
    ·have:=h3 r hr;omega
theorem fX {l:List Int}(h:Up l):az (cZ l):=by
 cases l with
 |nil=>exact⟨by simp[cZ],.nil⟩
 |cons x l=>exact(oq l x x (DO _) h).1
theorem qb: ∀(n:Nat) (lo x hi:Int) (l:List Int),hi=x+n→(∀y∈l.head?,hi+2≤y)→dM lo x (rng (x+1) hi++l)=(lo,hi)::cZ l
 |0,lo,x,hi,l,e,h=>by
  have:hi=x:=by omega
  subst this
  rw[zB (by omega),Df]
  cases l with
  |nil=>rfl
  |cons y l=>
   have:=h y rfl
   simp only[dM]
   rw[if_neg (by omega)]
   rfl
 |n+1,lo,x,hi,l,e,h=>by
  rw[iV (by omega),Dq,dM,if_pos rfl]
  exact qb n lo (x+1) hi l (by omega) h
theorem eH: ∀{d:List (Int×Int)},az d→cZ (vals d)=d
 | [],_=>rfl
 |r::d,h=>by
  have hr:=h.1 r (.head _)
  rw[bj,iV hr,Dq,cZ,qb (r.2-r.1).toNat r.1 r.1 r.2 (vals d) (by omega) ?_,eH h.tail]
  intro y hy
  have hm:y∈vals d:=List.mem_of_mem_head? hy
  obtain⟨s,hs,h1,h2⟩:=aT.1 hm
  have:=(List.pairwise_cons.1 h.2).1 s hs
  omega
theorem iq {d d':List (Int×Int)}(h:az d)(h':az d')(e:vals d=vals d'):d=d':=by
 rw[←eH h,←eH h',e]
theorem xq {v:Int}: ∀{l:List Int},Up l→v∉l→Up (mg v l)
 | [],_,_=>by simp[mg,Up]
 |x::l,h,hn=>by
  have h1:=List.pairwise_cons.1 h
  simp only[mg]
  split
  ·refine List.pairwise_cons.2 ⟨fun y hy=> ?_,h⟩
   rcases List.mem_cons.1 hy with rfl|hy
   ·assumption
   ·have:=h1.1 y hy;omega
  ·refine List.pairwise_cons.2 ⟨fun y hy=> ?_,xq h1.2 fun h=>hn (.tail _ h)⟩
   have hm:y∈insU v l:=by unfold insU;rw[if_neg (show¬v∈l from fun h=>hn (.tail _ h))];exact hy
   rcases (ub v y l).1 hm with rfl|hy
   ·have:y≠x:=fun e=>hn (e▸.head _)
    omega
   ·exact h1.1 y hy
theorem Bd {v:Int}{l:List Int}(h:Up l):Up (insU v l):=by
 unfold insU;split
 ·exact h
 ·rename_i hn;exact xq h hn
theorem bZ (l:List Int):Up (aV l):=by
 have key: ∀(l out:List Int),Up out→Up (l.foldl (fun out v=>insU v out) out):=by
  intro l
  induction l with
  |nil=>intro out h;exact h
  |cons v l ih=>intro out h;exact ih _ (Bd h)
 exact key l [] .nil
theorem fB {l:List Int}{p:Int→Bool}(h:Up l):Up (l.filter p):=List.Pairwise.sublist List.filter_sublist h
theorem dA {l:List Int}(h:Up l):l.Nodup:=h.imp fun h=>Int.ne_of_lt h
theorem e6 {d:List (Int×Int)}(h:az d):vals d=[]↔d=[]:=by
 cases d with
 |nil=>simp[vals]
 |cons r d=>
  rw[bj,iV (h.1 r (.head _))]
  simp
theorem lK {r:Int×Int}{d:List (Int×Int)}(h:az (r::d)): ∃l,vals (r::d)=r.1::l:=by
 rw[bj,iV (h.1 r (.head _))]
 exact⟨_,rfl⟩
theorem lJ {d:List (Int×Int)}(h:az d)(hne:d≠[]):(vals d).getLast? =some (aM d):=by
 obtain⟨d',r,rfl⟩: ∃d' r,d=d'++[r]:=⟨d.dropLast,d.getLast hne,(List.dropLast_concat_getLast hne).symm⟩
 have hr:=h.1 r (by simp)
 have e:vals (d'++[r])=vals d'++rng r.1 r.2:=by simp[vals]
 rw[e]
 have e2:rng r.1 r.2=rng r.1 (r.2-1)++[r.2]:=by
  have:=sY (lo:=r.1) (x:=r.2-1) (by omega)
  rwa[show r.2-1+1=r.2 by omega]at this
 rw[e2,←DD]
 simp[aM]
theorem Au {d:List (Int×Int)}(h:az d)(hne:d≠[]):o8 d=(ay d,aM d,true):=by
 cases d with
 |nil=>exact absurd rfl hne
 |cons r d=>
  obtain⟨l,hl⟩:=lK h
  have hlast:=lJ h hne
  unfold o8
  split
  ·rename_i e;rw[hl]at e;cases e
  ·rename_i x l' e
   rw[hl]at e
   obtain⟨rfl,rfl⟩:=List.cons.inj e
   rw[hl,Fe (by simp)]at hlast
   simp only[C3]at hlast
   rw[hlast]
   rfl
theorem fA {d:List (Int×Int)}(h:az d)(hne:d≠[]):ay d∈vals d:=by
 cases d with
 |nil=>exact absurd rfl hne
 |cons r d=>obtain⟨l,hl⟩:=lK h;rw[hl];exact .head _
theorem oN {d:List (Int×Int)}(h:az d)(hne:d≠[]):aM d∈vals d:=List.mem_of_getLast? (lJ h hne)
theorem oM {d:List (Int×Int)}(h:az d){v:Int}(hv:v∈vals d):ay d≤v:=by
 cases d with
 |nil=>simp[vals]at hv
 |cons r d=>
  obtain⟨l,hl⟩:=lK h
  have hu:=aF h
  rw[hl]at hu hv
  rcases List.mem_cons.1 hv with rfl|hv
  ·exact DO _
  ·exact Int.le_of_lt ((List.pairwise_cons.1 hu).1 v hv)
theorem nv {d:List (Int×Int)}(h:az d){v:Int}(hv:v∈vals d):v≤aM d:=by
 have hne:d≠[]:=fun e=>by rw[e]at hv;simp[vals]at hv
 have hu:=aF h
 obtain⟨l,hl⟩: ∃l,vals d=l++[aM d]:=by
  have:=lJ h hne
  obtain⟨l,hl⟩:=List.getLast?_eq_some_iff.1 this
  exact⟨l,hl⟩
 rw[hl]at hu hv
 rcases List.mem_append.1 hv with hv|hv
 ·exact Int.le_of_lt ((List.pairwise_append.1 hu).2.2 v hv _ (by simp))
 ·simp at hv;omega
theorem dF: ∀{l l':List Int},Up l→Up l'→(∀v,v∈l↔v∈l')→l=l'
 | [],[],_,_,_=>rfl
 | [],y::l',_,_,h=>by have:=(h y).2 (.head _);cases this
 |x::l,[],_,_,h=>by have:=(h x).1 (.head _);cases this
 |x::l,y::l',h1,h2,h=>by
  have a1:=List.pairwise_cons.1 h1
  have a2:=List.pairwise_cons.1 h2
  have e:x=y:=by
   rcases List.mem_cons.1 ((h x).1 (.head _))with e|e
   ·exact e
   ·rcases List.mem_cons.1 ((h y).2 (.head _))with e2|e2
    ·exact e2.symm
    ·have:=a2.1 x e;have:=a1.1 y e2;omega
  subst e
  congr 1
  refine dF a1.2 a2.2 fun v=>⟨fun hv=> ?_,fun hv=> ?_⟩
  ·rcases List.mem_cons.1 ((h v).1 (.tail _ hv))with rfl|h3
   ·have:=a1.1 v hv;omega
   ·exact h3
  ·rcases List.mem_cons.1 ((h v).2 (.tail _ hv))with rfl|h3
   ·have:=a2.1 v hv;omega
   ·exact h3
theorem oD {lo hi:Int}: ∀{d:List (Int×Int)},az d→az (bB d [(lo,hi)])∧(∀r∈bB d [(lo,hi)],∃s∈d,s.1≤r.1∧r.2≤s.2)∧∀v,v∈vals (bB d [(lo,hi)])↔v∈vals d∧lo≤v∧v≤hi
 | [],_=>by rw[nu];exact⟨⟨by simp,.nil⟩,by simp,by simp[vals]⟩
 |x::d,h=>by
  obtain⟨h1,h2,h3⟩:=oD (lo:=lo) (hi:=hi) h.tail
  have hx:=h.1 x (.head _)
  have hp:=(List.pairwise_cons.1 h.2).1
  have hvd: ∀v∈vals d,x.2+2≤v:=fun v hv=>by
   obtain⟨s,hs,h4,h5⟩:=aT.1 hv
   have:=hp s hs;omega
  rw[hI,nt]
  have tailOk:az (if x.2<hi then bB d [(lo,hi)]else [])∧(∀r∈(if x.2<hi then bB d [(lo,hi)]else []),∃s∈d,s.1≤r.1∧r.2≤s.2)∧∀v,v∈vals (if x.2<hi then bB d [(lo,hi)]else [])↔v∈vals d∧lo≤v∧v≤hi:=by
   split
   ·exact⟨h1,h2,h3⟩
   ·refine⟨⟨by simp,.nil⟩,by simp,fun v=>⟨fun h=>by simp[vals]at h,fun h=> ?_⟩⟩
    have:=hvd v h.1;omega
  generalize (if x.2<hi then bB d [(lo,hi)]else [])=t at*
  obtain⟨t1,t2,t3⟩:=tailOk
  split
  ·rename_i hc
   refine⟨⟨fun r hr=> ?_,?_⟩,fun r hr=> ?_,fun v=> ?_⟩
   ·rcases List.mem_cons.1 hr with rfl|hr
    ·exact hc
    ·exact t1.1 r hr
   ·refine List.pairwise_cons.2 ⟨fun r hr=> ?_,t1.2⟩
    obtain⟨s,hs,h5,h6⟩:=t2 r hr
    have:=hp s hs
    simp only;omega
   ·rcases List.mem_cons.1 hr with rfl|hr
    ·exact⟨x,.head _,by simp only;omega,by simp only;omega⟩
    ·obtain⟨s,hs,h5,h6⟩:=t2 r hr
     exact⟨s,.tail _ hs,h5,h6⟩
   ·rw[List.singleton_append,bj,bj,Dl,Dl,cF,cF,t3]
    constructor
    ·rintro(h7|h7)
     ·exact⟨.inl (by omega),by omega,by omega⟩
     ·exact⟨.inr h7.1,h7.2⟩
    ·rintro⟨h7|h7,h8⟩
     ·exact .inl (by simp only;omega)
     ·exact .inr ⟨h7,h8⟩
  ·rename_i hc
   rw[Df]
   refine⟨t1,fun r hr=> ?_,fun v=> ?_⟩
   ·obtain⟨s,hs,h5,h6⟩:=t2 r hr
    exact⟨s,.tail _ hs,h5,h6⟩
   ·rw[bj,Dl,cF,t3]
    constructor
    ·exact fun h7=>⟨.inr h7.1,h7.2⟩
    ·rintro⟨h7|h7,h8⟩
     ·omega
     ·exact⟨h7,h8⟩
theorem bP {d:List (Int×Int)}(h:az d)(lo hi:Int):az (domCut d lo hi)∧∀v,v∈vals (domCut d lo hi)↔v∈vals d∧lo≤v∧v≤hi:=by
 unfold domCut
 split
 ·exact⟨⟨by simp,.nil⟩,fun v=>⟨fun h=>by simp[vals]at h,fun h=>by omega⟩⟩
 ·exact⟨(oD h).1,(oD h).2.2⟩
theorem kR {d:List (Int×Int)}(h:az d):(vals d).length=1↔∃x,d=[(x,x)]:=by
 constructor
 ·intro hl
  obtain⟨x,hx⟩:=List.length_eq_one_iff.1 hl
  exact⟨x,by rw[←eH h,hx];rfl⟩
 ·rintro⟨x,rfl⟩
  rw[bj,bS];rfl
theorem qA {d:List (Int×Int)}(h:az d):(d≠[]∧ay d=aM d)↔∃x,d=[(x,x)]:=by
 constructor
 ·rintro⟨hne,he⟩
  refine(kR h).1 ?_
  have hu:=aF h
  have hm:=fA h hne
  cases hv:vals d with
  |nil=>rw[hv]at hm;cases hm
  |cons y l=>
   cases l with
   |nil=>rfl
   |cons z l=>
    have h1:=oM h (v:=y) (by rw[hv];simp)
    have h2:=nv h (v:=z) (by rw[hv];simp)
    rw[hv]at hu
    have:=(List.pairwise_cons.1 hu).1 z (by simp)
    omega
 ·rintro⟨x,rfl⟩
  exact⟨by simp,rfl⟩
theorem v8 {a b:Int}{da db:List (Int×Int)}(ha:az da)(hb:az db):gj a b da db=true↔a=b∨((vals da).length=1∧da=db):=by
 simp only[gj,E0,CR,decide_eq_true_eq,ofD,Prod.mk.injEq]
 refine or_congr_right ⟨?_,?_⟩
 ·rintro⟨⟨⟨h1,h2⟩,h3⟩,h4,h5⟩
  obtain⟨x,rfl⟩:=(qA ha).1 ⟨Em h1,h3⟩
  obtain⟨y,rfl⟩:=(qA hb).1 ⟨Em h2,by omega⟩
  refine⟨(kR ha).2 ⟨x,rfl⟩,?_⟩
  have:x=y:=h4
  rw[this]
 ·rintro⟨h1,rfl⟩
  obtain⟨x,rfl⟩:=(kR ha).1 h1
  exact⟨⟨⟨by simp,by simp⟩,rfl⟩,rfl,rfl⟩
theorem Bj {d:List (Int×Int)}(h:az d)(hv: ∀v∈vals d,-1048576≤v∧v≤1048576):InB d:=by
 intro r hr
 have h1:=h.1 r hr
 have h2:=hv r.1 (aT.2 ⟨r,hr,DO _,h1⟩)
 have h3:=hv r.2 (aT.2 ⟨r,hr,h1,DO _⟩)
 omega
theorem bG: ∀{d:List (Int×Int)},az d→d.length≤(vals d).length
 | [],_=>by simp
 |r::d,h=>by
  have:=bG h.tail
  have hr:=h.1 r (.head _)
  rw[bj,iV hr]
  simp only[D0,CW];omega
structure Fine (d:List (Int×Int)):Prop where
 ok:az d
 val: ∀v∈vals d,-1048576≤v∧v≤1048576
 few:(vals d).length*16+1048576≤140737488355328
theorem Fine.domB {d:List (Int×Int)}(h:Fine d):DomB d:=⟨Bj h.ok h.val,by have:=h.few;omega,by have:=h.few;have:=bG h.ok;omega⟩
theorem Fine.len {d:List (Int×Int)}(h:Fine d):d.length*16+1048576≤140737488355328:=by have:=h.few;have:=bG h.ok;omega
theorem bV {l l':List Int}(h:Up l)(hs: ∀v∈l,v∈l'):l.length≤l'.length:=(dA h).length_le_of_subset hs
theorem Fine.cut {d d':List (Int×Int)}(h:Fine d)(h':az d')(hs: ∀v∈vals d',v∈vals d):Fine d':=
 ⟨h',fun v hv=>h.val v (hs v hv),by have:=h.few;have:=bV (aF h') hs;omega⟩
theorem jH {p:Nat→Bool}{h j:Nat}(hj:j<eX p h):p j=true:=by
 unfold eX at hj
 cases hf:(List.range h).find? (fun k=> !p k)with
 |none=>
  rw[hf]at hj
  have:=List.find?_eq_none.1 hf j (List.mem_range.2 (by simpa using hj))
  simpa using this
 |some k=>
  rw[hf]at hj
  have:=(List.find?_range_eq_some.1 hf).2.2 j (by simpa using hj)
  simpa using this
theorem mK {p:Nat→Bool}{h:Nat}(hlt:eX p h<h):p (eX p h)=false:=by
 unfold eX at hlt⊢
 cases hf:(List.range h).find? (fun k=> !p k)with
 |none=>rw[hf]at hlt;simp at hlt
 |some k=>
  have:=(List.find?_range_eq_some.1 hf).1
  simpa using this
theorem r3 {d:aa}{c:Con}(hc:ConB c)(h:conR d c=0):cO d c∧rightR d c=true:=by
 unfold conR at h
 split at h
 ·cases h
 ·split at h
  ·cases h
  ·rename_i hu
   split at h
   ·cases h
   ·rename_i hr
    exact⟨(ri hc (by simpa using hu)).1,by simpa using hr⟩
end Go.Proofs.YtopcjbahjjhdmaaGreat
