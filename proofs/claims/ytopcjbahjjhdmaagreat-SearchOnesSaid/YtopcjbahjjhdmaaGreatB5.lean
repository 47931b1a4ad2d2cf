/- The texts FnA, FvQ, FnB, FnC, FnD, FnE, ItA, ItB, FnF, FnG, FnH, FnI, FnJ, FnK, FnL, FnM, FnN, FuA, FuB, PuL, ShS, FuC, FuD, FnO, PuA, PuB of the workplace, joined. -/
import Derived.Test.YtopcjbahjjhdmaaGreatB4
import Derived.Test.YtopcjbahjjhdmaaGreatProg
import Derived.RangeFuncBox
import Derived.RangeFuncWrites
import Derived.RangeFuncCalls
import Derived.RangeFuncLeaves
import Derived.Shelf.Abstract
import Derived.WalkKit
import Derived.OwnWalkIn
import Derived.TacticsInMore
import Derived.LoopNIn
import Derived.LoopIn
import Derived.Maps.AppendAt
import Derived.Shelf.Sort.Plain
import Derived.Shelf.Slices.In.SortNone
namespace Go.Proofs.YtopcjbahjjhdmaaGreat
open Go Go.RowKit
set_option linter.unusedVariables false
set_option maxRecDepth 4000
def aH (v:Int):Bool:=decide (-1048576<=v/\v<=1048576)
theorem j9 (v:Int):Spec Tryz.prog 60 false [.int .i64 v] [.val (.bool (aH v))]:=by
 refine Spec.body Tryz.func60 Y Y Y λw0 Z0=> ?_;refine .B ?_;refine J.g Y Y Y (λh=> ?_) (λh=> ?_)
 ·refine .B ?_;exact⟨_,.v Y Y (by simp[aH,show -1048576<=v from h]) (λ_=>rfl) .nil⟩
 ·refine .B ?_;exact⟨_,.v Y Y (by simp[aH,show¬-1048576<=v from h]) (λ_=>rfl) .nil⟩
theorem lI (l:List Int)(v:Int)(hl:l.length<=9223372036854775806):Spec Tryz.prog 48 false [ao l,.int .i64 v] [.val (.bool (decide (v∈l)))]:=by
 refine Spec.body Tryz.func48 Y Y Y λw0 Z0=> ?_;refine .B ?_
 ·refine T.K (T.ind (λi:Nat=>⟨[(0,.val false (ao l)),(1,.val false (.int .i64 v)),(5,.val true (.int .i64 i))],[],0⟩) (λi=>i<=l.length/\∀x∈l.take i,x≠v) (λi=>l.length-i) 0 (by simp) (λ_ _ h=>h) ?_);rintro i ⟨hi,hx⟩ ih;refine .B ?_;refine T.cd Y (λh=> ?_) (λh=> ?_)
  ·simp at h;refine .B ?_;refine J.i Y Y Y Y Y Y Y Y Y (r:=cI l[i]) (by omega) (by simp[h]) rfl ?_;refine .B ?_;refine T.cd Y (λh2=> ?_) (λh2=> ?_)
   ·refine .B ?_;exact⟨_,.v Y Y (by rw[<-h2];simp) (λ_=>rfl) .nil⟩
   ·refine .B ?_;rw[af (by omega) (by omega)];refine T.K (ih (i+1) ⟨by omega,?_⟩ (by omega));intro x hm;rw[DB h]at hm;simp only[DT,DG]at hm;rcases hm with hm|hm;·exact hx x hm
    ·rw[hm];exact h2
  ·simp at h;refine .B ?_;refine⟨_,.v Y Y ?_ (λ_=>rfl) .nil⟩;rw[DS h]at hx;simp only[PV.bool.injEq,Bool.false_eq,decide_eq_false_iff_not];exact λhm=>hx v hm Y
def mA (v:Int):List Int->List Int
 | []=>[v]
 |x::xs=>if v<x then v::x::xs else x::mA v xs
def insU (v:Int)(l:List Int):List Int:=if v∈l then l else mA v l
def aW (l:List Int):List Int:=l.foldl (λout v=>insU v out) []
theorem m9 (v:Int): ∀l,(mA v l).length=l.length+1
 | []=>rfl
 |x::xs=>by simp only[mA];split<;>simp[m9 v xs]
theorem uC (v:Int)(l:List Int):(insU v l).length<=l.length+1:=by
 unfold insU;split;·omega
 ·rw[m9];omega
theorem jO: ∀(l out:List Int),(l.foldl (λout v=>insU v out) out).length<=out.length+l.length
 | [],out=>by simp
 |v::l,out=>by
  have h1:=jO l (insU v out);have h2:=uC v out;simp only[Dn,Dp];omega
theorem fk (l:List Int):(aW l).length<=l.length:=by have:=jO l [];simpa[aW]using this
set_option linter.unusedSimpArgs false
set_option maxRecDepth 8000
def byteI (s:ByteArray)(i:Nat):UInt8:=(s[i]?).getD 0
def letB (b:UInt8):Bool:=decide ((b.toNat:Int)>=97)&&decide ((b.toNat:Int)<=122)
def badI (i:Nat)(b:UInt8):Bool:= !letB b&&(decide ((i:Int)=0)||(decide ((b.toNat:Int)≠95)&&(decide ((b.toNat:Int)<48)||decide ((b.toNat:Int) > 57))))
def fQ (s:ByteArray):Bool:=((List.range s.size).all λi=> !badI i (byteI s i))&&(!(s.toList==(⟨#[]⟩:ByteArray).toList)&&decide ((s.size:Int)<=16))
theorem yM (s:ByteArray)(hs:s.size<=140737488355328):Spec Tryz.prog 30 false [.str s] [.val (.bool (fQ s))]:=by
 refine Spec.body Tryz.func30 Y Y Y λw0 Z0=> ?_;generalize hR:fQ s=R;refine .B ?_;refine T.K (T.ind (λi:Nat=>⟨[(0,.val false (.str s)),(3,.val true (.int .i64 i))],[],0⟩) (λi=>i<=s.size/\∀j,j<i->badI j (byteI s j)=false) (λi=>s.size-i) 0 ⟨Dz _,λj hj=>DU hj (EO j)⟩ (λ_ _ h=>h) ?_);rintro i ⟨hi,hb⟩ ih;refine .B ?_;refine T.cd Y (λh1=> ?_) (λh1=> ?_)
 ·have h1:i<s.size:=(by omega);have hw:IntKind.i64.wrap ((i:Int)+1)=((i+1:Nat):Int):=(by rw[af (by omega) (by omega)];omega);have hbi:s[((i:Nat):Int).toNat]? =some (byteI s i):=by
   rw[DW];unfold byteI;rw[getElem?_pos s i h1];rfl
  have hno:badI i (byteI s i)=true->R=false:=λh=>by
   rw[<-hR];unfold fQ;have:((List.range s.size).all λi=> !badI i (byteI s i))=false:=by
    rw[FY];exact⟨i,DM.2 h1,by rw[h];simp⟩
   rw[this];rfl
  have ih1:=λh:badI i (byteI s i)=false=>ih (i+1) ⟨by omega,λj hj=>by
   by_cases e:j=i;·rw[e];exact h
   ·exact hb j (by omega)⟩ (by omega)
  have hbd:badI i (byteI s i)=(!letB (byteI s i)&&(decide ((i:Int)=0)||(decide (((byteI s i).toNat:Int)≠95)&&(decide (((byteI s i).toNat:Int)<48)||decide (((byteI s i).toNat:Int) > 57))))):=rfl;have hlt:letB (byteI s i)=(decide (((byteI s i).toNat:Int)>=97)&&decide (((byteI s i).toNat:Int)<=122)):=rfl;generalize badI i (byteI s i)=bad at*;generalize letB (byteI s i)=lt at*;generalize byteI s i=b at*;refine .B ?_;refine J.xs Y Y Y Y Y Y Y (by omega) hbi ?_;refine .B ?_;cases h1:decide ((b.toNat:Int)>=97)
  ·refine .B ?_;cases h3:decide ((i:Int)=0)
   ·refine .B ?_;refine J.xs Y Y Y Y Y Y Y (by omega) hbi ?_;refine .B ?_;cases h4:decide ((b.toNat:Int)≠95);rotate_left
    ·refine .B ?_;refine J.xs Y Y Y Y Y Y Y (by omega) hbi ?_;refine .B ?_;cases h5:decide ((b.toNat:Int)<48)
     ·refine .B ?_;refine J.xs Y Y Y Y Y Y Y (by omega) hbi ?_;refine .B ?_;cases h6:decide ((b.toNat:Int) > 57)
      ·refine .B ?_;refine T.cf Y ?_;refine .B ?_;rw[hw];exact T.K (ih1 (by rw[hbd,hlt,h1,h3,h4,h5,h6];rfl))
      ·refine .B ?_;refine T.ct Y ?_;refine .B ?_;rw[hno (by rw[hbd,hlt,h1,h3,h4,h5,h6];rfl)];exact r1
     ·refine .B ?_;refine T.ct Y ?_;refine .B ?_;rw[hno (by rw[hbd,hlt,h1,h3,h4,h5];rfl)];exact r1
    ·refine .B ?_;refine T.cf Y ?_;refine .B ?_;rw[hw];exact T.K (ih1 (by rw[hbd,hlt,h1,h3,h4];rfl))
   ·refine .B ?_;refine T.ct Y ?_;refine .B ?_;rw[hno (by rw[hbd,hlt,h1,h3];rfl)];exact r1
  ·refine .B ?_;refine J.xs Y Y Y Y Y Y Y (by omega) hbi ?_;refine .B ?_;cases h2:decide ((b.toNat:Int)<=122)
   ·refine .B ?_;cases h3:decide ((i:Int)=0)
    ·refine .B ?_;refine J.xs Y Y Y Y Y Y Y (by omega) hbi ?_;refine .B ?_;cases h4:decide ((b.toNat:Int)≠95);rotate_left
     ·refine .B ?_;refine J.xs Y Y Y Y Y Y Y (by omega) hbi ?_;refine .B ?_;cases h5:decide ((b.toNat:Int)<48)
      ·refine .B ?_;refine J.xs Y Y Y Y Y Y Y (by omega) hbi ?_;refine .B ?_;cases h6:decide ((b.toNat:Int) > 57)
       ·refine .B ?_;refine T.cf Y ?_;refine .B ?_;rw[hw];exact T.K (ih1 (by rw[hbd,hlt,h1,h2,h3,h4,h5,h6];rfl))
       ·refine .B ?_;refine T.ct Y ?_;refine .B ?_;rw[hno (by rw[hbd,hlt,h1,h2,h3,h4,h5,h6];rfl)];exact r1
      ·refine .B ?_;refine T.ct Y ?_;refine .B ?_;rw[hno (by rw[hbd,hlt,h1,h2,h3,h4,h5];rfl)];exact r1
     ·refine .B ?_;refine T.cf Y ?_;refine .B ?_;rw[hw];exact T.K (ih1 (by rw[hbd,hlt,h1,h2,h3,h4];rfl))
    ·refine .B ?_;refine T.ct Y ?_;refine .B ?_;rw[hno (by rw[hbd,hlt,h1,h2,h3];rfl)];exact r1
   ·refine .B ?_;refine T.cf Y ?_;refine .B ?_;rw[hw];exact T.K (ih1 (by rw[hbd,hlt,h1,h2];rfl))
 ·have h1:i=s.size:=(by omega);subst h1;have hall:((List.range s.size).all λi=> !badI i (byteI s i))=true:=by
   rw[DI];intro j hj;rw[hb j (DM.1 hj)];rfl
  have hR2:R=(!(s.toList==(⟨#[]⟩:ByteArray).toList)&&decide ((s.size:Int)<=16)):=by
   rw[<-hR];unfold fQ;rw[hall];rfl
  refine .B ?_;cases h2:(s.toList==(⟨#[]⟩:ByteArray).toList)
  ·rw[h2]at hR2;refine .B ?_;rw[hR2];exact r1
  ·rw[h2]at hR2;refine .B ?_;rw[hR2];exact r1
set_option maxRecDepth 4000
def rng (lo hi:Int):List Int:=(List.range (hi+1-lo).toNat).map (λk:Nat=>lo+k)
def vals (d:List (Int×Int)):List Int:=d.flatMap λr=>rng r.1 r.2
def InB (d:List (Int×Int)):Prop:= ∀r∈d,-1048576<=r.1/\r.1<=1048576/\-1048576<=r.2/\r.2<=1048576
theorem qe {l:List Int}{v:Int}:l.map cI++[(PV.int .i64 v).cells]=(l++[v]).map cI:=by simp[cI,PV.cells]
theorem zR (lo:Int)(k:Nat):(List.range (k+1)).map (λk:Nat=>lo+k)=(List.range k).map (λk:Nat=>lo+k)++[lo+k]:=by simp[G0]
theorem mM (d:List (Int×Int))(hb:InB d)(hl:(vals d).length*8<=140737488355328)(hd:d.length*16<=140737488355328):Spec Tryz.prog 47 false [dm d] [.own 3 1 ((vals d).map cI)]:=by
 refine Spec.body Tryz.func47 Y Y Y λw0 Z0=> ?_;refine .B ?_;refine .Q ?_;refine T.K (T.list d (λn pre post=>⟨[(0,.val false (dm d)),(3,.ref 0),(4,.val true (.int .i64 n))],[(0,some (.sl 3 1 true ((vals pre).map cI)))],1⟩) (λ_ _ h=>h) ?_ ?_)
 ·rintro n pre x post h hn ih;have hx:=hb x (by rw[h];simp);have hd1:pre.length<d.length:=(by rw[h];simp);have hlen:(vals pre).length+(rng x.1 x.2).length<=(vals d).length:=(by rw[h];simp[vals]);refine .B ?_;refine T.ct2 Y (ce h hn) ?_;refine .B ?_;refine .F (r:=cR x) (aS h hn) ?_;refine T.K (T.ind (λ(s:Int×List Int)=>⟨[(0,.val false (dm d)),(4,.val true (.int .i64 n)),(5,.val true (.int .i64 s.1)),(3,.ref 0)],[(0,some (.sl 3 1 true (s.2.map cI)))],1⟩)
   (λs=> ∃k,k<=(x.2+1-x.1).toNat/\s.1=x.1+k/\s.2=vals pre++(List.range k).map (λk:Nat=>x.1+k)) (λs=>(x.2+1-s.1).toNat) (x.1,vals pre) ⟨0,by simp⟩ (λ_ _ h=>h) ?_)
  rintro⟨v,acc⟩ ⟨k,hk,hv,hacc⟩ ih2;simp only at hv hacc ih2;refine .B ?_;refine .F (r:=cR x) (aS h hn) ?_;refine T.cd Y (λh1=> ?_) (λh1=> ?_)
  ·simp only at h1;refine .B ?_;have hk2:k+1<=(x.2+1-x.1).toNat:=(by omega);have hlr:(rng x.1 x.2).length=(x.2+1-x.1).toNat:=(by simp[rng]);refine .Z ?_;refine J.a Y Y Y Y Y Y Y Y Y Y Y Y Y Y Y Y Y (c9 Y) (by show(List.length _+1)*8<=_;simp[hacc];omega) ?_;refine .B ?_;rw[af (by omega) (by omega),qe];exact T.K (ih2 (v+1,acc++[v]) ⟨k+1,hk2,by simp only;omega,by simp only;rw[zR,<-E4,<-hacc,<-hv]⟩ (by simp only;omega))
  ·simp only at h1;refine .B ?_;rw[ak (cg h hn) (by omega)];have hk2:k=(x.2+1-x.1).toNat:=(by omega);have e:vals (pre++[x])=acc:=(by rw[hacc,hk2];simp[vals,rng]);rw[e]at ih;exact T.K ih
 ·refine .B ?_;refine T.cf2 Y bA ?_;refine .B ?_;exact⟨_,.o Y Y Y (λ_=> .inl Y) (by simp) .nil⟩
def bg (v:Int)(s:List Int×Bool)(x:Int):List Int×Bool:=if s.2=false/\v<x then(s.1++[v]++[x],true)else(s.1++[x],s.2)
def mB (v:Int)(s:List Int×Bool):List Int:=if s.2 then s.1 else s.1++[v]
def BF (v:Int)(out:List Int):List Int:=mB v (out.foldl (bg v) ([],decide (v∈out)))
theorem fv (v:Int): ∀(out acc:List Int),out.foldl (bg v) (acc,true)=(acc++out,true)
 | [],acc=>by simp
 |x::out,acc=>by simp[bg,fv v out]
theorem jW (v:Int): ∀(out acc:List Int),mB v (out.foldl (bg v) (acc,false))=acc++mA v out
 | [],acc=>by simp[mA,mB]
 |x::out,acc=>by
  simp only[Dn,mA];by_cases h:v<x
  ·rw[D4 h];have:bg v (acc,false) x=(acc++[v]++[x],true):=(by simp[bg,h]);rw[this,fv];simp[mB]
  ·rw[D2 h];have:bg v (acc,false) x=(acc++[x],false):=(by simp[bg,h]);rw[this,jW v out (acc++[x])];simp
theorem BE (v:Int)(out:List Int):BF v out=insU v out:=by
 unfold BF insU;by_cases h:v∈out;·simp[h,fv,mB]
 ·have:=jW v out [];simpa[h]using this
theorem jd (v:Int): ∀(out:List Int) (s:List Int×Bool),(out.foldl (bg v) s).1.length<=s.1.length+out.length+1/\((out.foldl (bg v) s).2=false->(out.foldl (bg v) s).1.length=s.1.length+out.length)
 | [],s=>by simp
 |x::out,s=>by
  have h:=jd v out (bg v s x);simp only[Dn,Dp];by_cases hc:s.2=false/\v<x
  ·have e:bg v s x=(s.1++[v]++[x],true):=(by simp[bg,hc]);rw[e,fv];simp;omega
  ·have e:bg v s x=(s.1++[x],s.2):=(by simp only[bg,D2 hc]);rw[e]at h⊢;simp at h;constructor;·omega
   ·intro h2;have:=h.2 h2;omega
theorem i4 (l:List Int)(hl:l.length*8<=140737488355328):Spec Tryz.prog 52 false [ao l] [.own 3 1 ((aW l).map cI)]:=by
 refine Spec.body Tryz.func52 Y Y Y λw0 Z0=> ?_;refine .B ?_;refine .Q ?_;refine T.K (T.list l (λn pre post=>⟨[(0,.val false (ao l)),(3,.ref 0),(4,.val true (.int .i64 n))],[(0,some (.sl 3 1 true ((aW pre).map cI)))],1⟩) (λ_ _ h=>h) ?_ ?_)
 ·rintro n pre x post h hn ih;have hlen:=fk pre;have hlt:=cg h hn;have hsu:aW (pre++[x])=BF x (aW pre):=(by rw[BE];simp[aW,Gz]);generalize hout:aW pre=out at*;refine .B ?_;refine T.ct2 Y (ce h hn) ?_;refine .B ?_;refine .Q ?_;refine .F (r:=cI x) (aS h hn) ?_;refine .D (lI out x (by omega)) ?_;refine T.K (T.list out (λk pre2 post2=>⟨[(0,.val false (ao l)),(3,.ref 0),(4,.val true (.int .i64 n)),(5,.ref 1),(6,.val true (.bool (pre2.foldl (bg x) ([],decide (x∈out))).2)),(7,.val true (.int .i64 k))],
   [(0,some (.sl 3 1 true (out.map cI))),(1,some (.sl 3 1 true ((pre2.foldl (bg x) ([],decide (x∈out))).1.map cI)))],2⟩) (λ_ _ h=>h) ?_ ?_)
  ·rintro k pre2 y post2 h2 hn2 ih2;have hlt2:=cg h2 hn2;rw[Gz,Dn,HG]at ih2;have hsl:=jd x pre2 ([],decide (x∈out));generalize hs:pre2.foldl (bg x) ([],decide (x∈out))=s at*;obtain⟨nxt,put⟩:=s;simp only[Ee]at hsl;refine .B ?_;refine T.ct2 Y (ce h2 hn2) ?_;refine .B ?_;cases put
   ·have h9:nxt.length=0+pre2.length:=hsl.2 Y;refine .B ?_;refine .F (r:=cI x) (aS h hn) ?_;refine J.io Y Y Y Y Y Y Y Y Y (by omega) (by simp;omega) Y ?_;refine J.lo Y Y Y Y Y Y (r:=cI y) (aS h2 hn2) Y ?_;refine .B ?_;refine T.cd Y (λhxy=> ?_) (λhxy=> ?_)
    ·have e:bg x (nxt,false) y=(nxt++[x]++[y],true):=(by simp[bg,hxy]);rw[e]at ih2;refine .B ?_;refine .F (r:=cI x) (aS h hn) ?_;refine .Z ?_;refine J.a Y Y Y Y Y Y Y Y Y Y Y Y Y Y Y Y Y (c9 Y) (by show(List.length _+1)*8<=_;simp;omega) ?_;refine .B ?_;refine J.io Y Y Y Y Y Y Y Y Y (by omega) (by simp;omega) Y ?_;refine J.lo Y Y Y Y Y Y (r:=cI y) (aS h2 hn2) Y ?_;refine .B ?_;refine .Z ?_;refine J.a Y Y Y Y Y Y Y Y Y Y Y Y Y Y Y Y Y (c9 Y) (by show(List.length _+1)*8<=_;simp;omega) ?_;refine .B ?_;rw[ak hlt2 (by omega)];rw[qe,qe];exact T.K ih2
    ·have e:bg x (nxt,false) y=(nxt++[y],false):=(by simp[bg,hxy]);rw[e]at ih2;refine .B ?_;refine J.io Y Y Y Y Y Y Y Y Y (by omega) (by simp;omega) Y ?_;refine J.lo Y Y Y Y Y Y (r:=cI y) (aS h2 hn2) Y ?_;refine .B ?_;refine .Z ?_;refine J.a Y Y Y Y Y Y Y Y Y Y Y Y Y Y Y Y Y (c9 Y) (by show(List.length _+1)*8<=_;simp;omega) ?_;refine .B ?_;rw[ak hlt2 (by omega),qe];exact T.K ih2
   ·have e:bg x (nxt,true) y=(nxt++[y],true):=(by simp[bg]);rw[e]at ih2;refine .B ?_;refine T.cf Y ?_;refine .B ?_;refine J.io Y Y Y Y Y Y Y Y Y (by omega) (by simp;omega) Y ?_;refine J.lo Y Y Y Y Y Y (r:=cI y) (aS h2 hn2) Y ?_;refine .B ?_;refine .Z ?_;refine J.a Y Y Y Y Y Y Y Y Y Y Y Y Y Y Y Y Y (c9 Y) (by show(List.length _+1)*8<=_;simp;omega) ?_;refine .B ?_;rw[ak hlt2 (by omega),qe];exact T.K ih2
  ·have hsl:=jd x out ([],decide (x∈out));have hfin:BF x out=mB x (out.foldl (bg x) ([],decide (x∈out))):=rfl;rw[hsu,hfin]at ih;generalize hs:out.foldl (bg x) ([],decide (x∈out))=s at*;obtain⟨nxt,put⟩:=s;simp only[Ee]at hsl;refine .B ?_;refine T.cf2 Y bA ?_;refine .B ?_;cases put
   ·have h9:nxt.length=0+out.length:=hsl.2 Y;refine .B ?_;refine T.ct Y ?_;refine .B ?_;refine .F (r:=cI x) (aS h hn) ?_;refine .Z ?_;refine J.a Y Y Y Y Y Y Y Y Y Y Y Y Y Y Y Y Y (c9 Y) (by show(List.length _+1)*8<=_;simp;omega) ?_;refine .B ?_;rw[ak hlt (by omega),qe];exact T.K ih
   ·refine .B ?_;refine T.cf Y ?_;refine .B ?_;rw[ak hlt (by omega)];exact T.K ih
 ·refine .B ?_;refine T.cf2 Y bA ?_;refine .B ?_;exact⟨_,.o Y Y Y (λ_=> .inl Y) (by simp) .nil⟩
def dO (lo:Int):Int->List Int->List (Int×Int)
 |x,[]=>[(lo,x)]
 |x,y::ys=>if y=x+1 then dO lo y ys else(lo,x)::dO y y ys
def cX:List Int->List (Int×Int)
 | []=>[]
 |x::xs=>dO x x xs
def DomB (d:List (Int×Int)):Prop:=InB d/\(vals d).length*16<=140737488355328/\d.length*16<=140737488355328
theorem uB (v x:Int): ∀l,x∈insU v l↔x=v∨x∈l:=by
 have key: ∀l,x∈mA v l↔x=v∨x∈l:=by
  intro l
  induction l with
  |nil=>simp[mA]
  |cons y l ih=>simp only[mA];split<;>simp[ih];grind
 intro l;unfold insU;split
 ·rename_i h;constructor;·exact .inr
  ·rintro(rfl|h2);·exact h
   ·exact h2
 ·exact key l
theorem bK (x:Int)(l:List Int):x∈aW l↔x∈l:=by
 have key: ∀(l out:List Int),x∈l.foldl (λout v=>insU v out) out↔x∈out∨x∈l:=by
  intro l
  induction l with
  |nil=>simp
  |cons v l ih=>intro out;rw[Dn,ih,uB];simp;grind
 simpa[aW]using key l []
def pw (d:List (Int×Int)):Int×Int×Bool:=match vals d with
 | []=>(0,0,false)
 |x::l=>(x,(x::l).getLast (by simp),true)
theorem l0 {α:Type}{a b:List α}{i:Nat}(h:a.take i=b.take i)(ha:i<a.length)(hb:i<b.length)(he:a[i]=b[i]):a.take (i+1)=b.take (i+1):=by
 rw[DB ha,DB hb,h,he]
theorem mi (a b:List Int)(hl:a.length*8<=140737488355328):Spec Tryz.prog 20 false [ao a,ao b] [.val (.bool (decide (a=b)))]:=by
 refine Spec.body Tryz.func20 Y Y Y λw0 Z0=> ?_;refine .B ?_;refine T.cd Y (λh=> ?_) (λh=> ?_)
 ·refine .B ?_;exact⟨_,.v Y Y (by simp only[D9]at h;rw[DC];intro e;subst e;exact h Y) (λ_=>rfl) .nil⟩
 ·have hlen:a.length=b.length:=(by simp only[D9,ne_eq,Classical.not_not]at h;omega);refine .B ?_;refine T.K (T.ind (λi:Nat=>⟨[(0,.val false (ao a)),(1,.val false (ao b)),(5,.val true (.int .i64 i))],[],0⟩) (λi=>i<=a.length/\a.take i=b.take i) (λi=>a.length-i) 0 (by simp) (λ_ _ h=>h) ?_);rintro i ⟨hi,ht⟩ ih;refine .B ?_;refine T.cd Y (λh1=> ?_) (λh1=> ?_)
  ·simp at h1;refine .B ?_;refine .F (r:=cI a[i]) (aO h1) ?_;refine .F (r:=cI b[i]) (aO (by omega)) ?_;refine T.cd Y (λh2=> ?_) (λh2=> ?_)
   ·refine .B ?_;exact⟨_,.v Y Y (by rw[DC];intro e;subst e;exact h2 Y) (λ_=>rfl) .nil⟩
   ·refine .B ?_;rw[ak h1 (by omega)];exact T.K (ih (i+1) ⟨by omega,l0 ht h1 (by omega) (Classical.not_not.1 h2)⟩ (by omega))
  ·simp at h1;refine .B ?_;refine⟨_,.v Y Y ?_ (λ_=>rfl) .nil⟩;rw[DS (by omega),DS (by omega)]at ht;simp[ht]
end Go.Proofs.YtopcjbahjjhdmaaGreat
namespace Go.Proofs.YtopcjbahjjhdmaaGreat
open Go Go.RowKit Go.Shelf
set_option linter.unusedVariables false
set_option linter.unusedSimpArgs false
attribute [local go_sem] Oper.semAt_some
def KpE (n₀:Nat)(W W':World):Prop:=Below n₀ W W'/\∀(b:Nat) (c:Array Value) (e:TypeId) (fr:Nat×Nat),W.heap[b]? =some (.cells c e fr)->e≠3->e≠24->W'.heap[b]? =some (.cells c e fr)
theorem KpE.refl (n₀:Nat)(W:World):KpE n₀ W W:=⟨Below.refl _ _,λ_ _ _ _ h _ _=>h⟩
theorem KpE.trans {n₀:Nat}{A B C:World}(h:KpE n₀ A B)(k:KpE n₀ B C):KpE n₀ A C:=⟨h.1.trans k.1,λb c e fr hb h1 h2=>k.2 b c e fr (h.2 b c e fr hb h1 h2) h1 h2⟩
def vp (P:Program)(g:FuncId)(lb:Array Value)(n₀:Nat)(w:World)(xs:List Int):Prop:= ∀(F:Fence) (n:Nat),F.fn g->F.round=none->1<=n->SeqStopsK F n P g lb (λx:Int=> #[Value.int .i64 x]) (KpE n₀) (λys=>ys=xs) (λ_=>True) xs.length w
theorem zT {w:World}{Z:Nat->Prop}{v:Value}{l:List Int}(h:Rep w Z v (ao l)): ∃(p:Option Addr) (cap:Nat),v= .slice p l.length cap/\(l≠[]->∃b off,p=some ⟨b,off,none⟩/\b<w.heap.size/\∀j (hj:j<l.length),w.cell? ⟨b,off+j,none⟩=some (.int .i64 l[j])):=by
 unfold ao at h;generalize hp:PV.sl (l.map cI)=p at h;cases h with
 |nilsl=>
  have:l=[]:=(by simpa using hp);subst this;exact⟨none,0,rfl,λh=>DU Y h⟩
 |slE a cap hc=>
  have:l=[]:=(by simpa using hp);subst this;exact⟨some a,cap,rfl,λh=>DU Y h⟩
 |sl b off cap sz rows xs hz hb h1 h2 h3 h4 h5 h6=>
  have hp:l.map cI=rows:=(by simpa using hp);subst hp;refine⟨_,cap,by rw[D9],λ_=>⟨b,off,rfl,hb,λj hj=> ?_⟩⟩;have e:(l.map cI).flatten=l.map (PV.int .i64):=re _ l;rw[e]at h6;obtain⟨v,hv,hr⟩:=h6.get (i:=j) (b:= .int .i64 l[j]) (by simp[hj]);have:=(h3 j v hv).1;rw[this];cases hr;rfl
 |_=>cases hp
set_option maxRecDepth 100000 in
set_option maxHeartbeats 2000000 in
theorem vt (F:Fence)(n:Nat)(h7:F.fn 240)(hro:F.round=none)(hn:1<=n)(l Bs o n₀:Nat)(p:Option Addr)(cap:Nat)(zs:List Int)(hreach:zs.length*8<=140737488351232)(J Jx:List Int->World->Prop)
  (hY: ∀pre x W,J pre W->pre.length<zs.length->YieldAt F (n-1) Tryz.prog l #[.int .i64 x] W λe W'=>
   (e= .returned (.bool true)/\J (pre++[x]) W'/\KpE n₀ W W')∨(e= .returned (.bool false)/\Jx (pre++[x]) W'))
  (W:World) (hBs:W.cell? ⟨Bs,o,none⟩=some (.slice p zs.length cap)) (hc:zs≠[]->∃b off,p=some ⟨b,off,none⟩/\b<n₀/\∀j (hj:j<zs.length),W.cell? ⟨b,off+j,none⟩=some (.int .i64 zs[j])) (h0:J [] W):
  CallsIn F n Tryz.prog 240 #[.func (.yield l) #[] #[],.pointer (some ⟨Bs,o,none⟩)] W λe W'=>(∃v,e= .returned v)/\((∃ys,ys=zs/\J ys W')∨(∃pre,True/\Jx pre W')):=by
 refine callsIn_of_wp Tryz.func240 Y h7 ?_ hro;simp only[Tryz.ntmps240,G5,Dp,Ee,Nat.reduceAdd,Nat.reduceSub,GA,GB,GW,GL,Ea,Ei]
 gi_wp2
 gi_loopw [7] (λi wr=> ∃k:Nat,k<=zs.length/\i= .int .i64 k/\J (zs.take k) wr/\KpE n₀ W wr)
  (λi _=>zs.length-(intOf i).toNat)
 case atStart=>exact⟨0,Dz _,rfl,h0,KpE.refl _ _⟩
 case round=>
  obtain⟨k,hk,rfl,hJs,hnx⟩:=hrel;by_cases hlt:k<zs.length
  ·obtain⟨b,off,rfl,hb,hc⟩:=hc (λe=>by subst e;simp at hlt);have hcx:wr.cell? ⟨b,off+k,none⟩=some (.int .i64 zs[k]):=(hnx.1.cell (p:=⟨b,off+k,none⟩) hb).trans (hc k hlt);obtain⟨fn,tmps,assign,body,hy,hR⟩:=hY _ zs[k] wr hJs (by simp;omega)
   gi_wp2
   refine hR.mono ?_;rintro e W3 (⟨rfl,hJ3,hk3⟩|⟨rfl,hJx3⟩)
   ·gi_wp2
    go_roundw
    case rel=>exact⟨k+1,by omega,by simp,by rw[DB hlt];exact hJ3,hnx.trans hk3⟩
    case measure=>simp[intOf];omega
   ·gi_wp2
    refine bodyPost_ret (results_none Y _ _ _) Y ?_;exact⟨⟨_,rfl⟩,.inr ⟨_,trivial,hJx3⟩⟩
  ·obtain rfl:k=zs.length:=(by omega);rw[E8]at hJs
   gi_wp2
   go_end0
   exact⟨⟨_,rfl⟩,.inl ⟨_,rfl,hJs⟩⟩
theorem Cb {w:World}{Z:Nat->Prop}{v:Value}{d:List (Int×Int)}(h:Rep w Z v (dm d)): ∃(p:Option Addr) (cap:Nat),v= .slice p d.length cap/\(d≠[]->∃b off,p=some ⟨b,off,none⟩/\b<w.heap.size/\∀j (hj:j<d.length),w.cell? ⟨b,off+j*2,none⟩=some (.int .i64 d[j].1)/\w.cell? ⟨b,off+j*2+1,none⟩=some (.int .i64 d[j].2)):=by
 unfold dm at h;generalize hp:PV.sl (d.map cR)=p at h;cases h with
 |nilsl=>
  have:d=[]:=(by simpa using hp);subst this;exact⟨none,0,rfl,λh=>DU Y h⟩
 |slE a cap hc=>
  have:d=[]:=(by simpa using hp);subst this;exact⟨some a,cap,rfl,λh=>DU Y h⟩
 |sl b off cap sz rows xs hz hb h1 h2 h3 h4 h5 h6=>
  have hp:d.map cR=rows:=(by simpa using hp);subst hp;refine⟨_,cap,by rw[D9],λhne=>⟨b,off,rfl,hb,λj hj=> ?_⟩⟩;have e: ∀i,i<2->(d.map cR).flatten[j*2+i]? =(cR d[j])[i]? :=λi hi=>uO (sz:=2) (λr hr=>by obtain⟨x,_,rfl⟩:=DF.1 hr;rfl) (by simp[hj]) i hi;have one: ∀i (x:Int),i<2->(cR d[j])[i]? =some (.int .i64 x)->w.cell? ⟨b,off+(j*2+i),none⟩=some (.int .i64 x):=by
   intro i x hi hx;obtain⟨v,hv,hr⟩:=h6.get ((e i hi).trans hx);rw[(h3 _ v hv).1];cases hr;rfl
  exact⟨one 0 _ (by decide) Y,by have:=one 1 _ (by decide) Y;rwa[<-En]at this⟩
 |_=>cases hp
set_option maxRecDepth 100000 in
set_option maxHeartbeats 4000000 in
theorem BV (F:Fence)(n:Nat)(h7:F.fn 144)(hro:F.round=none)(hn:1<=n)(l Bs o n₀:Nat)(p:Option Addr)(cap:Nat)(d:List (Int×Int))(hin:InB d)(hreach:d.length*16<=140737488351232)(J Jx:List Int->World->Prop)
  (hY: ∀pre x W,J pre W->pre.length<((vals d).take 4097).length->YieldAt F (n-1) Tryz.prog l #[.int .i64 x] W λe W'=>
   (e= .returned (.bool true)/\J (pre++[x]) W'/\KpE n₀ W W')∨(e= .returned (.bool false)/\Jx (pre++[x]) W'))
  (W:World) (hW:n₀<=W.heap.size) (hJ:AbidesFrom W.heap.size J) (hBs:W.cell? ⟨Bs,o,none⟩=some (.slice p d.length cap)) (hc:d≠[]->∃b off,p=some ⟨b,off,none⟩/\b<n₀/\∀j (hj:j<d.length),W.cell? ⟨b,off+j*2,none⟩=some (.int .i64 d[j].1)/\W.cell? ⟨b,off+j*2+1,none⟩=some (.int .i64 d[j].2)) (h0:J [] W):
  CallsIn F n Tryz.prog 144 #[.func (.yield l) #[] #[],.pointer (some ⟨Bs,o,none⟩)] W λe W'=>(∃v,e= .returned v)/\((∃ys,ys=(vals d).take 4097/\J ys W')∨(∃pre,True/\Jx pre W')):=by
 refine callsIn_of_wp Tryz.func144 Y h7 ?_ hro;simp only[Tryz.ntmps144,G5,Dp,Ee,Nat.reduceAdd,Nat.reduceSub,GA,GB,GW,GL,Ea,Ei]
 gi_wp2
 gi_loopw [3,9] (λc i wr=> ∃k:Nat,k<=d.length/\i= .int .i64 k/\c= .int .i64 ((vals (d.take k)).take 4097).length/\J ((vals (d.take k)).take 4097) wr/\KpE n₀ W wr)
  (λ_ i _=>d.length-(intOf i).toNat)
 case atStart=>exact⟨0,Dz _,rfl,rfl,h0,KpE.refl _ _⟩
 case round=>
  obtain⟨k,hk,rfl,rfl,hJs,hnx⟩:=hrel;by_cases hlt:k<d.length
  ·obtain⟨b,off,rfl,hb,hc⟩:=hc (λe=>by subst e;simp at hlt);have hc1:wr.cell? ⟨b,off+k*2,none⟩=some (.int .i64 d[k].1):=(hnx.1.cell (p:=⟨b,off+k*2,none⟩) hb).trans (hc k hlt).1;have hc2:wr.cell? ⟨b,off+k*2+1,none⟩=some (.int .i64 d[k].2):=(hnx.1.cell (p:=⟨b,off+k*2+1,none⟩) hb).trans (hc k hlt).2
   gi_wp2
   have hA:vals (d.take (k+1))=vals (d.take k)++rng d[k].1 d[k].2:=by
    rw[DB hlt,vals,List.flatMap_append];simp[vals]
   have hall: ∃r,vals d=vals (d.take k)++rng d[k].1 d[k].2++r:=by
    refine⟨vals (d.drop (k+1)),?_⟩;rw[<-hA]
    conv=>lhs;rw[<-FP (k+1) d]
    rw[vals,List.flatMap_append];rfl
   have hbd:=hin d[k] (D8 hlt);have hrl:(rng d[k].1 d[k].2).length=(d[k].2+1-d[k].1).toNat:=(by simp[rng]);have hrg: ∀j (h:j<(rng d[k].1 d[k].2).length),(rng d[k].1 d[k].2)[j]=d[k].1+j:=λj h=>(by simp[rng]);generalize vals (d.take k)=A at*;generalize d[k].1=lo at*;generalize d[k].2=hi at*;generalize hR:rng lo hi=R at*;have hX:(wr.alloc (.cells #[.int .i64 lo,.int .i64 hi] 53)).heap[wr.heap.size]? =some (.cells #[.int .i64 lo,.int .i64 hi] 53 (0,0)):=World.alloc_heap_new wr _;have hJ1:J (A.take 4097) (wr.alloc (.cells #[.int .i64 lo,.int .i64 hi] 53)):=hJ _ wr _ none hJs (World.grownBy_alloc wr _ none) (λr e=>by cases e);have hK1:KpE n₀ W (wr.alloc (.cells #[.int .i64 lo,.int .i64 hi] 53)):=⟨hnx.1.alloc (Du hW hnx.1.size) _,λb c e fr hb h1 h2=>(Below.heap_alloc _ _ b (DR.1 (hnx.2 b c e fr hb h1 h2)).1).trans (hnx.2 b c e fr hb h1 h2)⟩;generalize wr.alloc (.cells #[.int .i64 lo,.int .i64 hi] 53)=W1 at*;generalize hXe:wr.heap.size=X at*
   gi_loopw [3,6] (λc v wq=> ∃j:Nat,j<=R.length/\v= .int .i64 (lo+j)/\c= .int .i64 ((A++R.take j).take 4097).length/\J ((A++R.take j).take 4097) wq/\KpE n₀ W wq/\wq.heap[X]? =some (.cells #[.int .i64 lo,.int .i64 hi] 53 (0,0))/\(j=0∨(A++R.take j).length<=4097))
    (λc v _=>(hi+1-intOf v).toNat)
   case atStart=>exact⟨0,Dz _,by simp,by simp,by simpa using hJ1,hK1,hX,.inl Y⟩
   case round=>
    obtain⟨j,hj,rfl,rfl,hJ2,hK2,hX2,hj4⟩:=hrel;have hx2:wr.cell? ⟨X,1,none⟩=some (Value.int .i64 hi):=(by simp[World.cell?,hX2]);by_cases hgo:j<R.length/\((A++R.take j).take 4097).length<=4096
    ·obtain⟨hjl,hle⟩:=hgo;have hle2:(A++R.take j).length<=4096:=(by rw[Dx]at hle;omega);have e1:(A++R.take j).take 4097=A++R.take j:=DS (by omega);have e2:(A++R.take (j+1)).take 4097=A++R.take j++[lo+j]:=by
      rw[DB hjl,hrg j hjl,<-E4,DS];rw[DX];simp only[EW];omega
     obtain⟨r,hr⟩:=hall;rw[e1]at hJ2⊢;have hY2:=hY _ (lo+j) wr hJ2 (by
      rw[hr];simp only[Dx,DX]at hle2⊢;omega)
     have hlj:lo+j<=hi:=(by omega);have e3:(A++R.take (j+1)).take 4097=(A++R.take (j+1)):=(by rw[e2,DB hjl,hrg j hjl,<-E4]);generalize hP:A++R.take j=pre at*;obtain⟨cn,hcn⟩: ∃cn,pre.length=cn:=⟨_,rfl⟩;rw[hcn]at hle2⊢;obtain⟨fn,tmps,assign,body,hy,hR2⟩:=hY2
     gi_wp2
     refine hR2.mono ?_;rintro e W3 (⟨rfl,hJ3,hk3⟩|⟨rfl,hJx3⟩)
     ·gi_wp2
      go_roundw
      case rel=>exact⟨j+1,by omega,by simp;omega,by rw[e2,DX,hcn];simp,by rw[e2];exact hJ3,hK2.trans hk3,hk3.2 _ _ _ _ hX2 (by decide) (by decide),.inr (by rw[<-e3,Dx];omega)⟩
      case measure=>simp[intOf];omega
     ·gi_wp2
      refine bodyPost_ret (results_none Y _ _ _) Y ?_;exact⟨⟨_,rfl⟩,.inr ⟨_,trivial,hJx3⟩⟩
    ·have hend:(A++R.take j).take 4097=(A++R).take 4097:=by
      by_cases h1:j<R.length
      ·have h2:4097<=(A++R.take j).length:=by
        have h3: ¬((A++R.take j).take 4097).length<=4096:=λh=>hgo ⟨h1,h⟩;rw[Dx]at h3;omega
       have h4:A++R=A++R.take j++R.drop j:=(by rw[E4,FP]);rw[h4,FW h2]
      ·rw[show R.take j=R from DS (by omega)]
     have hex: ¬(lo+j<=hi/\(((A++R).take 4097).length:Int)<=4096):=by
      rintro⟨h1,h2⟩;exact hgo ⟨by omega,by rw[hend];omega⟩
     rw[hend]at hJ2⊢;have hA2:((A++R).take 4097).length=((vals (d.take (k+1))).take 4097).length:=(by rw[hA]);generalize hcn:((A++R).take 4097).length=cn at*;rw[<-hA]at hJ2;by_cases h1:lo+j<=hi
     ·have h2: ¬(cn<=4096):=λh2=>hex ⟨h1,by omega⟩;have h3:Hid (¬cn<=4096):=h2;have hA3:Hid (cn=((vals (d.take (k+1))).take 4097).length):=hA2;clear hex h2 hend hA2 hcn
      gi_wp2
      ·have h4: ¬cn<=4096:=h3;omega
      ·have hA2:cn=((vals (d.take (k+1))).take 4097).length:=hA3;exact⟨⟨k+1,by omega,by simp,by rw[hA2],hJ2,hK2⟩,by simp[intOf];omega⟩
     ·gi_wp2
      exact⟨⟨k+1,by omega,by simp,by rw[hA2],hJ2,hK2⟩,by simp[intOf];omega⟩
  ·obtain rfl:k=d.length:=(by omega);rw[E8]at hJs
   gi_wp2
   go_end0
   exact⟨⟨_,rfl⟩,.inl ⟨_,rfl,hJs⟩⟩
theorem pM (Bs o:Nat)(zs:List Int)(hreach:zs.length*8<=140737488351232)(w:World)(u:Value){Z:Nat->Prop}(hu:Rep w Z u (.ptr [ao zs])):vp Tryz.prog 240 #[u] w.heap.size w zs:=by
 intro F n hF hro hn l J Jx W hW hJ _ hY h0;cases hu with
 |ptr b o cells xs hz hb h1 h2 h3=>
  cases h3 with
  | @cons v _ vs _ hv _=>
   obtain⟨p,cap,rfl,hc⟩:=zT hv;have hcell:w.cell? ⟨b,o,none⟩=some (.slice p zs.length cap):=(by have:=(h2 0 _ Y).1;simpa using this);exact vt F n hF hro hn l b o w.heap.size p cap zs hreach J Jx hY W ((hW.cell (p:=⟨b,o,none⟩) hb).trans hcell) (λhne=>by
    obtain⟨b',off,e,hb',hcs⟩:=hc hne;exact⟨b',off,e,hb',λj hj=>(hW.cell (p:=⟨b',off+j,none⟩) hb').trans (hcs j hj)⟩) h0
theorem xf (d:List (Int×Int))(hin:InB d)(hreach:d.length*16<=140737488351232)(w:World)(u:Value){Z:Nat->Prop}(hu:Rep w Z u (.ptr [dm d])):vp Tryz.prog 144 #[u] w.heap.size w ((vals d).take 4097):=by
 intro F n hF hro hn l J Jx W hW hJ _ hY h0;cases hu with
 |ptr b o cells xs hz hb h1 h2 h3=>
  cases h3 with
  | @cons v _ vs _ hv _=>
   obtain⟨p,cap,rfl,hc⟩:=Cb hv;have hcell:w.cell? ⟨b,o,none⟩=some (.slice p d.length cap):=(by have:=(h2 0 _ Y).1;simpa using this);exact BV F n hF hro hn l b o w.heap.size p cap d hin hreach J Jx hY W hW.size hJ ((hW.cell (p:=⟨b,o,none⟩) hb).trans hcell) (λhne=>by
    obtain⟨b',off,e,hb',hcs⟩:=hc hne;exact⟨b',off,e,hb',λj hj=>⟨(hW.cell (p:=⟨b',off+j*2,none⟩) hb').trans (hcs j hj).1,(hW.cell (p:=⟨b',off+j*2+1,none⟩) hb').trans (hcs j hj).2⟩⟩) h0
theorem C4:(Tryz.prog.info? 3).map (λi=>(i.zero,i.size,i.bytes))=some (some (.int .i64 0),1,8):=by kernel_rfl
theorem BB {W w1:World}{n₀ B:Nat}{v v':Value}{k:Nat}{xs:List Value}{tmp:Obj}(hv:Boxed W B 24 v)(hrow:W.ownsRow n₀ 3 1 v k xs)(hgrow:(W.alloc tmp).grownBy w1 v.ownBlock)
  (b:Nat) (c:Array Value) (e:TypeId) (fr:Nat×Nat) (hb:W.heap[b]? =some (.cells c e fr)) (h1:e≠3) (h2:e≠24):(w1.setCell ⟨B,0,none⟩ v').heap[b]? =some (.cells c e fr):=by
 have hlt:=(DR.1 hb).1;have hbB:b≠B:=by
  rintro rfl;have hv:W.heap[b]? =some (.cells #[v] 24 (0,0)):=hv;rw[hv]at hb;cases hb;exact h2 Y
 have ha:(W.alloc tmp).heap[b]? =some (.cells c e fr):=(Below.heap_alloc _ _ b hlt).trans hb;have hg:w1.heap[b]? =some (.cells c e fr):=by
  refine(hgrow.block b (by simp;omega) λeb=> ?_).trans ha;rcases hrow.2 with ⟨rfl,_⟩|⟨g,cap,cur,rfl,_,hgb,_⟩;·cases eb
  ·obtain rfl:b=g:=(by simpa[Value.ownBlock]using eb);rw[hgb]at hb;cases hb;exact h1 Y
 exact((grownBy_setCell' w1 B v').block b (DR.1 hg).1 (λe=>hbB (D3 e))).trans hg
theorem BA {n₀:Nat}(W:World)(l:Nat)(o o':Obj)(hl:n₀<=l)(ho:W.heap[l]? =some o)(h1:o.isCells=false):KpE n₀ W (W.putObj l o'):=by
 refine⟨(Below.refl n₀ W).grown (grownBy_putObj' W l o') (by have:=(DR.1 ho).1;omega) (λk e=>by cases e;exact hl),λb c e fr hb _ _=> ?_⟩;have hne:l≠b:=(by rintro rfl;rw[ho]at hb;cases hb;cases h1);exact(World.putObj_heap_other (Ne.symm hne)).trans hb
set_option maxRecDepth 100000 in
set_option maxHeartbeats 4000000 in
theorem sK (F:Fence)(n:Nat)(hF:F.fn 143)(hro:F.round=none)(hn:3<=n)(g:Nat)(lb:Array Value)(hFg:F.fn g)(eg: ∀args w,(callFunc g args).run Tryz.prog w= .ok (.enter g args) w)(xs:List Int)(hlen:xs.length*8<=140737488355328)(w:World)
  (hs:vp Tryz.prog g lb w.heap.size w xs):
  CallsIn F n Tryz.prog 143 #[.slice none 0 0,.func (.func g) #[] lb] w λe W'=> ∃v,e= .returned v/\W'.ownsRow w.heap.size 3 1 v xs.length (xs.map (Value.int .i64))/\Below w.heap.size w W':=by
 have h1:1<=n:=(by omega);obtain⟨i0,hi,hz0,hz1,hz2⟩:=info_parts C4;refine callsIn_of_wp_marks Tryz.func143 Y hF ?_ hro;simp only[Tryz.ntmps143,G5,Dp,Ee,Nat.reduceAdd,Nat.reduceSub,GA,GB,GW,GL,Ea,Ei]
 gi_wp2
 have bO:=Boxed.new w 24 (.slice none 0 0);have hB0:Below w.heap.size w (w.alloc (.cells #[.slice none 0 0] 24)):=(Below.refl _ w).alloc (DL _) _;have hm:maxLen=9223372036854775807:=rfl;refine wpIn_rangeFunc_ownG hro h1 (gf:=g) (lb:=lb) Y hFg eg (hs F (n-1) hFg hro (by omega)) KpE.trans (λW l o o' hl ho h1 _=>BA W l o o' (by simp at hl;omega) ho h1) hB0 (λ_=>rfl)
  (λ(pre:List Int) W=>(∃v,Boxed W w.heap.size 24 v/\W.ownsRow w.heap.size 3 1 v pre.length (pre.map (Value.int .i64))/\True)/\Below w.heap.size w W)
  (λ_ _ _=>False)
  (OwnFrom.and (Own.from (holdsRow_own w.heap.size w.heap.size 24 3 1 (λpre:List Int=>pre.length) (λpre:List Int=>pre.map (Value.int .i64)) (λ_ _=>True)) _) (ownFrom_below (DL _) (by simp)))
  (λ_ _ _ _ _ hs _ _=>hs)
  ⟨⟨_,bO,World.ownsRow_nil _ _ _ _,trivial⟩,hB0⟩
  (λx=> { tmps:= #[.slice none 0 0,.func (.func g) #[] lb,.pointer (some ⟨w.heap.size,0,none⟩),undef,.slice none 0 0,.int .i64 x,.func (.func g) #[] lb,.int .i64 x,undef,undef,undef,undef,undef],defers:=[] }) ?assign ?body ?done ?stop
 case assign=>
  intro l x W K hK
  gi_wp2
  exact hK
 case body=>
  rintro l pre x W ⟨⟨v,hv,hrow,_⟩,hB⟩ hlt;have hc:=hv.cell
  gi_wp2_with (gi_at_builtin;refine wpListIn_append_own _ Y _ _ 24 Y w.heap.size 3 i0 (.int .i64 0) 1 8 Tryz.underlying24 hi hz0 hz1 hz2 Y (by decide) _ _ _ Y (hrow.alloc _) ⟨W.heap.size,0,none⟩ 1 1 [.int .i64 x] Y Y (cell_one_new _ _ _) (by simp[Value.oneCell']) (by omega) (by omega) (by have:=hB.size;simp;omega) ?_;intro v' w1 hown' hgrow _;obtain⟨g',cap',rfl⟩:=ownsRow_succ hown';obtain⟨hv1,hv2,hr2,hk2,hb2⟩:=hv.appended (by decide) hrow hB.size (DL _) hown' hgrow;have hkp:=BB (v':=Value.slice (some ⟨g',0,none⟩) (pre.length+1) cap') hv hrow hgrow;have hc1:=hv1.cell;have hf1:=hv1.frozen)
  exact⟨hk2.from _,⟨hb2,hkp⟩,⟨_,hv2,by simpa using hr2,trivial⟩,hB.trans hb2⟩
 case done=>
  rintro D ys W hD rfl ⟨⟨v,hv,hrow,_⟩,hB⟩ hK;have hc:=hv.cell
  gi_wp2
  refine⟨by simp,.inl ⟨_,_,rfl,run_takeDeferred hK,?_⟩⟩;exact⟨_,results_tmp Y _ _ _,v,rfl,ownsRow_putObj hrow _ hK Y,hB.trans (belowK_b (w:=w) (DL _) W D _ _ (by simp at hD;omega) hK Y Y)⟩
 case stop=>
  rintro D c pre W _ _ h _;exact h.elim
theorem wZ (F:Fence)(n:Nat)(h8:F.fn 113)(hF:F.fn 143)(hro:F.round=none)(hn:4<=n)(g:Nat)(lb:Array Value)(hFg:F.fn g)(eg: ∀args w,(callFunc g args).run Tryz.prog w= .ok (.enter g args) w)(xs:List Int)(hlen:xs.length*8<=140737488355328)(w:World)
  (hs:vp Tryz.prog g lb w.heap.size w xs):
  CallsIn F n Tryz.prog 113 #[.func (.func g) #[] lb] w λe W'=> ∃v,e= .returned v/\W'.ownsRow w.heap.size 3 1 v xs.length (xs.map (Value.int .i64))/\Below w.heap.size w W':=by
 have h1:1<=n:=(by omega);refine callsIn_of_wp Tryz.func113 Y h8 ?_ hro;simp only[Tryz.ntmps113,G5,Dp,Ee,Nat.reduceAdd,Nat.reduceSub,GA,GB,GW,GL,Ea,Ei]
 gi_wp2_with (gi_at_call 143;refine(sK F (n-1) hF hro (by omega) g lb hFg eg xs hlen _ hs).mono ?_;rintro e w' ⟨v,rfl,hrow,hb⟩)
 go_ret
 exact⟨v,rfl,hrow,hb⟩
end Go.Proofs.YtopcjbahjjhdmaaGreat
namespace Go.Proofs.YtopcjbahjjhdmaaGreat
open Go Go.RowKit
set_option linter.unusedVariables false
set_option linter.unusedSimpArgs false
set_option maxRecDepth 8000
theorem z7 {w w':World}{v:Value}{xs:List Int}{Zx:Nat->Prop}(h:w'.ownsRow w.heap.size 3 1 v xs.length (xs.map (Value.int .i64))):RetRel w w' Zx [v] [.own 3 1 (xs.map cI)]:=by
 have hvb: ∀g,VB v g->w.heap.size<=g:=λg hg=>(h.lt g ((sM h).1 hg)).1;have hsl: ∀Z:Nat->Prop,dy w' Z v 3 1 (xs.map cI):=λZ=>by
  refine⟨xs.map (Value.int .i64),?_,?_,λr hr=>by obtain⟨x,_,rfl⟩:=DF.1 hr;rfl,λr hr p hp=>by obtain⟨x,_,rfl⟩:=DF.1 hr;simp[cI]at hp;rw[hp];rfl⟩
  ·rw[D9];refine⟨h.1,?_⟩;rcases h.2 with h2|⟨g,cap,cur,e,_,r⟩;·exact .inl h2
   ·exact .inr ⟨g,cap,cur,e,Dz _,r⟩
  ·have e:(xs.map cI).flatten=xs.map (PV.int .i64):=re _ xs;rw[e];clear e h hvb
   induction xs with
   |nil=>exact .nil
   |cons x xs ih=>exact .cons (.int _ _) ih
 refine⟨.cons (hsl _) .nil,λu g hu hg=> ?_,λi j u u' g hi hj _ _=> ?_⟩
 ·have:u=v:=(by simpa[RV.vals]using hu);exact hvb g (this▸hg)
 ·simp only[RV.vals]at hi hj;cases i<;>cases j<;>simp_all
theorem lR {g:FuncId}{caps:List PV}{xs:List Int}(eg: ∀args w,(callFunc g args).run Tryz.prog w= .ok (.enter g args) w)(hg: ∀(w:World) (Z:Nat->Prop) (us:List Value),L2 (Rep w Z) us caps->vp Tryz.prog g us.toArray w.heap.size w xs)(hl:xs.length*8<=140737488355328):
  Spec Tryz.prog 113 false [.fn (.func g) [] caps] [.own 3 1 (xs.map cI)]:=by
 refine⟨⟨_,Tryz.func113,rfl,rfl⟩,λw Z vs hvs=> ?_⟩;cases hvs with
 |cons h0 h1=>
  cases h1;cases h0 with
  |fn f fs us fst cps h2 h3=>
   cases h2;refine((wZ Fence.wide 9 trivial trivial Y (by decide) g us.toArray trivial eg xs hl w (hg w Z us h3)).calls room_wide).mono ?_;rintro e w' ⟨v,rfl,hrow,hb⟩;exact⟨[v],rfl,hb,z7 hrow⟩
theorem zl (d:List (Int×Int)):Spec Tryz.prog 114 true [dm d] [.val (.fn (.func 144) [] [.ptr [dm d]])]:=by
 refine Spec.body Tryz.func114 Y Y Y λw0 Z0=> ?_;refine .B ?_;refine J.sub (Rel.unbx (s:=1) (λ_ h=>h) Y Y) ?_;refine J.sub (Rel.fp (s:=1) Y) ?_;refine .B ?_;exact⟨_,.v Y Y Y (λh=>by cases h) .nil⟩
theorem n5 (l:List Int):Spec Tryz.prog 221 true [ao l] [.val (.fn (.func 240) [] [.ptr [ao l]])]:=by
 refine Spec.body Tryz.func221 Y Y Y λw0 Z0=> ?_;refine .B ?_;refine J.sub (Rel.unbx (s:=1) (λ_ h=>h) Y Y) ?_;refine J.sub (Rel.fp (s:=1) Y) ?_;refine .B ?_;exact⟨_,.v Y Y Y (λh=>by cases h) .nil⟩
theorem iB (d:List (Int×Int))(hb:InB d)(hd:d.length*16<=140737488351232):Spec Tryz.prog 72 false [dm d] [.own 3 1 (((vals d).take 4097).map cI)]:=by
 refine Spec.body Tryz.func72 Y Y Y λw0 Z0=> ?_;have hc:=lR (g:=144) (caps:=[.ptr [dm d]]) (xs:=(vals d).take 4097) (enters_of Tryz.func144 (by kernel_rfl) Y) (λw Z us h=>by
  cases h with
  |cons h1 h2=>cases h2;exact xf d hb hd w _ h1) (by rw[Dx];omega)
 refine .B ?_;refine .D (zl d) ?_;refine .D hc ?_;exact⟨_,.o Y Y Y (λ_=> .inl Y) (by simp) .nil⟩
set_option maxRecDepth 4000
theorem wD (d:List (List (Int×Int)))(hl:d.length*24<=140737488355328)(hx: ∀x∈d,x.length*16<=140737488355328):Spec Tryz.prog 59 false [aJ d] [.own 54 1 (d.map cD)]:=by
 refine Spec.body Tryz.func59 Y Y Y λw0 Z0=> ?_;refine .B ?_;refine .Q ?_;refine T.K (T.list d (λn pre post=>⟨[(0,.val false (aJ d)),(3,.ref 0),(4,.val true (.int .i64 n))],[(0,some (.sl 54 1 true (pre.map cD)))],1⟩) (λ_ _ h=>h) ?_ ?_)
 ·rintro n pre x post h hn ih;have hlt:=cg h hn;have hxl:=hx x (by rw[h];simp);refine .B ?_;refine T.ct2 Y (ce h hn) ?_;refine .B ?_;refine .Q ?_;refine .F (r:=cD x) (aS h hn) ?_;refine J.a Y Y Y Y Y Y Y Y Y Y Y Y Y Y Y Y Y Az (by show(0+List.length _)*16<=_;simp;omega) ?_;refine .B ?_;refine J.sub (Rel.flat (o:=2) Y sd) ?_;refine J.sub (Rel.frz (s:=18) (λ_ h=>h) Y Y) ?_;refine .Z ?_;refine J.aD Y Y Y Y Y Y Y Y Y Y Y Y Y Y Y Y Y Y Y (by omega) ?_;refine .B ?_;rw[ak hlt (by omega)];exact T.K ih
 ·refine .B ?_;refine T.cf2 Y bA ?_;refine .B ?_;exact⟨_,.o Y Y Y (λ_=> .inl Y) (by simp) .nil⟩
theorem bR (d:List (Int×Int))(hd:d.length*16<=140737488355328):Spec Tryz.prog 102 false [dm d] [.own 53 2 (d.map cR)]:=by
 refine Spec.body Tryz.func102 Y Y Y λw0 Z0=> ?_;refine .B ?_;refine J.nc Y Y Y Y Y Y Y λb hb=> ?_;refine .B ?_;cases b
 ·refine T.cf Y ?_;refine .B ?_;refine .Q ?_;refine J.a Y Y Y Y Y Y Y Y Y Y Y Y Y Y Y Y Y Az (by show(0+List.length _)*16<=_;simp;omega) ?_;refine .B ?_;exact⟨_,.o Y Y Y (λ_=> .inr sd) (by simp) .nil⟩
 ·have:d=[]:=(by simpa using hb Y);subst this;refine T.ct Y ?_;refine .B ?_;exact⟨_,.ownN Y .nil⟩
def aN (d:List (Int×Int)):Int:=match d.getLast? with
 |some r=>r.2
 |none=>0
def az (d:List (Int×Int)):Int:=match d with
 |r::_=>r.1
 | []=>0
theorem kz (d:List (Int×Int)):Spec Tryz.prog 108 false [dm d] [.val (.int .i64 (az d)),.val (.bool (!d.isEmpty))]:=by
 refine Spec.body Tryz.func108 Y Y Y λw0 Z0=> ?_;refine .B ?_;cases d with
 |nil=>
  refine T.ct2 Y Y ?_;refine .B ?_;exact r2
 |cons x d=>
  refine T.cf2 Y (by simp;omega) ?_;refine .B ?_;refine .F (r:=cR x) Y ?_;exact r2
theorem qB (d:List (Int×Int))(hd:d.length*8<=140737488355328):Spec Tryz.prog 232 false [dm d] [.val (.int .i64 (aN d)),.val (.bool (!d.isEmpty))]:=by
 refine Spec.body Tryz.func232 Y Y Y λw0 Z0=> ?_;refine .B ?_;by_cases hn:d=[]
 ·subst hn;refine T.ct2 Y Y ?_;refine .B ?_;exact r2
 ·have hpos:=GK.2 hn;refine T.cf2 Y (by simp[hn]) ?_;refine .B ?_;rw[af (by simp;omega) (by simp;omega)];have e1:((List.map cR d).length:Int)-1=((d.length-1:Nat):Int):=(by simp;omega);rw[e1];refine .I (r:=cR (d.getLast hn)) ?_ ?_
  ·rw[List.getLast_eq_getElem];exact aO (by omega)
  refine .B ?_;exact⟨_,.v Y Y (by simp[aN,Gd hn]) (λ_=>rfl) (.v Y Y (by simp[hn]) (λ_=>rfl) .nil)⟩
def xG:Nat->List (Int×Int)->List (Int×Int)->List (Int×Int)
 |n+1,x::xs,y::ys=>(if max x.1 y.1<=min x.2 y.2 then [(max x.1 y.1,min x.2 y.2)]else [])++(if x.2<y.2 then xG n xs (y::ys)else xG n (x::xs) ys)
 |_,_,_=>[]
def bB (a b:List (Int×Int)):List (Int×Int):=xG (a.length+b.length) a b
theorem im (x y:Int×Int)(xs ys:List (Int×Int)):bB (x::xs) (y::ys)=(if max x.1 y.1<=min x.2 y.2 then [(max x.1 y.1,min x.2 y.2)]else [])++(if x.2<y.2 then bB xs (y::ys)else bB (x::xs) ys):=by
 unfold bB;rw[show(x::xs).length+(y::ys).length=(xs.length+ys.length+1)+1 by simp;omega,xG];rw[show xs.length+(y::ys).length=xs.length+ys.length+1 by simp;omega,show(x::xs).length+ys.length=xs.length+ys.length+1 by simp;omega]
theorem nL (b:List (Int×Int)):bB [] b=[]:=by
 unfold bB;generalize ([]:List (Int×Int)).length+b.length=n;cases n<;>rfl
theorem nK (a:List (Int×Int)):bB a []=[]:=by
 unfold bB;generalize a.length+([]:List (Int×Int)).length=n;cases n with
 |zero=>rfl
 |succ n=>cases a<;>rfl
theorem mq (a b:List (Int×Int))(hl:(a.length+b.length)*16<=140737488355328):Spec Tryz.prog 189 false [dm a,dm b] [.own 53 2 ((bB a b).map cR)]:=by
 refine Spec.body Tryz.func189 Y Y Y λw0 Z0=> ?_;refine .B ?_;refine T.sub (Rel.own0 (s:=5) 53 2 Y) ?_;refine T.K (T.ind (λ(s:Nat×Nat×List (Int×Int))=>⟨[(0,.val false (dm a)),(1,.val false (dm b)),(5,.ref 0),(6,.val true (.int .i64 s.1)),(7,.val true (.int .i64 s.2.1))],[(0,some (.sl 53 2 true (s.2.2.map cR)))],1⟩)
  (λs=>s.1<=a.length/\s.2.1<=b.length/\s.2.2.length<=s.1+s.2.1/\s.2.2++bB (a.drop s.1) (b.drop s.2.1)=bB a b) (λs=>(a.length-s.1)+(b.length-s.2.1)) (0,0,[]) (by simp) (λ_ _ h=>h) ?_)
 rintro⟨i,k,out⟩ ⟨hi,hk,hol,he⟩ ih;simp only at hi hk hol he ih;dsimp only;refine .B ?_;have fin: ∀(h: ¬(i<a.length/\k<b.length)),out=bB a b:=by
  intro h;rw[<-he];by_cases h1:i<a.length
  ·have h2: ¬k<b.length:=λh2=>h ⟨h1,h2⟩;rw[Ef (l:=b) (by omega)];simp[nK]
  ·rw[Ef (l:=a) (by omega)];simp[nL]
 refine J.g Y Y Y (λh1=> ?_) (λh1=> ?_)
 ·refine .B ?_;simp at h1;refine T.cd Y (λh2=> ?_) (λh2=> ?_)
  ·simp at h2;rw[DQ h1,DQ h2,im]at he;have hai:=aO (enc:=cR) h1;have hbk:=aO (enc:=cR) h2;have hda:a.drop (i+1)=(a.drop i).tail:=(by simp);refine .B ?_;refine .F (r:=cR a[i]) hai ?_;refine .F (r:=cR b[k]) hbk ?_;refine .F (r:=cR a[i]) hai ?_;refine .F (r:=cR b[k]) hbk ?_;refine T.cd Y (λh3=> ?_) (λh3=> ?_)
   ·try simp only at h3
    rw[D4 h3]at he;refine .B ?_;refine .Z ?_;refine J.aR Y Y Y Y Y Y Y Y Y Y Y Y Y Y Y Y Y Y Y (by omega) ?_;refine .B ?_;refine .F (r:=cR a[i]) hai ?_;refine .F (r:=cR b[k]) hbk ?_;refine T.cd Y (λh4=> ?_) (λh4=> ?_)
    ·try simp only at h4
     rw[D4 h4,<-DQ h2]at he;refine .B ?_;rw[ak h1 (by omega)];exact T.K (ih (i+1,k,out++[(max a[i].1 b[k].1,min a[i].2 b[k].2)]) ⟨by simp only;omega,by simp only;omega,by simp;omega,by simp only;rw[E4];exact he⟩ (by simp only;omega))
    ·try simp only at h4
     rw[D2 h4,<-DQ h1]at he;refine .B ?_;rw[ak h2 (by omega)];exact T.K (ih (i,k+1,out++[(max a[i].1 b[k].1,min a[i].2 b[k].2)]) ⟨by simp only;omega,by simp only;omega,by simp;omega,by simp only;rw[E4];exact he⟩ (by simp only;omega))
   ·try simp only at h3
    rw[D2 h3,Ea]at he;refine .B ?_;refine .F (r:=cR a[i]) hai ?_;refine .F (r:=cR b[k]) hbk ?_;refine T.cd Y (λh4=> ?_) (λh4=> ?_)
    ·try simp only at h4
     rw[D4 h4,<-DQ h2]at he;refine .B ?_;rw[ak h1 (by omega)];exact T.K (ih (i+1,k,out) ⟨by simp only;omega,by simp only;omega,by simp only;omega,he⟩ (by simp only;omega))
    ·try simp only at h4
     rw[D2 h4,<-DQ h1]at he;refine .B ?_;rw[ak h2 (by omega)];exact T.K (ih (i,k+1,out) ⟨by simp only;omega,by simp only;omega,by simp only;omega,he⟩ (by simp only;omega))
  ·simp at h2;refine .B ?_;exact⟨_,.o Y Y (by rw[fin (by omega)]) (λ_=> .inl Y) (by simp) .nil⟩
 ·simp at h1;refine .B ?_;refine T.cf Y ?_;refine .B ?_;exact⟨_,.o Y Y (by rw[fin (by omega)]) (λ_=> .inl Y) (by simp) .nil⟩
def domCut (d:List (Int×Int))(lo hi:Int):List (Int×Int):=if hi<lo then []else bB d [(lo,hi)]
theorem gv (d:List (Int×Int))(lo hi:Int)(hd:(d.length+1)*16<=140737488355328):Spec Tryz.prog 197 false [dm d,.int .i64 lo,.int .i64 hi] [.own 53 2 ((domCut d lo hi).map cR)]:=by
 refine Spec.body Tryz.func197 Y Y Y λw0 Z0=> ?_;refine .B ?_;refine T.cd Y (λh=> ?_) (λh=> ?_)
 ·have e:domCut d lo hi=[]:=(by simp[domCut];intro h2;omega);rw[e];refine .B ?_;exact⟨_,.ownN Y .nil⟩
 ·have e:domCut d lo hi=bB d [(lo,hi)]:=(by simp[domCut];intro h2;omega);rw[e];refine .B ?_;refine .Z ?_;refine .D (mq d [(lo,hi)] (by simpa using hd)) ?_;exact⟨_,.o Y Y Y (λ_=> .inl Y) (by simp) .nil⟩
theorem wS (a b:List (Int×Int))(hl:a.length*8<=140737488355328):Spec Tryz.prog 140 false [dm a,dm b] [.val (.bool (decide (a=b)))]:=by
 refine Spec.body Tryz.func140 Y Y Y λw0 Z0=> ?_;refine .B ?_;refine T.cd Y (λh=> ?_) (λh=> ?_)
 ·refine .B ?_;exact⟨_,.v Y Y (by simp only[D9]at h;rw[DC];intro e;subst e;exact h Y) (λ_=>rfl) .nil⟩
 ·have hlen:a.length=b.length:=(by simp only[D9,ne_eq,Classical.not_not]at h;omega);refine .B ?_;refine T.K (T.ind (λi:Nat=>⟨[(0,.val false (dm a)),(1,.val false (dm b)),(12,.val true (.int .i64 (a.map cR).length)),(13,.val true (.int .i64 i))],[],0⟩) (λi=>i<=a.length/\a.take i=b.take i) (λi=>a.length-i) 0 (by simp) (λ_ _ h=>h) ?_);rintro i ⟨hi,ht⟩ ih;refine .B ?_;refine T.cd Y (λh1=> ?_) (λh1=> ?_)
  ·simp at h1;refine .B ?_;refine .F (r:=cR a[i]) (aO h1) ?_;refine .F (r:=cR b[i]) (aO (by omega)) ?_;refine J.se [a[i].1,a[i].2] [b[i].1,b[i].2] Y Y Y Y Y Y Y Y (by kernel_rfl) (by kernel_rfl) (by kernel_rfl) (by kernel_rfl) Y Y (.inr Y) ?_;refine .B ?_;refine T.cond Y (λh2=> ?_) (λh2=> ?_)
   ·refine .B ?_;exact⟨_,.v Y Y (by rw[DC];intro e;subst e;simp at h2) (λ_=>rfl) .nil⟩
   ·refine .B ?_;rw[ak h1 (by omega)];refine T.K (ih (i+1) ⟨by omega,l0 ht h1 (by omega) ?_⟩ (by omega));simp at h2;exact Prod.ext h2.1 h2.2
  ·simp at h1;refine .B ?_;refine⟨_,.v Y Y ?_ (λ_=>rfl) .nil⟩;rw[DS (by omega),DS (by omega)]at ht;simp[ht]
theorem ef (a b:List (Int×Int))(hl:a.length*8<=140737488355328):Spec Tryz.prog 106 false [dm a,dm b] [.val (.bool (decide (a=b)))]:=by
 refine Spec.body Tryz.func106 Y Y Y λw0 Z0=> ?_;refine .B ?_;refine .D (wS a b hl) ?_;exact r1
def ofD (d:List (Int×Int)):Int×Int:=(az d,aN d)
theorem lQ (d:List (Int×Int))(hd:d.length*8<=140737488355328):Spec Tryz.prog 198 false [dm d] [.val (.agg [.int .i64 (az d),.int .i64 (aN d)])]:=by
 refine Spec.body Tryz.func198 Y Y Y λw0 Z0=> ?_;refine .B ?_;refine .L ?_;refine .B ?_;refine .D (kz d) ?_;refine .D (qB d hd) ?_;refine .X ?_;exact⟨_,.c Y Y Y Y (λ_=>rfl) .nil⟩
def gB (a b:Int)(da db:List (Int×Int)):Bool:=decide (a=b)||(decide (0<da.length)&&decide (0<db.length)&&decide (az da=aN da)&&decide (ofD da=ofD db))
theorem wF (d:List (List (Int×Int)))(a b:Int)(da db:List (Int×Int))(ha:0<=a)(hb:0<=b)(hda:d[a.toNat]? =some da)(hdb:d[b.toNat]? =some db)(hla:da.length*8<=140737488355328)(hlb:db.length*8<=140737488355328):
  Spec Tryz.prog 231 false [aJ d,.int .i64 a,.int .i64 b] [.val (.bool (gB a b da db))]:=by
 refine Spec.body Tryz.func231 Y Y Y λw0 Z0=> ?_;have ra:(d.map cD)[a.toNat]? =some (cD da):=(by simp[hda]);have rb:(d.map cD)[b.toNat]? =some (cD db):=(by simp[hdb]);refine .B ?_;refine J.i Y Y Y Y Y Y Y Y Y (r:=cD da) ha ra Y ?_;refine .B ?_;refine .D (lQ da hla) ?_;refine .L ?_;refine .X ?_;refine J.g Y Y Y (λh1=> ?_) (λh1=> ?_)
 ·refine .B ?_;exact⟨_,.v Y Y (by simp[gB,show a=b from h1]) (λ_=>rfl) .nil⟩
 ·refine .B ?_;refine J.i Y Y Y Y Y Y Y Y Y (r:=cD da) ha ra Y ?_;refine .B ?_;refine J.g Y Y Y (λh2=> ?_) (λh2=> ?_)
  ·refine .B ?_;refine J.i Y Y Y Y Y Y Y Y Y (r:=cD db) hb rb Y ?_;refine .B ?_;refine J.g Y Y Y (λh3=> ?_) (λh3=> ?_)
   ·refine .B ?_;refine J.g Y Y Y (λh4=> ?_) (λh4=> ?_)
    ·refine .B ?_;refine J.i Y Y Y Y Y Y Y Y Y (r:=cD db) hb rb Y ?_;refine .B ?_;refine .D (lQ db hlb) ?_;refine J.se [az da,aN da] [az db,aN db] Y Y Y Y Y Y Y Y (by kernel_rfl) (by kernel_rfl) (by kernel_rfl) (by kernel_rfl) Y Y (.inl Y) ?_;refine .B ?_;refine⟨_,.v Y Y ?_ (λ_=>rfl) .nil⟩;have h2:0<da.length:=(by simpa using h2);have h3:0<db.length:=(by simpa using h3);have h1: ¬a=b:=h1;have h4:az da=aN da:=h4;simp[gB,h1,h2,h3,h4,ofD]
    ·refine .B ?_;exact⟨_,.v Y Y (by simp[gB,show¬a=b from h1,show¬az da=aN da from h4]) (λ_=>rfl) .nil⟩
   ·refine .B ?_;refine⟨_,.v Y Y ?_ (λ_=>rfl) .nil⟩;have h3: ¬0<db.length:=(by simpa using h3);simp[gB,show¬a=b from h1,h3]
  ·refine .B ?_;refine⟨_,.v Y Y ?_ (λ_=>rfl) .nil⟩;have h2: ¬0<da.length:=(by simpa using h2);simp[gB,show¬a=b from h1,h2]
def e7 (p:Nat->Bool)(h:Nat):Nat:=((List.range h).find? λk=> !p k).getD h
theorem yz {p:Nat->Bool}{h k:Nat}(hk:k<h)(ha: ∀j,j<k->p j=true)(hn:p k=false):e7 p h=k:=by
 unfold e7;have:(List.range h).find? (λk=> !p k)=some k:=by
  rw[FA];exact⟨by simp[hn],by simpa using hk,λj hj=>by simp[ha j hj]⟩
 rw[this];rfl
theorem vX {p:Nat->Bool}{h:Nat}(ha: ∀j,j<h->p j=true):e7 p h=h:=by
 unfold e7;have:(List.range h).find? (λk=> !p k)=none:=by
  rw[FS];intro x hx;simp[ha x (DM.1 hx)]
 rw[this];rfl
def halfOf (c:Con):Nat:=c.vars.length / 2
def varAt (c:Con)(k:Nat):Int:=c.vars.getD k 0
def domAt (d:List (List (Int×Int)))(v:Int):List (Int×Int):=d.getD v.toNat []
def cN (d:List (List (Int×Int)))(c:Con):Prop:=c.vars.length*8<=140737488355328/\∀v∈c.vars,0<=v/\v.toNat<d.length
def dY (d:List (List (Int×Int)))(c:Con)(k:Nat):Bool:=gB (varAt c k) (varAt c (halfOf c+k)) (domAt d (varAt c k)) (domAt d (varAt c (halfOf c+k)))
def placeO (d:List (List (Int×Int)))(c:Con):Nat:=e7 (dY d c) (halfOf c)
theorem eF {c:Con}{k:Nat}(h:k<c.vars.length):(c.vars.map cI)[((k:Nat):Int).toNat]? =some (cI (varAt c k)):=by
 simp[varAt,h]
theorem aK {c:Con}{k:Nat}(h:k<c.vars.length):varAt c k∈c.vars:=by
 simp[varAt,h]
theorem aq {d:List (List (Int×Int))}{v:Int}(h:v.toNat<d.length):d[v.toNat]? =some (domAt d v):=by
 simp[domAt,h]
theorem ah {d:List (List (Int×Int))}{v:Int}(h:v.toNat<d.length):domAt d v∈d:=by
 simp[domAt,h]
theorem jC (c:Con):halfOf c+halfOf c<=c.vars.length:=by unfold halfOf;omega
theorem vW (d:List (List (Int×Int)))(c:Con)(hc:cN d c)(hd: ∀x∈d,x.length*8<=140737488355328):Spec Tryz.prog 196 false [aJ d,.agg (cC c)] [.val (.int .i64 (placeO d c))]:=by
 refine Spec.body Tryz.func196 Y Y Y λw0 Z0=> ?_;obtain⟨hc1,hc2⟩:=hc;have hh:=jC c;refine .B ?_;have e1:IntKind.i64.wrap (((c.vars.map cI).length:Int).tdiv 2)=(halfOf c:Int):=by
  rw[D9,GC (by omega),af (by omega) (by omega)];simp[halfOf]
 rw[e1];refine T.K (T.ind (λk:Nat=>⟨[(0,.val false (aJ d)),(3,.optr 0 0 0 0),(5,.val true (.int .i64 (halfOf c))),(11,.val true (.int .i64 (halfOf c))),(12,.val true (.int .i64 k))],[(0,some (.box false (cC c)))],1⟩)
  (λk=>k<=halfOf c/\∀j,j<k->dY d c j=true) (λk=>halfOf c-k) 0 (by simp) (λ_ _ h=>h) ?_)
 rintro k ⟨hk,hp⟩ ih;refine .B ?_;refine T.cd Y (λh1=> ?_) (λh1=> ?_)
 ·have h1:k<halfOf c:=(by simpa using h1);have hv1:=hc2 _ (aK (c:=c) (k:=k) (by omega));have hv2:=hc2 _ (aK (c:=c) (k:=halfOf c+k) (by omega));refine .B ?_;refine .F (r:=cI (varAt c k)) (eF (by omega)) ?_;rw[show IntKind.i64.wrap ((halfOf c:Int)+(k:Int))=((halfOf c+k:Nat):Int)by rw[af (by omega) (by omega)];omega];refine .F (r:=cI (varAt c (halfOf c+k))) (eF (by omega)) ?_;refine J.cc Y Y Y Y Y (wF d (varAt c k) (varAt c (halfOf c+k)) _ _ hv1.1 hv2.1 (aq hv1.2) (aq hv2.2) (hd _ (ah hv1.2)) (hd _ (ah hv2.2))) Y Y ?_;refine .B ?_;refine T.cond Y (λh2=> ?_) (λh2=> ?_)
  ·have h2:dY d c k=false:=(by simpa[dY]using h2);refine .B ?_;exact⟨_,.v Y Y (by rw[placeO,yz h1 hp h2]) (λ_=>rfl) .nil⟩
  ·have h2:dY d c k=true:=(by simpa[dY]using h2);refine .B ?_;rw[ak (l:=halfOf c) h1 (by omega)];refine T.K (ih (k+1) ⟨by omega,λj hj=> ?_⟩ (by omega));by_cases e:j=k;·rw[e];exact h2
   ·exact hp j (by omega)
 ·have h1: ¬k<halfOf c:=(by simpa using h1);refine .B ?_;exact⟨_,.v Y Y (by rw[placeO,vX λj hj=>hp j (by omega)]) (λ_=>rfl) .nil⟩
abbrev aa:=List (List (Int×Int))
def cH {α β:Type}(step:α->β ⊕ α):Nat->α->Option β
 |0,_=>none
 |n+1,x=>match step x with
  | .inl b=>some b
  | .inr y=>cH step n y
theorem bf {α β:Type}{step:α->β ⊕ α}{n:Nat}{x:α}{b r:β}(h:cH step n x=some r)(e:step x= .inl b):b=r:=by
 cases n with
 |zero=>cases h
 |succ n=>simp only[cH,e,D6]at h;exact h
theorem gU {α β:Type}{step:α->β ⊕ α}{n:Nat}{x y:α}{r:β}(h:cH step n x=some r)(e:step x= .inr y): ∃m,m<n/\cH step m y=some r:=by
 cases n with
 |zero=>cases h
 |succ n=>simp only[cH,e]at h;exact⟨n,Eh n,h⟩
def dK (c:Con)(out:aa):Option aa ⊕ aa:=
 if placeO out c=halfOf c then .inl (some out)else
 let a:=varAt c (placeO out c);let b:=varAt c (halfOf c+placeO out c);let x:=domCut (domAt out a) (-1048576) (aN (domAt out b));let y:=domCut (domAt out b) (az (domAt out a)) 1048576
 if x=[]∨y=[]then .inl none else
 if x=domAt out a/\y=domAt out b then .inl (some out)else .inr ((out.set a.toNat x).set b.toNat y)
def aX (R:Option aa):List RV:=[.own 54 1 ((R.getD []).map cD),.val (.bool R.isSome)]
theorem lj (r:Int×Int): ∀a,(bB a [r]).length<=a.length
 | []=>by simp[nL]
 |x::xs=>by
  have:=lj r xs;rw[im];simp only[DX,Dp];have h2:(bB (x::xs) []).length=0:=(by simp[nK]);split<;>split<;>simp only[Dp,Ee]<;>omega
theorem jZ (d:List (Int×Int))(lo hi:Int):(domCut d lo hi).length<=d.length:=by
 unfold domCut;split;·simp
 ·exact lj _ _
theorem mg (p:Nat->Bool)(h:Nat):e7 p h<=h:=by
 unfold e7;cases hf:(List.range h).find? (λk=> !p k)with
 |none=>simp
 |some k=>
  have:=DM.1 (Gt hf);simp;omega
def jo (d:aa):Prop:=d.length*24<=140737488355328/\∀x∈d,(x.length+1)*16<=140737488355328
theorem jo.set {d:aa}(h:jo d)(i:Nat){x:List (Int×Int)}(hx:(x.length+1)*16<=140737488355328):jo (d.set i x):=by
 refine⟨by simpa using h.1,λy hy=> ?_⟩;rcases DV hy with hy|rfl;·exact h.2 y hy
 ·exact hx
theorem cN.set {d:aa}{c:Con}(h:cN d c)(i:Nat)(x:List (Int×Int)):cN (d.set i x) c:=by
 refine⟨h.1,λv hv=> ?_⟩;rw[E7];exact h.2 v hv
theorem vT (d:aa)(c:Con)(hc:cN d c)(hd:jo d)(R:Option aa)(N:Nat)(hR:if []∈d then R=none else cH (dK c) N d=some R):Spec Tryz.prog 138 false [aJ d,.agg (cC c)] (aX R):=by
 refine Spec.body Tryz.func138 Y Y Y λw0 Z0=> ?_;have hh:=jC c;obtain⟨hd1,hd2⟩:=hd;refine .B ?_;refine T.sub (Rel.own0 (s:=6) 54 1 Y) ?_;refine T.K (T.listI d (λpre=>[]∉pre) (λn pre post=>⟨[(0,.val false (aJ d)),(3,.optr 0 0 0 0),(6,.ref 1),(15,.val false (aJ d)),(16,.val true (.int .i64 (d.map cD).length)),(17,.val true (.int .i64 n))],[(0,some (.box false (cC c))),(1,some (.sl 54 1 true (pre.map cD)))],2⟩) (λ_ _ h=>h) (by simp) ?_ ?_)
 ·rintro n pre x post h hn hi ih;have hlt:=cg h hn;have hxl:=hd2 x (by rw[h];simp);refine .B ?_;refine T.ct2 Y (ce h hn) ?_;refine .B ?_;refine .F (r:=cD x) (aS h hn) ?_;refine T.cd Y (λh1=> ?_) (λh1=> ?_)
  ·have hx:x=[]:=(by simp at h1;exact h1);have:R=none:=(by rw[D4 (by rw[h,hx];simp)]at hR;exact hR);subst this;refine .B ?_;exact⟨_,.ownN Y (.v Y Y Y (λ_=>rfl) .nil)⟩
  ·have hx:x≠[]:=λe=>h1 (by rw[e];rfl);refine .B ?_;refine .D (bR x (by omega)).frz ?_;refine .Z ?_;refine J.aD Y Y Y Y Y Y Y Y Y Y Y Y Y Y Y Y Y Y Y (by omega) ?_;refine .B ?_;rw[ak hlt (by omega)];exact T.K (ih (by simp[hi,Ne.symm hx]))
 ·intro hi;rw[D2 hi]at hR;refine .B ?_;refine T.cf2 Y bA ?_;refine .B ?_;have e1:IntKind.i64.wrap (((c.vars.map cI).length:Int).tdiv 2)=(halfOf c:Int):=by
   have:=hc.1;rw[D9,GC (by omega),af (by omega) (by omega)];simp[halfOf]
  rw[e1];refine T.K (T.ind (λ(s:Nat×aa)=>⟨[(3,.optr 0 0 0 0),(6,.ref 1),(9,.val true (.int .i64 (halfOf c)))],[(0,some (.box false (cC c))),(1,some (.sl 54 1 true (s.2.map cD)))],2⟩)
   (λs=>cH (dK c) s.1 s.2=some R/\cN s.2 c/\jo s.2) (λs=>s.1) (N,d) ⟨hR,hc,hd1,hd2⟩ (λ_ _ h=>h) ?_)
  rintro⟨m,out⟩ ⟨hR,hc,hd⟩ ih;simp only at hR hc hd ih;dsimp only;have hcv:=hc.1;have hlen8: ∀x∈out,x.length*8<=140737488355328:=λx hx=>(by have:=hd.2 x hx;omega);refine .B ?_;refine .D (vW out c hc hlen8) ?_;have hpl:placeO out c<=halfOf c:=mg _ _;have hst:dK c out=dK c out:=rfl
  conv at hst=>rhs;unfold dK
  generalize placeO out c=k at*;refine T.cd Y (λh1=> ?_) (λh1=> ?_)
  ·have h1:k=halfOf c:=(by omega);rw[D4 h1]at hst;obtain rfl:=bf hR hst;refine .B ?_;exact⟨_,.o Y Y Y (λ_=> .inl Y) (by simp) (.v rfl rfl rfl (λ_=>rfl) .nil)⟩
  ·have h1: ¬k=halfOf c:=(by omega);rw[D2 h1]at hst;have hv1:=hc.2 _ (aK (c:=c) (k:=k) (by omega));have hv2:=hc.2 _ (aK (c:=c) (k:=halfOf c+k) (by omega));have hm1:=hd.2 _ (ah hv1.2);have hm2:=hd.2 _ (ah hv2.2);have ra:(out.map cD)[(varAt c k).toNat]? =some (cD (domAt out (varAt c k))):=(by simp[aq hv1.2]);have rb:(out.map cD)[(varAt c (halfOf c+k)).toNat]? =some (cD (domAt out (varAt c (halfOf c+k)))):=(by simp[aq hv2.2]);have la:(varAt c k).toNat<(out.map cD).length:=(by simpa using hv1.2);have lb:(varAt c (halfOf c+k)).toNat<(out.map cD).length:=(by simpa using hv2.2);have ka:=eF (c:=c) (k:=k) (by omega);have kb:=eF (c:=c) (k:=halfOf c+k) (by omega);simp only at hst;generalize varAt c k=a at*;generalize varAt c (halfOf c+k)=b at*;generalize domAt out a=da at*;generalize domAt out b=db at*;refine .B ?_;refine .F (r:=cI a) ka ?_;rw[show IntKind.i64.wrap ((halfOf c:Int)+(k:Int))=((halfOf c+k:Nat):Int)by rw[af (by omega) (by omega)];omega];refine .F (r:=cI b) kb ?_;refine J.io Y Y Y Y Y Y Y Y Y hv1.1 la Y ?_;refine J.lo Y Y Y Y Y Y (r:=cD da) ra Y ?_;refine .B ?_;refine J.io Y Y Y Y Y Y Y Y Y hv2.1 lb Y ?_;refine J.lo Y Y Y Y Y Y (r:=cD db) rb Y ?_;refine .B ?_;refine .D (lQ db (by omega)) ?_;refine .D (gv da (-1048576) (aN db) (by omega)).frz ?_;refine J.io Y Y Y Y Y Y Y Y Y hv2.1 lb Y ?_;refine J.lo Y Y Y Y Y Y (r:=cD db) rb Y ?_;refine .B ?_;refine J.io Y Y Y Y Y Y Y Y Y hv1.1 la Y ?_;refine J.lo Y Y Y Y Y Y (r:=cD da) ra Y ?_;refine .B ?_;refine .D (lQ da (by omega)) ?_;refine .D (gv db (az da) 1048576 (by omega)).frz ?_;have hxl:=jZ da (-1048576) (aN db);have hyl:=jZ db (az da) 1048576;generalize domCut da (-1048576) (aN db)=x at*;generalize domCut db (az da) 1048576=y at*;have hnone:x=[]∨y=[]->R=none:=λh=>(by rw[D4 h]at hst;exact(bf hR hst).symm);refine J.g Y Y Y (λh2=> ?_) (λh2=> ?_)
   ·have h2:x=[]:=(by simpa using h2);have:=hnone (.inl h2);subst this;refine .B ?_;refine T.ct Y ?_;refine .B ?_;exact⟨_,.ownN Y (.v Y Y Y (λ_=>rfl) .nil)⟩
   ·have h2: ¬x=[]:=(by simpa using h2);refine .B ?_;refine T.cd Y (λh3=> ?_) (λh3=> ?_)
    ·have h3:y=[]:=(by simpa using h3);have:=hnone (.inr h3);subst this;refine .B ?_;exact⟨_,.ownN Y (.v Y Y Y (λ_=>rfl) .nil)⟩
    ·have h3: ¬y=[]:=(by simpa using h3);rw[D2 (by simp[h2,h3])]at hst;refine .B ?_;refine J.io Y Y Y Y Y Y Y Y Y hv1.1 la Y ?_;refine J.lo Y Y Y Y Y Y (r:=cD da) ra Y ?_;refine .B ?_;refine .D (ef x da (by omega)) ?_;refine J.g Y Y Y (λh4=> ?_) (λh4=> ?_)
     ·have h4:x=da:=h4;refine .B ?_;refine J.io Y Y Y Y Y Y Y Y Y hv2.1 lb Y ?_;refine J.lo Y Y Y Y Y Y (r:=cD db) rb Y ?_;refine .B ?_;refine .D (ef y db (by omega)) ?_;refine T.cd Y (λh5=> ?_) (λh5=> ?_)
      ·rw[D4 ⟨h4,h5⟩]at hst;obtain rfl:=bf hR hst;refine .B ?_;exact⟨_,.o Y Y Y (λ_=> .inl Y) (by simp) (.v rfl rfl rfl (λ_=>rfl) .nil)⟩
      ·rw[D2 (λe=>h5 e.2)]at hst;obtain⟨m',hm',hR'⟩:=gU hR hst;refine .B ?_;refine J.io Y Y Y Y Y Y Y Y Y hv1.1 la Y ?_;refine J.w1 Y Y Y Y Y Y Y Y Y Y Y (λ_=>rfl) (by simpa using la) ?_;refine J.io Y Y Y Y Y Y Y Y Y hv2.1 (by simpa using lb) Y ?_;refine J.w1 Y Y Y Y Y Y Y Y Y Y Y (λ_=>rfl) (by simpa using lb) ?_;refine .B ?_;refine T.K (ih (m',(out.set a.toNat x).set b.toNat y) ⟨hR',(hc.set _ _).set _ _,(hd.set _ (by omega)).set _ (by omega)⟩ hm')
     ·have h4: ¬x=da:=h4;rw[D2 (λe=>h4 e.1)]at hst;obtain⟨m',hm',hR'⟩:=gU hR hst;refine .B ?_;refine T.cf Y ?_;refine .B ?_;refine J.io Y Y Y Y Y Y Y Y Y hv1.1 la Y ?_;refine J.w1 Y Y Y Y Y Y Y Y Y Y Y (λ_=>rfl) (by simpa using la) ?_;refine J.io Y Y Y Y Y Y Y Y Y hv2.1 (by simpa using lb) Y ?_;refine J.w1 Y Y Y Y Y Y Y Y Y Y Y (λ_=>rfl) (by simpa using lb) ?_;refine .B ?_;refine T.K (ih (m',(out.set a.toNat x).set b.toNat y) ⟨hR',(hc.set _ _).set _ _,(hd.set _ (by omega)).set _ (by omega)⟩ hm')
theorem wo (d:List (List Int))(hl:d.length*24<=140737488355328)(hx: ∀x∈d,x.length*8<=140737488355328):Spec Tryz.prog 74 false [bT d] [.own 24 1 (d.map cL)]:=by
 refine Spec.body Tryz.func74 Y Y Y λw0 Z0=> ?_;refine .B ?_;refine .Q ?_;refine T.K (T.list d (λn pre post=>⟨[(0,.val false (bT d)),(3,.ref 0),(4,.val true (.int .i64 n))],[(0,some (.sl 24 1 true (pre.map cL)))],1⟩) (λ_ _ h=>h) ?_ ?_)
 ·rintro n pre x post h hn ih;have hlt:=cg h hn;have hxl:=hx x (by rw[h];simp);refine .B ?_;refine T.ct2 Y (ce h hn) ?_;refine .B ?_;refine .Q ?_;refine .F (r:=cL x) (aS h hn) ?_;refine J.a Y Y Y Y Y Y Y Y Y Y Y Y Y Y Y Y Y uv (by show(0+List.length _)*8<=_;simp;omega) ?_;refine .B ?_;refine J.sub (Rel.flat (o:=2) Y wO) ?_;refine J.sub (Rel.frz (s:=18) (λ_ h=>h) Y Y) ?_;refine .Z ?_;refine J.a1 (enc:=cL) (x:=x) (B:=24) Y Y Y Y Y Y Y Y Y Y Y Y Y Y Y Y Y Y Y Y (by omega) ?_;refine .B ?_;rw[ak hlt (by omega)];exact T.K ih
 ·refine .B ?_;refine T.cf2 Y bA ?_;refine .B ?_;exact⟨_,.o Y Y Y (λ_=> .inl Y) (by simp) .nil⟩
def ConB (c:Con):Prop:=(c.vars.length+1)*8<=140737488355328/\c.coefs.length*8<=140737488355328/\c.rows.length*24<=140737488355328/\∀x∈c.rows,x.length*8<=140737488355328
theorem z6 (c:Con)(hc:ConB c):Spec Tryz.prog 38 true [.agg (cC c)] [.val (.agg (cC c))]:=by
 refine Spec.body Tryz.func38 Y Y Y λw0 Z0=> ?_;obtain⟨h1,h2,h3,h4⟩:=hc;refine .B ?_;refine .L ?_;refine .B ?_;refine .Q ?_;refine J.a Y Y Y Y Y Y Y Y Y Y Y Y Y Y Y Y Y uv (by show(0+List.length _)*8<=_;simp;omega) ?_;refine J.sub (Rel.frz (s:=6) (λ_ h=>h) Y Y) ?_;refine .B ?_;refine .X ?_;refine .Q ?_;refine J.a Y Y Y Y Y Y Y Y Y Y Y Y Y Y Y Y Y uv (by show(0+List.length _)*8<=_;simp;omega) ?_;refine J.sub (Rel.frz (s:=11) (λ_ h=>h) Y Y) ?_;refine .B ?_;refine .X ?_;refine .D (wo c.rows h3 h4).frz ?_;refine .X ?_;refine .X ?_;exact⟨_,.c Y Y Y Y (λh=>by cases h) .nil⟩
def usesR (c:Con):List Int:=aW (if c.kind=4 then c.vars++[c.b]else c.vars)
theorem x8 (c:Con)(hc:ConB c):Spec Tryz.prog 61 false [.agg (cC c)] [.own 3 1 ((usesR c).map cI)]:=by
 refine Spec.body Tryz.func61 Y Y Y λw0 Z0=> ?_;obtain⟨h1,h2,h3,h4⟩:=hc;refine .B ?_;refine .Q ?_;refine J.a Y Y Y Y Y Y Y Y Y Y Y Y Y Y Y Y Y uv (by show(0+List.length _)*8<=_;simp;omega) ?_;refine J.sub (Rel.flat (o:=2) Y wO) ?_;refine .B ?_;refine T.cd Y (λh=> ?_) (λh=> ?_)
 ·have e:usesR c=aW (c.vars++[c.b]):=(by unfold usesR;rw[D4 (show c.kind=4 from h)]);rw[e];refine .B ?_;refine .Z ?_;refine J.aI Y Y Y Y Y Y Y Y Y Y Y Y Y Y Y Y Y Y Y (l:=c.vars) (by omega) ?_;refine .B ?_;refine .D (i4 (c.vars++[c.b]) (by simp;omega)) ?_;exact⟨_,.o Y Y Y (λ_=> .inl Y) (by simp) .nil⟩
 ·have e:usesR c=aW c.vars:=(by unfold usesR;rw[D2 (show¬c.kind=4 from h)]);rw[e];refine .B ?_;refine .D (i4 c.vars (by omega)) ?_;exact⟨_,.o Y Y Y (λ_=> .inl Y) (by simp) .nil⟩
theorem m3 (l:List Int)(hl:l.length*8<=140737488355328):Spec Tryz.prog 93 false [ao l] [.val (.bool (decide l.Nodup))]:=by
 refine Spec.body Tryz.func93 Y Y Y λw0 Z0=> ?_;refine .B ?_;refine T.K (T.ind (λi:Nat=>⟨[(0,.val false (ao l)),(3,.val true (.int .i64 i))],[],0⟩) (λi=>i<=l.length/\(l.take i).Nodup) (λi=>l.length-i) 0 (by simp) (λ_ _ h=>h) ?_);rintro i ⟨hi,hd⟩ ih;refine .B ?_;refine T.cd Y (λh1=> ?_) (λh1=> ?_)
 ·have h1:i<l.length:=(by simpa using h1);refine .B ?_;refine T.K (T.ind (λk:Nat=>⟨[(0,.val false (ao l)),(3,.val true (.int .i64 i)),(4,.val true (.int .i64 k))],[],0⟩) (λk=>k<=i/\l[i]∉l.take k) (λk=>i-k) 0 (by simp) (λ_ _ h=>h) ?_);rintro k ⟨hk,hn⟩ ih2;refine .B ?_;refine T.cd Y (λh2=> ?_) (λh2=> ?_)
  ·have h2:k<i:=(by omega);refine .B ?_;refine .F (r:=cI l[i]) (aO h1) ?_;refine .F (r:=cI l[k]) (aO (by omega)) ?_;refine T.cd Y (λh3=> ?_) (λh3=> ?_)
   ·refine .B ?_;refine⟨_,.v Y Y ?_ (λ_=>rfl) .nil⟩;rw[DC];intro h;have:=Fl.1 h k i (by omega) h1 h2;exact this (Eq.symm h3)
   ·refine .B ?_;rw[ak (l:=l.length) (by omega) (by omega)];refine T.K (ih2 (k+1) ⟨by omega,?_⟩ (by omega));rw[DB (by omega)];simp only[DT,DG,not_or];exact⟨hn,h3⟩
  ·have h2:k=i:=(by omega);subst h2;refine .B ?_;rw[ak (l:=l.length) (by omega) (by omega)];refine T.K (ih (k+1) ⟨by omega,?_⟩ (by omega));rw[DB (by omega),G7];refine⟨hd,by simp,?_⟩;intro a ha b hb e;simp only[DG]at hb;subst hb e;exact hn ha
 ·have h1:i=l.length:=(by simp at h1;omega);refine .B ?_;refine⟨_,.v Y Y ?_ (λ_=>rfl) .nil⟩;rw[h1,E8]at hd;simp[hd]
def sumR (c:Con):Bool:=decide c.vars.Nodup&&decide (0<c.vars.length)&&decide (c.vars.length=c.coefs.length)&& !decide (0∈c.coefs)
theorem zH (c:Con)(hc:ConB c):Spec Tryz.prog 94 false [.agg (cC c)] [.val (.bool (sumR c))]:=by
 refine Spec.body Tryz.func94 Y Y Y λw0 Z0=> ?_;obtain⟨h1,h2,h3,h4⟩:=hc;unfold sumR;have ho:=m3 c.vars (by omega);generalize decide c.vars.Nodup=b1 at*;refine .B ?_;refine .D ho ?_;refine J.gb Y Y Y (λh=> ?_) (λh=> ?_)
 ·subst h;refine .B ?_;refine J.g Y Y Y (λh=> ?_) (λh=> ?_)
  ·have h:0<c.vars.length:=(by simpa using h);refine .B ?_;refine J.g Y Y Y (λh5=> ?_) (λh5=> ?_)
   ·have h5:c.vars.length=c.coefs.length:=(by simp only[D9]at h5;omega);refine .B ?_;refine .D (lI c.coefs 0 (by omega)) ?_;exact⟨_,.v Y Y (by simp[h5];intro hh;omega) (λ_=>rfl) .nil⟩
   ·have h5: ¬c.vars.length=c.coefs.length:=(by simp only[D9]at h5;omega);refine .B ?_;exact⟨_,.v Y Y (by simp[h5]) (λ_=>rfl) .nil⟩
  ·have h: ¬0<c.vars.length:=(by simpa using h);refine .B ?_;exact⟨_,.v Y Y (by simp[h]) (λ_=>rfl) .nil⟩
 ·subst h;refine .B ?_;exact⟨_,.v Y Y (by simp) (λ_=>rfl) .nil⟩
def ez (c:Con)(r:List Int):Bool:=decide (r.length=c.vars.length)&&r.all aH
def kU (c:Con):Bool:=c.rows.all (ez c)&&decide (c.rows.length<=1024)
theorem yp (c:Con)(hc:ConB c):Spec Tryz.prog 95 false [.agg (cC c)] [.val (.bool (kU c))]:=by
 refine Spec.body Tryz.func95 Y Y Y λw0 Z0=> ?_;obtain⟨h1,h2,h3,h4⟩:=hc;refine .B ?_;refine T.K (T.listI c.rows (λpre=>pre.all (ez c)=true) (λn pre post=>⟨[(1,.optr 0 0 0 0),(3,.val true (.int .i64 n))],[(0,some (.box false (cC c)))],1⟩) (λ_ _ h=>h) Y ?_ ?_)
 ·rintro n pre x post h hn hi ih;have hlt:=cg h hn;have hxl:=h4 x (by rw[h];simp);have hra:=aS (enc:=cL) h hn;have bad:ez c x=false->kU c=false:=λe=>(by rw[kU,h];simp[e]);refine .B ?_;refine T.ct2 Y (ce h hn) ?_;refine .B ?_;refine .F (r:=cL x) hra ?_;refine T.cd Y (λh5=> ?_) (λh5=> ?_)
  ·have h5: ¬x.length=c.vars.length:=(by simp only[D9]at h5;omega);rw[bad (by simp[ez,h5])];refine .B ?_;exact r1
  ·have h5:x.length=c.vars.length:=(by simp only[D9]at h5;omega);refine .B ?_;refine T.K (T.listI x (λpre=>pre.all aH=true) (λk pre post=>⟨[(1,.optr 0 0 0 0),(3,.val true (.int .i64 n)),(4,.val true (.int .i64 k))],[(0,some (.box false (cC c)))],1⟩) (λ_ _ h=>h) Y ?_ ?_)
   ·rintro k pre2 y post2 h6 hk hi2 ih2;have hlt2:=cg h6 hk;refine .B ?_;refine .F (r:=cL x) hra ?_;refine T.ct2 Y (ce h6 hk) ?_;refine .B ?_;refine .F (r:=cL x) hra ?_;refine .F (r:=cI y) (aS h6 hk) ?_;refine .D (j9 y) ?_;refine T.cond Y (λh7=> ?_) (λh7=> ?_)
    ·rw[bad (by simp only[ER]at h7;simp only[ez];rw[h6];simp[h7])];refine .B ?_;exact r1
    ·refine .B ?_;rw[ak hlt2 (by omega)];exact T.K (ih2 (by simp only[FT]at h7;simp[Er,hi2,h7]))
   ·intro hi2;refine .B ?_;refine .F (r:=cL x) hra ?_;refine T.cf2 Y bA ?_;refine .B ?_;rw[ak hlt (by omega)];exact T.K (ih (by rw[Er,hi];simp[ez,h5,hi2]))
 ·intro hi;refine .B ?_;refine T.cf2 Y bA ?_;refine .B ?_;exact⟨_,.v Y Y (by rw[kU,hi];simp;omega) (λ_=>rfl) .nil⟩
def truthR (d:List (Int×Int)):Bool:=d.all λr=> !(decide (r.1<0)||decide (1<r.2))
theorem nZ (d:List (Int×Int))(hd:d.length*8<=140737488355328):Spec Tryz.prog 96 false [dm d] [.val (.bool (truthR d))]:=by
 refine Spec.body Tryz.func96 Y Y Y λw0 Z0=> ?_;refine .B ?_;refine T.K (T.listI d (λpre=>truthR pre=true) (λn pre post=>⟨[(0,.val false (dm d)),(3,.val true (.int .i64 n))],[],0⟩) (λ_ _ h=>h) Y ?_ ?_)
 ·rintro n pre x post h hn hi ih;have hlt:=cg h hn;have hra:=aS (enc:=cR) h hn;have bad:(decide (x.1<0)||decide (1<x.2))=true->truthR d=false:=λe=>by
   rw[truthR,h,Er,Fb,e];simp
  refine .B ?_;refine T.ct2 Y (ce h hn) ?_;refine .B ?_;refine .F (r:=cR x) hra ?_;refine J.g Y Y Y (λh1=> ?_) (λh1=> ?_)
  ·rw[bad (by simp[show x.1<0 from h1])];refine .B ?_;refine T.ct Y ?_;refine .B ?_;exact r1
  ·refine .B ?_;refine .F (r:=cR x) hra ?_;refine T.cd Y (λh2=> ?_) (λh2=> ?_)
   ·rw[bad (by simp[show x.2 > 1 from h2])];refine .B ?_;exact r1
   ·refine .B ?_;rw[ak hlt (by omega)];refine T.K (ih ?_);simp only[truthR,Er,DJ]at hi⊢;refine⟨hi,?_⟩;simp[show¬x.1<0 from h1,show¬1<x.2 from h2]
 ·intro hi;refine .B ?_;refine T.cf2 Y bA ?_;refine .B ?_;exact⟨_,.v Y Y (by rw[hi]) (λ_=>rfl) .nil⟩
def eD (room:Int):List Int->Bool
 | []=>false
 |x::xs=>if 4398046511104<x∨x< -4398046511104 then true else if room-max x (-x)*1048576<0 then true else eD (room-max x (-x)*1048576) xs
def ei (l:List Int)(rhs:Int):Bool:=if 4611686018427387904<rhs∨rhs< -4611686018427387904 then true else eD (4611686018427387904-max rhs (-rhs)) l
theorem AT (l:List Int)(rhs:Int)(hl:l.length*8<=140737488355328):Spec Tryz.prog 63 false [ao l,.int .i64 rhs] [.val (.bool (ei l rhs))]:=by
 refine Spec.body Tryz.func63 Y Y Y λw0 Z0=> ?_;unfold ei;refine .B ?_;refine J.g Y Y Y (λh1=> ?_) (λh1=> ?_)
 ·rw[D4 (.inl h1)];refine .B ?_;refine T.ct Y ?_;refine .B ?_;exact r1
 ·have h1: ¬4611686018427387904<rhs:=h1;refine .B ?_;rw[show IntKind.i64.wrap (0-4611686018427387904)= -4611686018427387904 by rfl];refine T.cd Y (λh2=> ?_) (λh2=> ?_)
  ·rw[D4 (.inr h2)];refine .B ?_;exact r1
  ·rw[D2 (by omega)];refine .B ?_;rw[af (n:=0-rhs) (by omega) (by omega),show(0:Int)-rhs= -rhs by omega,af (n:=4611686018427387904-max rhs (-rhs)) (by omega) (by omega)];refine T.K (T.ind (λ(s:Nat×Int)=>⟨[(0,.val false (ao l)),(5,.val true (.int .i64 s.2)),(6,.val true (.int .i64 s.1))],[],0⟩)
    (λs=>s.1<=l.length/\0<=s.2/\s.2<=4611686018427387904/\eD s.2 (l.drop s.1)=eD (4611686018427387904-max rhs (-rhs)) l) (λs=>l.length-s.1) (0,4611686018427387904-max rhs (-rhs)) ⟨by simp,by simp only;omega,by simp only;omega,by simp⟩ (λ_ _ h=>h) ?_)
   rintro⟨i,room⟩ ⟨hi,hr0,hr1,he⟩ ih;simp only at hi hr0 hr1 he ih;rw[<-he];dsimp only;refine .B ?_;refine T.cd Y (λh3=> ?_) (λh3=> ?_)
   ·have h3:i<l.length:=(by simpa using h3);rw[DQ h3,eD]at he⊢;refine .B ?_;refine .F (r:=cI l[i]) (aO h3) ?_;refine J.g Y Y Y (λh4=> ?_) (λh4=> ?_)
    ·rw[D4 (.inl h4)];refine .B ?_;refine T.ct Y ?_;refine .B ?_;exact r1
    ·have h4: ¬l[i] > 4398046511104:=h4;refine .B ?_;refine .F (r:=cI l[i]) (aO h3) ?_;refine T.cd Y (λh5=> ?_) (λh5=> ?_)
     ·rw[D4 (.inr h5)];refine .B ?_;exact r1
     ·have h5: ¬l[i]< -4398046511104:=h5;rw[D2 (by omega)]at he⊢;refine .B ?_;refine .F (r:=cI l[i]) (aO h3) ?_;refine .F (r:=cI l[i]) (aO h3) ?_;rw[af (n:=0-l[i]) (by omega) (by omega),show(0:Int)-l[i]= -l[i]by omega,af (n:=max l[i] (-l[i])*1048576) (by omega) (by omega),af (n:=room-max l[i] (-l[i])*1048576) (by omega) (by omega)];refine T.cd Y (λh6=> ?_) (λh6=> ?_)
      ·rw[D4 h6];refine .B ?_;exact r1
      ·have h6: ¬room-max l[i] (-l[i])*1048576<0:=h6;rw[D2 h6]at he⊢;refine .B ?_;rw[ak h3 (by omega),he];exact T.K (ih (i+1,room-max l[i] (-l[i])*1048576) ⟨by simp only;omega,by simp only;omega,by simp only;omega,by simp only;exact he⟩ (by simp only;omega))
   ·have h3: ¬i<l.length:=(by simpa using h3);refine .B ?_;exact⟨_,.v Y Y (by rw[Ef (by omega)];rfl) (λ_=>rfl) .nil⟩
def coefAt (c:Con)(k:Nat):Int:=c.coefs.getD k 0
def gA (d:aa)(c:Con)(i:Nat):Bool:=truthR (domAt d (varAt c i))&&(decide (coefAt c i=1)||decide (coefAt c i= -1))
def gz (d:aa)(c:Con):Bool:=(List.range c.vars.length).all (gA d c)
theorem iH {c:Con}{k:Nat}(h:k<c.coefs.length):(c.coefs.map cI)[((k:Nat):Int).toNat]? =some (cI (coefAt c k)):=by
 simp[coefAt,h]
theorem vv (d:aa)(c:Con)(hc:cN d c)(hl:c.vars.length=c.coefs.length)(hd: ∀x∈d,x.length*8<=140737488355328):Spec Tryz.prog 97 false [aJ d,.agg (cC c)] [.val (.bool (gz d c))]:=by
 refine Spec.body Tryz.func97 Y Y Y λw0 Z0=> ?_;obtain⟨h1,h2⟩:=hc;refine .B ?_;refine T.K (T.ind (λi:Nat=>⟨[(0,.val false (aJ d)),(3,.optr 0 0 0 0),(5,.val true (.int .i64 i))],[(0,some (.box false (cC c)))],1⟩) (λi=>i<=c.vars.length/\∀j,j<i->gA d c j=true) (λi=>c.vars.length-i) 0 (by simp) (λ_ _ h=>h) ?_);rintro i ⟨hi,hp⟩ ih;refine .B ?_;refine T.cd Y (λh3=> ?_) (λh3=> ?_)
 ·have h3:i<c.vars.length:=(by simpa using h3);have hv:=h2 _ (aK h3);have ra:(d.map cD)[(varAt c i).toNat]? =some (cD (domAt d (varAt c i))):=(by simp[aq hv.2]);have hu:gA d c i=(truthR (domAt d (varAt c i))&&(decide (coefAt c i=1)||decide (coefAt c i= -1))):=rfl;have ht:=nZ (domAt d (varAt c i)) (hd _ (ah hv.2));have bad:gA d c i=false->gz d c=false:=λe=>by
   rw[gz,FY];exact⟨i,DM.2 h3,by simp[e]⟩
  have good:gA d c i=true->T _ _ _ _:=λe=>ih (i+1) ⟨by omega,λj hj=>by
   by_cases e2:j=i;·rw[e2];exact e
   ·exact hp j (by omega)⟩ (by omega)
  refine .B ?_;refine .F (r:=cI (varAt c i)) (eF h3) ?_;refine J.i Y Y Y Y Y Y Y Y Y (r:=cD (domAt d (varAt c i))) hv.1 ra Y ?_;refine .B ?_;refine .C ht ?_;generalize truthR (domAt d (varAt c i))=tr at*;cases tr
  ·rw[bad hu];refine .B ?_;refine T.ct Y ?_;refine .B ?_;exact r1
  ·rw[EU]at hu;refine .B ?_;refine .F (r:=cI (coefAt c i)) (iH (by omega)) ?_;refine J.g Y Y Y (λh4=> ?_) (λh4=> ?_)
   ·have h4: ¬coefAt c i=1:=h4;refine .B ?_;refine .F (r:=cI (coefAt c i)) (iH (by omega)) ?_;refine T.cd Y (λh5=> ?_) (λh5=> ?_)
    ·have h5: ¬coefAt c i= -1:=h5;rw[bad (by rw[hu];simp[h4,h5])];refine .B ?_;exact r1
    ·have h5:coefAt c i= -1:=Classical.not_not.1 h5;refine .B ?_;rw[ak h3 (by omega)];exact T.K (good (by rw[hu];simp[h5]))
   ·have h4:coefAt c i=1:=Classical.not_not.1 h4;refine .B ?_;refine T.cf Y ?_;refine .B ?_;rw[ak h3 (by omega)];exact T.K (good (by rw[hu];simp[h4]))
 ·have h3:i=c.vars.length:=(by simp at h3;omega);refine .B ?_;refine⟨_,.v Y Y ?_ (λ_=>rfl) .nil⟩;simp only[PV.bool.injEq];rw[eq_comm,gz,DI];intro j hj;exact hp j (by have:=DM.1 hj;omega)
def bareR (c:Con):Bool:=decide (c.op=0)&&decide (c.rhs=0)&&decide (c.b=0)
def opR (c:Con):Bool:=decide (0<=c.op)&&decide (c.op<=2)
def manyR (c:Con):Bool:=decide (0<c.vars.length)&&decide c.vars.Nodup
def noneR (c:Con):Bool:=decide (c.rows.length=0)
def plainR (c:Con):Bool:=bareR c&&decide (c.coefs.length=0)
def rightR (d:aa)(c:Con):Bool:=
 if c.kind=0 then noneR c&&sumR c&&opR c&&decide (c.b=0)else
 if c.kind=1 then noneR c&&plainR c&&manyR c else
 if c.kind=2 then plainR c&&manyR c&&kU c else
 if c.kind=3 then noneR c&&plainR c&&manyR c&&decide (3<=c.vars.length)else
 if c.kind=4 then noneR c&&sumR c&&opR c&&truthR (domAt d c.b)&& !decide (c.b∈c.vars)else
 if c.kind=5 then noneR c&&bareR c&&sumR c&&gz d c else
 noneR c&&plainR c&&decide (2<=c.vars.length)&&decide (c.vars.length % 2=0)
theorem vQ (d:aa)(c:Con)(hc:ConB c)(hv:cN d c)(hb:c.kind=4->0<=c.b/\c.b.toNat<d.length)(hd: ∀x∈d,x.length*8<=140737488355328):Spec Tryz.prog 62 false [aJ d,.agg (cC c)] [.val (.bool (rightR d c))]:=by
 refine Spec.body Tryz.func62 Y Y Y λw0 Z0=> ?_;have hsum:=zH c hc;have hrows:=yp c hc;have hunits:sumR c=true->Spec Tryz.prog 97 false [aJ d,.agg (cC c)] [.val (.bool (gz d c))]:=λh=>vv d c hv (by simp[sumR]at h;omega) hd;have hoth:=m3 c.vars (by have:=hc.1;omega);have hbm:=lI c.vars c.b (by have:=hc.1;omega);refine T.seq ?_;refine T.r ?_
 repeat' first|refine J.e Y Y Y Y ?_|refine J.skip Y Y Y ?_|refine J.bx Y Y Y Y Y Y ?_
 refine J.nil ?_;refine T.mid ⟨[(0,.val false (aJ d)),(3,.optr 0 0 0 0),(5,.val true (.bool (bareR c)))],[(0,some (.box false (cC c)))],1⟩ ?_ ?_
 ·refine .B ?_;refine J.g Y Y Y (λh1=> ?_) (λh1=> ?_)
  ·refine .B ?_;refine J.g Y Y Y (λh2=> ?_) (λh2=> ?_)
   ·rw[show bareR c=decide (c.b=0)by simp[bareR,show c.op=0 from h1,show c.rhs=0 from h2]];refine .B ?_;exact⟨rfl,[0,3,5],[3],rfl,rfl⟩
   ·rw[show bareR c=false by simp[bareR,show¬c.rhs=0 from h2]];refine .B ?_;exact⟨rfl,[0,3,5],[3],rfl,rfl⟩
  ·rw[show bareR c=false by simp[bareR,show¬c.op=0 from h1]];refine .B ?_;exact⟨rfl,[0,3,5],[3],rfl,rfl⟩
 refine T.mid ⟨[(0,.val false (aJ d)),(3,.optr 0 0 0 0),(5,.val true (.bool (bareR c))),(6,.val true (.bool (plainR c)))],[(0,some (.box false (cC c)))],1⟩ ?_ ?_
 ·rw[show plainR c=(bareR c&&decide (((c.coefs.map cI).length:Int)=0))by simp[plainR]];generalize bareR c=bb;cases bb
  ·refine .B ?_;exact⟨rfl,[0,3,5,6],[3],rfl,rfl⟩
  ·refine .B ?_;exact⟨rfl,[0,3,5,6],[3],rfl,rfl⟩
 refine T.mid ⟨[(0,.val false (aJ d)),(3,.optr 0 0 0 0),(5,.val true (.bool (bareR c))),(6,.val true (.bool (plainR c))),(7,.val true (.bool (opR c)))],[(0,some (.box false (cC c)))],1⟩ ?_ ?_
 ·refine .B ?_;refine J.g Y Y Y (λh1=> ?_) (λh1=> ?_)
  ·rw[show opR c=decide (c.op<=2)by simp[opR,show c.op>=0 from h1]];refine .B ?_;exact⟨rfl,[0,3,5,6,7],[3],rfl,rfl⟩
  ·rw[show opR c=false by simp[opR,show¬0<=c.op from h1]];refine .B ?_;exact⟨rfl,[0,3,5,6,7],[3],rfl,rfl⟩
 refine T.mid ⟨[(0,.val false (aJ d)),(3,.optr 0 0 0 0),(5,.val true (.bool (bareR c))),(6,.val true (.bool (plainR c))),(7,.val true (.bool (opR c))),(8,.val true (.bool (manyR c)))],[(0,some (.box false (cC c)))],1⟩ ?_ ?_
 ·refine .B ?_;refine J.g Y Y Y (λh1=> ?_) (λh1=> ?_)
  ·rw[show manyR c=decide c.vars.Nodup by simp only[D9]at h1;simp[manyR];omega];refine .B ?_;refine .D hoth ?_;exact⟨rfl,[0,3,5,6,7,8],[3],rfl,rfl⟩
  ·rw[show manyR c=false by simp only[D9]at h1;simp[manyR];omega];refine .B ?_;exact⟨rfl,[0,3,5,6,7,8],[3],rfl,rfl⟩
 refine T.mid ⟨[(0,.val false (aJ d)),(3,.optr 0 0 0 0),(5,.val true (.bool (bareR c))),(6,.val true (.bool (plainR c))),(7,.val true (.bool (opR c))),(8,.val true (.bool (manyR c))),(9,.val true (.bool (noneR c)))],[(0,some (.box false (cC c)))],1⟩ ?_ ?_
 ·rw[show noneR c=decide (((c.rows.map cL).length:Int)=0)by simp[noneR]];refine .B ?_;exact⟨rfl,[0,3,5,6,7,8,9],[3],rfl,rfl⟩
 refine .B ?_;by_cases hk0:c.kind=0
 ·rw[show rightR d c=(noneR c&&sumR c&&opR c&&decide (c.b=0))by simp[rightR,hk0]];refine T.ct2 Y (by simp[hk0]) ?_;refine .B ?_;generalize noneR c=bn at*;cases bn
  ·refine .B ?_;exact r1
  ·refine .B ?_;refine .C hsum ?_;generalize sumR c=bs at*;cases bs
   ·refine .B ?_;exact r1
   ·refine .B ?_;generalize opR c=bo at*;cases bo
    ·refine .B ?_;exact r1
    ·refine .B ?_;exact⟨_,.v Y Y (by simp<;>omega) (λ_=>rfl) .nil⟩
 refine T.cf2 Y (by simp[hk0]) ?_;refine .B ?_;by_cases hk1:c.kind=1
 ·rw[show rightR d c=(noneR c&&plainR c&&manyR c)by simp[rightR,hk1]];refine T.ct2 Y (by simp[hk1]) ?_;refine .B ?_;generalize noneR c=bn at*;cases bn
  ·refine .B ?_;exact r1
  ·refine .B ?_;generalize plainR c=bp at*;cases bp
   ·refine .B ?_;exact r1
   ·refine .B ?_;exact⟨_,.v Y Y (by simp<;>omega) (λ_=>rfl) .nil⟩
 refine T.cf2 Y (by simp[hk1]) ?_;refine .B ?_;by_cases hk2:c.kind=2
 ·rw[show rightR d c=(plainR c&&manyR c&&kU c)by simp[rightR,hk2]];refine T.ct2 Y (by simp[hk2]) ?_;refine .B ?_;generalize plainR c=bp at*;cases bp
  ·refine .B ?_;exact r1
  ·refine .B ?_;generalize manyR c=bm at*;cases bm
   ·refine .B ?_;exact r1
   ·refine .B ?_;refine .D hrows ?_;exact⟨_,.v Y Y (by simp<;>omega) (λ_=>rfl) .nil⟩
 refine T.cf2 Y (by simp[hk2]) ?_;refine .B ?_;by_cases hk3:c.kind=3
 ·rw[show rightR d c=(noneR c&&plainR c&&manyR c&&decide (3<=c.vars.length))by simp[rightR,hk3]];refine T.ct2 Y (by simp[hk3]) ?_;refine .B ?_;generalize noneR c=bn at*;cases bn
  ·refine .B ?_;exact r1
  ·refine .B ?_;generalize plainR c=bp at*;cases bp
   ·refine .B ?_;exact r1
   ·refine .B ?_;generalize manyR c=bm at*;cases bm
    ·refine .B ?_;exact r1
    ·refine .B ?_;exact⟨_,.v Y Y (by simp<;>omega) (λ_=>rfl) .nil⟩
 refine T.cf2 Y (by simp[hk3]) ?_;refine .B ?_;by_cases hk4:c.kind=4
 ·rw[show rightR d c=(noneR c&&sumR c&&opR c&&truthR (domAt d c.b)&& !decide (c.b∈c.vars))by simp[rightR,hk4]];refine T.ct2 Y (by simp[hk4]) ?_;refine .B ?_;generalize noneR c=bn at*;cases bn
  ·refine .B ?_;exact r1
  ·refine .B ?_;refine .C hsum ?_;generalize sumR c=bs at*;cases bs
   ·refine .B ?_;exact r1
   ·refine .B ?_;generalize opR c=bo at*;cases bo
    ·refine .B ?_;exact r1
    ·refine .B ?_;have hb2:=hb hk4;refine J.i Y Y Y Y Y Y Y Y Y (r:=cD (domAt d c.b)) hb2.1 (by simp[aq hb2.2]) rfl ?_;refine .B ?_;have htr:=nZ (domAt d c.b) (hd _ (ah hb2.2));refine .C htr ?_;generalize truthR (domAt d c.b)=bt at*;cases bt
     ·refine .B ?_;exact r1
     ·refine .B ?_;refine .D hbm ?_;exact⟨_,.v Y Y (by simp<;>omega) (λ_=>rfl) .nil⟩
 refine T.cf2 Y (by simp[hk4]) ?_;refine .B ?_;by_cases hk5:c.kind=5
 ·rw[show rightR d c=(noneR c&&bareR c&&sumR c&&gz d c)by simp[rightR,hk5]];refine T.ct2 Y (by simp[hk5]) ?_;refine .B ?_;generalize noneR c=bn at*;cases bn
  ·refine .B ?_;exact r1
  ·refine .B ?_;generalize bareR c=bb at*;cases bb
   ·refine .B ?_;exact r1
   ·refine .B ?_;refine .C hsum ?_;generalize sumR c=bs at*;cases bs
    ·refine .B ?_;exact r1
    ·refine .B ?_;refine .D (hunits Y) ?_;exact⟨_,.v Y Y (by simp<;>omega) (λ_=>rfl) .nil⟩
 refine T.cf2 Y (by simp[hk5]) ?_;refine .B ?_;rw[show rightR d c=(noneR c&&plainR c&&decide (2<=c.vars.length)&&decide (c.vars.length % 2=0))by simp[rightR,hk0,hk1,hk2,hk3,hk4,hk5]];generalize noneR c=bn at*;cases bn
 ·refine .B ?_;exact r1
 ·refine .B ?_;generalize plainR c=bp at*;cases bp
  ·refine .B ?_;exact r1
  ·refine .B ?_;refine J.g Y Y Y (λh1=> ?_) (λh1=> ?_)
   ·have h1:2<=c.vars.length:=(by simp only[D9]at h1;omega);refine .B ?_;refine⟨_,.v Y Y ?_ (λ_=>rfl) .nil⟩;simp only[D9,EU,h1,decide_true,PV.bool.injEq,decide_eq_decide];rw[Gr (by omega)];omega
   ·have h1: ¬2<=c.vars.length:=(by simp only[D9]at h1;omega);refine .B ?_;exact⟨_,.v Y Y (by simp[h1]) (λ_=>rfl) .nil⟩
def inD (d:aa)(v:Int):Bool:= !(decide (v<0)||decide ((d.length:Int)<=v))
def conR (d:aa)(c:Con):Int:=
 if c.kind<0∨6<c.kind then 44 else
 if(usesR c).all (inD d)=false then 43 else
 if rightR d c=false then 44 else
 if ei c.coefs c.rhs=true then 45 else 0
theorem lH {d:aa}{v:Int}:inD d v=true↔0<=v/\v.toNat<d.length:=by
 simp[inD];omega
theorem rF {d:aa}{c:Con}(hc:ConB c)(h:(usesR c).all (inD d)=true):cN d c/\(c.kind=4->0<=c.b/\c.b.toNat<d.length):=by
 have h1: ∀v,v∈(if c.kind=4 then c.vars++[c.b]else c.vars)->0<=v/\v.toNat<d.length:=λv hv=>lH.1 (DI.1 h v ((bK v _).2 hv));refine⟨⟨by have:=hc.1;omega,λv hv=>h1 v ?_⟩,λhk=>h1 c.b ?_⟩
 ·split;·exact Do _ hv
  ·exact hv
 ·rw[D4 hk];simp
theorem uZ (d:aa)(c:Con)(hc:ConB c)(hl:d.length*8<=140737488355328)(hd: ∀x∈d,x.length*8<=140737488355328):Spec Tryz.prog 32 false [aJ d,.agg (cC c)] [.val (.int .i64 (conR d c))]:=by
 refine Spec.body Tryz.func32 Y Y Y λw0 Z0=> ?_;have hu:=(x8 c hc).frz;have hul:(usesR c).length*8<=140737488355328:=by
  have h1:=fk (if c.kind=4 then c.vars++[c.b]else c.vars);have h2:(if c.kind=4 then c.vars++[c.b]else c.vars).length<=c.vars.length+1:=(by split<;>simp);have:=hc.1;unfold usesR;omega
 have hin:=rF (d:=d) hc;have hcon:conR d c=if c.kind<0∨6<c.kind then 44 else if(usesR c).all (inD d)=false then 43 else if rightR d c=false then 44 else if ei c.coefs c.rhs=true then 45 else 0:=rfl
 generalize usesR c=u at*;refine .B ?_;refine J.g Y Y Y (λh1=> ?_) (λh1=> ?_)
 ·rw[hcon,D4 (.inl h1)];refine .B ?_;refine T.ct Y ?_;refine .B ?_;exact r1
 ·refine .B ?_;refine T.cd Y (λh2=> ?_) (λh2=> ?_)
  ·rw[hcon,D4 (.inr h2)];refine .B ?_;exact r1
  ·rw[D2 (λh=>h.elim h1 h2)]at hcon;refine .B ?_;refine .D hu ?_;refine T.K (T.listI u (λpre=>pre.all (inD d)=true) (λn pre post=>⟨[(0,.val false (aJ d)),(3,.optr 0 0 0 0),(5,.val true (ao u)),(6,.val true (.int .i64 n))],[(0,some (.box false (cC c)))],1⟩) (λ_ _ h=>h) Y ?_ ?_)
   ·rintro n pre x post h hn hi ih;have hlt:=cg h hn;have hra:=aS (enc:=cI) h hn;have bad:(decide (x<0)||decide ((d.length:Int)<=x))=true->conR d c=43:=λe=>by
     rw[hcon,D4];rw[h,Er,Fb,inD,e];simp
    refine .B ?_;refine T.ct2 Y (ce h hn) ?_;refine .B ?_;refine .F (r:=cI x) hra ?_;refine J.g Y Y Y (λh3=> ?_) (λh3=> ?_)
    ·rw[bad (by simp[show x<0 from h3])];refine .B ?_;refine T.ct Y ?_;refine .B ?_;exact r1
    ·refine .B ?_;refine .F (r:=cI x) hra ?_;refine T.cd Y (λh4=> ?_) (λh4=> ?_)
     ·have h4:(d.length:Int)<=x:=(by simp only[D9]at h4;omega);rw[bad (by simp[h4])];refine .B ?_;exact r1
     ·have h4: ¬(d.length:Int)<=x:=(by simp only[D9]at h4;omega);refine .B ?_;rw[ak hlt (by omega)];refine T.K (ih ?_);rw[Er,hi];simp[inD,show¬x<0 from h3,h4]
   ·intro hi;obtain⟨hv,hb⟩:=hin hi;rw[D2 (by simp[hi])]at hcon;refine .B ?_;refine T.cf2 Y bA ?_;refine .B ?_;refine .D (vQ d c hc hv hb hd) ?_;refine T.cond Y (λh3=> ?_) (λh3=> ?_)
    ·rw[hcon,D4 (by simpa using h3)];refine .B ?_;exact r1
    ·rw[D2 (by simpa using h3)]at hcon;refine .B ?_;refine .D (AT c.coefs c.rhs hc.2.1) ?_;refine T.cond Y (λh4=> ?_) (λh4=> ?_)
     ·rw[hcon,D4 h4];refine .B ?_;exact r1
     ·rw[hcon,D2 (by simp[h4])];refine .B ?_;exact r1
set_option maxRecDepth 8000
abbrev bu:=List (Int×Bool)
abbrev By:=List (Int×Int)
def iS (rec:bu->By->Int->Bool×bu×By)(i:Int):List Int->bu->By->Bool×bu×By
 | [],s,b=>(false,s,b)
 |v::vs,s,b=>if(lkA s v).getD false=true then iS rec i vs s b else
  match lkA b v with
  |none=>(true,upA s v true,upA b v i)
  |some k=>match rec (upA s v true) b k with
   |(true,s2,b2)=>(true,s2,upA b2 v i)
   |(false,s2,b2)=>iS rec i vs s2 b2
def fj (l:List (List Int)):Nat->Int->bu->By->Bool×bu×By
 |0,_,s,b=>(false,s,b)
 |f+1,i,s,b=>iS (λs b k=>fj l f k s b) i (l.getD i.toNat []) s b
def dW (l:List (List Int))(s:bu):Nat:=(l.flatten.filter λv=> !(lkA s v).getD false).length
def mpS (s:bu):Own:= .mp true none (s.map λp=>(Value.int .i64 p.1,PV.bool p.2))
def mpB (b:By):Own:= .mp true none (b.map λp=>(Value.int .i64 p.1,PV.int .i64 p.2))
def iV (l:List (List Int))(b:By):Prop:= ∀p∈b,0<=p.2/\p.2.toNat<l.length
theorem sf {α β:Type}[DecidableEq α](p:α×β)(l:List (α×β))(a:α):fiA (p::l) a=if p.1=a then some 0 else(fiA l a).map (· +1):=by
 unfold fiA;rw[FR];by_cases h:p.1=a;·simp[h]
 ·simp[h]
theorem wC {α β:Type}[DecidableEq α](a:α):lkA ([]:List (α×β)) a=none:=rfl
theorem cY {α β:Type}[DecidableEq α](p:α×β)(l:List (α×β))(a:α):lkA (p::l) a=if p.1=a then some p.2 else lkA l a:=by
 unfold lkA;rw[sf];by_cases h:p.1=a;·rw[D4 h,D4 h];rfl
 ·rw[D2 h,D2 h];cases fiA l a<;>simp
theorem g8 {α β:Type}[DecidableEq α](p:α×β)(l:List (α×β))(a:α)(b:β):upA (p::l) a b=if p.1=a then(a,b)::l else p::upA l a b:=by
 unfold upA;rw[sf];by_cases h:p.1=a;·rw[D4 h,D4 h];rfl
 ·rw[D2 h,D2 h];cases fiA l a<;>simp
theorem lw {α β:Type}[DecidableEq α](a c:α)(b:β): ∀l:List (α×β),lkA (upA l a b) c=if a=c then some b else lkA l c
 | []=>by
  show lkA [(a,b)] c=_;exact cY (a,b) [] c
 |p::l=>by
  rw[g8,cY];by_cases h:p.1=a
  ·rw[D4 h,cY];by_cases e:a=c;·rw[D4 e,D4 e]
   ·rw[D2 e,D2 e,D2 (λh2=>e (h.symm.trans h2))]
  ·rw[D2 h,cY,lw a c b l];by_cases e:p.1=c;·rw[D4 e,D4 e,D2 (λh2=>h (e.trans h2.symm))]
   ·rw[D2 e,D2 e]
theorem mem_upA {α β:Type}[DecidableEq α]{a:α}{b:β}{p:α×β}: ∀{l:List (α×β)},p∈upA l a b->p∈l∨p=(a,b)
 | [],h=> .inr (by simpa[upA,fiA]using h)
 |q::l,h=>by
  rw[g8]at h;split at h
  ·rcases DO.1 h with h|h;·exact .inr h
   ·exact .inl (.tail _ h)
  ·rcases DO.1 h with h|h;·exact .inl (h▸.head _)
   ·rcases mem_upA h with h|h;·exact .inl (.tail _ h)
    ·exact .inr h
theorem iV.up {l:List (List Int)}{b:By}(h:iV l b){v i:Int}(h0:0<=i)(hi:i.toNat<l.length):iV l (upA b v i):=λp hp=>by
 rcases mem_upA hp with hp|rfl;·exact h p hp
 ·exact⟨h0,hi⟩
theorem eP {α β:Type}[DecidableEq α]{a:α}{b:β}: ∀{l:List (α×β)},lkA l a=some b->(a,b)∈l
 | [],h=>by cases h
 |p::l,h=>by
  rw[cY]at h;split at h
  ·rename_i e;obtain rfl:=D3 h;subst e;exact .head _
  ·exact .tail _ (eP h)
def sees (s:bu)(v:Int):Prop:=(lkA s v).getD false=true
structure TryOk (l:List (List Int))(s:bu)(R:Bool×bu×By):Prop where
 seen: ∀v,sees s v->sees R.2.1 v
 byIn:iV l R.2.2
theorem sees_up {s:bu}{v w:Int}:sees (upA s v true) w↔v=w∨sees s w:=by
 unfold sees;rw[lw];by_cases e:v=w;·simp[e]
 ·simp[e]
theorem rG {l:List (List Int)}{rec:bu->By->Int->Bool×bu×By}{i:Int}(h0:0<=i)(hi:i.toNat<l.length)(hr: ∀s b k,iV l b->0<=k->k.toNat<l.length->TryOk l s (rec s b k)): ∀(vs:List Int) (s:bu) (b:By),iV l b->TryOk l s (iS rec i vs s b)
 | [],s,b,hb=>⟨λ_ h=>h,hb⟩
 |v::vs,s,b,hb=>by
  rw[iS];split;·exact rG h0 hi hr vs s b hb
  ·split;·exact⟨λw hw=>sees_up.2 (.inr hw),hb.up h0 hi⟩
   ·rename_i k hk;have hk2:=hb _ (eP hk);have h1:=hr (upA s v true) b k hb hk2.1 hk2.2;split
    ·rename_i s2 b2 e;rw[e]at h1;exact⟨λw hw=>h1.seen w (sees_up.2 (.inr hw)),h1.byIn.up h0 hi⟩
    ·rename_i s2 b2 e;rw[e]at h1;have h2:=rG h0 hi hr vs s2 b2 h1.byIn;exact⟨λw hw=>h2.seen w (h1.seen w (sees_up.2 (.inr hw))),h2.byIn⟩
theorem nD (l:List (List Int)): ∀(f:Nat) (i:Int) (s:bu) (b:By),0<=i->i.toNat<l.length->iV l b->TryOk l s (fj l f i s b)
 |0,i,s,b,_,_,hb=>⟨λ_ h=>h,hb⟩
 |f+1,i,s,b,h0,hi,hb=>by
  rw[fj];exact rG h0 hi (λs b k hb h1 h2=>nD l f k s b h1 h2 hb) _ _ _ hb
theorem jY {α:Type}{p q:α->Bool}: ∀(l:List α),(∀x,q x=true->p x=true)->(l.filter q).length<=(l.filter p).length
 | [],_=>DL _
 |x::l,h=>by
  have:=jY l h;by_cases hq:q x=true;·rw[FH hq,FH (h x hq)];simpa using this
  ·rw[FZ hq];by_cases hp:p x=true;·rw[FH hp];simp;omega
   ·rw[FZ hp];exact this
theorem p4 {l:List (List Int)}{s s2:bu}(h: ∀v,sees s v->sees s2 v):dW l s2<=dW l s:=by
 refine jY _ λv hv=> ?_;by_cases hs:sees s v
 ·have:=h v hs;unfold sees at this;simp[this]at hv
 ·unfold sees at hs;simpa using hs
theorem pZ {l:List (List Int)}{s:bu}{v:Int}(hv:v∈l.flatten)(hs: ¬sees s v):dW l (upA s v true)<dW l s:=by
 refine jG _ v (λw hw=> ?_) hv ?_ ?_
 ·by_cases h:sees s w
  ·have:sees (upA s v true) w:=sees_up.2 (.inr h);unfold sees at this;simp[this]at hw
  ·unfold sees at h;simpa using h
 ·unfold sees at hs;simpa using hs
 ·have:sees (upA s v true) v:=sees_up.2 (.inl Y);unfold sees at this;simp[this]
abbrev uN (p2 p5 p6:Value):PV:= .fn (.func 241) [] [.raw p2,.raw p5,.raw p6]
theorem zx (w:World):(zeroValue 4).run Tryz.prog w= .ok (.bool false) w:=by kernel_rfl
theorem Cx (w:World):(zeroValue 3).run Tryz.prog w= .ok (.int .i64 0) w:=by kernel_rfl
theorem zC (l:List (List Int))(hl:l.length*24<=140737488355328)(hx: ∀x∈l,x.length*8<=140737488355328): ∀(f:Nat) (i:Int) (s:bu) (b:By) (p2 p5 p6 pm pb ps:Value),dW l s<f->0<=i->i.toNat<l.length->iV l b->
  SpecO Tryz.prog 241 false [p2,p5,p6,pm,pb,ps] [.box true [.raw pm],.box true [.raw ps],.box true [uN p2 p5 p6],.box true [bT l,.raw pb],mpB b,mpS s] [.int .i64 i,.raw p2,.raw p5,.raw p6]
   [.box true [.raw pm],.box true [.raw ps],.box true [uN p2 p5 p6],.box true [bT l,.raw pb],mpB (fj l f i s b).2.2,mpS (fj l f i s b).2.1] (λ_=>[]) (λ_=>[.bool (fj l f i s b).1]):=by
 intro f
 induction f with
 |zero=>intro i s b _ _ _ _ _ _ h;omega
 |succ f ihf=>
  intro i s0 b0 p2 p5 p6 pm pb ps hf h0 hi hb0;have hrow:(l.map cL)[i.toNat]? =some (cL (l.getD i.toNat [])):=(by simp[hi]);have hgl:(l.getD i.toNat []).length*8<=140737488355328:=by
   rw[D0,D1 hi];exact hx _ (D8 hi)
  have hgm: ∀v∈l.getD i.toNat [],v∈l.flatten:=by
   rw[D0,D1 hi];exact λv hv=>Ft.2 ⟨_,D8 hi,hv⟩
  rw[fj];generalize l.getD i.toNat []=vs at*;generalize hR:iS (λs b k=>fj l f k s b) i vs s0 b0=R;refine SpecO.body [1001,1002,1003,1004,1005,1006] [] Tryz.func241 Y Y Y Y λw0 Z1=> ?_;refine T.sub (Rel.derawp (s:=1) (g:=1001) Y Y Y) ?_;refine T.sub (Rel.derawp (s:=2) (g:=1002) Y Y Y) ?_;refine T.sub (Rel.derawp (s:=3) (g:=1003) Y Y Y) ?_;refine T.sub (Rel.fine (s:=0) Y Y) ?_;refine .B ?_;refine J.sub (Rel.derawp (s:=10) (g:=1004) Y Y Y) ?_;refine .B ?_;refine J.i Y Y Y Y Y Y Y Y Y (r:=cL vs) h0 hrow Y ?_;refine .B ?_;refine T.K (T.ind (λx:Nat×bu×By=>⟨[(0,.val true (.int .i64 i)),(1,.optr 0 0 0 0),(2,.optr 1 0 0 0),(3,.optr 2 0 0 0),(16,.val true (ao vs)),(17,.val true (.int .i64 (vs.map cI).length)),(18,.val true (.int .i64 x.1)),(1001,.eq p2 0),(1002,.eq p5 1),(1003,.eq p6 2),(1004,.eq pm 3),(1005,.eq pb 4),(1006,.eq ps 5)],
    [(0,some (.box true [.raw pm])),(1,some (.box true [.raw ps])),(2,some (.box true [uN p2 p5 p6])),(3,some (.box true [bT l,.raw pb])),(4,some (mpB x.2.2)),(5,some (mpS x.2.1))],6⟩)
   (λx=>x.1<=vs.length/\iS (λs b k=>fj l f k s b) i (vs.drop x.1) x.2.1 x.2.2=R/\dW l x.2.1<f+1/\iV l x.2.2) (λx=>vs.length-x.1) (0,s0,b0) ⟨by simp,hR,hf,hb0⟩ (λ_ _ h=>h) ?_)
  rintro⟨k,s,b⟩ ⟨hk,hR,hu,hb⟩ ih;simp only at hk hR hu hb;dsimp only;refine .B ?_;refine T.cd Y (λh1=> ?_) (λh1=> ?_)
  rotate_left
  ·have h1:k=vs.length:=(by simp at h1;omega);subst h1;rw[EY,iS]at hR;subst hR;refine .B ?_;exact⟨[0,1,2,3,4,5],[],[],⟨rfl,rfl,rfl,rfl,rfl,rfl,rfl,rfl,rfl,rfl,rfl,rfl,rfl,rfl,rfl,rfl,rfl,rfl,trivial⟩,trivial,rfl,.v Y Y Y (λ_=>rfl) .nil⟩
  have h1:k<vs.length:=(by simpa using h1);rw[DQ h1,iS]at hR;have hvm:=hgm _ (D8 h1);generalize hv:vs[k]=v at*;have hvr:(vs.map cI)[((k:Nat):Int).toNat]? =some (cI v):=(by rw[<-hv];exact aO h1);have next: ∀s2 b2,iS (λs b k=>fj l f k s b) i (vs.drop (k+1)) s2 b2=R->dW l s2<f+1->iV l b2->_:=λs2 b2 e1 e2 e3=>ih (k+1,s2,b2) ⟨by omega,e1,e2,e3⟩ (by show _-_<_-_;omega)
  dsimp only at next
  have hw1:IntKind.i64.wrap ((k:Int)+1)=((k+1:Nat):Int):=ak (l:=vs.length) h1 hgl;refine .B ?_;refine .F (r:=cI v) hvr ?_;refine J.sub (Rel.deraw (s:=22) (g:=1006) Y Y) ?_;refine .B ?_;refine J.ml v (.bool false) Y Y Y Y Y Y Y Y Y zx (λ_ _=> .bool _) (nw Tryz.underlying3) (λ_ _ _ h=>c7 h) ?_;have hmb:((lkA s v).map PV.bool).getD (.bool false)= .bool ((lkA s v).getD false):=(by cases lkA s v<;>rfl);rw[hmb];by_cases hs:(lkA s v).getD false=true
  ·rw[D4 hs]at hR;rw[hs];refine .B ?_;refine T.ct Y ?_;refine .B ?_;rw[hw1];exact T.K (next s b hR hu hb)
  rw[D2 hs]at hR;rw[eq_false_of_ne_true hs];have hlt:=pZ hvm hs;refine .B ?_;refine T.cf Y ?_;refine .B ?_;refine J.sub (Rel.deraw (s:=25) (g:=1006) Y Y) ?_;refine .B ?_;refine J.mu v true Y Y Y Y Y Y Y Y Y Y Y (nw Tryz.underlying3) (λ_ _ _ h=>c7 h) Y ?_;refine .B ?_;refine J.sub (Rel.derawp (s:=28) (g:=1004) Y Y Y) ?_;refine .B ?_;refine J.sub (Rel.deraw (s:=31) (g:=1005) Y Y) ?_;refine .B ?_;refine J.ml v (.int .i64 0) Y Y Y Y Y Y Y Y Y Cx (λ_ _=> .int _ _) (nw Tryz.underlying3) (λ_ _ _ h=>c7 h) ?_;cases hk2:lkA b v with
  |none=>
   rw[hk2]at hR;simp only at hR;subst hR;refine .B ?_;refine T.ct Y ?_;refine .B ?_;refine J.sub (Rel.derawp (s:=43) (g:=1004) Y Y Y) ?_;refine .B ?_;refine J.sub (Rel.deraw (s:=46) (g:=1005) Y Y) ?_;refine .B ?_;refine J.mu v i Y Y Y Y Y Y Y Y Y Y Y (nw Tryz.underlying3) (λ_ _ _ h=>c7 h) Y ?_;refine .B ?_;exact⟨[0,1,2,3,4,5],[],[],⟨rfl,rfl,rfl,rfl,rfl,rfl,rfl,rfl,rfl,rfl,rfl,rfl,rfl,rfl,rfl,rfl,rfl,rfl,trivial⟩,trivial,rfl,.v Y Y Y (λ_=>rfl) .nil⟩
  |some q=>
   rw[hk2]at hR;simp only at hR;have hq:=hb _ (eP hk2);have hrec:=ihf q (upA s v true) b p2 p5 p6 pm pb ps (by omega) hq.1 hq.2 hb;have hok:=nD l f q (upA s v true) b hq.1 hq.2 hb;refine .B ?_;refine J.co (qs:=[0,1,2,3,4,5]) (cs2:=[.box true [.raw pm],.box true [.raw ps],.box true [uN p2 p5 p6],.box true [bT l,.raw pb],mpB b,mpS (upA s v true)]) true [1001,1002,1003,1004,1005,1006] [] Y Y Y Y Y Y hrec ⟨rfl,rfl,rfl,rfl,rfl,rfl,rfl,rfl,rfl,rfl,rfl,rfl,trivial⟩ Y Y Y Y Y Y Y λns hns=> ?_;obtain rfl:ns=[]:=DP hns;generalize hT:fj l f q (upA s v true) b=TR at*;obtain⟨r,s2,b2⟩:=TR;have hsu:dW l s2<f+1:=by
    have:=p4 (l:=l) hok.seen;dsimp only at this;omega
   have hby:iV l b2:=hok.byIn;dsimp only;refine .B ?_;cases r with
   |false=>
    refine .B ?_;refine T.cf Y ?_;refine .B ?_;rw[hw1];exact T.K (next s2 b2 hR hsu hby)
   |true=>
    simp only at hR;subst hR;refine T.ct Y ?_;refine .B ?_;refine J.sub (Rel.derawp (s:=43) (g:=1004) Y Y Y) ?_;refine .B ?_;refine J.sub (Rel.deraw (s:=46) (g:=1005) Y Y) ?_;refine .B ?_;refine J.mu v i Y Y Y Y Y Y Y Y Y Y Y (nw Tryz.underlying3) (λ_ _ _ h=>c7 h) Y ?_;refine .B ?_;exact⟨[0,1,2,3,4,5],[],[],⟨rfl,rfl,rfl,rfl,rfl,rfl,rfl,rfl,rfl,rfl,rfl,rfl,rfl,rfl,rfl,rfl,rfl,rfl,trivial⟩,trivial,rfl,.v Y Y Y (λ_=>rfl) .nil⟩
abbrev lK (l:List (List Int))(i:Int)(b:By):Bool×bu×By:=fj l (l.flatten.length+1) i [] b
theorem nX (l:List (List Int)):dW l []<l.flatten.length+1:=Nat.lt_succ_of_le (EX _ _)
theorem y9 (l:List (List Int))(hl:l.length*24<=140737488355328)(hx: ∀x∈l,x.length*8<=140737488355328)(i:Int)(b:By)(pm pb:Value)(h0:0<=i)(hi:i.toNat<l.length)(hb:iV l b):
  SpecO Tryz.prog 225 false [pm,pb] [.box true [bT l,.raw pb],mpB b] [.raw pm,.int .i64 i] [.box true [bT l,.raw pb],mpB (lK l i b).2.2] (λ_=>[]) (λ_=>[.bool (lK l i b).1]):=by
 refine SpecO.body [1001,1002] [] Tryz.func225 Y Y Y Y λw0 Z1=> ?_;refine T.sub (Rel.fine (s:=0) Y Y) ?_;refine T.sub (Rel.fine (s:=1) Y Y) ?_;refine T.canon (keep:=[0,1,1001,1002]) (os:=[1001,1002]) Y ?_;refine .B ?_;refine J.mm Y Y Y Y ?_;refine .L ?_;refine J.name 1003 (s:=7) Y Y Y λps=> ?_;refine J.sub (Rel.raw (s:=7) (g:=1003) Y (.inl Y) Y Y Y) ?_;refine .X ?_;refine .L ?_;refine .B ?_;refine J.name 1004 (s:=2) Y Y Y λp2=> ?_;refine J.name 1005 (s:=5) Y Y Y λp5=> ?_;refine J.name 1006 (s:=6) Y Y Y λp6=> ?_;refine J.sub (Rel.raw (s:=2) (g:=1004) Y (.inr Y) Y Y Y) ?_;refine J.sub (Rel.raw (s:=5) (g:=1005) Y (.inr Y) Y Y Y) ?_;refine J.sub (Rel.raw (s:=6) (g:=1006) Y (.inr Y) Y Y Y) ?_;refine .B ?_;refine J.sub (Rel.derawp (s:=6) (g:=1006) Y Y Y) ?_;refine J.sub (Rel.fineF (s:=8) Y Y Y) ?_;refine .X ?_;refine J.co (qs:=[2,4,5,0,1,3]) (cs2:=[.box true [.raw pm],.box true [.raw ps],.box true [uN p2 p5 p6],.box true [bT l,.raw pb],mpB b,mpS []]) true [1004,1005,1006,1001,1002,1003] [] Y Y Y Y Y Y (zC l hl hx (l.flatten.length+1) i [] b p2 p5 p6 pm pb ps (nX l) h0 hi hb) ⟨rfl,rfl,rfl,rfl,rfl,rfl,rfl,rfl,rfl,rfl,rfl,rfl,trivial⟩ Y Y Y Y Y Y Y λns hns=> ?_;obtain rfl:ns=[]:=DP hns;refine .B ?_;exact⟨[0,1],[],[],⟨rfl,rfl,rfl,rfl,rfl,rfl,trivial⟩,trivial,rfl,.v Y Y Y (λ_=>rfl) .nil⟩
def d7 (l:List (List Int)):Nat->Nat->By->Option By
 |0,_,b=>some b
 |n+1,i,b=>match lK l (i:Nat) b with
  |(true,_,b2)=>d7 l n (i+1) b2
  |(false,_,_)=>none
def c6 (l:List (List Int)):Option By:=d7 l l.length 0 []
theorem ll (l:List (List Int))(hl:l.length*24<=140737488355328)(hx: ∀x∈l,x.length*8<=140737488355328):
  SpecO Tryz.prog 183 true [] [] [bT l] [] (λns=>match c6 l with|some b=>[.box true [bT l,.raw (ns.getD 1 undef)],mpB b]|none=>[]) (λns=>match c6 l with|some b=>[.raw (ns.getD 0 undef),.bool true]|none=>[.nilp,.bool false]):=by
 generalize hR:c6 l=R;refine SpecO.body [] (match R with|some _=>[1003,1001]|none=>[]) Tryz.func183 Y Y Y Y λw0 Z1=> ?_;refine T.canon (keep:=[0]) (os:=[]) Y ?_;refine .B ?_;refine J.mm Y Y Y Y ?_;refine J.name 1001 (s:=7) Y Y Y λpb=> ?_;refine J.sub (Rel.raw (s:=7) (g:=1001) Y (.inl Y) Y Y Y) ?_;refine .B ?_;refine T.name 1003 (s:=4) Y Y Y λpm=> ?_;refine T.sub (Rel.raw (s:=4) (g:=1003) Y (.inr Y) Y Y Y) ?_;have hlen:(l.map cL).length=l.length:=D9 ..;rw[hlen];refine T.K (T.ind (λx:Nat×By=>⟨[(4,.val true (.raw pm)),(11,.val true (.int .i64 l.length)),(12,.val true (.int .i64 x.1)),(1001,.eq pb 0),(1003,.eq pm 1)],
    [(0,some (mpB x.2)),(1,some (.box true [bT l,.raw pb]))],2⟩)
   (λx=>x.1<=l.length/\d7 l (l.length-x.1) x.1 x.2=R/\iV l x.2) (λx=>l.length-x.1) (0,[]) ⟨by simp,hR,λp hp=>by cases hp⟩ (λ_ _ h=>h) ?_)
 rintro⟨k,b⟩ ⟨hk,hR,hb⟩ ih;simp only at hk hR hb;dsimp only;refine .B ?_;refine T.cd Y (λh1=> ?_) (λh1=> ?_)
 rotate_left
 ·have h1:k=l.length:=(by simp at h1;omega);subst h1;rw[GI,d7]at hR;subst hR;refine .B ?_;exact⟨[],[1,0],[pm,pb],trivial,⟨rfl,rfl,rfl,rfl,rfl,rfl,trivial⟩,rfl,.v Y Y Y (λ_=>rfl) (.v Y Y Y (λ_=>rfl) .nil)⟩
 have h1:k<l.length:=(by simpa using h1);rw[show l.length-k=(l.length-(k+1))+1 by omega,d7]at hR;have hok:=nD l (l.flatten.length+1) (k:Nat) [] b (by omega) (by omega) hb;have hsp:=y9 l hl hx (k:Nat) b pm pb (by omega) (by omega) hb;have hw1:IntKind.i64.wrap ((k:Int)+1)=((k+1:Nat):Int):=by
  have:=ak (l:=l.length) h1 (by omega);exact this
 refine .B ?_;refine J.co (qs:=[1,0]) (cs2:=[.box true [bT l,.raw pb],mpB b]) true [1003,1001] [] Y Y Y Y Y Y hsp ⟨rfl,rfl,rfl,rfl,trivial⟩ Y Y Y Y Y Y Y λns hns=> ?_;obtain rfl:ns=[]:=DP hns;generalize hT:lK l (k:Nat) b=TR at*;rw[show fj l (l.flatten.length+1) (k:Nat) [] b=TR from hT]at hok;obtain⟨r,s2,b2⟩:=TR;dsimp only;refine .B ?_;cases r with
 |false=>
  simp only at hR;subst hR;refine T.ct Y ?_;refine .B ?_;exact⟨[],[],[],trivial,trivial,rfl,.v Y Y Y (λ_=>rfl) (.v Y Y Y (λ_=>rfl) .nil)⟩
 |true=>
  simp only at hR;refine T.cf Y ?_;refine .B ?_;rw[hw1];exact T.K (ih (k+1,b2) ⟨by omega,hR,hok.byIn⟩ (by show _-_<_-_;omega))
def cnt (b:By)(j:Int):Nat:=b.countP λp=>decide (p.2=j)
theorem AS (b:By)(v i j:Int):cnt (upA b v i) j+(if lkA b v=some j then 1 else 0)=cnt b j+if i=j then 1 else 0:=by
 induction b with
 |nil=>
  show List.countP _ [(v,i)]+0=0+_;rw[Fv];simp
 |cons p b ih=>
  unfold cnt at*;rw[g8,cY];by_cases h:p.1=v
  ·rw[D4 h,D4 h,Fv,Fv];simp only[DN,D6];omega
  ·rw[D2 h,D2 h,Fv,Fv];omega
structure TT (i:Int)(s:bu)(b:By)(R:Bool×bu×By):Prop where
 mono: ∀v,sees s v->sees R.2.1 v
 no:R.1=false->R.2.2=b
 more:R.1=true->∀j,cnt R.2.2 j=cnt b j+if i=j then 1 else 0
 keep:R.1=true->∀v,sees s v->lkA R.2.2 v=lkA b v
theorem kK {rec:bu->By->Int->Bool×bu×By}{i:Int}(hr: ∀s b k,TT k s b (rec s b k)): ∀(vs:List Int) (s:bu) (b:By),TT i s b (iS rec i vs s b)
 | [],s,b=>⟨λ_ h=>h,λ_=>rfl,λh=>(by cases h),λh=>(by cases h)⟩
 |v::vs,s,b=>by
  rw[iS];split;·exact kK hr vs s b
  ·rename_i hs;have hne: ∀w,sees s w->¬v=w:=λw hw e=>hs (e▸hw);split
   ·rename_i hk;refine⟨λw hw=>sees_up.2 (.inr hw),λh=>(by cases h),λ_ j=> ?_,λ_ w hw=> ?_⟩
    ·have:=AS b v i j;rw[hk]at this;simpa using this
    ·show lkA (upA b v i) w=_;rw[lw,D2 (hne w hw)]
   ·rename_i k hk;have h1:=hr (upA s v true) b k;have hv:sees (upA s v true) v:=sees_up.2 (.inl Y);split
    ·rename_i s2 b2 e;rw[e]at h1;refine⟨λw hw=>h1.mono w (sees_up.2 (.inr hw)),λh=>(by cases h),λ_ j=> ?_,λ_ w hw=> ?_⟩
     ·have e1:=AS b2 v i j;have e2:=h1.more Y j;have e3:=h1.keep Y v hv;simp only at e2 e3;rw[e3,hk]at e1;simp only[D6]at e1;show cnt (upA b2 v i) j=_;omega
     ·show lkA (upA b2 v i) w=_;rw[lw,D2 (hne w hw)];exact h1.keep Y w (sees_up.2 (.inr hw))
    ·rename_i s2 b2 e;rw[e]at h1;obtain rfl:b2=b:=h1.no Y;have h2:=kK (i:=i) hr vs s2 b2;exact⟨λw hw=>h2.mono w (h1.mono w (sees_up.2 (.inr hw))),h2.no,h2.more,λh w hw=>h2.keep h w (h1.mono w (sees_up.2 (.inr hw)))⟩
theorem nC (l:List (List Int)): ∀(f:Nat) (i:Int) (s:bu) (b:By),TT i s b (fj l f i s b)
 |0,i,s,b=>⟨λ_ h=>h,λ_=>rfl,λh=>(by cases h),λh=>(by cases h)⟩
 |f+1,i,s,b=>by
  rw[fj];exact kK (λs b k=>nC l f k s b) _ _ _
def nA (l:List (List Int))(b:By):Prop:= ∀p∈b,p.1∈l.getD p.2.toNat []
theorem nA.up {l:List (List Int)}{b:By}(h:nA l b){v i:Int}(hv:v∈l.getD i.toNat []):nA l (upA b v i):=λp hp=>by
 rcases mem_upA hp with hp|rfl;·exact h p hp
 ·exact hv
theorem lZ {l:List (List Int)}{rec:bu->By->Int->Bool×bu×By}{i:Int}(hr: ∀s b k,nA l b->nA l (rec s b k).2.2): ∀(vs:List Int) (s:bu) (b:By),(∀v∈vs,v∈l.getD i.toNat [])->nA l b->nA l (iS rec i vs s b).2.2
 | [],s,b,_,hb=>hb
 |v::vs,s,b,hv,hb=>by
  rw[iS];split;·exact lZ hr vs s b (λw hw=>hv w (.tail _ hw)) hb
  ·split;·exact hb.up (hv v (.head _))
   ·rename_i k _;have h1:=hr (upA s v true) b k hb;split
    ·rename_i s2 b2 e;rw[e]at h1;exact h1.up (hv v (.head _))
    ·rename_i s2 b2 e;rw[e]at h1;exact lZ hr vs s2 b2 (λw hw=>hv w (.tail _ hw)) h1
theorem p8 (l:List (List Int)): ∀(f:Nat) (i:Int) (s:bu) (b:By),nA l b->nA l (fj l f i s b).2.2
 |0,i,s,b,h=>h
 |f+1,i,s,b,h=>by
  rw[fj];exact lZ (λs b k h=>p8 l f k s b h) _ _ _ (λ_ h=>h) h
theorem pg {l:List (List Int)}: ∀(n i:Nat) (b b2:By),n+i=l.length->nA l b->(∀j:Int,cnt b j=if 0<=j/\j<(i:Nat)then 1 else 0)->d7 l n i b=some b2->nA l b2/\∀j:Int,cnt b2 j=if 0<=j/\j<(l.length:Nat)then 1 else 0
 |0,i,b,b2,hi,hb,hc,h=>by
  cases h;rw[show l.length=i by omega];exact⟨hb,hc⟩
 |n+1,i,b,b2,hi,hb,hc,h=>by
  have h1:=nC l (l.flatten.length+1) (i:Nat) [] b;have h2:=p8 l (l.flatten.length+1) (i:Nat) [] b hb;rw[d7]at h;generalize hT:lK l (i:Nat) b=R at*;rw[show fj l (l.flatten.length+1) (i:Nat) [] b=R from hT]at h1 h2;obtain⟨r,s,b3⟩:=R;cases r with
  |false=>cases h
  |true=>
   refine pg n (i+1) b3 b2 (by omega) h2 (λj=> ?_) h;have:=h1.more Y j;simp only at this;rw[this,hc j];by_cases e:((i:Nat):Int)=j;·rw[D4 e,D2 (by omega),D4 (by omega)]
   ·rw[D2 e];by_cases e2:0<=j/\j<(i:Nat);·rw[D4 e2,D4 (by omega)]
    ·rw[D2 e2,D2 (by omega)]
theorem ms {l:List (List Int)}{b:By}(h:c6 l=some b):nA l b/\∀j:Int,cnt b j=if 0<=j/\j<(l.length:Nat)then 1 else 0:=
 pg l.length 0 [] b Y (λp hp=>by cases hp) (λj=>by rw[D2 (by omega)];rfl) h
theorem BP {b:By}{j:Int}(h:0<cnt b j): ∃p∈b,p.2=j:=by
 obtain⟨p,h1,h2⟩:=GM.1 h;exact⟨p,h1,by simpa using h2⟩
theorem sD {j:Int}: ∀{b:By},cnt b j<=1->∀(x y:Nat) (p q:Int×Int),b[x]? =some p->b[y]? =some q->p.2=j->q.2=j->x=y
 | [],_,x,y,p,q,hp,_,_,_=>by cases hp
 |r::b,h,x,y,p,q,hp,hq,h1,h2=>by
  unfold cnt at h;rw[Fv]at h;have key: ∀(z:Nat) (u:Int×Int),b[z]? =some u->u.2=j->0<cnt b j:=λz u hz hu=>GM.2 ⟨u,D7 hz,by simpa using hu⟩;cases x with
  |zero=>
   cases y with
   |zero=>rfl
   |succ y=>
    obtain rfl:=D3 hp;have:=key y q hq h2;unfold cnt at this;rw[D4 (by simpa using h1)]at h;omega
  |succ x=>
   cases y with
   |zero=>
    obtain rfl:=D3 hq;have:=key x p hp h1;unfold cnt at this;rw[D4 (by simpa using h2)]at h;omega
   |succ y=>
    have:=sD (j:=j) (b:=b) (by unfold cnt;omega) x y p q hp hq h1 h2;omega
structure FF (l:List (List Int))(vs:List Int)(s:bu)(b:By)(R:Bool×bu×By):Prop where
 all:R.1=false->∀v∈vs,sees R.2.1 v
 own:R.1=false->∀v,sees R.2.1 v->sees s v∨∃k,lkA b v=some k/\∀w∈l.getD k.toNat [],sees R.2.1 w
theorem rI {l:List (List Int)}{rec:bu->By->Int->Bool×bu×By}{i:Int}{f:Nat}(ht: ∀s b k,TT k s b (rec s b k))(hr: ∀s b k,dW l s<f->0<=k->k.toNat<l.length->iV l b->FF l (l.getD k.toNat []) s b (rec s b k)): ∀(vs:List Int) (s:bu) (b:By),(∀v∈vs,v∈l.flatten)->dW l s<f+1->iV l b->FF l vs s b (iS rec i vs s b)
 | [],s,b,_,_,_=>⟨λ_ v hv=>(by cases hv),λ_ v hv=> .inl hv⟩
 |v::vs,s,b,hv,hu,hb=>by
  have hv2: ∀w∈vs,w∈l.flatten:=λw hw=>hv w (.tail _ hw);rw[iS];split
  ·rename_i hs;have h:=rI (i:=i) ht hr vs s b hv2 hu hb;refine⟨λe w hw=> ?_,h.own⟩;cases hw with
   |head=>exact(kK (i:=i) ht vs s b).mono v hs
   |tail _ hw=>exact h.all e w hw
  ·rename_i hs;split;·exact⟨λh=>(by cases h),λh=>(by cases h)⟩
   ·rename_i k hk;have hq:=hb _ (eP hk);have hlt:=pZ (hv v (.head _)) hs;have h1:=hr (upA s v true) b k (by omega) hq.1 hq.2 hb;have h2:=ht (upA s v true) b k;split;·exact⟨λh=>(by cases h),λh=>(by cases h)⟩
    ·rename_i s2 b2 e;rw[e]at h1 h2;obtain rfl:b2=b:=h2.no Y;have hsv:sees s2 v:=h2.mono v (sees_up.2 (.inl Y));have hle:dW l s2<=dW l (upA s v true):=p4 λw hw=>h2.mono w hw;have h3:=rI (i:=i) ht hr vs s2 b2 hv2 (by omega) hb;have h4:=kK (i:=i) ht vs s2 b2;refine⟨λe w hw=> ?_,λe w hw=> ?_⟩
     ·cases hw with
      |head=>exact h4.mono v hsv
      |tail _ hw=>exact h3.all e w hw
     ·rcases h3.own e w hw with h5|h5
      ·rcases h1.own rfl w h5 with h6|⟨k2,h6,h7⟩
       ·rcases sees_up.1 h6 with rfl|h6;·exact .inr ⟨k,hk,λu hu=>h4.mono u (h1.all Y u hu)⟩
        ·exact .inl h6
       ·exact .inr ⟨k2,h6,λu hu=>h4.mono u (h7 u hu)⟩
      ·exact .inr h5
theorem Ao {l:List (List Int)}{i:Int}: ∀v∈l.getD i.toNat [],v∈l.flatten:=λv hv=>by
 by_cases h:i.toNat<l.length
 ·rw[D0,D1 h]at hv;exact Ft.2 ⟨_,D8 h,hv⟩
 ·rw[D0,EB (by omega)]at hv;cases hv
theorem xm (l:List (List Int)): ∀(f:Nat) (i:Int) (s:bu) (b:By),dW l s<f->0<=i->i.toNat<l.length->iV l b->FF l (l.getD i.toNat []) s b (fj l f i s b)
 |0,i,s,b,h,_,_,_=>by omega
 |f+1,i,s,b,h,_,_,hb=>by
  rw[fj];exact rI (λs b k=>nC l f k s b) (λs b k h1 h2 h3 h4=>xm l f k s b h1 h2 h3 h4) _ _ _ Ao h hb
def Others (l:List (List Int))(g:Nat->Int):Prop:=(∀j,j<l.length->g j∈l.getD j [])/\∀j k,j<l.length->k<l.length->g j=g k->j=k
def dd:List Int->List Int
 | []=>[]
 |x::l=>if x∈l then dd l else x::dd l
theorem sA {x:Int}: ∀{l:List Int},x∈dd l↔x∈l
 | []=>Iff.rfl
 |y::l=>by
  rw[dd];split
  ·rename_i h;rw[sA,DO];constructor;·exact .inr
   ·rintro(rfl|h2);·exact h
    ·exact h2
  ·rw[DO,DO,sA]
theorem pB: ∀l:List Int,(dd l).Nodup
 | []=> .nil
 |y::l=>by
  rw[dd];split;·exact pB l
  ·rename_i h;exact ED.2 ⟨λh2=>h (sA.1 h2),pB l⟩
theorem mj {α:Type}[DecidableEq α]: ∀{a b:List α},a.Nodup->(∀x∈a,x∈b)->a.length<=b.length
 | [],_,_,_=>Dz _
 |x::a,b,h,hs=>by
  have hx:x∈b:=hs x (.head _);obtain⟨h1,h2⟩:=ED.1 h;have:=mj (b:=b.erase x) h2 λy hy=>(List.mem_erase_of_ne (λe=>h1 (by rw[<-e];exact hy))).2 (hs y (.tail _ hy));rw[List.length_erase_of_mem hx]at this;have:=List.length_pos_of_mem hx;rw[Dp];omega
theorem fF {α β:Type}{f:α->β}: ∀{a:List α},a.Nodup->(∀x∈a,∀y∈a,f x=f y->x=y)->(a.map f).Nodup
 | [],_,_=> .nil
 |x::a,h,hf=>by
  obtain⟨h1,h2⟩:=ED.1 h;refine ED.2 ⟨λh3=> ?_,fF h2 λy hy z hz=>hf y (.tail _ hy) z (.tail _ hz)⟩;obtain⟨y,hy,e⟩:=DF.1 h3;exact h1 (hf y (.tail _ hy) x (.head _) e▸hy)
theorem zO {s:bu}{v:Int}(h:sees s v):v∈s.map (·.1):=by
 unfold sees at h;cases hk:lkA s v with
 |none=>rw[hk]at h;cases h
 |some x=>exact DF.2 ⟨_,eP hk,rfl⟩
theorem za {l:List (List Int)}{i:Nat}{b:By}(hi:i<l.length)(hb:iV l b)(hc: ∀j:Int,cnt b j=if 0<=j/\j<(i:Nat)then 1 else 0)(hR:(lK l (i:Nat) b).1=false)(g:Nat->Int): ¬Others l g:=by
 rintro⟨hg,hinj⟩;have hf:=xm l (l.flatten.length+1) (i:Nat) [] b (nX l) (by omega) (by omega) hb;have h1:=hf.all hR;have h2:=hf.own hR;generalize hs:(lK l (i:Nat) b).2.1=s at*;have h2: ∀v,sees s v->∃k,lkA b v=some k/\∀w∈l.getD k.toNat [],sees s w:=λv hv=>by
  rcases h2 v hv with h|h;·cases h
  ·exact h
 let V:=(dd (s.map (·.1))).filter λv=>(lkA s v).getD false;have hV: ∀v,v∈V↔sees s v:=λv=>by
  rw[EH,sA];exact⟨λh=>h.2,λh=>⟨zO h,h⟩⟩
 have hVn:V.Nodup:=(pB _).filter _;let o:Int->Nat:=λv=>((lkA b v).getD 0).toNat;have ho: ∀v∈V,∃k:Int,lkA b v=some k/\o v=k.toNat/\0<=k/\k<(i:Nat)/\∀w∈l.getD (o v) [],sees s w:=λv hv=>by
  obtain⟨k,hk,hw⟩:=h2 v ((hV v).1 hv);have hm:=eP hk;have h0:0<cnt b k:=GM.2 ⟨_,hm,by simp⟩;rw[hc]at h0;have:0<=k/\k<(i:Nat):=by
   by_cases e:0<=k/\k<(i:Nat);·exact e
   ·rw[D2 e]at h0;omega
  have e:o v=k.toNat:=(by show((lkA b v).getD 0).toNat=_;rw[hk];rfl);exact⟨k,hk,e,this.1,this.2,e▸hw⟩
 have hoi: ∀v∈V,∀w∈V,o v=o w->v=w:=λv hv w hw e=>by
  obtain⟨k,hk,h1,h3,h4,_⟩:=ho v hv;obtain⟨k',hk',h1',h3',h4',_⟩:=ho w hw;have ek:k=k':=(by omega);subst ek;obtain⟨x,hx⟩:=DH (eP hk);obtain⟨y,hy⟩:=DH (eP hk');have:=sD (b:=b) (j:=k) (by rw[hc];split<;>omega) x y _ _ hx hy Y Y;subst this;rw[hx]at hy;exact congrArg Prod.fst (D3 hy)
 have hKn:(i::V.map o).Nodup:=ED.2 ⟨λh=>by
  obtain⟨v,hv,e⟩:=DF.1 h;obtain⟨k,_,h1,h3,h4,_⟩:=ho v hv;omega,fF hVn hoi⟩
 have hKl: ∀k∈i::V.map o,k<l.length:=λk hk=>by
  cases hk with
  |head=>exact hi
  |tail _ hk=>
   obtain⟨v,hv,rfl⟩:=DF.1 hk;obtain⟨k,_,h1,h3,h4,_⟩:=ho v hv;omega
 have hgn:((i::V.map o).map g).Nodup:=fF hKn λx hx y hy e=>hinj x y (hKl x hx) (hKl y hy) e;have hsub: ∀x∈(i::V.map o).map g,x∈V:=λx hx=>by
  obtain⟨k,hk,rfl⟩:=DF.1 hx;rw[hV];have hgk:=hg k (hKl k hk);cases hk with
  |head=>exact h1 _ (by simpa using hgk)
  |tail _ hk=>
   obtain⟨v,hv,rfl⟩:=DF.1 hk;obtain⟨k,_,_,_,_,h5⟩:=ho v hv;exact h5 _ hgk
 have:=mj hgn hsub;simp at this;omega
theorem lL {l:List (List Int)}{g:Nat->Int}(hg:Others l g): ∀(n i:Nat) (b:By),n+i=l.length->iV l b->(∀j:Int,cnt b j=if 0<=j/\j<(i:Nat)then 1 else 0)->d7 l n i b≠none
 |0,i,b,hi,hb,hc,h=>by cases h
 |n+1,i,b,hi,hb,hc,h=>by
  have h1:=nC l (l.flatten.length+1) (i:Nat) [] b;have h2:=nD l (l.flatten.length+1) (i:Nat) [] b (by omega) (by omega) hb;have h3:=za (i:=i) (by omega) hb hc;rw[d7]at h;generalize hT:lK l (i:Nat) b=R at*;rw[show fj l (l.flatten.length+1) (i:Nat) [] b=R from hT]at h1 h2;obtain⟨r,s,b3⟩:=R;cases r with
  |false=>exact h3 Y g hg
  |true=>
   refine lL hg n (i+1) b3 (by omega) h2.byIn (λj=> ?_) h;have:=h1.more Y j;simp only at this;rw[this,hc j];by_cases e:((i:Nat):Int)=j;·rw[D4 e,D2 (by omega),D4 (by omega)]
   ·rw[D2 e];by_cases e2:0<=j/\j<(i:Nat);·rw[D4 e2,D4 (by omega)]
    ·rw[D2 e2,D2 (by omega)]
theorem t7 {l:List (List Int)}{g:Nat->Int}(hg:Others l g): ∃b,c6 l=some b:=by
 cases h:c6 l with
 |some b=>exact⟨b,rfl⟩
 |none=>exact DU h (lL hg l.length 0 [] rfl (λp hp=>by cases hp) λj=>by rw[D2 (by omega)];rfl)
def te (b:By)(n:Nat):List Int:=(List.range n).map λ(j:Nat)=>((b.find? λp=>decide (p.2=(j:Int))).map (·.1)).getD 0
theorem A8 {l:List (List Int)}{b:By}(h:c6 l=some b){p:Int×Int}(hp:p∈b):0<=p.2/\p.2.toNat<l.length/\(te b l.length)[p.2.toNat]? =some p.1:=by
 obtain⟨_,hc⟩:=ms h;have h0:0<cnt b p.2:=GM.2 ⟨_,hp,by simp⟩;have hr:0<=p.2/\p.2<(l.length:Nat):=by
  rw[hc]at h0;by_cases e:0<=p.2/\p.2<(l.length:Nat);·exact e
  ·rw[D2 e]at h0;omega
 refine⟨hr.1,by omega,?_⟩;unfold te;rw[DE,Ep (by omega)];simp only[EG,D6];have e:((p.2.toNat:Nat):Int)=p.2:=(by omega);rw[e];cases hf:b.find? λq=>decide (q.2=p.2)with
 |none=>exact DU (FS.1 hf p hp) (by simp)
 |some q=>
  have hq:=Gt hf;have hq2:q.2=p.2:=(by simpa using List.find?_some hf);obtain⟨x,hx⟩:=DH hp;obtain⟨y,hy⟩:=DH hq;have:=sD (b:=b) (j:=p.2) (by rw[hc];split<;>omega) x y _ _ hx hy Y hq2;subst this;rw[hx]at hy;rw[<-D3 hy];rfl
theorem C6 {l:List (List Int)}{b:By}(h:c6 l=some b){j:Nat}(hj:j<l.length): ∃p∈b,p.2=(j:Int):=by
 obtain⟨_,hc⟩:=ms h;exact BP (by rw[hc,D4 (by omega)];omega)
theorem td {l:List (List Int)}{b:By}(h:c6 l=some b)(hk:(b.map (·.1)).Nodup):Others l λj=>(te b l.length).getD j 0:=by
 obtain⟨hf,hc⟩:=ms h;have hj: ∀j,j<l.length->∃p∈b,p.2=(j:Int)/\(te b l.length).getD j 0=p.1:=λj hj=>by
  obtain⟨p,hp,e⟩:=C6 h hj;have h2:=(A8 h hp).2.2;rw[e]at h2;refine⟨p,hp,e,?_⟩;rw[D0,show j=((j:Nat):Int).toNat by omega,h2];rfl
 refine⟨λj h1=> ?_,λj k h1 h2 e=> ?_⟩
 ·obtain⟨p,hp,e1,e2⟩:=hj j h1;have:=hf p hp;rw[e1]at this;show(te b l.length).getD j 0∈_;rw[e2];simpa using this
 ·obtain⟨p,hp,e1,e2⟩:=hj j h1;obtain⟨q,hq,e3,e4⟩:=hj k h2;have e:p.1=q.1:=by
   have e:(te b l.length).getD j 0=(te b l.length).getD k 0:=e;rw[e2,e4]at e;exact e
  have:p=q:=by
   obtain⟨x,hx⟩:=DH hp;obtain⟨y,hy⟩:=DH hq;have hx1:(b.map (·.1))[x]? =some p.1:=(by rw[DE,hx];rfl);have hy1:(b.map (·.1))[y]? =some p.1:=(by rw[DE,hy,e];rfl);have:x=y:=by
    obtain⟨h3,h4⟩:=D5.1 hx1;obtain⟨h5,h6⟩:=D5.1 hy1;exact(Fc hk).1 (h4.trans h6.symm)
   subst this;rw[hx]at hy;exact D3 hy
  rw[this]at e1;omega
def gy (b:By):Prop:=(b.map (·.1)).Nodup
theorem gy.up {v i:Int}: ∀{b:By},gy b->gy (upA b v i)
 | [],_=>by
  show List.Nodup [v];simp
 |p::b,h=>by
  obtain⟨h1,h2⟩:=ED.1 (show(p.1::b.map (·.1)).Nodup from h);rw[g8];split
  ·rename_i e;show(v::b.map (·.1)).Nodup;rw[<-e];exact h
  ·rename_i e;refine ED.2 ⟨λh3=> ?_,gy.up h2⟩;obtain⟨q,hq,e2⟩:=DF.1 h3;rcases mem_upA hq with hq|rfl;·exact h1 (DF.2 ⟨q,hq,e2⟩)
   ·exact e e2.symm
theorem rH {rec:bu->By->Int->Bool×bu×By}{i:Int}(hr: ∀s b k,gy b->gy (rec s b k).2.2): ∀(vs:List Int) (s:bu) (b:By),gy b->gy (iS rec i vs s b).2.2
 | [],s,b,hb=>hb
 |v::vs,s,b,hb=>by
  rw[iS];split;·exact rH hr vs s b hb
  ·split;·exact hb.up
   ·rename_i k _;have h1:=hr (upA s v true) b k hb;split
    ·rename_i s2 b2 e;rw[e]at h1;exact gy.up h1
    ·rename_i s2 b2 e;rw[e]at h1;exact rH hr vs s2 b2 h1
theorem xl (l:List (List Int)): ∀(f:Nat) (i:Int) (s:bu) (b:By),gy b->gy (fj l f i s b).2.2
 |0,i,s,b,h=>h
 |f+1,i,s,b,h=>by
  rw[fj];exact rH (λs b k h=>xl l f k s b h) _ _ _ h
theorem ph {l:List (List Int)}: ∀(n i:Nat) (b b2:By),gy b->d7 l n i b=some b2->gy b2
 |0,i,b,b2,hb,h=>by cases h;exact hb
 |n+1,i,b,b2,hb,h=>by
  have h2:=xl l (l.flatten.length+1) (i:Nat) [] b hb;rw[d7]at h;generalize hT:lK l (i:Nat) b=R at*;rw[show fj l (l.flatten.length+1) (i:Nat) [] b=R from hT]at h2;obtain⟨r,s,b3⟩:=R;cases r with
  |false=>cases h
  |true=>exact ph n (i+1) b3 b2 h2 h
theorem yQ {l:List (List Int)}{b:By}(h:c6 l=some b):gy b:=ph _ _ _ _ (by show List.Nodup [];exact .nil) h
def dp (l:List (List Int)):List Int×Bool:=match c6 l with|some b=>(te b l.length,true)|none=>([],false)
theorem fR (l:List (List Int)):(dp l).2=true↔∃g,Others l g:=by
 unfold dp;cases h:c6 l with
 |some b=>exact⟨λ_=>⟨_,td h (yQ h)⟩,λ_=>rfl⟩
 |none=>
  refine⟨λh=>(by cases h),λ⟨g,hg⟩=> ?_⟩;obtain⟨b,hb⟩:=t7 hg;rw[h]at hb;cases hb
end Go.Proofs.YtopcjbahjjhdmaaGreat
namespace Go.Proofs.YtopcjbahjjhdmaaGreat
open Go Go.Shelf Go.RowKit
def rN:Go.Shelf.Ren:=⟨fun|189=>86|125=>124|257=>123|128=>165|129=>166|294=>156|295=>157|296=>158|297=>159|298=>160|299=>161|216=>162|300=>163|301=>164|328=>215|329=>216|330=>217|331=>218|332=>219|215=>167|343=>239|n=>n,fun|28=>24|3=>3|46=>146|0=>0|51=>173|53=>159|4=>4|183=>166|182=>165|131=>115|5=>5|9=>9|218=>204|222=>208|228=>221|229=>222|n=>n,fun|n=>n⟩
theorem tb:Go.Proofs.Lays.n189 Tryz.prog rN:= {
 mixed:=by kernel_rfl
 f125:=Tryz.func124.trans (congrArg some (by kernel_rfl))
 f128:=Tryz.func165.trans (congrArg some (by kernel_rfl))
 f129:=Tryz.func166.trans (congrArg some (by kernel_rfl))
 f189:=Tryz.func86.trans (congrArg some (by kernel_rfl))
 f215:=Tryz.func167.trans (congrArg some (by kernel_rfl))
 f216:=Tryz.func162.trans (congrArg some (by kernel_rfl))
 f257:=Tryz.func123.trans (congrArg some (by kernel_rfl))
 f294:=Tryz.func156.trans (congrArg some (by kernel_rfl))
 f295:=Tryz.func157.trans (congrArg some (by kernel_rfl))
 f296:=Tryz.func158.trans (congrArg some (by kernel_rfl))
 f297:=Tryz.func159.trans (congrArg some (by kernel_rfl))
 f298:=Tryz.func160.trans (congrArg some (by kernel_rfl))
 f299:=Tryz.func161.trans (congrArg some (by kernel_rfl))
 f300:=Tryz.func163.trans (congrArg some (by kernel_rfl))
 f301:=Tryz.func164.trans (congrArg some (by kernel_rfl))
 f328:=Tryz.func215.trans (congrArg some (by kernel_rfl))
 f329:=Tryz.func216.trans (congrArg some (by kernel_rfl))
 f330:=Tryz.func217.trans (congrArg some (by kernel_rfl))
 f331:=Tryz.func218.trans (congrArg some (by kernel_rfl))
 f332:=Tryz.func219.trans (congrArg some (by kernel_rfl))
 f343:=Tryz.func239.trans (congrArg some (by kernel_rfl))
 t0:=Tryz.underlying0
 a0:=Tryz.isAgg0
 z0:=Tryz.sizeOf0
 v0:=Tryz.zeroValue0
 t3:=Tryz.underlying3
 a3:=Tryz.isAgg3
 z3:=Tryz.sizeOf3
 v3:=Tryz.zeroValue3
 t4:=Tryz.underlying4
 a4:=Tryz.isAgg4
 z4:=Tryz.sizeOf4
 v4:=Tryz.zeroValue4
 t5:=Tryz.underlying5
 a5:=Tryz.isAgg5
 z5:=Tryz.sizeOf5
 v5:=Tryz.zeroValue5
 t9:=Tryz.underlying9
 a9:=Tryz.isAgg9
 z9:=Tryz.sizeOf9
 v9:=Tryz.zeroValue9
 t28:=Tryz.underlying24
 a28:=Tryz.isAgg24
 z28:=Tryz.sizeOf24
 v28:=Tryz.zeroValue24
 t46:=Tryz.underlying146
 a46:=Tryz.isAgg146
 z46:=Tryz.sizeOf146
 v46:=Tryz.zeroValue146
 t51:=Tryz.underlying173
 a51:=Tryz.isAgg173
 z51:=Tryz.sizeOf173
 v51:=Tryz.zeroValue173
 t53:=Tryz.underlying159
 a53:=Tryz.isAgg159
 z53:=Tryz.sizeOf159
 v53:=Tryz.zeroValue159
 t131:=Tryz.underlying115
 a131:=Tryz.isAgg115
 z131:=Tryz.sizeOf115
 v131:=Tryz.zeroValue115
 t182:=Tryz.underlying165
 a182:=Tryz.isAgg165
 z182:=Tryz.sizeOf165
 v182:=Tryz.zeroValue165
 t183:=Tryz.underlying166
 a183:=Tryz.isAgg166
 z183:=Tryz.sizeOf166
 v183:=Tryz.zeroValue166
 t218:=Tryz.underlying204
 a218:=Tryz.isAgg204
 z218:=Tryz.sizeOf204
 v218:=Tryz.zeroValue204
 t222:=Tryz.underlying208
 a222:=Tryz.isAgg208
 z222:=Tryz.sizeOf208
 v222:=Tryz.zeroValue208
 t228:=Tryz.underlying221
 a228:=Tryz.isAgg221
 z228:=Tryz.sizeOf221
 v228:=Tryz.zeroValue221
 t229:=Tryz.underlying222
 a229:=Tryz.isAgg222
 z229:=Tryz.sizeOf222
 v229:=Tryz.zeroValue222 }
open Go.Sort Go.RowKit in
theorem vG (blk off cap:Nat)(zs:List Int)(w:World)(hH:Holds (Value.int .i64) w blk off zs.toArray)(hblk:blk<w.heap.size)(hsz:zs.length<4611686018427387904):
  Calls Tryz.prog 86 #[.slice (some ⟨blk,off,none⟩) zs.length cap] w λe w'=>
   e= .returned (.tuple #[])/\∃n os,w'=grow (putRow (Value.int .i64) (Sort.ahead w n) blk off (zs.mergeSort λx y=>decide (x<=y)).toArray) os:=Any.slices_Sort_int tb blk off cap zs w hH hblk hsz
open Go.RowKit Go.Sort in
theorem nq (p:Option Addr)(cap:Nat)(w:World):
  Calls Tryz.prog 86 #[.slice p 0 cap] w λe w'=>e= .returned (.tuple #[])/\w'=w:=Any.slices_Sort_int_none tb p cap w
end Go.Proofs.YtopcjbahjjhdmaaGreat
namespace Go.Proofs.YtopcjbahjjhdmaaGreat
open Go Go.RowKit
set_option linter.unusedVariables false
set_option linter.unusedSimpArgs false
set_option maxRecDepth 8000
def pY (x:List (Int×Int)):List Int:=(vals x).take 4097
theorem pX (x:List (Int×Int)):(pY x).length<=4097:=by unfold pY;rw[Dx];omega
def listsP (d:aa)(vs:List Int):List (List Int):=vs.map λv=>pY (d.getD v.toNat [])
theorem s5 (d:aa)(vs:List Int)(hd:jo d)(hb: ∀x∈d,InB x)(hx: ∀x∈d,x.length*16<=140737488351232)(hv: ∀v∈vs,0<=v/\v.toNat<d.length)(hl:vs.length*24<=140737488355328):
  Spec Tryz.prog 182 false [aJ d,ao vs] [.own 24 1 ((listsP d vs).map cL)]:=by
 refine Spec.body Tryz.func182 Y Y Y λw0 Z0=> ?_;refine .B ?_;refine T.sub (Rel.own0 (s:=5) 24 1 Y) ?_;refine T.K (T.list vs (λn pre post=>⟨[(0,.val false (aJ d)),(5,.ref 0),(8,.val false (ao vs)),(9,.val true (.int .i64 (vs.map cI).length)),(10,.val true (.int .i64 n))],[(0,some (.sl 24 1 true ((listsP d pre).map cL)))],1⟩) (λ_ _ h=>h) ?_ ?_)
 ·rintro n pre v post h hn ih;have hlt:=cg h hn;have hvv:=hv v (by rw[h];simp);have hrow:(d.map cD)[v.toNat]? =some (cD (d.getD v.toNat [])):=(by simp[hvv.2]);have hm:d.getD v.toNat []∈d:=(by rw[D0,D1 hvv.2];exact D8 hvv.2);have hsp:=(iB (d.getD v.toNat []) (hb _ hm) (hx _ hm)).frz;have hpl:(listsP d pre).length=pre.length:=D9 ..;refine .B ?_;refine T.ct2 Y (ce h hn) ?_;refine .B ?_;refine .F (r:=cI v) (aS h hn) ?_;refine J.i Y Y Y Y Y Y Y Y Y (r:=cD (d.getD v.toNat [])) hvv.1 hrow Y ?_;refine .B ?_;refine .D hsp ?_;refine .Z ?_;refine J.a1 (enc:=cL) (x:=pY (d.getD v.toNat [])) (B:=24) Y Y Y Y Y Y Y Y Y Y Y Y Y Y Y Y Y Y Y Y (by omega) ?_;rw[show listsP d pre++[pY (d.getD v.toNat [])]=listsP d (pre++[v])by simp[listsP]];refine .B ?_;rw[ak hlt (by omega)];exact T.K ih
 ·refine .B ?_;refine T.cf2 Y bA ?_;refine .B ?_;exact⟨_,.o Y Y Y (λ_=> .inl Y) (by simp) .nil⟩
theorem CZ {l:List (List Int)}: ∀r∈l.map cL,r.length=1:=λr hr=>by obtain⟨x,_,rfl⟩:=DF.1 hr;rfl
theorem u4 (l:List (List Int))(hl:l.length*24<=140737488355328):Spec Tryz.prog 184 true [bT l] [.own 24 1 (l.map cL)]:=by
 refine Spec.body Tryz.func184 Y Y Y λw0 Z0=> ?_;refine .B ?_;refine J.nc Y Y Y Y Y Y Y λb hb=> ?_;refine .B ?_;cases b
 ·refine T.cf Y ?_;refine .B ?_;refine .Q ?_;refine J.a Y Y Y Y Y Y Y Y Y Y Y Y Y Y Y Y Y CZ (by show(0+List.length _)*24<=_;simp;omega) ?_;refine .B ?_;exact⟨_,.o Y Y Y (λh=>by cases h) (by simp) .nil⟩
 ·have:l=[]:=(by simpa using hb Y);subst this;refine T.ct Y ?_;refine .B ?_;exact⟨_,.ownN Y .nil⟩
theorem ji (v:Int):Spec Tryz.prog 168 false [.int .i64 v] [.val (.bool (aH v))]:=by
 refine Spec.body Tryz.func168 Y Y Y λw0 Z0=> ?_;refine .B ?_;refine J.g Y Y Y (λh=> ?_) (λh=> ?_)
 ·refine .B ?_;exact⟨_,.v Y Y (by simp[aH,show -1048576<=v from h]) (λ_=>rfl) .nil⟩
 ·refine .B ?_;exact⟨_,.v Y Y (by simp[aH,show¬-1048576<=v from h]) (λ_=>rfl) .nil⟩
theorem Aj (v:Int):Spec Tryz.prog 226 false [.int .i64 v] [.val (.bool (!aH v))]:=by
 refine Spec.body Tryz.func226 Y Y Y λw0 Z0=> ?_;refine .B ?_;refine .D (ji v) ?_;exact r1
def indexP (p:Int->Bool)(l:List Int):Int:=match l.findIdx? p with|some i=>(i:Int)|none=> -1
theorem uE {p:Int->Bool}{f:FuncId}(l:List Int)(hp: ∀v∈l,Spec Tryz.prog f false [.int .i64 v] [.val (.bool (p v))])(hl:l.length*8<=140737488355328):Spec Tryz.prog 169 false [ao l,.fn (.func f) [] []] [.val (.int .i64 (indexP p l))]:=by
 refine Spec.body Tryz.func169 Y Y Y λw0 Z0=> ?_;refine .B ?_;refine T.K (T.listI l (λpre=> ∀v∈pre,p v=false) (λn pre post=>⟨[(0,.val false (ao l)),(1,.val false (.fn (.func f) [] [])),(7,.val true (.int .i64 (l.map cI).length)),(8,.val true (.int .i64 n))],[],0⟩) (λ_ _ h=>h) (λv hv=>by cases hv) ?_ ?_)
 ·rintro n pre v post h hn hi ih;have hlt:=cg h hn;have hsp:=hp v (by rw[h];simp);refine .B ?_;refine T.ct2 Y (ce h hn) ?_;refine .B ?_;refine .F (r:=cI v) (aS h hn) ?_;refine .D hsp ?_;refine T.cond Y (λh2=> ?_) (λh2=> ?_)
  ·have h2:p v=true:=h2;refine .B ?_;have e:indexP p l=(n:Int):=by
    unfold indexP;rw[h,GD,EE.2 (by simpa using hi),FR,D4 h2];simp[hn]
   rw[e];exact r1
  ·have h2:p v=false:=h2;refine .B ?_;rw[ak hlt (by omega)];exact T.K (ih (by
    intro x hx;rcases DT.1 hx with hx|hx;·exact hi x hx
    ·rw[DG.1 hx];exact h2))
 ·intro hi;have e:indexP p l= -1:=by
   unfold indexP;rw[EE.2 (by simpa using hi)]
  rw[e];refine .B ?_;refine T.cf2 Y bA ?_;refine .B ?_;exact r1
theorem pE {p:Int->Bool}{f:FuncId}(l:List Int)(hp: ∀v∈l,Spec Tryz.prog f false [.int .i64 v] [.val (.bool (p v))])(hl:l.length*8<=140737488355328):Spec Tryz.prog 129 false [ao l,.fn (.func f) [] []] [.val (.bool (l.any p))]:=by
 refine Spec.body Tryz.func129 Y Y Y λw0 Z0=> ?_;refine .B ?_;refine .D (uE l hp hl) ?_;refine⟨_,.v Y Y ?_ (λ_=>rfl) .nil⟩;simp only[PV.bool.injEq];unfold indexP;cases h:l.findIdx? p with
 |none=>
  have:l.any p=false:=by
   rw[Fq];exact λx hx=>by simpa using EE.1 h x hx
  rw[this];rfl
 |some i=>
  have:l.any p=true:=by
   rw[EZ];obtain⟨h1,h2,_⟩:=Ec.1 h;exact⟨_,D8 h1,h2⟩
  rw[this];simp
def gq (out:List (Int×Int))(v:Int):List (Int×Int):=match out.getLast? with
 |none=>out++[(v,v)]
 |some (a,b)=>if b>=v then out else if b=v-1 then out.dropLast++[(a,v)]else out++[(v,v)]
def packG (l:List Int):List (Int×Int):=l.foldl gq []
theorem qr (v:Int):gq [] v=[(v,v)]:=rfl
theorem ii (o:List (Int×Int))(a b v:Int):gq (o++[(a,b)]) v=if b>=v then o++[(a,b)]else if b=v-1 then o++[(a,v)]else o++[(a,b)]++[(v,v)]:=by
 unfold gq;rw[List.getLast?_append];simp
theorem yB (o:List (Int×Int))(v:Int):(gq o v).length<=o.length+1:=by
 rcases F9 o with rfl|⟨o,⟨a,b⟩,rfl⟩;·exact DL _
 ·rw[F0,ii];split;·simp
  ·split<;>simp
theorem qt (l:List Int):(packG l).length<=l.length:=by
 have: ∀(l:List Int) (o:List (Int×Int)),(l.foldl gq o).length<=o.length+l.length:=by
  intro l
  induction l with
  |nil=>intro o;exact DL _
  |cons v l ih=>intro o;have h1:=ih (gq o v);have h2:=yB o v;rw[Dn,Dp];omega
 have h:=this l [];simp only[Ee,Ew]at h;exact h
theorem vZ (l:List Int)(v:Int):packG (l++[v])=gq (packG l) v:=by simp[packG]
theorem tH {e:TypeId}{fr:Bool}(o:List (Int×Int))(a b v:Int):Own.put (.sl e 2 fr ((o++[(a,b)]).map cR)) o.length 1 2 true [.int .i64 v]=some (.sl e 2 fr ((o++[(a,v)]).map cR)):=by
 have h:((o++[(a,b)]).map cR)[o.length]? =some (cR (a,b)):=(by simp);show(match Nat.beq 2 2,((o++[(a,b)]).map cR)[o.length]? with|true,some r=>(match Nat.ble (1+1) r.length with|true=>some (Own.sl e 2 (fr&&true) (((o++[(a,b)]).map cR).set o.length (putCells r 1 [.int .i64 v])))|false=>none)|_,_=>none)=_;rw[h];show some (Own.sl e 2 (fr&&true) _)=_;rw[Gc];congr 2;rw[EC,EC,show o.length=(o.map cR).length+0 by simp,G2 _ _ (by simp)];simp[cR,putCells]
theorem tL (l:List Int)(hv: ∀v∈l,aH v=true)(hl:l.length*16<=140737488355328):Spec Tryz.prog 227 false [ao l] [.own 53 2 ((packG l).map cR)]:=by
 refine Spec.body Tryz.func227 Y Y Y λw0 Z0=> ?_;refine .B ?_;refine T.sub (Rel.own0 (s:=3) 53 2 Y) ?_;refine T.K (T.list l (λn pre post=>⟨[(3,.ref 0),(7,.val false (ao l)),(8,.val true (.int .i64 (l.map cI).length)),(9,.val true (.int .i64 n))],[(0,some (.sl 53 2 true ((packG pre).map cR)))],1⟩) (λ_ _ h=>h) ?_ ?_)
 ·rintro n pre v post h hn ih;have hlt:=cg h hn;have hpl:=qt pre;have hvv: -1048576<=v/\v<=1048576:=(by simpa[aH]using hv v (by rw[h];simp));rw[vZ]at ih;refine .B ?_;refine T.ct2 Y (ce h hn) ?_;refine .B ?_;refine .I (r:=cI v) (aS h hn) ?_;generalize packG pre=out at*;refine .B ?_;rcases F9 out with rfl|⟨o,⟨a,b⟩,rfl⟩
  ·refine J.g Y Y Y (λh2=> ?_) (λh2=> ?_);·simp at h2
   refine .B ?_;refine T.cf Y ?_;refine .B ?_;refine T.cf Y ?_;refine .B ?_;refine .Z ?_;refine J.aR Y Y Y Y Y Y Y Y Y Y Y Y Y Y Y Y Y Y Y (by simp) ?_;refine .B ?_;rw[ak hlt (by omega)];exact T.K ih
  ·rw[F0]at*;rw[ii]at ih;refine J.g Y Y Y (λh2=> ?_) (λh2=> ?_)
   rotate_left
   ·simp at h2
   have hol:(o.map cR).length+1=(o++[(a,b)]).length:=(by simp);have hlw:IntKind.i64.wrap (((((o++[(a,b)]).map cR).length:Nat):Int)-1)=(o.length:Int):=by
    rw[D9,DX,af]<;>simp at* <;>omega
   have hro:((o++[(a,b)]).map cR)[((o.length:Nat):Int).toNat]? =some (cR (a,b)):=(by simp);refine .B ?_;rw[hlw];refine J.io Y Y Y Y Y Y Y Y Y (by omega) (by simp) rfl ?_;refine .B ?_;refine J.lo Y Y Y Y Y Y (r:=cR (a,b)) hro Y ?_;refine .B ?_;refine T.cd Y (λh3=> ?_) (λh3=> ?_)
   ·rw[D4 h3]at ih;refine .B ?_;rw[ak hlt (by omega)];exact T.K ih
   rw[D2 h3]at ih;refine .B ?_;refine J.g Y Y Y (λh4=> ?_) (λh4=> ?_)
   rotate_left
   ·simp at h4
   refine .B ?_;rw[hlw];refine J.io Y Y Y Y Y Y Y Y Y (by omega) (by simp) rfl ?_;refine .B ?_;refine J.lo Y Y Y Y Y Y (r:=cR (a,b)) hro Y ?_;refine .B ?_;rw[af (n:=v-1) (by omega) (by omega)];refine T.cd Y (λh5=> ?_) (λh5=> ?_)
   ·rw[D4 h5]at ih;refine .B ?_;rw[hlw];refine J.io Y Y Y Y Y Y Y Y Y (by omega) (by simp) rfl ?_;refine .B ?_;refine J.w Y Y Y Y Y Y Y Y Y (tH o a b v) ?_;refine .B ?_;rw[ak hlt (by omega)];exact T.K ih
   ·rw[D2 h5]at ih;refine .B ?_;refine .Z ?_;refine J.aR Y Y Y Y Y Y Y Y Y Y Y Y Y Y Y Y Y Y Y (by omega) ?_;refine .B ?_;rw[ak hlt (by omega)];exact T.K ih
 ·refine .B ?_;refine T.cf2 Y bA ?_;refine .B ?_;exact⟨_,.o Y Y Y (λ_=> .inl Y) (by simp) .nil⟩
def aA (d:List (Int×Int)):Prop:=(∀r∈d,r.1<=r.2)/\d.Pairwise λr s=>r.2+2<=s.1
def Up (l:List Int):Prop:=l.Pairwise (· < ·)
theorem cF {lo hi v:Int}:v∈rng lo hi↔lo<=v/\v<=hi:=by
 simp only[rng,DF,DM];constructor;·rintro⟨k,hk,rfl⟩;omega
 ·intro h;exact⟨(v-lo).toNat,by omega,by omega⟩
theorem aT {d:List (Int×Int)}{v:Int}:v∈vals d↔∃r∈d,r.1<=v/\v<=r.2:=by
 simp only[vals,FG,cF]
theorem tq {lo x:Int}(h:lo<=x+1):rng lo (x+1)=rng lo x++[x+1]:=by
 unfold rng;rw[show(x+1+1-lo).toNat=(x+1-lo).toNat+1 by omega,G0,EC];simp;omega
theorem bl (x:Int):rng x x=[x]:=by
 unfold rng;rw[show(x+1-x).toNat=1 by omega];simp[G0]
theorem gJ {lo hi:Int}(h:lo<=hi):rng lo hi=lo::rng (lo+1) hi:=by
 unfold rng;rw[show(hi+1-lo).toNat=(hi+1-(lo+1)).toNat+1 by omega,List.range_succ_eq_map,DZ,F3];simp only[Int.natCast_zero,Int.add_zero,List.cons.injEq,true_and];apply EJ;intro a _;simp;omega
theorem zS {lo hi:Int}(h:hi<lo):rng lo hi=[]:=by
 unfold rng;rw[show(hi+1-lo).toNat=0 by omega];rfl
theorem Ca (lo hi:Int):Up (rng lo hi):=by
 unfold Up rng;rw[H0];exact List.pairwise_lt_range.imp λh=>by omega
theorem aA.tail {r:Int×Int}{d:List (Int×Int)}(h:aA (r::d)):aA d:=⟨λs hs=>h.1 s (.tail _ hs),(Dm.1 h.2).2⟩
theorem bj (r:Int×Int)(d:List (Int×Int)):vals (r::d)=rng r.1 r.2++vals d:=rfl
theorem aF: ∀{d:List (Int×Int)},aA d->Up (vals d)
 | [],_=> .nil
 |r::d,h=>by
  rw[bj];refine F4.2 ⟨Ca _ _,aF h.tail,λa ha b hb=> ?_⟩;obtain⟨s,hs,h1,h2⟩:=aT.1 hb;have:=(cF.1 ha).2;have:=(Dm.1 h.2).1 s hs;omega
theorem kd: ∀(l:List Int) (lo x:Int),lo<=x->Up (x::l)->vals (dO lo x l)=rng lo x++l
 | [],lo,x,_,_=>by simp[dO,vals]
 |y::l,lo,x,hlo,hu=>by
  have h1:=Dm.1 hu;have hxy:=h1.1 y (.head _);simp only[dO];split
  ·rename_i e;rw[kd l lo y (by omega) h1.2,e,tq (by omega)];simp
  ·rw[bj,kd l y y (EN _) h1.2,bl];simp
theorem bJ {l:List Int}(h:Up l):vals (cX l)=l:=by
 cases l with
 |nil=>rfl
 |cons x l=>rw[cX,kd l x x (EN _) h,bl];rfl
theorem oH: ∀(l:List Int) (lo x:Int),lo<=x->Up (x::l)->aA (dO lo x l)/\∀r∈dO lo x l,lo<=r.1
 | [],lo,x,h,_=>by simp[dO,aA,h]
 |y::l,lo,x,hlo,hu=>by
  have h1:=Dm.1 hu;have hxy:=h1.1 y (.head _);simp only[dO];split;·exact oH l lo y (by omega) h1.2
  ·obtain⟨h2,h3⟩:=oH l y y (EN _) h1.2;refine⟨⟨λr hr=> ?_,Dm.2 ⟨λr hr=> ?_,h2.2⟩⟩,λr hr=> ?_⟩
   ·rcases DO.1 hr with rfl|hr;·exact hlo
    ·exact h2.1 r hr
   ·have:=h3 r hr;simp only;omega
   ·rcases DO.1 hr with rfl|hr;·exact EN _
    ·have:=h3 r hr;omega
theorem gp {l:List Int}(h:Up l):aA (cX l):=by
 cases l with
 |nil=>exact⟨by simp[cX],.nil⟩
 |cons x l=>exact(oH l x x (EN _) h).1
theorem qv: ∀(n:Nat) (lo x hi:Int) (l:List Int),hi=x+n->(∀y∈l.head?,hi+2<=y)->dO lo x (rng (x+1) hi++l)=(lo,hi)::cX l
 |0,lo,x,hi,l,e,h=>by
  have:hi=x:=(by omega);subst this;rw[zS (by omega),Ea];cases l with
  |nil=>rfl
  |cons y l=>
   have:=h y Y;simp only[dO];rw[D2 (by omega)];rfl
 |n+1,lo,x,hi,l,e,h=>by
  rw[gJ (by omega),Ei,dO,D4 Y];exact qv n lo (x+1) hi l (by omega) h
theorem eK: ∀{d:List (Int×Int)},aA d->cX (vals d)=d
 | [],_=>rfl
 |r::d,h=>by
  have hr:=h.1 r (.head _);rw[bj,gJ hr,Ei,cX,qv (r.2-r.1).toNat r.1 r.1 r.2 (vals d) (by omega) ?_,eK h.tail];intro y hy;have hm:y∈vals d:=List.mem_of_mem_head? hy;obtain⟨s,hs,h1,h2⟩:=aT.1 hm;have:=(Dm.1 h.2).1 s hs;omega
theorem iC {d d':List (Int×Int)}(h:aA d)(h':aA d')(e:vals d=vals d'):d=d':=by
 rw[<-eK h,<-eK h',e]
theorem xP {v:Int}: ∀{l:List Int},Up l->v∉l->Up (mA v l)
 | [],_,_=>by simp[mA,Up]
 |x::l,h,hn=>by
  have h1:=Dm.1 h;simp only[mA];split
  ·refine Dm.2 ⟨λy hy=> ?_,h⟩;rcases DO.1 hy with rfl|hy;·assumption
   ·have:=h1.1 y hy;omega
  ·refine Dm.2 ⟨λy hy=> ?_,xP h1.2 λh=>hn (.tail _ h)⟩;have hm:y∈insU v l:=(by unfold insU;rw[D2 (show¬v∈l from λh=>hn (.tail _ h))];exact hy);rcases (uB v y l).1 hm with rfl|hy
   ·have:y≠x:=λe=>hn (e▸.head _);omega
   ·exact h1.1 y hy
theorem BD {v:Int}{l:List Int}(h:Up l):Up (insU v l):=by
 unfold insU;split;·exact h
 ·rename_i hn;exact xP h hn
theorem b9 (l:List Int):Up (aW l):=by
 have key: ∀(l out:List Int),Up out->Up (l.foldl (λout v=>insU v out) out):=by
  intro l
  induction l with
  |nil=>intro out h;exact h
  |cons v l ih=>intro out h;exact ih _ (BD h)
 exact key l [] .nil
theorem fJ {l:List Int}{p:Int->Bool}(h:Up l):Up (l.filter p):=List.Pairwise.sublist List.filter_sublist h
theorem dA {l:List Int}(h:Up l):l.Nodup:=h.imp λh=>Int.ne_of_lt h
theorem fg {d:List (Int×Int)}(h:aA d):vals d=[]↔d=[]:=by
 cases d with
 |nil=>simp[vals]
 |cons r d=>
  rw[bj,gJ (h.1 r (.head _))];simp
theorem lY {r:Int×Int}{d:List (Int×Int)}(h:aA (r::d)): ∃l,vals (r::d)=r.1::l:=by
 rw[bj,gJ (h.1 r (.head _))];exact⟨_,rfl⟩
theorem lX {d:List (Int×Int)}(h:aA d)(hne:d≠[]):(vals d).getLast? =some (aN d):=by
 obtain⟨d',r,rfl⟩: ∃d' r,d=d'++[r]:=⟨d.dropLast,d.getLast hne,(List.dropLast_concat_getLast hne).symm⟩;have hr:=h.1 r (by simp);have e:vals (d'++[r])=vals d'++rng r.1 r.2:=(by simp[vals]);rw[e];have e2:rng r.1 r.2=rng r.1 (r.2-1)++[r.2]:=by
  have:=tq (lo:=r.1) (x:=r.2-1) (by omega);rwa[show r.2-1+1=r.2 by omega]at this
 rw[e2,<-E4];simp[aN]
theorem AN {d:List (Int×Int)}(h:aA d)(hne:d≠[]):pw d=(az d,aN d,true):=by
 cases d with
 |nil=>exact DU rfl hne
 |cons r d=>
  obtain⟨l,hl⟩:=lY h;have hlast:=lX h hne;unfold pw;split;·rename_i e;rw[hl]at e;cases e
  ·rename_i x l' e;rw[hl]at e;obtain⟨rfl,rfl⟩:=List.cons.inj e;rw[hl,Gd (by simp)]at hlast;simp only[D6]at hlast;rw[hlast];rfl
theorem fH {d:List (Int×Int)}(h:aA d)(hne:d≠[]):az d∈vals d:=by
 cases d with
 |nil=>exact DU rfl hne
 |cons r d=>obtain⟨l,hl⟩:=lY h;rw[hl];exact .head _
theorem o6 {d:List (Int×Int)}(h:aA d)(hne:d≠[]):aN d∈vals d:=List.mem_of_getLast? (lX h hne)
theorem o5 {d:List (Int×Int)}(h:aA d){v:Int}(hv:v∈vals d):az d<=v:=by
 cases d with
 |nil=>simp[vals]at hv
 |cons r d=>
  obtain⟨l,hl⟩:=lY h;have hu:=aF h;rw[hl]at hu hv;rcases DO.1 hv with rfl|hv;·exact EN _
  ·exact Int.le_of_lt ((Dm.1 hu).1 v hv)
theorem nM {d:List (Int×Int)}(h:aA d){v:Int}(hv:v∈vals d):v<=aN d:=by
 have hne:d≠[]:=λe=>(by rw[e]at hv;simp[vals]at hv);have hu:=aF h;obtain⟨l,hl⟩: ∃l,vals d=l++[aN d]:=by
  have:=lX h hne;obtain⟨l,hl⟩:=List.getLast?_eq_some_iff.1 this;exact⟨l,hl⟩
 rw[hl]at hu hv;rcases DT.1 hv with hv|hv;·exact Int.le_of_lt ((F4.1 hu).2.2 v hv _ (by simp))
 ·simp at hv;omega
theorem dG: ∀{l l':List Int},Up l->Up l'->(∀v,v∈l↔v∈l')->l=l'
 | [],[],_,_,_=>rfl
 | [],y::l',_,_,h=>by have:=(h y).2 (.head _);cases this
 |x::l,[],_,_,h=>by have:=(h x).1 (.head _);cases this
 |x::l,y::l',h1,h2,h=>by
  have a1:=Dm.1 h1;have a2:=Dm.1 h2;have e:x=y:=by
   rcases DO.1 ((h x).1 (.head _))with e|e;·exact e
   ·rcases DO.1 ((h y).2 (.head _))with e2|e2;·exact e2.symm
    ·have:=a2.1 x e;have:=a1.1 y e2;omega
  subst e;congr 1;refine dG a1.2 a2.2 λv=>⟨λhv=> ?_,λhv=> ?_⟩
  ·rcases DO.1 ((h v).1 (.tail _ hv))with rfl|h3;·have:=a1.1 v hv;omega
   ·exact h3
  ·rcases DO.1 ((h v).2 (.tail _ hv))with rfl|h3;·have:=a2.1 v hv;omega
   ·exact h3
theorem oS {lo hi:Int}: ∀{d:List (Int×Int)},aA d->aA (bB d [(lo,hi)])/\(∀r∈bB d [(lo,hi)],∃s∈d,s.1<=r.1/\r.2<=s.2)/\∀v,v∈vals (bB d [(lo,hi)])↔v∈vals d/\lo<=v/\v<=hi
 | [],_=>by rw[nL];exact⟨⟨by simp,.nil⟩,by simp,by simp[vals]⟩
 |x::d,h=>by
  obtain⟨h1,h2,h3⟩:=oS (lo:=lo) (hi:=hi) h.tail;have hx:=h.1 x (.head _);have hp:=(Dm.1 h.2).1;have hvd: ∀v∈vals d,x.2+2<=v:=λv hv=>by
   obtain⟨s,hs,h4,h5⟩:=aT.1 hv;have:=hp s hs;omega
  rw[im,nK];have tailOk:aA (if x.2<hi then bB d [(lo,hi)]else [])/\(∀r∈(if x.2<hi then bB d [(lo,hi)]else []),∃s∈d,s.1<=r.1/\r.2<=s.2)/\∀v,v∈vals (if x.2<hi then bB d [(lo,hi)]else [])↔v∈vals d/\lo<=v/\v<=hi:=by
   split;·exact⟨h1,h2,h3⟩
   ·refine⟨⟨by simp,.nil⟩,by simp,λv=>⟨λh=>by simp[vals]at h,λh=> ?_⟩⟩;have:=hvd v h.1;omega
  generalize (if x.2<hi then bB d [(lo,hi)]else [])=t at*;obtain⟨t1,t2,t3⟩:=tailOk;split
  ·rename_i hc;refine⟨⟨λr hr=> ?_,?_⟩,λr hr=> ?_,λv=> ?_⟩
   ·rcases DO.1 hr with rfl|hr;·exact hc
    ·exact t1.1 r hr
   ·refine Dm.2 ⟨λr hr=> ?_,t1.2⟩;obtain⟨s,hs,h5,h6⟩:=t2 r hr;have:=hp s hs;simp only;omega
   ·rcases DO.1 hr with rfl|hr;·exact⟨x,.head _,by simp only;omega,by simp only;omega⟩
    ·obtain⟨s,hs,h5,h6⟩:=t2 r hr;exact⟨s,.tail _ hs,h5,h6⟩
   ·rw[List.singleton_append,bj,bj,DT,DT,cF,cF,t3];constructor
    ·rintro(h7|h7);·exact⟨.inl (by omega),by omega,by omega⟩
     ·exact⟨.inr h7.1,h7.2⟩
    ·rintro⟨h7|h7,h8⟩;·exact .inl (by simp only;omega)
     ·exact .inr ⟨h7,h8⟩
  ·rename_i hc;rw[Ea];refine⟨t1,λr hr=> ?_,λv=> ?_⟩
   ·obtain⟨s,hs,h5,h6⟩:=t2 r hr;exact⟨s,.tail _ hs,h5,h6⟩
   ·rw[bj,DT,cF,t3];constructor;·exact λh7=>⟨.inr h7.1,h7.2⟩
    ·rintro⟨h7|h7,h8⟩;·omega
     ·exact⟨h7,h8⟩
theorem bQ {d:List (Int×Int)}(h:aA d)(lo hi:Int):aA (domCut d lo hi)/\∀v,v∈vals (domCut d lo hi)↔v∈vals d/\lo<=v/\v<=hi:=by
 unfold domCut;split;·exact⟨⟨by simp,.nil⟩,λv=>⟨λh=>by simp[vals]at h,λh=>by omega⟩⟩
 ·exact⟨(oS h).1,(oS h).2.2⟩
theorem lg {d:List (Int×Int)}(h:aA d):(vals d).length=1↔∃x,d=[(x,x)]:=by
 constructor
 ·intro hl;obtain⟨x,hx⟩:=Fa.1 hl;exact⟨x,by rw[<-eK h,hx];rfl⟩
 ·rintro⟨x,rfl⟩;rw[bj,bl];rfl
theorem qQ {d:List (Int×Int)}(h:aA d):(d≠[]/\az d=aN d)↔∃x,d=[(x,x)]:=by
 constructor
 ·rintro⟨hne,he⟩;refine(lg h).1 ?_;have hu:=aF h;have hm:=fH h hne;cases hv:vals d with
  |nil=>rw[hv]at hm;cases hm
  |cons y l=>
   cases l with
   |nil=>rfl
   |cons z l=>
    have h1:=o5 h (v:=y) (by rw[hv];simp);have h2:=nM h (v:=z) (by rw[hv];simp);rw[hv]at hu;have:=(Dm.1 hu).1 z (by simp);omega
 ·rintro⟨x,rfl⟩;exact⟨by simp,rfl⟩
theorem wG {a b:Int}{da db:List (Int×Int)}(ha:aA da)(hb:aA db):gB a b da db=true↔a=b∨((vals da).length=1/\da=db):=by
 simp only[gB,Ey,DJ,DN,ofD,Prod.mk.injEq];refine or_congr_right ⟨?_,?_⟩
 ·rintro⟨⟨⟨h1,h2⟩,h3⟩,h4,h5⟩;obtain⟨x,rfl⟩:=(qQ ha).1 ⟨Fm h1,h3⟩;obtain⟨y,rfl⟩:=(qQ hb).1 ⟨Fm h2,by omega⟩;refine⟨(lg ha).2 ⟨x,rfl⟩,?_⟩;have:x=y:=h4;rw[this]
 ·rintro⟨h1,rfl⟩;obtain⟨x,rfl⟩:=(lg ha).1 h1;exact⟨⟨⟨by simp,by simp⟩,rfl⟩,rfl,rfl⟩
theorem BL {d:List (Int×Int)}(h:aA d)(hv: ∀v∈vals d,-1048576<=v/\v<=1048576):InB d:=by
 intro r hr;have h1:=h.1 r hr;have h2:=hv r.1 (aT.2 ⟨r,hr,EN _,h1⟩);have h3:=hv r.2 (aT.2 ⟨r,hr,h1,EN _⟩);omega
theorem bH: ∀{d:List (Int×Int)},aA d->d.length<=(vals d).length
 | [],_=>by simp
 |r::d,h=>by
  have:=bH h.tail;have hr:=h.1 r (.head _);rw[bj,gJ hr];simp only[Dp,DX];omega
structure Fine (d:List (Int×Int)):Prop where
 ok:aA d
 val: ∀v∈vals d,-1048576<=v/\v<=1048576
 few:(vals d).length*16+1048576<=140737488355328
theorem Fine.domB {d:List (Int×Int)}(h:Fine d):DomB d:=⟨BL h.ok h.val,by have:=h.few;omega,by have:=h.few;have:=bH h.ok;omega⟩
theorem Fine.len {d:List (Int×Int)}(h:Fine d):d.length*16+1048576<=140737488355328:=by have:=h.few;have:=bH h.ok;omega
theorem bS {l l':List Int}(h:Up l)(hs: ∀v∈l,v∈l'):l.length<=l'.length:=(dA h).length_le_of_subset hs
theorem Fine.cut {d d':List (Int×Int)}(h:Fine d)(h':aA d')(hs: ∀v∈vals d',v∈vals d):Fine d':=
 ⟨h',λv hv=>h.val v (hs v hv),by have:=h.few;have:=bS (aF h') hs;omega⟩
theorem jS {p:Nat->Bool}{h j:Nat}(hj:j<e7 p h):p j=true:=by
 unfold e7 at hj;cases hf:(List.range h).find? (λk=> !p k)with
 |none=>
  rw[hf]at hj;have:=FS.1 hf j (DM.2 (by simpa using hj));simpa using this
 |some k=>
  rw[hf]at hj;have:=(FA.1 hf).2.2 j (by simpa using hj);simpa using this
theorem mY {p:Nat->Bool}{h:Nat}(hlt:e7 p h<h):p (e7 p h)=false:=by
 unfold e7 at hlt⊢;cases hf:(List.range h).find? (λk=> !p k)with
 |none=>rw[hf]at hlt;simp at hlt
 |some k=>
  have:=(FA.1 hf).1;simpa using this
theorem sC {d:aa}{c:Con}(hc:ConB c)(h:conR d c=0):cN d c/\rightR d c=true:=by
 unfold conR at h;split at h;·cases h
 ·split at h;·cases h
  ·rename_i hu;split at h;·cases h
   ·rename_i hr;exact⟨(rF hc (by simpa using hu)).1,by simpa using hr⟩
end Go.Proofs.YtopcjbahjjhdmaaGreat
